/- How the scripts of a group are reckoned: by the kernel, from the functions' forms. No conditions. -/
import Derived.Test.YticdjkkcfdbdcaaWgM
namespace Go.Proofs.Yticdjkkcfdbdcaa
open Go.Conc Go.ConcN

theorem qstep_offers {P : Program} {X : Exts} {main : Bool} {g g' : Goroutine} {l : List Mark} (h : qstep P X main g = some (g', l)) : g'.offers = none := by
  unfold qstep at h
  split at h
  · cases h
  split at h
  · unfold qexec at h
    split at h
    · cases h
    simp only at h
    split at h
    all_goals try (simp only [reduceCtorEq] at h; done)
    all_goals try (simp only [Option.some.injEq, Prod.mk.injEq] at h; obtain ⟨rfl, rfl⟩ := h; rfl)
    · split at h
      · simp only [Option.some.injEq, Prod.mk.injEq] at h; obtain ⟨rfl, rfl⟩ := h; rfl
      · cases h
    · rename_i id k _
      cases he : exitTo id k with
      | none => simp [he] at h
      | some k' => simp only [he, Option.elim_some, Option.some.injEq, Prod.mk.injEq] at h; obtain ⟨rfl, rfl⟩ := h; rfl
    · rename_i id k _
      cases he : gotoIn id k with
      | none => simp [he] at h
      | some k' => simp only [he, Option.elim_some, Option.some.injEq, Prod.mk.injEq] at h; obtain ⟨rfl, rfl⟩ := h; rfl
    · split at h
      · cases h
      · split at h
        · unfold qapply at h
          split at h
          · cases h
          · split at h <;> simp only [Option.some.injEq, Prod.mk.injEq, reduceCtorEq] at h
            all_goals (obtain ⟨rfl, rfl⟩ := h; rfl)
        · simp only [Option.some.injEq, Prod.mk.injEq] at h; obtain ⟨rfl, rfl⟩ := h; rfl
  · unfold qunwind at h
    split at h
    · cases h
    · split at h
      · split at h <;> simp only [Option.some.injEq, Prod.mk.injEq, reduceCtorEq] at h
        all_goals (obtain ⟨rfl, rfl⟩ := h; rfl)
      · cases h
    · split at h
      · split at h
        · cases h
        · split at h
          · obtain ⟨g1, h1, h2⟩ := Option.map_eq_some_iff.1 h
            simp only [Prod.mk.injEq] at h2
            obtain ⟨rfl, rfl⟩ := h2
            unfold qreturn at h1
            split at h1
            · split at h1
              · simp only [Option.some.injEq] at h1; subst h1; rfl
              · simp only [Option.some.injEq] at h1; subst h1; rfl
              · split at h1 <;> simp only [Option.some.injEq, reduceCtorEq] at h1 <;> (subst h1; rfl)
              · cases h1
            · split at h1
              · cases h1
              · split at h1 <;> simp only [Option.some.injEq, reduceCtorEq] at h1 <;> (subst h1; rfl)
          · cases h
      · split at h
        · split at h <;> simp only [Option.some.injEq, Prod.mk.injEq, reduceCtorEq] at h
          obtain ⟨rfl, rfl⟩ := h; rfl
        · cases h
      · cases h
/-- On as far as nothing is said and no more of memory is looked at than shapes; and of which blocks. -/
def wgo (P : Program) (X : Exts) (main : Bool) (sh : TypeId × Nat) : Nat → Goroutine → Goroutine × List Nat
  | 0, g => (g, [])
  | n + 1, g =>
    if g.offers.isSome then (g, []) else
    match qstep P X main g with
    | some (g', l) => match seen P g.frame.fn (l.map markEv).toArray with
      | ⟨[]⟩ => wgo P X main sh n g'
      | _ => (g, [])
    | none => match astep P X g undef (some sh) with
      | some a => match a.g with
        | some g' => if a.run.rd.isEmpty && a.run.st.isNone && a.run.frz.isEmpty && (seen P g.frame.fn a.run.evs.toArray).isEmpty then (match wgo P X main sh n g' with | (r, l) => (r, a.run.asks ++ l)) else (g, [])
        | none => (g, [])
      | none => (g, [])
theorem astep_offers {P : Program} {X : Exts} {g g' : Goroutine} {v : Value} {sh : Option (TypeId × Nat)} {a : AStep} (h : astep P X g v sh = some a) (hg : a.g = some g') : g'.offers = none := by
  unfold astep at h
  split at h
  · cases h
  split at h
  · split at h
    · cases h
    · split at h
      · split at h
        · split at h <;> simp only [Option.some.injEq, reduceCtorEq] at h
          · subst h; simp only [Option.some.injEq] at hg; subst hg; rfl
          · subst h; cases hg
        · cases h
      · cases h
  · cases h
theorem wgo_qr (P : Program) {X : Exts} (hX : ExtOk P X) (main : Bool) (ty Wg : Nat) : ∀ (n : Nat) (g : Goroutine), (∀ b ∈ (wgo P X main (ty, 2) n g).2, b = Wg) → QR P ty Wg main g (wgo P X main (ty, 2) n g).1
  | 0, g, _ => .refl g
  | n + 1, g, hb => by
    unfold wgo at hb ⊢
    split at hb
    · rename_i ho; rw [if_pos ho]; exact .refl g
    · rename_i ho
      rw [if_neg ho]
      have ho' : g.offers = none := by simpa using ho
      split at hb
      · rename_i g' l h
        split at hb
        · rename_i hs
          obtain ⟨hr, hst⟩ := qstep_step hX h
          exact .step hr (qstep_offers h) (fun w _ => by rw [hst w, hs]) (wgo_qr P hX main ty Wg n g' hb)
        · exact .refl g
      · rename_i h
        split at hb
        · rename_i a ha
          split at hb
          · rename_i g' hg
            split at hb
            · rename_i hc
              try rw [if_pos hc]
              simp only [Bool.and_eq_true, List.isEmpty_iff, Option.isNone_iff_eq_none, Array.isEmpty_iff] at hc
              obtain ⟨⟨⟨c1, c2⟩, c3⟩, c4⟩ := hc
              refine .step (g1 := g') ?_ (astep_offers ha hg) (fun w hw => ?_) (wgo_qr P hX main ty Wg n g' (fun b hb' => hb b (by simp [hb'])))
              · unfold astep at ha
                split at ha
                · cases ha
                · rename_i hx
                  simp only [Bool.or_eq_true, not_or, bne_iff_ne, ne_eq, Decidable.not_not] at hx
                  exact hx.1.1.2
              · obtain ⟨_, hst⟩ := astep_step hX ha ho' main w ⟨(fun x hx => by rw [c1] at hx; cases hx), (fun x hx => by rw [hb x (by simp [hx])]; exact hw), (fun x hx => by rw [c3] at hx; cases hx), (fun x y hx => by rw [c2] at hx; cases hx)⟩
                rw [hg] at hst
                simp only at hst
                rw [hst, c4]
                simp [ARun.world, c2]
            · rename_i hc; try rw [if_neg hc]
              exact .refl g
          · exact .refl g
        · exact .refl g
def qone (P : Program) (X : Exts) (main : Bool) (g : Goroutine) : Goroutine := ((qstep P X main g).map (·.1)).getD g
def qevs (P : Program) (X : Exts) (main : Bool) (g : Goroutine) : Option (Array Event) := (qstep P X main g).map fun r => seen P g.frame.fn (r.2.map markEv).toArray
theorem es_of {P : Program} {X : Exts} (hX : ExtOk P X) {main : Bool} {g : Goroutine} {e : Event} (h : qevs P X main g = some #[e]) : ES P main g e (qone P X main g) := by
  unfold qevs at h
  obtain ⟨⟨g', l⟩, h1, h2⟩ := Option.map_eq_some_iff.1 h
  obtain ⟨h3, h4⟩ := qstep_step hX h1
  have e1 : qone P X main g = g' := by simp [qone, h1]
  rw [e1]
  exact ⟨h3, qstep_offers h1, fun w => by rw [h4 w, h2]⟩
def aget (P : Program) (X : Exts) (g : Goroutine) (v : Value) (sh : Option (TypeId × Nat)) : AStep := (astep P X g v sh).getD ⟨⟨[], [], [], [], none, none⟩, none⟩
def anext (P : Program) (X : Exts) (g : Goroutine) (v : Value) (sh : Option (TypeId × Nat)) : Goroutine := (aget P X g v sh).g.getD g
/-- All that is looked at of an atomic step. -/
def alook (P : Program) (X : Exts) (g : Goroutine) (v : Value) (sh : Option (TypeId × Nat)) : Bool × List Addr × List Nat × List Addr × Option (Addr × Value) × Array Event × Bool :=
  match astep P X g v sh with
  | some a => (true, a.run.rd, a.run.asks, a.run.frz, a.run.st, seen P g.frame.fn a.run.evs.toArray, a.g.isSome)
  | none => (false, [], [], [], none, #[], false)
theorem wg_cell0 {ty : TypeId} {Wg : Nat} {w : World} {st sm : Int} (h : WgIs ty Wg w st sm) : w.cell? (stW Wg) = some (.int .u64 st) := by
  have h' : w.heap[(stW Wg).block]? = some (.cells #[.int .u64 st, .int .u32 sm] ty) := h
  simp only [World.cell?, h']
  simp [stW]
theorem wg_cell1 {ty : TypeId} {Wg : Nat} {w : World} {st sm : Int} (h : WgIs ty Wg w st sm) : w.cell? (smW Wg) = some (.int .u32 sm) := by
  have h' : w.heap[(smW Wg).block]? = some (.cells #[.int .u64 st, .int .u32 sm] ty) := h
  simp only [World.cell?, h']
  simp [smW]
theorem wg_thaw {ty : TypeId} {Wg : Nat} {w : World} {st sm : Int} (h : WgIs ty Wg w st sm) (o : Nat) : w.frozen? ⟨Wg, o, none⟩ = false := by
  have h' : w.heap[(⟨Wg, o, none⟩ : Addr).block]? = some (.cells #[.int .u64 st, .int .u32 sm] ty) := h
  simp only [World.frozen?, h']
  simp
theorem wg_shape {ty : TypeId} {Wg : Nat} {w : World} {st sm : Int} (h : WgIs ty Wg w st sm) : w.shape? Wg = some (ty, 2) := by
  have h' : w.heap[Wg]? = some (.cells #[.int .u64 st, .int .u32 sm] ty) := h
  simp [World.shape?, h']
theorem wg_set0 {ty : TypeId} {Wg : Nat} {w : World} {st sm : Int} (h : WgIs ty Wg w st sm) (st' : Int) : WgIs ty Wg (w.setCell (stW Wg) (.int .u64 st')) st' sm ∧ WgTurn Wg w (w.setCell (stW Wg) (.int .u64 st')) := by
  have h' : w.heap[Wg]? = some (.cells #[.int .u64 st, .int .u32 sm] ty) := h
  refine ⟨?_, by simp [World.setCell], rfl, rfl, rfl, fun b hb => ?_⟩
  · show (World.setCell w (stW Wg) (.int .u64 st')).heap[Wg]? = _
    simp [World.setCell, Array.getElem?_modify, stW, h']
  · have : Wg ≠ b := fun e => hb e.symm
    simp [World.setCell, Array.getElem?_modify, stW, this]
theorem wg_set1 {ty : TypeId} {Wg : Nat} {w : World} {st sm : Int} (h : WgIs ty Wg w st sm) (sm' : Int) : WgIs ty Wg (w.setCell (smW Wg) (.int .u32 sm')) st sm' ∧ WgTurn Wg w (w.setCell (smW Wg) (.int .u32 sm')) := by
  have h' : w.heap[Wg]? = some (.cells #[.int .u64 st, .int .u32 sm] ty) := h
  refine ⟨?_, by simp [World.setCell], rfl, rfl, rfl, fun b hb => ?_⟩
  · show (World.setCell w (smW Wg) (.int .u32 sm')).heap[Wg]? = _
    simp [World.setCell, Array.getElem?_modify, smW, h']
  · have : Wg ≠ b := fun e => hb e.symm
    simp [World.setCell, Array.getElem?_modify, smW, this]
theorem anext_some {P : Program} {X : Exts} {g : Goroutine} {v : Value} {sh : Option (TypeId × Nat)} {l : List Addr} {b : List Nat} {f : List Addr} {s : Option (Addr × Value)} {es : Array Event} (h : alook P X g v sh = (true, l, b, f, s, es, true)) :
    ∃ a, astep P X g v sh = some a ∧ a.g = some (anext P X g v sh) ∧ a.run.rd = l ∧ a.run.asks = b ∧ a.run.frz = f ∧ a.run.st = s ∧ seen P g.frame.fn a.run.evs.toArray = es := by
  unfold alook at h
  split at h
  rotate_left
  · simp at h
  rename_i a ha
  simp only [Prod.mk.injEq, true_and] at h
  obtain ⟨h2, h3, h4, h5, h6, h7⟩ := h
  have e : aget P X g v sh = a := by simp [aget, ha]
  obtain ⟨g', hg'⟩ := Option.isSome_iff_exists.1 h7
  exact ⟨a, ha, by simp [anext, e, hg'], h2, h3, h4, h5, h6⟩
/-- A read of the state word. -/
theorem turns_read {P : Program} {X : Exts} (hX : ExtOk P X) {main : Bool} {ty : TypeId} {Wg : Nat} {g : Goroutine} {st : Int} {b : List Nat} {f : List Addr} (ho : g.offers = none) (hb : b = [] ∨ b = [Wg]) (hf : f = [] ∨ f = [stW Wg])
    (h : alook P X g (.int .u64 st) (some (ty, 2)) = (true, [stW Wg], b, f, none, #[rdE (stW Wg)], true)) (sm : Int) : Turns P main ty Wg g st sm st sm #[rdE (stW Wg)] (anext P X g (.int .u64 st) (some (ty, 2))) := by
  obtain ⟨a, h1, h2, h3, h4, h5, h6, h7⟩ := anext_some h
  intro w hw
  obtain ⟨_, hst⟩ := astep_step hX h1 ho main w ⟨fun x hx => by rw [h3] at hx; simp at hx; rw [hx]; exact wg_cell0 hw, fun x hx => by rw [h4] at hx; rcases hb with rfl | rfl <;> simp at hx; rw [hx]; exact wg_shape hw, fun x hx => by rw [h5] at hx; rcases hf with rfl | rfl <;> simp at hx; rw [hx]; exact wg_thaw hw 0, fun x y hx => by rw [h6] at hx; cases hx⟩
  rw [h2] at hst
  simp only at hst
  rw [h7] at hst
  refine ⟨w, by rw [hst]; simp [ARun.world, h6], hw, .refl _ _⟩
/-- A store to the state word, behind a read of it or not. -/
theorem turns_set {P : Program} {X : Exts} (hX : ExtOk P X) {main : Bool} {ty : TypeId} {Wg : Nat} {g : Goroutine} {st st' : Int} {es : Array Event} {l : List Addr} {b : List Nat} {f : List Addr} (ho : g.offers = none) (hl : l = [] ∨ l = [stW Wg]) (hb : b = [] ∨ b = [Wg]) (hf : f = [] ∨ f = [stW Wg])
    (h : alook P X g (.int .u64 st) (some (ty, 2)) = (true, l, b, f, some (stW Wg, .int .u64 st'), es, true)) (sm : Int) : Turns P main ty Wg g st sm st' sm es (anext P X g (.int .u64 st) (some (ty, 2))) := by
  obtain ⟨a, h1, h2, h3, h4, h5, h6, h7⟩ := anext_some h
  intro w hw
  obtain ⟨_, hst⟩ := astep_step hX h1 ho main w ⟨fun x hx => by rw [h3] at hx; rcases hl with rfl | rfl <;> simp at hx; rw [hx]; exact wg_cell0 hw, fun x hx => by rw [h4] at hx; rcases hb with rfl | rfl <;> simp at hx; rw [hx]; exact wg_shape hw, fun x hx => by rw [h5] at hx; rcases hf with rfl | rfl <;> simp at hx; rw [hx]; exact wg_thaw hw 0, fun x y hx => by rw [h6] at hx; cases hx; exact ⟨⟨_, wg_cell0 hw⟩, wg_thaw hw 0⟩⟩
  rw [h2] at hst
  simp only at hst
  rw [h7] at hst
  exact ⟨_, by rw [hst]; simp only [ARun.world, h6], wg_set0 hw st'⟩
/-- The semaphore's word. -/
theorem turns_sema {P : Program} {X : Exts} (hX : ExtOk P X) {main : Bool} {ty : TypeId} {Wg : Nat} {g : Goroutine} {sm sm' : Int} {es : Array Event} (ho : g.offers = none)
    (h : alook P X g (.int .u32 sm) none = (true, [smW Wg], [], [], some (smW Wg, .int .u32 sm'), es, true)) (st : Int) : Turns P main ty Wg g st sm st sm' es (anext P X g (.int .u32 sm) none) := by
  obtain ⟨a, h1, h2, h3, h4, h5, h6, h7⟩ := anext_some h
  intro w hw
  obtain ⟨_, hst⟩ := astep_step hX h1 ho main w ⟨fun x hx => by rw [h3] at hx; simp at hx; rw [hx]; exact wg_cell1 hw, fun x hx => by rw [h4] at hx; simp at hx, fun x hx => by rw [h5] at hx; simp at hx, fun x y hx => by rw [h6] at hx; cases hx; exact ⟨⟨_, wg_cell1 hw⟩, wg_thaw hw 1⟩⟩
  rw [h2] at hst
  simp only at hst
  rw [h7] at hst
  exact ⟨_, by rw [hst]; simp only [ARun.world, h6], wg_set1 hw sm'⟩
/-- Waiting at the semaphore. -/
theorem sema_blocks {P : Program} {X : Exts} (hX : ExtOk P X) {ty : TypeId} {Wg : Nat} {g : Goroutine} (ho : g.offers = none) (h : (astep P X g (.int .u32 0) none).map (fun a => (a.run.rd, a.run.asks, a.run.frz, a.run.st.isNone, a.g.isNone)) = some ([smW Wg], [], [], true, true)) :
    ∀ st w, WgIs ty Wg w st 0 → stepG P true g w = .go { g with status := .blocked } w #[] := by
  intro st w hw
  obtain ⟨a, h1, h2⟩ := Option.map_eq_some_iff.1 h
  simp only [Prod.mk.injEq, Option.isNone_iff_eq_none] at h2
  obtain ⟨h2, h3, h4, h5, h6⟩ := h2
  obtain ⟨_, hst⟩ := astep_step hX h1 ho true w ⟨fun x hx => by rw [h2] at hx; simp at hx; rw [hx]; exact wg_cell1 hw, fun x hx => by rw [h3] at hx; simp at hx, fun x hx => by rw [h4] at hx; simp at hx, fun x y hx => by rw [h5] at hx; cases hx⟩
  rw [h6] at hst
  simp only at hst
  rw [hst h5, seen_empty]
/-- A function's values from n - 1 on down; told twice, lest the kernel hold the two functions against each other. -/
def tab {α : Type} (f : Nat → α) : Nat → List α
  | 0 => []
  | n + 1 => f n :: tab f n
def tabR {α : Type} (f : Nat → α) : Nat → List α
  | 0 => []
  | n + 1 => f n :: tabR f n
theorem tab_all {α : Type} {f g : Nat → α} : ∀ {n : Nat}, tab f n = tabR g n → ∀ {v : Nat}, v < n → f v = g v
  | 0, _, v, hv => by omega
  | n + 1, h, v, hv => by
    simp only [tab, tabR, List.cons.injEq] at h
    by_cases e : v = n
    · subst e; exact h.1
    · exact tab_all h.2 (by omega)
theorem range_tests {n : Nat} {f : Nat → Bool} (h : (List.range n).all f = true) {v : Nat} (hv : v < n) : f v = true := List.all_eq_true.1 h v (List.mem_range.2 hv)
end Go.Proofs.Yticdjkkcfdbdcaa
