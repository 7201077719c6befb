/- How the scripts of a group are reckoned: by the kernel, from the functions' forms. No conditions. -/
import Derived.Test.YticdjkkcfdbdcaaWgM
import Derived.Test.YticdjkkcfdbdcaaQuiet
import Derived.Test.YticdjkkcfdbdcaaProg
import Derived.KernelRfl
namespace Go.Proofs.Yticdjkkcfdbdcaa
open Go.Conc Go.ConcN
theorem qstep_offers {P : Program} {X : Exts} {main : Bool} {g g' : Goroutine} {l : List Mark} (h : qstep P X main g = some (g', l)) : g'.offers = none := by
  unfold qstep at h
  split at h
  · cases h
  split at h
  · unfold qexec at h
    split at h
    · cases h
    simp only at h
    split at h
    all_goals try (simp only [reduceCtorEq] at h; done)
    all_goals try (simp only [Option.some.injEq, Prod.mk.injEq] at h; obtain ⟨rfl, rfl⟩ := h; rfl)
    · split at h
      · simp only [Option.some.injEq, Prod.mk.injEq] at h; obtain ⟨rfl, rfl⟩ := h; rfl
      · cases h
    · rename_i id k _
      cases he : exitTo id k with
      | none => simp [he] at h
      | some k' => simp only [he, Option.elim_some, Option.some.injEq, Prod.mk.injEq] at h; obtain ⟨rfl, rfl⟩ := h; rfl
    · rename_i id k _
      cases he : gotoIn id k with
      | none => simp [he] at h
      | some k' => simp only [he, Option.elim_some, Option.some.injEq, Prod.mk.injEq] at h; obtain ⟨rfl, rfl⟩ := h; rfl
    · split at h
      · cases h
      · split at h
        · unfold qapply at h
          split at h
          · cases h
          · split at h <;> simp only [Option.some.injEq, Prod.mk.injEq, reduceCtorEq] at h
            all_goals (obtain ⟨rfl, rfl⟩ := h; rfl)
        · simp only [Option.some.injEq, Prod.mk.injEq] at h; obtain ⟨rfl, rfl⟩ := h; rfl
  · unfold qunwind at h
    split at h
    · cases h
    · split at h
      · split at h <;> simp only [Option.some.injEq, Prod.mk.injEq, reduceCtorEq] at h
        all_goals (obtain ⟨rfl, rfl⟩ := h; rfl)
      · cases h
    · split at h
      · split at h
        · cases h
        · split at h
          · obtain ⟨g1, h1, h2⟩ := Option.map_eq_some_iff.1 h
            simp only [Prod.mk.injEq] at h2
            obtain ⟨rfl, rfl⟩ := h2
            unfold qreturn at h1
            split at h1
            · split at h1
              · simp only [Option.some.injEq] at h1; subst h1; rfl
              · simp only [Option.some.injEq] at h1; subst h1; rfl
              · split at h1 <;> simp only [Option.some.injEq, reduceCtorEq] at h1 <;> (subst h1; rfl)
              · cases h1
            · split at h1
              · cases h1
              · split at h1 <;> simp only [Option.some.injEq, reduceCtorEq] at h1 <;> (subst h1; rfl)
          · cases h
      · split at h
        · split at h <;> simp only [Option.some.injEq, Prod.mk.injEq, reduceCtorEq] at h
          obtain ⟨rfl, rfl⟩ := h; rfl
        · cases h
      · cases h
/-- On as far as nothing is said and no more of memory is looked at than shapes; and of which blocks. -/
def wgo (P : Program) (X : Exts) (main : Bool) (sh : TypeId × Nat) : Nat → Goroutine → Goroutine × List Nat
  | 0, g => (g, [])
  | n + 1, g =>
    if g.offers.isSome then (g, []) else
    match qstep P X main g with
    | some (g', l) => match seen P g.frame.fn (l.map markEv).toArray with
      | ⟨[]⟩ => wgo P X main sh n g'
      | _ => (g, [])
    | none => match astep P X g undef (some sh) with
      | some a => match a.g with
        | some g' => if a.run.rd.isEmpty && a.run.st.isNone && a.run.frz.isEmpty && (seen P g.frame.fn a.run.evs.toArray).isEmpty then (match wgo P X main sh n g' with | (r, l) => (r, a.run.asks ++ l)) else (g, [])
        | none => (g, [])
      | none => (g, [])
theorem astep_offers {P : Program} {X : Exts} {g g' : Goroutine} {v : Value} {sh : Option (TypeId × Nat)} {a : AStep} (h : astep P X g v sh = some a) (hg : a.g = some g') : g'.offers = none := by
  unfold astep at h
  split at h
  · cases h
  split at h
  · split at h
    · cases h
    · split at h
      · split at h
        · split at h <;> simp only [Option.some.injEq, reduceCtorEq] at h
          · subst h; simp only [Option.some.injEq] at hg; subst hg; rfl
          · subst h; cases hg
        · cases h
      · cases h
  · cases h
theorem wgo_qr (P : Program) {X : Exts} (hX : ExtOk P X) (main : Bool) (ty Wg : Nat) : ∀ (n : Nat) (g : Goroutine), (∀ b ∈ (wgo P X main (ty, 2) n g).2, b = Wg) → QR P ty Wg main g (wgo P X main (ty, 2) n g).1
  | 0, g, _ => .refl g
  | n + 1, g, hb => by
    unfold wgo at hb ⊢
    split at hb
    · rename_i ho; rw [if_pos ho]; exact .refl g
    · rename_i ho
      rw [if_neg ho]
      have ho' : g.offers = none := by simpa using ho
      split at hb
      · rename_i g' l h
        split at hb
        · rename_i hs
          obtain ⟨hr, hst⟩ := qstep_step hX h
          exact .step hr (qstep_offers h) (fun w _ => by rw [hst w, hs]) (wgo_qr P hX main ty Wg n g' hb)
        · exact .refl g
      · rename_i h
        split at hb
        · rename_i a ha
          split at hb
          · rename_i g' hg
            split at hb
            · rename_i hc
              try rw [if_pos hc]
              simp only [Bool.and_eq_true, List.isEmpty_iff, Option.isNone_iff_eq_none, Array.isEmpty_iff] at hc
              obtain ⟨⟨⟨c1, c2⟩, c3⟩, c4⟩ := hc
              refine .step (g1 := g') ?_ (astep_offers ha hg) (fun w hw => ?_) (wgo_qr P hX main ty Wg n g' (fun b hb' => hb b (by simp [hb'])))
              · unfold astep at ha
                split at ha
                · cases ha
                · rename_i hx
                  simp only [Bool.or_eq_true, not_or, bne_iff_ne, ne_eq, Decidable.not_not] at hx
                  exact hx.1.1.2
              · obtain ⟨_, hst⟩ := astep_step hX ha ho' main w ⟨(fun x hx => by rw [c1] at hx; cases hx), (fun x hx => by rw [hb x (by simp [hx])]; exact hw), (fun x hx => by rw [c3] at hx; cases hx), (fun x y hx => by rw [c2] at hx; cases hx)⟩
                rw [hg] at hst
                simp only at hst
                rw [hst, c4]
                simp [ARun.world, c2]
            · rename_i hc; try rw [if_neg hc]
              exact .refl g
          · exact .refl g
        · exact .refl g
def qone (P : Program) (X : Exts) (main : Bool) (g : Goroutine) : Goroutine := ((qstep P X main g).map (·.1)).getD g
def qevs (P : Program) (X : Exts) (main : Bool) (g : Goroutine) : Option (Array Event) := (qstep P X main g).map fun r => seen P g.frame.fn (r.2.map markEv).toArray
theorem es_of {P : Program} {X : Exts} (hX : ExtOk P X) {main : Bool} {g : Goroutine} {e : Event} (h : qevs P X main g = some #[e]) : ES P main g e (qone P X main g) := by
  unfold qevs at h
  obtain ⟨⟨g', l⟩, h1, h2⟩ := Option.map_eq_some_iff.1 h
  obtain ⟨h3, h4⟩ := qstep_step hX h1
  have e1 : qone P X main g = g' := by simp [qone, h1]
  rw [e1]
  exact ⟨h3, qstep_offers h1, fun w => by rw [h4 w, h2]⟩
def aget (P : Program) (X : Exts) (g : Goroutine) (v : Value) (sh : Option (TypeId × Nat)) : AStep := (astep P X g v sh).getD ⟨⟨[], [], [], [], none, none⟩, none⟩
def anext (P : Program) (X : Exts) (g : Goroutine) (v : Value) (sh : Option (TypeId × Nat)) : Goroutine := (aget P X g v sh).g.getD g
/-- All that is looked at of an atomic step. -/
def alook (P : Program) (X : Exts) (g : Goroutine) (v : Value) (sh : Option (TypeId × Nat)) : Bool × List Addr × List Nat × List Addr × Option (Addr × Value) × Array Event × Bool :=
  match astep P X g v sh with
  | some a => (true, a.run.rd, a.run.asks, a.run.frz, a.run.st, seen P g.frame.fn a.run.evs.toArray, a.g.isSome)
  | none => (false, [], [], [], none, #[], false)
theorem wg_cell0 {ty : TypeId} {Wg : Nat} {w : World} {st sm : Int} (h : WgIs ty Wg w st sm) : w.cell? (stW Wg) = some (.int .u64 st) := by
  have h' : w.heap[(stW Wg).block]? = some (.cells #[.int .u64 st, .int .u32 sm] ty) := h
  simp only [World.cell?, h']
  simp [stW]
theorem wg_cell1 {ty : TypeId} {Wg : Nat} {w : World} {st sm : Int} (h : WgIs ty Wg w st sm) : w.cell? (smW Wg) = some (.int .u32 sm) := by
  have h' : w.heap[(smW Wg).block]? = some (.cells #[.int .u64 st, .int .u32 sm] ty) := h
  simp only [World.cell?, h']
  simp [smW]
theorem wg_thaw {ty : TypeId} {Wg : Nat} {w : World} {st sm : Int} (h : WgIs ty Wg w st sm) (o : Nat) : w.frozen? ⟨Wg, o, none⟩ = false := by
  have h' : w.heap[(⟨Wg, o, none⟩ : Addr).block]? = some (.cells #[.int .u64 st, .int .u32 sm] ty) := h
  simp only [World.frozen?, h']
  simp
theorem wg_shape {ty : TypeId} {Wg : Nat} {w : World} {st sm : Int} (h : WgIs ty Wg w st sm) : w.shape? Wg = some (ty, 2) := by
  have h' : w.heap[Wg]? = some (.cells #[.int .u64 st, .int .u32 sm] ty) := h
  simp [World.shape?, h']
theorem wg_set0 {ty : TypeId} {Wg : Nat} {w : World} {st sm : Int} (h : WgIs ty Wg w st sm) (st' : Int) : WgIs ty Wg (w.setCell (stW Wg) (.int .u64 st')) st' sm ∧ WgTurn Wg w (w.setCell (stW Wg) (.int .u64 st')) := by
  have h' : w.heap[Wg]? = some (.cells #[.int .u64 st, .int .u32 sm] ty) := h
  refine ⟨?_, by simp [World.setCell], rfl, rfl, rfl, fun b hb => ?_⟩
  · show (World.setCell w (stW Wg) (.int .u64 st')).heap[Wg]? = _
    simp [World.setCell, Array.getElem?_modify, stW, h']
  · have : Wg ≠ b := fun e => hb e.symm
    simp [World.setCell, Array.getElem?_modify, stW, this]
theorem wg_set1 {ty : TypeId} {Wg : Nat} {w : World} {st sm : Int} (h : WgIs ty Wg w st sm) (sm' : Int) : WgIs ty Wg (w.setCell (smW Wg) (.int .u32 sm')) st sm' ∧ WgTurn Wg w (w.setCell (smW Wg) (.int .u32 sm')) := by
  have h' : w.heap[Wg]? = some (.cells #[.int .u64 st, .int .u32 sm] ty) := h
  refine ⟨?_, by simp [World.setCell], rfl, rfl, rfl, fun b hb => ?_⟩
  · show (World.setCell w (smW Wg) (.int .u32 sm')).heap[Wg]? = _
    simp [World.setCell, Array.getElem?_modify, smW, h']
  · have : Wg ≠ b := fun e => hb e.symm
    simp [World.setCell, Array.getElem?_modify, smW, this]
theorem anext_some {P : Program} {X : Exts} {g : Goroutine} {v : Value} {sh : Option (TypeId × Nat)} {l : List Addr} {b : List Nat} {f : List Addr} {s : Option (Addr × Value)} {es : Array Event} (h : alook P X g v sh = (true, l, b, f, s, es, true)) :
    ∃ a, astep P X g v sh = some a ∧ a.g = some (anext P X g v sh) ∧ a.run.rd = l ∧ a.run.asks = b ∧ a.run.frz = f ∧ a.run.st = s ∧ seen P g.frame.fn a.run.evs.toArray = es := by
  unfold alook at h
  split at h
  rotate_left
  · simp at h
  rename_i a ha
  simp only [Prod.mk.injEq, true_and] at h
  obtain ⟨h2, h3, h4, h5, h6, h7⟩ := h
  have e : aget P X g v sh = a := by simp [aget, ha]
  obtain ⟨g', hg'⟩ := Option.isSome_iff_exists.1 h7
  exact ⟨a, ha, by simp [anext, e, hg'], h2, h3, h4, h5, h6⟩
/-- A read of the state word. -/
theorem turns_read {P : Program} {X : Exts} (hX : ExtOk P X) {main : Bool} {ty : TypeId} {Wg : Nat} {g : Goroutine} {st : Int} {b : List Nat} {f : List Addr} (ho : g.offers = none) (hb : b = [] ∨ b = [Wg]) (hf : f = [] ∨ f = [stW Wg])
    (h : alook P X g (.int .u64 st) (some (ty, 2)) = (true, [stW Wg], b, f, none, #[rdE (stW Wg)], true)) (sm : Int) : Turns P main ty Wg g st sm st sm #[rdE (stW Wg)] (anext P X g (.int .u64 st) (some (ty, 2))) := by
  obtain ⟨a, h1, h2, h3, h4, h5, h6, h7⟩ := anext_some h
  intro w hw
  obtain ⟨_, hst⟩ := astep_step hX h1 ho main w ⟨fun x hx => by rw [h3] at hx; simp at hx; rw [hx]; exact wg_cell0 hw, fun x hx => by rw [h4] at hx; rcases hb with rfl | rfl <;> simp at hx; rw [hx]; exact wg_shape hw, fun x hx => by rw [h5] at hx; rcases hf with rfl | rfl <;> simp at hx; rw [hx]; exact wg_thaw hw 0, fun x y hx => by rw [h6] at hx; cases hx⟩
  rw [h2] at hst
  simp only at hst
  rw [h7] at hst
  refine ⟨w, by rw [hst]; simp [ARun.world, h6], hw, .refl _ _⟩
/-- A store to the state word, behind a read of it or not. -/
theorem turns_set {P : Program} {X : Exts} (hX : ExtOk P X) {main : Bool} {ty : TypeId} {Wg : Nat} {g : Goroutine} {st st' : Int} {es : Array Event} {l : List Addr} {b : List Nat} {f : List Addr} (ho : g.offers = none) (hl : l = [] ∨ l = [stW Wg]) (hb : b = [] ∨ b = [Wg]) (hf : f = [] ∨ f = [stW Wg])
    (h : alook P X g (.int .u64 st) (some (ty, 2)) = (true, l, b, f, some (stW Wg, .int .u64 st'), es, true)) (sm : Int) : Turns P main ty Wg g st sm st' sm es (anext P X g (.int .u64 st) (some (ty, 2))) := by
  obtain ⟨a, h1, h2, h3, h4, h5, h6, h7⟩ := anext_some h
  intro w hw
  obtain ⟨_, hst⟩ := astep_step hX h1 ho main w ⟨fun x hx => by rw [h3] at hx; rcases hl with rfl | rfl <;> simp at hx; rw [hx]; exact wg_cell0 hw, fun x hx => by rw [h4] at hx; rcases hb with rfl | rfl <;> simp at hx; rw [hx]; exact wg_shape hw, fun x hx => by rw [h5] at hx; rcases hf with rfl | rfl <;> simp at hx; rw [hx]; exact wg_thaw hw 0, fun x y hx => by rw [h6] at hx; cases hx; exact ⟨⟨_, wg_cell0 hw⟩, wg_thaw hw 0⟩⟩
  rw [h2] at hst
  simp only at hst
  rw [h7] at hst
  exact ⟨_, by rw [hst]; simp only [ARun.world, h6], wg_set0 hw st'⟩
/-- The semaphore's word. -/
theorem turns_sema {P : Program} {X : Exts} (hX : ExtOk P X) {main : Bool} {ty : TypeId} {Wg : Nat} {g : Goroutine} {sm sm' : Int} {es : Array Event} (ho : g.offers = none)
    (h : alook P X g (.int .u32 sm) none = (true, [smW Wg], [], [], some (smW Wg, .int .u32 sm'), es, true)) (st : Int) : Turns P main ty Wg g st sm st sm' es (anext P X g (.int .u32 sm) none) := by
  obtain ⟨a, h1, h2, h3, h4, h5, h6, h7⟩ := anext_some h
  intro w hw
  obtain ⟨_, hst⟩ := astep_step hX h1 ho main w ⟨fun x hx => by rw [h3] at hx; simp at hx; rw [hx]; exact wg_cell1 hw, fun x hx => by rw [h4] at hx; simp at hx, fun x hx => by rw [h5] at hx; simp at hx, fun x y hx => by rw [h6] at hx; cases hx; exact ⟨⟨_, wg_cell1 hw⟩, wg_thaw hw 1⟩⟩
  rw [h2] at hst
  simp only at hst
  rw [h7] at hst
  exact ⟨_, by rw [hst]; simp only [ARun.world, h6], wg_set1 hw sm'⟩
/-- Waiting at the semaphore. -/
theorem sema_blocks {P : Program} {X : Exts} (hX : ExtOk P X) {ty : TypeId} {Wg : Nat} {g : Goroutine} (ho : g.offers = none) (h : (astep P X g (.int .u32 0) none).map (fun a => (a.run.rd, a.run.asks, a.run.frz, a.run.st.isNone, a.g.isNone)) = some ([smW Wg], [], [], true, true)) :
    ∀ st w, WgIs ty Wg w st 0 → stepG P true g w = .go { g with status := .blocked } w #[] := by
  intro st w hw
  obtain ⟨a, h1, h2⟩ := Option.map_eq_some_iff.1 h
  simp only [Prod.mk.injEq, Option.isNone_iff_eq_none] at h2
  obtain ⟨h2, h3, h4, h5, h6⟩ := h2
  obtain ⟨_, hst⟩ := astep_step hX h1 ho true w ⟨fun x hx => by rw [h2] at hx; simp at hx; rw [hx]; exact wg_cell1 hw, fun x hx => by rw [h3] at hx; simp at hx, fun x hx => by rw [h4] at hx; simp at hx, fun x y hx => by rw [h5] at hx; cases hx⟩
  rw [h6] at hst
  simp only at hst
  rw [hst h5, seen_empty]
/-- A function's values from n - 1 on down; told twice, lest the kernel hold the two functions against each other. -/
def tab {α : Type} (f : Nat → α) : Nat → List α
  | 0 => []
  | n + 1 => f n :: tab f n
def tabR {α : Type} (f : Nat → α) : Nat → List α
  | 0 => []
  | n + 1 => f n :: tabR f n
theorem tab_all {α : Type} {f g : Nat → α} : ∀ {n : Nat}, tab f n = tabR g n → ∀ {v : Nat}, v < n → f v = g v
  | 0, _, v, hv => by omega
  | n + 1, h, v, hv => by
    simp only [tab, tabR, List.cons.injEq] at h
    by_cases e : v = n
    · subst e; exact h.1
    · exact tab_all h.2 (by omega)
end Go.Proofs.Yticdjkkcfdbdcaa

/- The scripts of sync.WaitGroup's Add, Done and Wait, from what is reckoned. No program; no conditions but those named. -/
namespace Go.Proofs.Yticdjkkcfdbdcaa
open Go.Conc Go.ConcN
theorem QR.offers {P : Program} {ty : TypeId} {Wg : Nat} {main : Bool} {a b : Goroutine} (h : QR P ty Wg main a b) (ha : a.offers = none) : b.offers = none := by
  induction h with
  | refl => exact ha
  | step _ ho _ _ ih => exact ih ho
theorem qr_of {P : Program} {X : Exts} (hX : ExtOk P X) {main : Bool} {ty Wg n : Nat} {g : Goroutine} {l : List Nat} (h : (wgo P X main (ty, 2) n g).2 = l) (hl : ∀ b ∈ l, b = Wg) : QR P ty Wg main g (wgo P X main (ty, 2) n g).1 := wgo_qr P hX main ty Wg n g (by rw [h]; exact hl)
theorem astep_running {P : Program} {X : Exts} {g : Goroutine} {v : Value} {sh : Option (TypeId × Nat)} {a : AStep} (h : astep P X g v sh = some a) : g.status = .running := by
  unfold astep at h
  split at h
  · cases h
  · rename_i hx
    simp only [Bool.or_eq_true, not_or, bne_iff_ne, ne_eq, Decidable.not_not] at hx
    exact hx.1.1.2
theorem alook_running {P : Program} {X : Exts} {g : Goroutine} {v : Value} {sh : Option (TypeId × Nat)} {l : List Addr} {b : List Nat} {f : List Addr} {s : Option (Addr × Value)} {es : Array Event} (h : alook P X g v sh = (true, l, b, f, s, es, true)) : g.status = .running ∧ (anext P X g v sh).offers = none := by
  obtain ⟨a, h1, h2, _⟩ := anext_some h
  exact ⟨astep_running h1, astep_offers h1 h2⟩
theorem nil_ok {Wg : Nat} : ∀ b ∈ ([] : List Nat), b = Wg := fun b hb => by cases hb
theorem two_ok {Wg : Nat} : ∀ b ∈ [Wg, Wg], b = Wg := fun b hb => by simp at hb; exact hb
section
variable (P : Program) (X : Exts) (ty : TypeId) (f : FuncId) (Wg : Nat) (c : Frame) (cs : List Frame) (v : Nat)
def addIn : Goroutine := G (Frame.enter P f #[.pointer (some ⟨Wg, 0, none⟩), .int .i64 1] .normal) (c :: cs)
def ad1 := wgo P X true (ty, 2) 100 (addIn P f Wg c cs)
def ad2 := wgo P X true (ty, 2) 100 (qone P X true (ad1 P X ty f Wg c cs).1)
def ad3 := anext P X (ad2 P X ty f Wg c cs).1 (.int .u64 ((v : Int) * KKn)) (some (ty, 2))
def ad4 := wgo P X true (ty, 2) 200 (ad3 P X ty f Wg c cs v)
def ad5 := if v = 0 then wgo P X true (ty, 2) 200 (qone P X true (ad4 P X ty f Wg c cs v).1) else ad4 P X ty f Wg c cs v
def ad6 := wgo P X true (ty, 2) 1 (qone P X true (ad5 P X ty f Wg c cs v).1)
def adL := (alook P X (ad2 P X ty f Wg c cs).1 (.int .u64 (((v : Nat) : Int) * KKn)) (some (ty, 2)), (ad4 P X ty f Wg c cs v).2, (ad5 P X ty f Wg c cs v).2, qevs P X true (ad5 P X ty f Wg c cs v).1, ad6 P X ty f Wg c cs v)
def adR : (Bool × List Addr × List Nat × List Addr × Option (Addr × Value) × Array Event × Bool) × List Nat × List Nat × Option (Array Event) × Goroutine × List Nat :=
  ((true, [stW Wg], [], [], some (stW Wg, .int .u64 (((v + 1 : Nat) : Int) * KKn)), #[rdE (stW Wg), wrE (stW Wg)], true), (if v = 0 then [Wg, Wg] else []), [], some #[mkE .enable], (G (c.finish (.tuple #[])) cs, []))
variable {P X ty f Wg c cs}
theorem add_of (hX : ExtOk P X) (h1 : (ad1 P X ty f Wg c cs).2 = []) (h2 : qevs P X true (ad1 P X ty f Wg c cs).1 = some #[mkE .disable]) (h3 : (ad2 P X ty f Wg c cs).2 = [])
    (h4 : tab (adL P X ty f Wg c cs) 16 = tabR (adR Wg c cs) 16) (h5 : qevs P X true (ad4 P X ty f Wg c cs 0).1 = some #[mkE (.read (smW Wg))]) :
    ∃ g0, QR P ty Wg true (addIn P f Wg c cs) g0 ∧ AddS P ty Wg g0 (G (c.finish (.tuple #[])) cs) := by
  have hv : ∀ v, v ≤ 15 → alook P X (ad2 P X ty f Wg c cs).1 (.int .u64 (((v : Nat) : Int) * KKn)) (some (ty, 2)) = (true, [stW Wg], [], [], some (stW Wg, .int .u64 (((v + 1 : Nat) : Int) * KKn)), #[rdE (stW Wg), wrE (stW Wg)], true) ∧
      (ad4 P X ty f Wg c cs v).2 = (if v = 0 then [Wg, Wg] else []) ∧ (ad5 P X ty f Wg c cs v).2 = [] ∧ qevs P X true (ad5 P X ty f Wg c cs v).1 = some #[mkE .enable] ∧ ad6 P X ty f Wg c cs v = (G (c.finish (.tuple #[])) cs, []) := fun v hv => by
    have r := tab_all h4 (show v < 16 by omega)
    simp only [adL, adR, Prod.mk.injEq] at r
    obtain ⟨r1, r2, r3, r4, r5⟩ := r
    exact ⟨r1, r2, r3, r4, r5⟩
  have q1 := qr_of hX h1 (nil_ok (Wg := Wg))
  have e1 := es_of hX h2
  have q2 := qr_of hX h3 (nil_ok (Wg := Wg))
  have r0 := hv 0 (by omega)
  have hrun := (alook_running r0.1).1
  have o1 : (ad1 P X ty f Wg c cs).1.offers = none := q1.offers rfl
  have o2 : (ad2 P X ty f Wg c cs).1.offers = none := q2.offers e1.step.2.1
  refine ⟨_, q1, o1, _, _, e1, q2, hrun, o2, fun v hv' => ?_⟩
  obtain ⟨a1, a2, a3, a4, a5⟩ := hv v hv'
  have q4 : QR P ty Wg true (ad3 P X ty f Wg c cs v) (ad4 P X ty f Wg c cs v).1 := qr_of hX a2 (by split; exact two_ok; exact nil_ok)
  have o3 : (ad3 P X ty f Wg c cs v).offers = none := (alook_running a1).2
  have e5 := es_of hX a4
  have q6 : QR P ty Wg true (qone P X true (ad5 P X ty f Wg c cs v).1) (G (c.finish (.tuple #[])) cs) := by
    have := qr_of (P := P) hX (main := true) (ty := ty) (n := 1) (g := qone P X true (ad5 P X ty f Wg c cs v).1) (l := []) (by show (ad6 P X ty f Wg c cs v).2 = []; rw [a5]) (nil_ok (Wg := Wg))
    have e : (wgo P X true (ty, 2) 1 (qone P X true (ad5 P X ty f Wg c cs v).1)).1 = G (c.finish (.tuple #[])) cs := by show (ad6 P X ty f Wg c cs v).1 = _; rw [a5]
    rw [e] at this
    exact this
  refine ⟨_, turns_set hX o2 (.inr rfl) (.inl rfl) (.inl rfl) a1 0, o3, _, ?_, ?_, _, e5, q6⟩
  · unfold ad5
    split
    · rename_i hv0
      subst hv0
      have e4 := es_of hX h5
      refine (qr_of (P := P) hX (main := true) (ty := ty) (n := 200) (l := []) ?_ (nil_ok (Wg := Wg))).offers e4.step.2.1
      have := a3
      unfold ad5 at this
      rwa [if_pos rfl] at this
    · exact q4.offers o3
  · by_cases hv0 : v = 0
    · subst hv0
      have e4 := es_of hX h5
      refine .inl ⟨rfl, _, _, q4, q4.offers o3, e4, ?_⟩
      have : QR P ty Wg true (qone P X true (ad4 P X ty f Wg c cs 0).1) (wgo P X true (ty, 2) 200 (qone P X true (ad4 P X ty f Wg c cs 0).1)).1 := by
        refine qr_of hX (l := []) ?_ (nil_ok (Wg := Wg))
        have := a3
        unfold ad5 at this
        rwa [if_pos rfl] at this
      unfold ad5
      rw [if_pos rfl]
      exact this
    · refine .inr ⟨hv0, ?_⟩
      unfold ad5
      rw [if_neg hv0]
      exact q4
end
section
variable (P : Program) (X : Exts) (ty : TypeId) (fn done : FuncId) (Wg : Nat) (T : Array Value) (td : List Item)
/-- A worker's function at its return, the group's Done put off. -/
def dnIn : Goroutine := G { fn := fn, tmps := T, todo := td, defers := [{ target := .fn (.func done) #[], args := #[.pointer (some ⟨Wg, 0, none⟩)] }], mode := .returning, kind := .deferred } [{ (default : Frame) with fn := P.funcs.size, defers := [], mode := .panicking [goexitEntry] }]
def dn0 := wgo P X false (ty, 2) 100 (dnIn P fn done Wg T td)
def dn2 := wgo P X false (ty, 2) 100 (qone P X false (dn0 P X ty fn done Wg T td).1)
def dn4 := wgo P X false (ty, 2) 200 (qone P X false (dn2 P X ty fn done Wg T td).1)
def dn5 (v wt : Nat) := anext P X (dn4 P X ty fn done Wg T td).1 (.int .u64 (((v + 1 : Nat) : Int) * KKn + wt)) (some (ty, 2))
def dn6 := wgo P X false (ty, 2) 200 (dn5 P X ty fn done Wg T td 0 1)
def dn7 := anext P X (dn6 P X ty fn done Wg T td).1 (.int .u64 1) (some (ty, 2))
def dn8 := wgo P X false (ty, 2) 200 (dn7 P X ty fn done Wg T td)
def dn9 := anext P X (dn8 P X ty fn done Wg T td).1 (.int .u64 1) (some (ty, 2))
def dn10 := wgo P X false (ty, 2) 200 (dn9 P X ty fn done Wg T td)
def dn11 := anext P X (dn10 P X ty fn done Wg T td).1 (.int .u32 0) none
def dnL (k : Nat) := (alook P X (dn4 P X ty fn done Wg T td).1 (.int .u64 (((k / 2 + 1 : Nat) : Int) * KKn + ((k % 2 : Nat) : Int))) (some (ty, 2)), if k = 1 then true else qquits P X 300 1 (dn5 P X ty fn done Wg T td (k / 2) (k % 2)))
def dnR (k : Nat) : (Bool × List Addr × List Nat × List Addr × Option (Addr × Value) × Array Event × Bool) × Bool :=
  ((true, [stW Wg], [], [], some (stW Wg, .int .u64 (((k / 2 : Nat) : Int) * KKn + ((k % 2 : Nat) : Int))), #[rdE (stW Wg), wrE (stW Wg)], true), true)
variable {P X ty fn done Wg T td}
theorem done_of (hX : ExtOk P X) (h1 : (dn0 P X ty fn done Wg T td).2 = [Wg, Wg]) (h2 : qevs P X false (dn0 P X ty fn done Wg T td).1 = some #[mkE (.releaseMerge (stW Wg))])
    (h3 : (dn2 P X ty fn done Wg T td).2 = []) (h4 : qevs P X false (dn2 P X ty fn done Wg T td).1 = some #[mkE .disable]) (h5 : (dn4 P X ty fn done Wg T td).2 = [])
    (h6 : tab (dnL P X ty fn done Wg T td) 32 = tabR (dnR Wg) 32) (h7 : (dn6 P X ty fn done Wg T td).2 = []) (h8 : alook P X (dn6 P X ty fn done Wg T td).1 (.int .u64 1) (some (ty, 2)) = (true, [stW Wg], [], [], none, #[rdE (stW Wg)], true))
    (h9 : (dn8 P X ty fn done Wg T td).2 = []) (h10 : alook P X (dn8 P X ty fn done Wg T td).1 (.int .u64 1) (some (ty, 2)) = (true, [], [], [], some (stW Wg, .int .u64 0), #[wrE (stW Wg)], true))
    (h11 : (dn10 P X ty fn done Wg T td).2 = []) (h12 : mayWake P (dn10 P X ty fn done Wg T td).1 = true)
    (h13 : alook P X (dn10 P X ty fn done Wg T td).1 (.int .u32 0) none = (true, [smW Wg], [], [], some (smW Wg, .int .u32 1), #[mkE .disable, rdE (smW Wg), wrE (smW Wg), mkE .enable], true))
    (h14 : qquits P X 300 1 (dn11 P X ty fn done Wg T td) = true) :
    ∃ g0, QR P ty Wg false (dnIn P fn done Wg T td) g0 ∧ DoneS P ty Wg g0 := by
  have hv : ∀ v wt : Nat, v ≤ 15 → wt ≤ 1 → alook P X (dn4 P X ty fn done Wg T td).1 (.int .u64 (((v + 1 : Nat) : Int) * KKn + wt)) (some (ty, 2)) = (true, [stW Wg], [], [], some (stW Wg, .int .u64 ((v : Int) * KKn + wt)), #[rdE (stW Wg), wrE (stW Wg)], true) ∧
      (¬ (v = 0 ∧ wt = 1) → qquits P X 300 1 (dn5 P X ty fn done Wg T td v wt) = true) := fun v wt hv hwt => by
    have r := tab_all h6 (show 2 * v + wt < 32 by omega)
    have e1 : (2 * v + wt) / 2 = v := by omega
    have e2 : (2 * v + wt) % 2 = wt := by omega
    simp only [dnL, dnR, Prod.mk.injEq, e1, e2] at r
    refine ⟨by simpa only [Prod.mk.injEq] using r.1, fun hn => ?_⟩
    have := r.2
    rwa [if_neg (show ¬ 2 * v + wt = 1 by omega)] at this
  have q1 := qr_of hX h1 (two_ok (Wg := Wg))
  have e1 := es_of hX h2
  have q2 := qr_of hX h3 (nil_ok (Wg := Wg))
  have e2 := es_of hX h4
  have q3 := qr_of hX h5 (nil_ok (Wg := Wg))
  have o0 := q1.offers rfl
  have o2 := q2.offers e1.step.2.1
  have o4 := q3.offers e2.step.2.1
  have r0 := (hv 0 0 (by omega) (by omega)).1
  refine ⟨_, q1, o0, _, _, _, _, e1, q2, o2, e2, q3, (alook_running r0).1, o4, fun v wt hv1 hwt => ?_⟩
  obtain ⟨a1, a2⟩ := hv v wt hv1 hwt
  refine ⟨_, turns_set hX o4 (.inr rfl) (.inl rfl) (.inl rfl) a1 0, fun hn => ⟨300, qquits_quits hX (a2 hn)⟩, fun ⟨hv0, hw1⟩ => ?_⟩
  subst hv0 hw1
  have o5 := (alook_running a1).2
  have q6 := qr_of hX h7 (nil_ok (Wg := Wg))
  have o6 := q6.offers o5
  have o7 := (alook_running h8).2
  have q8 := qr_of hX h9 (nil_ok (Wg := Wg))
  have o8 := q8.offers o7
  have o9 := (alook_running h10).2
  have q10 := qr_of hX h11 (nil_ok (Wg := Wg))
  have o10 := q10.offers o9
  exact ⟨o5, _, _, _, _, _, _, q6, (alook_running h8).1, o6, turns_read hX o6 (.inl rfl) (.inl rfl) h8 0, o7, q8, (alook_running h10).1, o8, turns_set hX o8 (.inl rfl) (.inl rfl) (.inl rfl) h10 0, o9, q10, (alook_running h13).1, o10, h12, turns_sema hX o10 h13 0, 300, qquits_quits hX h14⟩
end
section
variable (P : Program) (X : Exts) (ty : TypeId) (f : FuncId) (Wg : Nat) (c : Frame) (cs : List Frame) (nt : Nat)
def upon (x : Nat → Value) : Nat → Nat → List Value
  | 0, _ => []
  | n + 1, i => x i :: upon x n (i + 1)
/-- The caller's temporaries. -/
def tmC (g : Goroutine) : Array Value := match g.callers with | w :: _ => w.tmps | [] => #[]
def setC (g : Goroutine) (T : Array Value) : Goroutine := match g.callers with | w :: r => { g with callers := { w with tmps := T } :: r } | [] => g
def wtIn : Goroutine := G (Frame.enter P f #[.pointer (some ⟨Wg, 0, none⟩)] .normal) (c :: cs)
def wt1 := wgo P X true (ty, 2) 100 (wtIn P f Wg c cs)
def wt3 := wgo P X true (ty, 2) 100 (qone P X true (wt1 P X ty f Wg c cs).1)
/-- The loop's head, the temporaries but the first as x says. -/
def wtH (x : Nat → Value) : Goroutine := setC (wt3 P X ty f Wg c cs).1 (.pointer (some ⟨Wg, 0, none⟩) :: upon x nt 1).toArray
def wa (x : Nat → Value) (v : Nat) := anext P X (wtH P X ty f Wg c cs nt x) (.int .u64 ((v : Int) * KKn)) (some (ty, 2))
def wb (x : Nat → Value) (v : Nat) := wgo P X true (ty, 2) 200 (wa P X ty f Wg c cs nt x v)
def wmA (x : Nat → Value) (v u : Nat) := anext P X (wb P X ty f Wg c cs nt x v).1 (.int .u64 ((u : Int) * KKn)) (some (ty, 2))
def wmB (x : Nat → Value) (v u : Nat) := wgo P X true (ty, 2) 200 (wmA P X ty f Wg c cs nt x v u)
def whA (x : Nat → Value) (v : Nat) := wmA P X ty f Wg c cs nt x v v
def whB (x : Nat → Value) (v : Nat) := wgo P X true (ty, 2) 200 (whA P X ty f Wg c cs nt x v)
def whC (x : Nat → Value) (v : Nat) := wgo P X true (ty, 2) 200 (qone P X true (whB P X ty f Wg c cs nt x v).1)
def whD (x : Nat → Value) (v : Nat) := anext P X (whC P X ty f Wg c cs nt x v).1 (.int .u32 1) none
def whE (x : Nat → Value) (v : Nat) := wgo P X true (ty, 2) 200 (whD P X ty f Wg c cs nt x v)
def whF (x : Nat → Value) (v : Nat) := anext P X (whE P X ty f Wg c cs nt x v).1 (.int .u64 0) (some (ty, 2))
def xa (g : Goroutine) := wgo P X true (ty, 2) 200 g
def xb (g : Goroutine) := wgo P X true (ty, 2) 200 (qone P X true (xa P X ty g).1)
def xc (m : Nat) (g : Goroutine) := wgo P X true (ty, 2) m (qone P X true (xb P X ty g).1)
/-- All that is looked at of a way out. -/
def exL (m : Nat) (g : Goroutine) := ((xa P X ty g).2, qevs P X true (xa P X ty g).1, (xb P X ty g).2, qevs P X true (xb P X ty g).1, xc P X ty m g)
def exR : List Nat × Option (Array Event) × List Nat × Option (Array Event) × Goroutine × List Nat := ([], some #[mkE .enable], [Wg, Wg], some #[mkE (.acquire (stW Wg))], (G (c.finish (.tuple #[])) cs, []))
def alR (s : Option (Addr × Value)) (es : Array Event) : Bool × List Addr × List Nat × List Addr × Option (Addr × Value) × Array Event × Bool := (true, [stW Wg], [], [], s, es, true)
def alC (s : Option (Addr × Value)) (es : Array Event) : Bool × List Addr × List Nat × List Addr × Option (Addr × Value) × Array Event × Bool := (true, [stW Wg], [Wg], [stW Wg], s, es, true)
/-- From the head to the CompareAndSwap, at v + 1. -/
def wvL (x : Nat → Value) (v : Nat) := (alook P X (wtH P X ty f Wg c cs nt x) (.int .u64 (((v + 1 : Nat) : Int) * KKn)) (some (ty, 2)), (wb P X ty f Wg c cs nt x (v + 1)).2, alook P X (wb P X ty f Wg c cs nt x (v + 1)).1 (.int .u64 (((v + 1 : Nat) : Int) * KKn)) (some (ty, 2)), (whB P X ty f Wg c cs nt x (v + 1)).2,
  qevs P X true (whB P X ty f Wg c cs nt x (v + 1)).1, (whC P X ty f Wg c cs nt x (v + 1)).2, (astep P X (whC P X ty f Wg c cs nt x (v + 1)).1 (.int .u32 0) none).map (fun a => (a.run.rd, a.run.asks, a.run.frz, a.run.st.isNone, a.g.isNone)), alook P X (whC P X ty f Wg c cs nt x (v + 1)).1 (.int .u32 1) none,
  (whE P X ty f Wg c cs nt x (v + 1)).2, alook P X (whE P X ty f Wg c cs nt x (v + 1)).1 (.int .u64 0) (some (ty, 2)), exL P X ty 10 (whF P X ty f Wg c cs nt x (v + 1)))
def wvR (v : Nat) := (alR Wg none #[rdE (stW Wg)], ([] : List Nat), alC Wg (some (stW Wg, .int .u64 (((v + 1 : Nat) : Int) * KKn + 1))) #[rdE (stW Wg), wrE (stW Wg)], [Wg, Wg],
  some #[mkE (.write (smW Wg))], ([] : List Nat), some ([smW Wg], ([] : List Nat), ([] : List Addr), true, true), (true, [smW Wg], ([] : List Nat), ([] : List Addr), some (smW Wg, Value.int .u32 0), #[mkE .disable, rdE (smW Wg), wrE (smW Wg), mkE .enable], true),
  ([] : List Nat), alR Wg none #[rdE (stW Wg)], exR Wg c cs)
/-- A miss, at v + 1 with u there; and the head again. -/
def wmL (x : Nat → Value) (v u : Nat) := (alook P X (wb P X ty f Wg c cs nt x (v + 1)).1 (.int .u64 ((u : Int) * KKn)) (some (ty, 2)), (wmB P X ty f Wg c cs nt x (v + 1) u).2, wmB P X ty f Wg c cs nt x (v + 1) u |>.1, (tmC (wmB P X ty f Wg c cs nt x (v + 1) u).1).size, (tmC (wmB P X ty f Wg c cs nt x (v + 1) u).1)[0]?)
def wmR (x : Nat → Value) (v u : Nat) := (alC Wg none #[rdE (stW Wg)], ([] : List Nat), setC (wt3 P X ty f Wg c cs).1 (tmC (wmB P X ty f Wg c cs nt x (v + 1) u).1), nt + 1, some (Value.pointer (some ⟨Wg, 0, none⟩)))
variable {P X ty f Wg c cs nt}
theorem upon_get {x : Nat → Value} : ∀ (n i j : Nat), j < n → (upon x n i)[j]? = some (x (i + j))
  | 0, _, _, h => by omega
  | n + 1, i, 0, _ => by simp [upon]
  | n + 1, i, j + 1, h => by
    simp only [upon, List.getElem?_cons_succ]
    rw [upon_get n (i + 1) j (by omega)]
    congr 2; omega
theorem upon_len {x : Nat → Value} : ∀ (n i : Nat), (upon x n i).length = n
  | 0, _ => rfl
  | n + 1, i => by simp [upon, upon_len n]
/-- Every row of temporaries of this size with this first is one of these. -/
theorem tm_lit {T : Array Value} {a : Value} (hs : T.size = nt + 1) (h0 : T[0]? = some a) : T = (a :: upon (fun i => T[i]?.getD undef) nt 1).toArray := by
  apply Array.ext_getElem?
  intro i
  rcases Nat.lt_or_ge i (nt + 1) with hi | hi
  · cases i with
    | zero => simpa using h0
    | succ j =>
      simp only [List.getElem?_toArray, List.getElem?_cons_succ]
      rw [upon_get nt 1 j (by omega), Nat.add_comm 1 j]
      rw [Array.getElem?_eq_getElem (show j + 1 < T.size by omega)]
      simp
  · rw [Array.getElem?_eq_none (by omega)]
    simp only [List.getElem?_toArray]
    rw [List.getElem?_eq_none (by simp [upon_len]; omega)]
theorem exit_of (hX : ExtOk P X) {m : Nat} {g : Goroutine} (ho : g.offers = none) (h : exL P X ty m g = exR Wg c cs) : ExitS P ty Wg g (G (c.finish (.tuple #[])) cs) := by
  simp only [exL, exR, Prod.mk.injEq] at h
  obtain ⟨h1, h2, h3, h4, h5⟩ := h
  have q1 := qr_of hX h1 (nil_ok (Wg := Wg))
  have e1 := es_of hX h2
  have q2 := qr_of hX h3 (two_ok (Wg := Wg))
  have e2 := es_of hX h4
  have q3 : QR P ty Wg true (qone P X true (xb P X ty g).1) (G (c.finish (.tuple #[])) cs) := by
    have := qr_of (P := P) hX (main := true) (ty := ty) (n := m) (g := qone P X true (xb P X ty g).1) (l := []) (by show (xc P X ty m g).2 = []; rw [h5]) (nil_ok (Wg := Wg))
    have e : (wgo P X true (ty, 2) m (qone P X true (xb P X ty g).1)).1 = G (c.finish (.tuple #[])) cs := by show (xc P X ty m g).1 = _; rw [h5]
    rwa [e] at this
  exact ⟨ho, _, _, _, _, q1, q1.offers ho, e1, q2, q2.offers e1.step.2.1, e2, q3⟩
theorem wait_of (hX : ExtOk P X) (h1 : (wt1 P X ty f Wg c cs).2 = []) (h2 : qevs P X true (wt1 P X ty f Wg c cs).1 = some #[mkE .disable]) (h3 : (wt3 P X ty f Wg c cs).2 = [])
    (h4 : ((tmC (wt3 P X ty f Wg c cs).1).size, (tmC (wt3 P X ty f Wg c cs).1)[0]?) = (nt + 1, some (Value.pointer (some ⟨Wg, 0, none⟩)))) (h4' : setC (wt3 P X ty f Wg c cs).1 (tmC (wt3 P X ty f Wg c cs).1) = (wt3 P X ty f Wg c cs).1)
    (h5 : ∀ x, (alook P X (wtH P X ty f Wg c cs nt x) (.int .u64 (((0 : Nat) : Int) * KKn)) (some (ty, 2)), exL P X ty 20 (wa P X ty f Wg c cs nt x 0)) = (alR Wg none #[rdE (stW Wg)], exR Wg c cs))
    (h6 : ∀ x, tab (wvL P X ty f Wg c cs nt x) 16 = tabR (wvR Wg c cs) 16)
    (h7 : ∀ x, tab (fun v => tab (wmL P X ty f Wg c cs nt x v) (v + 1)) 16 = tabR (fun v => tabR (wmR P X ty f Wg c cs nt x v) (v + 1)) 16) :
    ∃ g0, QR P ty Wg true (wtIn P f Wg c cs) g0 ∧ WaitS P ty Wg g0 (G (c.finish (.tuple #[])) cs) := by
  have q1 := qr_of hX h1 (nil_ok (Wg := Wg))
  have e1 := es_of hX h2
  have q3 := qr_of hX h3 (nil_ok (Wg := Wg))
  have o1 := q1.offers rfl
  have o3 := q3.offers e1.step.2.1
  simp only [Prod.mk.injEq] at h4
  have oS : ∀ T, (setC (wt3 P X ty f Wg c cs).1 T).offers = none := fun T => by
    unfold setC
    split <;> exact o3
  refine ⟨_, q1, o1, _, _, fun g => ∃ x, g = wtH P X ty f Wg c cs nt x, e1, q3, ⟨fun i => (tmC (wt3 P X ty f Wg c cs).1)[i]?.getD undef, ?_⟩, ?_⟩
  · exact h4'.symm.trans (congrArg (setC (wt3 P X ty f Wg c cs).1) (tm_lit h4.1 h4.2))
  · rintro _ ⟨x, rfl⟩
    have oH : (wtH P X ty f Wg c cs nt x).offers = none := oS _
    have b1 : alook P X (wtH P X ty f Wg c cs nt x) (.int .u64 (((0 : Nat) : Int) * KKn)) (some (ty, 2)) = alR Wg none #[rdE (stW Wg)] := congrArg (·.1) (h5 x)
    have b2 : exL P X ty 20 (wa P X ty f Wg c cs nt x 0) = exR Wg c cs := congrArg (·.2) (h5 x)
    refine ⟨(alook_running b1).1, oH, fun v hv => ?_⟩
    by_cases hv0 : v = 0
    · subst hv0
      exact ⟨_, turns_read hX oH (.inl rfl) (.inl rfl) b1 0, fun _ => exit_of hX (alook_running b1).2 b2, fun e => absurd rfl e⟩
    obtain ⟨v, rfl⟩ : ∃ u, v = u + 1 := ⟨v - 1, by omega⟩
    have r := tab_all (h6 x) (show v < 16 by omega)
    have a1 : alook P X (wtH P X ty f Wg c cs nt x) (.int .u64 (((v + 1 : Nat) : Int) * KKn)) (some (ty, 2)) = alR Wg none #[rdE (stW Wg)] := congrArg (·.1) r
    have a2 : (wb P X ty f Wg c cs nt x (v + 1)).2 = [] := congrArg (·.2.1) r
    have a3 : alook P X (wb P X ty f Wg c cs nt x (v + 1)).1 (.int .u64 (((v + 1 : Nat) : Int) * KKn)) (some (ty, 2)) = alC Wg (some (stW Wg, .int .u64 (((v + 1 : Nat) : Int) * KKn + 1))) #[rdE (stW Wg), wrE (stW Wg)] := congrArg (·.2.2.1) r
    have a4 : (whB P X ty f Wg c cs nt x (v + 1)).2 = [Wg, Wg] := congrArg (·.2.2.2.1) r
    have a5 : qevs P X true (whB P X ty f Wg c cs nt x (v + 1)).1 = some #[mkE (.write (smW Wg))] := congrArg (·.2.2.2.2.1) r
    have a6 : (whC P X ty f Wg c cs nt x (v + 1)).2 = [] := congrArg (·.2.2.2.2.2.1) r
    have a7 : (astep P X (whC P X ty f Wg c cs nt x (v + 1)).1 (.int .u32 0) none).map (fun a => (a.run.rd, a.run.asks, a.run.frz, a.run.st.isNone, a.g.isNone)) = some ([smW Wg], [], [], true, true) := congrArg (·.2.2.2.2.2.2.1) r
    have a8 : alook P X (whC P X ty f Wg c cs nt x (v + 1)).1 (.int .u32 1) none = (true, [smW Wg], [], [], some (smW Wg, Value.int .u32 0), #[mkE .disable, rdE (smW Wg), wrE (smW Wg), mkE .enable], true) := congrArg (·.2.2.2.2.2.2.2.1) r
    have a9 : (whE P X ty f Wg c cs nt x (v + 1)).2 = [] := congrArg (·.2.2.2.2.2.2.2.2.1) r
    have a10 : alook P X (whE P X ty f Wg c cs nt x (v + 1)).1 (.int .u64 0) (some (ty, 2)) = alR Wg none #[rdE (stW Wg)] := congrArg (·.2.2.2.2.2.2.2.2.2.1) r
    have a11 : exL P X ty 10 (whF P X ty f Wg c cs nt x (v + 1)) = exR Wg c cs := congrArg (·.2.2.2.2.2.2.2.2.2.2) r
    have oa := (alook_running a1).2
    have qb := qr_of hX a2 (nil_ok (Wg := Wg))
    have ob := qb.offers oa
    refine ⟨_, turns_read hX oH (.inl rfl) (.inl rfl) a1 0, fun e => absurd e hv0, fun _ => ⟨oa, _, qb, (alook_running a3).1, ob, fun u hu => ?_, _, turns_set hX ob (.inr rfl) (.inr rfl) (.inr rfl) a3 0, (alook_running a3).2, ?_⟩⟩
    · have r2 := tab_all (tab_all (h7 x) (show v < 16 by omega)) (show u < v + 1 by omega)
      have c1 : alook P X (wb P X ty f Wg c cs nt x (v + 1)).1 (.int .u64 ((u : Int) * KKn)) (some (ty, 2)) = alC Wg none #[rdE (stW Wg)] := congrArg (·.1) r2
      have c2 : (wmB P X ty f Wg c cs nt x (v + 1) u).2 = [] := congrArg (·.2.1) r2
      have c3 : (wmB P X ty f Wg c cs nt x (v + 1) u).1 = setC (wt3 P X ty f Wg c cs).1 (tmC (wmB P X ty f Wg c cs nt x (v + 1) u).1) := congrArg (·.2.2.1) r2
      have c4 : (tmC (wmB P X ty f Wg c cs nt x (v + 1) u).1).size = nt + 1 := congrArg (·.2.2.2.1) r2
      have c5 : (tmC (wmB P X ty f Wg c cs nt x (v + 1) u).1)[0]? = some (Value.pointer (some ⟨Wg, 0, none⟩)) := congrArg (·.2.2.2.2) r2
      exact ⟨_, _, turns_read hX ob (.inr rfl) (.inr rfl) c1 0, (alook_running c1).2, qr_of hX c2 (nil_ok (Wg := Wg)), _, c3.trans (congrArg (setC (wt3 P X ty f Wg c cs).1) (tm_lit c4 c5))⟩
    · have q6 := qr_of hX a4 (two_ok (Wg := Wg))
      have o6 := q6.offers (alook_running a3).2
      have e6 := es_of hX a5
      have q8 := qr_of hX a6 (nil_ok (Wg := Wg))
      have o8 := q8.offers e6.step.2.1
      have o9 := (alook_running a8).2
      have q10 := qr_of hX a9 (nil_ok (Wg := Wg))
      have o10 := q10.offers o9
      exact ⟨_, _, _, q6, o6, e6, q8, (alook_running a8).1, o8, sema_blocks hX o8 a7, _, turns_sema hX o8 a8 0, o9, _, _, q10, (alook_running a10).1, o10, turns_read hX o10 (.inl rfl) (.inl rfl) a10 0, exit_of hX (alook_running a10).2 a11⟩
end
end Go.Proofs.Yticdjkkcfdbdcaa

/- This program's functions without a body that a group's functions come to. No conditions. -/
namespace Go.Proofs.Yticdjkkcfdbdcaa
open Go.Conc
def wgExt : Exts := fun f =>
  match f with
  | 86 => some (Extern.Race.marked .releaseMerge)
  | 87 => some (fun _ => do mark .disable; pure Extern.Race.none_)
  | 88 => some (fun _ => do mark .enable; pure Extern.Race.none_)
  | 94 => some (Extern.Race.marked .read)
  | 102 => some (Extern.Race.marked .write)
  | 99 => some (Extern.Race.marked .acquire)
  | 89 => some (fun _ => pure (.bool false))
  | 120 => some (Extern.Atomic.update (Op.intArith .add) .u64 true)
  | 121 => some (Extern.Atomic.loadT (.int .u64))
  | 122 => some Extern.Atomic.storeT
  | 123 => some (Extern.Atomic.casT (.int .u64))
  | 98 => some Extern.Sync.semrelease
  | 103 => some Extern.Sync.semacquire
  | _ => none
theorem wgExt_ok : ExtOk Try.prog wgExt := by
  intro f e h
  unfold wgExt at h
  split at h <;> simp only [Option.some.injEq, reduceCtorEq] at h <;> subst h
  · exact ⟨_, Try.func86, by kernel_rfl, by kernel_rfl, by kernel_rfl, by kernel_rfl⟩
  · exact ⟨_, Try.func87, by kernel_rfl, by kernel_rfl, by kernel_rfl, by kernel_rfl⟩
  · exact ⟨_, Try.func88, by kernel_rfl, by kernel_rfl, by kernel_rfl, by kernel_rfl⟩
  · exact ⟨_, Try.func94, by kernel_rfl, by kernel_rfl, by kernel_rfl, by kernel_rfl⟩
  · exact ⟨_, Try.func102, by kernel_rfl, by kernel_rfl, by kernel_rfl, by kernel_rfl⟩
  · exact ⟨_, Try.func99, by kernel_rfl, by kernel_rfl, by kernel_rfl, by kernel_rfl⟩
  · exact ⟨_, Try.func89, by kernel_rfl, by kernel_rfl, by kernel_rfl, by kernel_rfl⟩
  · exact ⟨_, Try.func120, by kernel_rfl, by kernel_rfl, by kernel_rfl, by kernel_rfl⟩
  · exact ⟨_, Try.func121, by kernel_rfl, by kernel_rfl, by kernel_rfl, by kernel_rfl⟩
  · exact ⟨_, Try.func122, by kernel_rfl, by kernel_rfl, by kernel_rfl, by kernel_rfl⟩
  · exact ⟨_, Try.func123, by kernel_rfl, by kernel_rfl, by kernel_rfl, by kernel_rfl⟩
  · exact ⟨_, Try.func98, by kernel_rfl, by kernel_rfl, by kernel_rfl, by kernel_rfl⟩
  · exact ⟨_, Try.func103, by kernel_rfl, by kernel_rfl, by kernel_rfl, by kernel_rfl⟩
end Go.Proofs.Yticdjkkcfdbdcaa

/- The scripts of sync.WaitGroup's Add and Wait, reckoned by the kernel from this program's forms. No conditions. -/
namespace Go.Proofs.Yticdjkkcfdbdcaa
open Go.Conc Go.ConcN
set_option maxRecDepth 100000 in
theorem add_script (Wg : Nat) (c : Frame) (cs : List Frame) : ∃ g0, QR Try.prog 114 Wg true (addIn Try.prog 48 Wg c cs) g0 ∧ AddS Try.prog 114 Wg g0 (G (c.finish (.tuple #[])) cs) :=
  add_of wgExt_ok (by kernel_rfl) (by kernel_rfl) (by kernel_rfl) (by kernel_rfl) (by kernel_rfl)
set_option maxRecDepth 100000 in
theorem wait_script (Wg : Nat) (c : Frame) (cs : List Frame) : ∃ g0, QR Try.prog 114 Wg true (wtIn Try.prog 52 Wg c cs) g0 ∧ WaitS Try.prog 114 Wg g0 (G (c.finish (.tuple #[])) cs) :=
  wait_of (nt := 83) wgExt_ok (by kernel_rfl) (by kernel_rfl) (by kernel_rfl) (by kernel_rfl) (by kernel_rfl) (fun x => by kernel_rfl) (fun x => by kernel_rfl) (fun x => by kernel_rfl)
end Go.Proofs.Yticdjkkcfdbdcaa
