/- Goroutine 0 beside leavers, on whatever tape, to the end of the run: what it owns, what was there at first and stands. No program; no conditions but those named. -/
import Derived.Test.YticdjkkcfdbdcaaRenU
import Derived.Test.YticdjkkcfdbdcaaWgM
namespace Go.Proofs.Yticdjkkcfdbdcaa
open Go.Conc Go.ConcN

def EndsWell (P : Program) (Post : Value → World → Prop) (m : Machine) (t : Trace) : Prop :=
  ∃ N last o w' t', runNT P (N + 1) m t = (.ended o w', t') ∧ runN P N m = .next last ∧ step P last = .ended o w' ∧ Good P Post last o w' t'
theorem EndsWell.step {P : Program} {Post : Value → World → Prop} {m m' : Machine} {t u : Trace} (h : stepT P m = (.next m', u)) (h' : EndsWell P Post m' (t ++ u)) : EndsWell P Post m t := by
  obtain ⟨N, last, o, w', t', h1, h2, h3, h4⟩ := h'
  have hs : Go.step P m = .next m' := by rw [Go.step, h]
  refine ⟨N + 1, last, o, w', t', ?_, ?_, h3, h4⟩
  · rw [runNT_succ_next h]; exact h1
  · simp only [runN, hs]; exact h2
theorem EndsWell.steps {P : Program} {Post : Value → World → Prop} : ∀ {N : Nat} {m m' : Machine} {t t' : Trace}, runNT P N m t = (.next m', t') → EndsWell P Post m' t' → EndsWell P Post m t
  | 0, m, m', t, t', h, h' => by simp only [runNT, Prod.mk.injEq, Stepped.next.injEq] at h; obtain ⟨rfl, rfl⟩ := h; exact h'
  | N + 1, m, m', t, t', h, h' => by
    cases hs : stepT P m with
    | mk s u =>
      cases s with
      | next m1 => rw [runNT_succ_next hs] at h; exact .step hs (EndsWell.steps h h')
      | ended o w => simp [runNT, hs] at h
/-- What was there at first stands, and nobody may write it. -/
structure Old (n0 : Nat) (W0 : World) (k : LK) (w : World) : Prop where
  size : n0 ≤ w.heap.size
  heap : ∀ b : Nat, b < n0 → w.heap[b]? = W0.heap[b]?
  os : w.os = W0.os
  output : w.output = W0.output
  lic : ∀ l, k.W l → ¬ MemLoc n0 l
  tape : w.tape = W0.tape
theorem Old.at {n0 : Nat} {W0 : World} {k : LK} {w : World} (h : Old n0 W0 k w) (d : Nat) : Old n0 W0 k (w.at d) := ⟨h.size, h.heap, h.os, h.output, h.lic, h.tape⟩
theorem block_same {k : LK} {w w' : World} (h : Chg k w w') {b : Nat} (hb : b < w.heap.size) (hc : ∀ o, ¬ k.W (.cell ⟨b, o, none⟩)) (ho : ¬ k.W (.obj b)) : w'.heap[b]? = w.heap[b]? := by
  have hs : w.heap[b]? = some w.heap[b] := Array.getElem?_eq_getElem hb
  rw [hs]
  by_cases hn : NotCells w.heap[b]
  · exact h.obj b _ hs hn ho
  · have : ∃ c e f, w.heap[b] = .cells c e f := Classical.byContradiction fun hx => hn fun c e f he => hx ⟨c, e, f, he⟩
    obtain ⟨c, e, f, he⟩ := this
    rw [he] at hs ⊢
    exact h.row hs hc
theorem Old.own {n0 : Nat} {W0 : World} {k : LK} {w w' : World} (h : Old n0 W0 k w) (hc : Chg k w w') : Old n0 W0 (k.grow w.heap.size w'.heap.size) w' := by
  refine ⟨Nat.le_trans h.size hc.size, fun b hb => ?_, hc.os.trans h.os, hc.output.trans h.output, fun l hl => ?_, hc.tape.trans h.tape⟩
  · rw [← h.heap b hb]
    exact block_same hc (Nat.lt_of_lt_of_le hb h.size) (fun o hw => h.lic _ hw hb) (fun hw => h.lic _ hw hb)
  · rcases hl with hl | hl
    · exact h.lic l hl
    · exact fun hm => hl.mem.2 (hm.mono h.size)
/-- Only shunned places were released. -/
def RelIn (Shun : Loc → Prop) (t : Trace) : Prop := ∀ op ∈ t, ∀ a, op.act = .mark (.release a) → Shun (.cell a)
theorem RelIn.app {Shun : Loc → Prop} {t u : Trace} (h : RelIn Shun t) (hu : ∀ op ∈ u, ∀ a, op.act ≠ .mark (.release a)) : RelIn Shun (t ++ u) := fun op hop a ha => by
  rcases Array.mem_append.1 hop with h1 | h1
  · exact h op h1 a ha
  · exact absurd ha (hu op h1 a)
theorem EvOk.noRelease {k : LK} {n n' : Nat} {e : Event} (h : EvOk k n n' e) (a : Addr) : MemAct.ofEvent e ≠ .mark (.release a) := fun hx => by
  have := loc_of_ofEvent' hx
  rcases h with h | ⟨_, h, _⟩
  · rw [h] at this; cases this
  · rw [this] at h; exact h
theorem EvOk.evL {Shun : Loc → Prop} {k : LK} {n n' : Nat} {e : Event} (h : EvOk k n n' e) (hk : ∀ l, k.W l ∨ k.R l → ¬ Shun l) (hs : ∀ l, Shun l → MemLoc n l) : EvL Shun n' e := by
  refine ⟨fun x hx hsh => ?_, h.still.1, h.still.2, h.low⟩
  obtain ⟨_, _, h3⟩ := h.touch hx
  rcases h3 with h3 | h3 | h3
  · exact absurd (hs _ hsh) h3.mem.2
  · exact absurd hsh (hk _ (.inl h3))
  · exact absurd hsh (hk _ (.inr h3.2))
section
variable (P : Program) (Post : Value → World → Prop) (n0 : Nat) (W0 : World)
/-- ████ FROM HERE THE RUN ENDS WELL, whoever is still leaving. ████ -/
def Win (k : LK) (g : Goroutine) (w : World) : Prop :=
  ∀ (Shun : Loc → Prop) (gs : Array Goroutine) (sl : Option (Nat × Nat)) (t : Trace) (q : Nat → Nat), Old n0 W0 k w → gs[0]? = some g → Leavers P t gs q → Past Shun w.heap.size t → RelIn Shun t → (∀ l, Shun l → MemLoc w.heap.size l) →
    (∀ l, k.W l ∨ k.R l → MemLoc w.heap.size l ∧ ¬ Shun l) → EndsWell P Post (crowd gs w sl) t
end
section
variable {P : Program} {Post : Value → World → Prop} {n0 : Nat} {W0 : World}
theorem win_own {k : LK} {g : Goroutine} {w : World} (hr : g.status = .running) (h : ∀ d, ∃ g' w' es, stepG P true g (w.at d) = .go g' w' es ∧ Own k (w.at d) w' es ∧ Win P Post n0 W0 (k.grow w.heap.size w'.heap.size) g' w') : Win P Post n0 W0 k g w := by
  intro Shun gs sl t q
  generalize hM : sumTo gs.size q = M
  induction M using Nat.strongRecOn generalizing gs sl t q w with
  | _ M ih =>
  intro hO h0 hL hP hRel hS hk
  have haw : ∀ g ∈ gs, awake g := by
    intro x hx
    obtain ⟨i, hi, rfl⟩ := Array.mem_iff_getElem.1 hx
    rcases Nat.eq_zero_or_pos i with rfl | hpos
    · have : gs[0] = g := by simpa [Array.getElem?_eq_getElem hi] using h0
      rw [this]; exact awake_of (.inl hr)
    · exact awake_of ((hL.old i _ hpos (Array.getElem?_eq_getElem hi)).status.elim .inl fun x => .inr (.inr x))
  obtain ⟨i, x, d, sl', hi, hx, hst⟩ := crowd_pick (P := P) (w := w) (sl := sl) haw ⟨0, g, h0, hr⟩
  rcases Nat.eq_zero_or_pos i with rfl | hpos
  · obtain rfl : x = g := by rw [h0] at hi; exact (Option.some.inj hi).symm
    obtain ⟨g', w', es, hgo, hown, hwin⟩ := h d
    have hrunT := runT_crowd_go (P := P) (sl := sl') (i := 0) hi (show stepG P (0 == 0) x (w.at d) = _ from hgo)
    have hlt : 0 < gs.size := (Array.getElem?_eq_some_iff.1 h0).1
    have hsz : w.heap.size ≤ w'.heap.size := hown.chg.size
    refine .step (hst.trans hrunT) (hwin Shun _ sl' _ q ((hO.at d).own hown.chg) (by simp [hlt]) ⟨fun j y hj hy => ?_, fun j hj => ?_⟩ ((hP.mono hsz).own fun e he => (hown.evs e he).evL (fun l hl => (hk l hl).2) hS) (hRel.app fun op hop a => ?_) (fun l hl => (hS l hl).mono hsz) fun l hl => ?_)
    · have hne : 0 ≠ j := by omega
      rw [Array.getElem?_setIfInBounds_ne hne, Array.getElem?_map] at hy
      obtain ⟨z, hz, rfl⟩ := Option.map_eq_some_iff.1 hy
      have hq := hL.old j z hj hz
      rw [woken_quitsD hq, Deaf_other t (by omega) _ (fun op hop => by obtain ⟨e, _, rfl⟩ := Go.Conc.mem_ofEvents hop; rfl)]
      exact hq
    · rw [Deaf_other t (g' := 0) (by simp at hj; omega) _ (fun op hop => by obtain ⟨e, _, rfl⟩ := Go.Conc.mem_ofEvents hop; rfl)]
      exact hL.above j (by simpa using hj)
    · obtain ⟨e, he, rfl⟩ := Go.Conc.mem_ofEvents hop
      exact (hown.evs e he).noRelease a
    · rcases hl with (hl | hl) | hl
      · exact ⟨(hk l (.inl hl)).1.mono hsz, (hk l (.inl hl)).2⟩
      · exact ⟨hl.mem.1, fun hx => hl.mem.2 (hS l hx)⟩
      · exact ⟨(hk l (.inr hl)).1.mono hsz, (hk l (.inr hl)).2⟩
  · have hq := hL.old i x hpos hi
    have hi0 : (i == 0) = false := by simp; omega
    have hlt : i < gs.size := (Array.getElem?_eq_some_iff.1 hi).1
    cases hqi : q i with
    | zero => rw [hqi] at hq; rw [hq.1] at hx; cases hx
    | succ m =>
      rw [hqi] at hq
      rcases hq with ⟨hf, _⟩ | ⟨_, g', es, hm, hstp, hq'⟩
      · rw [hf] at hx; cases hx
      have hrunT := runT_crowd_go (P := P) (sl := sl') (i := i) hi (by rw [hi0]; exact hstp (w.at d))
      have hsz : ((gs.map (woken P x g' (w.at d))).setIfInBounds i g').size = gs.size := by simp
      have hsum : sumTo gs.size (upd q i m) + (m + 1) = sumTo gs.size q + m := by
        have := sumTo_upd q m id hlt
        simpa [hqi] using this
      refine .step (hst.trans hrunT) (ih (sumTo gs.size (upd q i m)) (by omega) (w := w.at d) (fun d' => h d') _ sl' _ (upd q i m) (by rw [hsz]) (hO.at d) ?_ ⟨fun j y hj hy => ?_, fun j hj => ?_⟩ (hP.mute (by omega) hm) (hRel.app fun op hop a => ?_) hS hk)
      · have hne : i ≠ 0 := by omega
        rw [Array.getElem?_setIfInBounds_ne hne, Array.getElem?_map, h0]
        simp [woken_run hr]
      · by_cases hji : i = j
        · subst hji
          rw [Array.getElem?_setIfInBounds_self_of_lt (by simpa using hlt)] at hy
          obtain rfl := Option.some.inj hy
          rw [upd_same, Deaf_own]
          exact hq'
        · rw [Array.getElem?_setIfInBounds_ne hji, Array.getElem?_map] at hy
          obtain ⟨z, hz, rfl⟩ := Option.map_eq_some_iff.1 hy
          have hqj := hL.old j z hj hz
          rw [woken_quitsD hqj, upd_ne q m (Ne.symm hji), Deaf_other t hji _ (fun op hop => by obtain ⟨e, _, rfl⟩ := Go.Conc.mem_ofEvents hop; rfl)]
          exact hqj
      · rw [Deaf_other t (g' := i) (by simp at hj; omega) _ (fun op hop => by obtain ⟨e, _, rfl⟩ := Go.Conc.mem_ofEvents hop; rfl)]
        exact hL.above j (by simpa using hj)
      · obtain ⟨e, he, rfl⟩ := Go.Conc.mem_ofEvents hop
        intro hx
        have := hm e he
        obtain ⟨loc, wr, sy⟩ := e
        have hl := loc_of_ofEvent' hx
        simp only at hl
        subst hl
        simp [Event.mute] at this
/-- The return that ends the run. -/
theorem win_end {k : LK} {g : Goroutine} {w : World} {v : Value} (hr : g.status = .running) (h : ∀ d, stepG P true g (w.at d) = .ended (.done v) (w.at d) #[]) (hp : ∀ d, Old n0 W0 k (w.at d) → Post v (w.at d)) : Win P Post n0 W0 k g w := by
  intro Shun gs sl t q hO h0 hL hP _ _ _
  refine beside_ends (D := fun _ _ _ => False) (B := w.heap.size) (n := 0) (fun _ _ _ h => h.elim) h0 hL hP ?_
  rintro w₁ ⟨d, rfl⟩
  exact ⟨hr, v, #[], h d, by simp, hp d (hO.at d)⟩
end
end Go.Proofs.Yticdjkkcfdbdcaa

/- Workers of disjoint memory under a group: their family; and goroutine 0's fork and join. No program; no conditions but those named. -/
namespace Go.Proofs.Yticdjkkcfdbdcaa
open Go.Conc Go.ConcN

/-- What nobody may write meanwhile. -/
def keepK (X : Loc → Prop) : LK := ⟨fun _ => False, X, fun _ => False⟩
/-- The family: X stands as it was in w0; a worker that has left has done its part. -/
def famX (X Rl : Loc → Prop) (w0 : World) (m0 : Nat) (Q : Nat → LK → World → Prop) : Fam where
  τ := Unit
  G n T K w t := Rely (keepK X) w0 w ∧ (∀ i, i < n → ∀ l, X l → ¬ (K i).W l) ∧ (∀ l, X l → MemLoc w0.heap.size l) ∧ RelIn Rl t ∧ 0 < m0 ∧ ∀ i, m0 ≤ i → i < n → T i = none → Q (i - m0) (K i) w
  GR _ _ _ := True
  Q i _ k w := Q (i - m0) k w
section
variable {X Rl : Loc → Prop} {w0 : World} {m0 : Nat} {Q : Nat → LK → World → Prop} {Wg : Nat}
theorem keep_chg {k : LK} {w w' : World} (h : Chg k w w') (hX : ∀ l, X l → ¬ k.W l) (hm : ∀ l, X l → MemLoc w.heap.size l) : Rely (keepK X) w w' where
  size := h.size
  tape := h.tape
  os := h.os
  output := h.output
  shape := h.shape
  cell := fun a ha => by
    have hx : X (.cell a) := ha.elim False.elim id
    exact h.cell a (hm _ hx) (hX _ hx)
  obj := fun b o ho hn ha => by
    have hx : X (.obj b) := ha.elim False.elim id
    exact h.obj b o ho hn (hX _ hx)
theorem famX_ok (hQ : ∀ i k w w', Q i k w → Rely k w w' → Q i k w') (hXW : ∀ l, X l → ¬ WgLoc Wg l ∧ l ≠ .obj Wg) : (famX X Rl w0 m0 Q).Ok Wg where
  refl _ _ := trivial
  trans _ _ _ _ _ _ := trivial
  at_ _ _ _ := trivial
  gAt n T K w t d h := ⟨h.1.trans (.at _ _ d), h.2.1, h.2.2.1, h.2.2.2.1, h.2.2.2.2.1, fun i h1 h2 h3 => hQ _ _ _ _ (h.2.2.2.2.2 i h1 h2 h3) (.at _ _ d)⟩
  mute n T K w t i u h _ hu := ⟨h.1, h.2.1, h.2.2.1, h.2.2.2.1.app fun op hop => (hu op hop).2.2, h.2.2.2.2⟩
  own n T K w w' t i es fn pos h hl hi hT ho := by
    obtain ⟨h1, h2, h3, h4, h5, h6⟩ := h
    have hm : ∀ l, X l → MemLoc w.heap.size l := fun l hx => (h3 l hx).mono h1.size
    refine ⟨⟨h1.trans (keep_chg ho.chg (h2 i hi) hm), fun j hj l hx => ?_, h3, h4.app fun op hop a => ?_, h5, fun j h7 h8 h9 => ?_⟩, fun _ _ _ => trivial⟩
    · by_cases e : j = i
      · subst e
        rw [upd_same]
        rintro (hw | hw)
        · exact h2 j hj l hx hw
        · exact hw.mem.2 (hm l hx)
      · rw [upd_ne K _ e]; exact h2 j hj l hx
    · obtain ⟨e, he, rfl⟩ := Go.Conc.mem_ofEvents hop
      exact (ho.evs e he).noRelease a
    · have e : j ≠ i := fun e => by
        subst e
        rcases hT with x | x
        · omega
        · exact x h9
      rw [upd_ne K _ e]
      exact hQ _ _ _ _ (h6 j h7 h8 h9) (ho.chg.rely hl hi h8 (fun x => e x.symm))
  wg n T K w w' t i u h hl hi hA ht hcl hal hu := by
    obtain ⟨h1, h2, h3, h4, h5, h6⟩ := h
    have hcell : ∀ a : Addr, a.block ≠ Wg → w'.cell? a = w.cell? a := fun a ha => cell_block (ht.block _ ha)
    have shape : ∀ (b : Nat) (o : Obj), w.heap[b]? = some o → ∃ o₁, w'.heap[b]? = some o₁ ∧ Alike o o₁ := fun b o ho => by
      by_cases e : b = Wg
      · subst e; exact hal o ho
      · exact ⟨o, (ht.block b e).trans ho, .refl o⟩
    refine ⟨⟨h1.trans ⟨Nat.le_of_eq ht.size.symm, ht.tape, ht.os, ht.output, shape, fun a ha => ?_, fun b o ho hn ha => ?_⟩, h2, h3, h4.app fun op hop => (hu op hop).2.1, h5, fun j h7 h8 h9 => ?_⟩, fun _ _ _ => trivial⟩
    · have hx : X (.cell a) := ha.elim False.elim id
      exact hcell a fun e => (hXW _ hx).1 ⟨a.off, a.spot, by subst e; rfl⟩
    · have hx : X (.obj b) := ha.elim False.elim id
      exact (ht.block b fun e => (hXW _ hx).2 (by rw [e])).trans ho
    · refine hQ _ _ _ _ (h6 j h7 h8 h9) ⟨Nat.le_of_eq ht.size.symm, ht.tape, ht.os, ht.output, shape, fun a ha => ?_, fun b o ho hn ha => ?_⟩
      · exact hcell a fun e => hA j h8 _ ha ⟨a.off, a.spot, by subst e; rfl⟩
      · refine (ht.block b fun e => ?_).trans ho
        subst e
        obtain ⟨c, e, f, hc⟩ := hcl
        rw [hc] at ho; cases ho
        exact hn _ _ _ rfl
  leave n T K w t i x h hl hi _ hq := by
    obtain ⟨h1, h2, h3, h4, h5, h6⟩ := h
    refine ⟨h1, h2, h3, h4, h5, fun j h7 h8 h9 => ?_⟩
    by_cases e : j = i
    · subst e; exact hq
    · rw [upd_ne T _ e] at h9; exact h6 j h7 h8 h9

/-- The family at a go statement. -/
theorem famX_go {n : Nat} {T : Nat → Option Unit} {K : Nat → LK} {w : World} {t : Trace} {a b : MemOp} {k k' kc : LK} (h : (famX X Rl w0 m0 Q).G n T K w t) (hn : 0 < n) (hk : K 0 = k) (kW : ∀ l, k'.W l → k.W l) (cW : ∀ l, kc.W l → k.W l) (ha : a.act = .go n) (hb : b.act = .start) :
    (famX X Rl w0 m0 Q).G (n + 1) (upd T n (some ())) (upd (upd K 0 k') n kc) w (t ++ #[a, b]) := by
  obtain ⟨h1, h2, h3, h4, h5, h6⟩ := h
  refine ⟨h1, fun j hj l hx => ?_, h3, h4.app fun op hop x => ?_, h5, fun j h7 h8 h9 => ?_⟩
  · by_cases e : j = n
    · subst e; rw [upd_same]; exact fun hw => h2 0 hn l hx (by rw [hk]; exact cW l hw)
    · rw [upd_ne _ _ e]
      by_cases e2 : j = 0
      · subst e2; rw [upd_same]; exact fun hw => h2 0 hn l hx (by rw [hk]; exact kW l hw)
      · rw [upd_ne _ _ e2]; exact h2 j (by omega) l hx
  · simp at hop
    rcases hop with rfl | rfl
    · rw [ha]; simp
    · rw [hb]; simp
  · have e : j ≠ n := fun e => by
      subst e
      have := (upd_same T j (some ())).symm.trans h9
      cases this
    have h9' : T j = none := (upd_ne T (some ()) e).symm.trans h9
    rw [upd_ne _ _ e, upd_ne _ _ (by omega)]
    exact h6 j h7 (by omega) h9'
end
section
variable {P : Program} {Post : Value → World → Prop} {n0 : Nat} {W0 : World}
/-- ████ FORK AND JOIN ████: goroutine 0 at 'Add' of its first worker or, without one, at 'Wait'; behind the wait it owns again what it gave away, and what the workers made. -/
theorem win_fork {ty : TypeId} {Wg tot : Nat} {X : Loc → Prop} {Q : Nat → LK → World → Prop} {k k0 : LK} {g : Goroutine} {Anc : Goroutine → Prop} {w : World} (hQ : ∀ i k w w', Q i k w → Rely k w w' → Q i k w')
    (hwg : WgIs ty Wg w 0 0) (htot : tot ≤ 16) (hWk : ∀ l, WgLoc Wg l → k.W l)
    (hX : ∀ l, X l → MemLoc w.heap.size l ∧ ¬ k0.W l ∧ ¬ WgLoc Wg l ∧ l ≠ .obj Wg) (hXo : ∀ l, MemLoc n0 l → X l)
    (kW : ∀ l, k0.W l → k.W l ∧ ¬ WgLoc Wg l) (kR : ∀ l, k0.R l → (k.W l ∨ k.R l) ∧ ¬ WgLoc Wg l) (kA : ∀ l, k0.A l ↔ WgLoc Wg l)
    (hWP : ∀ m0 p0 Shun, WP (wgProto P (famX X Shun w m0 Q) ty Wg m0 p0 tot Shun (fun g' _ => Anc g')) 0 k0 (.main (.sp tot 3)) g w)
    (hc : ∀ (gend : Goroutine) (w' : World) (k' : LK) (kk : Nat → LK), Anc gend → Rely (keepK X) w w' → (∀ l, k.W l → ¬ WgLoc Wg l → k'.W l) → (∀ l, k.R l → ¬ WgLoc Wg l → k'.R l) → (∀ l, NewLoc w.heap.size w'.heap.size l → k'.W l) → (∀ j, j < tot → Q j (kk j) w') → (∀ i j, i < tot → j < tot → i ≠ j → ∀ l, (kk i).W l → ¬ (kk j).W l) → Win P Post n0 W0 k' gend w') :
    Win P Post n0 W0 k g w := by
  intro Shun gs sl t q hO h0 hL hP hRel hS hk
  have hpos : 0 < gs.size := (Array.getElem?_eq_some_iff.1 h0).1
  have hWs : ∀ l, WgLoc Wg l → ¬ Shun l := fun l hl => (hk l (.inl (hWk l hl))).2
  have hnr : NoRelease (stW Wg) t := fun i hi => by
    obtain ⟨op, hop, ha⟩ := Option.map_eq_some_iff.1 (show (t[i]?).map (·.act) = some _ from hi)
    exact hWs _ ⟨0, none, rfl⟩ (hRel op (Array.mem_of_getElem? hop) (stW Wg) ha)
  obtain ⟨o0, hw0⟩ := hWP gs.size t.size Shun
  have hok : (famX X Shun w gs.size Q).Ok Wg := famX_ok hQ fun l hx => (hX l hx).2.2
  have hwok := wg_ok (P := P) (ty := ty) (m0 := gs.size) (p0 := t.size) (tot := tot) (Shun := Shun) (Anc := fun g' _ => Anc g') hok
  let S0 : Nat → WSt (famX X Shun w gs.size Q).τ := fun i => if i = 0 then .main (.sp tot 3) else .gone
  let K0 : Nat → LK := fun i => if i = 0 then k0 else LK.none
  have hlic : Lic gs.size K0 w t := Lic.start hP hL k0 (fun l hl => hk l (.inl (kW l hl).1)) (fun l hl => hk l (kR l hl).1) (fun l hl => hk l (.inl (hWk l ((kA l).1 hl)))) (fun l hl ha => (hl.elim (fun x => (kW l x).2) (fun x => (kR l x).2)) ((kA l).1 ha))
  have hcast : Cast (pr := wgProto P (famX X Shun w gs.size Q) ty Wg gs.size t.size tot Shun (fun g' _ => Anc g')) gs.size gs w t S0 K0 (fun i => if i = 0 then o0 else .leaf) q := by
    refine ⟨rfl, hpos, hlic, ⟨WgInv.start hP hL hpos hwg hnr, ⟨.refl _ _, fun i hi l hx => ?_, fun l hx => (hX l hx).1, hRel, hpos, fun i h1 h2 _ => by omega⟩, fun i hi hne l hl => ?_, ⟨?_, htot⟩, ?_⟩, ?_, fun i hi => ?_⟩
    · by_cases e : i = 0
      · subst e; exact (hX l hx).2.1
      · simp only [K0, if_neg e]; exact id
    · by_cases e : i = 0
      · subst e; exact (kA l).2 hl
      · exact absurd (if_neg e) hne
    · show gs.size + leftW (WSt.main (MT.sp tot 3)) = _
      rfl
    · intro r s e hs
      have e' : (WSt.main (MT.sp tot 3) : WSt (famX X Shun w gs.size Q).τ) = .main (.sp r s) := e
      cases e'; omega
    · show ¬ (_ = _)
      simp [S0]
    · by_cases e : i = 0
      · subst e
        exact ⟨g, h0, .inl ⟨by show ¬ (_ = _); simp [S0], g, w, .inl rfl, .refl _ _, ⟨trivial, fun _ st sm h => ⟨st, sm, h, Int.le_refl _⟩⟩, hw0⟩⟩
      · refine ⟨gs[i], Array.getElem?_eq_getElem hi, .inr ⟨if_neg e, e, hL.old i _ (by omega) (Array.getElem?_eq_getElem hi)⟩⟩
  obtain ⟨N, gs', w', sl', t', n', S', K', O', q', g', hrun, hc', hg', hgr, hend⟩ := cast_runs hwok _ _ _ _ _ gs w t S0 K0 q sl rfl rfl rfl hcast
  obtain ⟨hret, hanc⟩ := hend
  replace hanc : Anc g' := hanc
  obtain ⟨f1, f2, f3, f4, f5⟩ := hc'.f
  obtain ⟨hpast, hgone⟩ := f1.past hret hc'.lic
  obtain ⟨e1, e2, e3, e4, e5, e6⟩ := f2
  have hnt : n' = gs.size + tot := by
    have := f4.1
    rw [hret] at this
    exact this
  refine .steps hrun ?_
  have hsz : w.heap.size ≤ w'.heap.size := e1.size
  have hWm : ∀ l, WgLoc Wg l → MemLoc w.heap.size l := fun l hl => (hk l (.inl (hWk l hl))).1
  refine hc g' w' ⟨fun l => (MemLoc w'.heap.size l ∧ ¬ (Shun l ∨ WgLoc Wg l)) ∧ ¬ MemLoc n0 l, fun l => MemLoc w'.heap.size l ∧ ¬ (Shun l ∨ WgLoc Wg l), fun _ => False⟩ (fun j => K' (gs.size + j)) hanc e1 (fun l hl hn => ⟨⟨(hk l (.inl hl)).1.mono hsz, fun x => x.elim (hk l (.inl hl)).2 hn⟩, hO.lic l hl⟩)
    (fun l hl hn => ⟨(hk l (.inr hl)).1.mono hsz, fun x => x.elim (hk l (.inr hl)).2 hn⟩) (fun l hl => ⟨⟨hl.mem.1, fun x => hl.mem.2 (x.elim (hS l) (hWm l))⟩, fun hm => hl.mem.2 (hm.mono hO.size)⟩) (fun j hj => ?_) (fun i j hi hj hij => hc'.lic.ww (gs.size + i) (gs.size + j) (by omega) (by omega) (by omega))
    (fun l => Shun l ∨ WgLoc Wg l) gs' sl' t' q' ⟨Nat.le_trans hO.size hsz, fun b hb => ?_, e1.os.trans hO.os, e1.output.trans hO.output, fun l hl => hl.2, e1.tape.trans hO.tape⟩ hg' ⟨fun i y hi hy => ?_, fun j hj => ?_⟩ hpast (fun op hop a ha => .inl (e4 op hop a ha))
    (fun l hl => hl.elim (fun x => (hS l x).mono hsz) (fun x => (hWm l x).mono hsz)) (fun l hl => hl.elim (fun x => x.1) id)
  · have h6 := e6 (gs.size + j) (by omega) (by omega) (by show (S' (gs.size + j)).x = none; rw [hgone (gs.size + j) (by omega) (by omega)]; rfl)
    rw [Nat.add_sub_cancel_left] at h6
    exact h6
  · rw [← hO.heap b hb]
    have hb' : b < w.heap.size := Nat.lt_of_lt_of_le hb hO.size
    have hs : w.heap[b]? = some w.heap[b] := Array.getElem?_eq_getElem hb'
    rw [hs]
    by_cases hn : NotCells w.heap[b]
    · exact e1.obj b _ hs hn (.inr (hXo _ hb))
    · have : ∃ c e f, w.heap[b] = .cells c e f := Classical.byContradiction fun hx => hn fun c e f he => hx ⟨c, e, f, he⟩
      obtain ⟨c, e, f, he⟩ := this
      rw [he] at hs ⊢
      exact e1.row hs fun o => .inr (hXo _ hb)
  · have hin : i < n' := by rw [← hc'.size]; exact (Array.getElem?_eq_some_iff.1 hy).1
    obtain ⟨y', hy', hcase⟩ := hc'.th i hin
    rw [hy] at hy'; cases hy'
    rcases hcase with ⟨hng, _⟩ | ⟨_, _, hq⟩
    · exact absurd (hgone i hin (by omega)) hng
    · exact hq
  · exact hc'.lic.above j (by rw [← hc'.size]; exact hj)
end
end Go.Proofs.Yticdjkkcfdbdcaa
