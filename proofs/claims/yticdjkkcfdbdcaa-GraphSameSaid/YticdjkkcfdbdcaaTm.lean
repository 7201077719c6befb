/- Walks in company by lists of what the temporaries hold. No program; no conditions but those named. -/
import Derived.Test.YticdjkkcfdbdcaaDrawE
namespace Go.Proofs.Yticdjkkcfdbdcaa
open Go.Conc Go.ConcN
def getT : List (Nat × Value) → Nat → Option Value
  | [], _ => none
  | (d, v) :: l, t => if d = t then some v else getT l t
/-- What the temporaries hold. -/
structure Tm (nt : Nat) (ds : List Deferred) (l : List (Nat × Value)) (a : Act) : Prop where
  size : a.tmps.size = nt
  d : a.defers = ds
  of : ∀ t v, getT l t = some v → a.eval (.tmp t) = v
theorem Tm.put {nt : Nat} {ds : List Deferred} {l : List (Nat × Value)} {a : Act} (h : Tm nt ds l a) {d : Nat} (hd : d < nt) (v : Value) : Tm nt ds ((d, v) :: l) (a.put (some d) v) :=
  ⟨(put_size _ _ _).trans h.size, h.d, fun t x hx => by
    unfold getT at hx
    by_cases e : d = t
    · rw [if_pos e] at hx
      cases hx
      subst e
      exact eval_put_eq _ (by rw [h.size]; exact hd) _
    · rw [if_neg e] at hx
      exact (eval_put_ne _ e _).trans (h.of t x hx)⟩
theorem Tm.to {nt : Nat} {ds : List Deferred} {l l' : List (Nat × Value)} {a : Act} (h : Tm nt ds l a) (hl : ∀ t v, getT l' t = some v → getT l t = some v) : Tm nt ds l' a := ⟨h.size, h.d, fun t v hv => h.of t v (hl t v hv)⟩
theorem getT_cons {l l' : List (Nat × Value)} {d : Nat} {v : Value} (h1 : getT l d = some v) (h2 : ∀ t v, getT l' t = some v → getT l t = some v) : ∀ t x, getT ((d, v) :: l') t = some x → getT l t = some x := fun t x hx => by
  unfold getT at hx
  by_cases e : d = t
  · rw [if_pos e] at hx; cases hx; rw [← e]; exact h1
  · rw [if_neg e] at hx; exact h2 t x hx
theorem getT_nil {l : List (Nat × Value)} : ∀ t x, getT [] t = some x → getT l t = some x := fun t x hx => by cases hx
section
variable {P : Program} {J : LK → Goroutine → World → Prop} {main : Bool} {R : LK → World → World → Prop} (hJ : JOk P main R J) (S : LK → World → Prop) (hSR : ∀ k w w₁, S k w → R k w w₁ → S k w₁)
  {ops : Array Oper} {b : Frame} {K : List Item} {cs : List Frame} {a : Act} {k : LK} {W : World} {nt : Nat} {ds : List Deferred} {l : List (Nat × Value)}
include hJ hSR
/-- A region is entered. -/
theorem t_region {id n : Nat} (hz : ops.size = n) (h : ∀ k w, S k w → J k (G (b.at a (.inRegion ops (List.range n) :: K)) cs) w) (h0 : S k W) : J k (G (b.at a (.code (.region id ops false) :: K)) cs) W :=
  j_ctl hJ (fun w => stepG_region) fun w₁ hR => by rw [hz]; exact h k w₁ (hSR _ _ _ h0 hR)
/-- An operation that yields a value. -/
theorem t_val (hb : b.kind ≠ .early) {i : Nat} {rest : List Nat} {p : Op} {d : Nat} (hx : (ops[i]?).map (fun o => (o.op, o.guard, o.dst)) = some (p, none, some d)) (hd : d < nt) (hT : Tm nt ds l a) (v : Value) (hop : ∀ o, o.op = p → ∀ k w, S k w → OpV P b.fn a.eval o k w v)
    (hn : ∀ a', Tm nt ds ((d, v) :: l) a' → ∀ k w, S k w → J k (G (b.at a' (.inRegion ops rest :: K)) cs) w) (h0 : S k W) : J k (G (b.at a (.inRegion ops (i :: rest) :: K)) cs) W := by
  obtain ⟨o, ho, hp, hg, hdo⟩ := op_ex hx
  refine j_val hJ S hSR hb ho (yld hg _) (hop o hp) (fun k w hS => ?_) h0
  rw [hdo]
  exact hn _ (hT.put hd v) k w hS
theorem t_move (hb : b.kind ≠ .early) {i : Nat} {rest : List Nat} {t d : Nat} {asg : Bool} (hx : (ops[i]?).map (fun o => (o.op, o.guard, o.dst)) = some (if asg then .assign (.tmp t) else .move (.tmp t), none, some d)) (hd : d < nt) (hT : Tm nt ds l a) {v : Value} (hv : getT l t = some v)
    (hn : ∀ a', Tm nt ds ((d, v) :: l) a' → ∀ k w, S k w → J k (G (b.at a' (.inRegion ops rest :: K)) cs) w) (h0 : S k W) : J k (G (b.at a (.inRegion ops (i :: rest) :: K)) cs) W :=
  t_val hJ S hSR hb hx hd hT v (fun o hp k w hS => by
    have := opv_move (P := P) (fn := b.fn) (e := a.eval) (k := k) (w := w) (x := .tmp t) (o := o) (by cases asg <;> simp_all)
    rwa [hT.of t v hv] at this) hn h0
theorem t_const (hb : b.kind ≠ .early) {i : Nat} {rest : List Nat} {d : Nat} {asg : Bool} {v : Value} (hx : (ops[i]?).map (fun o => (o.op, o.guard, o.dst)) = some (if asg then .assign (.const v) else .move (.const v), none, some d)) (hd : d < nt) (hT : Tm nt ds l a)
    (hn : ∀ a', Tm nt ds ((d, v) :: l) a' → ∀ k w, S k w → J k (G (b.at a' (.inRegion ops rest :: K)) cs) w) (h0 : S k W) : J k (G (b.at a (.inRegion ops (i :: rest) :: K)) cs) W :=
  t_val hJ S hSR hb hx hd hT v (fun o hp k w hS => opv_move (P := P) (fn := b.fn) (e := a.eval) (k := k) (w := w) (x := .const v) (o := o) (by cases asg <;> simp_all)) hn h0
theorem t_load (hb : b.kind ≠ .early) {i : Nat} {rest : List Nat} {t d : Nat} {ty : TypeId} (hx : (ops[i]?).map (fun o => (o.op, o.guard, o.dst)) = some (.load ty (.tmp t), none, some d)) (hd : d < nt) (hT : Tm nt ds l a) {p : Addr} (hv : getT l t = some (.pointer (some p))) (hag : ∀ w, (isAgg ty).run P w = .ok false w) {v : Value}
    (hc : ∀ k w, S k w → w.cell? p = some v ∧ (k.W (.cell p) ∨ k.R (.cell p)))
    (hn : ∀ a', Tm nt ds ((d, v) :: l) a' → ∀ k w, S k w → J k (G (b.at a' (.inRegion ops rest :: K)) cs) w) (h0 : S k W) : J k (G (b.at a (.inRegion ops (i :: rest) :: K)) cs) W :=
  t_val hJ S hSR hb hx hd hT v (fun o hp k w hS => opv_load hp (hT.of t _ hv) hag (hc k w hS).1 (hc k w hS).2) hn h0
theorem t_index (hb : b.kind ≠ .early) {i : Nat} {rest : List Nat} {t u d : Nat} {ty elem : TypeId} (hx : (ops[i]?).map (fun o => (o.op, o.guard, o.dst)) = some (.indexAddr ty (.tmp t) (.tmp u), none, some d)) (hd : d < nt) (hT : Tm nt ds l a) {q : Addr} {len cap sz : Nat} {n : Nat} (h1 : getT l t = some (.slice (some q) len cap)) (h2 : getT l u = some (.int .i64 (n : Int))) (hlt : n < len) (ht : P.underlying ty = some (.slice elem)) (hsz : ∀ w, (Go.sizeOf elem).run P w = .ok sz w)
    (hn : ∀ a', Tm nt ds ((d, .pointer (some (q.add (n * sz)))) :: l) a' → ∀ k w, S k w → J k (G (b.at a' (.inRegion ops rest :: K)) cs) w) (h0 : S k W) : J k (G (b.at a (.inRegion ops (i :: rest) :: K)) cs) W :=
  t_val hJ S hSR hb hx hd hT _ (fun o hp k w hS => by
    have := opv_index (P := P) (fn := b.fn) (k := k) (w := w) hp (hT.of t _ h1) (hT.of u _ h2) (Int.natCast_nonneg n) (by omega) ht hsz
    exact this) hn h0
/-- An operation whose meaning is told. -/
theorem t_run (hb : b.kind ≠ .early) {i : Nat} {rest : List Nat} {p : Op} {d : Nat} (hx : (ops[i]?).map (fun o => (o.op, o.guard, o.dst)) = some (p, none, some d)) (hd : d < nt) (hT : Tm nt ds l a) {v : Value} (hop : ∀ o, o.op = p → ∀ w, (execOp a.eval o).runT P w #[] = (.ok (.value v) w, #[]))
    (hn : ∀ a', Tm nt ds ((d, v) :: l) a' → ∀ k w, S k w → J k (G (b.at a' (.inRegion ops rest :: K)) cs) w) (h0 : S k W) : J k (G (b.at a (.inRegion ops (i :: rest) :: K)) cs) W :=
  t_val hJ S hSR hb hx hd hT v (fun o hp k w hS => by
    have := hop o hp w
    rw [Sem.runT_eq] at this
    obtain ⟨e1, e2⟩ := Prod.mk.inj this
    exact ⟨e1, by rw [e2, seen_empty]; exact .idle k w⟩) hn h0
/-- A store. -/
theorem t_store {J' : LK → Goroutine → World → Prop} {R' : LK → World → World → Prop} (hb : b.kind ≠ .early) {i : Nat} {rest : List Nat} {t u : Nat} {ty : TypeId} (hx : (ops[i]?).map (fun o => (o.op, o.guard, o.dst)) = some (.store ty (.tmp t) (.tmp u), none, none)) (hT : Tm nt ds l a) {p : Addr} {v : Value} (h1 : getT l t = some (.pointer (some p))) (h2 : getT l u = some v) (ho : (∀ c, v ≠ .agg c) ∧ ∀ c, v ≠ .tuple c) (hsz : ∀ w, (Go.sizeOf ty).run P w = .ok 1 w)
    (hc : ∀ k w, S k w → (∃ x, w.cell? p = some x) ∧ w.frozen? p = false ∧ k.W (.cell p)) (hn : ∀ k w, S k w → J k (G (b.at a (.inRegion ops rest :: K)) cs) (w.setCell p v)) (h0 : S k W) : J k (G (b.at a (.inRegion ops (i :: rest) :: K)) cs) W := by
  obtain ⟨o, ho', hp, hg, hdo⟩ := op_ex hx
  refine hJ.own _ _ _ rfl rfl fun w₁ hR => ?_
  have hS := hSR _ _ _ h0 hR
  obtain ⟨⟨x, hx1⟩, hz, hw⟩ := hc _ _ hS
  obtain ⟨e1, e2⟩ := op_store (P := P) (fn := b.fn) (k := k) (w := w₁) hp (hT.of t _ h1) (hT.of u _ h2) ho hsz hx1 hz hw
  refine ⟨_, _, _, stepG_none ho' (yld hg _) hb e1, e2, ?_⟩
  rw [setCell_size, grow_self, hdo]
  exact hn k w₁ hS
end
end Go.Proofs.Yticdjkkcfdbdcaa
