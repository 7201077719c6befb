/- The processes of the lone world as they lie in company. No conditions but those named. -/
import Derived.Test.YticdjkkcfdbdcaaPhY
import Derived.Test.YticdjkkcfdbdcaaCut
import Derived.Test.YticdjkkcfdbdcaaScO
namespace Go.Proofs.Yticdjkkcfdbdcaa
open Go.Conc Go.ConcN Go.RowKit
section
variable {S : FnSet} {P : Program} {ρ : Ren} {k : LK} {L W : World}
/-- A row of the lone world whose type is one: it is whole in company. -/
theorem Mir.row (h : Mir S P ρ k L W) {b c s : Nat} {x : Array Value} {e : TypeId} {fz : Nat × Nat} (hb : ρ b = some (c, s)) (hl : L.heap[b]? = some (.cells x e fz)) (he : P.info? e ≠ none) : s = 0 ∧ c < W.heap.size ∧
    ∀ (i : Nat) v, x[i]? = some v → ∃ v', W.cell? ⟨c, i, none⟩ = some v' ∧ VR S ρ v v' ∧ Lik k ⟨c, i, none⟩ ∧ (¬ (fz.1 ≤ i ∧ i < fz.2) → k.W (.cell ⟨c, i, none⟩) ∧ W.frozen? ⟨c, i, none⟩ = false) := by
  obtain ⟨x', e', fz', h1, h2⟩ := h.wr.shapes b c s x e fz hb hl
  have hs : s = 0 := by
    rcases h2 with h2 | h2
    · exact h2.2.1
    · exact absurd (h2.2 ▸ h.pr.none) he
  subst hs
  refine ⟨rfl, (h.wr.lt _ _ _ hb).2, fun i v hv => ?_⟩
  obtain ⟨x2, e2, fz2, v', g1, g2, g3, g4, g5⟩ := h.wr.cells b c 0 x e fz hb hl i v hv
  rw [Nat.zero_add] at g2 g4 g5
  refine ⟨v', by simp [World.cell?, g1, g2], g3, g4, fun hn => ⟨(g5 hn).1, ?_⟩⟩
  have := (g5 hn).2
  simp only [World.frozen?, g1]
  simpa using this
theorem list_choose {α : Type} {R : Nat → α → Prop} : ∀ n, (∀ j, j < n → ∃ y, R j y) → ∃ l : List α, l.length = n ∧ ∀ (j : Nat) y, l[j]? = some y → R j y
  | 0, _ => ⟨[], rfl, fun j y h => by simp at h⟩
  | n + 1, h => by
    obtain ⟨l, h1, h2⟩ := list_choose n fun j hj => h j (by omega)
    obtain ⟨y, hy⟩ := h n (Nat.lt_succ_self n)
    refine ⟨l ++ [y], by simp [h1], fun j z hz => ?_⟩
    by_cases e : j < l.length
    · rw [List.getElem?_append_left e] at hz; exact h2 j z hz
    · rw [List.getElem?_append_right (by omega)] at hz
      have : j - l.length = 0 := by
        have := (List.getElem?_eq_some_iff.1 hz).1
        simp at this; omega
      rw [this] at hz
      cases hz
      rw [show j = n by omega]; exact hy
theorem vr_int {S : FnSet} {ρ : Ren} {n : Int} {v : Value} (h : VR S ρ (.int .i64 n) v) : v = .int .i64 n := by cases h; rfl
end
end Go.Proofs.Yticdjkkcfdbdcaa

/- The fork of phase.Run, goroutine 0 beside leavers. No conditions but those named. -/
namespace Go.Proofs.Yticdjkkcfdbdcaa
open Go.Conc Go.ConcN Go.RowKit
theorem run_allocWg (e : Operand → Value) (o : Oper) (hop : o.op = .alloc 114) (w : World) : (execOp e o).runT Try.prog w #[] = (.ok (.value (.pointer (some ⟨w.heap.size, 0, none⟩))) { w with heap := w.heap.push (.cells #[.int .u64 0, .int .u32 0] 114) }, #[]) := by
  simp [go_sem, hop, execOp]
end Go.Proofs.Yticdjkkcfdbdcaa

/- Behind the join of phase.Run: the lone world told anew. No conditions but those named. -/
namespace Go.Proofs.Yticdjkkcfdbdcaa
open Go.Conc Go.ConcN Go.RowKit
theorem Told.refl (o : Obj) : Told o o := by
  cases o <;> first | exact ⟨_, rfl, rfl⟩ | exact ⟨_, _, _, _, _, _, rfl⟩ | rfl
end Go.Proofs.Yticdjkkcfdbdcaa

/- The fork and the join of phase.Run, told of the lone world. No conditions but those named. -/
namespace Go.Proofs.Yticdjkkcfdbdcaa
open Go.Conc Go.ConcN Go.RowKit
def putL (ts : List Nat) (x : Nat → Value) (a : Act) : Act := ts.foldl (fun a t => a.put (some t) (x t)) a
theorem putL_size (x : Nat → Value) : ∀ (ts : List Nat) (a : Act), (putL ts x a).tmps.size = a.tmps.size
  | [], _ => rfl
  | t :: ts, a => (putL_size x ts _).trans (put_size _ _ _)
theorem putL_defers (x : Nat → Value) : ∀ (ts : List Nat) (a : Act), (putL ts x a).defers = a.defers
  | [], _ => rfl
  | t :: ts, a => (putL_defers x ts _).trans rfl
theorem putL_eval (x : Nat → Value) {i : Nat} : ∀ (ts : List Nat) (a : Act), i < a.tmps.size → (putL ts x a).eval (.tmp i) = if i ∈ ts then x i else a.eval (.tmp i)
  | [], _, _ => rfl
  | t :: ts, a, hi => by
    have := putL_eval x ts (a.put (some t) (x t)) (by rw [put_size]; exact hi)
    show (putL ts x (a.put (some t) (x t))).eval (.tmp i) = _
    rw [this]
    by_cases h1 : i ∈ ts
    · rw [if_pos h1, if_pos (List.mem_cons_of_mem _ h1)]
    · rw [if_neg h1]
      by_cases h2 : t = i
      · subst h2
        rw [if_pos (List.mem_cons_self ..), eval_put_eq _ hi]
      · rw [if_neg (by intro h; rcases List.mem_cons.1 h with h | h; exact h2 h.symm; exact h1 h), eval_put_ne _ h2]
theorem eval_of {a : Act} {i : Nat} {v : Value} (h : a.tmps[i]? = some v) : a.eval (.tmp i) = v := by
  show a.tmps.getD i undef = v
  rw [Array.getD_eq_getD_getElem?, h]
  rfl
end Go.Proofs.Yticdjkkcfdbdcaa
