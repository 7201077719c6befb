/- A call of steplaw.GraphRuns, from every start: it ends well, and answers true. No conditions but that what is read is there. -/
import Derived.Test.YticdjkkcfdbdcaaGrRd
namespace Go.Proofs.Yticdjkkcfdbdcaa
open Go.Conc Go.ConcN Go.RowKit Go.ChangeShapes Go.WideShapes Go.ChangeAt
theorem no_inits_5 : Try.prog.inits.idxOf? 5 = none := by kernel_rfl
set_option maxRecDepth 100000 in
theorem code_5 : ∃ code, Try.f5.body = some code := ⟨_, rfl⟩
/-- What the run leaves. -/
def LeftT (W : World) (v : Value) (w' : World) : Prop := v = .bool true ∧ W.heap.size ≤ w'.heap.size ∧ (∀ b, b < W.heap.size → w'.heap[b]? = W.heap[b]?) ∧ w'.os = W.os ∧ w'.output = W.output ∧ w'.tape = W.tape
theorem graph_run {W : World} {v : Value} {wk : Int} (h : JobsArg W v) :
    EndsWell Try.prog (LeftT W) (solo (G (Frame.enter Try.prog 5 #[v, .int .i64 wk] .normal) []) W) #[] := by
  obtain ⟨code, hcode⟩ := code_5
  obtain ⟨A, n, c, J, ρ, k, L, hm, hv, hR, hn, hk, hr⟩ := jobs_imp h
  refine win_runs (k := k) (mp_top Try.func5 hcode no_inits_5 (fun i r hr => ?_) (R := fun v => v = .bool true) (args := #[.slice A n c, .int .i64 wk]) hm ⟨rfl, fun i v v' h1 h2 => ?_⟩ (law_m hR hn hcode) ?_) hk hr
  · obtain ⟨fn, h1, h2⟩ := res_5
    cases Option.some.inj (h1.symm.trans Try.func5)
    exact h2 i r hr
  · match i, h1, h2 with
    | 0, h1, h2 => simp at h1 h2; subst h1 h2; exact hv
    | 1, h1, h2 => simp at h1 h2; subst h1 h2; exact .int _ _
    | i + 2, h1, _ => simp at h1
  · rintro v v' ρ1 k1 w rfl hv hO
    cases hv
    exact ⟨rfl, hO.size, hO.heap, hO.os, hO.output, hO.tape⟩
end Go.Proofs.Yticdjkkcfdbdcaa
