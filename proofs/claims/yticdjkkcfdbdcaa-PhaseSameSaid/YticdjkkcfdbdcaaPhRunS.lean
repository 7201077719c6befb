/- A call of stepkeep.PhaseSame, from every start: it ends well, and answers true. No conditions but that what is read is there. -/
import Derived.Test.YticdjkkcfdbdcaaPhLd
import Derived.Test.YticdjkkcfdbdcaaPhIm
namespace Go.Proofs.Yticdjkkcfdbdcaa
open Go.Conc Go.ConcN Go.RowKit Go.ChangeShapes Go.WideShapes Go.ChangeAt
theorem no_inits_4 : Try.prog.inits.idxOf? 4 = none := by kernel_rfl
set_option maxRecDepth 100000 in
theorem code_4 : ∃ code, Try.f4.body = some code := ⟨_, rfl⟩
/-- What the run leaves. -/
def LeftS (W : World) (v : Value) (w' : World) : Prop := v = .bool true ∧ W.heap.size ≤ w'.heap.size ∧ (∀ b, b < W.heap.size → w'.heap[b]? = W.heap[b]?) ∧ w'.os = W.os ∧ w'.output = W.output ∧ w'.tape = W.tape
theorem phase_same {W : World} {v : Value} {one two : Int} (h : DosArg W v) :
    EndsWell Try.prog (LeftS W) (solo (G (Frame.enter Try.prog 4 #[v, .int .i64 one, .int .i64 two] .normal) []) W) #[] := by
  obtain ⟨code, hcode⟩ := code_4
  obtain ⟨A, n, c, D, ρ, k, L, hm, hv, hR, hn, hcap, hk, hr⟩ := dos_imp h
  refine win_runs (k := k) (mp_top Try.func4 hcode no_inits_4 (fun i r hr => ?_) (R := fun v => v = .bool true) (args := #[.slice A n c, .int .i64 one, .int .i64 two]) hm ⟨rfl, fun i v v' h1 h2 => ?_⟩ (same_m hR hn hcap hcode) ?_) hk hr
  · obtain ⟨fn, h1, h2⟩ := res_4
    cases Option.some.inj (h1.symm.trans Try.func4)
    exact h2 i r hr
  · match i, h1, h2 with
    | 0, h1, h2 => simp at h1 h2; subst h1 h2; exact hv
    | 1, h1, h2 => simp at h1 h2; subst h1 h2; exact .int _ _
    | 2, h1, h2 => simp at h1 h2; subst h1 h2; exact .int _ _
    | i + 3, h1, _ => simp at h1
  · rintro v v' ρ1 k1 w rfl hv hO
    cases hv
    exact ⟨rfl, hO.size, hO.heap, hO.os, hO.output, hO.tape⟩
end Go.Proofs.Yticdjkkcfdbdcaa
