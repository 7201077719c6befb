/- A call of stepkeep.ScanCuts, from every start: it ends well, and answers true. No conditions but that what is read is there. -/
import Derived.Test.YtnabgoljnfaebaaMCutsH
import Derived.Test.YtnabgoljnfaebaaImp
namespace Go.Proofs.Ytnabgoljnfaebaa
open Go.Conc Go.ConcN Go.RowKit Go.ChangeShapes Go.WideShapes Go.ChangeAt
theorem no_globalsC : Try.prog.globals.size = 0 := by kernel_rfl
theorem no_initsC : Try.prog.inits.idxOf? 4 = none := by kernel_rfl
set_option maxRecDepth 100000 in
theorem code_4 : ∃ code, Try.f4.body = some code := ⟨_, rfl⟩
/-- What the run leaves. -/
def Left4 (W : World) (v : Value) (w' : World) : Prop := v = .bool true ∧ W.heap.size ≤ w'.heap.size ∧ (∀ b, b < W.heap.size → w'.heap[b]? = W.heap[b]?) ∧ w'.os = W.os ∧ w'.output = W.output ∧ w'.tape = W.tape
theorem cuts_run {W : World} {b o cap : Nat} {x : Array Value} {e : TypeId} {f : Nat × Nat} {xs : List Int} {op cut one two : Int} (hW : W.heap[b]? = some (.cells x e f)) (hc : ∀ (i : Nat) v, (ints xs)[i]? = some v → x[o + i]? = some v) (hx : ∀ x ∈ xs, I64 x) (hlc : xs.length ≤ cap) (hcut : I64 cut) :
    EndsWell Try.prog (Left4 W) (solo (G (Frame.enter Try.prog 4 #[.slice (some ⟨b, o, none⟩) xs.length cap, .int .i64 op, .int .i64 cut, .int .i64 one, .int .i64 two] .normal) []) W) #[] := by
  obtain ⟨code, hcode⟩ := code_4
  have hg : Try.prog.globals.size ≤ b := by rw [no_globalsC]; exact Nat.zero_le _
  have hm : Mir (InL scanL) Try.prog (renRow Try.prog badTy b o hg) (readK (ints xs).length b o) (rowW Try.prog badTy (ints xs) W) W := mir_row bad_ty hg (fun v hv => by obtain ⟨y, _, rfl⟩ := List.mem_map.1 hv; exact .int _ _) hW hc
  have hR : Rd (rowW Try.prog badTy (ints xs) W) (rowW Try.prog badTy (ints xs) W).heap.size (some ⟨Try.prog.globals.size, 0, none⟩) (ints xs) := fun _ => ⟨Try.prog.globals.size, 0, rfl, by rw [rowW_size]; exact Nat.lt_succ_self _, fun i v hv => by
    simp only [World.cell?, rowW_at, Nat.zero_add]
    simpa using hv⟩
  refine win_runs (k := readK (ints xs).length b o) (mp_top Try.func4 hcode no_initsC (fun i r hr => ?_) (R := fun v => v = .bool true) (args := #[.slice (some ⟨Try.prog.globals.size, 0, none⟩) xs.length cap, .int .i64 op, .int .i64 cut, .int .i64 one, .int .i64 two]) hm ⟨rfl, fun i v v' h1 h2 => ?_⟩ (cuts_m hR (Nat.le_refl _) hx hlc hcut hcode) ?_) (fun l hl => hl) ?_
  · obtain ⟨fn, h1, h2⟩ := res_4
    cases Option.some.inj (h1.symm.trans Try.func4)
    exact h2 i r hr
  · match i, h1, h2 with
    | 0, h1, h2 =>
      simp at h1 h2
      subst h1 h2
      refine .slice ⟨⟨rfl, id⟩, b, o, ?_, rfl⟩ _ _
      show (if Try.prog.globals.size = Try.prog.globals.size then some (b, o) else none) = _
      rw [if_pos rfl]
    | 1, h1, h2 => simp at h1 h2; subst h1 h2; exact .int _ _
    | 2, h1, h2 => simp at h1 h2; subst h1 h2; exact .int _ _
    | 3, h1, h2 => simp at h1 h2; subst h1 h2; exact .int _ _
    | 4, h1, h2 => simp at h1 h2; subst h1 h2; exact .int _ _
    | i + 5, h1, _ => simp at h1
  · rintro v v' ρ1 k1 w rfl hv hO
    cases hv
    exact ⟨rfl, hO.size, hO.heap, hO.os, hO.output, hO.tape⟩
  · rintro l ⟨i, _, rfl⟩
    exact (Array.getElem?_eq_some_iff.1 hW).1
theorem cuts_run_nil {W : World} {op cut one two : Int} (hcut : I64 cut) : EndsWell Try.prog (Left4 W) (solo (G (Frame.enter Try.prog 4 #[.slice none 0 0, .int .i64 op, .int .i64 cut, .int .i64 one, .int .i64 two] .normal) []) W) #[] := by
  obtain ⟨code, hcode⟩ := code_4
  have hm : Mir (InL scanL) Try.prog (renNone Try.prog badTy) LK.nil (blank Try.prog badTy W) W := mir_none bad_ty (by rw [no_globalsC]; exact Nat.zero_le _) LK.nil
  refine win_runs (k := LK.nil) (mp_top Try.func4 hcode no_initsC (fun i r hr => ?_) (R := fun v => v = .bool true) (args := #[.slice none 0 0, .int .i64 op, .int .i64 cut, .int .i64 one, .int .i64 two]) hm ⟨rfl, fun i v v' h1 h2 => ?_⟩ (cuts_m (xs := []) (B := 0) (Rd.nil _ _ _) (Nat.zero_le _) (fun x hx => by cases hx) (Nat.zero_le _) hcut hcode) ?_) (fun l hl => hl) (fun l hl => hl.elim)
  · obtain ⟨fn, h1, h2⟩ := res_4
    cases Option.some.inj (h1.symm.trans Try.func4)
    exact h2 i r hr
  · match i, h1, h2 with
    | 0, h1, h2 => simp at h1 h2; subst h1 h2; exact .nilSlice _ _
    | 1, h1, h2 => simp at h1 h2; subst h1 h2; exact .int _ _
    | 2, h1, h2 => simp at h1 h2; subst h1 h2; exact .int _ _
    | 3, h1, h2 => simp at h1 h2; subst h1 h2; exact .int _ _
    | 4, h1, h2 => simp at h1 h2; subst h1 h2; exact .int _ _
    | i + 5, h1, _ => simp at h1
  · rintro v v' ρ1 k1 w rfl hv hO
    cases hv
    exact ⟨rfl, hO.size, hO.heap, hO.os, hO.output, hO.tape⟩
end Go.Proofs.Ytnabgoljnfaebaa
