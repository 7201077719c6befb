/-
  WHAT IS PROVED: the law GraphSame returns true on every call, whatever the jobs and however many work; the input reads as it did. No conditions.
-/
import Derived.Test.YticdjkkcfdbdcaaRows
import Derived.Test.YticdjkkcfdbdcaaGrRunS
import Derived.Conc.LeavingOf
import Derived.Deep.Slices
import Derived.Deep.Fields
import Derived.ChangeSame
import Derived.SizedLaws
import Derived.OpenShut
import Derived.Leaving
namespace Go.Proofs.Yticdjkkcfdbdcaa.graphSame
open Go.Conc Go.ChangeShapes Go.WideShapes Go.ChangeAt Go.RowKit
theorem own : ownKnob Try.prog.godebug = none := by kernel_rfl
theorem laid : laidOutB Try.prog = true := by kernel_rfl
theorem post_of_below {H : Type} {enc : TypeId × Value → H} {P : Program} {f : Func} {s : ChangeSpec} {apart fresh handsOn again : Bool} {W W' : World} {args : Array Value} {v : Value} {ds gs : List (DataW H)} {before pa pv : List MemPlace}
    (hW : DataW.Whole enc P f.params.toList s.vars apart W args.toList ds gs before)
    (hres : ∀ (b : Nat) (sp : Nat → Bool) (hd : Bool), DataW.TrodAll enc P W' b sp hd f.resultTypes.toList (v.resultList f.resultTypes.size) (s.fn H (ds ++ gs)).results [])
    (hargs : ∀ sp : Nat → Bool, (∀ p ∈ before, sp p.block = true) → DataW.TrodAll enc P W' 0 sp true f.params.toList args.toList (s.fn H (ds ++ gs)).args pa)
    (hvars : ∀ sp : Nat → Bool, (∀ p ∈ before, sp p.block = true) → DataW.TrodVars enc P W' sp s.vars (s.fn H (ds ++ gs)).vars pv)
    (hps : before = pa ++ pv) (hb : RowKit.Below W.heap.size W W')
    (hok : ∀ (j : Nat) (t : TypeId) (r : Value), f.resultTypes[j]? = some t → (v.resultList f.resultTypes.size)[j]? = some r → Value.okWide P W' .any 0 t r) :
    s.post enc P f apart fresh handsOn again W args v W' := by
  have hlt : ∀ p ∈ before, p.block < W.heap.size := fun p hp => hW.lt p hp
  have hold : ∀ p ∈ before, (fun b => decide (b < W.heap.size)) p.block = true := fun p hp => by simpa using hlt p hp
  refine ⟨ds, gs, before, [], pa, pv, hW, hres _ _ _, hargs _ hold, hvars _ hold, World.keptBut_mono (fun p hp => ⟨hp, ?_⟩) (hb.frame (· ∈ before)), fun _ => ?_⟩
  · rw [hps, List.mem_append] at hp
    exact Or.inr hp
  · obtain ⟨_, _, _, _, _, hz, hn⟩ := hW
    refine ⟨hok, _, _, ([] ++ pa) ++ pv, ⟨[] ++ pa, pv, trodAll_append (hargs _ (fun _ _ => rfl)) (hres _ _ _), hvars _ (fun _ _ => rfl), rfl, ?_, ?_⟩, ?_⟩
    · intro b off hp
      have hin : MemPlace.cell b off ∈ before := by rw [hps]; simpa using hp
      rw [hb.frozen (hlt _ hin)]
      exact hz b off hin
    · intro ha
      have := hn ha
      rw [hps] at this
      simpa using this
    · intro p hp _
      rw [hps]
      simpa using hp
set_option maxRecDepth 100000 in
theorem lifted (os : Os) (started : os.Started) (H : Type) (enc : TypeId × Value → H) :
    ReturnsInLeavingWide {} Try.checked os 6 .any (Rows.graphSameSpec.pre6 enc Try.prog Try.f6 Rows.graphSameRow.domain false) (Rows.graphSameSpec.post enc Try.prog Try.f6 false true false false) := by
  refine returnsInLeavingWide_of_change_sized (C := Try.checked) own started Try.func6
    (ChangeSpec.witness6 (enc := enc) (C := Try.checked) false ⟨#[], #[.slice none 0 0, .int .i64 0, .int .i64 0], []⟩ 8 (by kernel_rfl) (by kernel_rfl) (by kernel_rfl) (by kernel_rfl)) ?_
  intro W base args ds gs before hval0 hW hcnd hsz _
  have hval : ∀ (j : Nat) t v, Try.f6.params[j]? = some t → args[j]? = some v → Value.okWide Try.prog W .any base t v := hval0
  have hW' := hW
  obtain ⟨p, q, hA0, hV, rfl, hfz, hnd⟩ := hW
  have hA : DataW.TrodAll enc Try.prog W 0 (fun _ => true) true Try.f6.params.toList args.toList ds p := hA0
  rw [Try.params6] at hA hval
  obtain ⟨v0, v1, v2, d0, d1, d2, p0, p1, p2, rfl, rfl, rfl, h0, h1, h2⟩ := trodAll_three hA
  obtain ⟨rfl, rfl⟩ := trodVars_none hV
  obtain ⟨a0, len, cap, rfl⟩ := okWide_slice Try.underlying34 (hval 0 34 v0 rfl rfl)
  obtain ⟨k1, rfl, -⟩ := okWide_int Try.underlying3 (hval 1 3 v1 rfl rfl)
  obtain ⟨k2, rfl, -⟩ := okWide_int Try.underlying3 (hval 2 3 v2 rfl rfl)
  have h0k := h0
  obtain ⟨fuel, hf⟩ := h0
  clear hA0 hval0
  simp only [List.append_nil] at hW'
  have hlt : ∀ x ∈ p0 ++ p1 ++ p2, x.block < W.heap.size := fun x hx => hW'.lt x hx
  have close : EndsWell Try.prog (LeftS W) (solo (G (Frame.enter Try.prog 6 #[.slice a0 len cap, .int .i64 k1, .int .i64 k2] .normal) []) W) #[] →
      ∃ M last o w' t', runNT Try.checked.prog (M + 1) (solo (G (Frame.enter Try.checked.prog 6 #[.slice a0 len cap, .int .i64 k1, .int .i64 k2] .normal) []) W) #[] = (.ended o w', t') ∧
        runN Try.checked.prog M (solo (G (Frame.enter Try.checked.prog 6 #[.slice a0 len cap, .int .i64 k1, .int .i64 k2] .normal) []) W) = .next last ∧ step Try.checked.prog last = .ended o w' ∧
        Conc.Good Try.checked.prog (fun v W' => Rows.graphSameSpec.post enc Try.checked.prog Try.f6 false true false false W #[.slice a0 len cap, .int .i64 k1, .int .i64 k2] v W') last o w' t' := by
    rintro ⟨M, last, o, w', t', e1, e2, e3, e4⟩
    refine ⟨M, last, o, w', t', e1, e2, e3, e4.mono fun v hF => ?_⟩
    obtain ⟨rfl, z1, z2, z3, z4, z5⟩ := hF
    have hb : RowKit.Below W.heap.size W w' := ⟨z3, z5, z4, z1, z2⟩
    refine post_of_below (pa := p0 ++ p1 ++ p2) (pv := []) hW' (fun _ _ _ => trodAll_cons_mk (shut_bool Try.underlying4 _) trodAll_mk0) (fun sp hsp => ?_) (fun _ _ => rfl) (by simp) hb (ok_one (by kernel_rfl) rfl (okWide_bool_mk Try.underlying4 _))
    have t0 := WideElems.Trod_stays laid (by kernel_rfl) (of_decide_eq_true (by kernel_rfl)) h0k (fun x hx => hb.same (hlt x (List.mem_append_left _ (List.mem_append_left _ hx)))) (fun x hx => hsp x (List.mem_append_left _ (List.mem_append_left _ hx)))
    have t1 := WideElems.Trod_stays laid (by kernel_rfl) (of_decide_eq_true (by kernel_rfl)) h1 (fun x hx => hb.same (hlt x (List.mem_append_left _ (List.mem_append_right _ hx)))) (fun x hx => hsp x (List.mem_append_left _ (List.mem_append_right _ hx)))
    have t2 := WideElems.Trod_stays laid (by kernel_rfl) (of_decide_eq_true (by kernel_rfl)) h2 (fun x hx => hb.same (hlt x (List.mem_append_right _ hx))) (fun x hx => hsp x (List.mem_append_right _ hx))
    have t := trodAll_mk3 t0 t1 t2
    rw [← List.append_assoc] at t
    exact t
  exact close (graph_same (jobs_readN hf fun n hn => by
    have := List.all_eq_true.1 hsz n (DataW.weights_mem_each (j := 0) rfl rfl n hn)
    simpa using this))
theorem over : Rows.graphSameRow.holds Try.pinned (OpenSpec.ofChange Rows.graphSameSpec) :=
  OpenClaim.holds_of_wide_leaving 6 Try.f6 rfl rfl rfl rfl rfl rfl rfl ⟨rfl, rfl, rfl, rfl, rfl⟩ rfl rfl rfl rfl rfl (by kernel_rfl) Try.func6 (by kernel_rfl)
    (of_decide_eq_true (by kernel_rfl)) (by unfold Func.isWrapper; first | (rw [if_pos (by decide +kernel)]; kernel_rfl) | (rw [if_neg (by decide +kernel)]; exact ⟨rfl, rfl⟩))
    (fun os started H enc _ => lifted os started H enc)
/-- THE STATEMENT -/
theorem proved : Rows.GraphSameSaid := over
#print axioms proved
end Go.Proofs.Yticdjkkcfdbdcaa.graphSame
