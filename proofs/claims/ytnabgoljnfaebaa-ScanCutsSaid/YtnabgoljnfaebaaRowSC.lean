/-
  WHAT IS PROVED: the law ScanCuts returns true on every call, whatever the list, the operator, the cut and however many work; the input reads as it did. No conditions.
-/
import Derived.Test.YtnabgoljnfaebaaRows
import Derived.Test.YtnabgoljnfaebaaRunC
import Derived.Conc.LeavingOf
import Derived.Deep.Slices
import Derived.Deep.Fields
import Derived.ChangeSame
import Derived.SizedLaws
import Derived.OpenShut
import Derived.Leaving
namespace Go.Proofs.Ytnabgoljnfaebaa.scanCuts
open Go.Conc Go.ChangeShapes Go.WideShapes Go.ChangeAt Go.RowKit

theorem own : ownKnob Try.prog.godebug = none := by kernel_rfl
theorem laid : laidOutB Try.prog = true := by kernel_rfl
theorem post_of_below {H : Type} {enc : TypeId × Value → H} {P : Program} {f : Func} {s : ChangeSpec} {apart fresh handsOn again : Bool} {W W' : World} {args : Array Value} {v : Value} {ds gs : List (DataW H)} {before pa pv : List MemPlace}
    (hW : DataW.Whole enc P f.params.toList s.vars apart W args.toList ds gs before)
    (hres : ∀ (b : Nat) (sp : Nat → Bool) (hd : Bool), DataW.TrodAll enc P W' b sp hd f.resultTypes.toList (v.resultList f.resultTypes.size) (s.fn H (ds ++ gs)).results [])
    (hargs : ∀ sp : Nat → Bool, (∀ p ∈ before, sp p.block = true) → DataW.TrodAll enc P W' 0 sp true f.params.toList args.toList (s.fn H (ds ++ gs)).args pa)
    (hvars : ∀ sp : Nat → Bool, (∀ p ∈ before, sp p.block = true) → DataW.TrodVars enc P W' sp s.vars (s.fn H (ds ++ gs)).vars pv)
    (hps : before = pa ++ pv) (hb : RowKit.Below W.heap.size W W')
    (hok : ∀ (j : Nat) (t : TypeId) (r : Value), f.resultTypes[j]? = some t → (v.resultList f.resultTypes.size)[j]? = some r → Value.okWide P W' .any 0 t r) :
    s.post enc P f apart fresh handsOn again W args v W' := by
  have hlt : ∀ p ∈ before, p.block < W.heap.size := fun p hp => hW.lt p hp
  have hold : ∀ p ∈ before, (fun b => decide (b < W.heap.size)) p.block = true := fun p hp => by simpa using hlt p hp
  refine ⟨ds, gs, before, [], pa, pv, hW, hres _ _ _, hargs _ hold, hvars _ hold, World.keptBut_mono (fun p hp => ⟨hp, ?_⟩) (hb.frame (· ∈ before)), fun _ => ?_⟩
  · rw [hps, List.mem_append] at hp
    exact Or.inr hp
  · obtain ⟨_, _, _, _, _, hz, hn⟩ := hW
    refine ⟨hok, _, _, ([] ++ pa) ++ pv, ⟨[] ++ pa, pv, trodAll_append (hargs _ (fun _ _ => rfl)) (hres _ _ _), hvars _ (fun _ _ => rfl), rfl, ?_, ?_⟩, ?_⟩
    · intro b off hp
      have hin : MemPlace.cell b off ∈ before := by rw [hps]; simpa using hp
      rw [hb.frozen (hlt _ hin)]
      exact hz b off hin
    · intro ha
      have := hn ha
      rw [hps] at this
      simpa using this
    · intro p hp _
      rw [hps]
      simpa using hp
theorem i64_wf {n : Int} (h : (Lit.int .i64 n).wf = true) : I64 n := by
  simp only [Lit.wf, Bool.and_eq_true, decide_eq_true_eq] at h
  exact h
set_option maxRecDepth 100000 in
theorem lifted (os : Os) (started : os.Started) (H : Type) (enc : TypeId × Value → H) :
    ReturnsInLeavingWide {} Try.checked os 4 .any (Rows.scanCutsSpec.pre6 enc Try.prog Try.f4 Rows.scanCutsRow.domain false) (Rows.scanCutsSpec.post enc Try.prog Try.f4 false true false false) := by
  refine returnsInLeavingWide_of_change_sized (C := Try.checked) own started Try.func4
    (ChangeSpec.witness6 (enc := enc) (C := Try.checked) false ⟨#[], #[.slice none 0 0, .int .i64 0, .int .i64 0, .int .i64 0, .int .i64 0], []⟩ 8 (by kernel_rfl) (by kernel_rfl) (by kernel_rfl) (by kernel_rfl)) ?_
  intro W base args ds gs before hval0 hW hcnd hsz _
  have hval : ∀ (j : Nat) t v, Try.f4.params[j]? = some t → args[j]? = some v → Value.okWide Try.prog W .any base t v := hval0
  have hW' := hW
  obtain ⟨p, q, hA0, hV, rfl, hfz, hnd⟩ := hW
  have hA : DataW.TrodAll enc Try.prog W 0 (fun _ => true) true Try.f4.params.toList args.toList ds p := hA0
  rw [Try.params4] at hA hval
  obtain ⟨v0, vs0, d0, ds0, p0, q0, ha0, rfl, rfl, h0, hr0⟩ := trodAll_cons hA
  obtain ⟨v1, vs1, d1, ds1, p1, q1, rfl, rfl, rfl, h1, hr1⟩ := trodAll_cons hr0
  obtain ⟨v2, vs2, d2, ds2, p2, q2, rfl, rfl, rfl, h2, hr2⟩ := trodAll_cons hr1
  obtain ⟨v3, vs3, d3, ds3, p3, q3, rfl, rfl, rfl, h3, hr3⟩ := trodAll_cons hr2
  obtain ⟨v4, vs4, d4, ds4, p4, q4, rfl, rfl, rfl, h4, hr4⟩ := trodAll_cons hr3
  obtain ⟨rfl, rfl, rfl⟩ := trodAll_nil hr4
  obtain rfl : args = #[v0, v1, v2, v3, v4] := by cases args; simp_all
  clear ha0 hr0 hr1 hr2 hr3 hr4 hA
  obtain ⟨rfl, rfl⟩ := trodVars_none hV
  obtain ⟨a0, len, cap, rfl⟩ := okWide_slice Try.underlying22 (hval 0 22 v0 rfl rfl)
  obtain ⟨k1, rfl, rfl, rfl, w_⟩ := open_int Try.underlying3 (hval 1 3 v1 rfl rfl) h1
  obtain ⟨k2, rfl, rfl, rfl, w1⟩ := open_int Try.underlying3 (hval 2 3 v2 rfl rfl) h2
  obtain ⟨k3, rfl, rfl, rfl, w2⟩ := open_int Try.underlying3 (hval 3 3 v3 rfl rfl) h3
  obtain ⟨k4, rfl, rfl, rfl, w3⟩ := open_int Try.underlying3 (hval 4 3 v4 rfl rfl) h4
  have h0k := h0
  obtain ⟨fuel, hf⟩ := h0
  clear hA0 hval0
  simp only [List.append_nil, List.nil_append] at hW'
  have hlt : ∀ x ∈ p0, x.block < W.heap.size := fun x hx => hW'.lt x hx
  have close : EndsWell Try.prog (Left4 W) (solo (G (Frame.enter Try.prog 4 #[.slice a0 len cap, .int .i64 k1, .int .i64 k2, .int .i64 k3, .int .i64 k4] .normal) []) W) #[] →
      ∃ M last o w' t', runNT Try.checked.prog (M + 1) (solo (G (Frame.enter Try.checked.prog 4 #[.slice a0 len cap, .int .i64 k1, .int .i64 k2, .int .i64 k3, .int .i64 k4] .normal) []) W) #[] = (.ended o w', t') ∧
        runN Try.checked.prog M (solo (G (Frame.enter Try.checked.prog 4 #[.slice a0 len cap, .int .i64 k1, .int .i64 k2, .int .i64 k3, .int .i64 k4] .normal) []) W) = .next last ∧ step Try.checked.prog last = .ended o w' ∧
        Conc.Good Try.checked.prog (fun v W' => Rows.scanCutsSpec.post enc Try.checked.prog Try.f4 false true false false W #[.slice a0 len cap, .int .i64 k1, .int .i64 k2, .int .i64 k3, .int .i64 k4] v W') last o w' t' := by
    rintro ⟨M, last, o, w', t', e1, e2, e3, e4⟩
    refine ⟨M, last, o, w', t', e1, e2, e3, e4.mono fun v hF => ?_⟩
    obtain ⟨rfl, z1, z2, z3, z4, z5⟩ := hF
    have hb : RowKit.Below W.heap.size W w' := ⟨z3, z5, z4, z1, z2⟩
    refine post_of_below (pa := p0) (pv := []) hW' (fun _ _ _ => trodAll_cons_mk (shut_bool Try.underlying4 _) trodAll_mk0) (fun sp hsp => ?_) (fun _ _ => rfl) (by simp) hb (ok_one (by kernel_rfl) rfl (okWide_bool_mk Try.underlying4 _))
    have t0 := WideElems.Trod_stays laid (by kernel_rfl) (of_decide_eq_true (by kernel_rfl)) h0k (fun x hx => hb.same (hlt x hx)) (fun x hx => hsp x hx)
    have t1 := WideElems.Trod_stays (W' := w') (sp' := sp) laid (by kernel_rfl) (of_decide_eq_true (by kernel_rfl)) h1 (fun x hx => by cases hx) (fun x hx => by cases hx)
    have t2 := WideElems.Trod_stays (W' := w') (sp' := sp) laid (by kernel_rfl) (of_decide_eq_true (by kernel_rfl)) h2 (fun x hx => by cases hx) (fun x hx => by cases hx)
    have t3 := WideElems.Trod_stays (W' := w') (sp' := sp) laid (by kernel_rfl) (of_decide_eq_true (by kernel_rfl)) h3 (fun x hx => by cases hx) (fun x hx => by cases hx)
    have t4 := WideElems.Trod_stays (W' := w') (sp' := sp) laid (by kernel_rfl) (of_decide_eq_true (by kernel_rfl)) h4 (fun x hx => by cases hx) (fun x hx => by cases hx)
    have t := trodAll_cons_mk t0 (trodAll_cons_mk t1 (trodAll_cons_mk t2 (trodAll_cons_mk t3 (trodAll_cons_mk t4 trodAll_mk0))))
    simp only [List.append_nil] at t
    exact t
  rcases open_ints Try.underlying22 Try.underlying2 (by kernel_rfl) hf with ⟨hcs, hx⟩ | ⟨a, len', cap', zs, hcs, _, hl, hm, hz, hx, hcell, hwz⟩
  · simp [Value.cells] at hcs
    obtain ⟨rfl, rfl, rfl⟩ := hcs
    exact close (cuts_run_nil (i64_wf w1))
  · simp [Value.cells] at hcs
    obtain ⟨rfl, rfl, rfl⟩ := hcs
    simp only [if_true] at hz
    have hv0 := hval 0 22 _ rfl rfl
    simp only [Value.okWide, Try.underlying22, Cell.okWide, Cell.ok] at hv0
    obtain ⟨_, _, _, hsp, row, cells, hsh, _⟩ := hv0
    obtain ⟨b, off, spot⟩ := a
    obtain rfl : spot = none := hsp
    obtain ⟨x, e, f, hW0⟩ : ∃ x e f, W.heap[b]? = some (.cells x e f) := by
      cases hh : W.heap[b]? with
      | none => simp [World.shape?, hh] at hsh
      | some ob => cases ob with
        | cells x e f => exact ⟨x, e, f, rfl⟩
        | _ => simp [World.shape?, hh] at hsh
    have hlen : (zs.take len).length = len := by simp; omega
    have hrun := cuts_run (W := W) (b := b) (o := off) (cap := cap) (xs := zs.take len) (op := k1) (cut := k2) (one := k3) (two := k4) hW0 (fun i v hv => ?_) (fun x hx => i64_wf (hwz x (List.mem_of_mem_take hx))) (by rw [hlen]; omega) (i64_wf w1)
    · rw [hlen] at hrun
      exact close hrun
    · have hi : i < (zs.take len).length := by have := (List.getElem?_eq_some_iff.1 hv).1; simpa using this
      have hi2 : i < zs.length := by simp at hi; omega
      have := hcell i hi2
      rw [Addr.add_lit'] at this
      simp only [World.cell?, hW0, Option.isSome_none, Bool.false_eq_true, if_false] at this
      rw [this]
      simp only [ints, List.getElem?_map, List.getElem?_eq_getElem hi, Option.map_some, Option.some.injEq] at hv
      rw [← hv]
      simp [List.getElem_take, List.getD_eq_getElem?_getD, hi2]
theorem over : Rows.scanCutsRow.holds Try.pinned (OpenSpec.ofChange Rows.scanCutsSpec) :=
  OpenClaim.holds_of_wide_leaving 4 Try.f4 rfl rfl rfl rfl rfl rfl rfl ⟨rfl, rfl, rfl, rfl, rfl⟩ rfl rfl rfl rfl rfl (by kernel_rfl) Try.func4 (by kernel_rfl)
    (of_decide_eq_true (by kernel_rfl)) (by unfold Func.isWrapper; first | (rw [if_pos (by decide +kernel)]; kernel_rfl) | (rw [if_neg (by decide +kernel)]; exact ⟨rfl, rfl⟩))
    (fun os started H enc _ => lifted os started H enc)
/-- THE STATEMENT -/
theorem proved : Rows.ScanCutsSaid := over
#print axioms proved
end Go.Proofs.Ytnabgoljnfaebaa.scanCuts
