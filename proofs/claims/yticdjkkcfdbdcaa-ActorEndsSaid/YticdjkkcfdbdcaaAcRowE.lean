/-
  WHAT IS PROVED: the law ActorEnds returns true on every call, whatever the rules, the letters, the ends and the workers; the input reads as it did. No conditions.
-/
import Derived.Test.YticdjkkcfdbdcaaRows
import Derived.Test.YticdjkkcfdbdcaaAcRunE
import Derived.Carry
import Derived.Conc.LeavingOf
import Derived.Deep.Slices
import Derived.Deep.Fields
import Derived.ChangeSame
import Derived.SizedLaws
import Derived.OpenShut
import Derived.Leaving
namespace Go.Proofs.Yticdjkkcfdbdcaa.actorEnds
open Go.Conc Go.ChangeShapes Go.WideShapes Go.ChangeAt Go.RowKit
theorem own : ownKnob Try.prog.godebug = none := by kernel_rfl
theorem laid : laidOutB Try.prog = true := by kernel_rfl
theorem post_of_below {H : Type} {enc : TypeId × Value → H} {P : Program} {f : Func} {s : ChangeSpec} {apart fresh handsOn again : Bool} {W W' : World} {args : Array Value} {v : Value} {ds gs : List (DataW H)} {before pa pv : List MemPlace}
    (hW : DataW.Whole enc P f.params.toList s.vars apart W args.toList ds gs before)
    (hres : ∀ (b : Nat) (sp : Nat → Bool) (hd : Bool), DataW.TrodAll enc P W' b sp hd f.resultTypes.toList (v.resultList f.resultTypes.size) (s.fn H (ds ++ gs)).results [])
    (hargs : ∀ sp : Nat → Bool, (∀ p ∈ before, sp p.block = true) → DataW.TrodAll enc P W' 0 sp true f.params.toList args.toList (s.fn H (ds ++ gs)).args pa)
    (hvars : ∀ sp : Nat → Bool, (∀ p ∈ before, sp p.block = true) → DataW.TrodVars enc P W' sp s.vars (s.fn H (ds ++ gs)).vars pv)
    (hps : before = pa ++ pv) (hb : RowKit.Below W.heap.size W W')
    (hok : ∀ (j : Nat) (t : TypeId) (r : Value), f.resultTypes[j]? = some t → (v.resultList f.resultTypes.size)[j]? = some r → Value.okWide P W' .any 0 t r) :
    s.post enc P f apart fresh handsOn again W args v W' := by
  have hlt : ∀ p ∈ before, p.block < W.heap.size := fun p hp => hW.lt p hp
  have hold : ∀ p ∈ before, (fun b => decide (b < W.heap.size)) p.block = true := fun p hp => by simpa using hlt p hp
  refine ⟨ds, gs, before, [], pa, pv, hW, hres _ _ _, hargs _ hold, hvars _ hold, World.keptBut_mono (fun p hp => ⟨hp, ?_⟩) (hb.frame (· ∈ before)), fun _ => ?_⟩
  · rw [hps, List.mem_append] at hp
    exact Or.inr hp
  · obtain ⟨_, _, _, _, _, hz, hn⟩ := hW
    refine ⟨hok, _, _, ([] ++ pa) ++ pv, ⟨[] ++ pa, pv, trodAll_append (hargs _ (fun _ _ => rfl)) (hres _ _ _), hvars _ (fun _ _ => rfl), rfl, ?_, ?_⟩, ?_⟩
    · intro b off hp
      have hin : MemPlace.cell b off ∈ before := by rw [hps]; simpa using hp
      rw [hb.frozen (hlt _ hin)]
      exact hz b off hin
    · intro ha
      have := hn ha
      rw [hps] at this
      simpa using this
    · intro p hp _
      rw [hps]
      simpa using hp
theorem trodAll_six {H : Type} {enc : TypeId × Value → H} {P : Program} {w : World} {base : Nat} {spare : Nat → Bool} {held : Bool} {t t' t'' t3 t4 t5 : TypeId} {args : Array Value} {ds : List (DataW H)} {ps : List MemPlace} (h : DataW.TrodAll enc P w base spare held [t, t', t'', t3, t4, t5] args.toList ds ps) :
    ∃ v v' v'' v3 v4 v5 d d' d'' d3 d4 d5 p p' p'' p3 p4 p5, args = #[v, v', v'', v3, v4, v5] ∧ ds = [d, d', d'', d3, d4, d5] ∧ ps = p ++ (p' ++ (p'' ++ (p3 ++ (p4 ++ p5)))) ∧ DataW.Trod enc P w base spare held t v d p ∧ DataW.Trod enc P w base spare held t' v' d' p' ∧ DataW.Trod enc P w base spare held t'' v'' d'' p'' ∧ DataW.Trod enc P w base spare held t3 v3 d3 p3 ∧ DataW.Trod enc P w base spare held t4 v4 d4 p4 ∧ DataW.Trod enc P w base spare held t5 v5 d5 p5 := by
  obtain ⟨v, vs, d, ds1, p, q, hargs, rfl, rfl, hd, hr⟩ := trodAll_cons h
  obtain ⟨v', vs', d', ds2, p', q', rfl, rfl, rfl, hd', hr'⟩ := trodAll_cons hr
  obtain ⟨v'', vs'', d'', ds6, p'', q'', rfl, rfl, rfl, hd'', hr''⟩ := trodAll_cons hr'
  obtain ⟨v3, vs3, d3, ds3, p3, q3, rfl, rfl, rfl, hd3, hr3⟩ := trodAll_cons hr''
  obtain ⟨v4, vs4, d4, ds4, p4, q4, rfl, rfl, rfl, hd4, hr4⟩ := trodAll_cons hr3
  obtain ⟨v5, vs5, d5, ds5, p5, q5, rfl, rfl, rfl, hd5, hr5⟩ := trodAll_cons hr4
  obtain ⟨rfl, rfl, rfl⟩ := trodAll_nil hr5
  exact ⟨v, v', v'', v3, v4, v5, d, d', d'', d3, d4, d5, p, p', p'', p3, p4, p5, by cases args; simp_all, rfl, by simp, hd, hd', hd'', hd3, hd4, hd5⟩
set_option maxRecDepth 100000 in
theorem lifted (os : Os) (started : os.Started) (H : Type) (enc : TypeId × Value → H) :
    ReturnsInLeavingWide {} Try.checked os 8 .any (Rows.actorEndsSpec.pre6 enc Try.prog Try.f8 Rows.actorEndsRow.domain false) (Rows.actorEndsSpec.post enc Try.prog Try.f8 false true false false) := by
  refine returnsInLeavingWide_of_change_sized (C := Try.checked) own started Try.func8
    (ChangeSpec.witness6 (enc := enc) (C := Try.checked) false ⟨#[], #[.slice none 0 0, .slice none 0 0, .int .i64 0, .int .i64 0, .int .i64 0, .int .i64 0], []⟩ 8 (by kernel_rfl) (by kernel_rfl) (by kernel_rfl) (by kernel_rfl)) ?_
  intro W base args ds gs before hval0 hW hcnd hsz _
  have hval : ∀ (j : Nat) t v, Try.f8.params[j]? = some t → args[j]? = some v → Value.okWide Try.prog W .any base t v := hval0
  have hW' := hW
  obtain ⟨p, q, hA0, hV, rfl, hfz, hnd⟩ := hW
  have hA : DataW.TrodAll enc Try.prog W 0 (fun _ => true) true Try.f8.params.toList args.toList ds p := hA0
  rw [Try.params8] at hA hval
  obtain ⟨v0, v1, v2, v3, v4, v5, d0, d1, d2, d3, d4, d5, p0, p1, p2, p3, p4, p5, rfl, rfl, rfl, h0, h1, h2, h3, h4, h5⟩ := trodAll_six hA
  obtain ⟨rfl, rfl⟩ := trodVars_none hV
  obtain ⟨a0, len, cap, rfl⟩ := okWide_slice Try.underlying43 (hval 0 43 v0 rfl rfl)
  obtain ⟨a1, len1, cap1, rfl⟩ := okWide_slice Try.underlying44 (hval 1 44 v1 rfl rfl)
  obtain ⟨k1, rfl, -⟩ := okWide_int Try.underlying3 (hval 2 3 v2 rfl rfl)
  obtain ⟨k2, rfl, -⟩ := okWide_int Try.underlying3 (hval 3 3 v3 rfl rfl)
  obtain ⟨k3, rfl, -⟩ := okWide_int Try.underlying3 (hval 4 3 v4 rfl rfl)
  obtain ⟨k4, rfl, -⟩ := okWide_int Try.underlying3 (hval 5 3 v5 rfl rfl)
  have h0k := h0
  have h1k := h1
  obtain ⟨fuel, hf⟩ := h0
  obtain ⟨fuel1, hf1⟩ := h1
  clear hA0 hval0
  simp only [List.append_nil] at hW'
  have hlt : ∀ x ∈ p0 ++ (p1 ++ (p2 ++ (p3 ++ (p4 ++ p5)))), x.block < W.heap.size := fun x hx => hW'.lt x hx
  have m0 : ∀ {x}, x ∈ p0 → x ∈ p0 ++ (p1 ++ (p2 ++ (p3 ++ (p4 ++ p5)))) := fun h => List.mem_append_left _ h
  have m1 : ∀ {x}, x ∈ p1 → x ∈ p0 ++ (p1 ++ (p2 ++ (p3 ++ (p4 ++ p5)))) := fun h => List.mem_append_right _ (List.mem_append_left _ h)
  have m2 : ∀ {x}, x ∈ p2 → x ∈ p0 ++ (p1 ++ (p2 ++ (p3 ++ (p4 ++ p5)))) := fun h => List.mem_append_right _ (List.mem_append_right _ (List.mem_append_left _ h))
  have m3 : ∀ {x}, x ∈ p3 → x ∈ p0 ++ (p1 ++ (p2 ++ (p3 ++ (p4 ++ p5)))) := fun h => List.mem_append_right _ (List.mem_append_right _ (List.mem_append_right _ (List.mem_append_left _ h)))
  have m4 : ∀ {x}, x ∈ p4 → x ∈ p0 ++ (p1 ++ (p2 ++ (p3 ++ (p4 ++ p5)))) := fun h => List.mem_append_right _ (List.mem_append_right _ (List.mem_append_right _ (List.mem_append_right _ (List.mem_append_left _ h))))
  have m5 : ∀ {x}, x ∈ p5 → x ∈ p0 ++ (p1 ++ (p2 ++ (p3 ++ (p4 ++ p5)))) := fun h => List.mem_append_right _ (List.mem_append_right _ (List.mem_append_right _ (List.mem_append_right _ (List.mem_append_right _ h))))
  have close : EndsWell Try.prog (LeftT W) (solo (G (Frame.enter Try.prog 8 #[.slice a0 len cap, .slice a1 len1 cap1, .int .i64 k1, .int .i64 k2, .int .i64 k3, .int .i64 k4] .normal) []) W) #[] →
      ∃ M last o w' t', runNT Try.checked.prog (M + 1) (solo (G (Frame.enter Try.checked.prog 8 #[.slice a0 len cap, .slice a1 len1 cap1, .int .i64 k1, .int .i64 k2, .int .i64 k3, .int .i64 k4] .normal) []) W) #[] = (.ended o w', t') ∧
        runN Try.checked.prog M (solo (G (Frame.enter Try.checked.prog 8 #[.slice a0 len cap, .slice a1 len1 cap1, .int .i64 k1, .int .i64 k2, .int .i64 k3, .int .i64 k4] .normal) []) W) = .next last ∧ step Try.checked.prog last = .ended o w' ∧
        Conc.Good Try.checked.prog (fun v W' => Rows.actorEndsSpec.post enc Try.checked.prog Try.f8 false true false false W #[.slice a0 len cap, .slice a1 len1 cap1, .int .i64 k1, .int .i64 k2, .int .i64 k3, .int .i64 k4] v W') last o w' t' := by
    rintro ⟨M, last, o, w', t', e1, e2, e3, e4⟩
    refine ⟨M, last, o, w', t', e1, e2, e3, e4.mono fun v hF => ?_⟩
    obtain ⟨rfl, z1, z2, z3, z4, z5⟩ := hF
    have hb : RowKit.Below W.heap.size W w' := ⟨z3, z5, z4, z1, z2⟩
    refine post_of_below (pa := p0 ++ (p1 ++ (p2 ++ (p3 ++ (p4 ++ p5))))) (pv := []) hW' (fun _ _ _ => trodAll_cons_mk (shut_bool Try.underlying4 _) trodAll_mk0) (fun sp hsp => ?_) (fun _ _ => rfl) (by simp) hb (ok_one (by kernel_rfl) rfl (okWide_bool_mk Try.underlying4 _))
    have t0 := WideElems.Trod_stays laid (by kernel_rfl) (of_decide_eq_true (by kernel_rfl)) h0k (fun x hx => hb.same (hlt x (m0 hx))) (fun x hx => hsp x (m0 hx))
    have t1 := WideElems.Trod_stays laid (by kernel_rfl) (of_decide_eq_true (by kernel_rfl)) h1k (fun x hx => hb.same (hlt x (m1 hx))) (fun x hx => hsp x (m1 hx))
    have t2 := WideElems.Trod_stays laid (by kernel_rfl) (of_decide_eq_true (by kernel_rfl)) h2 (fun x hx => hb.same (hlt x (m2 hx))) (fun x hx => hsp x (m2 hx))
    have t3 := WideElems.Trod_stays laid (by kernel_rfl) (of_decide_eq_true (by kernel_rfl)) h3 (fun x hx => hb.same (hlt x (m3 hx))) (fun x hx => hsp x (m3 hx))
    have t4 := WideElems.Trod_stays laid (by kernel_rfl) (of_decide_eq_true (by kernel_rfl)) h4 (fun x hx => hb.same (hlt x (m4 hx))) (fun x hx => hsp x (m4 hx))
    have t5 := WideElems.Trod_stays laid (by kernel_rfl) (of_decide_eq_true (by kernel_rfl)) h5 (fun x hx => hb.same (hlt x (m5 hx))) (fun x hx => hsp x (m5 hx))
    exact trodAll_cons_mk t0 (trodAll_cons_mk t1 (trodAll_mk4 t2 t3 t4 t5))
  have z0 := rules_read hf fun n hn => by
    have := List.all_eq_true.1 hsz n (DataW.weights_mem_each (j := 0) rfl rfl n hn)
    simpa using this
  have z1 := lets_read hf1 fun n hn => by
    have := List.all_eq_true.1 hsz n (DataW.weights_mem_each (j := 1) rfl rfl n hn)
    simpa using this
  exact close (ends_run z0 z1)
theorem over : Rows.actorEndsRow.holds Try.pinned (OpenSpec.ofChange Rows.actorEndsSpec) :=
  OpenClaim.holds_of_wide_leaving 8 Try.f8 rfl rfl rfl rfl rfl rfl rfl ⟨rfl, rfl, rfl, rfl, rfl⟩ rfl rfl rfl rfl rfl (by kernel_rfl) Try.func8 (by kernel_rfl)
    (of_decide_eq_true (by kernel_rfl)) (by unfold Func.isWrapper; first | (rw [if_pos (by decide +kernel)]; kernel_rfl) | (rw [if_neg (by decide +kernel)]; exact ⟨rfl, rfl⟩))
    (fun os started H enc _ => lifted os started H enc)
/-- THE STATEMENT -/
theorem proved : Rows.ActorEndsSaid := over
#print axioms proved
end Go.Proofs.Yticdjkkcfdbdcaa.actorEnds
