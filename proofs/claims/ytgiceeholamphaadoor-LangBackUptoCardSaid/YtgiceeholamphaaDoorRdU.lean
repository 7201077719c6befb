/- The reader's method that reads a statement (made by mkrdu.py). No conditions but that the reader is one. -/
import Derived.Test.YtgiceeholamphaaDoorRdV
import Derived.Test.YtgiceeholamphaaDoorPut
import Derived.Deep.RegionLaw
namespace Go.Proofs.YtgiceeholamphaaDoor
open Go.ChangeShapes Go.WideShapes Go.ChangeAt Go.RowKit Go.Maps

/-- A statement's making begins. -/
theorem XS.start {w w4 : World} {g tb c i lo : Nat} {T : List Tok} {k n : Int} {name : ByteArray} {e : ExprR} (hA : RAt w4 g tb c T i) (hg : w.grownBy w4 (some g)) (hx : Blk w4 w.heap.size 49 zeros8) (he : LdE (under lo) w4 e) (hlo : w.heap.size + 1 ≤ lo) :
    XS w w4.heap.size g tb c T (w4.alloc (.cells #[.int .i64 k, .string name, .int .i64 e.kind, .int .i64 e.n, .string e.name, .slice e.sA e.kids.length e.sc, .int .i64 n, .slice none 0 0] 49)) i k name e n (.slice none 0 0) [] :=
  ⟨hA.kept (World.grownBy_alloc _ _ _), grown_alloc hg _, hx.alloc _, Blk.newArr _ _ rfl, (he.go (Stays.sub (by intro b hb hS; simp [Value.ownBlock] at hS ⊢; omega))).go (Stays.alloc _), World.ownsRow_nil _ _ _ _, by simp [Value.ownBlock], by simp, hx.lt⟩
theorem blk_bare (k : BlockR) : k.plain = mkB (plainS k.l) := by cases k; rfl
theorem Takes_len {α : Type} {T : List Tok} {i i2 n : Nat} {ts : List Tok} (hd : T.drop i2 = ts) (h : n + ts.length ≤ (T.drop i).length) (h2 : i2 < T.length) : i + n ≤ i2 := by
  subst hd
  simp at h
  omega
noncomputable def statR (f : Nat) (ts : List Tok) : Option (PR StatR) :=
  thenR (some (nameR ts)) fun s ts =>
    if isTok [43, 61] ts then thenR ((gram f).expr 0 ts.tail) fun e ts => some (.ok (mkSet 2 s e) ts)
    else needT [61] ts fun ts => thenR ((gram f).expr 0 ts) fun e ts => some (.ok (mkSet 1 s e) ts)
set_option maxRecDepth 100000 in
set_option maxHeartbeats 8000000 in
theorem stat_if (f : Nat) (ih : CS f) (w : World) (g tb c i : Nat) (T : List Tok) (r : PR StatR) (hA : RAt w g tb c T i) (hT : TokOk T) (k1 : isTok [105, 102] (T.drop i) = true)
    (hr : (thenR ((gram f).expr 0 (T.drop i).tail) fun e ts => thenR ((gram f).braced ts) fun b ts => if isTok [101, 108, 115, 101] ts then thenR ((gram f).braced ts.tail) fun c ts => some (.ok (mkIf e [mkB b, mkB c]) ts) else some (.ok (mkIf e [mkB b]) ts)) = some r) :
    Calls Tryd.prog 44 #[.pointer (some ⟨g, 0, none⟩)] w (RPost (QS w.heap.size) w g tb c T r) := by
  obtain ⟨iB, hib, hzb⟩ := Option.map_eq_some_iff.1 info_block
  simp only [Prod.mk.injEq] at hzb
  obtain ⟨hzb0, hzb1, hzb2⟩ := hzb
  have HiB := Lib.hid (And.intro hib (And.intro hzb0 (And.intro hzb1 hzb2))); clear hib hzb0 hzb1 hzb2
  have hgl := hA.lt
  have htl := hA.tlt
  obtain ⟨W1, hW1⟩ : ∃ W1, w.alloc (.cells #[.int .i64 0, .string ⟨#[]⟩, .int .i64 0, .int .i64 0, .string ⟨#[]⟩, .slice none 0 0, .int .i64 0, .slice none 0 0] 49) = W1 := ⟨_, rfl⟩
  obtain ⟨hb1, hz1, hx1⟩ := box_facts (c := zeros8) hW1
  have hgr1 : w.grownBy W1 none := grown_of_below hb1 none
  have hA1 := hA.kept hgr1
  clear hb1 hA
  rw [tail_drop] at hr
  cases hr1 : (gram f).expr 0 (T.drop (i + 1)) with
  | none => rw [hr1] at hr; cases hr
  | some r1 =>
  rw [hr1] at hr
  cases r1 with
  | no n =>
    obtain rfl := Option.some.inj hr
    go_enter Tryd.func44, Tryd.ntmps44
    have mk1 : Nat := 0
    go_wp2_with (first
      | (clear mk1; go_at_call 45; (
        refine (show Calls _ _ _ _ _ from have_any _ g tb c i T hA1 hT [105, 102] (by simp)).mono ?_
        rintro E v1 ⟨rfl, hg, hAv⟩
        rw [k1] at hAv
        rw [k1]
        simp only [if_true, Bool.false_eq_true, if_false] at hAv
        have hxv := hx1.grown hg (by intro e; cases e; omega)
        have hgv := (hgr1.but _).trans hg
        have Hv1 := Lib.hid (And.intro hAv (And.intro hgv hxv)); clear hAv hgv hxv hg))
      | (go_at_call 68; (
        refine (show Calls _ _ _ _ _ from sum_all f _ g tb c (i + 1) T _ Hv1.out.1 hT hr1).mono ?_
        rintro E w4 ⟨hg4, rfl⟩
        have H4 := Lib.hid hg4; clear hg4)))
    exact ⟨rfl, Hv1.out.2.1.trans H4.out, rfl⟩
  | ok a1 ts1 =>
    simp only [thenR] at hr
    go_enter Tryd.func44, Tryd.ntmps44
    have mk1 : Nat := 0
    go_upto_region 3 with (first
      | (clear mk1; go_at_call 45; (
        refine (show Calls _ _ _ _ _ from have_any _ g tb c i T hA1 hT [105, 102] (by simp)).mono ?_
        rintro E v1 ⟨rfl, hg, hAv⟩
        rw [k1] at hAv
        rw [k1]
        simp only [if_true, Bool.false_eq_true, if_false] at hAv
        have hxv := hx1.grown hg (by intro e; cases e; omega)
        have hgv := (hgr1.but _).trans hg
        have Hv1 := Lib.hid (And.intro hAv (And.intro hgv hxv)); clear hAv hgv hxv hg))
      | (go_at_call 68; (
        refine (show Calls _ _ _ _ _ from sum_all f _ g tb c (i + 1) T _ Hv1.out.1 hT hr1).mono ?_
        rintro E w4 ⟨hg4, v, i4, rfl, ⟨e, rfl, he, hle⟩, hd4, hA4⟩
        have hx4 := Hv1.out.2.2.grown hg4 (by intro e; cases e; omega)
        have hz3 := Hv1.out.2.2.lt
        have H4 := Lib.hid (And.intro (Hv1.out.2.1.trans hg4) (And.intro hA4 (And.intro hd4 (And.intro he (And.intro hle (And.intro hx4 hz3)))))); clear hg4 hA4 hd4 he hle hx4 hz3
        simp only [ExprR.val])))
    obtain ⟨hg4, hA4, hd4, he, hle, hx4, hz3⟩ := H4.out
    have hX := XS.start (k := 3) (n := 0) (name := ⟨#[]⟩) hA4 hg4 hx4 hle hz3
    generalize hW4 : w4.alloc (.cells #[.int .i64 3, .string ⟨#[]⟩, .int .i64 e.kind, .int .i64 e.n, .string e.name, .slice e.sA e.kids.length e.sc, .int .i64 0, .slice none 0 0] 49) = W4 at *
    generalize w4.heap.size = n3 at *
    have HX := Lib.hid hX; clear hX hW4 hA4 hle hx4 hg4 H4 hz3
    rw [← hd4] at hr
    clear hd4
    cases hrb : (gram f).braced (T.drop i4) with
    | none => rw [hrb] at hr; cases hr
    | some r2 =>
    rw [hrb] at hr
    cases r2 with
    | no n =>
      obtain rfl := Option.some.inj hr
      obtain ⟨⟨_, _, _, _, _, _, _, y7⟩, _, _, _, _, _, _, _, f7⟩ := box8 HX.out.val
      go_region_dies
      all_goals (
        refine (show Calls _ _ _ _ _ from ih.braced _ g tb c i4 T _ HX.out.at_.drew hT hrb).mono ?_
        rintro E w6 ⟨hg6, rfl⟩
        exact ⟨rfl, HX.out.grown.trans ((grown_drew _ _).trans hg6), rfl⟩)
    | ok a2 ts2 =>
      simp only at hr
      go_cut [3] (fun s3 wc => s3 = .pointer (some ⟨n3, 0, none⟩) ∧ ∃ (i6 : Nat) (v6 : Value) (kb : BlockR), XS w n3 g tb c T wc i6 3 ⟨#[]⟩ e 0 v6 (([] : List BlockR) ++ [kb]) ∧ plainS kb.l = a2 ∧ T.drop i6 = ts2)
      case first => as_aux_lemma =>
        obtain ⟨⟨_, _, _, _, _, _, _, y7⟩, _, _, _, _, _, _, _, f7⟩ := box8 HX.out.val
        have hXl := HX.out.val.lt
        have hlow := HX.out.low
        go_region_law (first
          | (refine step_append_src rfl (.tmp 14) (.tmp 17) _ rfl (w.heap.size + 1) 22 iB _ 1 24 Tryd.underlying47 HiB.out.1 HiB.out.2.1 HiB.out.2.2.1 HiB.out.2.2.2 rfl (by decide) (.slice none 0 0) ([] : List BlockR).length (blockC ([] : List BlockR)) rfl (H6.out.1.own.alloc _) (some ⟨w6.heap.size, 0, none⟩) 1 1 (blockC [kb]) rfl rfl (fun _ => ⟨w6.heap.size, 0, rfl, fun j u hu => ((Blk.new w6 _ (blockC [kb])).cellAdd j).trans hu⟩) (blockC_one _) (by unfold maxLen; simp) (by simp) (by simp; omega) (fun v8 w8 hown8 hg8 hl8 => ?_)
             obtain ⟨A8, d8, rfl, _, _⟩ := own_form hown8
             have y8 : w8.cell? ⟨n3, 7, none⟩ = some (.slice none 0 0) := ((((H6.out.1.val.alloc _).grown hg8 (fun e => H6.out.1.far e.symm)).cell 7))
             have f8 : w8.frozen? ⟨n3, 7, none⟩ = false := (((H6.out.1.val.alloc _).grown hg8 (fun e => H6.out.1.far e.symm))).frozen 7
             have H8 := Lib.hid (And.intro hown8 (And.intro hg8 hl8)); clear hown8 hg8 hl8)
          | (go_simp; go_at_call 69; (
             refine (show Calls _ _ _ _ _ from ih.braced _ g tb c i4 T _ HX.out.at_.drew hT hrb).mono ?_
             rintro E w6 ⟨hg6, v, i6, rfl, ⟨kb, rfl, hke, hkl⟩, hd6, hA6⟩
             have hX6 := HX.out.moved ((grown_drew _ _).trans hg6) hA6 hgl
             have y7' := hX6.val.cell 7
             have y7a : ∀ o : Obj, (w6.alloc o).cell? ⟨n3, 7, none⟩ = some (.slice none 0 0) := fun o => (hX6.val.alloc o).cell 7
             have hn6 := hX6.val.lt
             have H6 := Lib.hid (And.intro hX6 (And.intro hke (And.intro hkl (And.intro hd6 hA6)))); clear hX6 hke hkl hd6 hA6 hg6
             simp only [BlockR.val])))
        all_goals (
          have hpush := H6.out.1.push hgl htl H6.out.2.2.1 (show n3 < (World.drew _).heap.size from hXl) (fun b e => (HX.out.own.lt b e).2) H8.out.1 H8.out.2.1 H8.out.2.2
          have hke := H6.out.2.1
          have hd6 := H6.out.2.2.2.1
          go_wp2_with fail
          go_meet
          case rel => exact ⟨rfl, _, _, kb, hpush, hke, hd6⟩)
      case rest =>
        obtain ⟨rfl, i6, v6, kb0, hX6, hke, hd6⟩ := hcut
        rw [← hd6] at hr
        simp only [List.nil_append] at hX6
        obtain ⟨A6, c6, rfl, hc6, hcm6⟩ := own_form hX6.own
        have HX := Lib.hid hX6; clear hX6 hd6 hrb
        cases hke2 : isTok [101, 108, 115, 101] (T.drop i6) with
        | false =>
          rw [hke2] at hr
          simp only [Bool.false_eq_true, if_false] at hr
          obtain rfl := Option.some.inj hr
          go_wp2_with (go_at_call 45; (
              refine (show Calls _ _ _ _ _ from have_any _ g tb c i6 T HX.out.at_ hT [101, 108, 115, 101] (by simp)).mono ?_
              rintro E w7 ⟨rfl, hg, hAv⟩
              rw [hke2] at hAv
              rw [hke2]
              simp only [if_true, Bool.false_eq_true, if_false] at hAv
              have hX7 := HX.out.moved hg hAv hgl
              have HY := Lib.hid hX7; clear hX7 hg hAv
              obtain ⟨⟨z0, z1, z2, z3, z4, z5, z6, z7⟩, _⟩ := box8 HY.out.val
              obtain ⟨_, q0, q1, q2, q3, q4, q5, q6, q7⟩ := box8 HY.out.box))
          have hlow := HY.out.low
          exact ret8 Tryd.results44 rfl rfl HY.out.box.put8 ⟨grown_put8 HY.out.grown (Nat.le_refl _), _, _, rfl, HY.out.done (by simp [Fits]) rfl (by rw [← he, ← hke]; simp [mkIf, plainB, blk_bare]), rfl, HY.out.at_.put8 (by omega) (by omega)⟩
        | true =>
          rw [hke2] at hr
          simp only [if_true] at hr
          rw [tail_drop] at hr
          go_upto_region 5 with (go_at_call 45; (
        refine (show Calls _ _ _ _ _ from have_any _ g tb c i6 T HX.out.at_ hT [101, 108, 115, 101] (by simp)).mono ?_
        rintro E w7 ⟨rfl, hg, hAv⟩
        rw [hke2] at hAv
        rw [hke2]
        simp only [if_true, Bool.false_eq_true, if_false] at hAv
        have hX7 := HX.out.moved hg hAv hgl
        have HX := Lib.hid hX7; clear hX7 hg hAv))
          cases hrb : (gram f).braced (T.drop (i6 + 1)) with
          | none => rw [hrb] at hr; cases hr
          | some r3 =>
          rw [hrb] at hr
          cases r3 with
          | no n =>
            obtain rfl := Option.some.inj hr
            obtain ⟨⟨_, _, _, _, _, _, _, y7⟩, _, _, _, _, _, _, _, f7⟩ := box8 HX.out.val
            go_region_dies
            all_goals (
              refine (show Calls _ _ _ _ _ from ih.braced _ g tb c (i6 + 1) T _ HX.out.at_.drew hT hrb).mono ?_
              rintro E w6 ⟨hg6, rfl⟩
              exact ⟨rfl, HX.out.grown.trans ((grown_drew _ _).trans hg6), rfl⟩)
          | ok a3 ts3 =>
            simp only at hr
            go_cut [3] (fun s3 wc => s3 = .pointer (some ⟨n3, 0, none⟩) ∧ ∃ (i6 : Nat) (v6 : Value) (kb : BlockR), XS w n3 g tb c T wc i6 3 ⟨#[]⟩ e 0 v6 ([kb0] ++ [kb]) ∧ plainS kb.l = a3 ∧ T.drop i6 = ts3)
            case first => as_aux_lemma =>
              obtain ⟨⟨_, _, _, _, _, _, _, y7⟩, _, _, _, _, _, _, _, f7⟩ := box8 HX.out.val
              have hXl := HX.out.val.lt
              have hlow := HX.out.low
              go_region_law (first
                | (refine step_append_src rfl (.tmp 23) (.tmp 26) _ rfl (w.heap.size + 1) 22 iB _ 1 24 Tryd.underlying47 HiB.out.1 HiB.out.2.1 HiB.out.2.2.1 HiB.out.2.2.2 rfl (by decide) (.slice A6 1 c6) [kb0].length (blockC [kb0]) rfl (H6.out.1.own.alloc _) (some ⟨w6.heap.size, 0, none⟩) 1 1 (blockC [kb]) rfl rfl (fun _ => ⟨w6.heap.size, 0, rfl, fun j u hu => ((Blk.new w6 _ (blockC [kb])).cellAdd j).trans hu⟩) (blockC_one _) (by unfold maxLen; simp) (by simp) (by simp; omega) (fun v8 w8 hown8 hg8 hl8 => ?_)
                   obtain ⟨A8, d8, rfl, _, _⟩ := own_form hown8
                   have y8 : w8.cell? ⟨n3, 7, none⟩ = some (.slice A6 1 c6) := ((((H6.out.1.val.alloc _).grown hg8 (fun e => H6.out.1.far e.symm)).cell 7))
                   have f8 : w8.frozen? ⟨n3, 7, none⟩ = false := (((H6.out.1.val.alloc _).grown hg8 (fun e => H6.out.1.far e.symm))).frozen 7
                   have H8 := Lib.hid (And.intro hown8 (And.intro hg8 hl8)); clear hown8 hg8 hl8)
                | (go_simp; go_at_call 69; (
                   refine (show Calls _ _ _ _ _ from ih.braced _ g tb c (i6 + 1) T _ HX.out.at_.drew hT hrb).mono ?_
                   rintro E w6 ⟨hg6, v, i6, rfl, ⟨kb, rfl, hke, hkl⟩, hd6, hA6⟩
                   have hX6 := HX.out.moved ((grown_drew _ _).trans hg6) hA6 hgl
                   have y7' := hX6.val.cell 7
                   have y7a : ∀ o : Obj, (w6.alloc o).cell? ⟨n3, 7, none⟩ = some (.slice A6 1 c6) := fun o => (hX6.val.alloc o).cell 7
                   have hn6 := hX6.val.lt
                   have H6 := Lib.hid (And.intro hX6 (And.intro hke (And.intro hkl (And.intro hd6 hA6)))); clear hX6 hke hkl hd6 hA6 hg6
                   simp only [BlockR.val])))
              all_goals (
                have hpush := H6.out.1.push hgl htl H6.out.2.2.1 (show n3 < (World.drew _).heap.size from hXl) (fun b e => (HX.out.own.lt b e).2) H8.out.1 H8.out.2.1 H8.out.2.2
                have hke := H6.out.2.1
                have hd6 := H6.out.2.2.2.1
                go_wp2_with fail
                go_meet
                case rel => exact ⟨rfl, _, _, kb, hpush, hke, hd6⟩)
            case rest =>
              obtain ⟨rfl, i8, v8, kb, hX8, hke3, hd8⟩ := hcut
              obtain rfl := Option.some.inj hr
              simp only [List.singleton_append] at hX8
              obtain ⟨A8, c8, rfl, hc8, hcm8⟩ := own_form hX8.own
              have HY := Lib.hid hX8; clear hX8 HX
              obtain ⟨⟨z0, z1, z2, z3, z4, z5, z6, z7⟩, _⟩ := box8 HY.out.val
              obtain ⟨_, q0, q1, q2, q3, q4, q5, q6, q7⟩ := box8 HY.out.box
              go_wp2_with fail
              have hlow := HY.out.low
              exact ret8 Tryd.results44 rfl rfl HY.out.box.put8 ⟨grown_put8 HY.out.grown (Nat.le_refl _), _, _, rfl, HY.out.done (by simp [Fits]) rfl (by rw [← he, ← hke, ← hke3]; simp [mkIf, plainB, blk_bare]), hd8, HY.out.at_.put8 (by omega) (by omega)⟩
end Go.Proofs.YtgiceeholamphaaDoor
