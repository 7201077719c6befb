/- The reader's method that reads a statement: repeat, assignments (made by mkrdw.py). No conditions but that the reader is one. -/
import Derived.Test.YtgiceeholamphaaDoorRdU
namespace Go.Proofs.YtgiceeholamphaaDoor
open Go.ChangeShapes Go.WideShapes Go.ChangeAt Go.RowKit Go.Maps

section
variable {w wr w6 : World} {n3 g tb c i : Nat} {T : List Tok} {k n : Int} {name : ByteArray} {e : ExprR}
/-- One block, in a row of its own. -/
theorem XS.one {kb : BlockR} {lo5 : Nat} (h : XS w n3 g tb c T w6 i k name e n (.slice none 0 0) []) (hgl : g < w.heap.size) (htl : tb < w.heap.size) (hk : LdB (under lo5) w6 kb) (h5 : n3 < lo5) :
    XS w n3 g tb c T ((w6.setCell ⟨n3, 7, none⟩ (.slice (some ⟨w6.heap.size, 0, none⟩) 1 1)).alloc (.cells #[kb.val] 22)) i k name e n (.slice (some ⟨w6.heap.size, 0, none⟩) 1 1) [kb] := by
  have hlow := h.low
  have hn3 := h.val.lt
  have hs : (w6.setCell ⟨n3, 7, none⟩ (.slice (some ⟨w6.heap.size, 0, none⟩) 1 1)).heap.size = w6.heap.size := by simp [World.setCell]
  have hst : Stays (sideS (w.heap.size + 1) n3 (.slice none 0 0)) (sideS (w.heap.size + 1) n3 (.slice (some ⟨w6.heap.size, 0, none⟩) 1 1)) w6 ((w6.setCell ⟨n3, 7, none⟩ (.slice (some ⟨w6.heap.size, 0, none⟩) 1 1)).alloc (.cells #[kb.val] 22)) :=
    ((Stays.sub (S' := sideS (w.heap.size + 1) n3 (.slice (some ⟨w6.heap.size, 0, none⟩) 1 1)) (by intro b hb hS; simp [Value.ownBlock] at hS ⊢; omega)).trans (Stays.set_ (by simp))).trans (Stays.alloc _)
  refine ⟨(h.at_.far (by omega) (by omega)).kept (World.grownBy_alloc _ _ _), grown_alloc (grown_new h.grown (by omega)) _, (h.box.far (by show w.heap.size ≠ n3; omega) _).alloc _, ?_, h.lde.go hst, ?_, by simp [Value.ownBlock]; omega, ?_, hlow⟩
  · have := (h.val.set_ 7 (.slice (some ⟨w6.heap.size, 0, none⟩) 1 1)).alloc (.cells #[kb.val] 22)
    simpa using this
  · refine ⟨by simp [blockC], .inr ⟨w6.heap.size, 1, #[kb.val], rfl, by omega, ?_, by simp, by simp [maxLen], by simp, by simp [blockC]⟩⟩
    have hb := Blk.newArr (w6.setCell ⟨n3, 7, none⟩ (.slice (some ⟨w6.heap.size, 0, none⟩) 1 1)) 22 (cs := #[kb.val]) (vs := [kb.val]) rfl
    rw [hs] at hb
    exact hb
  · intro b hb
    obtain rfl := List.mem_singleton.1 hb
    refine ((hk.go (Stays.sub (S' := sideS (w.heap.size + 1) n3 (.slice none 0 0)) ?_)).go hst)
    intro b _ hb
    simp [Value.ownBlock] at hb ⊢
    omega
/-- The kind is set. -/
theorem XS.setK (h : XS w n3 g tb c T w6 i k name e n (.slice none 0 0) []) (hgl : g < w.heap.size) (htl : tb < w.heap.size) (k2 : Int) : XS w n3 g tb c T (w6.setCell ⟨n3, 0, none⟩ (.int .i64 k2)) i k2 name e n (.slice none 0 0) [] := by
  have hlow := h.low
  have hst : Stays (sideS (w.heap.size + 1) n3 (.slice none 0 0)) (sideS (w.heap.size + 1) n3 (.slice none 0 0)) w6 (w6.setCell ⟨n3, 0, none⟩ (.int .i64 k2)) := Stays.set_ (by simp)
  exact ⟨h.at_.far (by omega) (by omega), grown_new h.grown (by omega), h.box.far (by show w.heap.size ≠ n3; omega) _, by simpa using h.val.set_ 0 (.int .i64 k2), h.lde.go hst, World.ownsRow_nil _ _ _ _, h.far, by simp, hlow⟩
abbrev World.put25 (w : World) (n : Nat) (a b c d : Value) : World := (((w.setCell ⟨n, 2, none⟩ a).setCell ⟨n, 3, none⟩ b).setCell ⟨n, 4, none⟩ c).setCell ⟨n, 5, none⟩ d
/-- The expression is set. -/
theorem XS.setE {e2 : ExprR} {lo5 : Nat} (h : XS w n3 g tb c T w6 i k name e n (.slice none 0 0) []) (hgl : g < w.heap.size) (htl : tb < w.heap.size) (he : LdE (under lo5) w6 e2) (h5 : n3 < lo5) :
    XS w n3 g tb c T (World.put25 w6 n3 (.int .i64 e2.kind) (.int .i64 e2.n) (.string e2.name) (.slice e2.sA e2.kids.length e2.sc)) i k name e2 n (.slice none 0 0) [] := by
  have hlow := h.low
  have hst : Stays (sideS (w.heap.size + 1) n3 (.slice none 0 0)) (sideS (w.heap.size + 1) n3 (.slice none 0 0)) w6 (World.put25 w6 n3 (.int .i64 e2.kind) (.int .i64 e2.n) (.string e2.name) (.slice e2.sA e2.kids.length e2.sc)) :=
    (((Stays.set_ (by simp)).trans (Stays.set_ (by simp))).trans (Stays.set_ (by simp))).trans (Stays.set_ (by simp))
  have hne : w.heap.size ≠ n3 := by omega
  refine ⟨((((h.at_.far (by omega) (by omega)).far (by omega) (by omega)).far (by omega) (by omega)).far (by omega) (by omega)), grown_new (grown_new (grown_new (grown_new h.grown (by omega)) (by omega)) (by omega)) (by omega), (((h.box.far (p := ⟨n3, 2, none⟩) hne _).far (p := ⟨n3, 3, none⟩) hne _).far (p := ⟨n3, 4, none⟩) hne _).far (p := ⟨n3, 5, none⟩) hne _, ?_, ?_, World.ownsRow_nil _ _ _ _, h.far, by simp, hlow⟩
  · simpa using (((h.val.set_ 2 (.int .i64 e2.kind)).set_ 3 (.int .i64 e2.n)).set_ 4 (.string e2.name)).set_ 5 (.slice e2.sA e2.kids.length e2.sc)
  · refine (he.go (Stays.sub (S' := sideS (w.heap.size + 1) n3 (.slice none 0 0)) ?_)).go hst
    intro b _ hb
    simp [Value.ownBlock] at hb ⊢
    omega
end
set_option maxRecDepth 100000 in
set_option maxHeartbeats 8000000 in
theorem stat_rep (f : Nat) (ih : CS f) (w : World) (g tb c i : Nat) (T : List Tok) (r : PR StatR) (hA : RAt w g tb c T i) (hT : TokOk T) (k1 : isTok [105, 102] (T.drop i) = false) (k2 : isTok [114, 101, 112, 101, 97, 116] (T.drop i) = true)
    (hr : (thenR (some (numR 1000 (T.drop i).tail)) fun n ts => thenR ((gram f).braced ts) fun b ts => some (.ok (mkRep n (mkB b)) ts)) = some r) :
    Calls Tryd.prog 44 #[.pointer (some ⟨g, 0, none⟩)] w (RPost (QS w.heap.size) w g tb c T r) := by
  obtain ⟨iB, hib, hzb⟩ := Option.map_eq_some_iff.1 info_block
  simp only [Prod.mk.injEq] at hzb
  obtain ⟨hzb0, hzb1, hzb2⟩ := hzb
  have HiB := Lib.hid (And.intro hib (And.intro hzb0 (And.intro hzb1 hzb2))); clear hib hzb0 hzb1 hzb2
  have hgl := hA.lt
  have htl := hA.tlt
  obtain ⟨W1, hW1⟩ : ∃ W1, w.alloc (.cells #[.int .i64 0, .string ⟨#[]⟩, .int .i64 0, .int .i64 0, .string ⟨#[]⟩, .slice none 0 0, .int .i64 0, .slice none 0 0] 49) = W1 := ⟨_, rfl⟩
  obtain ⟨hb1, hz1, hx1⟩ := box_facts (c := zeros8) hW1
  have hgr1 : w.grownBy W1 none := grown_of_below hb1 none
  have hA1 := hA.kept hgr1
  clear hb1 hA
  rw [tail_drop] at hr
  cases hr1 : numR 1000 (T.drop (i + 1)) with
  | no n =>
    rw [hr1] at hr
    obtain rfl := Option.some.inj hr
    go_enter Tryd.func44, Tryd.ntmps44
    have mk1 : Nat := 0
    have mk2 : Nat := 0
    go_wp2_with (first
      | (clear mk1; go_at_call 45; (
        refine (show Calls _ _ _ _ _ from have_any _ g tb c i T hA1 hT [105, 102] (by simp)).mono ?_
        rintro E v1 ⟨rfl, hg, hAv⟩
        rw [k1] at hAv
        rw [k1]
        simp only [if_true, Bool.false_eq_true, if_false] at hAv
        have hxv := hx1.grown hg (by intro e; cases e; omega)
        have hgv := (hgr1.but _).trans hg
        have Hv1 := Lib.hid (And.intro hAv (And.intro hgv hxv)); clear hAv hgv hxv hg))
      | (clear mk2; go_at_call 45; (
        refine (show Calls _ _ _ _ _ from have_any _ g tb c i T Hv1.out.1 hT [114, 101, 112, 101, 97, 116] (by simp)).mono ?_
        rintro E v2 ⟨rfl, hg, hAv⟩
        rw [k2] at hAv
        rw [k2]
        simp only [if_true, Bool.false_eq_true, if_false] at hAv
        have hxv := Hv1.out.2.2.grown hg (by intro e; cases e; omega)
        have hgv := Hv1.out.2.1.trans hg
        have Hv2 := Lib.hid (And.intro hAv (And.intro hgv hxv)); clear hAv hgv hxv hg))
      | (go_at_call 70; (
        refine (show Calls _ _ _ _ _ from (number_any _ g tb c (i + 1) T Hv2.out.1 hT 1000)).mono ?_
        rw [hr1]
        rintro E w4 ⟨hg4, rfl⟩
        have H4 := Lib.hid hg4; clear hg4)))
    exact ⟨rfl, Hv2.out.2.1.trans H4.out, rfl⟩
  | ok m ts1 =>
    rw [hr1] at hr
    simp only [thenR] at hr
    go_enter Tryd.func44, Tryd.ntmps44
    have mk1 : Nat := 0
    have mk2 : Nat := 0
    go_upto_region 9 with (first
      | (clear mk1; go_at_call 45; (
        refine (show Calls _ _ _ _ _ from have_any _ g tb c i T hA1 hT [105, 102] (by simp)).mono ?_
        rintro E v1 ⟨rfl, hg, hAv⟩
        rw [k1] at hAv
        rw [k1]
        simp only [if_true, Bool.false_eq_true, if_false] at hAv
        have hxv := hx1.grown hg (by intro e; cases e; omega)
        have hgv := (hgr1.but _).trans hg
        have Hv1 := Lib.hid (And.intro hAv (And.intro hgv hxv)); clear hAv hgv hxv hg))
      | (clear mk2; go_at_call 45; (
        refine (show Calls _ _ _ _ _ from have_any _ g tb c i T Hv1.out.1 hT [114, 101, 112, 101, 97, 116] (by simp)).mono ?_
        rintro E v2 ⟨rfl, hg, hAv⟩
        rw [k2] at hAv
        rw [k2]
        simp only [if_true, Bool.false_eq_true, if_false] at hAv
        have hxv := Hv1.out.2.2.grown hg (by intro e; cases e; omega)
        have hgv := Hv1.out.2.1.trans hg
        have Hv2 := Lib.hid (And.intro hAv (And.intro hgv hxv)); clear hAv hgv hxv hg))
      | (go_at_call 70; (
        refine (show Calls _ _ _ _ _ from (number_any _ g tb c (i + 1) T Hv2.out.1 hT 1000)).mono ?_
        rw [hr1]
        rintro E w4 ⟨hg4, v, i4, rfl, rfl, hd4, hA4⟩
        have hx4 := Hv2.out.2.2.grown hg4 (by intro e; cases e; omega)
        have hz3 := Hv2.out.2.2.lt
        have H4 := Lib.hid (And.intro (Hv2.out.2.1.trans hg4) (And.intro hA4 (And.intro hd4 (And.intro hx4 hz3)))); clear hg4 hA4 hd4 hx4 hz3)))
    obtain ⟨hg4, hA4, hd4, hx4, hz3⟩ := H4.out
    have hX := XS.start (k := 4) (n := m) (name := ⟨#[]⟩) (e := noE) (lo := w4.heap.size) hA4 hg4 hx4 LdE.leaf hx4.lt
    simp only [noE, ExprR.kind, ExprR.n, ExprR.name, ExprR.sA, ExprR.sc, ExprR.kids, List.length_nil] at hX
    generalize hW4 : w4.alloc (.cells #[.int .i64 4, .string ⟨#[]⟩, .int .i64 0, .int .i64 0, .string ⟨#[]⟩, .slice none 0 0, .int .i64 m, .slice none 0 0] 49) = W4 at *
    generalize w4.heap.size = n3 at *
    have HX := Lib.hid hX; clear hX hW4 hA4 hx4 hg4 H4 hz3
    rw [← hd4] at hr
    clear hd4
    cases hrb : (gram f).braced (T.drop i4) with
    | none => rw [hrb] at hr; cases hr
    | some r2 =>
    rw [hrb] at hr
    cases r2 with
    | no n =>
      obtain rfl := Option.some.inj hr
      go_wp2_with (go_at_call 69; (
        refine (show Calls _ _ _ _ _ from ih.braced _ g tb c i4 T _ HX.out.at_ hT hrb).mono ?_
        rintro E w6 ⟨hg6, rfl⟩
        have H6 := Lib.hid hg6; clear hg6))
      exact ⟨rfl, HX.out.grown.trans H6.out, rfl⟩
    | ok a2 ts2 =>
      simp only at hr
      obtain rfl := Option.some.inj hr
      have hXl := HX.out.val.lt
      go_upto_region 10 with (go_at_call 69; (
        refine (show Calls _ _ _ _ _ from ih.braced _ g tb c i4 T _ HX.out.at_ hT hrb).mono ?_
        rintro E w6 ⟨hg6, v, i6, rfl, ⟨kb, rfl, hke, hkl⟩, hd8, hA6⟩
        have hX6 := HX.out.moved hg6 hA6 hgl
        have hn6 := hX6.val.lt
        obtain ⟨⟨_, _, _, _, _, _, _, y7⟩, _, _, _, _, _, _, _, f7⟩ := box8 hX6.val
        have H6 := Lib.hid (And.intro hX6 (And.intro hke hkl)); clear hX6 hke hkl hA6 hg6
        simp only [BlockR.val]))
      have hX9 := H6.out.1.one hgl htl H6.out.2.2 hXl
      have hke := H6.out.2.1
      simp only [BlockR.val] at hX9
      generalize (w6.setCell ⟨n3, 7, none⟩ (.slice (some ⟨w6.heap.size, 0, none⟩) 1 1)).alloc (.cells #[.slice kb.A kb.l.length kb.c] 22) = W9 at *
      have HY := Lib.hid hX9; clear hX9 HX H6 y7 f7 hn6
      obtain ⟨⟨z0, z1, z2, z3, z4, z5, z6, z7⟩, _⟩ := box8 HY.out.val
      obtain ⟨_, q0, q1, q2, q3, q4, q5, q6, q7⟩ := box8 HY.out.box
      go_wp2_with fail
      have hlow := HY.out.low
      exact ret8 Tryd.results44 rfl rfl HY.out.box.put8 ⟨grown_put8 HY.out.grown (Nat.le_refl _), _, _, rfl, HY.out.done (by simp [Fits]) rfl (by rw [← hke]; simp [mkRep, noE, ExprR.plain, plainE, plainB, blk_bare]), hd8, HY.out.at_.put8 (by omega) (by omega)⟩
end Go.Proofs.YtgiceeholamphaaDoor

/- The reader's method that reads a statement: assignments (made by mkrdw.py). No conditions but that the reader is one. -/
namespace Go.Proofs.YtgiceeholamphaaDoor
open Go.ChangeShapes Go.WideShapes Go.ChangeAt Go.RowKit Go.Maps

set_option maxRecDepth 100000 in
set_option maxHeartbeats 8000000 in
theorem stat_set (f : Nat) (ih : CS f) (w : World) (g tb c i : Nat) (T : List Tok) (r : PR StatR) (hA : RAt w g tb c T i) (hT : TokOk T) (k1 : isTok [105, 102] (T.drop i) = false) (k2 : isTok [114, 101, 112, 101, 97, 116] (T.drop i) = false) (k3 : isTok [112, 97, 114] (T.drop i) = false)
    (hr : statR f (T.drop i) = some r) :
    Calls Tryd.prog 44 #[.pointer (some ⟨g, 0, none⟩)] w (RPost (QS w.heap.size) w g tb c T r) := by
  obtain ⟨iB, hib, hzb⟩ := Option.map_eq_some_iff.1 info_block
  simp only [Prod.mk.injEq] at hzb
  obtain ⟨hzb0, hzb1, hzb2⟩ := hzb
  have HiB := Lib.hid (And.intro hib (And.intro hzb0 (And.intro hzb1 hzb2))); clear hib hzb0 hzb1 hzb2
  have hgl := hA.lt
  have htl := hA.tlt
  obtain ⟨W1, hW1⟩ : ∃ W1, w.alloc (.cells #[.int .i64 0, .string ⟨#[]⟩, .int .i64 0, .int .i64 0, .string ⟨#[]⟩, .slice none 0 0, .int .i64 0, .slice none 0 0] 49) = W1 := ⟨_, rfl⟩
  obtain ⟨hb1, hz1, hx1⟩ := box_facts (c := zeros8) hW1
  have hgr1 : w.grownBy W1 none := grown_of_below hb1 none
  have hA1 := hA.kept hgr1
  clear hb1 hA
  unfold statR at hr
  cases hr1 : nameR (T.drop i) with
  | no n =>
    rw [hr1] at hr
    obtain rfl := Option.some.inj hr
    go_enter Tryd.func44, Tryd.ntmps44
    have mk1 : Nat := 0
    have mk2 : Nat := 0
    have mk3 : Nat := 0
    go_wp2_with (first
      | (clear mk1; go_at_call 45; (
        refine (show Calls _ _ _ _ _ from have_any _ g tb c i T hA1 hT [105, 102] (by simp)).mono ?_
        rintro E v1 ⟨rfl, hg, hAv⟩
        rw [k1] at hAv
        rw [k1]
        simp only [if_true, Bool.false_eq_true, if_false] at hAv
        have hxv := hx1.grown hg (by intro e; cases e; omega)
        have hgv := (hgr1.but _).trans hg
        have Hv1 := Lib.hid (And.intro hAv (And.intro hgv hxv)); clear hAv hgv hxv hg))
      | (clear mk2; go_at_call 45; (
        refine (show Calls _ _ _ _ _ from have_any _ g tb c i T Hv1.out.1 hT [114, 101, 112, 101, 97, 116] (by simp)).mono ?_
        rintro E v2 ⟨rfl, hg, hAv⟩
        rw [k2] at hAv
        rw [k2]
        simp only [if_true, Bool.false_eq_true, if_false] at hAv
        have hxv := Hv1.out.2.2.grown hg (by intro e; cases e; omega)
        have hgv := Hv1.out.2.1.trans hg
        have Hv2 := Lib.hid (And.intro hAv (And.intro hgv hxv)); clear hAv hgv hxv hg))
      | (clear mk3; go_at_call 45; (
        refine (show Calls _ _ _ _ _ from have_any _ g tb c i T Hv2.out.1 hT [112, 97, 114] (by simp)).mono ?_
        rintro E v3 ⟨rfl, hg, hAv⟩
        rw [k3] at hAv
        rw [k3]
        simp only [if_true, Bool.false_eq_true, if_false] at hAv
        have hxv := Hv2.out.2.2.grown hg (by intro e; cases e; omega)
        have hgv := Hv2.out.2.1.trans hg
        have Hv3 := Lib.hid (And.intro hAv (And.intro hgv hxv)); clear hAv hgv hxv hg))
      | (go_at_call 71; (
        refine (show Calls _ _ _ _ _ from (name_any _ g tb c i T Hv3.out.1 hT)).mono ?_
        rw [hr1]
        rintro E w4 ⟨hg4, rfl⟩
        have H4 := Lib.hid hg4; clear hg4)))
    exact ⟨rfl, Hv3.out.2.1.trans H4.out, rfl⟩
  | ok nm ts1 =>
    rw [hr1] at hr
    simp only [thenR, needT] at hr
    go_enter Tryd.func44, Tryd.ntmps44
    have mk1 : Nat := 0
    have mk2 : Nat := 0
    have mk3 : Nat := 0
    go_upto_region 17 with (first
      | (clear mk1; go_at_call 45; (
        refine (show Calls _ _ _ _ _ from have_any _ g tb c i T hA1 hT [105, 102] (by simp)).mono ?_
        rintro E v1 ⟨rfl, hg, hAv⟩
        rw [k1] at hAv
        rw [k1]
        simp only [if_true, Bool.false_eq_true, if_false] at hAv
        have hxv := hx1.grown hg (by intro e; cases e; omega)
        have hgv := (hgr1.but _).trans hg
        have Hv1 := Lib.hid (And.intro hAv (And.intro hgv hxv)); clear hAv hgv hxv hg))
      | (clear mk2; go_at_call 45; (
        refine (show Calls _ _ _ _ _ from have_any _ g tb c i T Hv1.out.1 hT [114, 101, 112, 101, 97, 116] (by simp)).mono ?_
        rintro E v2 ⟨rfl, hg, hAv⟩
        rw [k2] at hAv
        rw [k2]
        simp only [if_true, Bool.false_eq_true, if_false] at hAv
        have hxv := Hv1.out.2.2.grown hg (by intro e; cases e; omega)
        have hgv := Hv1.out.2.1.trans hg
        have Hv2 := Lib.hid (And.intro hAv (And.intro hgv hxv)); clear hAv hgv hxv hg))
      | (clear mk3; go_at_call 45; (
        refine (show Calls _ _ _ _ _ from have_any _ g tb c i T Hv2.out.1 hT [112, 97, 114] (by simp)).mono ?_
        rintro E v3 ⟨rfl, hg, hAv⟩
        rw [k3] at hAv
        rw [k3]
        simp only [if_true, Bool.false_eq_true, if_false] at hAv
        have hxv := Hv2.out.2.2.grown hg (by intro e; cases e; omega)
        have hgv := Hv2.out.2.1.trans hg
        have Hv3 := Lib.hid (And.intro hAv (And.intro hgv hxv)); clear hAv hgv hxv hg))
      | (go_at_call 71; (
        refine (show Calls _ _ _ _ _ from (name_any _ g tb c i T Hv3.out.1 hT)).mono ?_
        rw [hr1]
        rintro E w4 ⟨hg4, v, i4, rfl, rfl, hd4, hA4⟩
        have hx4 := Hv3.out.2.2.grown hg4 (by intro e; cases e; omega)
        have hz3 := Hv3.out.2.2.lt
        have H4 := Lib.hid (And.intro (Hv3.out.2.1.trans hg4) (And.intro hA4 (And.intro hd4 (And.intro hx4 hz3)))); clear hg4 hA4 hd4 hx4 hz3)))
    obtain ⟨hg4, hA4, hd4, hx4, hz3⟩ := H4.out
    have hX := XS.start (k := 1) (n := 0) (name := nm) (e := noE) (lo := w4.heap.size) hA4 hg4 hx4 LdE.leaf hx4.lt
    simp only [noE, ExprR.kind, ExprR.n, ExprR.name, ExprR.sA, ExprR.sc, ExprR.kids, List.length_nil] at hX
    generalize hW4 : w4.alloc (.cells #[.int .i64 1, .string nm, .int .i64 0, .int .i64 0, .string ⟨#[]⟩, .slice none 0 0, .int .i64 0, .slice none 0 0] 49) = W4 at *
    generalize w4.heap.size = n3 at *
    have HX := Lib.hid hX; clear hX hW4 hA4 hx4 hg4 H4 hz3
    rw [← hd4] at hr
    clear hd4
    cases hp : isTok [43, 61] (T.drop i4) with
    | true =>
      rw [hp] at hr
      simp only [if_true] at hr
      rw [tail_drop] at hr
      cases hr2 : (gram f).expr 0 (T.drop (i4 + 1)) with
      | none => rw [hr2] at hr; cases hr
      | some r2 =>
      rw [hr2] at hr
      cases r2 with
      | no n =>
        obtain rfl := Option.some.inj hr
        go_wp2_with (first
          | (go_at_call 45; (
            refine (show Calls _ _ _ _ _ from have_any _ g tb c i4 T HX.out.at_ hT [43, 61] (by simp)).mono ?_
            rintro E w7 ⟨rfl, hg, hAv⟩
            rw [hp] at hAv
            rw [hp]
            simp only [if_true, Bool.false_eq_true, if_false] at hAv
            have hX7 := (HX.out.moved hg hAv hgl)
            obtain ⟨_, o0, _⟩ := box8 hX7.val
            have hX7 := hX7.setK hgl htl 2
            have HX7 := Lib.hid hX7; clear hX7 hg hAv))
          | (go_at_call 68; (
            refine (show Calls _ _ _ _ _ from sum_all f _ g tb c (i4 + 1) T _ HX7.out.at_ hT hr2).mono ?_
            rintro E w8 ⟨hg8, rfl⟩
            have H8 := Lib.hid hg8; clear hg8)))
        exact ⟨rfl, HX7.out.grown.trans H8.out, rfl⟩
      | ok a2 ts2 =>
        simp only [thenR] at hr
        obtain rfl := Option.some.inj hr
        go_upto_region 21 with (first
          | (go_at_call 45; (
            refine (show Calls _ _ _ _ _ from have_any _ g tb c i4 T HX.out.at_ hT [43, 61] (by simp)).mono ?_
            rintro E w7 ⟨rfl, hg, hAv⟩
            rw [hp] at hAv
            rw [hp]
            simp only [if_true, Bool.false_eq_true, if_false] at hAv
            have hX7 := (HX.out.moved hg hAv hgl)
            obtain ⟨_, o0, _⟩ := box8 hX7.val
            have hX7 := hX7.setK hgl htl 2
            have HX7 := Lib.hid hX7; clear hX7 hg hAv))
          | (go_at_call 68; (
            refine (show Calls _ _ _ _ _ from sum_all f _ g tb c (i4 + 1) T _ HX7.out.at_ hT hr2).mono ?_
            rintro E w8 ⟨hg8, v, i8, rfl, ⟨e, rfl, he, hle⟩, hd8, hA8⟩
            have hX8 := HX7.out.moved hg8 hA8 hgl
            have hn8 := HX7.out.val.lt
            obtain ⟨⟨_, _, _, _, _, _, _, _⟩, _, _, p2, p3, p4, p5, _, _⟩ := box8 hX8.val
            have H8 := Lib.hid (And.intro hX8 (And.intro he (And.intro hle hn8))); clear hX8 he hle hA8 hg8 hn8
            simp only [ExprR.val])))
        have hX9 : XS w n3 g tb c T ((((w8.setCell ⟨n3, 2, none⟩ (.int .i64 e.kind)).setCell ⟨n3, 3, none⟩ (.int .i64 e.n)).setCell ⟨n3, 4, none⟩ (.string e.name)).setCell ⟨n3, 5, none⟩ (.slice e.sA e.kids.length e.sc)) _ _ _ _ _ _ _ := H8.out.1.setE hgl htl H8.out.2.2.1 H8.out.2.2.2
        have he := H8.out.2.1
        generalize (((w8.setCell ⟨n3, 2, none⟩ (.int .i64 e.kind)).setCell ⟨n3, 3, none⟩ (.int .i64 e.n)).setCell ⟨n3, 4, none⟩ (.string e.name)).setCell ⟨n3, 5, none⟩ (.slice e.sA e.kids.length e.sc) = W9 at *
        have HY := Lib.hid hX9; clear hX9 H8 p2 p3 p4 p5
        obtain ⟨⟨z0, z1, z2, z3, z4, z5, z6, z7⟩, _⟩ := box8 HY.out.val
        obtain ⟨_, q0, q1, q2, q3, q4, q5, q6, q7⟩ := box8 HY.out.box
        go_wp2_with fail
        have hlow := HY.out.low
        exact ret8 Tryd.results44 rfl rfl HY.out.box.put8 ⟨grown_put8 HY.out.grown (Nat.le_refl _), _, _, rfl, HY.out.done (by simp [Fits]) rfl (by rw [← he]; rfl), hd8, HY.out.at_.put8 (by omega) (by omega)⟩
    | false =>
      rw [hp] at hr
      simp only [Bool.false_eq_true, if_false] at hr
      cases hq : isTok [61] (T.drop i4) with
      | false =>
        rw [hq] at hr
        simp only [Bool.false_eq_true, if_false] at hr
        obtain rfl := Option.some.inj hr
        have mk9 : Nat := 0
        go_wp2_with (first
          | (clear mk9; go_at_call 45; (
            refine (show Calls _ _ _ _ _ from have_any _ g tb c i4 T HX.out.at_ hT [43, 61] (by simp)).mono ?_
            rintro E w7 ⟨rfl, hg, hAv⟩
            rw [hp] at hAv
            rw [hp]
            simp only [if_true, Bool.false_eq_true, if_false] at hAv
            have hX7 := (HX.out.moved hg hAv hgl)
            have hnd := need_any _ g tb c i4 T hX7.at_ hT [61] (by simp)
            unfold NeedPost at hnd
            rw [hq] at hnd
            simp only [if_true, Bool.false_eq_true, if_false] at hnd
            have HX5 := Lib.hid (And.intro hX7 hnd); clear hX7 hg hAv hnd))
          | (go_at_call 72; (
            refine (show Calls _ _ _ _ _ from HX5.out.2).mono ?_
            rintro E w9 ⟨hg9, rfl⟩
            have HX7 := Lib.hid hg9; clear hg9)))
        exact ⟨rfl, HX5.out.1.grown.trans HX7.out, rfl⟩
      | true =>
        rw [hq] at hr
        simp only [if_true] at hr
        rw [tail_drop] at hr
        cases hr2 : (gram f).expr 0 (T.drop (i4 + 1)) with
        | none => rw [hr2] at hr; cases hr
        | some r2 =>
        rw [hr2] at hr
        cases r2 with
        | no n =>
          obtain rfl := Option.some.inj hr
          have mk9 : Nat := 0
          go_wp2_with (first
            | (clear mk9; go_at_call 45; (
              refine (show Calls _ _ _ _ _ from have_any _ g tb c i4 T HX.out.at_ hT [43, 61] (by simp)).mono ?_
              rintro E w7 ⟨rfl, hg, hAv⟩
              rw [hp] at hAv
              rw [hp]
              simp only [if_true, Bool.false_eq_true, if_false] at hAv
              have hX7 := (HX.out.moved hg hAv hgl)
              have hnd := need_any _ g tb c i4 T hX7.at_ hT [61] (by simp)
              unfold NeedPost at hnd
              rw [hq] at hnd
              simp only [if_true, Bool.false_eq_true, if_false] at hnd
              have HX5 := Lib.hid (And.intro hX7 hnd); clear hX7 hg hAv hnd))
            | (go_at_call 72; (
              refine (show Calls _ _ _ _ _ from HX5.out.2).mono ?_
              rintro E w9 ⟨hg9, rfl, hA9⟩
              have hX7 := HX5.out.1.moved hg9 hA9 hgl
              have HX7 := Lib.hid hX7; clear hX7 hg9 hA9))
            | (go_at_call 68; (
              refine (show Calls _ _ _ _ _ from sum_all f _ g tb c (i4 + 1) T _ HX7.out.at_ hT hr2).mono ?_
              rintro E w8 ⟨hg8, rfl⟩
              have H8 := Lib.hid hg8; clear hg8)))
          exact ⟨rfl, HX7.out.grown.trans H8.out, rfl⟩
        | ok a2 ts2 =>
          simp only [thenR] at hr
          obtain rfl := Option.some.inj hr
          have mk9 : Nat := 0
          go_upto_region 21 with (first
            | (clear mk9; go_at_call 45; (
              refine (show Calls _ _ _ _ _ from have_any _ g tb c i4 T HX.out.at_ hT [43, 61] (by simp)).mono ?_
              rintro E w7 ⟨rfl, hg, hAv⟩
              rw [hp] at hAv
              rw [hp]
              simp only [if_true, Bool.false_eq_true, if_false] at hAv
              have hX7 := (HX.out.moved hg hAv hgl)
              have hnd := need_any _ g tb c i4 T hX7.at_ hT [61] (by simp)
              unfold NeedPost at hnd
              rw [hq] at hnd
              simp only [if_true, Bool.false_eq_true, if_false] at hnd
              have HX5 := Lib.hid (And.intro hX7 hnd); clear hX7 hg hAv hnd))
            | (go_at_call 72; (
              refine (show Calls _ _ _ _ _ from HX5.out.2).mono ?_
              rintro E w9 ⟨hg9, rfl, hA9⟩
              have hX7 := HX5.out.1.moved hg9 hA9 hgl
              have HX7 := Lib.hid hX7; clear hX7 hg9 hA9))
            | (go_at_call 68; (
              refine (show Calls _ _ _ _ _ from sum_all f _ g tb c (i4 + 1) T _ HX7.out.at_ hT hr2).mono ?_
              rintro E w8 ⟨hg8, v, i8, rfl, ⟨e, rfl, he, hle⟩, hd8, hA8⟩
              have hX8 := HX7.out.moved hg8 hA8 hgl
              have hn8 := HX7.out.val.lt
              obtain ⟨⟨_, _, _, _, _, _, _, _⟩, _, _, p2, p3, p4, p5, _, _⟩ := box8 hX8.val
              have H8 := Lib.hid (And.intro hX8 (And.intro he (And.intro hle hn8))); clear hX8 he hle hA8 hg8 hn8
              simp only [ExprR.val])))
          have hX9 : XS w n3 g tb c T ((((w8.setCell ⟨n3, 2, none⟩ (.int .i64 e.kind)).setCell ⟨n3, 3, none⟩ (.int .i64 e.n)).setCell ⟨n3, 4, none⟩ (.string e.name)).setCell ⟨n3, 5, none⟩ (.slice e.sA e.kids.length e.sc)) _ _ _ _ _ _ _ := H8.out.1.setE hgl htl H8.out.2.2.1 H8.out.2.2.2
          have he := H8.out.2.1
          generalize (((w8.setCell ⟨n3, 2, none⟩ (.int .i64 e.kind)).setCell ⟨n3, 3, none⟩ (.int .i64 e.n)).setCell ⟨n3, 4, none⟩ (.string e.name)).setCell ⟨n3, 5, none⟩ (.slice e.sA e.kids.length e.sc) = W9 at *
          have HY := Lib.hid hX9; clear hX9 H8 p2 p3 p4 p5
          obtain ⟨⟨z0, z1, z2, z3, z4, z5, z6, z7⟩, _⟩ := box8 HY.out.val
          obtain ⟨_, q0, q1, q2, q3, q4, q5, q6, q7⟩ := box8 HY.out.box
          go_wp2_with fail
          have hlow := HY.out.low
          exact ret8 Tryd.results44 rfl rfl HY.out.box.put8 ⟨grown_put8 HY.out.grown (Nat.le_refl _), _, _, rfl, HY.out.done (by simp [Fits]) rfl (by rw [← he]; rfl), hd8, HY.out.at_.put8 (by omega) (by omega)⟩
end Go.Proofs.YtgiceeholamphaaDoor

/- The reader's method that reads a statement: Par (made by mkrdx.py). No conditions but that the reader is one. -/
namespace Go.Proofs.YtgiceeholamphaaDoor
open Go.ChangeShapes Go.WideShapes Go.ChangeAt Go.RowKit Go.Maps

theorem par_more {f : Nat} {a : List BlockR} {ts : List Tok} {r : PR (List BlockR)} (h : (gram f).par a ts = some r) :
    ∃ f', f = f' + 1 ∧ (if decide (a.length < 8) && isTok [97, 110, 100] ts then thenR ((gram f').braced ts.tail) fun b ts => (gram f').par (a ++ [mkB b]) ts else some (.ok a ts)) = some r := by
  cases f with
  | zero => cases h
  | succ f => exact ⟨f, rfl, by rw [gram_succ] at h; exact h⟩
/-- A Par's making begins with a block. -/
theorem XS.startB {w w4 : World} {g tb c i lo : Nat} {T : List Tok} {kb : BlockR} (hA : RAt w4 g tb c T i) (hg : w.grownBy w4 (some g)) (hx : Blk w4 w.heap.size 49 zeros8) (hk : LdB (under lo) w4 kb) (hlo : w.heap.size + 1 ≤ lo) :
    XS w (w4.heap.size + 1) g tb c T ((w4.alloc (.cells #[kb.val] 22)).alloc (.cells #[.int .i64 5, .string ⟨#[]⟩, .int .i64 0, .int .i64 0, .string ⟨#[]⟩, .slice none 0 0, .int .i64 0, .slice (some ⟨w4.heap.size, 0, none⟩) 1 1] 49)) i 5 ⟨#[]⟩ noE 0 (.slice (some ⟨w4.heap.size, 0, none⟩) 1 1) [kb] := by
  have hl := hx.lt
  have hs : (w4.alloc (.cells #[kb.val] 22)).heap.size = w4.heap.size + 1 := by simp
  refine ⟨(hA.kept (World.grownBy_alloc _ _ _)).kept (World.grownBy_alloc _ _ _), grown_alloc (grown_alloc hg _) _, (hx.alloc _).alloc _, ?_, LdE.leaf, ?_, by simp [Value.ownBlock], ?_, by omega⟩
  · have hb := Blk.newArr (w4.alloc (.cells #[kb.val] 22)) 49 (cs := #[.int .i64 5, .string ⟨#[]⟩, .int .i64 0, .int .i64 0, .string ⟨#[]⟩, .slice none 0 0, .int .i64 0, .slice (some ⟨w4.heap.size, 0, none⟩) 1 1]) (vs := [.int .i64 5, .string ⟨#[]⟩, .int .i64 0, .int .i64 0, .string ⟨#[]⟩, .slice none 0 0, .int .i64 0, .slice (some ⟨w4.heap.size, 0, none⟩) 1 1]) rfl
    rw [hs] at hb
    exact hb
  · have hb := (Blk.newArr w4 22 (cs := #[kb.val]) (vs := [kb.val]) rfl).alloc (.cells #[.int .i64 5, .string ⟨#[]⟩, .int .i64 0, .int .i64 0, .string ⟨#[]⟩, .slice none 0 0, .int .i64 0, .slice (some ⟨w4.heap.size, 0, none⟩) 1 1] 49)
    exact ⟨by simp [blockC], .inr ⟨w4.heap.size, 1, #[kb.val], rfl, by omega, hb, by simp, by simp [maxLen], by simp, by simp [blockC]⟩⟩
  · intro b hb
    obtain rfl := List.mem_singleton.1 hb
    refine ((hk.go (Stays.sub (S' := sideS (w.heap.size + 1) (w4.heap.size + 1) (.slice (some ⟨w4.heap.size, 0, none⟩) 1 1)) ?_)).go (Stays.alloc _)).go (Stays.alloc _)
    intro b hlt hb
    simp [Value.ownBlock] at hb ⊢
    omega
set_option maxRecDepth 100000 in
set_option maxHeartbeats 8000000 in
theorem stat_par (f : Nat) (ih : CS f) (w : World) (g tb c i : Nat) (T : List Tok) (r : PR StatR) (hA : RAt w g tb c T i) (hT : TokOk T) (k1 : isTok [105, 102] (T.drop i) = false) (k2 : isTok [114, 101, 112, 101, 97, 116] (T.drop i) = false) (k3 : isTok [112, 97, 114] (T.drop i) = true)
    (hr : (thenR ((gram f).braced (T.drop i).tail) fun b ts => thenR ((gram f).par [mkB b] ts) fun bs ts => some (.ok (mkPar bs) ts)) = some r) :
    Calls Tryd.prog 44 #[.pointer (some ⟨g, 0, none⟩)] w (RPost (QS w.heap.size) w g tb c T r) := by
  obtain ⟨iB, hib, hzb⟩ := Option.map_eq_some_iff.1 info_block
  simp only [Prod.mk.injEq] at hzb
  obtain ⟨hzb0, hzb1, hzb2⟩ := hzb
  have HiB := Lib.hid (And.intro hib (And.intro hzb0 (And.intro hzb1 hzb2))); clear hib hzb0 hzb1 hzb2
  have hgl := hA.lt
  have htl := hA.tlt
  obtain ⟨W1, hW1⟩ : ∃ W1, w.alloc (.cells #[.int .i64 0, .string ⟨#[]⟩, .int .i64 0, .int .i64 0, .string ⟨#[]⟩, .slice none 0 0, .int .i64 0, .slice none 0 0] 49) = W1 := ⟨_, rfl⟩
  obtain ⟨hb1, hz1, hx1⟩ := box_facts (c := zeros8) hW1
  have hgr1 : w.grownBy W1 none := grown_of_below hb1 none
  have hA1 := hA.kept hgr1
  clear hb1 hA
  rw [tail_drop] at hr
  cases hr1 : (gram f).braced (T.drop (i + 1)) with
  | none => rw [hr1] at hr; cases hr
  | some r1 =>
  rw [hr1] at hr
  cases r1 with
  | no n =>
    obtain rfl := Option.some.inj hr
    go_enter Tryd.func44, Tryd.ntmps44
    have mk1 : Nat := 0
    have mk2 : Nat := 0
    have mk3 : Nat := 0
    go_wp2_with (first
      | (clear mk1; go_at_call 45; (
        refine (show Calls _ _ _ _ _ from have_any _ g tb c i T hA1 hT [105, 102] (by simp)).mono ?_
        rintro E v1 ⟨rfl, hg, hAv⟩
        rw [k1] at hAv
        rw [k1]
        simp only [if_true, Bool.false_eq_true, if_false] at hAv
        have hxv := hx1.grown hg (by intro e; cases e; omega)
        have hgv := (hgr1.but _).trans hg
        have Hv1 := Lib.hid (And.intro hAv (And.intro hgv hxv)); clear hAv hgv hxv hg))
      | (clear mk2; go_at_call 45; (
        refine (show Calls _ _ _ _ _ from have_any _ g tb c i T Hv1.out.1 hT [114, 101, 112, 101, 97, 116] (by simp)).mono ?_
        rintro E v2 ⟨rfl, hg, hAv⟩
        rw [k2] at hAv
        rw [k2]
        simp only [if_true, Bool.false_eq_true, if_false] at hAv
        have hxv := Hv1.out.2.2.grown hg (by intro e; cases e; omega)
        have hgv := Hv1.out.2.1.trans hg
        have Hv2 := Lib.hid (And.intro hAv (And.intro hgv hxv)); clear hAv hgv hxv hg))
      | (clear mk3; go_at_call 45; (
        refine (show Calls _ _ _ _ _ from have_any _ g tb c i T Hv2.out.1 hT [112, 97, 114] (by simp)).mono ?_
        rintro E v3 ⟨rfl, hg, hAv⟩
        rw [k3] at hAv
        rw [k3]
        simp only [if_true, Bool.false_eq_true, if_false] at hAv
        have hxv := Hv2.out.2.2.grown hg (by intro e; cases e; omega)
        have hgv := Hv2.out.2.1.trans hg
        have Hv3 := Lib.hid (And.intro hAv (And.intro hgv hxv)); clear hAv hgv hxv hg))
      | (go_at_call 69; (
        refine (show Calls _ _ _ _ _ from ih.braced _ g tb c (i + 1) T _ Hv3.out.1 hT hr1).mono ?_
        rintro E w4 ⟨hg4, rfl⟩
        have H4 := Lib.hid hg4; clear hg4)))
    exact ⟨rfl, Hv3.out.2.1.trans H4.out, rfl⟩
  | ok a1 ts1 =>
    simp only [thenR] at hr
    obtain ⟨rp, hrp, hrr⟩ : ∃ rp, (gram f).par [mkB a1] ts1 = some rp ∧ (match rp with | .no n => PR.no n | .ok bs ts => .ok (mkPar bs) ts) = r := by
      cases hx : (gram f).par [mkB a1] ts1 with
      | none => rw [hx] at hr; cases hr
      | some rp =>
        rw [hx] at hr
        cases rp with
        | no n => exact ⟨_, rfl, Option.some.inj hr⟩
        | ok bs ts => exact ⟨_, rfl, Option.some.inj hr⟩
    clear hr
    go_enter Tryd.func44, Tryd.ntmps44
    have mk1 : Nat := 0
    have mk2 : Nat := 0
    have mk3 : Nat := 0
    go_upto_block 1 with (first
      | (clear mk1; go_at_call 45; (
        refine (show Calls _ _ _ _ _ from have_any _ g tb c i T hA1 hT [105, 102] (by simp)).mono ?_
        rintro E v1 ⟨rfl, hg, hAv⟩
        rw [k1] at hAv
        rw [k1]
        simp only [if_true, Bool.false_eq_true, if_false] at hAv
        have hxv := hx1.grown hg (by intro e; cases e; omega)
        have hgv := (hgr1.but _).trans hg
        have Hv1 := Lib.hid (And.intro hAv (And.intro hgv hxv)); clear hAv hgv hxv hg))
      | (clear mk2; go_at_call 45; (
        refine (show Calls _ _ _ _ _ from have_any _ g tb c i T Hv1.out.1 hT [114, 101, 112, 101, 97, 116] (by simp)).mono ?_
        rintro E v2 ⟨rfl, hg, hAv⟩
        rw [k2] at hAv
        rw [k2]
        simp only [if_true, Bool.false_eq_true, if_false] at hAv
        have hxv := Hv1.out.2.2.grown hg (by intro e; cases e; omega)
        have hgv := Hv1.out.2.1.trans hg
        have Hv2 := Lib.hid (And.intro hAv (And.intro hgv hxv)); clear hAv hgv hxv hg))
      | (clear mk3; go_at_call 45; (
        refine (show Calls _ _ _ _ _ from have_any _ g tb c i T Hv2.out.1 hT [112, 97, 114] (by simp)).mono ?_
        rintro E v3 ⟨rfl, hg, hAv⟩
        rw [k3] at hAv
        rw [k3]
        simp only [if_true, Bool.false_eq_true, if_false] at hAv
        have hxv := Hv2.out.2.2.grown hg (by intro e; cases e; omega)
        have hgv := Hv2.out.2.1.trans hg
        have Hv3 := Lib.hid (And.intro hAv (And.intro hgv hxv)); clear hAv hgv hxv hg))
      | (go_at_call 69; (
        refine (show Calls _ _ _ _ _ from ih.braced _ g tb c (i + 1) T _ Hv3.out.1 hT hr1).mono ?_
        rintro E w4 ⟨hg4, v, i4, rfl, ⟨kb0, rfl, hke, hkl⟩, hd4, hA4⟩
        have hx4 := Hv3.out.2.2.grown hg4 (by intro e; cases e; omega)
        have hz3 := Hv3.out.2.2.lt
        have H4 := Lib.hid (And.intro (Hv3.out.2.1.trans hg4) (And.intro hA4 (And.intro hd4 (And.intro hke (And.intro hkl (And.intro hx4 hz3)))))); clear hg4 hA4 hd4 hke hkl hx4 hz3
        simp only [BlockR.val])))
    obtain ⟨hg4, hA4, hd4, hke, hkl, hx4, hz3⟩ := H4.out
    have hX := XS.startB hA4 hg4 hx4 hkl hz3
    simp only [BlockR.val] at hX
    generalize hW4 : (w4.alloc (.cells #[.slice kb0.A kb0.l.length kb0.c] 22)).alloc (.cells #[.int .i64 5, .string ⟨#[]⟩, .int .i64 0, .int .i64 0, .string ⟨#[]⟩, .slice none 0 0, .int .i64 0, .slice (some ⟨w4.heap.size, 0, none⟩) 1 1] 49) = W4 at *
    generalize w4.heap.size = n4 at *
    obtain ⟨n3, hn3⟩ : ∃ n3, n4 + 1 = n3 := ⟨_, rfl⟩
    rw [hn3] at hX
    rw [hn3]
    have HX := Lib.hid hX; clear hX hW4 hA4 hx4 hg4 H4 hz3 hkl hn3
    rw [← hd4, ← hke] at hrp
    clear hd4
    go_wp2_with fail
    go_loopg [51] (T.length - i4) (fun gk _ wr => ∃ (f' i1 : Nat) (bs : List BlockR) (vb : Value), gk = T.length - i1 ∧ f' ≤ f ∧ (gram f').par (plainB bs) (T.drop i1) = some rp ∧ bs.length ≤ 8 ∧ XS w n3 g tb c T wr i1 5 ⟨#[]⟩ noE 0 vb bs)
    case atStart => exact ⟨f, i4, [kb0], _, rfl, Nat.le_refl _, by rw [← hrp]; simp [plainB, blk_bare], by simp, HX.out⟩
    case round =>
      clear HX hrp
      obtain ⟨f1, i1, bs, vb, hgk, hf1, hr0, hb8, hX⟩ := hrel
      obtain ⟨f2, hff, hr⟩ := par_more hr0
      clear hr0
      subst hff
      obtain ⟨A1, c1, rfl, hc1, hcm1⟩ := own_form hX.own
      rw [plainB_length] at hr
      obtain ⟨⟨_, _, _, _, _, _, _, z7⟩, _⟩ := box8 hX.val
      have HX := Lib.hid hX; clear hX
      by_cases h8 : bs.length < 8
      · have h8' : (bs.length : Int) < 8 := by omega
        cases ha : isTok [97, 110, 100] (T.drop i1) with
        | false =>
          rw [ha, Bool.and_false, if_neg (by decide)] at hr
          obtain rfl := Option.some.inj hr
          subst hrr
          go_wp2_with (go_at_call 45; (
              refine (show Calls _ _ _ _ _ from have_any _ g tb c i1 T HX.out.at_ hT [97, 110, 100] (by simp)).mono ?_
              rintro E w7 ⟨rfl, hg, hAv⟩
              rw [ha] at hAv
              rw [ha]
              simp only [if_true, Bool.false_eq_true, if_false] at hAv
              have hX7 := HX.out.moved hg hAv hgl
              have HY := Lib.hid hX7; clear hX7 hg hAv
              obtain ⟨⟨z0, z1, z2, z3, z4, z5, z6, z7⟩, _⟩ := box8 HY.out.val
              obtain ⟨_, q0, q1, q2, q3, q4, q5, q6, q7⟩ := box8 HY.out.box))
          have hlow := HY.out.low
          exact ret8 Tryd.results44 rfl rfl HY.out.box.put8 ⟨grown_put8 HY.out.grown (Nat.le_refl _), _, _, rfl, HY.out.done (by unfold Fits; omega) rfl rfl, rfl, HY.out.at_.put8 (by omega) (by omega)⟩
        | true =>
          rw [ha, decide_eq_true h8, Bool.and_true, if_pos rfl, tail_drop] at hr
          cases hrb : (gram f2).braced (T.drop (i1 + 1)) with
          | none => rw [hrb] at hr; cases hr
          | some r3 =>
          rw [hrb] at hr
          have hrb : (gram f).braced (T.drop (i1 + 1)) = some r3 := by
            have := (gram_add f2 (f - f2)).braced _ _ hrb
            rwa [show f2 + (f - f2) = f by omega] at this
          go_upto_region 14 with (go_at_call 45; (
        refine (show Calls _ _ _ _ _ from have_any _ g tb c i1 T HX.out.at_ hT [97, 110, 100] (by simp)).mono ?_
        rintro E w7 ⟨rfl, hg, hAv⟩
        rw [ha] at hAv
        rw [ha]
        simp only [if_true, Bool.false_eq_true, if_false] at hAv
        have hX7 := HX.out.moved hg hAv hgl
        have HX := Lib.hid hX7; clear hX7 hg hAv z7))
          cases r3 with
          | no n =>
            obtain rfl := Option.some.inj hr
            subst hrr
            obtain ⟨⟨_, _, _, _, _, _, _, y7⟩, _, _, _, _, _, _, _, f7⟩ := box8 HX.out.val
            go_region_dies
            all_goals (
              refine (show Calls _ _ _ _ _ from ih.braced _ g tb c (i1 + 1) T _ HX.out.at_.drew hT hrb).mono ?_
              rintro E w6 ⟨hg6, rfl⟩
              exact ⟨rfl, HX.out.grown.trans ((grown_drew _ _).trans hg6), rfl⟩)
          | ok a3 ts2 =>
            simp only [thenR] at hr
            have hfew := (gram_few f).braced _ _ hrb
            simp only [Cost, List.length_drop] at hfew
            have HB := Lib.hid (And.intro hr hfew); clear hr hfew
            obtain ⟨⟨_, _, _, _, _, _, _, y7⟩, _, _, _, _, _, _, _, f7⟩ := box8 HX.out.val
            have hXl := HX.out.val.lt
            have hlow := HX.out.low
            go_region_law (first
              | (refine step_append_src rfl (.tmp 57) (.tmp 60) _ rfl (w.heap.size + 1) 22 iB _ 1 24 Tryd.underlying47 HiB.out.1 HiB.out.2.1 HiB.out.2.2.1 HiB.out.2.2.2 rfl (by decide) (.slice A1 bs.length c1) bs.length (blockC bs) rfl (H6.out.1.own.alloc _) (some ⟨w6.heap.size, 0, none⟩) 1 1 (blockC [kb]) rfl rfl (fun _ => ⟨w6.heap.size, 0, rfl, fun j u hu => ((Blk.new w6 _ (blockC [kb])).cellAdd j).trans hu⟩) (blockC_one _) (by unfold maxLen; omega) (by omega) (by simp; omega) (fun v8 w8 hown8 hg8 hl8 => ?_)
                 obtain ⟨A8, d8, rfl, _, _⟩ := own_form hown8
                 have y8 : w8.cell? ⟨n3, 7, none⟩ = some (.slice A1 bs.length c1) := ((((H6.out.1.val.alloc _).grown hg8 (fun e => H6.out.1.far e.symm)).cell 7))
                 have f8 : w8.frozen? ⟨n3, 7, none⟩ = false := (((H6.out.1.val.alloc _).grown hg8 (fun e => H6.out.1.far e.symm))).frozen 7
                 have H8 := Lib.hid (And.intro hown8 (And.intro hg8 hl8)); clear hown8 hg8 hl8)
              | (go_simp; go_at_call 69; (
                 refine (show Calls _ _ _ _ _ from ih.braced _ g tb c (i1 + 1) T _ HX.out.at_.drew hT hrb).mono ?_
                 rintro E w6 ⟨hg6, v, i6, rfl, ⟨kb, rfl, hke, hkl⟩, hd6, hA6⟩
                 have hX6 := HX.out.moved ((grown_drew _ _).trans hg6) hA6 hgl
                 have y7' := hX6.val.cell 7
                 have y7a : ∀ o : Obj, (w6.alloc o).cell? ⟨n3, 7, none⟩ = some (.slice A1 bs.length c1) := fun o => (hX6.val.alloc o).cell 7
                 have hn6 := hX6.val.lt
                 have H6 := Lib.hid (And.intro hX6 (And.intro hke (And.intro hkl (And.intro hd6 hA6)))); clear hX6 hke hkl hd6 hA6 hg6
                 simp only [BlockR.val])))
            all_goals (
              have hpush := H6.out.1.push hgl htl H6.out.2.2.1 (show n3 < (World.drew _).heap.size from hXl) (fun b e => (HX.out.own.lt b e).2) H8.out.1 H8.out.2.1 H8.out.2.2
              have hke := H6.out.2.1
              have hd6 := H6.out.2.2.2.1
              have hlt6 := H6.out.1.at_.hi
              go_wp2_with fail
              go_roundg (T.length - i6)
              case measure => have := HB.out.2; have := congrArg List.length hd6; rw [List.length_drop] at this; have := HX.out.at_.hi; omega
              case rel =>
                refine ⟨f2, i6, bs ++ [kb], _, rfl, by omega, ?_, by simp; omega, hpush⟩
                rw [plainB_append, hd6]
                show (gram f2).par (plainB bs ++ [kb.plain]) ts2 = some rp
                rw [blk_bare, hke]
                exact HB.out.1)
      · have h8' : ¬ (bs.length : Int) < 8 := by omega
        rw [decide_eq_false h8, Bool.false_and, if_neg (by decide)] at hr
        obtain rfl := Option.some.inj hr
        subst hrr
        have HY := HX
        obtain ⟨⟨z0, z1, z2, z3, z4, z5, z6, z7⟩, _⟩ := box8 HY.out.val
        obtain ⟨_, q0, q1, q2, q3, q4, q5, q6, q7⟩ := box8 HY.out.box
        go_wp2_with fail
        have hlow := HY.out.low
        exact ret8 Tryd.results44 rfl rfl HY.out.box.put8 ⟨grown_put8 HY.out.grown (Nat.le_refl _), _, _, rfl, HY.out.done (by unfold Fits; omega) rfl rfl, rfl, HY.out.at_.put8 (by omega) (by omega)⟩
end Go.Proofs.YtgiceeholamphaaDoor

/- The reader's contracts, all of them. No conditions but that the reader is one. -/
namespace Go.Proofs.YtgiceeholamphaaDoor
open Go.ChangeShapes Go.WideShapes Go.ChangeAt Go.RowKit Go.Maps

theorem rstat_any (f : Nat) (ih : CS f) (w : World) (g tb c i : Nat) (T : List Tok) (r : PR StatR) (hA : RAt w g tb c T i) (hT : TokOk T) (hr : (gram (f + 1)).stat (T.drop i) = some r) :
    Calls Tryd.prog 44 #[.pointer (some ⟨g, 0, none⟩)] w (RPost (QS w.heap.size) w g tb c T r) := by
  rw [gram_succ] at hr
  simp only at hr
  cases k1 : isTok [105, 102] (T.drop i) with
  | true =>
    rw [if_pos k1] at hr
    exact stat_if f ih w g tb c i T r hA hT k1 hr
  | false =>
    rw [if_neg (by rw [k1]; decide)] at hr
    cases k2 : isTok [114, 101, 112, 101, 97, 116] (T.drop i) with
    | true =>
      rw [if_pos k2] at hr
      exact stat_rep f ih w g tb c i T r hA hT k1 k2 hr
    | false =>
      rw [if_neg (by rw [k2]; decide)] at hr
      cases k3 : isTok [112, 97, 114] (T.drop i) with
      | true =>
        rw [if_pos k3] at hr
        exact stat_par f ih w g tb c i T r hA hT k1 k2 k3 hr
      | false =>
        rw [if_neg (by rw [k3]; decide)] at hr
        exact stat_set f ih w g tb c i T r hA hT k1 k2 k3 hr
theorem CS_all : ∀ f, CS f
  | 0 => ⟨fun _ _ _ _ _ _ _ _ _ h => by (cases h), fun _ _ _ _ _ _ _ _ _ h => by (cases h), fun _ _ _ _ _ _ _ _ _ h => by (cases h)⟩
  | f + 1 => ⟨rstat_any f (CS_all f), braced_any f (CS_all f), list_any f (CS_all f)⟩
theorem block_all (f : Nat) (w : World) (g tb c i : Nat) (T : List Tok) (r : PR (List StatR)) (hA : RAt w g tb c T i) (hT : TokOk T) (hr : (gram f).list [] (T.drop i) = some r) :
    Calls Tryd.prog 26 #[.pointer (some ⟨g, 0, none⟩)] w (RPost (QB w.heap.size) w g tb c T r) := (CS_all f).list w g tb c i T r hA hT hr
end Go.Proofs.YtgiceeholamphaaDoor
