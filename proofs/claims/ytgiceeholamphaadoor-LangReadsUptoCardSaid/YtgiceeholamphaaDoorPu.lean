/- stepref's parser: statements: if, repeat (made by mkps.py). No conditions but that the parser is one. -/
import Derived.Test.YtgiceeholamphaaDoorPl
import Derived.Test.YtgiceeholamphaaDoorRdY
namespace Go.Proofs.YtgiceeholamphaaDoor
open Go.ChangeShapes Go.WideShapes Go.ChangeAt Go.RowKit Go.Maps

theorem if_of {f : Nat} {r1 : PR ExprR} {r : PR StatR} (h : (thenR (some r1) fun e ts => thenR ((gram f).braced ts) fun b ts => if isTok [101, 108, 115, 101] ts then thenR ((gram f).braced ts.tail) fun c ts => some (.ok (mkIf e [mkB b, mkB c]) ts) else some (.ok (mkIf e [mkB b]) ts)) = some r) :
    ∃ r2, fromS (stOf r1) (gram f).braced = some r2 ∧ (isS [101, 108, 115, 101] (stOf r2) = false → stOf r = stOf r2 ∧ ∀ a, valOf r = some a → ∃ e b, valOf r1 = some e ∧ valOf r2 = some b ∧ a = mkIf e [mkB b]) ∧
      (isS [101, 108, 115, 101] (stOf r2) = true → ∃ r3, fromS (tailS [101, 108, 115, 101] (stOf r2)) (gram f).braced = some r3 ∧ stOf r = stOf r3 ∧ ∀ a, valOf r = some a → ∃ e b c, valOf r1 = some e ∧ valOf r2 = some b ∧ valOf r3 = some c ∧ a = mkIf e [mkB b, mkB c]) := by
  cases r1 with
  | no n => cases h; exact ⟨.no n, rfl, fun _ => ⟨rfl, fun a e => by cases e⟩, fun e => by cases e⟩
  | ok e ts1 =>
    simp only [thenR] at h
    cases hb : (gram f).braced ts1 with
    | none => rw [hb] at h; cases h
    | some r2 =>
      rw [hb] at h
      refine ⟨r2, hb, ?_⟩
      cases r2 with
      | no n => cases h; exact ⟨fun _ => ⟨rfl, fun a e => by cases e⟩, fun e => by cases e⟩
      | ok b ts2 =>
        simp only at h
        cases hk : isTok [101, 108, 115, 101] ts2 with
        | false =>
          rw [hk] at h
          cases h
          exact ⟨fun _ => ⟨rfl, fun a ea => by cases ea; exact ⟨e, b, rfl, rfl, rfl⟩⟩, fun h2 => by simp [isS, stOf, hk] at h2⟩
        | true =>
          rw [hk] at h
          simp only [if_true] at h
          refine ⟨fun h2 => by simp [isS, stOf, hk] at h2, fun _ => ?_⟩
          have ht : tailS [101, 108, 115, 101] (stOf (.ok b ts2)) = .go ts2.tail := by simp [tailS, stOf, hk]
          rw [ht]
          cases hc : (gram f).braced ts2.tail with
          | none => rw [hc] at h; cases h
          | some r3 =>
            rw [hc] at h
            refine ⟨r3, hc, ?_⟩
            cases r3 with
            | no n => cases h; exact ⟨rfl, fun a ea => by cases ea⟩
            | ok c ts3 => cases h; exact ⟨rfl, fun a ea => by cases ea; exact ⟨e, b, c, rfl, rfl, rfl, rfl⟩⟩
theorem rep_of {f : Nat} {r1 : PR Int} {r : PR StatR} (h : (thenR (some r1) fun n ts => thenR ((gram f).braced ts) fun b ts => some (.ok (mkRep n (mkB b)) ts)) = some r) :
    ∃ r2, fromS (stOf r1) (gram f).braced = some r2 ∧ stOf r = stOf r2 ∧ ∀ a, valOf r = some a → ∃ n b, valOf r1 = some n ∧ valOf r2 = some b ∧ a = mkRep n (mkB b) := by
  cases r1 with
  | no n => cases h; exact ⟨.no n, rfl, rfl, fun a e => by cases e⟩
  | ok m ts1 =>
    simp only [thenR] at h
    cases hb : (gram f).braced ts1 with
    | none => rw [hb] at h; cases h
    | some r2 =>
      rw [hb] at h
      refine ⟨r2, hb, ?_⟩
      cases r2 with
      | no n => cases h; exact ⟨rfl, fun a e => by cases e⟩
      | ok b ts2 => cases h; exact ⟨rfl, fun a ea => by cases ea; exact ⟨m, b, rfl, rfl, rfl⟩⟩
set_option maxRecDepth 100000 in
set_option maxHeartbeats 8000000 in
theorem pstat_if (f : Nat) (ih : CP f) (w : World) (g : Nat) (s : ByteArray) (ts : List Tok) (r : PR StatR) (h : PAt w g s (.go ts)) (k1 : isTok [105, 102] ts = true)
    (hr : (thenR ((gram f).expr 0 ts.tail) fun e ts => thenR ((gram f).braced ts) fun b ts => if isTok [101, 108, 115, 101] ts then thenR ((gram f).braced ts.tail) fun c ts => some (.ok (mkIf e [mkB b, mkB c]) ts) else some (.ok (mkIf e [mkB b]) ts)) = some r) :
    Calls Tryd.prog 46 #[.pointer (some ⟨g, 0, none⟩)] w (PPost (QPs w.heap.size) w g s r) := by
  cases hr1 : (gram f).expr 0 ts.tail with
  | none => rw [hr1] at hr; cases hr
  | some r1 =>
  rw [hr1] at hr
  obtain ⟨r2, hrb, hF, hTT⟩ := if_of hr
  clear hr
  obtain ⟨iB, hib, hzb⟩ := Option.map_eq_some_iff.1 info_block
  simp only [Prod.mk.injEq] at hzb
  obtain ⟨hzb0, hzb1, hzb2⟩ := hzb
  have HiB := Lib.hid (And.intro hib (And.intro hzb0 (And.intro hzb1 hzb2))); clear hib hzb0 hzb1 hzb2
  have hgl := h.lt
  obtain ⟨W2, hW2⟩ : ∃ W2, (w.alloc (.cells #[.int .i64 0, .string ⟨#[]⟩, .int .i64 0, .int .i64 0, .string ⟨#[]⟩, .slice none 0 0, .int .i64 0, .slice none 0 0] 49)).alloc (.cells #[.int .i64 0, .string ⟨#[]⟩, .int .i64 0, .int .i64 0, .string ⟨#[]⟩, .slice none 0 0, .int .i64 0, .slice none 0 0] 49) = W2 := ⟨_, rfl⟩
  have HX0 := Lib.hid (PX.start h hW2); clear h
  go_enter Tryd.func46, Tryd.ntmps46
  have mk1 : Nat := 0
  go_upto_region 10 with (first
    | (clear mk1; go_at_call 47; (
      refine (show Calls _ _ _ _ _ from is_any _ g s _ HX0.out.at_ [105, 102] (by simp)).mono ?_
      rintro E w3 ⟨hg, hA, rfl⟩
      simp only [isS, tailS] at hA ⊢
      rw [k1] at hA
      rw [k1]
      simp only [if_true, Bool.false_eq_true, if_false] at hA
      have hXn := HX0.out.moved hg hA hgl
      obtain ⟨⟨y0, y1, y2, y3, y4, y5, y6, y7⟩, f0, f1, f2, f3, f4, f5, f6, f7⟩ := box8 hXn.val
      have HX3 := Lib.hid hXn; clear hXn hg hA)))
  have hXc := HX3.out.cell hgl 0 (.int .i64 3) rfl
  generalize w3.setCell ⟨w.heap.size + 1, 0, none⟩ (.int .i64 3) = W4 at *
  have HX4 := Lib.hid hXc; clear hXc
  obtain ⟨⟨y0, y1, y2, y3, y4, y5, y6, y7⟩, f0, f1, f2, f3, f4, f5, f6, f7⟩ := box8 HX4.out.val
  go_upto_region 11 with (first
    | (go_at_call 73; (
      refine (show Calls _ _ _ _ _ from PE_all f 0 _ g s (.go ts.tail) _ (by omega) HX4.out.at_ hr1).mono ?_
      rintro E w5 ⟨hg, hA, v, rfl, e, rfl, hle, hev⟩
      have hXn := HX4.out.moved hg hA hgl
      have hlo := HX4.out.val.lt
      obtain ⟨⟨y0, y1, y2, y3, y4, y5, y6, y7⟩, f0, f1, f2, f3, f4, f5, f6, f7⟩ := box8 hXn.val
      have HE := Lib.hid (And.intro hXn (And.intro hle (And.intro hev hlo))); clear hXn hg hA hle hev hlo
      simp only [ExprR.val])))
  have hXc := HE.out.1.setE hgl HE.out.2.1 HE.out.2.2.2
  have hev := HE.out.2.2.1
  generalize (((w5.setCell ⟨w.heap.size + 1, 2, none⟩ (.int .i64 e.kind)).setCell ⟨w.heap.size + 1, 3, none⟩ (.int .i64 e.n)).setCell ⟨w.heap.size + 1, 4, none⟩ (.string e.name)).setCell ⟨w.heap.size + 1, 5, none⟩ (.slice e.sA e.kids.length e.sc) = W6 at *
  have HX6 := Lib.hid hXc; clear hXc HE
  clear HX0 HX3 HX4 hW2
  go_cut [3] (fun s3 wc => s3 = .pointer (some ⟨w.heap.size + 1, 0, none⟩) ∧ ∃ (v6 : Value) (kb : BlockR), PX w g s wc (stOf r2) 3 ⟨#[]⟩ e 0 v6 (([] : List BlockR) ++ [kb]) ∧ ∀ a, valOf r2 = some a → plainS kb.l = a)
  case first => as_aux_lemma =>
    obtain ⟨⟨_, _, _, _, _, _, _, y7⟩, _, _, _, _, _, _, _, f7⟩ := box8 HX6.out.val
    have hXl := HX6.out.val.lt
    go_region_law (first
      | (refine step_append_src rfl (.tmp 25) (.tmp 28) _ rfl (w.heap.size + 2) 22 iB _ 1 24 Tryd.underlying47 HiB.out.1 HiB.out.2.1 HiB.out.2.2.1 HiB.out.2.2.2 rfl (by decide) (.slice none 0 0) ([] : List BlockR).length (blockC ([] : List BlockR)) rfl (H6.out.1.own.alloc _) (some ⟨w6.heap.size, 0, none⟩) 1 1 (blockC [kb]) rfl rfl (fun _ => ⟨w6.heap.size, 0, rfl, fun j u hu => ((Blk.new w6 _ (blockC [kb])).cellAdd j).trans hu⟩) (blockC_one _) (by unfold maxLen; simp) (by simp) (by simp; omega) (fun v8 w8 hown8 hg8 hl8 => ?_)
         obtain ⟨A8, d8, rfl, _, _⟩ := own_form hown8
         have hfar : some (w.heap.size + 1) ≠ ((.slice none 0 0) : Value).ownBlock := fun e => by have := (H6.out.1.own.lt _ e.symm).1; omega
         have y8 : w8.cell? ⟨w.heap.size + 1, 7, none⟩ = some (.slice none 0 0) := ((((H6.out.1.val.alloc _).grown hg8 hfar).cell 7))
         have f8 : w8.frozen? ⟨w.heap.size + 1, 7, none⟩ = false := (((H6.out.1.val.alloc _).grown hg8 hfar)).frozen 7
         have H8 := Lib.hid (And.intro hown8 (And.intro hg8 hl8)); clear hown8 hg8 hl8)
      | (go_simp; go_at_call 74; (
         refine (show Calls _ _ _ _ _ from ih.block _ g s (stOf r1) _ HX6.out.at_.drew hrb).mono ?_
         rintro E w6 ⟨hg6, hA6, v, rfl, kb, rfl, hkl, hke⟩
         have hX6 := HX6.out.moved ((grown_drew _ _).trans hg6) hA6 hgl
         have y7' := hX6.val.cell 7
         have y7a : ∀ o : Obj, (w6.alloc o).cell? ⟨w.heap.size + 1, 7, none⟩ = some (.slice none 0 0) := fun o => (hX6.val.alloc o).cell 7
         have hn6 := hX6.val.lt
         have H6 := Lib.hid (And.intro hX6 (And.intro hke hkl)); clear hX6 hke hkl hA6 hg6
         simp only [BlockR.val])))
    all_goals (
      have hpush := H6.out.1.push hgl H6.out.2.2 (show w.heap.size + 1 < (World.drew _).heap.size from hXl) (fun b e => (HX6.out.own.lt b e).2) H8.out.1 H8.out.2.1 H8.out.2.2
      have hke := H6.out.2.1
      go_wp2_with fail
      go_meet
      case rel => exact ⟨rfl, _, kb, hpush, hke⟩)
  case rest =>
    obtain ⟨rfl, v6, kb0, hX7, hke⟩ := hcut
    simp only [List.nil_append] at hX7
    obtain ⟨A6, c6, rfl, hc6, hcm6⟩ := own_form hX7.own
    have HX7 := Lib.hid hX7; clear hX7 HX6
    cases hk2 : isS [101, 108, 115, 101] (stOf r2) with
    | false =>
      obtain ⟨hs, hv⟩ := hF hk2
      have hts : tailS [101, 108, 115, 101] (stOf r2) = stOf r2 := by
        cases r2 with
        | no n => rfl
        | ok b ts2 => have hk' : isTok [101, 108, 115, 101] ts2 = false := hk2
                      simp [stOf, tailS, hk']
      have HS := Lib.hid (And.intro hs (And.intro hv hts)); clear hs hv hts hF hTT
      go_wp2_with (first
        | (go_at_call 47; (
          refine (show Calls _ _ _ _ _ from is_any _ g s _ HX7.out.at_ [101, 108, 115, 101] (by simp)).mono ?_
          rintro E w8 ⟨hg, hA, rfl⟩
          rw [hk2]
          have hXn := HX7.out.moved hg hA hgl
          obtain ⟨⟨y0, y1, y2, y3, y4, y5, y6, y7⟩, f0, f1, f2, f3, f4, f5, f6, f7⟩ := box8 hXn.val
          obtain ⟨_, q0, q1, q2, q3, q4, q5, q6, q7⟩ := box8 hXn.box
          have HX8 := Lib.hid hXn; clear hXn hg hA)))
      exact ret8 Tryd.results46 rfl rfl HX8.out.box.put8 ⟨grown_put8 HX8.out.grown (Nat.le_refl _), by rw [show stOf r = tailS [101, 108, 115, 101] (stOf r2) from HS.out.1.trans HS.out.2.2.symm]; exact HX8.out.at_.put8 hgl, _, rfl, HX8.out.done (by simp [Fits]) (fun a ha => by
        obtain ⟨e1, b1, h1, h2, rfl⟩ := HS.out.2.1 a ha
        rw [← hev e1 h1, ← hke b1 h2]
        simp [mkIf, plainB, blk_bare])⟩
    | true =>
      obtain ⟨r3, hrb3, hs, hv⟩ := hTT hk2
      have HS := Lib.hid (And.intro hs hv); clear hs hv hF hTT
      have hke0 := hke; clear hke
      go_upto_region 13 with (go_at_call 47; (
          refine (show Calls _ _ _ _ _ from is_any _ g s _ HX7.out.at_ [101, 108, 115, 101] (by simp)).mono ?_
          rintro E w8 ⟨hg, hA, rfl⟩
          rw [hk2]
          have hXn := HX7.out.moved hg hA hgl
          obtain ⟨⟨y0, y1, y2, y3, y4, y5, y6, y7⟩, f0, f1, f2, f3, f4, f5, f6, f7⟩ := box8 hXn.val
          obtain ⟨_, q0, q1, q2, q3, q4, q5, q6, q7⟩ := box8 hXn.box
          have HX8 := Lib.hid hXn; clear hXn hg hA))
      clear HX7 y0 y1 y2 y3 y4 y5 y6 y7 f0 f1 f2 f3 f4 f5 f6 f7
      obtain ⟨⟨_, _, _, _, _, _, _, y7⟩, _, _, _, _, _, _, _, f7⟩ := box8 HX8.out.val
      have hXl := HX8.out.val.lt
      go_region_law (first
        | (refine step_append_src rfl (.tmp 34) (.tmp 37) _ rfl (w.heap.size + 2) 22 iB _ 1 24 Tryd.underlying47 HiB.out.1 HiB.out.2.1 HiB.out.2.2.1 HiB.out.2.2.2 rfl (by decide) (.slice A6 1 c6) [kb0].length (blockC [kb0]) rfl (H6.out.1.own.alloc _) (some ⟨w6.heap.size, 0, none⟩) 1 1 (blockC [kb]) rfl rfl (fun _ => ⟨w6.heap.size, 0, rfl, fun j u hu => ((Blk.new w6 _ (blockC [kb])).cellAdd j).trans hu⟩) (blockC_one _) (by unfold maxLen; simp) (by simp) (by simp; omega) (fun v8 w8 hown8 hg8 hl8 => ?_)
           obtain ⟨A8, d8, rfl, _, _⟩ := own_form hown8
           have hfar : some (w.heap.size + 1) ≠ ((.slice A6 1 c6) : Value).ownBlock := fun e => by have := (H6.out.1.own.lt _ e.symm).1; omega
           have y8 : w8.cell? ⟨w.heap.size + 1, 7, none⟩ = some (.slice A6 1 c6) := ((((H6.out.1.val.alloc _).grown hg8 hfar).cell 7))
           have f8 : w8.frozen? ⟨w.heap.size + 1, 7, none⟩ = false := (((H6.out.1.val.alloc _).grown hg8 hfar)).frozen 7
           have H8 := Lib.hid (And.intro hown8 (And.intro hg8 hl8)); clear hown8 hg8 hl8)
        | (go_simp; go_at_call 74; (
           refine (show Calls _ _ _ _ _ from ih.block _ g s (tailS [101, 108, 115, 101] (stOf r2)) _ HX8.out.at_.drew hrb3).mono ?_
           rintro E w6 ⟨hg6, hA6, v, rfl, kb, rfl, hkl, hke⟩
           have hX6 := HX8.out.moved ((grown_drew _ _).trans hg6) hA6 hgl
           have y7' := hX6.val.cell 7
           have y7a : ∀ o : Obj, (w6.alloc o).cell? ⟨w.heap.size + 1, 7, none⟩ = some (.slice A6 1 c6) := fun o => (hX6.val.alloc o).cell 7
           have hn6 := hX6.val.lt
           have H6 := Lib.hid (And.intro hX6 (And.intro hke hkl)); clear hX6 hke hkl hA6 hg6
           simp only [BlockR.val])))
      all_goals (
        have hpush := H6.out.1.push hgl H6.out.2.2 (show w.heap.size + 1 < (World.drew _).heap.size from hXl) (fun b e => (HX8.out.own.lt b e).2) H8.out.1 H8.out.2.1 H8.out.2.2
        have hke := H6.out.2.1
        generalize w8.setCell ⟨w.heap.size + 1, 7, none⟩ (.slice A8 ([kb0].length + 1) d8) = W9 at *
        have HX9 := Lib.hid hpush; clear hpush H8 H6 y7 f7 y7' y7a y8 f8 hXl hn6
        have hke0 := hke0
        obtain ⟨⟨z0, z1, z2, z3, z4, z5, z6, z7⟩, _⟩ := box8 HX9.out.val
        obtain ⟨_, q0, q1, q2, q3, q4, q5, q6, q7⟩ := box8 HX9.out.box
        go_wp2_with fail
        exact ret8 Tryd.results46 rfl rfl HX9.out.box.put8 ⟨grown_put8 HX9.out.grown (Nat.le_refl _), by rw [HS.out.1]; exact HX9.out.at_.put8 hgl, _, rfl, HX9.out.done (by simp [Fits]) (fun a ha => by
          obtain ⟨e1, b1, c1, h1, h2, h3, rfl⟩ := HS.out.2 a ha
          rw [← hev e1 h1, ← hke0 b1 h2, ← hke c1 h3]
          simp [mkIf, plainB, blk_bare])⟩)
set_option maxRecDepth 100000 in
set_option maxHeartbeats 8000000 in
theorem pstat_rep (f : Nat) (ih : CP f) (w : World) (g : Nat) (s : ByteArray) (ts : List Tok) (r : PR StatR) (h : PAt w g s (.go ts)) (k1 : isTok [105, 102] ts = false) (k2 : isTok [114, 101, 112, 101, 97, 116] ts = true)
    (hr : (thenR (some (numR 1000 ts.tail)) fun n ts => thenR ((gram f).braced ts) fun b ts => some (.ok (mkRep n (mkB b)) ts)) = some r) :
    Calls Tryd.prog 46 #[.pointer (some ⟨g, 0, none⟩)] w (PPost (QPs w.heap.size) w g s r) := by
  obtain ⟨r2, hrb, hs, hv⟩ := rep_of hr
  clear hr
  have HS := Lib.hid (And.intro hs hv); clear hs hv
  obtain ⟨iB, hib, hzb⟩ := Option.map_eq_some_iff.1 info_block
  simp only [Prod.mk.injEq] at hzb
  obtain ⟨hzb0, hzb1, hzb2⟩ := hzb
  have HiB := Lib.hid (And.intro hib (And.intro hzb0 (And.intro hzb1 hzb2))); clear hib hzb0 hzb1 hzb2
  have hgl := h.lt
  obtain ⟨W2, hW2⟩ : ∃ W2, (w.alloc (.cells #[.int .i64 0, .string ⟨#[]⟩, .int .i64 0, .int .i64 0, .string ⟨#[]⟩, .slice none 0 0, .int .i64 0, .slice none 0 0] 49)).alloc (.cells #[.int .i64 0, .string ⟨#[]⟩, .int .i64 0, .int .i64 0, .string ⟨#[]⟩, .slice none 0 0, .int .i64 0, .slice none 0 0] 49) = W2 := ⟨_, rfl⟩
  have HX0 := Lib.hid (PX.start h hW2); clear h
  go_enter Tryd.func46, Tryd.ntmps46
  have mk1 : Nat := 0
  have mk2 : Nat := 0
  go_upto_region 16 with (first
    | (clear mk1; go_at_call 47; (
      refine (show Calls _ _ _ _ _ from is_any _ g s _ HX0.out.at_ [105, 102] (by simp)).mono ?_
      rintro E w3 ⟨hg, hA, rfl⟩
      simp only [isS, tailS] at hA ⊢
      rw [k1] at hA
      rw [k1]
      simp only [if_true, Bool.false_eq_true, if_false] at hA
      have hXn := HX0.out.moved hg hA hgl
      obtain ⟨⟨y0, y1, y2, y3, y4, y5, y6, y7⟩, f0, f1, f2, f3, f4, f5, f6, f7⟩ := box8 hXn.val
      have HX3 := Lib.hid hXn; clear hXn hg hA))
    | (clear mk2; go_at_call 47; (
      refine (show Calls _ _ _ _ _ from is_any _ g s _ HX3.out.at_ [114, 101, 112, 101, 97, 116] (by simp)).mono ?_
      rintro E w4 ⟨hg, hA, rfl⟩
      simp only [isS, tailS] at hA ⊢
      rw [k2] at hA
      rw [k2]
      simp only [if_true, Bool.false_eq_true, if_false] at hA
      have hXn := HX3.out.moved hg hA hgl
      obtain ⟨⟨y0, y1, y2, y3, y4, y5, y6, y7⟩, f0, f1, f2, f3, f4, f5, f6, f7⟩ := box8 hXn.val
      have HX4 := Lib.hid hXn; clear hXn hg hA)))
  have hXc := HX4.out.cell hgl 0 (.int .i64 4) rfl
  generalize w4.setCell ⟨w.heap.size + 1, 0, none⟩ (.int .i64 4) = W5 at *
  have HX5 := Lib.hid hXc; clear hXc
  obtain ⟨⟨y0, y1, y2, y3, y4, y5, y6, y7⟩, f0, f1, f2, f3, f4, f5, f6, f7⟩ := box8 HX5.out.val
  go_upto_region 17 with (first
    | (go_at_call 75; (
      refine (show Calls _ _ _ _ _ from pnumber_any _ g s _ HX5.out.at_ 1000 (by decide)).mono ?_
      rw [numP_go]
      rintro E w6 ⟨hg, hA, v, rfl, m, rfl, hm⟩
      have hXn := HX5.out.moved hg hA hgl
      obtain ⟨⟨y0, y1, y2, y3, y4, y5, y6, y7⟩, f0, f1, f2, f3, f4, f5, f6, f7⟩ := box8 hXn.val
      have HX6 := Lib.hid hXn; clear hXn hg hA)))
  have hXc := HX6.out.cell hgl 6 (.int .i64 m) rfl
  generalize w6.setCell ⟨w.heap.size + 1, 6, none⟩ (.int .i64 m) = W7 at *
  have HX7 := Lib.hid hXc; clear hXc
  clear HX0 HX3 HX4 HX5 HX6 hW2 y0 y1 y2 y3 y4 y5 y6 y7 f0 f1 f2 f3 f4 f5 f6 f7
  obtain ⟨⟨_, _, _, _, _, _, _, y7⟩, _, _, _, _, _, _, _, f7⟩ := box8 HX7.out.val
  have hXl := HX7.out.val.lt
  go_region_law (first
    | (refine step_append_src rfl (.tmp 48) (.tmp 51) _ rfl (w.heap.size + 2) 22 iB _ 1 24 Tryd.underlying47 HiB.out.1 HiB.out.2.1 HiB.out.2.2.1 HiB.out.2.2.2 rfl (by decide) (.slice none 0 0) ([] : List BlockR).length (blockC ([] : List BlockR)) rfl (H6.out.1.own.alloc _) (some ⟨w6.heap.size, 0, none⟩) 1 1 (blockC [kb]) rfl rfl (fun _ => ⟨w6.heap.size, 0, rfl, fun j u hu => ((Blk.new w6 _ (blockC [kb])).cellAdd j).trans hu⟩) (blockC_one _) (by unfold maxLen; simp) (by simp) (by simp; omega) (fun v8 w8 hown8 hg8 hl8 => ?_)
       obtain ⟨A8, d8, rfl, _, _⟩ := own_form hown8
       have hfar : some (w.heap.size + 1) ≠ ((.slice none 0 0) : Value).ownBlock := fun e => by have := (H6.out.1.own.lt _ e.symm).1; omega
       have y8 : w8.cell? ⟨w.heap.size + 1, 7, none⟩ = some (.slice none 0 0) := ((((H6.out.1.val.alloc _).grown hg8 hfar).cell 7))
       have f8 : w8.frozen? ⟨w.heap.size + 1, 7, none⟩ = false := (((H6.out.1.val.alloc _).grown hg8 hfar)).frozen 7
       have H8 := Lib.hid (And.intro hown8 (And.intro hg8 hl8)); clear hown8 hg8 hl8)
    | (go_simp; go_at_call 74; (
       refine (show Calls _ _ _ _ _ from ih.block _ g s (stOf (numR 1000 ts.tail)) _ HX7.out.at_.drew hrb).mono ?_
       rintro E w6 ⟨hg6, hA6, v, rfl, kb, rfl, hkl, hke⟩
       have hX6 := HX7.out.moved ((grown_drew _ _).trans hg6) hA6 hgl
       have y7' := hX6.val.cell 7
       have y7a : ∀ o : Obj, (w6.alloc o).cell? ⟨w.heap.size + 1, 7, none⟩ = some (.slice none 0 0) := fun o => (hX6.val.alloc o).cell 7
       have hn6 := hX6.val.lt
       have H6 := Lib.hid (And.intro hX6 (And.intro hke hkl)); clear hX6 hke hkl hA6 hg6
       simp only [BlockR.val])))
  all_goals (
    have hpush := H6.out.1.push hgl H6.out.2.2 (show w.heap.size + 1 < (World.drew _).heap.size from hXl) (fun b e => (HX7.out.own.lt b e).2) H8.out.1 H8.out.2.1 H8.out.2.2
    have hke := H6.out.2.1
    generalize w8.setCell ⟨w.heap.size + 1, 7, none⟩ (.slice A8 (([] : List BlockR).length + 1) d8) = W9 at *
    have HX9 := Lib.hid hpush; clear hpush H8 H6 y7 f7 y7' y7a y8 f8 hXl hn6
    obtain ⟨⟨z0, z1, z2, z3, z4, z5, z6, z7⟩, _⟩ := box8 HX9.out.val
    obtain ⟨_, q0, q1, q2, q3, q4, q5, q6, q7⟩ := box8 HX9.out.box
    go_wp2_with fail
    exact ret8 Tryd.results46 rfl rfl HX9.out.box.put8 ⟨grown_put8 HX9.out.grown (Nat.le_refl _), by rw [HS.out.1]; exact HX9.out.at_.put8 hgl, _, rfl, HX9.out.done (by simp [Fits]) (fun a ha => by
      obtain ⟨n1, b1, h1, h2, rfl⟩ := HS.out.2 a ha
      rw [← hm n1 h1, ← hke b1 h2]
      simp [mkRep, noE, ExprR.plain, plainE, plainB, blk_bare])⟩)
end Go.Proofs.YtgiceeholamphaaDoor

/- stepref's parser: statements: par, assignments; all of them (made by mkpt.py). No conditions but that the parser is one. -/
namespace Go.Proofs.YtgiceeholamphaaDoor
open Go.ChangeShapes Go.WideShapes Go.ChangeAt Go.RowKit Go.Maps

/-- What is to come of a Par. -/
def LPr (f : Nat) (bs : List BlockR) (r : PR StatR) : PSt → Prop
  | .no n => r = .no n
  | .go ts => ∃ f' rp, f' ≤ f ∧ (gram f').par (plainB bs) ts = some rp ∧ rp.map mkPar = r
theorem par_of {f : Nat} {ts : List Tok} {r : PR StatR} (h : (thenR ((gram f).braced ts) fun b ts => thenR ((gram f).par [mkB b] ts) fun bs ts => some (.ok (mkPar bs) ts)) = some r) :
    ∃ r1, fromS (.go ts) (gram f).braced = some r1 ∧ ∀ kb : BlockR, (∀ a, valOf r1 = some a → plainS kb.l = a) → LPr f [kb] r (stOf r1) := by
  cases hb : (gram f).braced ts with
  | none => rw [hb] at h; cases h
  | some r1 =>
    rw [hb] at h
    refine ⟨r1, hb, fun kb hk => ?_⟩
    cases r1 with
    | no n => cases h; rfl
    | ok b ts2 =>
      simp only [thenR] at h
      have e : plainB [kb] = [mkB b] := by
        have := hk b rfl
        simp [plainB, blk_bare, this]
      cases hp : (gram f).par [mkB b] ts2 with
      | none => rw [hp] at h; cases h
      | some rp =>
        rw [hp] at h
        refine ⟨f, rp, Nat.le_refl _, by rw [e]; exact hp, ?_⟩
        cases rp with
        | no n => cases h; rfl
        | ok bs ts3 => cases h; rfl
theorem set_of {f : Nat} {ts : List Tok} {r : PR StatR} (h : statR f ts = some r) :
    ∃ r3, fromS (if isS [43, 61] (stOf (nameR ts)) = true then tailS [43, 61] (stOf (nameR ts)) else mustS [61] (stOf (nameR ts))) ((gram f).expr 0) = some r3 ∧ stOf r = stOf r3 ∧
      ∀ a, valOf r = some a → ∃ nm e, valOf (nameR ts) = some nm ∧ valOf r3 = some e ∧ a = mkSet (if isS [43, 61] (stOf (nameR ts)) = true then 2 else 1) nm e := by
  unfold statR at h
  cases hn : nameR ts with
  | no n => rw [hn] at h; cases h; exact ⟨.no n, rfl, rfl, fun a e => by cases e⟩
  | ok nm ts1 =>
    rw [hn] at h
    simp only [thenR, needT] at h
    cases hk : isTok [43, 61] ts1 with
    | true =>
      rw [hk] at h
      simp only [if_true] at h
      have h1 : isS [43, 61] (stOf (.ok nm ts1)) = true := hk
      rw [if_pos h1, if_pos h1]
      have ht : tailS [43, 61] (stOf (PR.ok nm ts1)) = .go ts1.tail := by simp [tailS, stOf, hk]
      rw [ht]
      cases he : (gram f).expr 0 ts1.tail with
      | none => rw [he] at h; cases h
      | some r3 =>
        rw [he] at h
        refine ⟨r3, he, ?_⟩
        cases r3 with
        | no n => cases h; exact ⟨rfl, fun a e => by cases e⟩
        | ok e ts3 => cases h; exact ⟨rfl, fun a ea => by cases ea; exact ⟨nm, e, rfl, rfl, rfl⟩⟩
    | false =>
      rw [hk] at h
      simp only [Bool.false_eq_true, if_false] at h
      have h1 : ¬ isS [43, 61] (stOf (.ok nm ts1)) = true := by simp [isS, stOf, hk]
      rw [if_neg h1, if_neg h1]
      cases hq : isTok [61] ts1 with
      | false =>
        rw [hq] at h
        cases h
        refine ⟨.no (hd ts1).2, by simp [mustS, stOf, hq, fromS], rfl, fun a e => by cases e⟩
      | true =>
        rw [hq] at h
        simp only [if_true] at h
        have ht : mustS [61] (stOf (PR.ok nm ts1)) = .go ts1.tail := by simp [mustS, stOf, hq]
        rw [ht]
        cases he : (gram f).expr 0 ts1.tail with
        | none => rw [he] at h; cases h
        | some r3 =>
          rw [he] at h
          refine ⟨r3, he, ?_⟩
          cases r3 with
          | no n => cases h; exact ⟨rfl, fun a e => by cases e⟩
          | ok e ts3 => cases h; exact ⟨rfl, fun a ea => by cases ea; exact ⟨nm, e, rfl, rfl, rfl⟩⟩
set_option maxRecDepth 100000 in
set_option maxHeartbeats 8000000 in
theorem pstat_par (f : Nat) (ih : CP f) (w : World) (g : Nat) (s : ByteArray) (ts : List Tok) (r : PR StatR) (h : PAt w g s (.go ts)) (k1 : isTok [105, 102] ts = false) (k2 : isTok [114, 101, 112, 101, 97, 116] ts = false) (k3 : isTok [112, 97, 114] ts = true)
    (hr : (thenR ((gram f).braced ts.tail) fun b ts => thenR ((gram f).par [mkB b] ts) fun bs ts => some (.ok (mkPar bs) ts)) = some r) :
    Calls Tryd.prog 46 #[.pointer (some ⟨g, 0, none⟩)] w (PPost (QPs w.heap.size) w g s r) := by
  obtain ⟨r1, hrb, hLP0⟩ := par_of hr
  clear hr
  obtain ⟨iB, hib, hzb⟩ := Option.map_eq_some_iff.1 info_block
  simp only [Prod.mk.injEq] at hzb
  obtain ⟨hzb0, hzb1, hzb2⟩ := hzb
  have HiB := Lib.hid (And.intro hib (And.intro hzb0 (And.intro hzb1 hzb2))); clear hib hzb0 hzb1 hzb2
  have hgl := h.lt
  obtain ⟨W2, hW2⟩ : ∃ W2, (w.alloc (.cells #[.int .i64 0, .string ⟨#[]⟩, .int .i64 0, .int .i64 0, .string ⟨#[]⟩, .slice none 0 0, .int .i64 0, .slice none 0 0] 49)).alloc (.cells #[.int .i64 0, .string ⟨#[]⟩, .int .i64 0, .int .i64 0, .string ⟨#[]⟩, .slice none 0 0, .int .i64 0, .slice none 0 0] 49) = W2 := ⟨_, rfl⟩
  have HX0 := Lib.hid (PX.start h hW2); clear h
  go_enter Tryd.func46, Tryd.ntmps46
  have mk1 : Nat := 0
  have mk2 : Nat := 0
  have mk3 : Nat := 0
  go_upto_region 19 with (first
    | (clear mk1; go_at_call 47; (
      refine (show Calls _ _ _ _ _ from is_any _ g s _ HX0.out.at_ [105, 102] (by simp)).mono ?_
      rintro E w3 ⟨hg, hA, rfl⟩
      simp only [isS, tailS] at hA ⊢
      rw [k1] at hA
      rw [k1]
      simp only [if_true, Bool.false_eq_true, if_false] at hA
      have hXn := HX0.out.moved hg hA hgl
      obtain ⟨⟨y0, y1, y2, y3, y4, y5, y6, y7⟩, f0, f1, ff2, f3, f4, f5, f6, f7⟩ := box8 hXn.val
      have HX3 := Lib.hid hXn; clear hXn hg hA))
    | (clear mk2; go_at_call 47; (
      refine (show Calls _ _ _ _ _ from is_any _ g s _ HX3.out.at_ [114, 101, 112, 101, 97, 116] (by simp)).mono ?_
      rintro E w4 ⟨hg, hA, rfl⟩
      simp only [isS, tailS] at hA ⊢
      rw [k2] at hA
      rw [k2]
      simp only [if_true, Bool.false_eq_true, if_false] at hA
      have hXn := HX3.out.moved hg hA hgl
      obtain ⟨⟨y0, y1, y2, y3, y4, y5, y6, y7⟩, f0, f1, ff2, f3, f4, f5, f6, f7⟩ := box8 hXn.val
      have HX4 := Lib.hid hXn; clear hXn hg hA))
    | (clear mk3; go_at_call 47; (
      refine (show Calls _ _ _ _ _ from is_any _ g s _ HX4.out.at_ [112, 97, 114] (by simp)).mono ?_
      rintro E w5 ⟨hg, hA, rfl⟩
      simp only [isS, tailS] at hA ⊢
      rw [k3] at hA
      rw [k3]
      simp only [if_true, Bool.false_eq_true, if_false] at hA
      have hXn := HX4.out.moved hg hA hgl
      obtain ⟨⟨y0, y1, y2, y3, y4, y5, y6, y7⟩, f0, f1, ff2, f3, f4, f5, f6, f7⟩ := box8 hXn.val
      have HX5 := Lib.hid hXn; clear hXn hg hA)))
  go_upto_region 20 with (fail)
  have hXc := HX5.out.cell hgl 0 (.int .i64 5) rfl
  generalize w5.setCell ⟨w.heap.size + 1, 0, none⟩ (.int .i64 5) = W6 at *
  have HX6 := Lib.hid hXc; clear hXc
  clear HX0 HX3 HX4 HX5 hW2 y0 y1 y2 y3 y4 y5 y6 y7 f0 f1 ff2 f3 f4 f5 f6 f7
  go_cut [3] (fun s3 wc => s3 = .pointer (some ⟨w.heap.size + 1, 0, none⟩) ∧ ∃ (v6 : Value) (kb : BlockR), PX w g s wc (stOf r1) 5 ⟨#[]⟩ noE 0 v6 (([] : List BlockR) ++ [kb]) ∧ ∀ a, valOf r1 = some a → plainS kb.l = a)
  case first => as_aux_lemma =>
    obtain ⟨⟨_, _, _, _, _, _, _, y7⟩, _, _, _, _, _, _, _, f7⟩ := box8 HX6.out.val
    have hXl := HX6.out.val.lt
    go_region_law (first
      | (refine step_append_src rfl (.tmp 59) (.tmp 62) _ rfl (w.heap.size + 2) 22 iB _ 1 24 Tryd.underlying47 HiB.out.1 HiB.out.2.1 HiB.out.2.2.1 HiB.out.2.2.2 rfl (by decide) (.slice none 0 0) ([] : List BlockR).length (blockC ([] : List BlockR)) rfl (H6.out.1.own.alloc _) (some ⟨w6.heap.size, 0, none⟩) 1 1 (blockC [kb]) rfl rfl (fun _ => ⟨w6.heap.size, 0, rfl, fun j u hu => ((Blk.new w6 _ (blockC [kb])).cellAdd j).trans hu⟩) (blockC_one _) (by unfold maxLen; simp) (by simp) (by simp; omega) (fun v8 w8 hown8 hg8 hl8 => ?_)
         obtain ⟨A8, d8, rfl, _, _⟩ := own_form hown8
         have hfar : some (w.heap.size + 1) ≠ ((.slice none 0 0) : Value).ownBlock := fun e => by have := (H6.out.1.own.lt _ e.symm).1; omega
         have y8 : w8.cell? ⟨w.heap.size + 1, 7, none⟩ = some (.slice none 0 0) := ((((H6.out.1.val.alloc _).grown hg8 hfar).cell 7))
         have f8 : w8.frozen? ⟨w.heap.size + 1, 7, none⟩ = false := (((H6.out.1.val.alloc _).grown hg8 hfar)).frozen 7
         have H8 := Lib.hid (And.intro hown8 (And.intro hg8 hl8)); clear hown8 hg8 hl8)
      | (go_simp; go_at_call 74; (
         refine (show Calls _ _ _ _ _ from ih.block _ g s (.go ts.tail) _ HX6.out.at_.drew hrb).mono ?_
         rintro E w6 ⟨hg6, hA6, v, rfl, kb, rfl, hkl, hke⟩
         have hX6 := HX6.out.moved ((grown_drew _ _).trans hg6) hA6 hgl
         have y7' := hX6.val.cell 7
         have y7a : ∀ o : Obj, (w6.alloc o).cell? ⟨w.heap.size + 1, 7, none⟩ = some (.slice none 0 0) := fun o => (hX6.val.alloc o).cell 7
         have hn6 := hX6.val.lt
         have H6 := Lib.hid (And.intro hX6 (And.intro hke hkl)); clear hX6 hke hkl hA6 hg6
         simp only [BlockR.val])))
    all_goals (
      have hpush := H6.out.1.push hgl H6.out.2.2 (show w.heap.size + 1 < (World.drew _).heap.size from hXl) (fun b e => (HX6.out.own.lt b e).2) H8.out.1 H8.out.2.1 H8.out.2.2
      have hke := H6.out.2.1
      go_wp2_with fail
      go_meet
      case rel => exact ⟨rfl, _, kb, hpush, hke⟩)
  case rest =>
    obtain ⟨rfl, v7, kb0, hX7, hke⟩ := hcut
    simp only [List.nil_append] at hX7
    have hLP0 := hLP0 kb0 hke
    clear HX6 hrb hke
    go_wp2_with fail
    go_loopg [4] (mS (stOf r1)) (fun gk k wr => ∃ (st : PSt) (bs : List BlockR) (vb : Value), gk = mS st ∧ LPr f bs r st ∧ bs.length ≤ 8 ∧ k = .int .i64 (bs.length : Int) ∧ PX w g s wr st 5 ⟨#[]⟩ noE 0 vb bs)
    case atStart => exact ⟨_, [kb0], v7, rfl, hLP0, by simp, rfl, hX7⟩
    case round =>
      clear hLP0 hX7
      obtain ⟨st, bs, vb, hgk, hLP, hb8, rfl, hX⟩ := hrel
      obtain ⟨A1, c1, rfl, hc1, hcm1⟩ := own_form hX.own
      obtain ⟨⟨z0, z1, z2, z3, z4, z5, z6, z7⟩, _⟩ := box8 hX.val
      obtain ⟨_, q0, q1, q2, q3, q4, q5, q6, q7⟩ := box8 hX.box
      have HX := Lib.hid hX; clear hX
      by_cases h8 : bs.length < 8
      · have h8' : (bs.length : Int) < 8 := by omega
        cases hk : isS [97, 110, 100] st with
        | false =>
          have hlast : stOf r = tailS [97, 110, 100] st ∧ ∀ a, valOf r = some a → StatR.mk 5 ⟨#[]⟩ noE.plain 0 none 0 (plainB bs) = a := by
            cases st with
            | no n => obtain rfl : r = .no n := hLP; exact ⟨rfl, fun a e => by cases e⟩
            | go ts2 =>
              obtain ⟨f1, rp, hf1, hr0, hrr⟩ := hLP
              obtain ⟨f2, hff, hr⟩ := par_more hr0
              rw [plainB_length] at hr
              have hk' : isTok [97, 110, 100] ts2 = false := hk
              rw [hk', Bool.and_false, if_neg (by decide)] at hr
              obtain rfl := Option.some.inj hr
              subst hrr
              exact ⟨by simp [stOf, PR.map, tailS, hk'], fun a e => by cases e; rfl⟩
          have HS := Lib.hid hlast; clear hlast hLP
          clear z0 z1 z2 z3 z4 z5 z6 z7 q0 q1 q2 q3 q4 q5 q6 q7
          go_wp2_with (go_at_call 47; (
              refine (show Calls _ _ _ _ _ from is_any _ g s _ HX.out.at_ [97, 110, 100] (by simp)).mono ?_
              rintro E w11 ⟨hg, hA, rfl⟩
              rw [hk]
              have hXn := HX.out.moved hg hA hgl
              obtain ⟨⟨y0, y1, y2, y3, y4, y5, y6, y7⟩, f0, f1, ff2, f3, f4, f5, f6, f7⟩ := box8 hXn.val
              obtain ⟨_, q0, q1, q2, q3, q4, q5, q6, q7⟩ := box8 hXn.box
              have HX11 := Lib.hid hXn; clear hXn hg hA))
          exact ret8 Tryd.results46 rfl rfl HX11.out.box.put8 ⟨grown_put8 HX11.out.grown (Nat.le_refl _), by rw [show stOf r = _ from HS.out.1]; exact HX11.out.at_.put8 hgl, _, rfl, HX11.out.done (by unfold Fits; omega) (fun a ha => by
            exact HS.out.2 a ha)⟩
        | true =>
          cases st with
          | no n => cases hk
          | go ts2 =>
            have hk' : isTok [97, 110, 100] ts2 = true := hk
            obtain ⟨f1, rp, hf1, hr0, hrr⟩ := hLP
            obtain ⟨f2, hff, hr⟩ := par_more hr0
            clear hr0
            subst hff
            rw [plainB_length, hk', decide_eq_true h8, Bool.and_true, if_pos rfl] at hr
            have htl2 := tail_lt (by simp) hk'
            cases hrb : (gram f2).braced ts2.tail with
            | none => rw [hrb] at hr; cases hr
            | some r3 =>
            rw [hrb] at hr
            have hfew := (gram_few f2).braced _ _ hrb
            have hrb : fromS (tailS [97, 110, 100] (.go ts2)) (gram f).braced = some r3 := by
              have ht : tailS [97, 110, 100] (.go ts2) = .go ts2.tail := by simp [tailS, hk']
              rw [ht]
              have := (gram_add f2 (f - f2)).braced _ _ hrb
              rwa [show f2 + (f - f2) = f by omega] at this
            have HB := Lib.hid (And.intro hr (And.intro hrr (And.intro hfew htl2))); clear hr hrr hfew htl2
            have HGK := Lib.hid hgk; clear hgk
            clear z0 z1 z2 z3 z4 z5 z6 z7 q0 q1 q2 q3 q4 q5 q6 q7
            go_upto_region 24 with (go_at_call 47; (
                refine (show Calls _ _ _ _ _ from is_any _ g s _ HX.out.at_ [97, 110, 100] (by simp)).mono ?_
                rintro E w11 ⟨hg, hA, rfl⟩
                rw [hk]
                have hXn := HX.out.moved hg hA hgl
                obtain ⟨⟨y0, y1, y2, y3, y4, y5, y6, y7⟩, f0, f1, ff2, f3, f4, f5, f6, f7⟩ := box8 hXn.val
                obtain ⟨_, q0, q1, q2, q3, q4, q5, q6, q7⟩ := box8 hXn.box
                have HX11 := Lib.hid hXn; clear hXn hg hA))
            clear y0 y1 y2 y3 y4 y5 y6 y7 f0 f1 ff2 f3 f4 f5 f6 f7 q0 q1 q2 q3 q4 q5 q6 q7
            obtain ⟨⟨_, _, _, _, _, _, _, y7⟩, _, _, _, _, _, _, _, f7⟩ := box8 HX11.out.val
            have hXl := HX11.out.val.lt
            go_region_law (first
              | (refine step_append_src rfl (.tmp 74) (.tmp 77) _ rfl (w.heap.size + 2) 22 iB _ 1 24 Tryd.underlying47 HiB.out.1 HiB.out.2.1 HiB.out.2.2.1 HiB.out.2.2.2 rfl (by decide) (.slice A1 bs.length c1) bs.length (blockC bs) rfl (H6.out.1.own.alloc _) (some ⟨w6.heap.size, 0, none⟩) 1 1 (blockC [kb]) rfl rfl (fun _ => ⟨w6.heap.size, 0, rfl, fun j u hu => ((Blk.new w6 _ (blockC [kb])).cellAdd j).trans hu⟩) (blockC_one _) (by unfold maxLen; omega) (by omega) (by simp; omega) (fun v8 w8 hown8 hg8 hl8 => ?_)
                 obtain ⟨A8, d8, rfl, _, _⟩ := own_form hown8
                 have hfar : some (w.heap.size + 1) ≠ ((.slice A1 bs.length c1) : Value).ownBlock := fun e => by have := (H6.out.1.own.lt _ e.symm).1; omega
                 have y8 : w8.cell? ⟨w.heap.size + 1, 7, none⟩ = some (.slice A1 bs.length c1) := ((((H6.out.1.val.alloc _).grown hg8 hfar).cell 7))
                 have f8 : w8.frozen? ⟨w.heap.size + 1, 7, none⟩ = false := (((H6.out.1.val.alloc _).grown hg8 hfar)).frozen 7
                 have H8 := Lib.hid (And.intro hown8 (And.intro hg8 hl8)); clear hown8 hg8 hl8)
              | (go_simp; go_at_call 74; (
                 refine (show Calls _ _ _ _ _ from ih.block _ g s (tailS [97, 110, 100] (.go ts2)) _ HX11.out.at_.drew hrb).mono ?_
                 rintro E w6 ⟨hg6, hA6, v, rfl, kb, rfl, hkl, hke⟩
                 have hX6 := HX11.out.moved ((grown_drew _ _).trans hg6) hA6 hgl
                 have y7' := hX6.val.cell 7
                 have y7a : ∀ o : Obj, (w6.alloc o).cell? ⟨w.heap.size + 1, 7, none⟩ = some (.slice A1 bs.length c1) := fun o => (hX6.val.alloc o).cell 7
                 have hn6 := hX6.val.lt
                 have H6 := Lib.hid (And.intro hX6 (And.intro hke hkl)); clear hX6 hke hkl hA6 hg6
                 simp only [BlockR.val])))
            all_goals (
              have hpush := H6.out.1.push hgl H6.out.2.2 (show w.heap.size + 1 < (World.drew _).heap.size from hXl) (fun b e => (HX11.out.own.lt b e).2) H8.out.1 H8.out.2.1 H8.out.2.2
              have hke := H6.out.2.1
              go_wp2_with fail
              go_roundg (mS (stOf r3))
              case measure =>
                rw [HGK.out]
                have hfew := HB.out.2.2.1
                have := HB.out.2.2.2
                cases r3 with
                | no n => simp [stOf, mS]
                | ok b ts3 => simp only [Cost] at hfew; simp only [stOf, mS]; omega
              case rel =>
                refine ⟨stOf r3, bs ++ [kb], _, rfl, ?_, by simp; omega, by simp, hpush⟩
                rcases stOf_pr HB.out.1 with ⟨n, rfl, rfl⟩ | ⟨b, ts3, rfl, hk3⟩
                · exact HB.out.2.1.symm
                · refine ⟨f2, rp, by omega, ?_, HB.out.2.1⟩
                  rw [plainB_append]
                  show (gram f2).par (plainB bs ++ [kb.plain]) ts3 = some rp
                  rw [blk_bare, hke b rfl]
                  exact hk3)
      · have h8' : ¬ (bs.length : Int) < 8 := by omega
        have hlast : stOf r = st ∧ ∀ a, valOf r = some a → StatR.mk 5 ⟨#[]⟩ noE.plain 0 none 0 (plainB bs) = a := by
          cases st with
          | no n => obtain rfl : r = .no n := hLP; exact ⟨rfl, fun a e => by cases e⟩
          | go ts2 =>
            obtain ⟨f1, rp, hf1, hr0, hrr⟩ := hLP
            obtain ⟨f2, hff, hr⟩ := par_more hr0
            rw [plainB_length] at hr
            rw [decide_eq_false h8, Bool.false_and, if_neg (by decide)] at hr
            obtain rfl := Option.some.inj hr
            subst hrr
            exact ⟨rfl, fun a e => by cases e; rfl⟩
        have HS := Lib.hid hlast; clear hlast hLP
        go_wp2_with fail
        exact ret8 Tryd.results46 rfl rfl HX.out.box.put8 ⟨grown_put8 HX.out.grown (Nat.le_refl _), by rw [show stOf r = _ from HS.out.1]; exact HX.out.at_.put8 hgl, _, rfl, HX.out.done (by unfold Fits; omega) (fun a ha => by
          exact HS.out.2 a ha)⟩
set_option maxRecDepth 100000 in
set_option maxHeartbeats 8000000 in
theorem pstat_set (f : Nat) (ih : CP f) (w : World) (g : Nat) (s : ByteArray) (ts : List Tok) (r : PR StatR) (h : PAt w g s (.go ts)) (k1 : isTok [105, 102] ts = false) (k2 : isTok [114, 101, 112, 101, 97, 116] ts = false) (k3 : isTok [112, 97, 114] ts = false)
    (hr : statR f ts = some r) :
    Calls Tryd.prog 46 #[.pointer (some ⟨g, 0, none⟩)] w (PPost (QPs w.heap.size) w g s r) := by
  obtain ⟨r3, hr3, hs, hv⟩ := set_of hr
  clear hr
  obtain ⟨iB, hib, hzb⟩ := Option.map_eq_some_iff.1 info_block
  simp only [Prod.mk.injEq] at hzb
  obtain ⟨hzb0, hzb1, hzb2⟩ := hzb
  have HiB := Lib.hid (And.intro hib (And.intro hzb0 (And.intro hzb1 hzb2))); clear hib hzb0 hzb1 hzb2
  have hgl := h.lt
  obtain ⟨W2, hW2⟩ : ∃ W2, (w.alloc (.cells #[.int .i64 0, .string ⟨#[]⟩, .int .i64 0, .int .i64 0, .string ⟨#[]⟩, .slice none 0 0, .int .i64 0, .slice none 0 0] 49)).alloc (.cells #[.int .i64 0, .string ⟨#[]⟩, .int .i64 0, .int .i64 0, .string ⟨#[]⟩, .slice none 0 0, .int .i64 0, .slice none 0 0] 49) = W2 := ⟨_, rfl⟩
  have HX0 := Lib.hid (PX.start h hW2); clear h
  go_enter Tryd.func46, Tryd.ntmps46
  have mk1 : Nat := 0
  have mk2 : Nat := 0
  have mk3 : Nat := 0
  go_upto_region 3 with (first
    | (clear mk1; go_at_call 47; (
      refine (show Calls _ _ _ _ _ from is_any _ g s _ HX0.out.at_ [105, 102] (by simp)).mono ?_
      rintro E w3 ⟨hg, hA, rfl⟩
      simp only [isS, tailS] at hA ⊢
      rw [k1] at hA
      rw [k1]
      simp only [if_true, Bool.false_eq_true, if_false] at hA
      have hXn := HX0.out.moved hg hA hgl
      obtain ⟨⟨y0, y1, y2, y3, y4, y5, y6, y7⟩, f0, f1, f2, f3, f4, f5, f6, f7⟩ := box8 hXn.val
      have HX3 := Lib.hid hXn; clear hXn hg hA))
    | (clear mk2; go_at_call 47; (
      refine (show Calls _ _ _ _ _ from is_any _ g s _ HX3.out.at_ [114, 101, 112, 101, 97, 116] (by simp)).mono ?_
      rintro E w4 ⟨hg, hA, rfl⟩
      simp only [isS, tailS] at hA ⊢
      rw [k2] at hA
      rw [k2]
      simp only [if_true, Bool.false_eq_true, if_false] at hA
      have hXn := HX3.out.moved hg hA hgl
      obtain ⟨⟨y0, y1, y2, y3, y4, y5, y6, y7⟩, f0, f1, f2, f3, f4, f5, f6, f7⟩ := box8 hXn.val
      have HX4 := Lib.hid hXn; clear hXn hg hA))
    | (clear mk3; go_at_call 47; (
      refine (show Calls _ _ _ _ _ from is_any _ g s _ HX4.out.at_ [112, 97, 114] (by simp)).mono ?_
      rintro E w5 ⟨hg, hA, rfl⟩
      simp only [isS, tailS] at hA ⊢
      rw [k3] at hA
      rw [k3]
      simp only [if_true, Bool.false_eq_true, if_false] at hA
      have hXn := HX4.out.moved hg hA hgl
      obtain ⟨⟨y0, y1, y2, y3, y4, y5, y6, y7⟩, f0, f1, f2, f3, f4, f5, f6, f7⟩ := box8 hXn.val
      have HX5 := Lib.hid hXn; clear hXn hg hA))
    | (go_at_call 76; (
      refine (show Calls _ _ _ _ _ from pname_any _ g s _ HX5.out.at_).mono ?_
      rw [nameP_go]
      rintro E w6 ⟨hg, hA, v, rfl, m, rfl, hm⟩
      have hXn := HX5.out.moved hg hA hgl
      obtain ⟨⟨y0, y1, y2, y3, y4, y5, y6, y7⟩, f0, f1, f2, f3, f4, f5, f6, f7⟩ := box8 hXn.val
      have HX6 := Lib.hid hXn; clear hXn hg hA)))
  have hXc := HX6.out.cell hgl 1 (.string m) rfl
  generalize w6.setCell ⟨w.heap.size + 1, 1, none⟩ (.string m) = W7 at *
  have HX7 := Lib.hid hXc; clear hXc
  clear y0 y1 y2 y3 y4 y5 y6 y7 f0 f1 f2 f3 f4 f5 f6 f7
  obtain ⟨⟨y0, y1, y2, y3, y4, y5, y6, y7⟩, f0, f1, f2, f3, f4, f5, f6, f7⟩ := box8 HX7.out.val
  go_upto_region 4 with (fail)
  have hXc := HX7.out.cell hgl 0 (.int .i64 1) rfl
  generalize W7.setCell ⟨w.heap.size + 1, 0, none⟩ (.int .i64 1) = W8 at *
  have HX8 := Lib.hid hXc; clear hXc
  clear y0 y1 y2 y3 y4 y5 y6 y7 f0 f1 f2 f3 f4 f5 f6 f7 HX0 HX3 HX4 HX5 HX6 HX7 hW2
  cases hk : isS [43, 61] (stOf (nameR ts)) with
  | true =>
    rw [hk, if_pos rfl] at hr3
    rw [hk, if_pos rfl] at hv
    have HS := Lib.hid (And.intro hs hv); clear hs hv
    go_upto_region 7 with (go_at_call 47; (
        refine (show Calls _ _ _ _ _ from is_any _ g s _ HX8.out.at_ [43, 61] (by simp)).mono ?_
        rintro E w9 ⟨hg, hA, rfl⟩
        rw [hk]
        have hXn := HX8.out.moved hg hA hgl
        obtain ⟨⟨y0, y1, y2, y3, y4, y5, y6, y7⟩, f0, f1, f2, f3, f4, f5, f6, f7⟩ := box8 hXn.val
        obtain ⟨_, q0, q1, q2, q3, q4, q5, q6, q7⟩ := box8 hXn.box
        have HX9 := Lib.hid hXn; clear hXn hg hA))
    have hXc := HX9.out.cell hgl 0 (.int .i64 2) rfl
    generalize w9.setCell ⟨w.heap.size + 1, 0, none⟩ (.int .i64 2) = W10 at *
    have HX10 := Lib.hid hXc; clear hXc
    clear y0 y1 y2 y3 y4 y5 y6 y7 f0 f1 f2 f3 f4 f5 f6 f7 q0 q1 q2 q3 q4 q5 q6 q7
    go_upto_region 25 with (first
      | (go_at_call 73; (
        refine (show Calls _ _ _ _ _ from PE_all f 0 _ g s (tailS [43, 61] (stOf (nameR ts))) _ (by omega) HX10.out.at_ hr3).mono ?_
        rintro E w12 ⟨hg, hA, v, rfl, e, rfl, hle, hev⟩
        have hXn := HX10.out.moved hg hA hgl
        have hlo := HX10.out.val.lt
        obtain ⟨⟨y0, y1, y2, y3, y4, y5, y6, y7⟩, f0, f1, f2, f3, f4, f5, f6, f7⟩ := box8 hXn.val
        have HE := Lib.hid (And.intro hXn (And.intro hle (And.intro hev hlo))); clear hXn hg hA hle hev hlo
        simp only [ExprR.val])))
    have hXc := HE.out.1.setE hgl HE.out.2.1 HE.out.2.2.2
    have hev := HE.out.2.2.1
    generalize (((w12.setCell ⟨w.heap.size + 1, 2, none⟩ (.int .i64 e.kind)).setCell ⟨w.heap.size + 1, 3, none⟩ (.int .i64 e.n)).setCell ⟨w.heap.size + 1, 4, none⟩ (.string e.name)).setCell ⟨w.heap.size + 1, 5, none⟩ (.slice e.sA e.kids.length e.sc) = W12 at *
    have HX13 := Lib.hid hXc; clear hXc HE
    obtain ⟨⟨z0, z1, z2, z3, z4, z5, z6, z7⟩, _⟩ := box8 HX13.out.val
    obtain ⟨_, q0, q1, q2, q3, q4, q5, q6, q7⟩ := box8 HX13.out.box
    go_wp2_with fail
    exact ret8 Tryd.results46 rfl rfl HX13.out.box.put8 ⟨grown_put8 HX13.out.grown (Nat.le_refl _), by rw [HS.out.1]; exact HX13.out.at_.put8 hgl, _, rfl, HX13.out.done (by simp [Fits]) (fun a ha => by
      obtain ⟨nm, e1, h1, h2, rfl⟩ := HS.out.2 a ha
      rw [← hm nm h1, ← hev e1 h2]
      rfl)⟩
  | false =>
    rw [hk, if_neg (by decide)] at hr3
    rw [hk, if_neg (by decide)] at hv
    have HS := Lib.hid (And.intro hs hv); clear hs hv
    have htsf0 : tailS [43, 61] (stOf (nameR ts)) = stOf (nameR ts) := by
      cases hn : nameR ts with
      | no n => rfl
      | ok a b => rw [hn] at hk; have hk' : isTok [43, 61] b = false := hk
                  simp [stOf, tailS, hk']
    have htsf : mustS [61] (tailS [43, 61] (stOf (nameR ts))) = mustS [61] (stOf (nameR ts)) := by rw [htsf0]
    go_upto_region 7 with (first
      | (go_at_call 47; (
        refine (show Calls _ _ _ _ _ from is_any _ g s _ HX8.out.at_ [43, 61] (by simp)).mono ?_
        rintro E w9 ⟨hg, hA, rfl⟩
        rw [hk]
        have hXn := HX8.out.moved hg hA hgl
        obtain ⟨⟨y0, y1, y2, y3, y4, y5, y6, y7⟩, f0, f1, f2, f3, f4, f5, f6, f7⟩ := box8 hXn.val
        obtain ⟨_, q0, q1, q2, q3, q4, q5, q6, q7⟩ := box8 hXn.box
        have HX9 := Lib.hid hXn; clear hXn hg hA))
      | (go_at_call 77; (
        refine (show Calls _ _ _ _ _ from must_any _ g s _ HX9.out.at_ [61] (by simp)).mono ?_
        rintro E w10 ⟨hg, hA, rfl⟩
        rw [htsf] at hA
        have hXn := HX9.out.moved hg hA hgl
        obtain ⟨⟨y0, y1, y2, y3, y4, y5, y6, y7⟩, f0, f1, f2, f3, f4, f5, f6, f7⟩ := box8 hXn.val
        have HX10 := Lib.hid hXn; clear hXn hg hA)))
    clear y0 y1 y2 y3 y4 y5 y6 y7 f0 f1 f2 f3 f4 f5 f6 f7 q0 q1 q2 q3 q4 q5 q6 q7
    go_upto_region 25 with (first
      | (go_at_call 73; (
        refine (show Calls _ _ _ _ _ from PE_all f 0 _ g s (mustS [61] (stOf (nameR ts))) _ (by omega) HX10.out.at_ hr3).mono ?_
        rintro E w12 ⟨hg, hA, v, rfl, e, rfl, hle, hev⟩
        have hXn := HX10.out.moved hg hA hgl
        have hlo := HX10.out.val.lt
        obtain ⟨⟨y0, y1, y2, y3, y4, y5, y6, y7⟩, f0, f1, f2, f3, f4, f5, f6, f7⟩ := box8 hXn.val
        have HE := Lib.hid (And.intro hXn (And.intro hle (And.intro hev hlo))); clear hXn hg hA hle hev hlo
        simp only [ExprR.val])))
    have hXc := HE.out.1.setE hgl HE.out.2.1 HE.out.2.2.2
    have hev := HE.out.2.2.1
    generalize (((w12.setCell ⟨w.heap.size + 1, 2, none⟩ (.int .i64 e.kind)).setCell ⟨w.heap.size + 1, 3, none⟩ (.int .i64 e.n)).setCell ⟨w.heap.size + 1, 4, none⟩ (.string e.name)).setCell ⟨w.heap.size + 1, 5, none⟩ (.slice e.sA e.kids.length e.sc) = W12 at *
    have HX13 := Lib.hid hXc; clear hXc HE
    obtain ⟨⟨z0, z1, z2, z3, z4, z5, z6, z7⟩, _⟩ := box8 HX13.out.val
    obtain ⟨_, q0, q1, q2, q3, q4, q5, q6, q7⟩ := box8 HX13.out.box
    go_wp2_with fail
    exact ret8 Tryd.results46 rfl rfl HX13.out.box.put8 ⟨grown_put8 HX13.out.grown (Nat.le_refl _), by rw [HS.out.1]; exact HX13.out.at_.put8 hgl, _, rfl, HX13.out.done (by simp [Fits]) (fun a ha => by
      obtain ⟨nm, e1, h1, h2, rfl⟩ := HS.out.2 a ha
      rw [← hm nm h1, ← hev e1 h2]
      rfl)⟩
theorem pstat_any (f : Nat) (ih : CP f) (w : World) (g : Nat) (s : ByteArray) (ts : List Tok) (r : PR StatR) (h : PAt w g s (.go ts)) (hr : (gram (f + 1)).stat ts = some r) :
    Calls Tryd.prog 46 #[.pointer (some ⟨g, 0, none⟩)] w (PPost (QPs w.heap.size) w g s r) := by
  rw [gram_succ] at hr
  simp only at hr
  cases k1 : isTok [105, 102] ts with
  | true =>
    rw [if_pos k1] at hr
    exact pstat_if f ih w g s ts r h k1 hr
  | false =>
    rw [if_neg (by rw [k1]; decide)] at hr
    cases k2 : isTok [114, 101, 112, 101, 97, 116] ts with
    | true =>
      rw [if_pos k2] at hr
      exact pstat_rep f ih w g s ts r h k1 k2 hr
    | false =>
      rw [if_neg (by rw [k2]; decide)] at hr
      cases k3 : isTok [112, 97, 114] ts with
      | true =>
        rw [if_pos k3] at hr
        exact pstat_par f ih w g s ts r h k1 k2 k3 hr
      | false =>
        rw [if_neg (by rw [k3]; decide)] at hr
        exact pstat_set f ih w g s ts r h k1 k2 k3 hr
end Go.Proofs.YtgiceeholamphaaDoor

/- stepref's parser, all of it. No conditions but that the parser is one. -/
namespace Go.Proofs.YtgiceeholamphaaDoor
open Go.ChangeShapes Go.WideShapes Go.ChangeAt Go.RowKit Go.Maps

set_option maxRecDepth 100000 in
theorem plist_no (w : World) (g : Nat) (s : ByteArray) (n : Nat) (h : PAt w g s (.no n)) :
    Calls Tryd.prog 28 #[.pointer (some ⟨g, 0, none⟩)] w (PPost (QPb w.heap.size) w g s (.no n)) := by
  have k2 := h.flag
  simp only [failed] at k2
  have HX := Lib.hid h; clear h
  go_enter Tryd.func28, Tryd.ntmps28
  go_wp2_with fail
  go_loopg [3] 0 (fun gk v wr => gk = 0 ∧ v = .slice none 0 0 ∧ w = wr)
  case atStart => exact ⟨rfl, rfl, rfl⟩
  case round =>
    obtain ⟨rfl, rfl, rfl⟩ := hrel
    go_wp2_with fail
    go_ret
    exact ⟨World.grownBy.refl _ _, HX.out, _, rfl, .mk none 0 [], rfl, ⟨RowS.nil _ _ _, fun y hy => (by cases hy), by simp [BlockR.l, Fits]⟩, fun a e => by cases e⟩
set_option maxRecDepth 100000 in
theorem pblock_no (w : World) (g : Nat) (s : ByteArray) (n : Nat) (h : PAt w g s (.no n)) :
    Calls Tryd.prog 74 #[.pointer (some ⟨g, 0, none⟩)] w (PPost (QPb w.heap.size) w g s (.no n)) := by
  have hm := must_any w g s _ h [123] (by simp)
  have hgl := h.lt
  have H := Lib.hid hm; clear hm h
  go_enter Tryd.func74, Tryd.ntmps74
  have mk1 : Nat := 0
  go_wp2_with (first
    | (clear mk1; go_at_call 77; (
      refine (show Calls _ _ _ _ _ from H.out).mono ?_
      rintro E w2 ⟨hg2, h2, rfl⟩
      have hl := plist_no w2 g s n h2
      have hz2 := hg2.size
      have H2 := Lib.hid (And.intro hg2 hl); clear hg2 h2 hl))
    | (go_at_call 28; (
      refine (show Calls _ _ _ _ _ from H2.out.2).mono ?_
      rintro E w3 ⟨hg3, h3, v, rfl, k, rfl, hkl, hke⟩
      have hm3 := must_any w3 g s _ h3 [125] (by simp)
      have H3 := Lib.hid (And.intro hg3 (And.intro hm3 (And.intro hkl hke))); clear hg3 h3 hm3 hkl hke
      simp only [BlockR.val]))
    | (go_at_call 77; (
      refine (show Calls _ _ _ _ _ from H3.out.2.1).mono ?_
      rintro E w4 ⟨hg4, h4, rfl⟩
      have H4 := Lib.hid (And.intro hg4 h4); clear hg4 h4)))
  go_ret
  refine ⟨(H2.out.1.trans H3.out.1).trans H4.out.1, H4.out.2, _, rfl, k, rfl, ?_, fun a ha => by cases ha⟩
  exact (H3.out.2.2.1.go (Stays.of_grown (S := under w2.heap.size) H4.out.1 (by intro k e; cases e; simp [under]; omega))).go (Stays.sub (by intro b _ hb; simp [under] at hb ⊢; omega))
theorem CP_all : ∀ f, CP f
  | 0 => by
    refine ⟨fun _ _ _ _ _ _ h => (by cases h), fun w g s st r hA h => ?_, fun w g s st r hA h => ?_⟩
    · cases st with
      | no n => cases h; exact pblock_no w g s n hA
      | go ts => cases h
    · cases st with
      | no n => cases h; exact plist_no w g s n hA
      | go ts => cases h
  | f + 1 => ⟨pstat_any f (CP_all f), pblock_any f (CP_all f), plist_any f (CP_all f)⟩
end Go.Proofs.YtgiceeholamphaaDoor
