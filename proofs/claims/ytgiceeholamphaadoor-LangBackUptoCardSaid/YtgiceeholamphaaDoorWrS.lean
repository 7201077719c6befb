/- The contracts of (*lang.writer).braced, stat, block: by induction on the statements. No conditions but that what is read is there, and is a program, and the table of powers of ten is as it was laid. -/
import Derived.Test.YtgiceeholamphaaDoorWrX
import Derived.Test.YtgiceeholamphaaDoorTextN
import Derived.Deep.DeepCutAuto
import Derived.Deep.CutBlock
namespace Go.Proofs.YtgiceeholamphaaDoor
open Go.ChangeShapes Go.WideShapes Go.ChangeAt Go.RowKit Go.Maps

/-- What the writer writes of a list of statements. -/
def BlockW (k : BlockR) : Prop := ∀ (w : World) (B b : Nat) (l : List UInt8), RdB w B k → AllL k.l → W8 B b l w → l.length + 140 * cntS k.l + 2 ≤ 8000000 → B ≤ w.heap.size → TensB B w →
  Calls Tryd.prog 15 #[.pointer (some ⟨b, 0, none⟩), k.val] w (WP B b (l ++ textS k.l) (.tuple #[]) w)
set_option maxRecDepth 100000 in
set_option maxHeartbeats 4000000 in
theorem wbraced_any (k : BlockR) (ih : BlockW k) (w : World) (B b : Nat) (l : List UInt8) (hR : RdB w B k) (hA : AllL k.l) (hW : W8 B b l w) (hl : l.length + 140 * cntS k.l + 6 ≤ 8000000) (hB : B ≤ w.heap.size) (hT : TensB B w) :
    Calls Tryd.prog 57 #[.pointer (some ⟨b, 0, none⟩), k.val] w (WP B b (l ++ k.txt) (.tuple #[]) w) := by
  have htx := k.txt_eq
  have htl := textS_len hA
  have hfit : k.l.length ≤ 1048576 := hR.fits
  obtain ⟨A, c, L⟩ := k
  simp only [BlockR.l] at htx htl hl hA hfit
  have hws := ws_any B b l [123, 32] w hW (by simp; omega) hB
  have H := Lib.hid (And.intro hws (And.intro ih (And.intro hR (And.intro hA (And.intro hT htx))))); clear hws ih hR hA hT htx hW
  show Calls Tryd.prog 57 #[.pointer (some ⟨b, 0, none⟩), .slice A L.length c] w _
  have mk1 : Nat := 0
  by_cases h0 : L.length = 0
  · have h00 : L = [] := List.length_eq_zero_iff.1 h0
    subst h00
    go_enter Tryd.func57, Tryd.ntmps57
    go_wp2_with (first
      | (go_at_call 34; (
          refine (show Calls _ _ _ _ _ from H.out.1).mono ?_
          rintro E w1 ⟨rfl, hw1, hk1⟩
          have hz1 := hk1.size
          have hc := H.out.2.1 w1 B b _ (H.out.2.2.1.under hk1.below) H.out.2.2.2.1 hw1 (by simp [cntS, BlockR.l] at hl ⊢; omega) (by omega) (H.out.2.2.2.2.1.on hk1.below)
          have HY := Lib.hid (And.intro hc hk1); clear hc hk1 hw1))
      | (go_at_call 15; (
          refine (show Calls _ _ _ _ _ from HY.out.1).mono ?_
          rintro E w2 ⟨rfl, hw2, hk2⟩
          have hz2 := hk2.size
          have hwb := wb_any B b _ 125 w2 hw2 (by simp [BlockR.l]; omega) (by omega)
          have HZ := Lib.hid (And.intro hwb hk2); clear hwb hk2 hw2))
      | (go_at_call 56; (
          refine (show Calls _ _ _ _ _ from HZ.out.1).mono ?_
          rintro E w3 ⟨rfl, hw3, hk3⟩
          have HW := Lib.hid (And.intro hw3 hk3); clear hw3 hk3)))
    go_end0
    exact ⟨rfl, by rw [H.out.2.2.2.2.2]; simpa [BlockR.l, textS] using HW.out.1, HY.out.2.trans (HZ.out.2.trans HW.out.2)⟩
  · have h1 : (0 : Int) < (L.length : Int) := by omega
    go_enter Tryd.func57, Tryd.ntmps57
    go_wp2_with (first
      | (go_at_call 34; (
          refine (show Calls _ _ _ _ _ from H.out.1).mono ?_
          rintro E w1 ⟨rfl, hw1, hk1⟩
          have hz1 := hk1.size
          have hc := H.out.2.1 w1 B b _ (H.out.2.2.1.under hk1.below) H.out.2.2.2.1 hw1 (by simp [BlockR.l]; omega) (by omega) (H.out.2.2.2.2.1.on hk1.below)
          have HY := Lib.hid (And.intro hc hk1); clear hc hk1 hw1))
      | (go_at_call 15; (
          refine (show Calls _ _ _ _ _ from HY.out.1).mono ?_
          rintro E w2 ⟨rfl, hw2, hk2⟩
          have hz2 := hk2.size
          have hwb := wb_any B b _ 32 w2 hw2 (by simp [BlockR.l]; omega) (by omega)
          have HZ := Lib.hid (And.intro hwb hk2); clear hwb hk2 hw2))
      | (clear mk1; go_at_call 56; (
          refine (show Calls _ _ _ _ _ from HZ.out.1).mono ?_
          rintro E w3 ⟨rfl, hw3, hk3⟩
          have hz3 := hk3.size
          have hwb := wb_any B b _ 125 w3 hw3 (by simp [BlockR.l]; omega) (by omega)
          have HW := Lib.hid (And.intro hwb hk3); clear hwb hw3 hk3))
      | (go_at_call 56; (
          refine (show Calls _ _ _ _ _ from HW.out.1).mono ?_
          rintro E w4 ⟨rfl, hw4, hk4⟩
          have HV := Lib.hid (And.intro hw4 hk4); clear hw4 hk4)))
    go_end0
    refine ⟨rfl, ?_, HY.out.2.trans (HZ.out.2.trans (HW.out.2.trans HV.out.2))⟩
    rw [H.out.2.2.2.2.2.trans (congrArg (fun z => [123, 32] ++ (textS L ++ z)) (if_neg h0))]
    have h := HV.out.1
    simp only [BlockR.l] at h
    rw [show l ++ ([123, 32] ++ (textS L ++ [32, 125])) = l ++ [123, 32] ++ textS L ++ [32] ++ [125] by simp]
    exact h
/-- What stands between a statement's blocks, as the writer has it. -/
def betweenW (k : Int) : List UInt8 := if k = 3 then [32, 101, 108, 115, 101, 32] else if k = 5 then [32, 97, 110, 100, 32] else []
theorem strs_len (s : ByteArray) : s.data.toList.length = s.size := by rw [Array.length_toList]; rfl
set_option maxRecDepth 100000 in
set_option maxHeartbeats 4000000 in
theorem wstat_any (x : StatR) (ih : ∀ k ∈ x.blocks, BlockW k) (w : World) (B b : Nat) (l : List UInt8) (hR : RdS w B x) (hA : AllS x) (hW : W8 B b l w) (hl : l.length + 140 * x.cnt ≤ 8000000) (hB : B ≤ w.heap.size) (hT : TensB B w) :
    Calls Tryd.prog 35 #[.pointer (some ⟨b, 0, none⟩), x.val] w (WP B b (l ++ x.txt) (.tuple #[]) w) := by
  have htx := x.txt_eq
  have hce : x.kind ≤ 3 → x.cnt = 1 + x.e.nodes + cntB x.blocks := fun h => by rw [x.cnt_eq, if_pos h]
  have hce1 : 1 + cntB x.blocks ≤ x.cnt := by rw [x.cnt_eq]; omega
  have hTot : (headT x.kind x.name x.e x.n).length + 10 * x.blocks.length + 140 * cntB x.blocks ≤ 140 * x.cnt - 20 := by
    have h := headT_len hA
    rw [x.cnt_eq]
    generalize (if x.kind ≤ 3 then x.e.nodes else 0) = m at *
    omega
  have hok := hA.ok
  have hbl := (headT_len hA).2
  have hzb := hW.lt
  have hAe := fun h => hA.e h
  have hAb := fun (k : BlockR) (hk : k ∈ x.blocks) y hy => hA.in_ (b := k) hk (y := y) hy
  have hRb := fun (k : BlockR) (hk : k ∈ x.blocks) => hR.block hk
  have hRe := hR.e
  have hrow := hR.row
  obtain ⟨kind, name, e, n, bA, bc, blocks⟩ := x
  have hev : e.val = .agg #[.int .i64 e.kind, .int .i64 e.n, .string e.name, .slice e.sA e.kids.length e.sc] := by cases e; rfl
  simp only [StatR.kind, StatR.name, StatR.e, StatR.n, StatR.bA, StatR.blocks] at *
  have H := Lib.hid (And.intro ih (And.intro hAe (And.intro hAb (And.intro hRb (And.intro hRe (And.intro hrow (And.intro htx (And.intro hW (And.intro hT (And.intro hok (And.intro hTot hA))))))))))); clear ih hAe hAb hRb hRe hrow htx hW hT hok hTot hA hR
  have HV := Lib.hid hev; clear hev
  show Calls Tryd.prog 35 #[.pointer (some ⟨b, 0, none⟩), .agg #[.int .i64 kind, .string name, .int .i64 e.kind, .int .i64 e.n, .string e.name, .slice e.sA e.kids.length e.sc, .int .i64 n, .slice bA blocks.length bc]] w (WP B b (l ++ (StatR.mk kind name e n bA bc blocks).txt) (.tuple #[]) w)
  go_enter Tryd.func35, Tryd.ntmps35
  go_upto_block 0 with (fail)
  generalize hW0 : w.alloc (.cells #[.int .i64 kind, .string name, .int .i64 e.kind, .int .i64 e.n, .string e.name, .slice e.sA e.kids.length e.sc, .int .i64 n, .slice bA blocks.length bc] 49) = W0
  obtain ⟨a1, a2, a3⟩ := box_facts2 (c := [.int .i64 kind, .string name, .int .i64 e.kind, .int .i64 e.n, .string e.name, .slice e.sA e.kids.length e.sc, .int .i64 n, .slice bA blocks.length bc]) hW0
  clear hW0
  have hWW := H.out.2.2.2.2.2.2.2.1.below a1
  have hTT := H.out.2.2.2.2.2.2.2.2.1.on (a1.mono hB)
  have hKK : Kp B b w W0 := Kp.of a1 hB
  have hz0 : w.heap.size < W0.heap.size := by omega
  have hRe := H.out.2.2.2.2.1.under (a1.mono hB)
  have HA := Lib.hid (And.intro hWW (And.intro hTT (And.intro hKK (And.intro a3 hRe)))); clear hWW hTT hKK hRe a1 a2
  generalize hn0 : w.heap.size = n0 at *
  have y1 : W0.cell? ⟨n0, 1, none⟩ = some (.string name) := a3.cell 1
  have y2 : W0.cell? ⟨n0, 2, none⟩ = some (.int .i64 e.kind) := a3.cell 2
  have y3 : W0.cell? ⟨n0, 3, none⟩ = some (.int .i64 e.n) := a3.cell 3
  have y4 : W0.cell? ⟨n0, 4, none⟩ = some (.string e.name) := a3.cell 4
  have y5 : W0.cell? ⟨n0, 5, none⟩ = some (.slice e.sA e.kids.length e.sc) := a3.cell 5
  have y6 : W0.cell? ⟨n0, 6, none⟩ = some (.int .i64 n) := a3.cell 6
  clear a3
  go_cut [4] (fun s4 wc => s4 = .string ⟨(betweenW kind).toArray⟩ ∧ W8 B b (l ++ headT kind name e n) wc ∧ Kp B b W0 wc)
  case first => as_aux_lemma =>
    rcases H.out.2.2.2.2.2.2.2.2.2.1 with ⟨h12, hnm, _⟩ | ⟨h3, hok⟩ | ⟨h4, hok⟩ | ⟨h5, hok⟩
    · have hnl : name.data.toList.length ≤ 8 := by rw [strs_len]; exact hnm.2.1
      have h12 : kind = 1 ∨ kind = 2 := h12
      clear hnm
      have hce := hce (by omega)
      have hel := txt_len e (H.out.2.1 (by omega)) 0
      obtain ⟨nm, rfl⟩ : ∃ nm : List UInt8, name = ⟨nm.toArray⟩ := ⟨name.data.toList, by simp⟩
      simp only at hnl
      rcases h12 with rfl | rfl
      · have ex1 : ∀ w : World, (Op.stringOp .add ⟨nm.toArray⟩ ⟨#[32, 61, 32]⟩).run Tryd.prog w = .ok (.string ⟨(nm ++ [32, 61, 32]).toArray⟩) w := fun w => run_string_add_lists (P := Tryd.prog) w nm [32, 61, 32] (by omega) (by simp)
        have hws := ws_any B b l (nm ++ [32, 61, 32]) W0.drew HA.out.1 (by simp; omega) (by show B ≤ W0.heap.size; omega)
        have HX := Lib.hid (And.intro hws hel); clear hws hel
        go_wp2_with fail
        go_region_held3 (fun w' => w'.cell? ⟨n0, 1, none⟩ = some (.string ⟨nm.toArray⟩)) (go_keep) ((first
          | (go_at_call 34; (
              refine (show Calls _ _ _ _ _ from HX.out.1).mono ?_
              rintro E w1 ⟨rfl, hw1, hk1⟩
              have hk1 : Kp B b W0 w1 := (Kp.of ((Below.refl _ _).drew) (by omega)).trans hk1
              have hz1 := hk1.size
              have t := hk1.blk HA.out.2.2.2.1 (by omega) (by decide)
              have z1 : w1.cell? ⟨n0, 1, none⟩ = some (.string ⟨nm.toArray⟩) := t.cell 1
              have z2 : w1.cell? ⟨n0, 2, none⟩ = some (.int .i64 e.kind) := t.cell 2
              have z3 : w1.cell? ⟨n0, 3, none⟩ = some (.int .i64 e.n) := t.cell 3
              have z4 : w1.cell? ⟨n0, 4, none⟩ = some (.string e.name) := t.cell 4
              have z5 : w1.cell? ⟨n0, 5, none⟩ = some (.slice e.sA e.kids.length e.sc) := t.cell 5
              have hc := exprW_any e (H.out.2.1 (by omega)) w1 B b _ (HA.out.2.2.2.2.under hk1.below) hw1 (by simp; omega) (by omega) (HA.out.2.1.on hk1.below)
              rw [HV.out] at hc
              have HY := Lib.hid (And.intro hc hk1); clear hc hk1 hw1 t))))
        go_wp2_with (go_at_call 55; (
            refine (show Calls _ _ _ _ _ from HY.out.1).mono ?_
            rintro E w2 ⟨rfl, hw2, hk2⟩
            have HZ := Lib.hid (And.intro hw2 hk2); clear hk2 hw2))
        go_meet
        case rel => exact ⟨by simp [betweenW], by simpa [headT] using HZ.out.1, HY.out.2.trans HZ.out.2⟩
      · have ex1 : ∀ w : World, (Op.stringOp .add ⟨nm.toArray⟩ ⟨#[32, 43, 61, 32]⟩).run Tryd.prog w = .ok (.string ⟨(nm ++ [32, 43, 61, 32]).toArray⟩) w := fun w => run_string_add_lists (P := Tryd.prog) w nm [32, 43, 61, 32] (by omega) (by simp)
        have hws := ws_any B b l (nm ++ [32, 43, 61, 32]) W0.drew HA.out.1 (by simp; omega) (by show B ≤ W0.heap.size; omega)
        have HX := Lib.hid (And.intro hws hel); clear hws hel
        go_wp2_with fail
        go_region_held3 (fun w' => w'.cell? ⟨n0, 1, none⟩ = some (.string ⟨nm.toArray⟩)) (go_keep) ((first
          | (go_at_call 34; (
              refine (show Calls _ _ _ _ _ from HX.out.1).mono ?_
              rintro E w1 ⟨rfl, hw1, hk1⟩
              have hk1 : Kp B b W0 w1 := (Kp.of ((Below.refl _ _).drew) (by omega)).trans hk1
              have hz1 := hk1.size
              have t := hk1.blk HA.out.2.2.2.1 (by omega) (by decide)
              have z1 : w1.cell? ⟨n0, 1, none⟩ = some (.string ⟨nm.toArray⟩) := t.cell 1
              have z2 : w1.cell? ⟨n0, 2, none⟩ = some (.int .i64 e.kind) := t.cell 2
              have z3 : w1.cell? ⟨n0, 3, none⟩ = some (.int .i64 e.n) := t.cell 3
              have z4 : w1.cell? ⟨n0, 4, none⟩ = some (.string e.name) := t.cell 4
              have z5 : w1.cell? ⟨n0, 5, none⟩ = some (.slice e.sA e.kids.length e.sc) := t.cell 5
              have hc := exprW_any e (H.out.2.1 (by omega)) w1 B b _ (HA.out.2.2.2.2.under hk1.below) hw1 (by simp; omega) (by omega) (HA.out.2.1.on hk1.below)
              rw [HV.out] at hc
              have HY := Lib.hid (And.intro hc hk1); clear hc hk1 hw1 t))))
        go_wp2_with (go_at_call 55; (
            refine (show Calls _ _ _ _ _ from HY.out.1).mono ?_
            rintro E w2 ⟨rfl, hw2, hk2⟩
            have HZ := Lib.hid (And.intro hw2 hk2); clear hk2 hw2))
        go_meet
        case rel => exact ⟨by simp [betweenW], by simpa [headT] using HZ.out.1, HY.out.2.trans HZ.out.2⟩
    · subst h3
      have hws := ws_any B b l [105, 102, 32] W0 HA.out.1 (by simp; omega) (by omega)
      have hce := hce (by omega)
      have hel := txt_len e (H.out.2.1 (by omega)) 0
      have HX := Lib.hid (And.intro hws hel); clear hws hel
      go_wp2_with (first
        | (go_at_call 34; (
            refine (show Calls _ _ _ _ _ from HX.out.1).mono ?_
            rintro E w1 ⟨rfl, hw1, hk1⟩
            have hz1 := hk1.size
            have t := hk1.blk HA.out.2.2.2.1 (by omega) (by decide)
            have z2 : w1.cell? ⟨n0, 2, none⟩ = some (.int .i64 e.kind) := t.cell 2
            have z3 : w1.cell? ⟨n0, 3, none⟩ = some (.int .i64 e.n) := t.cell 3
            have z4 : w1.cell? ⟨n0, 4, none⟩ = some (.string e.name) := t.cell 4
            have z5 : w1.cell? ⟨n0, 5, none⟩ = some (.slice e.sA e.kids.length e.sc) := t.cell 5
            have hc := exprW_any e (H.out.2.1 (by omega)) w1 B b _ (HA.out.2.2.2.2.under hk1.below) hw1 (by simp; omega) (by omega) (HA.out.2.1.on hk1.below)
            rw [HV.out] at hc
            have HY := Lib.hid (And.intro hc hk1); clear hc hk1 hw1 t))
        | (go_at_call 55; (
            refine (show Calls _ _ _ _ _ from HY.out.1).mono ?_
            rintro E w2 ⟨rfl, hw2, hk2⟩
            have hz2 := hk2.size
            have hwb := wb_any B b _ 32 w2 hw2 (by have := HX.out.2; simp; omega) (by omega)
            have HZ := Lib.hid (And.intro hwb hk2); clear hwb hk2 hw2))
        | (go_at_call 56; (
            refine (show Calls _ _ _ _ _ from HZ.out.1).mono ?_
            rintro E w3 ⟨rfl, hw3, hk3⟩
            have HW := Lib.hid (And.intro hw3 hk3); clear hw3 hk3)))
      go_meet
      case rel => exact ⟨by simp [betweenW], by simpa [headT] using HW.out.1, HY.out.2.trans (HZ.out.2.trans HW.out.2)⟩
    · subst h4
      have hm : 0 ≤ n ∧ n ≤ 1000 := ⟨hok.2.1, hok.2.2.1⟩
      have hil := Lib.itoa_length_le n (by omega) (by omega)
      have ex2 : ∀ w : World, (Op.stringOp .add ⟨#[114, 101, 112, 101, 97, 116, 32]⟩ ⟨(Lib.itoa n).toArray⟩).run Tryd.prog w = .ok (.string ⟨(114 :: 101 :: 112 :: 101 :: 97 :: 116 :: 32 :: Lib.itoa n).toArray⟩) w := fun w => run_string_add_lists (P := Tryd.prog) w [114, 101, 112, 101, 97, 116, 32] (Lib.itoa n) (by simp) (by omega)
      have ex3 : ∀ w : World, (Op.stringOp .add ⟨(114 :: 101 :: 112 :: 101 :: 97 :: 116 :: 32 :: Lib.itoa n).toArray⟩ ⟨#[32]⟩).run Tryd.prog w = .ok (.string ⟨(114 :: 101 :: 112 :: 101 :: 97 :: 116 :: 32 :: (Lib.itoa n ++ [32])).toArray⟩) w := fun w => run_string_add_lists (P := Tryd.prog) w (114 :: 101 :: 112 :: 101 :: 97 :: 116 :: 32 :: Lib.itoa n) [32] (by simp; omega) (by simp)
      have hft := fmtB n (by omega) (by omega) W0.drew B (HA.out.2.1.on ((Below.refl _ _).drew))
      have HX := Lib.hid hft; clear hft
      go_wp2_with fail
      go_region_held3 (fun w' => w'.cell? ⟨n0, 6, none⟩ = some (.int .i64 n)) (go_keep) ((first
        | (go_at_call 23; (
            refine (show Calls _ _ _ _ _ from HX.out).mono ?_
            rintro E w1 ⟨rfl, hb1⟩
            have hb1' : Below W0.heap.size W0 w1 := ((Below.refl _ _).drew).trans hb1
            have hk1 : Kp B b W0 w1 := Kp.of hb1' (by omega)
            have hz1 := hk1.size
            have z1 : w1.cell? ⟨n0, 6, none⟩ = some (.int .i64 n) := (bcell hb1' n0 6 hz0).trans y6
            have hws := ws_any B b l (114 :: 101 :: 112 :: 101 :: 97 :: 116 :: 32 :: (Lib.itoa n ++ [32])) w1 (HA.out.1.below hb1') (by simp; omega) (by omega)
            have HY := Lib.hid (And.intro hws (And.intro hk1 (hk1.blk HA.out.2.2.2.1 (by omega) (by decide)))); clear hws hk1 hb1 hb1'))
        | (go_at_call 34; (
            refine (show Calls _ _ _ _ _ from HY.out.1).mono ?_
            rintro E w2 ⟨rfl, hw2, hk2⟩
            have z2 : w2.cell? ⟨n0, 6, none⟩ = some (.int .i64 n) := (hk2.blk HY.out.2.2 (by omega) (by decide)).cell 6
            have HZ := Lib.hid (And.intro hw2 hk2); clear hw2 hk2))))
      go_wp2_with fail
      go_meet
      case rel => exact ⟨by simp [betweenW], by simpa [headT] using HZ.out.1, HY.out.2.1.trans HZ.out.2⟩
    · subst h5
      have hws := ws_any B b l [112, 97, 114, 32] W0 HA.out.1 (by simp; omega) (by omega)
      have HX := Lib.hid hws; clear hws
      go_wp2_with (go_at_call 34; (
            refine (show Calls _ _ _ _ _ from HX.out).mono ?_
            rintro E w1 ⟨rfl, hw1, hk1⟩
            have HY := Lib.hid (And.intro hw1 hk1); clear hk1 hw1))
      go_meet
      case rel => exact ⟨by simp [betweenW], by simpa [headT] using HY.out.1, HY.out.2⟩
  case rest =>
    obtain ⟨rfl, hwc, hkc⟩ := hcut
    have tc := hkc.blk HA.out.2.2.2.1 (by omega) (by decide)
    have y7 : wc.cell? ⟨n0, 7, none⟩ = some (.slice bA blocks.length bc) := tc.cell 7
    have hzc := hkc.size
    have hkw : Kp B b w wc := HA.out.2.2.1.trans hkc
    have hTc := H.out.2.2.2.2.2.2.2.2.1.on hkw.below
    have hTot := H.out.2.2.2.2.2.2.2.2.2.2.1
    have hbt : 2 ≤ blocks.length → betweenW kind = betweenT kind := by
      intro h
      have hok : okS (StatR.mk kind name e n bA bc blocks) := H.out.2.2.2.2.2.2.2.2.2.1
      simp only [okS, StatR.kind, StatR.blocks] at hok
      have hk : kind = 3 ∨ kind = 5 := by omega
      rcases hk with rfl | rfl <;> simp [betweenW, betweenT]
    have hbl6 := betweenT_len kind
    generalize hL1 : l ++ headT kind name e n = l1 at hwc
    have hl1 : l1.length = l.length + (headT kind name e n).length := by rw [← hL1, List.length_append]
    have htk : ∀ q, (blocksT (betweenT kind) (blocks.take q)).length ≤ 10 * (blocks.take q).length + 140 * cntB (blocks.take q) := fun q =>
      blocksT_len _ hbl6 (blocks.take q) fun k hk y hy => stat_len y (H.out.2.2.1 k (List.mem_of_mem_take hk) y hy)
    generalize hbtw : betweenT kind = btw at *
    generalize hbw : betweenW kind = bw at *
    have HC := Lib.hid (And.intro hkw (And.intro hTc (And.intro hL1 (And.intro htk (And.intro hbt (And.intro hbtw tc)))))); clear hkw hTc hL1 htk hbt hbtw hbw tc hkc y1 y2 y3 y4 y5 y6
    have HW := Lib.hid hwc; clear hwc
    go_wp2_with fail
    go_loopg [69] blocks.length (fun gk i wr => ∃ q : Nat, gk + q = blocks.length ∧ i = .int .i64 q ∧ W8 B b (l1 ++ blocksT btw (blocks.take q)) wr ∧ Kp B b wc wr)
    case atStart => exact ⟨0, by omega, rfl, by simpa [blocksT] using HW.out, Kp.refl _ _ _⟩
    case round =>
      obtain ⟨q, hgq, rfl, hwr, hkr⟩ := hrel
      by_cases hq : q < blocks.length
      · obtain ⟨b2, o2, rfl, hb2B, hcell⟩ := H.out.2.2.2.2.2.1.at_ (i := q) hq
        have hk2 : Kp B b w wr := HC.out.1.trans hkr
        have hzr := hkr.size
        have hcell : wr.cell? ⟨b2, o2 + q, none⟩ = some (blocks[q]).val := (hk2.below.cell (p := ⟨b2, o2 + q, none⟩) hb2B).trans hcell
        have hst := blocksT_step btw hq
        have hcb : cntB (blocks.take q) + (blocks[q]).cnt ≤ cntB blocks := by
          conv => rhs; rw [← List.take_append_drop (q + 1) blocks, cntB_append, List.take_succ_eq_append_getElem hq, cntB_append]
          simp only [cntB]; omega
        have htq := HC.out.2.2.2.1 q
        have htl : (blocks.take q).length = q := by rw [List.length_take]; omega
        rw [htl] at htq
        have hbt2 := HC.out.2.2.2.2.1
        have hmem := List.getElem_mem hq
        obtain ⟨y, hye⟩ : ∃ y, blocks[q] = y := ⟨_, rfl⟩
        rw [hye] at hcell hst hcb hmem
        have hcy := y.cnt_eq
        have hRy := (H.out.2.2.2.1 y hmem).under hk2.below
        generalize blocksT btw (blocks.take q) = tq at *
        have hll : (l1 ++ tq).length ≤ 7999990 := by rw [List.length_append]; omega
        have hl2 : (l1 ++ tq ++ if q = 0 then [] else btw).length + 140 * cntS y.l + 6 ≤ 8000000 := by
          rw [List.length_append, List.length_append]
          split
          · simp; omega
          · omega
        have hbr := fun (W : World) (hW : W8 B b (l1 ++ tq ++ if q = 0 then [] else btw) W) (hkW : Kp B b wr W) => wbraced_any y (H.out.1 y hmem) W B b _ (hRy.under hkW.below) (H.out.2.2.1 y hmem) hW hl2 (by have := hkW.size; omega) (HC.out.2.1.on (hkr.below.trans hkW.below))
        have hws : 0 < q → Calls Tryd.prog 34 #[.pointer (some ⟨b, 0, none⟩), .string ⟨bw.toArray⟩] wr (WP B b (l1 ++ tq ++ if q = 0 then [] else btw) (.tuple #[.int .i64 btw.length, .nilIface]) wr) := by
          intro h0
          rw [hbt2 (by omega), if_neg (by omega)]
          exact ws_any B b (l1 ++ tq) btw wr hwr (by omega) (by omega)
        obtain ⟨yA, yc, yl⟩ := y
        simp only [BlockR.val] at hcell hbr
        have HR := Lib.hid (And.intro hws (And.intro hbr (And.intro hwr (And.intro hkr hst)))); clear hws hbr hwr hkr hst hk2 hRy htq hbt2 hcb hye hl2
        go_upto_if 75 with (fail)
        go_cut [5] (fun s5 w5 => W8 B b (l1 ++ tq ++ if q = 0 then [] else btw) w5 ∧ Kp B b wr w5)
        case first => as_aux_lemma =>
          by_cases h0 : q = 0
          · subst h0
            go_wp2_with fail
            go_meet
            case rel => exact ⟨by simpa using HR.out.2.2.1, Kp.refl _ _ _⟩
          · have h1 : (0 : Int) < (q : Int) := by omega
            have h2 := Lib.hid (HR.out.1 (by omega))
            go_wp2_with (go_at_call 34; (
              refine (show Calls _ _ _ _ _ from h2.out).mono ?_
              rintro E w6 ⟨rfl, hw6, hk6⟩
              have H6 := Lib.hid (And.intro hw6 hk6); clear hw6 hk6))
            go_meet
            case rel => exact ⟨H6.out.1, H6.out.2⟩
        case rest =>
          obtain ⟨hw5, hk5⟩ := hcut
          have hb5 := HR.out.2.1 _ hw5 hk5
          have H5 := Lib.hid (And.intro hb5 hk5); clear hb5 hk5 hw5
          go_wp2_with (go_at_call 57; (
            refine (show Calls _ _ _ _ _ from H5.out.1).mono ?_
            rintro E w7 ⟨rfl, hw7, hk7⟩
            have H7 := Lib.hid (And.intro hw7 hk7); clear hw7 hk7))
          go_roundg (gk - 1)
          case measure => omega
          case rel => exact ⟨q + 1, by omega, by go_num, by rw [HR.out.2.2.2.2, ← List.append_assoc, ← List.append_assoc]; exact H7.out.1, HR.out.2.2.2.1.trans (H5.out.2.trans H7.out.2)⟩
      · have hend : blocks.take q = blocks := List.take_of_length_le (by omega)
        rw [hend] at hwr
        have H5 := Lib.hid (And.intro hwr hkr); clear hwr hkr hend
        go_wp2_with fail
        go_end0
        refine ⟨rfl, ?_, HC.out.1.trans H5.out.2⟩
        rw [H.out.2.2.2.2.2.2.1, ← List.append_assoc, HC.out.2.2.1]
        exact H5.out.1
set_option maxRecDepth 100000 in
set_option maxHeartbeats 4000000 in
theorem blockW_any : ∀ (m : Nat) (k : BlockR), nodesS k.l < m → BlockW k := by
  intro m
  induction m with
  | zero => intro k h; omega
  | succ m ihm =>
    intro k hm w B b l hR hA hW hl hB hT
    obtain ⟨A, c, L⟩ := k
    simp only [BlockR.l] at hm hl hA ⊢
    have hrow : RowS w B A L := hR.row
    have heach : ∀ x ∈ L, RdS w B x := hR.each
    have hfit : L.length ≤ 1048576 := hR.fits
    have H := Lib.hid (And.intro ihm (And.intro hm (And.intro hrow (And.intro heach (And.intro hA hT))))); clear ihm hm hrow heach hA hT hR
    have HW := Lib.hid hW; clear hW
    show Calls Tryd.prog 15 #[.pointer (some ⟨b, 0, none⟩), .slice A L.length c] w _
    go_enter Tryd.func15, Tryd.ntmps15
    go_wp2_with fail
    go_loopg [8] L.length (fun gk i wr => ∃ q : Nat, gk + q = L.length ∧ i = .int .i64 q ∧ W8 B b (l ++ textS (L.take q)) wr ∧ Kp B b w wr)
    case atStart => exact ⟨0, by omega, rfl, by simpa [textS] using HW.out, Kp.refl _ _ _⟩
    case round =>
      obtain ⟨q, hgq, rfl, hwr, hkr⟩ := hrel
      by_cases hq : q < L.length
      · obtain ⟨b2, o2, rfl, hb2B, hx⟩ := H.out.2.2.1.at_ (i := q) hq
        have hzr := hkr.size
        have hx := hx.keep hb2B fun p hp => hkr.below.cell hp
        have hst := textS_step hq
        have hlq := textS_len (H.out.2.2.2.2.1.take q)
        have hcq : cntS (L.take q) + (L[q]).cnt ≤ cntS L := by
          have h1 := cntS_take L (q + 1)
          rw [List.take_succ_eq_append_getElem hq, cntS_append] at h1
          simp only [cntS] at h1
          omega
        have hmem := List.getElem_mem hq
        obtain ⟨x, hxe⟩ : ∃ x, L[q] = x := ⟨_, rfl⟩
        rw [hxe] at hx hst hcq hmem
        have hRx := (H.out.2.2.2.1 x hmem).under hkr.below
        have hnx := nodesS_le hmem
        have ihx : ∀ k ∈ x.blocks, BlockW k := fun k hk => H.out.1 k (by
          have h1 := nodesB_le hk
          have h2 := x.nodes_eq
          have h3 := H.out.2.1
          rw [k.nodes_eq] at h1
          omega)
        generalize textS (L.take q) = tq at *
        have hll : (l ++ tq).length ≤ 7999990 := by rw [List.length_append]; have := nodes_pos x; have : 1 ≤ x.cnt := by rw [x.cnt_eq]; omega
                                                    omega
        have hl2 : (l ++ tq ++ if q = 0 then [] else [59, 32]).length + 140 * x.cnt ≤ 8000000 := by
          rw [List.length_append, List.length_append]
          split
          · simp; omega
          · simp; omega
        have hsa := fun (W : World) (hW : W8 B b (l ++ tq ++ if q = 0 then [] else [59, 32]) W) (hkW : Kp B b wr W) => wstat_any x ihx W B b _ (hRx.under hkW.below) (H.out.2.2.2.2.1 x hmem) hW hl2 (by have := hkW.size; omega) (H.out.2.2.2.2.2.on (hkr.below.trans hkW.below))
        have hws := fun (W : World) (hW : W8 B b (l ++ tq) W) (hB' : B ≤ W.heap.size) => ws_any B b (l ++ tq) [59, 32] W hW (by simp only [List.length_cons, List.length_nil]; omega) hB'
        obtain ⟨kind, name, ⟨ek, en, ename, eA, ec, ekids⟩, xn, xA, xc, blocks⟩ := x
        obtain ⟨x0, x1, x2, x3, x4, x5, x6, x7⟩ := hx
        simp only [StatR.kind, StatR.name, StatR.e, StatR.n, StatR.bA, StatR.bc, StatR.blocks, ExprR.kind, ExprR.n, ExprR.name, ExprR.sA, ExprR.sc, ExprR.kids] at x0 x1 x2 x3 x4 x5 x6 x7
        have HR := Lib.hid (And.intro hws (And.intro hsa (And.intro hwr (And.intro hkr hst)))); clear hws hsa hwr hkr hst hRx ihx hcq hxe hl2 hnx hmem
        go_upto_if 14 with (fail)
        generalize hW1 : wr.alloc (.cells #[.int .i64 kind, .string name, .int .i64 ek, .int .i64 en, .string ename, .slice eA ekids.length ec, .int .i64 xn, .slice xA blocks.length xc] 49) = W1
        obtain ⟨a1, a2, a3⟩ := box_facts2 (c := [.int .i64 kind, .string name, .int .i64 ek, .int .i64 en, .string ename, .slice eA ekids.length ec, .int .i64 xn, .slice xA blocks.length xc]) hW1
        clear hW1 x0 x1 x2 x3 x4 x5 x6 x7
        have hw1 := HR.out.2.2.1.below a1
        have hk1 : Kp B b wr W1 := Kp.of a1 (by omega)
        have hzb := HR.out.2.2.1.lt
        have hws := HR.out.1 W1 hw1 (by omega)
        generalize hn0 : wr.heap.size = n0 at *
        have HA := Lib.hid (And.intro hws (And.intro hw1 (And.intro hk1 a3))); clear hws hw1 hk1 a1 a3
        go_cut [4] (fun s4 w5 => W8 B b (l ++ tq ++ if q = 0 then [] else [59, 32]) w5 ∧ Kp B b W1 w5)
        case first => as_aux_lemma =>
          by_cases h0 : q = 0
          · subst h0
            go_wp2_with fail
            go_meet
            case rel => exact ⟨by simpa using HA.out.2.1, Kp.refl _ _ _⟩
          · have h1 : (0 : Int) < (q : Int) := by omega
            go_wp2_with (go_at_call 34; (
              refine (show Calls _ _ _ _ _ from HA.out.1).mono ?_
              rintro E w6 ⟨rfl, hw6, hk6⟩
              have H6 := Lib.hid (And.intro hw6 hk6); clear hw6 hk6))
            go_meet
            case rel => exact ⟨by rw [if_neg h0]; exact H6.out.1, H6.out.2⟩
        case rest =>
          obtain ⟨hw5, hk5⟩ := hcut
          have t5 := hk5.blk HA.out.2.2.2 (by omega) (by decide)
          have y0 : wc.cell? ⟨n0, 0, none⟩ = some (.int .i64 kind) := t5.cell 0
          have y1 : wc.cell? ⟨n0, 1, none⟩ = some (.string name) := t5.cell 1
          have y2 : wc.cell? ⟨n0, 2, none⟩ = some (.int .i64 ek) := t5.cell 2
          have y3 : wc.cell? ⟨n0, 3, none⟩ = some (.int .i64 en) := t5.cell 3
          have y4 : wc.cell? ⟨n0, 4, none⟩ = some (.string ename) := t5.cell 4
          have y5 : wc.cell? ⟨n0, 5, none⟩ = some (.slice eA ekids.length ec) := t5.cell 5
          have y6 : wc.cell? ⟨n0, 6, none⟩ = some (.int .i64 xn) := t5.cell 6
          have y7 : wc.cell? ⟨n0, 7, none⟩ = some (.slice xA blocks.length xc) := t5.cell 7
          have hk15 := HA.out.2.2.1.trans hk5
          have hsa := HR.out.2.1 wc hw5 hk15
          have H5 := Lib.hid (And.intro hsa hk15); clear hsa hk15 hk5 hw5 t5
          go_wp2_with (go_at_call 35; (
            refine (show Calls _ _ _ _ _ from H5.out.1).mono ?_
            rintro E w7 ⟨rfl, hw7, hk7⟩
            have H7 := Lib.hid (And.intro hw7 hk7); clear hw7 hk7))
          go_roundg (gk - 1)
          case measure => omega
          case rel => exact ⟨q + 1, by omega, by go_num, by rw [HR.out.2.2.2.2, ← List.append_assoc, ← List.append_assoc]; exact H7.out.1, HR.out.2.2.2.1.trans (H5.out.2.trans H7.out.2)⟩
      · have hend : L.take q = L := List.take_of_length_le (by omega)
        rw [hend] at hwr
        have H5 := Lib.hid (And.intro hwr hkr); clear hwr hkr hend
        go_wp2_with fail
        go_end0
        exact ⟨rfl, H5.out.1, H5.out.2⟩
end Go.Proofs.YtgiceeholamphaaDoor
