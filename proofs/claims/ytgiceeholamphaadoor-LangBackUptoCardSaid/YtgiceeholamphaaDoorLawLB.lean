/- The law LangBack: what is written is read as it was; what is read, and written, is read again as the same. -/
import Derived.Test.YtgiceeholamphaaDoorBkS
import Derived.Test.YtgiceeholamphaaDoorWrite
import Derived.Test.YtgiceeholamphaaDoorRdF
import Derived.Test.YtgiceeholamphaaDoorSmS
namespace Go.Proofs.YtgiceeholamphaaDoor
open Go.ChangeShapes Go.WideShapes Go.ChangeAt Go.RowKit Go.Maps

theorem outOf_written {l : List StatR} (h : wrong l = 0) (n : Nat) : outOf (.ok (plainS l) [([], n)]) = .fine (plainS l) := by
  simp only [outOf]
  rw [if_pos (by rfl), if_pos (by rw [wrong_bare]; exact h)]
theorem outOf_fine {r : PR (List StatR)} {l : List StatR} (h : outOf r = .fine l) : wrong l = 0 := by
  cases r with
  | no n => cases h
  | ok l' ts =>
    simp only [outOf] at h
    split at h
    · split at h
      · cases h; assumption
      · cases h
    · cases h
theorem read_written {l : List StatR} (h : wrong l = 0) (w : World) : Calls Tryd.prog 11 #[.string ⟨(saidT l).toArray⟩] w (ReadPost (.fine (plainS l)) w) := by
  have hs : saidT l = textS l := if_pos h
  obtain ⟨f, n, e⟩ := written_read (wrong_allR h)
  have hl := textS_len (wrong_allR h)
  have hc := wrong_cnt h
  have := read_any ⟨(saidT l).toArray⟩ w (by rw [hs]; show (textS l).toArray.size ≤ _; rw [List.size_toArray]; omega) f _ (by rw [hs]; exact e)
  rw [outOf_written h] at this
  exact this
def seven : List StatR := [mkSet 1 ⟨#[120]⟩ (mkNum 7)]
theorem seven_ok : wrong seven = 0 := by
  have hA : AllL seven := by
    intro x hx
    obtain rfl : x = mkSet 1 ⟨#[120]⟩ (mkNum 7) := by simpa [seven] using hx
    refine .mk _ (.inl ⟨.inl rfl, ⟨by decide, by decide, by decide, fun i hi => ?_⟩, rfl, rfl⟩) (fun _ => .mk _ (.inl ⟨rfl, by decide, by decide, rfl, rfl⟩) fun k hk => by cases hk) fun b hb => by cases hb
    obtain rfl : i = 0 := by
      have : i < 1 := hi
      omega
    exact (by decide : 97 ≤ (120 : UInt8).toNat ∧ (120 : UInt8).toNat ≤ 122)
  unfold wrong
  rw [if_pos hA, if_neg]
  simp [seven, mkSet, mkNum, cntS, StatR.cnt, ExprR.nodes, nodesE, cntB, depthS, StatR.depth, ExprR.depth, depthE, depthB]
theorem seven_said : saidT seven = [120, 32, 61, 32, 55] := by
  unfold saidT
  rw [if_pos seven_ok]
  simp [seven, mkSet, mkNum, textS, StatR.txt, headT, ExprR.txt, Lib.itoa, Lib.decDigits, blocksT, tailT]
theorem read_seven (w : World) : Calls Tryd.prog 11 #[.string ⟨#[120, 32, 61, 32, 55]⟩] w (ReadPost (.fine (plainS seven)) w) := by
  have := read_written seven_ok w
  rw [seven_said] at this
  exact this
theorem nodes_two : ∀ x : StatR, AllS x → x.nodes ≤ 2 * x.cnt := by
  refine StatR.ind fun x ih h => ?_
  have hS : ∀ l : List StatR, (∀ y ∈ l, y.nodes ≤ 2 * y.cnt) → nodesS l ≤ 2 * cntS l := fun l h => by
    induction l with
    | nil => simp [nodesS]
    | cons y l ih => have := h y (by simp); have := ih fun z hz => h z (by simp [hz]); simp only [cntS, nodesS]; omega
  have hB : ∀ l : List BlockR, (∀ b ∈ l, ∀ y ∈ b.l, y.nodes ≤ 2 * y.cnt) → nodesB l ≤ 2 * cntB l := fun l h => by
    induction l with
    | nil => simp [nodesB]
    | cons b l ih =>
      have h1 := hS b.l (h b (by simp))
      have := ih fun z hz => h z (by simp [hz])
      simp only [cntB, nodesB, b.cnt_eq, b.nodes_eq]; omega
  have hb := hB x.blocks fun b hb y hy => ih b hb y hy (h.in_ hb hy)
  have key : x.kind ≤ 3 ∨ (¬ x.kind ≤ 3 ∧ x.e.nodes = 1) := by
    have hz : noneE x.e → x.e.nodes = 1 := fun hz => by rw [x.e.nodes_eq, List.length_eq_zero_iff.1 hz.2.2.2]; rfl
    rcases h.ok with ⟨h1, _⟩ | ⟨h1, _⟩ | ⟨h1, _, _, _, _, h6⟩ | ⟨h1, _, _, _, _, h6⟩
    · exact .inl (by omega)
    · exact .inl (by omega)
    · exact .inr ⟨by omega, hz h6⟩
    · exact .inr ⟨by omega, hz h6⟩
  rw [x.nodes_eq, x.cnt_eq]
  rcases key with k | ⟨k, k1⟩
  · rw [if_pos k]; omega
  · rw [if_neg k]; omega
theorem nodes_small {l : List StatR} (h : wrong l = 0) : nodesS l ≤ 2000 := by
  have hA := wrong_allR h
  have hc := wrong_cnt h
  have : nodesS l ≤ 2 * cntS l := by
    clear hc h
    induction l with
    | nil => simp [nodesS]
    | cons y l ih => have := nodes_two y (hA y (by simp)); have := ih fun z hz => hA z (by simp [hz]); simp only [cntS, nodesS]; omega
  omega
set_option maxRecDepth 100000 in
set_option maxHeartbeats 4000000 in
theorem back_law (k : BlockR) (s : ByteArray) (w : World) (B : Nat) (hR : RdB w B k) (hB : B ≤ w.heap.size) (hn : nodesS k.l ≤ 1048576) (hs : s.size ≤ 1048576) (hT : Tens w) :
    Calls Tryd.prog 5 #[k.val, .string s] w (YesPost w) := by
  obtain ⟨f, rl, hr⟩ := list_total (toksAt s.data.toList 0)
  have hrd := fun wx => read_any s wx hs f rl hr
  have hwo := fun l (h : outOf rl = .fine l) => outOf_fine h
  generalize outOf rl = o at *
  have H := Lib.hid (And.intro hrd (And.intro hwo (And.intro hR (And.intro hB (And.intro hn hT))))); clear hrd hwo hR hB hn hT hr hs
  obtain ⟨A, c, L⟩ := k
  show Calls Tryd.prog 5 #[.slice A L.length c, .string s] w (YesPost w)
  go_enter Tryd.func5, Tryd.ntmps5
  go_upto_region 2 with (go_at_call 11; (
    refine (show Calls _ _ _ _ _ from read_seven _).mono ?_
    intro E w2 hp
    obtain ⟨hb2, ⟨A1, c1, L1⟩, a1, b1, rfl, hk1, ho1⟩ := read_form hp
    obtain ⟨hl1, rfl, rfl⟩ : plainS L1 = plainS seven ∧ a1 = 0 ∧ b1 = 0 := ho1
    have hlen1 : L1.length = 1 := by rw [← plainS_length, hl1]; rfl
    have H2 := Lib.hid hb2; clear hp hb2 hk1 hl1
    simp only [BlockR.val, BlockR.A, BlockR.l, BlockR.c]
    rw [hlen1]))
  have hx1 := Blk.newArr w2 30 (cs := #[.int .i64 0, .int .i64 0]) (vs := [.int .i64 0, .int .i64 0]) rfl
  have hb3 : Below w.heap.size w (w2.alloc (.cells #[.int .i64 0, .int .i64 0] 30)) := H2.out.alloc H2.out.size _
  generalize w2.alloc (.cells #[.int .i64 0, .int .i64 0] 30) = W3 at *
  have c0 := hx1.cell 0
  simp only [List.getElem?_cons_zero, List.getElem?_cons_succ] at c0
  have H3 := Lib.hid hb3; clear hb3 hx1
  go_upto_region 5 with (go_at_call 6; (
    refine (write_any (.mk A c L) W3 B (H.out.2.2.1.under (H3.out.mono H.out.2.2.2.1)) (by have := H3.out.size; have := H.out.2.2.2.1; omega) H.out.2.2.2.2.1 (H.out.2.2.2.2.2.below H3.out)).mono ?_
    rintro E w4 ⟨rfl, hb4⟩
    simp only [BlockR.l]
    have H4 := Lib.hid hb4; clear hb4))
  by_cases hw : wrong L = 0
  rotate_left
  focus
    have hw2 : ((wrong L : Int) == 0) = false := by rw [beq_eq_false_iff_ne]; omega
    clear hw
    generalize wrong L = x at hw2 ⊢
    generalize (saidT L).toArray = sx
    have H5 := Lib.hid (H3.out.trans (H4.out.mono H3.out.size))
    clear H2 H3 H4 c0
    go_upto_region 10 with (go_at_call 11; (
      refine (show Calls _ _ _ _ _ from H.out.1 _).mono ?_
      intro E w8 hp
      obtain ⟨hb8, ⟨A3, c3, L3⟩, a3, b3, rfl, hk3, ho3⟩ := read_form hp
      have H8 := Lib.hid (And.intro (H5.out.trans (hb8.mono H5.out.size)) hk3); clear hp hb8 hk3
      simp only [BlockR.val, BlockR.A, BlockR.l, BlockR.c]))
  rotate_left
  focus
    rw [hw]
    have HW := Lib.hid hw; clear hw
    go_upto_region 7 with (go_at_call 11; (
      refine (show Calls _ _ _ _ _ from read_written HW.out _).mono ?_
      intro E w5 hp
      obtain ⟨hb5, ⟨A2, c2, L2⟩, a2, b2, rfl, hk2, ho2⟩ := read_form hp
      obtain ⟨hl2, rfl, rfl⟩ : plainS L2 = plainS L ∧ a2 = 0 ∧ b2 = 0 := ho2
      have H5 := Lib.hid (And.intro hb5 (And.intro hk2 hl2)); clear hp hb5 hk2 hl2
      simp only [BlockR.val, BlockR.A, BlockR.l, BlockR.c]))
    have hx5 := Blk.newArr w5 30 (cs := #[.int .i64 0, .int .i64 0]) (vs := [.int .i64 0, .int .i64 0]) rfl
    have hz5 : (w5.alloc (.cells #[.int .i64 0, .int .i64 0] 30)).heap.size = w5.heap.size + 1 := by simp
    have ha5 : Below w5.heap.size w5 (w5.alloc (.cells #[.int .i64 0, .int .i64 0] 30)) := (Below.refl _ _).alloc (Nat.le_refl _) _
    have hw4 : Below w.heap.size w w4 := H3.out.trans (H4.out.mono H3.out.size)
    have hb5 := H5.out.1
    have hw5 : Below w.heap.size w w5 := hw4.trans (hb5.mono hw4.size)
    have hw6 : Below w.heap.size w (w5.alloc (.cells #[.int .i64 0, .int .i64 0] 30)) := hw5.alloc hw5.size _
    have hR1 : RdB (w5.alloc (.cells #[.int .i64 0, .int .i64 0] 30)) w5.heap.size (.mk A c L) := (H.out.2.2.1.under (hw6.mono H.out.2.2.2.1)).more (by have := hw5.size; have := H.out.2.2.2.1; omega)
    have hR2 : RdB (w5.alloc (.cells #[.int .i64 0, .int .i64 0] 30)) w5.heap.size (.mk A2 c2 L2) := H5.out.2.1.under ha5
    have hsm := sameS_any _ (.mk A c L) (.mk A2 c2 L2) _ w5.heap.size (Nat.lt_succ_self _) hR1 hR2 H5.out.2.2.symm (by simp)
    generalize w5.alloc (.cells #[.int .i64 0, .int .i64 0] 30) = W6 at *
    have q0 := hx5.cell 0
    simp only [List.getElem?_cons_zero, List.getElem?_cons_succ] at q0
    have H6 := Lib.hid (And.intro hw6 hsm); clear hw6 hsm hR1 hR2 hx5 hz5 ha5 hb5 hw4 hw5 H2 H3 H4 c0
    go_upto_region 9 with (go_at_call 13; (
      refine (show Calls _ _ _ _ _ from H6.out.2).mono ?_
      rintro E w7 ⟨rfl, hb7⟩
      have H7 := Lib.hid (H6.out.1.trans (hb7.mono H6.out.1.size)); clear hb7))
    clear H5 H6 q0
    have H5 := H7; clear H7
    go_upto_region 10 with (go_at_call 11; (
      refine (show Calls _ _ _ _ _ from H.out.1 _).mono ?_
      intro E w8 hp
      obtain ⟨hb8, ⟨A3, c3, L3⟩, a3, b3, rfl, hk3, ho3⟩ := read_form hp
      have H8 := Lib.hid (And.intro (H5.out.trans (hb8.mono H5.out.size)) hk3); clear hp hb8 hk3
      simp only [BlockR.val, BlockR.A, BlockR.l, BlockR.c]))
  all_goals
    have hx8 := Blk.newArr w8 30 (cs := #[.int .i64 a3, .int .i64 b3]) (vs := [.int .i64 a3, .int .i64 b3]) rfl
    have hb9 : Below w.heap.size w (w8.alloc (.cells #[.int .i64 a3, .int .i64 b3] 30)) := H8.out.1.alloc H8.out.1.size _
    have ha9 : Below w8.heap.size w8 (w8.alloc (.cells #[.int .i64 a3, .int .i64 b3] 30)) := (Below.refl _ _).alloc (Nat.le_refl _) _
    have hR3 := H8.out.2.under ha9
    have hlow := H8.out.1.size
    clear ha9
    generalize w8.alloc (.cells #[.int .i64 a3, .int .i64 b3] 30) = W9 at *
    have g0 := hx8.cell 0
    have g1 := hx8.cell 1
    have p0 := hx8.frozen 0
    have p1 := hx8.frozen 1
    have hg := hx8.lt
    obtain ⟨G, hG⟩ : ∃ G, w8.heap.size = G := ⟨_, rfl⟩
    rw [hG] at g0 g1 p0 p1 hg hx8 hR3 hlow
    rw [hG]
    simp only [List.getElem?_cons_zero, List.getElem?_cons_succ] at g0 g1
    clear H8 hG
    have H9 := Lib.hid (And.intro hb9 (And.intro hR3 (And.intro hx8 (And.intro hg hlow)))); clear hb9 hR3 hx8 hg hlow
  all_goals cases o with
  | syn n =>
    obtain ⟨e3, rfl, rfl⟩ : L3 = [] ∧ a3 = 6 ∧ b3 = (n : Int) := ho3
    subst e3
    go_wp2_with fail
    go_ret
    exact ⟨rfl, H9.out.1⟩
  | large =>
    obtain ⟨e3, rfl, rfl⟩ : L3 = [] ∧ a3 = 2 ∧ b3 = 0 := ho3
    subst e3
    go_wp2_with fail
    go_ret
    exact ⟨rfl, H9.out.1⟩
  | fine l =>
    obtain ⟨hl3, rfl, rfl⟩ : plainS L3 = l ∧ a3 = 0 ∧ b3 = 0 := ho3
    have hw3 : wrong L3 = 0 := by rw [← wrong_bare, hl3]; exact H.out.2.1 l rfl
    have HL := Lib.hid (And.intro hl3 hw3); clear hl3 hw3
    go_upto_region 14 with (first
      | (go_at_call 6; (
        refine (write_any (.mk A3 c3 L3) W9 G H9.out.2.1 (by have := H9.out.2.2.2.1; omega) (by have := nodes_small HL.out.2; show nodesS L3 ≤ _; omega) (H.out.2.2.2.2.2.below H9.out.1)).mono ?_
        rintro E w10 ⟨rfl, hb10⟩
        simp only [BlockR.l]
        rw [HL.out.2]
        have H10 := Lib.hid hb10; clear hb10))
      | (go_at_call 11; (
        refine (show Calls _ _ _ _ _ from read_written HL.out.2 _).mono ?_
        intro E w11 hp
        obtain ⟨hb11, ⟨A4, c4, L4⟩, rfl, hl4, hk4⟩ := hp
        have hx11 := (H9.out.2.2.1.below H10.out H9.out.2.2.2.1).below hb11 (Nat.lt_of_lt_of_le H9.out.2.2.2.1 H10.out.size)
        have m0 := hx11.cell 0
        have m1 := hx11.cell 1
        have p0 := hx11.frozen 0
        have p1 := hx11.frozen 1
        have H11 := Lib.hid (And.intro hb11 (And.intro hk4 (And.intro hl4 hx11))); clear hb11 hk4 hl4 hx11
        simp only [BlockR.val, BlockR.A, BlockR.l, BlockR.c])))
    obtain ⟨hb9, hR3, hx9, hg, hlow⟩ := H9.out
    obtain ⟨hb11, hk4, hl4, hx11⟩ := H11.out
    have hz10 := H10.out.size
    have hz11 := hb11.size
    have hS : under w10.heap.size G = true := by simp; omega
    have hR4 := ((hk4.go (Stays.set_ (o := 0) (v := .int .i64 0) hS)).go (Stays.set_ (o := 1) (v := .int .i64 0) hS)).rd
    have hset : Below G w11 ((w11.setCell ⟨G, 0, none⟩ (.int .i64 0)).setCell ⟨G, 1, none⟩ (.int .i64 0)) := ((Below.refl _ _).setCell (p := ⟨G, 0, none⟩) (Nat.le_refl _) _).setCell (p := ⟨G, 1, none⟩) (Nat.le_refl _) _
    have hbG : Below G W9 ((w11.setCell ⟨G, 0, none⟩ (.int .i64 0)).setCell ⟨G, 1, none⟩ (.int .i64 0)) := ((H10.out.mono (by omega)).trans (hb11.mono (by omega))).trans hset
    have hbw := hb9.trans (hbG.mono hlow)
    have hR3' := hR3.under hbG
    have hx12 := (hx11.set_ 0 (.int .i64 0)).set_ 1 (.int .i64 0)
    have hz12 := hbG.size
    generalize (w11.setCell ⟨G, 0, none⟩ (.int .i64 0)).setCell ⟨G, 1, none⟩ (.int .i64 0) = W12 at *
    have hsm := sameS_any _ (.mk A3 c3 L3) (.mk A4 c4 L4) W12 _ (Nat.lt_succ_self _) (hR3'.more (by omega)) hR4 (show plainS L3 = plainS L4 from hl4.symm) (Nat.le_refl _)
    have z0 := hx12.cell 0
    have HH := Lib.hid (And.intro hbw hsm); clear hbw hsm hR3' hR4 hx12 hbG hset hx11 hb11 hl4 hb9 hR3 hx9 hg hlow hz10 hz11 hz12 hS hk4 m0 m1 p0 p1 g0 g1
    go_wp2_with (go_at_call 13; (
      refine (show Calls _ _ _ _ _ from HH.out.2).mono ?_
      rintro E w13 ⟨rfl, hb13⟩
      have H13 := Lib.hid hb13; clear hb13))
    go_ret
    exact ⟨rfl, HH.out.1.trans (H13.out.mono HH.out.1.size)⟩
end Go.Proofs.YtgiceeholamphaaDoor
