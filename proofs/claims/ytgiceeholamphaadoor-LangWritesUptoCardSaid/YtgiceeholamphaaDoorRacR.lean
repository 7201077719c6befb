/- The contract of stepref.Races; the law of LangWrites. No conditions but that what is read is there, and can be counted, and that the table of powers of ten is as it was laid. -/
import Derived.Test.YtgiceeholamphaaDoorRacW
import Derived.Test.YtgiceeholamphaaDoorPrM
import Derived.Test.YtgiceeholamphaaDoorWrite
import Derived.Test.YtgiceeholamphaaDoorTextS
namespace Go.Proofs.YtgiceeholamphaaDoor
open Go.ChangeShapes Go.WideShapes Go.ChangeAt Go.RowKit Go.Maps

set_option maxRecDepth 100000 in
set_option maxHeartbeats 2000000 in
theorem rRaces_any (k : BlockR) (w : World) (B : Nat) (hR : RdB w B k) (hB : B ≤ w.heap.size) (hn : nodesS k.l ≤ 1048576) :
    Calls Tryd.prog 9 #[k.val] w (RacesPost k.l w) := by
  obtain ⟨A, c, L⟩ := k
  simp only [BlockR.l] at hn
  have HX := Lib.hid (And.intro hR (And.intro hn hn)); clear hR hn
  show Calls Tryd.prog 9 #[.slice A L.length c] w (RacesPost L w)
  by_cases hw : wrong L = 0
  rotate_left
  · have hw2 : ¬ ((wrong L : Int) = 0) := by omega
    have Hw := Lib.hid hw; clear hw
    generalize hx : wrong L = x at *
    have Hx := Lib.hid hx; clear hx
    go_enter Tryd.func9, Tryd.ntmps9
    go_wp2_with (go_at_call 7; (
      refine (program_any (.mk A c L) _ B HX.out.1 hB HX.out.2.2).mono ?_
      rintro E w2 ⟨rfl, hb2⟩
      simp only [BlockR.l]
      rw [Hx.out]
      have H2 := Lib.hid hb2; clear hb2))
    go_ret
    exact ⟨H2.out, .inl ⟨by rw [Hx.out]; exact Hw.out, by rw [Hx.out]; rfl⟩⟩
  have hA := wrong_allR hw
  have Hw := Lib.hid (And.intro hw hA); clear hw hA
  by_cases hc : CalmL L
  · have Hc := Lib.hid hc; clear hc
    go_enter Tryd.func9, Tryd.ntmps9
    go_wp2_with (first
      | (go_at_call 7; (
         refine (program_any (.mk A c L) _ B HX.out.1 hB HX.out.2.2).mono ?_
         rintro E w2 ⟨rfl, hb2⟩
         simp only [BlockR.l]
         rw [Hw.out.1]
         have H2 := Lib.hid hb2; clear hb2))
      | (go_at_call 21; (
         refine (show Calls _ _ _ _ _ from racing_any (nodesS L + 1) (.mk A c L) _ B (Nat.lt_succ_self _) (HX.out.1.under (H2.out.mono hB)) Hw.out.2 (by have := H2.out.size; omega) HX.out.2.2).mono ?_
         rintro E w3 ⟨t, rfl, ht, hb3⟩
         obtain rfl : t = false := by
           cases t with
           | false => rfl
           | true => exact absurd Hc.out (ht.1 rfl)
         have H3 := Lib.hid (H2.out.trans (hb3.mono H2.out.size)); clear hb3 ht)))
    go_ret
    exact ⟨H3.out, .inr (.inr ⟨Hw.out.1, Hc.out, rfl⟩)⟩
  · have Hc := Lib.hid hc; clear hc
    go_enter Tryd.func9, Tryd.ntmps9
    go_wp2_with (first
      | (go_at_call 7; (
         refine (program_any (.mk A c L) _ B HX.out.1 hB HX.out.2.2).mono ?_
         rintro E w2 ⟨rfl, hb2⟩
         simp only [BlockR.l]
         rw [Hw.out.1]
         have H2 := Lib.hid hb2; clear hb2))
      | (go_at_call 21; (
         refine (show Calls _ _ _ _ _ from racing_any (nodesS L + 1) (.mk A c L) _ B (Nat.lt_succ_self _) (HX.out.1.under (H2.out.mono hB)) Hw.out.2 (by have := H2.out.size; omega) HX.out.2.2).mono ?_
         rintro E w3 ⟨t, rfl, ht, hb3⟩
         obtain rfl : t = true := ht.2 Hc.out
         have H3 := Lib.hid (H2.out.trans (hb3.mono H2.out.size)); clear hb3 ht)))
    go_ret
    exact ⟨H3.out, .inr (.inl ⟨Hw.out.1, Hc.out, rfl⟩)⟩
/-- What Races, and the reference, say of a list of statements. -/
noncomputable def raceN (l : List StatR) : Nat := @ite _ (wrong l = 0) _ (@ite _ (CalmL l) (Classical.propDecidable _) 0 8) (wrong l)
theorem RacesPost.code {L : List StatR} {w w' : World} {E : Ending} (h : RacesPost L w E w') : E = .returned (.int .i64 (raceN L)) ∧ Below w.heap.size w w' := by
  obtain ⟨hb, h | h | h⟩ := h
  · exact ⟨by rw [h.2, raceN, if_neg h.1], hb⟩
  · exact ⟨by rw [h.2.2, raceN, if_pos h.1, if_neg h.2.1]; rfl, hb⟩
  · exact ⟨by rw [h.2.2, raceN, if_pos h.1, if_pos h.2.1]; rfl, hb⟩
set_option maxRecDepth 100000 in
set_option maxHeartbeats 2000000 in
theorem langWrites_law (k : BlockR) (w : World) (B : Nat) (hR : RdB w B k) (hC : CapL k.l) (hB : B ≤ w.heap.size) (hn : nodesS k.l ≤ 1048576) (hT : Tens w) :
    Calls Tryd.prog 3 #[k.val] w fun E w' => E = .returned (.bool true) ∧ Below w.heap.size w w' := by
  have hev : k.val = .slice k.A k.l.length k.c := by cases k; rfl
  have h1 := fun (W : World) (hb : Below w.heap.size w W) => write_any k W B (hR.under (hb.mono hB)) (by have := hb.size; omega) hn (hT.below hb)
  have h2 := fun (W : World) (hb : Below w.heap.size w W) => program_any k W B (hR.under (hb.mono hB)) (by have := hb.size; omega) hn
  have h3 := fun (W : World) (hb : Below w.heap.size w W) => lRaces_any k W B (hR.under (hb.mono hB)) hC (by have := hb.size; omega) hn
  have h4 := fun (W : World) (hb : Below w.heap.size w W) => rRaces_any k W B (hR.under (hb.mono hB)) (by have := hb.size; omega) hn
  have h5 := fun (hw : wrong k.l = 0) (W : World) (hb : Below w.heap.size w W) => text_any (nodesS k.l + 1) k W B (Nat.lt_succ_self _) (hR.under (hb.mono hB)) (wrong_allR hw) (by have := wrong_cnt hw; omega) (by have := hb.size; omega) (hT.below hb)
  rw [hev] at h1 h2 h3 h4 h5 ⊢
  have hsT : wrong k.l = 0 → saidT k.l = textS k.l := fun h => if_pos h
  have hsN : wrong k.l ≠ 0 → saidT k.l = [] := fun h => if_neg h
  unfold WritePost at h1
  unfold ProgPost at h2
  generalize hx : wrong k.l = x at *
  generalize hy : raceN k.l = y
  generalize hs : saidT k.l = s at *
  have hr3 : ∀ (W : World) (_ : Below w.heap.size w W), Calls Tryd.prog 8 #[.slice k.A k.l.length k.c] W (fun E w' => E = .returned (.int .i64 y) ∧ Below W.heap.size W w') := fun W hb => (h3 W hb).mono fun E w' h => by rw [← hy]; exact h.code
  have hr4 : ∀ (W : World) (_ : Below w.heap.size w W), Calls Tryd.prog 9 #[.slice k.A k.l.length k.c] W (fun E w' => E = .returned (.int .i64 y) ∧ Below W.heap.size W w') := fun W hb => (h4 W hb).mono fun E w' h => by rw [← hy]; exact h.code
  have HX := Lib.hid (And.intro h1 (And.intro h2 (And.intro hr3 (And.intro hr4 (And.intro h5 (And.intro hsT hsN)))))); clear h1 h2 h3 h4 hr3 hr4 h5 hsT hsN hR hC hT hev hx hy hs
  by_cases hw : x = 0
  · subst hw
    have h5 := HX.out.2.2.2.2.1 rfl
    rw [← HX.out.2.2.2.2.2.1 rfl] at h5
    have H5 := Lib.hid h5; clear h5
    go_enter Tryd.func3, Tryd.ntmps3
    go_wp2_with (first
      | (go_at_call 6; (
          refine (show Calls _ _ _ _ _ from HX.out.1 w (Below.refl _ _)).mono ?_
          rintro E w1 ⟨rfl, hb1⟩
          have HB1 := Lib.hid hb1; clear hb1))
      | (go_at_call 7; (
          refine (show Calls _ _ _ _ _ from HX.out.2.1 w1 HB1.out).mono ?_
          rintro E w2 ⟨rfl, hb2⟩
          have HB2 := Lib.hid (HB1.out.trans (hb2.mono HB1.out.size)); clear hb2))
      | (go_at_call 8; (
          refine (show Calls _ _ _ _ _ from HX.out.2.2.1 w2 HB2.out).mono ?_
          rintro E w3 ⟨rfl, hb3⟩
          have HB3 := Lib.hid (HB2.out.trans (hb3.mono HB2.out.size)); clear hb3))
      | (go_at_call 9; (
          refine (show Calls _ _ _ _ _ from HX.out.2.2.2.1 w3 HB3.out).mono ?_
          rintro E w4 ⟨rfl, hb4⟩
          have HB4 := Lib.hid (HB3.out.trans (hb4.mono HB3.out.size)); clear hb4))
      | (go_at_call 10; (
          refine (show Calls _ _ _ _ _ from H5.out w4 HB4.out).mono ?_
          rintro E w5 ⟨rfl, hb5⟩
          have HB5 := Lib.hid (HB4.out.trans (hb5.mono HB4.out.size)); clear hb5)))
    go_ret
    exact ⟨rfl, HB5.out⟩
  · have hw2 : ¬ ((x : Int) = 0) := by omega
    have hw3 : ((x : Int) == 0) = false := by simp; omega
    have hs := HX.out.2.2.2.2.2.2 hw
    subst hs
    have Hw := Lib.hid hw; clear hw
    go_enter Tryd.func3, Tryd.ntmps3
    go_wp2_with (first
      | (go_at_call 6; (
          refine (show Calls _ _ _ _ _ from HX.out.1 w (Below.refl _ _)).mono ?_
          rintro E w1 ⟨rfl, hb1⟩
          have HB1 := Lib.hid hb1; clear hb1))
      | (go_at_call 7; (
          refine (show Calls _ _ _ _ _ from HX.out.2.1 w1 HB1.out).mono ?_
          rintro E w2 ⟨rfl, hb2⟩
          have HB2 := Lib.hid (HB1.out.trans (hb2.mono HB1.out.size)); clear hb2))
      | (go_at_call 8; (
          refine (show Calls _ _ _ _ _ from HX.out.2.2.1 w2 HB2.out).mono ?_
          rintro E w3 ⟨rfl, hb3⟩
          have HB3 := Lib.hid (HB2.out.trans (hb3.mono HB2.out.size)); clear hb3))
      | (go_at_call 9; (
          refine (show Calls _ _ _ _ _ from HX.out.2.2.2.1 w3 HB3.out).mono ?_
          rintro E w4 ⟨rfl, hb4⟩
          have HB4 := Lib.hid (HB3.out.trans (hb4.mono HB3.out.size)); clear hb4)))
    go_ret
    exact ⟨rfl, HB4.out⟩
end Go.Proofs.YtgiceeholamphaaDoor
