/- The contract of lang.Mean. No conditions but that what is read is there, is of bounded bulk, and has its room. -/
import Derived.Test.YtgiceeholamphaaVars
import Derived.Test.YtgiceeholamphaaDoer
import Derived.Test.YtgiceeholamphaaChk
import Derived.OwnWalk
namespace Go.Proofs.Ytgiceeholamphaa
open Go.ChangeShapes Go.WideShapes Go.ChangeAt Go.RowKit Go.Maps

def MeanPost (L : List StatR) (V : List VarR) (mo : Int) (w : World) (E : Ending) (w' : World) : Prop := Below w.heap.size w w' ∧
  ((wrong L ≠ 0 ∧ E = .returned (.tuple #[.slice none 0 0, .int .i64 0, .int .i64 (wrong L)])) ∨
   (wrong L = 0 ∧ ¬ goodV V ∧ E = .returned (.tuple #[.slice none 0 0, .int .i64 0, .int .i64 7])) ∨
   (wrong L = 0 ∧ goodV V ∧ mo < 0 ∧ E = .returned (.tuple #[.slice none 0 0, .int .i64 0, .int .i64 1])) ∨
   (wrong L = 0 ∧ goodV V ∧ 0 ≤ mo ∧ runS L (beginF L V, mo.toNat) = none ∧ E = .returned (.tuple #[.slice none 0 0, .int .i64 0, .int .i64 2])) ∨
   (wrong L = 0 ∧ goodV V ∧ 0 ≤ mo ∧ ∃ (s : St) (A : Option Addr) (c : Nat) (Vs : List VarR), runS L (beginF L V, mo.toNat) = some s ∧ E = .returned (.tuple #[.slice A Vs.length c, .int .i64 (mo - s.2), .int .i64 0]) ∧ IsVars s.1 Vs ∧ RowV w' w'.heap.size A Vs))
theorem wrong_all {l : List StatR} (h : wrong l = 0) : AllL l := by
  unfold wrong at h
  split at h
  · assumption
  · cases h
theorem begin_dom (l : List StatR) (V : List VarR) : Dom (beginF l V) (wrS l) := fun s hs => by
  unfold beginF fillF
  split
  · assumption
  · rw [if_pos]
    · rfl
    · simp only [wrS, allNames, List.mem_append] at hs ⊢
      exact .inl hs
set_option maxRecDepth 100000 in
set_option maxHeartbeats 4000000 in
theorem mean_any (k : BlockR) (w : World) (B : Nat) (A' : Option Addr) (c' : Nat) (V : List VarR) (mo : Int) (hR : RdB w B k) (hC : CapL k.l) (hV : RdV w B A' V) (hB : B ≤ w.heap.size) (hn : nodesS k.l ≤ 1048576) (hmo : mo ≤ 9223372036854775807) :
    Calls Try.prog 5 #[k.val, .slice A' V.length c', .int .i64 mo] w (MeanPost k.l V mo w) := by
  obtain ⟨A, c, L⟩ := k
  simp only [BlockR.l] at hC hn
  have HX := Lib.hid (And.intro hR (And.intro hC (And.intro hV hn))); clear hR hC hV hn
  show Calls Try.prog 5 #[.slice A L.length c, .slice A' V.length c', .int .i64 mo] w (MeanPost L V mo w)
  by_cases hw : wrong L = 0
  rotate_left
  · have hw2 : ¬ ((wrong L : Int) = 0) := by omega
    have Hw := Lib.hid hw; clear hw
    generalize hx : wrong L = x at *
    have Hx := Lib.hid hx; clear hx
    go_enter Try.func5, Try.ntmps5
    go_wp2_with (go_at_call 10; (
      refine (check_any (.mk A c L) _ B HX.out.1 hB HX.out.2.2.2).mono ?_
      rintro E w2 ⟨rfl, hb2⟩
      simp only [BlockR.l]
      rw [Hx.out]
      have H2 := Lib.hid hb2; clear hb2))
    go_ret3
    exact ⟨H2.out, .inl ⟨by rw [Hx.out]; exact Hw.out, by rw [Hx.out]; rfl⟩⟩
  have hA := wrong_all hw
  have Hw := Lib.hid (And.intro hw hA); clear hw hA
  by_cases hg : goodV V
  rotate_left
  · have Hg := Lib.hid hg; clear hg
    go_enter Try.func5, Try.ntmps5
    go_wp2_with (first
      | (go_at_call 10; (
         refine (check_any (.mk A c L) _ B HX.out.1 hB HX.out.2.2.2).mono ?_
         rintro E w2 ⟨rfl, hb2⟩
         simp only [BlockR.l]
         rw [Hw.out.1]
         have H2 := Lib.hid hb2; clear hb2))
      | (go_at_call 11; (
         refine (begin_any (.mk A c L) _ B A' c' V (HX.out.1.under (H2.out.mono hB)) Hw.out.2 (HX.out.2.2.1.keep fun p hp => H2.out.cell (Nat.lt_of_lt_of_le hp hB)) (by have := H2.out.size; omega) HX.out.2.2.2).mono ?_
         rintro E w3 ⟨hb3, ⟨_, rfl⟩ | ⟨hg, _⟩⟩
         rotate_left
         · exact absurd hg Hg.out
         have H3 := Lib.hid (H2.out.trans (hb3.mono H2.out.size)); clear hb3)))
    go_ret3
    exact ⟨H3.out, .inr (.inl ⟨Hw.out.1, Hg.out, rfl⟩)⟩
  have Hg := Lib.hid hg; clear hg
  by_cases hm : mo < 0
  · go_enter Try.func5, Try.ntmps5
    go_wp2_with (first
      | (go_at_call 10; (
         refine (check_any (.mk A c L) _ B HX.out.1 hB HX.out.2.2.2).mono ?_
         rintro E w2 ⟨rfl, hb2⟩
         simp only [BlockR.l]
         rw [Hw.out.1]
         have H2 := Lib.hid hb2; clear hb2))
      | (go_at_call 11; (
         refine (begin_any (.mk A c L) _ B A' c' V (HX.out.1.under (H2.out.mono hB)) Hw.out.2 (HX.out.2.2.1.keep fun p hp => H2.out.cell (Nat.lt_of_lt_of_le hp hB)) (by have := H2.out.size; omega) HX.out.2.2.2).mono ?_
         rintro E w3 ⟨hb3, ⟨hg, _⟩ | ⟨_, bm, N, rfl, hbm, hN, hM⟩⟩
         · exact absurd Hg.out hg
         have H3 := Lib.hid (H2.out.trans (hb3.mono H2.out.size)); clear hb3 hM)))
    go_ret3
    exact ⟨H3.out, .inr (.inr (.inl ⟨Hw.out.1, Hg.out, hm, rfl⟩))⟩
  have h0 : 0 ≤ mo := by omega
  obtain ⟨K, rfl⟩ : ∃ K : Nat, mo = K := ⟨mo.toNat, by omega⟩
  clear hm h0
  cases hrs : runS L (beginF L V, K) with
  | none =>
    have Hr := Lib.hid hrs; clear hrs
    go_enter Try.func5, Try.ntmps5
    go_wp2_with (first
      | (go_at_call 10; (
         refine (check_any (.mk A c L) _ B HX.out.1 hB HX.out.2.2.2).mono ?_
         rintro E w2 ⟨rfl, hb2⟩
         simp only [BlockR.l]
         rw [Hw.out.1]
         have H2 := Lib.hid hb2; clear hb2))
      | (go_at_call 11; (
         refine (begin_any (.mk A c L) _ B A' c' V (HX.out.1.under (H2.out.mono hB)) Hw.out.2 (HX.out.2.2.1.keep fun p hp => H2.out.cell (Nat.lt_of_lt_of_le hp hB)) (by have := H2.out.size; omega) HX.out.2.2.2).mono ?_
         rintro E w3 ⟨hb3, ⟨hg, _⟩ | ⟨_, bm, N, rfl, hbm, hN, hM⟩⟩
         · exact absurd Hg.out hg
         have hbl := hM.lt
         have hz3 := H2.out.size
         have hb4 := H2.out.trans (hb3.mono H2.out.size)
         have hz4 := hb4.size
         have H3 := Lib.hid (And.intro hb4 hM); clear hb3 hM hb4))
      | (go_at_call 12; (
         refine (show Calls _ _ _ _ _ from dblock_any (nodesS L + 1) (.mk A c L) _ B w3.heap.size bm N K (beginF L V, K) (Nat.lt_succ_self _) (HX.out.1.under ((H3.out.1.alloc H3.out.1.size (.cells #[.map (some bm), .int .i64 0, .int .i64 K] 45)).mono hB)) Hw.out.2 HX.out.2.1 (by omega) (by omega) (by omega) (by
           have h := Blk.new w3 45 [.map (some bm), .int .i64 0, .int .i64 K]
           rw [show (K : Int) - ((beginF L V, K) : St).2 = 0 by simp]
           exact h) (H3.out.2.alloc _) (by unfold maxLen; omega) (begin_dom L V) (Int.le_refl _) hmo).mono ?_
         rintro E w5 ⟨bb, rfl, hk5, hr5⟩
         have hr5 : Ran w5 w3.heap.size bm N K bb (runS L (beginF L V, K)) := hr5
         rw [Hr.out] at hr5
         have hb5 : Below w.heap.size w w5 := (H3.out.1.alloc H3.out.1.size (.cells #[.map (some bm), .int .i64 0, .int .i64 K] 45)).trans (hk5.below (by simp; omega) (fun b hb => by simp at hb; omega))
         obtain rfl : bb = false := hr5
         have H5 := Lib.hid hb5; clear hb5 hk5)))
    go_ret3
    exact ⟨H5.out, .inr (.inr (.inr (.inl ⟨Hw.out.1, Hg.out, by omega, by rw [Int.toNat_natCast]; exact Hr.out, rfl⟩)))⟩
  | some s =>
    have Hr := Lib.hid hrs; clear hrs
    go_enter Try.func5, Try.ntmps5
    go_wp2_with (first
      | (go_at_call 10; (
         refine (check_any (.mk A c L) _ B HX.out.1 hB HX.out.2.2.2).mono ?_
         rintro E w2 ⟨rfl, hb2⟩
         simp only [BlockR.l]
         rw [Hw.out.1]
         have H2 := Lib.hid hb2; clear hb2))
      | (go_at_call 11; (
         refine (begin_any (.mk A c L) _ B A' c' V (HX.out.1.under (H2.out.mono hB)) Hw.out.2 (HX.out.2.2.1.keep fun p hp => H2.out.cell (Nat.lt_of_lt_of_le hp hB)) (by have := H2.out.size; omega) HX.out.2.2.2).mono ?_
         rintro E w3 ⟨hb3, ⟨hg, _⟩ | ⟨_, bm, N, rfl, hbm, hN, hM⟩⟩
         · exact absurd Hg.out hg
         have hbl := hM.lt
         have hz3 := H2.out.size
         have hb4 := H2.out.trans (hb3.mono H2.out.size)
         have hz4 := hb4.size
         have H3 := Lib.hid (And.intro hb4 hM); clear hb3 hM hb4))
      | (go_at_call 12; (
         refine (show Calls _ _ _ _ _ from dblock_any (nodesS L + 1) (.mk A c L) _ B w3.heap.size bm N K (beginF L V, K) (Nat.lt_succ_self _) (HX.out.1.under ((H3.out.1.alloc H3.out.1.size (.cells #[.map (some bm), .int .i64 0, .int .i64 K] 45)).mono hB)) Hw.out.2 HX.out.2.1 (by omega) (by omega) (by omega) (by
           have h := Blk.new w3 45 [.map (some bm), .int .i64 0, .int .i64 K]
           rw [show (K : Int) - ((beginF L V, K) : St).2 = 0 by simp]
           exact h) (H3.out.2.alloc _) (by unfold maxLen; omega) (begin_dom L V) (Int.le_refl _) hmo).mono ?_
         rintro E w5 ⟨bb, rfl, hk5, hr5⟩
         have hr5 : Ran w5 w3.heap.size bm N K bb (runS L (beginF L V, K)) := hr5
         rw [Hr.out] at hr5
         have hb5 : Below w.heap.size w w5 := (H3.out.1.alloc H3.out.1.size (.cells #[.map (some bm), .int .i64 0, .int .i64 K] 45)).trans (hk5.below (by simp; omega) (fun b hb => by simp at hb; omega))
         obtain ⟨rfl, hd5, hm5⟩ := hr5
         have e0 := hd5.cell 0
         have e1 := hd5.cell 1
         simp at e0 e1
         have hz5 := hb5.size
         have hvs := vars_any w5.drew bm N s.1 hm5.drew (by omega)
         have HV := Lib.hid (And.intro hvs hd5); clear hvs hd5 hm5
         have H5 := Lib.hid hb5; clear hb5 hk5)))
    go_region_held3 (fun w' => w'.cell? ⟨w3.heap.size, 0, none⟩ = some (.map (some bm)) ∧ w'.cell? ⟨w3.heap.size, 1, none⟩ = some (.int .i64 (K - s.2))) (go_keep) ((go_at_call 13; (
      refine (show Calls _ _ _ _ _ from HV.out.1).mono ?_
      rintro E w6 ⟨A6, c6, Vs, rfl, hiv, hlen, hrow, hb6⟩
      have g0 : w6.cell? ⟨w3.heap.size, 0, none⟩ = some (.map (some bm)) := (hb6.cell (p := ⟨w3.heap.size, 0, none⟩) HV.out.2.lt).trans e0
      have g1 : w6.cell? ⟨w3.heap.size, 1, none⟩ = some (.int .i64 (K - s.2)) := (hb6.cell (p := ⟨w3.heap.size, 1, none⟩) HV.out.2.lt).trans e1
      have H6 := Lib.hid (And.intro hiv (And.intro hrow (H5.out.drew.trans (hb6.mono hz5)))); clear hiv hrow hb6)))
    go_wp2_with fail
    go_ret3
    exact ⟨H6.out.2.2, .inr (.inr (.inr (.inr ⟨Hw.out.1, Hg.out, by omega, s, A6, c6, Vs, by rw [Int.toNat_natCast]; exact Hr.out, rfl, H6.out.1, H6.out.2.1⟩)))⟩
end Go.Proofs.Ytgiceeholamphaa
