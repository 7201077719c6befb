/- The contract of stepref.Meant: what lang.Mean shows. No conditions but that what is read is there, and of bounded bulk. -/
import Derived.Test.YtgiceeholamphaaRefR
import Derived.Test.YtgiceeholamphaaMean
namespace Go.Proofs.Ytgiceeholamphaa
open Go.ChangeShapes Go.WideShapes Go.ChangeAt Go.RowKit Go.Maps

theorem ow_below {w w' : World} {base : Nat} {v : Value} {n : Nat} {xs : List Value} {t : TypeId} {sz : Nat} (h : w'.ownsRow base t sz v n xs) (hb : w.heap.size ≤ base) {w2 : World} (hg : w'.grownBy w2 v.ownBlock) (h1 : Below w.heap.size w w') : Below w.heap.size w w2 :=
  h1.grown hg h1.size (fun k e => by have := (h.lt k e).1; omega)
set_option maxRecDepth 100000 in
set_option maxHeartbeats 4000000 in
theorem meant_any (k : BlockR) (w : World) (B : Nat) (A' : Option Addr) (c' : Nat) (V : List VarR) (mo : Int) (hR : RdB w B k) (hV : RdV w B A' V) (hB : B ≤ w.heap.size) (hn : nodesS k.l ≤ 1048576) (hmo : mo ≤ 9223372036854775807) :
    Calls Try.prog 6 #[k.val, .slice A' V.length c', .int .i64 mo] w (MeanPost k.l V mo w) := by
  have hbeg := begun_any k w B A' c' V hR hV hB hn
  have hfit := hV.fits
  unfold Fits at hfit
  obtain ⟨A, c, L⟩ := k
  simp only [BlockR.l] at hn hbeg
  have HX := Lib.hid (And.intro hR (And.intro hbeg hn)); clear hR hV hn hbeg
  show Calls Try.prog 6 #[.slice A L.length c, .slice A' V.length c', .int .i64 mo] w (MeanPost L V mo w)
  by_cases hw : wrong L = 0
  rotate_left
  · have hw2 : ¬ ((wrong L : Int) = 0) := by omega
    have Hw := Lib.hid hw; clear hw
    generalize hx : wrong L = x at *
    have Hx := Lib.hid hx; clear hx
    go_enter Try.func6, Try.ntmps6
    go_wp2_with (go_at_call 14; (
      refine (show Calls _ _ _ _ _ from HX.out.2.1).mono ?_
      rintro E w2 ⟨hb2, ⟨_, rfl⟩ | ⟨h0, _⟩ | ⟨h0, _⟩⟩
      rotate_left
      · exact absurd (Hx.out.symm.trans h0) Hw.out
      · exact absurd (Hx.out.symm.trans h0) Hw.out
      rw [Hx.out]
      have H2 := Lib.hid hb2; clear hb2))
    go_ret3
    exact ⟨H2.out, .inl ⟨by rw [Hx.out]; exact Hw.out, by rw [Hx.out]; rfl⟩⟩
  have hA := wrong_all hw
  have Hw := Lib.hid (And.intro hw hA); clear hw hA
  by_cases hg : goodV V
  rotate_left
  · have Hg := Lib.hid hg; clear hg
    go_enter Try.func6, Try.ntmps6
    go_wp2_with (go_at_call 14; (
      refine (show Calls _ _ _ _ _ from HX.out.2.1).mono ?_
      rintro E w2 ⟨hb2, ⟨h0, _⟩ | ⟨_, _, rfl⟩ | ⟨_, h0, _⟩⟩
      rotate_left
      rotate_left
      · exact absurd h0 Hg.out
      · exact absurd Hw.out.1 h0
      have H2 := Lib.hid hb2; clear hb2))
    go_ret3
    exact ⟨H2.out, .inr (.inl ⟨Hw.out.1, Hg.out, rfl⟩)⟩
  have Hg := Lib.hid hg; clear hg
  by_cases hm : mo < 0
  · go_enter Try.func6, Try.ntmps6
    go_wp2_with (go_at_call 14; (
      refine (show Calls _ _ _ _ _ from HX.out.2.1).mono ?_
      rintro E w2 ⟨hb2, ⟨h0, _⟩ | ⟨_, h0, _⟩ | ⟨_, _, v, rfl, hO⟩⟩
      · exact absurd Hw.out.1 h0
      · exact absurd Hg.out h0
      have H2 := Lib.hid hb2; clear hb2 hO))
    go_ret3
    exact ⟨H2.out, .inr (.inr (.inl ⟨Hw.out.1, Hg.out, hm, rfl⟩))⟩
  have h0 : 0 ≤ mo := by omega
  obtain ⟨K, rfl⟩ : ∃ K : Nat, mo = K := ⟨mo.toNat, by omega⟩
  clear hm h0
  have hNl : (begN L V).length ≤ 4194304 := by
    have h1 := begN_len L V
    have h2 := HX.out.2.2
    omega
  have hrun := fun (W : World) (v : Value) (hb : Below w.heap.size w W) (hO : W.ownsRow w.heap.size 36 2 v (begN L V).length (cellsV (varsF (begN L V) (beginF L V)))) =>
    refrun_any (nodesS L + 1) (.mk A c L) W B w.heap.size v (begN L V) (beginF L V) K (Nat.lt_succ_self _) (HX.out.1.under (hb.mono hB)) Hw.out.2 hB hb.size hO (begN_has Hw.out.2 V) (begin_dom L V) (by omega) hNl
  have HR := Lib.hid hrun; clear hrun
  cases hrs : runS L (beginF L V, K) with
  | none =>
    have Hr := Lib.hid hrs; clear hrs
    go_enter Try.func6, Try.ntmps6
    go_wp2_with (first
      | (go_at_call 14; (
          refine (show Calls _ _ _ _ _ from HX.out.2.1).mono ?_
          rintro E w2 ⟨hb2, ⟨h0, _⟩ | ⟨_, h0, _⟩ | ⟨_, _, v, rfl, hO⟩⟩
          · exact absurd Hw.out.1 h0
          · exact absurd Hg.out h0
          have H2 := Lib.hid (And.intro hb2 hO); clear hb2 hO))
      | (go_at_call 15; (
          refine (show Calls _ _ _ _ _ from HR.out w2 v H2.out.1 H2.out.2).mono ?_
          rintro E w3 ⟨r, rfl, hg3, hs3⟩
          have hs3 : Stt w3 w.heap.size v (begN L V) r (runS L (beginF L V, K)) := hs3
          rw [Hr.out] at hs3
          have hr0 : r < 0 := hs3
          have H3 := Lib.hid (ow_below H2.out.2 (Nat.le_refl _) hg3 H2.out.1); clear hg3 hs3)))
    go_ret3
    exact ⟨H3.out, .inr (.inr (.inr (.inl ⟨Hw.out.1, Hg.out, by omega, by rw [Int.toNat_natCast]; exact Hr.out, rfl⟩)))⟩
  | some s =>
    have Hr := Lib.hid hrs; clear hrs
    have hdn := AllS.down (begin_dom L V) Hr.out
    have hle : s.2 ≤ K := hdn.le
    have Hd := Lib.hid hdn; clear hdn
    go_enter Try.func6, Try.ntmps6
    go_wp2_with (first
      | (go_at_call 14; (
          refine (show Calls _ _ _ _ _ from HX.out.2.1).mono ?_
          rintro E w2 ⟨hb2, ⟨h0, _⟩ | ⟨_, h0, _⟩ | ⟨_, _, v, rfl, hO⟩⟩
          · exact absurd Hw.out.1 h0
          · exact absurd Hg.out h0
          have H2 := Lib.hid (And.intro hb2 hO); clear hb2 hO))
      | (go_at_call 15; (
          refine (show Calls _ _ _ _ _ from HR.out w2 v H2.out.1 H2.out.2).mono ?_
          rintro E w3 ⟨r, rfl, hg3, hs3⟩
          have hs3 : Stt w3 w.heap.size v (begN L V) r (runS L (beginF L V, K)) := hs3
          rw [Hr.out] at hs3
          obtain ⟨rfl, hO3⟩ := hs3
          have H3 := Lib.hid (And.intro (ow_below H2.out.2 (Nat.le_refl _) hg3 H2.out.1) hO3); clear hg3 hO3)))
    go_ret3
    obtain ⟨A9, c9, hv, hrow⟩ := own_rowV H3.out.2
    exact ⟨H3.out.1, .inr (.inr (.inr (.inr ⟨Hw.out.1, Hg.out, by omega, s, A9, c9, varsF (begN L V) s.1, by rw [Int.toNat_natCast]; exact Hr.out, by rw [← hv]; rfl, isVars_varsF (begN_sorted L V) ((begN_has Hw.out.2 V).dom Hd.out.dom), hrow⟩)))⟩
end Go.Proofs.Ytgiceeholamphaa
