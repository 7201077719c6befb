/- The contract of lang.Write. No conditions but that what is read is there, that it can be counted, and that the table of powers of ten is as it was laid. -/
import Derived.Test.YtgiceeholamphaaDoorWrS
import Derived.Test.YtgiceeholamphaaDoorRaces
namespace Go.Proofs.YtgiceeholamphaaDoor
open Go.ChangeShapes Go.WideShapes Go.ChangeAt Go.RowKit Go.Maps

theorem wrong_cnt {l : List StatR} (h : wrong l = 0) : cntS l ≤ 1000 := by
  unfold wrong at h
  rw [if_pos (wrong_allR (by unfold wrong; exact h))] at h
  split at h
  · cases h
  · omega
/-- What Write, and the reference, say of a list of statements. -/
noncomputable def saidT (l : List StatR) : List UInt8 := if wrong l = 0 then textS l else []
def WritePost (L : List StatR) (w : World) (E : Ending) (w' : World) : Prop := E = .returned (.tuple #[.string ⟨(saidT L).toArray⟩, .int .i64 (wrong L)]) ∧ Below w.heap.size w w'
theorem textS_nil {l : List StatR} (h : textS l = []) : l = [] := by
  cases l with
  | nil => rfl
  | cons x l =>
    exfalso
    obtain ⟨k, s, e, n, A, c, bl⟩ := x
    simp only [textS, StatR.txt, headT] at h
    split at h <;> (try split at h) <;> (try split at h) <;> (try split at h) <;> simp at h
set_option maxRecDepth 100000 in
theorem block_nil (b : Nat) (A : Option Addr) (c : Nat) (w : World) : Calls Tryd.prog 15 #[.pointer (some ⟨b, 0, none⟩), .slice A 0 c] w fun E w' => E = .returned (.tuple #[]) ∧ w = w' := by
  go_enter Tryd.func15, Tryd.ntmps15
  go_wp2_with fail
  go_loopg [8] 0 (fun gk i wr => gk = 0 ∧ i = .int .i64 0 ∧ w = wr)
  case atStart => exact ⟨rfl, rfl, rfl⟩
  case round =>
    obtain ⟨rfl, rfl, rfl⟩ := hrel
    go_wp2_with fail
    go_end0
    exact ⟨rfl, rfl⟩
theorem fresh_w8 (w W : World) (B : Nat) (hB : B ≤ w.heap.size) (h : Blk W w.heap.size 41 [.pointer none, .slice none 0 0]) : W8 B w.heap.size [] W :=
  .inl ⟨hB, .slice none 0 0, h, World.ownsRowF_nil _ _ _ _, by simp [Value.ownBlock]⟩
set_option maxRecDepth 100000 in
set_option maxHeartbeats 2000000 in
theorem write_any (k : BlockR) (w : World) (B : Nat) (hR : RdB w B k) (hB : B ≤ w.heap.size) (hn : nodesS k.l ≤ 1048576) (hT : Tens w) :
    Calls Tryd.prog 6 #[k.val] w (WritePost k.l w) := by
  obtain ⟨A, c, L⟩ := k
  simp only [BlockR.l] at hn
  have HX := Lib.hid (And.intro hR (And.intro hn hT)); clear hR hn hT
  show Calls Tryd.prog 6 #[.slice A L.length c] w (WritePost L w)
  by_cases hw : wrong L = 0
  rotate_left
  · have hw2 : ¬ ((wrong L : Int) = 0) := by omega
    have hs : saidT L = [] := if_neg hw
    have Hw := Lib.hid (And.intro hw hs); clear hw hs
    generalize hx : wrong L = x at *
    have Hx := Lib.hid hx; clear hx
    go_enter Tryd.func6, Tryd.ntmps6
    go_wp2_with (go_at_call 14; (
      refine (check_any (.mk A c L) _ B HX.out.1 hB HX.out.2.1).mono ?_
      rintro E w2 ⟨rfl, hb2⟩
      simp only [BlockR.l]
      rw [Hx.out]
      have H2 := Lib.hid hb2; clear hb2))
    go_ret2
    exact ⟨by rw [Hw.out.2, Hx.out]; rfl, H2.out⟩
  have hA := wrong_allR hw
  have hcn := wrong_cnt hw
  have hs : saidT L = textS L := if_pos hw
  have Hw := Lib.hid (And.intro hw (And.intro hA hs)); clear hw hA hs
  go_enter Tryd.func6, Tryd.ntmps6
  go_upto_region 5 with (go_at_call 14; (
      refine (check_any (.mk A c L) _ B HX.out.1 hB HX.out.2.1).mono ?_
      rintro E w2 ⟨rfl, hb2⟩
      simp only [BlockR.l]
      rw [Hw.out.1]
      have H2 := Lib.hid hb2; clear hb2))
  generalize hW3 : w2.alloc (.cells #[.pointer none, .slice none 0 0] 41) = W3
  obtain ⟨a1, a2, a3⟩ := box_facts2 (c := [.pointer none, .slice none 0 0]) hW3
  clear hW3
  have hz2 := H2.out.size
  have hb23 : Below w.heap.size w W3 := H2.out.trans (a1.mono hz2)
  by_cases h0 : L = []
  · subst h0
    have HA := Lib.hid (And.intro a3 hb23); clear a3 hb23 a1
    generalize hn : w2.heap.size = n0 at *
    go_wp2_with (first
      | (go_at_call 15; (
          refine (show Calls _ _ _ _ _ from block_nil n0 A c W3).mono ?_
          rintro E w4 ⟨rfl, rfl⟩))
      | (go_at_call 16; (
          refine (show Calls _ _ _ _ _ from string_nil n0 W3 HA.out.1).mono ?_
          rintro E w5 ⟨rfl, rfl⟩)))
    go_ret2
    exact ⟨by rw [Hw.out.2.2, Hw.out.1]; rfl, HA.out.2.drew⟩
  · have hw8 := fresh_w8 w2 W3 w2.heap.size (Nat.le_refl _) a3
    have hne : textS L ≠ [] := fun h => h0 (textS_nil h)
    have hc := blockW_any (nodesS L + 1) (.mk A c L) (Nat.lt_succ_self _) W3 w2.heap.size w2.heap.size [] ((HX.out.1.under (hb23.mono hB)).more (by omega)) Hw.out.2.1 hw8 (by simp only [BlockR.l, List.length_nil]; omega) (by omega) (Lib.tabBelow_of_tabIs (HX.out.2.2.below H2.out) |>.on a1)
    have HA := Lib.hid (And.intro hc (And.intro hb23 hne)); clear hc hb23 hne a1 a3 hw8 h0
    generalize hn : w2.heap.size = n0 at *
    go_wp2_with (first
      | (go_at_call 15; (
          refine (show Calls _ _ _ _ _ from HA.out.1).mono ?_
          rintro E w4 ⟨rfl, hw4, hk4⟩
          have hs4 := string_any n0 n0 (textS L) w4 hw4 HA.out.2.2
          have H4 := Lib.hid (And.intro hs4 hk4); clear hs4 hk4 hw4))
      | (go_at_call 16; (
          refine (show Calls _ _ _ _ _ from H4.out.1).mono ?_
          rintro E w5 ⟨rfl, hb5⟩
          have H5 := Lib.hid hb5; clear hb5)))
    go_ret2
    exact ⟨by rw [Hw.out.2.2, Hw.out.1]; rfl, HA.out.2.1.trans ((H4.out.2.below.trans H5.out).mono hz2)⟩
end Go.Proofs.YtgiceeholamphaaDoor
