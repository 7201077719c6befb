/- The contract of scan.parts. No conditions but its own domain. -/
import Derived.Test.YtnabgoljnfaebaaScL
namespace Go.Proofs.Ytnabgoljnfaebaa
open Go.ChangeShapes Go.WideShapes Go.ChangeAt Go.RowKit
/-- So many parts. -/
def kOf (n wk : Nat) : Nat := max 1 (min n wk)
def cutAt (n k j : Nat) : Nat := j * n / k
def cutRow (n k i : Nat) : List Int := (List.range (k + 1)).map fun j => if j < i then (cutAt n k j : Int) else 0
theorem cutRow_get {n k i j : Nat} (h : j < k + 1) : (cutRow n k i)[j]? = some (if j < i then (cutAt n k j : Int) else 0) := by
  simp [cutRow, h]
theorem cutRow_length (n k i : Nat) : (cutRow n k i).length = k + 1 := by simp [cutRow]
theorem cutRow_zero (n k : Nat) : cutRow n k 0 = List.replicate (k + 1) 0 := by
  apply List.ext_getElem?
  intro j
  by_cases h : j < k + 1
  · rw [cutRow_get h]; simp [List.getElem?_replicate, h]
  · simp [cutRow, List.getElem?_replicate, h]
theorem cutRow_set {n k i : Nat} (h : i < k + 1) : (cutRow n k i).set i (cutAt n k i : Int) = cutRow n k (i + 1) := by
  apply List.ext_getElem?
  intro j
  rw [List.getElem?_set]
  by_cases hj : j < k + 1
  · rw [cutRow_get hj, cutRow_get hj, cutRow_length]
    by_cases e : i = j
    · subst e; simp [h]
    · rw [if_neg e]
      by_cases h2 : j < i
      · rw [if_pos h2, if_pos (by omega)]
      · rw [if_neg h2, if_neg (by omega)]
  · have e : ¬ i = j := by omega
    simp [cutRow, e, hj]
theorem info_int3 : (Try.prog.info? 3).map (fun i => (i.zero, i.size, i.bytes)) = some (some (.int .i64 0), 1, 8) := by kernel_rfl
set_option maxRecDepth 100000 in
theorem parts_s (n wk k : Nat) (hn : n ≤ 100000) (hw : 1 ≤ wk ∧ wk ≤ 16) (hk : kOf n wk = k) (w : World) :
    Calls Try.prog 14 #[.int .i64 n, .int .i64 wk] w fun e w' => e = .returned (.slice (some ⟨w.heap.size, 0, none⟩) (k + 1) (k + 1)) ∧ Blk w' w.heap.size 3 (ints (cutRow n k (k + 1))) ∧ Below w.heap.size w w' := by
  have hk1 : 1 ≤ k ∧ k ≤ 16 := by unfold kOf at hk; omega
  have Hk := Lib.hid hk; clear hk
  have hmk := fun W => run_make_row' (P := Try.prog) 36 3 (.int .i64 0) 8 Try.underlying36 info_int3 rfl .i64 .i64 (k + 1) (by omega) (by omega) W
  have hkc : ((k + 1 : Nat) : Int) = (k : Int) + 1 := by omega
  rw [hkc] at hmk
  clear hkc
  go_enter Try.func14, Try.ntmps14
  go_upto_region 1 with (fail)
  go_cut [5] (fun s5 wc => s5 = .int .i64 k ∧ w = wc)
  case first => as_aux_lemma =>
    rcases Nat.lt_or_ge wk n with h1 | h1
    · have h2 : (wk : Int) < n := by omega
      rcases Nat.lt_or_ge 1 wk with h3 | h3
      · have h4 : (1 : Int) < wk := by omega
        go_wp2_with fail
        go_meet
        case rel => exact ⟨by have := Hk.out; unfold kOf at this; congr 1; omega, rfl⟩
      · have h4 : ¬ (1 : Int) < wk := by omega
        go_wp2_with fail
        go_meet
        case rel => exact ⟨by have := Hk.out; unfold kOf at this; congr 1; omega, rfl⟩
    · have h2 : ¬ (wk : Int) < n := by omega
      rcases Nat.lt_or_ge 1 n with h3 | h3
      · have h4 : (1 : Int) < n := by omega
        go_wp2_with fail
        go_meet
        case rel => exact ⟨by have := Hk.out; unfold kOf at this; congr 1; omega, rfl⟩
      · have h4 : ¬ (1 : Int) < n := by omega
        go_wp2_with fail
        go_meet
        case rel => exact ⟨by have := Hk.out; unfold kOf at this; congr 1; omega, rfl⟩
  case rest =>
    obtain ⟨rfl, rfl⟩ := hcut
    go_wp2
    have hb0 : Blk (w.alloc (.cells (madeCells #[.int .i64 0] (k + 1)) 3)) w.heap.size 3 (ints (cutRow n k 0)) := Blk.newArr w _ (by rw [made_one, ← ints_rep, cutRow_zero])
    have hbe0 : Below w.heap.size w (w.alloc (.cells (madeCells #[.int .i64 0] (k + 1)) 3)) := (Below.refl _ _).alloc (Nat.le_refl _) _
    have Hb0 := Lib.hid hb0; clear hb0
    have Hbe0 := Lib.hid hbe0; clear hbe0
    go_loopg [17] (k + 1) (fun gk i wr => ∃ m : Nat, gk + m = k + 1 ∧ i = .int .i64 m ∧ Below w.heap.size w wr ∧ Blk wr w.heap.size 3 (ints (cutRow n k m)))
    case atStart => exact ⟨0, by omega, rfl, Hbe0.out, Hb0.out⟩
    case round =>
      obtain ⟨m, hgk, rfl, hb, hblk⟩ := hrel
      by_cases hm : m < k + 1
      · have c0 : wr.cell? ⟨w.heap.size, m, none⟩ = some (.int .i64 0) := by
          rw [hblk.cell]
          simp [ints, cutRow_get hm]
        have f0 := hblk.frozen m
        have hset := hblk.set_ m (.int .i64 (cutAt n k m))
        rw [ints_set, cutRow_set hm] at hset
        have hmul : (m : Int) * n ≤ 1600000 := by
          have h1 : m * n ≤ 16 * 100000 := Nat.mul_le_mul (by omega) hn
          have h2 : ((m * n : Nat) : Int) = (m : Int) * n := by push_cast; rfl
          omega
        have hmul0 : (0 : Int) ≤ (m : Int) * n := Int.mul_nonneg (by omega) (by omega)
        have hq : ((m : Int) * n).tdiv k = (cutAt n k m : Nat) := by
          rw [Int.tdiv_eq_ediv_of_nonneg hmul0]
          unfold cutAt
          push_cast
          rfl
        have hq2 : cutAt n k m ≤ 1600000 := by
          unfold cutAt
          have h1 : m * n ≤ 16 * 100000 := Nat.mul_le_mul (by omega) hn
          exact Nat.le_trans (Nat.div_le_self _ _) h1
        have Hset := Lib.hid hset; clear hset
        have Hb := Lib.hid hb; clear hb
        have Hq := Lib.hid (And.intro hq (And.intro hmul (And.intro hmul0 hq2))); clear hq hmul hmul0 hq2 hblk
        go_wp2
        obtain ⟨q1, q2, q3, q4⟩ := Hq.out
        rw [w64 (n := (m : Int) * n) (by unfold I64; omega), q1, w64 (by unfold I64; omega)]
        go_roundg (gk - 1)
        case measure => omega
        case rel => exact ⟨m + 1, by omega, by go_num, Hb.out.setCell (Nat.le_refl _) _, Hset.out⟩
      · have Hb := Lib.hid hb; clear hb
        have Hblk := Lib.hid hblk; clear hblk
        go_wp2
        go_ret
        obtain rfl : m = k + 1 := by omega
        exact ⟨rfl, Hblk.out, Hb.out⟩
end Go.Proofs.Ytnabgoljnfaebaa
