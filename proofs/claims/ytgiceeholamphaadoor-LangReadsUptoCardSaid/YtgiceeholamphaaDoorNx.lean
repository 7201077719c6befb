/- stepref's parser: its next token (made by mknx.py). No conditions but that the parser is one, and the text's length. -/
import Derived.Test.YtgiceeholamphaaDoorRdr
import Derived.Deep.DeepCutAuto
import Derived.Deep.CutBlock
namespace Go.Proofs.YtgiceeholamphaaDoor
open Go.ChangeShapes Go.WideShapes Go.ChangeAt Go.RowKit Go.Maps

theorem nx1_any (c : UInt8) (w : World) : Calls Tryd.prog 48 #[.int .u8 (c.toNat : Int)] w fun E w' => E = .returned (.bool (small c)) ∧ w = w' := by
  have h1 : (small c = true) ↔ 97 ≤ c.toNat ∧ c.toNat ≤ 122 := by simp [small, UInt8.le_iff_toNat_le]
  by_cases ha : 97 ≤ c.toNat
  · by_cases hb : c.toNat ≤ 122
    · have hs := h1.2 ⟨ha, hb⟩
      rw [hs]
      have e1 : decide ((97 : Int) ≤ (c.toNat : Int)) = true := by simp; omega
      have e2 : decide ((c.toNat : Int) ≤ 122) = true := by simp; omega
      clear h1 hs ha hb
      go_enter Tryd.func48, Tryd.ntmps48
      go_wp2_with fail
      go_ret
      exact ⟨rfl, rfl⟩
    · have hs : small c = false := by cases h : small c with | false => rfl | true => exact absurd (h1.1 h).2 hb
      rw [hs]
      have e1 : decide ((97 : Int) ≤ (c.toNat : Int)) = true := by simp; omega
      have e2 : decide ((c.toNat : Int) ≤ 122) = false := by simp; omega
      clear h1 hs ha hb
      go_enter Tryd.func48, Tryd.ntmps48
      go_wp2_with fail
      go_ret
      exact ⟨rfl, rfl⟩
  · have hs : small c = false := by cases h : small c with | false => rfl | true => exact absurd (h1.1 h).1 ha
    rw [hs]
    have e1 : decide ((97 : Int) ≤ (c.toNat : Int)) = false := by simp; omega
    clear h1 hs ha
    go_enter Tryd.func48, Tryd.ntmps48
    go_wp2_with fail
    go_ret
    exact ⟨rfl, rfl⟩
theorem nx2_any (c : UInt8) (w : World) : Calls Tryd.prog 49 #[.int .u8 (c.toNat : Int)] w fun E w' => E = .returned (.bool (dig c)) ∧ w = w' := by
  have h1 : (dig c = true) ↔ 48 ≤ c.toNat ∧ c.toNat ≤ 57 := by simp [dig, UInt8.le_iff_toNat_le]
  by_cases ha : 48 ≤ c.toNat
  · by_cases hb : c.toNat ≤ 57
    · have hs := h1.2 ⟨ha, hb⟩
      rw [hs]
      have e1 : decide ((48 : Int) ≤ (c.toNat : Int)) = true := by simp; omega
      have e2 : decide ((c.toNat : Int) ≤ 57) = true := by simp; omega
      clear h1 hs ha hb
      go_enter Tryd.func49, Tryd.ntmps49
      go_wp2_with fail
      go_ret
      exact ⟨rfl, rfl⟩
    · have hs : dig c = false := by cases h : dig c with | false => rfl | true => exact absurd (h1.1 h).2 hb
      rw [hs]
      have e1 : decide ((48 : Int) ≤ (c.toNat : Int)) = true := by simp; omega
      have e2 : decide ((c.toNat : Int) ≤ 57) = false := by simp; omega
      clear h1 hs ha hb
      go_enter Tryd.func49, Tryd.ntmps49
      go_wp2_with fail
      go_ret
      exact ⟨rfl, rfl⟩
  · have hs : dig c = false := by cases h : dig c with | false => rfl | true => exact absurd (h1.1 h).1 ha
    rw [hs]
    have e1 : decide ((48 : Int) ≤ (c.toNat : Int)) = false := by simp; omega
    clear h1 hs ha
    go_enter Tryd.func49, Tryd.ntmps49
    go_wp2_with fail
    go_ret
    exact ⟨rfl, rfl⟩

def tokAt (s : ByteArray) (a : Nat) : Tok := hd (toksAt (s.data.toList.drop a) a)
theorem tokAt_end (s : ByteArray) : tokAt s s.size = ([], s.size) := by unfold tokAt; rw [List.drop_of_length_le (by simp), toksAt_nil]; rfl
theorem tokAt_blank {s : ByteArray} {q : Nat} (h : q < s.size) (hb : blank s[q] = true) : tokAt s q = tokAt s (q + 1) := by unfold tokAt; rw [drop_at s h, toksAt_blank hb]
theorem tokAt_tok {s : ByteArray} {q n : Nat} (hq : q < s.size) (hb : blank s[q] = false) (hn : n = tokLen s[q] (s.data.toList.drop (q + 1))) : tokAt s q = ((s.extract q (q + n)).data.toList, q) ∧ 1 ≤ n ∧ q + n ≤ s.size := by
  have h1 := tokLen_pos s[q] (s.data.toList.drop (q + 1))
  have h2 := tokLen_le s[q] (s.data.toList.drop (q + 1))
  simp only [List.length_drop, Array.length_toList, ByteArray.size_data] at h2
  rw [← hn] at h1 h2
  refine ⟨?_, h1, by omega⟩
  have e1 : (s.extract q (q + n)).data.toList = s[q] :: (s.data.toList.drop (q + 1)).take (n - 1) := by
    rw [extract_at, drop_at s hq, show q + n - q = (n - 1) + 1 by omega, List.take_succ_cons]
  unfold tokAt
  rw [drop_at s hq, toksAt_tok hb, ← hn, e1]
  rfl
set_option maxRecDepth 100000 in
set_option maxHeartbeats 8000000 in
theorem next_any (w : World) (g : Nat) (s : ByteArray) (a : Nat) (b : Bool) (hb : Blk w g 67 [.string s, .int .i64 (a : Int), .bool b]) (ha : a ≤ s.size) (hs : s.size ≤ 1048576) :
    Calls Tryd.prog 29 #[.pointer (some ⟨g, 0, none⟩)] w fun E w' => E = .returned (.tuple #[.string ⟨(tokAt s a).1.toArray⟩, .int .i64 ((tokAt s a).2 : Int)]) ∧ w = w' := by
  have c0 := hb.cell 0
  have c1 := hb.cell 1
  simp only [List.getElem?_cons_zero, List.getElem?_cons_succ] at c0 c1
  clear hb
  have hS := Lib.hid hs; clear hs
  go_enter Tryd.func29, Tryd.ntmps29
  go_wp2_with fail
  go_loopg [4] (s.size - a) (fun gk i wr => ∃ q : Nat, gk = s.size - q ∧ i = .int .i64 (q : Int) ∧ tokAt s a = tokAt s q ∧ q ≤ s.size ∧ w = wr)
  case atStart => exact ⟨a, rfl, rfl, rfl, ha, rfl⟩
  case round =>
    obtain ⟨q, hgq, rfl, htk, hq, rfl⟩ := hrel
    have hS' := hS.out
    by_cases hql : q < s.size
    · have hqi : (q : Int) < (s.size : Int) := by omega
      cases hbl : blank s[q] with
      | true =>
        have hn : tokAt s a = tokAt s (q + 1) := by rw [htk, tokAt_blank hql hbl]
        have HN := Lib.hid hn; clear hn htk
        by_cases h32 : s[q] = 32
        · have e1 : (((s[q]).toNat : Int) == 32) = true := by rw [h32]; rfl
          have HX := Lib.hid hbl; clear hbl h32
          go_wp2_with fail
          go_roundg (s.size - (q + 1))
          case measure => omega
          case rel => exact ⟨q + 1, rfl, by go_num, HN.out, by omega, rfl⟩
        · have h10 : s[q] = 10 := by simpa [blank, h32] using hbl
          have e1 : (((s[q]).toNat : Int) == 32) = false := by rw [h10]; rfl
          have e2 : (((s[q]).toNat : Int) == 10) = true := by rw [h10]; rfl
          have HX := Lib.hid hbl; clear hbl h32 h10
          go_wp2_with fail
          go_roundg (s.size - (q + 1))
          case measure => omega
          case rel => exact ⟨q + 1, rfl, by go_num, HN.out, by omega, rfl⟩
      | false =>
        have hne : ¬ (s[q] = 32) ∧ ¬ (s[q] = 10) := by simpa [blank] using hbl
        have e1 : (((s[q]).toNat : Int) == 32) = false := by
          have : (s[q]).toNat ≠ 32 := fun e => hne.1 (UInt8.toNat_inj.1 e)
          rw [beq_eq_false_iff_ne]; omega
        have e2 : (((s[q]).toNat : Int) == 10) = false := by
          have : (s[q]).toNat ≠ 10 := fun e => hne.2 (UInt8.toNat_inj.1 e)
          rw [beq_eq_false_iff_ne]; omega
        have e3 : ((q : Int) == (s.size : Int)) = false := by rw [beq_eq_false_iff_ne]; omega
        have hst := fun n hn => tokAt_tok (n := n) hql hbl hn
        have HB := Lib.hid (And.intro hbl (And.intro hst htk)); clear hbl hst hne htk
        have HH := Lib.hid (And.intro hq (And.intro hq (And.intro hq (And.intro hq hql)))); clear hq
        go_upto_block 2 with (fail)
        go_cut [5] (fun k wc => (∃ e : Nat, k = .int .i64 (e : Int) ∧ q + tokLen s[q] (s.data.toList.drop (q + 1)) = e) ∧ w = wc)
        case first => as_aux_lemma =>
          cases hsm : small s[q] with
          | true =>
            have ht : tokLen s[q] (s.data.toList.drop (q + 1)) = runOf small (s.data.toList.drop q) := by unfold tokLen; rw [run_step small HH.out.2.2.2.2, if_pos (show small s[q] = true from hsm), if_pos hsm, Nat.add_comm]
            go_wp2_with (go_at_call 48; (
              refine (nx1_any (s[q]) _).mono ?_
              rintro E w2 ⟨rfl, rfl⟩
              rw [hsm]))
            go_loopg [5] s.size (fun gm k wm => ∃ m : Nat, gm + m = s.size ∧ k = .int .i64 ((q + m : Nat) : Int) ∧ runOf small (s.data.toList.drop q) = m + runOf small (s.data.toList.drop (q + m)) ∧ q + m ≤ s.size ∧ w = wm)
            case atStart => exact ⟨0, by omega, by go_num, by simp, by have := HH.out.2.2.2.2; omega, rfl⟩
            case round =>
              obtain ⟨m, hgm, rfl, hrm, hle, rfl⟩ := hrel
              by_cases hj : q + m < s.size
              · have hj' : ((q + m : Nat) : Int) < (s.size : Int) := by omega
                have hr1 := run_step small hj
                obtain ⟨j, hjj⟩ : ∃ j, q + m = j := ⟨_, rfl⟩
                rw [hjj] at hj' hrm
                simp only [hjj] at hr1
                have hj2 : j < s.size := by omega
                cases hsj : small s[j] with
                | true =>
                  rw [if_pos hsj] at hr1
                  have HM := Lib.hid (And.intro hrm (And.intro hr1 (And.intro hgm hjj))); clear hrm hr1 hgm
                  go_wp2_with (go_at_call 48; (
                    refine (nx1_any (s[j]) _).mono ?_
                    rintro E w2 ⟨rfl, rfl⟩
                    rw [hsj]))
                  go_roundg (gk - 1)
                  case measure => have := HM.out.2.2; omega
                  case rel =>
                    obtain ⟨h1, h2, h3, h4⟩ := HM.out
                    refine ⟨m + 1, by omega, by go_num, ?_, by omega, rfl⟩
                    rw [h1, h2, show q + (m + 1) = j + 1 by omega]; omega
                | false =>
                  rw [if_neg (by rw [hsj]; decide)] at hr1
                  have HM := Lib.hid (And.intro hrm (And.intro hr1 (And.intro hgm hjj))); clear hrm hr1 hgm
                  go_wp2_with (go_at_call 48; (
                    refine (nx1_any (s[j]) _).mono ?_
                    rintro E w2 ⟨rfl, rfl⟩
                    rw [hsj]))
                  go_meet
                  case rel =>
                    obtain ⟨h1, h2, h3, h4⟩ := HM.out
                    exact ⟨⟨j, rfl, by rw [ht, h1, h2]; omega⟩, rfl⟩
              · have hj' : ¬ ((q + m : Nat) : Int) < (s.size : Int) := by omega
                have hr1 : runOf small (s.data.toList.drop (q + m)) = 0 := by rw [List.drop_of_length_le (by simp; omega)]; rfl
                obtain ⟨j, hjj⟩ : ∃ j, q + m = j := ⟨_, rfl⟩
                rw [hjj] at hj' hrm hr1
                have HM := Lib.hid (And.intro hrm (And.intro hr1 (And.intro hgm hjj))); clear hrm hr1 hgm
                go_wp2_with fail
                go_meet
                case rel =>
                  obtain ⟨h1, h2, h3, h4⟩ := HM.out
                  exact ⟨⟨j, rfl, by rw [ht, h1, h2]; omega⟩, rfl⟩
          | false =>
            cases hdg : dig s[q] with
            | true =>
              have ht : tokLen s[q] (s.data.toList.drop (q + 1)) = runOf dig (s.data.toList.drop q) := by unfold tokLen; rw [run_step dig HH.out.2.2.2.2, if_pos (show dig s[q] = true from hdg), if_neg (by rw [hsm]; decide), if_pos hdg, Nat.add_comm]
              go_wp2_with (first
                | (go_at_call 48; (
                  refine (nx1_any (s[q]) _).mono ?_
                  rintro E w2 ⟨rfl, rfl⟩
                  rw [hsm]))
                | (go_at_call 49; (
                  refine (nx2_any (s[q]) _).mono ?_
                  rintro E w2 ⟨rfl, rfl⟩
                  rw [hdg])))
              go_loopg [5] s.size (fun gm k wm => ∃ m : Nat, gm + m = s.size ∧ k = .int .i64 ((q + m : Nat) : Int) ∧ runOf dig (s.data.toList.drop q) = m + runOf dig (s.data.toList.drop (q + m)) ∧ q + m ≤ s.size ∧ w = wm)
              case atStart => exact ⟨0, by omega, by go_num, by simp, by have := HH.out.2.2.2.2; omega, rfl⟩
              case round =>
                obtain ⟨m, hgm, rfl, hrm, hle, rfl⟩ := hrel
                by_cases hj : q + m < s.size
                · have hj' : ((q + m : Nat) : Int) < (s.size : Int) := by omega
                  have hr1 := run_step dig hj
                  obtain ⟨j, hjj⟩ : ∃ j, q + m = j := ⟨_, rfl⟩
                  rw [hjj] at hj' hrm
                  simp only [hjj] at hr1
                  have hj2 : j < s.size := by omega
                  cases hsj : dig s[j] with
                  | true =>
                    rw [if_pos hsj] at hr1
                    have HM := Lib.hid (And.intro hrm (And.intro hr1 (And.intro hgm hjj))); clear hrm hr1 hgm
                    go_wp2_with (go_at_call 49; (
                      refine (nx2_any (s[j]) _).mono ?_
                      rintro E w2 ⟨rfl, rfl⟩
                      rw [hsj]))
                    go_roundg (gk - 1)
                    case measure => have := HM.out.2.2; omega
                    case rel =>
                      obtain ⟨h1, h2, h3, h4⟩ := HM.out
                      refine ⟨m + 1, by omega, by go_num, ?_, by omega, rfl⟩
                      rw [h1, h2, show q + (m + 1) = j + 1 by omega]; omega
                  | false =>
                    rw [if_neg (by rw [hsj]; decide)] at hr1
                    have HM := Lib.hid (And.intro hrm (And.intro hr1 (And.intro hgm hjj))); clear hrm hr1 hgm
                    go_wp2_with (go_at_call 49; (
                      refine (nx2_any (s[j]) _).mono ?_
                      rintro E w2 ⟨rfl, rfl⟩
                      rw [hsj]))
                    go_meet
                    case rel =>
                      obtain ⟨h1, h2, h3, h4⟩ := HM.out
                      exact ⟨⟨j, rfl, by rw [ht, h1, h2]; omega⟩, rfl⟩
                · have hj' : ¬ ((q + m : Nat) : Int) < (s.size : Int) := by omega
                  have hr1 : runOf dig (s.data.toList.drop (q + m)) = 0 := by rw [List.drop_of_length_le (by simp; omega)]; rfl
                  obtain ⟨j, hjj⟩ : ∃ j, q + m = j := ⟨_, rfl⟩
                  rw [hjj] at hj' hrm hr1
                  have HM := Lib.hid (And.intro hrm (And.intro hr1 (And.intro hgm hjj))); clear hrm hr1 hgm
                  go_wp2_with fail
                  go_meet
                  case rel =>
                    obtain ⟨h1, h2, h3, h4⟩ := HM.out
                    exact ⟨⟨j, rfl, by rw [ht, h1, h2]; omega⟩, rfl⟩
            | false =>
              have hcall := And.intro hsm hdg
              by_cases h43 : s[q] = 43
              · have e43 : (((s[q]).toNat : Int) == 43) = true := by rw [h43]; rfl
                by_cases hq2 : q + 1 < s.size
                · have hq2' : (q : Int) + 1 < (s.size : Int) := by omega
                  have hdr := drop_at s hq2
                  by_cases h61 : s[q + 1] = 61
                  · have e61 : (((s[q + 1]).toNat : Int) == 61) = true := by rw [h61]; rfl
                    have ht : tokLen s[q] (s.data.toList.drop (q + 1)) = 2 := by unfold tokLen; rw [if_neg (by rw [hsm]; decide), if_neg (by rw [hdg]; decide), if_pos (by simp [h43, hdr, h61])]
                    clear hdr h61 h43
                    have HM := Lib.hid ht; clear ht
                    go_wp2_with (first
                      | (go_at_call 48; (
                        refine (nx1_any (s[q]) _).mono ?_
                        rintro E w2 ⟨rfl, rfl⟩
                        rw [hsm]))
                      | (go_at_call 49; (
                        refine (nx2_any (s[q]) _).mono ?_
                        rintro E w2 ⟨rfl, rfl⟩
                        rw [hdg])))
                    go_meet
                    case rel => exact ⟨⟨q + 2, by go_num, by rw [HM.out]⟩, rfl⟩
                  · have e61 : (((s[q + 1]).toNat : Int) == 61) = false := by
                      have : (s[q + 1]).toNat ≠ 61 := fun e => h61 (UInt8.toNat_inj.1 e)
                      rw [beq_eq_false_iff_ne]; omega
                    have ht : tokLen s[q] (s.data.toList.drop (q + 1)) = 1 := by unfold tokLen; rw [if_neg (by rw [hsm]; decide), if_neg (by rw [hdg]; decide), if_neg (by simp [h43, hdr, h61])]
                    clear hdr h61 h43
                    have HM := Lib.hid ht; clear ht
                    go_wp2_with (first
                      | (go_at_call 48; (
                        refine (nx1_any (s[q]) _).mono ?_
                        rintro E w2 ⟨rfl, rfl⟩
                        rw [hsm]))
                      | (go_at_call 49; (
                        refine (nx2_any (s[q]) _).mono ?_
                        rintro E w2 ⟨rfl, rfl⟩
                        rw [hdg])))
                    go_meet
                    case rel => exact ⟨⟨q + 1, by go_num, by rw [HM.out]⟩, rfl⟩
                · have hq2' : ¬ (q : Int) + 1 < (s.size : Int) := by omega
                  have ht : tokLen s[q] (s.data.toList.drop (q + 1)) = 1 := by unfold tokLen; rw [if_neg (by rw [hsm]; decide), if_neg (by rw [hdg]; decide), if_neg (by rw [List.drop_of_length_le (by simp; omega)]; simp)]
                  clear h43
                  have HM := Lib.hid ht; clear ht
                  go_wp2_with (first
                    | (go_at_call 48; (
                      refine (nx1_any (s[q]) _).mono ?_
                      rintro E w2 ⟨rfl, rfl⟩
                      rw [hsm]))
                    | (go_at_call 49; (
                      refine (nx2_any (s[q]) _).mono ?_
                      rintro E w2 ⟨rfl, rfl⟩
                      rw [hdg])))
                  go_meet
                  case rel => exact ⟨⟨q + 1, by go_num, by rw [HM.out]⟩, rfl⟩
              · have e43 : (((s[q]).toNat : Int) == 43) = false := by
                  have : (s[q]).toNat ≠ 43 := fun e => h43 (UInt8.toNat_inj.1 e)
                  rw [beq_eq_false_iff_ne]; omega
                have ht : tokLen s[q] (s.data.toList.drop (q + 1)) = 1 := by unfold tokLen; rw [if_neg (by rw [hsm]; decide), if_neg (by rw [hdg]; decide), if_neg (by simp [h43])]
                clear h43
                have HM := Lib.hid ht; clear ht
                go_wp2_with (first
                  | (go_at_call 48; (
                    refine (nx1_any (s[q]) _).mono ?_
                    rintro E w2 ⟨rfl, rfl⟩
                    rw [hsm]))
                  | (go_at_call 49; (
                    refine (nx2_any (s[q]) _).mono ?_
                    rintro E w2 ⟨rfl, rfl⟩
                    rw [hdg])))
                go_meet
                case rel => exact ⟨⟨q + 1, by go_num, by rw [HM.out]⟩, rfl⟩
        case rest =>
          obtain ⟨⟨e, rfl, he⟩, rfl⟩ := hcut
          obtain ⟨hT2, hn1, hn2⟩ := HB.out.2.1 _ rfl
          rw [he] at hT2 hn2
          have hqe : q < e := by omega
          clear he hn1
          have hsl : ∀ w : World, (Instr.slice 9 (.string s) (some (.int .i64 (q : Int))) (some (.int .i64 (e : Int))) none).run Tryd.prog w = .ok (.string (s.extract q e)) w := fun w => (run_slice_string (P := Tryd.prog) w 9 s .i64 .i64 (q : Int) (e : Int) Tryd.underlying9 (by omega) (by omega) (by omega)).trans (by simp)
          have HT := Lib.hid hT2; clear hT2
          go_wp2_with fail
          go_ret2
          refine ⟨?_, rfl⟩
          rw [HB.out.2.2, HT.out]
          rfl
    · obtain rfl : q = s.size := by omega
      have e3 : ((s.size : Int) == (s.size : Int)) = true := by simp
      have hT1 : tokAt s a = ([], s.size) := by rw [htk, tokAt_end]
      have HT := Lib.hid hT1; clear hT1 htk
      go_wp2_with fail
      go_ret2
      exact ⟨by rw [HT.out]; rfl, rfl⟩
end Go.Proofs.YtgiceeholamphaaDoor
