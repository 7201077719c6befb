/- The contract of lang.tokens. No conditions but the text's length. -/
import Derived.Test.YtgiceeholamphaaDoorOwn
import Derived.Test.YtgiceeholamphaaDoorNamed
import Derived.Test.YtgiceeholamphaaDoorPar
import Derived.Deep.DeepCutAuto
import Derived.Deep.CutBlock
namespace Go.Proofs.YtgiceeholamphaaDoor
open Go.ChangeShapes Go.WideShapes Go.ChangeAt Go.RowKit Go.Maps

theorem letter_any (c : UInt8) (w : World) : Calls Tryd.prog 42 #[.int .u8 (c.toNat : Int)] w fun E w' => E = .returned (.bool (small c)) ∧ w = w' := by
  have h1 : (small c = true) ↔ 97 ≤ c.toNat ∧ c.toNat ≤ 122 := by simp [small, UInt8.le_iff_toNat_le]
  by_cases ha : 97 ≤ c.toNat
  · by_cases hb : c.toNat ≤ 122
    · have hs := h1.2 ⟨ha, hb⟩
      rw [hs]
      have e1 : decide ((97 : Int) ≤ (c.toNat : Int)) = true := by simp; omega
      have e2 : decide ((c.toNat : Int) ≤ 122) = true := by simp; omega
      clear h1 hs ha hb
      go_enter Tryd.func42, Tryd.ntmps42
      go_wp2_with fail
      go_ret
      exact ⟨rfl, rfl⟩
    · have hs : small c = false := by cases h : small c with | false => rfl | true => exact absurd (h1.1 h).2 hb
      rw [hs]
      have e1 : decide ((97 : Int) ≤ (c.toNat : Int)) = true := by simp; omega
      have e2 : decide ((c.toNat : Int) ≤ 122) = false := by simp; omega
      clear h1 hs ha hb
      go_enter Tryd.func42, Tryd.ntmps42
      go_wp2_with fail
      go_ret
      exact ⟨rfl, rfl⟩
  · have hs : small c = false := by cases h : small c with | false => rfl | true => exact absurd (h1.1 h).1 ha
    rw [hs]
    have e1 : decide ((97 : Int) ≤ (c.toNat : Int)) = false := by simp; omega
    clear h1 hs ha
    go_enter Tryd.func42, Tryd.ntmps42
    go_wp2_with fail
    go_ret
    exact ⟨rfl, rfl⟩
theorem digit_any (c : UInt8) (w : World) : Calls Tryd.prog 43 #[.int .u8 (c.toNat : Int)] w fun E w' => E = .returned (.bool (dig c)) ∧ w = w' := by
  have h1 : (dig c = true) ↔ 48 ≤ c.toNat ∧ c.toNat ≤ 57 := by simp [dig, UInt8.le_iff_toNat_le]
  by_cases ha : 48 ≤ c.toNat
  · by_cases hb : c.toNat ≤ 57
    · have hs := h1.2 ⟨ha, hb⟩
      rw [hs]
      have e1 : decide ((48 : Int) ≤ (c.toNat : Int)) = true := by simp; omega
      have e2 : decide ((c.toNat : Int) ≤ 57) = true := by simp; omega
      clear h1 hs ha hb
      go_enter Tryd.func43, Tryd.ntmps43
      go_wp2_with fail
      go_ret
      exact ⟨rfl, rfl⟩
    · have hs : dig c = false := by cases h : dig c with | false => rfl | true => exact absurd (h1.1 h).2 hb
      rw [hs]
      have e1 : decide ((48 : Int) ≤ (c.toNat : Int)) = true := by simp; omega
      have e2 : decide ((c.toNat : Int) ≤ 57) = false := by simp; omega
      clear h1 hs ha hb
      go_enter Tryd.func43, Tryd.ntmps43
      go_wp2_with fail
      go_ret
      exact ⟨rfl, rfl⟩
  · have hs : dig c = false := by cases h : dig c with | false => rfl | true => exact absurd (h1.1 h).1 ha
    rw [hs]
    have e1 : decide ((48 : Int) ≤ (c.toNat : Int)) = false := by simp; omega
    clear h1 hs ha
    go_enter Tryd.func43, Tryd.ntmps43
    go_wp2_with fail
    go_ret
    exact ⟨rfl, rfl⟩
/-! ### tokens -/
def tokC (T : List Tok) : List Value := T.flatMap fun t => [.string ⟨t.1.toArray⟩, .int .i64 (t.2 : Int)]
theorem tokC_append (a b : List Tok) : tokC (a ++ b) = tokC a ++ tokC b := by simp [tokC]
theorem tokC_length (T : List Tok) : (tokC T).length = T.length * 2 := by
  induction T with
  | nil => rfl
  | cons t T ih => simp only [tokC, List.flatMap_cons, List.length_append, List.length_cons, List.length_nil] at ih ⊢; rw [ih]; omega
theorem tokC_one (T : List Tok) : ∀ u ∈ tokC T, u.oneCell' = true := by
  intro u hu
  simp only [tokC, List.mem_flatMap] at hu
  obtain ⟨t, _, hu⟩ := hu
  simp only [List.mem_cons, List.not_mem_nil, or_false] at hu
  rcases hu with rfl | rfl <;> rfl
theorem tokC_get (T : List Tok) {i : Nat} (hi : i < T.length) : (tokC T)[i * 2]? = some (.string ⟨(T[i]).1.toArray⟩) ∧ (tokC T)[i * 2 + 1]? = some (.int .i64 ((T[i]).2 : Int)) := by
  induction T generalizing i with
  | nil => simp at hi
  | cons t T ih =>
    have e : tokC (t :: T) = [.string ⟨t.1.toArray⟩, .int .i64 (t.2 : Int)] ++ tokC T := by simp [tokC]
    rw [e]
    cases i with
    | zero => exact ⟨rfl, rfl⟩
    | succ i =>
      simp only [List.getElem_cons_succ]
      have h := ih (i := i) (by simpa using hi)
      rw [List.getElem?_append_right (by simp; omega), List.getElem?_append_right (by simp; omega)]
      rw [show (i + 1) * 2 - [Value.string ⟨t.1.toArray⟩, .int .i64 (t.2 : Int)].length = i * 2 by simp; omega, show (i + 1) * 2 + 1 - [Value.string ⟨t.1.toArray⟩, .int .i64 (t.2 : Int)].length = i * 2 + 1 by simp; omega]
      exact h
theorem drop_at (s : ByteArray) {j : Nat} (h : j < s.size) : s.data.toList.drop j = s[j] :: s.data.toList.drop (j + 1) := by
  have h' : j < s.data.toList.length := by simpa using h
  rw [List.drop_eq_getElem_cons h']
  rfl
theorem extract_at (s : ByteArray) (a b : Nat) : s.extract a b = ⟨((s.data.toList.drop a).take (b - a)).toArray⟩ := by
  apply ByteArray.ext
  simp [ByteArray.data_extract, ← Array.toList_inj, List.drop_take, Nat.min_def]
theorem info_token : (Tryd.prog.info? 64).map (fun i => (i.zero, i.size, i.bytes)) = some (some (.agg #[.string ⟨#[]⟩, .int .i64 0]), 2, 24) := by kernel_rfl
/-- The tokens of s lie in a row of the call's own. -/
def TokPost (s : ByteArray) (w : World) (E : Ending) (w' : World) : Prop :=
  ∃ v, E = .returned v ∧ w'.ownsRow w.heap.size 64 2 v (toksAt s.data.toList 0).length (tokC (toksAt s.data.toList 0)) ∧ Below w.heap.size w w'
theorem tok_step {s : ByteArray} {q n : Nat} {D : List Tok} (hq : q < s.size) (hb : blank s[q] = false) (h : toksAt s.data.toList 0 = D ++ toksAt (s.data.toList.drop q) q) (hn : n = tokLen s[q] (s.data.toList.drop (q + 1))) :
    toksAt s.data.toList 0 = (D ++ [(((s.extract q (q + n)).data.toList), q)]) ++ toksAt (s.data.toList.drop (q + n)) (q + n) ∧ 1 ≤ n ∧ q + n ≤ s.size := by
  have h1 := tokLen_pos s[q] (s.data.toList.drop (q + 1))
  have h2 := tokLen_le s[q] (s.data.toList.drop (q + 1))
  simp only [List.length_drop, Array.length_toList, ByteArray.size_data] at h2
  rw [← hn] at h1 h2
  refine ⟨?_, h1, by omega⟩
  rw [h, drop_at s hq, toksAt_tok hb, ← hn, List.append_assoc]
  have e1 : (s.extract q (q + n)).data.toList = s[q] :: (s.data.toList.drop (q + 1)).take (n - 1) := by
    rw [extract_at, drop_at s hq, show q + n - q = (n - 1) + 1 by omega, List.take_succ_cons]
  have e2 : (s.data.toList.drop (q + 1)).drop (n - 1) = s.data.toList.drop (q + n) := by rw [List.drop_drop]; congr 1; omega
  rw [e1, e2]
  rfl
theorem run_step {s : ByteArray} {j : Nat} (p : UInt8 → Bool) (h : j < s.size) : runOf p (s.data.toList.drop j) = if p s[j] then runOf p (s.data.toList.drop (j + 1)) + 1 else 0 := by rw [drop_at s h, runOf]
set_option maxRecDepth 100000 in
set_option maxHeartbeats 4000000 in
theorem tokens_any (s : ByteArray) (w : World) (hs : s.size ≤ 1048576) : Calls Tryd.prog 25 #[.string s] w (TokPost s w) := by
  obtain ⟨iT, hi, hz⟩ := Option.map_eq_some_iff.1 info_token
  simp only [Prod.mk.injEq] at hz
  obtain ⟨hz0, hz1, hz2⟩ := hz
  have HI := Lib.hid (And.intro hi (And.intro hz0 (And.intro hz1 hz2))); clear hi hz0 hz1 hz2
  have hS := Lib.hid hs; clear hs
  go_enter Tryd.func25, Tryd.ntmps25
  go_wp2_with fail
  go_loopg [3, 4, 5, 6] s.size (fun gk l i _ _ wr => ∃ (q : Nat) (D : List Tok), gk + q = s.size ∧ i = .int .i64 q ∧ toksAt s.data.toList 0 = D ++ toksAt (s.data.toList.drop q) q ∧ wr.ownsRow w.heap.size 64 2 l D.length (tokC D) ∧ Below w.heap.size w wr)
  case atStart => exact ⟨0, [], by omega, rfl, by simp, World.ownsRow_nil _ _ _ _, Below.refl _ _⟩
  case round =>
    obtain ⟨q, D, hgq, rfl, hT, hown, hb⟩ := hrel
    have hTl := toksAt_len s.data.toList 0
    have hDl : D.length ≤ s.size + 1 := by rw [hT] at hTl; simp at hTl; omega
    obtain ⟨A, c, rfl, hDc, hcm⟩ := own_form hown
    by_cases hq : q < s.size
    · have hqi : (q : Int) < (s.size : Int) := by omega
      have hS' := hS.out
      have HH := Lib.hid (And.intro hT (And.intro hown (And.intro hb (And.intro hDl hq)))); clear hT hown hb hTl
      cases hbl : blank s[q] with
      | true =>
        have hn : toksAt s.data.toList 0 = D ++ toksAt (s.data.toList.drop (q + 1)) (q + 1) := by rw [HH.out.1, drop_at s hq, toksAt_blank hbl]
        have HN := Lib.hid hn; clear hn
        by_cases h32 : s[q] = 32
        · have e1 : (((s[q]).toNat : Int) == 32) = true := by rw [h32]; rfl
          have HX := Lib.hid hbl; clear hbl h32
          go_wp2_with fail
          go_roundg (gk - 1)
          case measure => omega
          case rel => exact ⟨q + 1, D, by omega, by go_num, HN.out, HH.out.2.1, HH.out.2.2.1⟩
        · have h10 : s[q] = 10 := by simpa [blank, h32] using hbl
          have e1 : (((s[q]).toNat : Int) == 32) = false := by rw [h10]; rfl
          have e2 : (((s[q]).toNat : Int) == 10) = true := by rw [h10]; rfl
          have HX := Lib.hid hbl; clear hbl h32 h10
          go_wp2_with fail
          go_roundg (gk - 1)
          case measure => omega
          case rel => exact ⟨q + 1, D, by omega, by go_num, HN.out, HH.out.2.1, HH.out.2.2.1⟩
      | false =>
        have hne : ¬ (s[q] = 32) ∧ ¬ (s[q] = 10) := by simpa [blank] using hbl
        have e1 : (((s[q]).toNat : Int) == 32) = false := by
          have : (s[q]).toNat ≠ 32 := fun e => hne.1 (UInt8.toNat_inj.1 e)
          rw [beq_eq_false_iff_ne]; omega
        have e2 : (((s[q]).toNat : Int) == 10) = false := by
          have : (s[q]).toNat ≠ 10 := fun e => hne.2 (UInt8.toNat_inj.1 e)
          rw [beq_eq_false_iff_ne]; omega
        have hst := fun n hn => tok_step (n := n) hq hbl HH.out.1 hn
        have HB := Lib.hid (And.intro hbl hst); clear hbl hst hne
        go_upto_block 2 with (fail)
        go_cut [4, 5] (fun i k wc => i = .int .i64 (q : Int) ∧ (∃ e : Nat, k = .int .i64 (e : Int) ∧ q + tokLen s[q] (s.data.toList.drop (q + 1)) = e) ∧ wr = wc)
        case first => as_aux_lemma =>
          cases hsm : small s[q] with
          | true =>
            have ht : tokLen s[q] (s.data.toList.drop (q + 1)) = 1 + runOf small (s.data.toList.drop (q + 1)) := by unfold tokLen; rw [if_pos hsm]
            go_wp2_with (go_at_call 42; (
              refine (letter_any (s[q]) _).mono ?_
              rintro E w2 ⟨rfl, rfl⟩
              rw [hsm]))
            go_loopg [5] s.size (fun gm k wm => ∃ m : Nat, gm + m = s.size ∧ k = .int .i64 ((q + 1 + m : Nat) : Int) ∧ runOf small (s.data.toList.drop (q + 1)) = m + runOf small (s.data.toList.drop (q + 1 + m)) ∧ q + 1 + m ≤ s.size ∧ wr = wm)
            case atStart => exact ⟨0, by omega, by go_num, by simp, by have := HH.out.2.2.2.2; omega, rfl⟩
            case round =>
              obtain ⟨m, hgm, rfl, hrm, hle, rfl⟩ := hrel
              by_cases hj : q + 1 + m < s.size
              · have hj' : ((q + 1 + m : Nat) : Int) < (s.size : Int) := by omega
                have hr1 := run_step small hj
                obtain ⟨j, hjj⟩ : ∃ j, q + 1 + m = j := ⟨_, rfl⟩
                rw [hjj] at hj' hrm
                simp only [hjj] at hr1
                have hj2 : j < s.size := by omega
                cases hsj : small s[j] with
                | true =>
                  rw [if_pos hsj] at hr1
                  have HM := Lib.hid (And.intro hrm (And.intro hr1 (And.intro hgm hjj))); clear hrm hr1 hgm
                  go_wp2_with (go_at_call 42; (
                    refine (letter_any (s[j]) _).mono ?_
                    rintro E w2 ⟨rfl, rfl⟩
                    rw [hsj]))
                  go_roundg (gk - 1)
                  case measure => have := HM.out.2.2; omega
                  case rel =>
                    obtain ⟨h1, h2, h3, h4⟩ := HM.out
                    refine ⟨m + 1, by omega, by go_num, ?_, by omega, rfl⟩
                    rw [h1, h2, show q + 1 + (m + 1) = j + 1 by omega]; omega
                | false =>
                  rw [if_neg (by rw [hsj]; decide)] at hr1
                  have HM := Lib.hid (And.intro hrm (And.intro hr1 (And.intro hgm hjj))); clear hrm hr1 hgm
                  go_wp2_with (go_at_call 42; (
                    refine (letter_any (s[j]) _).mono ?_
                    rintro E w2 ⟨rfl, rfl⟩
                    rw [hsj]))
                  go_meet
                  case rel =>
                    obtain ⟨h1, h2, h3, h4⟩ := HM.out
                    exact ⟨rfl, ⟨j, rfl, by rw [ht, h1, h2]; omega⟩, rfl⟩
              · have hj' : ¬ ((q + 1 + m : Nat) : Int) < (s.size : Int) := by omega
                have hr1 : runOf small (s.data.toList.drop (q + 1 + m)) = 0 := by rw [List.drop_of_length_le (by simp; omega)]; rfl
                obtain ⟨j, hjj⟩ : ∃ j, q + 1 + m = j := ⟨_, rfl⟩
                rw [hjj] at hj' hrm hr1
                have HM := Lib.hid (And.intro hrm (And.intro hr1 (And.intro hgm hjj))); clear hrm hr1 hgm
                go_wp2_with fail
                go_meet
                case rel =>
                  obtain ⟨h1, h2, h3, h4⟩ := HM.out
                  exact ⟨rfl, ⟨j, rfl, by rw [ht, h1, h2]; omega⟩, rfl⟩
          | false =>
            cases hdg : dig s[q] with
            | true =>
              have ht : tokLen s[q] (s.data.toList.drop (q + 1)) = 1 + runOf dig (s.data.toList.drop (q + 1)) := by unfold tokLen; rw [if_neg (by rw [hsm]; decide), if_pos hdg]
              go_wp2_with (first
                | (go_at_call 42; (
                  refine (letter_any (s[q]) _).mono ?_
                  rintro E w2 ⟨rfl, rfl⟩
                  rw [hsm]))
                | (go_at_call 43; (
                  refine (digit_any (s[q]) _).mono ?_
                  rintro E w2 ⟨rfl, rfl⟩
                  rw [hdg])))
              go_loopg [5] s.size (fun gm k wm => ∃ m : Nat, gm + m = s.size ∧ k = .int .i64 ((q + 1 + m : Nat) : Int) ∧ runOf dig (s.data.toList.drop (q + 1)) = m + runOf dig (s.data.toList.drop (q + 1 + m)) ∧ q + 1 + m ≤ s.size ∧ wr = wm)
              case atStart => exact ⟨0, by omega, by go_num, by simp, by have := HH.out.2.2.2.2; omega, rfl⟩
              case round =>
                obtain ⟨m, hgm, rfl, hrm, hle, rfl⟩ := hrel
                by_cases hj : q + 1 + m < s.size
                · have hj' : ((q + 1 + m : Nat) : Int) < (s.size : Int) := by omega
                  have hr1 := run_step dig hj
                  obtain ⟨j, hjj⟩ : ∃ j, q + 1 + m = j := ⟨_, rfl⟩
                  rw [hjj] at hj' hrm
                  simp only [hjj] at hr1
                  have hj2 : j < s.size := by omega
                  cases hsj : dig s[j] with
                  | true =>
                    rw [if_pos hsj] at hr1
                    have HM := Lib.hid (And.intro hrm (And.intro hr1 (And.intro hgm hjj))); clear hrm hr1 hgm
                    go_wp2_with (go_at_call 43; (
                      refine (digit_any (s[j]) _).mono ?_
                      rintro E w2 ⟨rfl, rfl⟩
                      rw [hsj]))
                    go_roundg (gk - 1)
                    case measure => have := HM.out.2.2; omega
                    case rel =>
                      obtain ⟨h1, h2, h3, h4⟩ := HM.out
                      refine ⟨m + 1, by omega, by go_num, ?_, by omega, rfl⟩
                      rw [h1, h2, show q + 1 + (m + 1) = j + 1 by omega]; omega
                  | false =>
                    rw [if_neg (by rw [hsj]; decide)] at hr1
                    have HM := Lib.hid (And.intro hrm (And.intro hr1 (And.intro hgm hjj))); clear hrm hr1 hgm
                    go_wp2_with (go_at_call 43; (
                      refine (digit_any (s[j]) _).mono ?_
                      rintro E w2 ⟨rfl, rfl⟩
                      rw [hsj]))
                    go_meet
                    case rel =>
                      obtain ⟨h1, h2, h3, h4⟩ := HM.out
                      exact ⟨rfl, ⟨j, rfl, by rw [ht, h1, h2]; omega⟩, rfl⟩
                · have hj' : ¬ ((q + 1 + m : Nat) : Int) < (s.size : Int) := by omega
                  have hr1 : runOf dig (s.data.toList.drop (q + 1 + m)) = 0 := by rw [List.drop_of_length_le (by simp; omega)]; rfl
                  obtain ⟨j, hjj⟩ : ∃ j, q + 1 + m = j := ⟨_, rfl⟩
                  rw [hjj] at hj' hrm hr1
                  have HM := Lib.hid (And.intro hrm (And.intro hr1 (And.intro hgm hjj))); clear hrm hr1 hgm
                  go_wp2_with fail
                  go_meet
                  case rel =>
                    obtain ⟨h1, h2, h3, h4⟩ := HM.out
                    exact ⟨rfl, ⟨j, rfl, by rw [ht, h1, h2]; omega⟩, rfl⟩
            | false =>
              have hcall := And.intro hsm hdg
              by_cases h43 : s[q] = 43
              · have e43 : (((s[q]).toNat : Int) == 43) = true := by rw [h43]; rfl
                by_cases hq2 : q + 1 < s.size
                · have hq2' : (q : Int) + 1 < (s.size : Int) := by omega
                  have hdr := drop_at s hq2
                  by_cases h61 : s[q + 1] = 61
                  · have e61 : (((s[q + 1]).toNat : Int) == 61) = true := by rw [h61]; rfl
                    have ht : tokLen s[q] (s.data.toList.drop (q + 1)) = 2 := by unfold tokLen; rw [if_neg (by rw [hsm]; decide), if_neg (by rw [hdg]; decide), if_pos (by simp [h43, hdr, h61])]
                    clear hdr h61 h43
                    have HM := Lib.hid ht; clear ht
                    go_wp2_with (first
                      | (go_at_call 42; (
                        refine (letter_any (s[q]) _).mono ?_
                        rintro E w2 ⟨rfl, rfl⟩
                        rw [hsm]))
                      | (go_at_call 43; (
                        refine (digit_any (s[q]) _).mono ?_
                        rintro E w2 ⟨rfl, rfl⟩
                        rw [hdg])))
                    go_meet
                    case rel => exact ⟨rfl, ⟨q + 2, by go_num, by rw [HM.out]⟩, rfl⟩
                  · have e61 : (((s[q + 1]).toNat : Int) == 61) = false := by
                      have : (s[q + 1]).toNat ≠ 61 := fun e => h61 (UInt8.toNat_inj.1 e)
                      rw [beq_eq_false_iff_ne]; omega
                    have ht : tokLen s[q] (s.data.toList.drop (q + 1)) = 1 := by unfold tokLen; rw [if_neg (by rw [hsm]; decide), if_neg (by rw [hdg]; decide), if_neg (by simp [h43, hdr, h61])]
                    clear hdr h61 h43
                    have HM := Lib.hid ht; clear ht
                    go_wp2_with (first
                      | (go_at_call 42; (
                        refine (letter_any (s[q]) _).mono ?_
                        rintro E w2 ⟨rfl, rfl⟩
                        rw [hsm]))
                      | (go_at_call 43; (
                        refine (digit_any (s[q]) _).mono ?_
                        rintro E w2 ⟨rfl, rfl⟩
                        rw [hdg])))
                    go_meet
                    case rel => exact ⟨rfl, ⟨q + 1, by go_num, by rw [HM.out]⟩, rfl⟩
                · have hq2' : ¬ (q : Int) + 1 < (s.size : Int) := by omega
                  have ht : tokLen s[q] (s.data.toList.drop (q + 1)) = 1 := by unfold tokLen; rw [if_neg (by rw [hsm]; decide), if_neg (by rw [hdg]; decide), if_neg (by rw [List.drop_of_length_le (by simp; omega)]; simp)]
                  clear h43
                  have HM := Lib.hid ht; clear ht
                  go_wp2_with (first
                    | (go_at_call 42; (
                      refine (letter_any (s[q]) _).mono ?_
                      rintro E w2 ⟨rfl, rfl⟩
                      rw [hsm]))
                    | (go_at_call 43; (
                      refine (digit_any (s[q]) _).mono ?_
                      rintro E w2 ⟨rfl, rfl⟩
                      rw [hdg])))
                  go_meet
                  case rel => exact ⟨rfl, ⟨q + 1, by go_num, by rw [HM.out]⟩, rfl⟩
              · have e43 : (((s[q]).toNat : Int) == 43) = false := by
                  have : (s[q]).toNat ≠ 43 := fun e => h43 (UInt8.toNat_inj.1 e)
                  rw [beq_eq_false_iff_ne]; omega
                have ht : tokLen s[q] (s.data.toList.drop (q + 1)) = 1 := by unfold tokLen; rw [if_neg (by rw [hsm]; decide), if_neg (by rw [hdg]; decide), if_neg (by simp [h43])]
                clear h43
                have HM := Lib.hid ht; clear ht
                go_wp2_with (first
                  | (go_at_call 42; (
                    refine (letter_any (s[q]) _).mono ?_
                    rintro E w2 ⟨rfl, rfl⟩
                    rw [hsm]))
                  | (go_at_call 43; (
                    refine (digit_any (s[q]) _).mono ?_
                    rintro E w2 ⟨rfl, rfl⟩
                    rw [hdg])))
                go_meet
                case rel => exact ⟨rfl, ⟨q + 1, by go_num, by rw [HM.out]⟩, rfl⟩
        case rest =>
          obtain ⟨rfl, ⟨e, rfl, he⟩, rfl⟩ := hcut
          obtain ⟨hT2, hn1, hn2⟩ := HB.out.2 _ rfl
          rw [he] at hT2 hn2
          have hqe : q < e := by omega
          clear he hn1
          have HT := Lib.hid hT2; clear hT2
          have hsl : ∀ w : World, (Instr.slice 9 (.string s) (some (.int .i64 (q : Int))) (some (.int .i64 (e : Int))) none).run Tryd.prog w = .ok (.string (s.extract q e)) w := fun w => (run_slice_string (P := Tryd.prog) w 9 s .i64 .i64 (q : Int) (e : Int) Tryd.underlying9 (by omega) (by omega) (by omega)).trans (by simp)
          go_wp2_with (at_builtin; (
            refine wpList_append_src rfl (.tmp 72) (.tmp 79) _ rfl w.heap.size 64 iT _ 2 24 Tryd.underlying58 HI.out.1 HI.out.2.1 HI.out.2.2.1 HI.out.2.2.2 rfl (by decide) _ _ _ rfl (HH.out.2.1.alloc _) (some ⟨wr.heap.size, 0, none⟩) 1 1 (tokC [((s.extract q e).data.toList, q)]) rfl (tokC_length _) (fun _ => ⟨wr.heap.size, 0, rfl, fun j u hu => ((Blk.new wr _ [.string (s.extract q e), .int .i64 (q : Int)]).cellAdd j).trans hu⟩) (tokC_one _) (by unfold maxLen; omega) (by omega) (by have := HH.out.2.2.1.size; simp; omega) ?_
            intro v9 w9 hown9 hg9 hloc
            have H9 := Lib.hid (And.intro hown9 (And.intro hg9 hloc)); clear hown9 hg9 hloc))
          go_roundg (gk - (e - q))
          case measure => omega
          case rel =>
            refine ⟨e, D ++ [((s.extract q e).data.toList, q)], by omega, by go_num, HT.out, ?_, ?_⟩
            · rw [tokC_append, List.length_append]
              exact H9.out.1
            · exact (HH.out.2.2.1.alloc HH.out.2.2.1.size _).grown H9.out.2.1 (by have := HH.out.2.2.1.size; simp; omega) (fun k hk => (HH.out.2.1.lt k hk).1)
    · obtain rfl : q = s.size := by omega
      have hT1 : toksAt s.data.toList 0 = D ++ [([], s.size)] := by rw [hT, List.drop_of_length_le (by simp), toksAt_nil]
      have HH := Lib.hid (And.intro hT1 (And.intro hown hb)); clear hT hT1 hown hb
      have hS' := hS.out
      go_wp2_with (at_builtin; (
        refine wpList_append_src rfl (.tmp 82) (.tmp 86) _ rfl w.heap.size 64 iT _ 2 24 Tryd.underlying58 HI.out.1 HI.out.2.1 HI.out.2.2.1 HI.out.2.2.2 rfl (by decide) _ _ _ rfl (HH.out.2.1.alloc _) (some ⟨wr.heap.size, 0, none⟩) 1 1 (tokC [([], s.size)]) rfl (tokC_length _) (fun _ => ⟨wr.heap.size, 0, rfl, fun j u hu => ((Blk.new wr _ [.string ⟨#[]⟩, .int .i64 (s.size : Int)]).cellAdd j).trans hu⟩) (tokC_one _) (by unfold maxLen; omega) (by omega) (by have := HH.out.2.2.size; simp; omega) ?_
        intro v9 w9 hown9 hg9 hloc
        have H9 := Lib.hid (And.intro hown9 (And.intro hg9 hloc)); clear hown9 hg9 hloc))
      go_ret
      refine ⟨_, rfl, ?_, ?_⟩
      · rw [HH.out.1, tokC_append, List.length_append]
        exact H9.out.1
      · exact (HH.out.2.2.alloc HH.out.2.2.size _).grown H9.out.2.1 (by have := HH.out.2.2.size; simp; omega) (fun k hk => (HH.out.2.1.lt k hk).1)
end Go.Proofs.YtgiceeholamphaaDoor
