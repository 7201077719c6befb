/- The reader's method that reads a number. No conditions but that the reader is one. -/
import Derived.Test.YtgiceeholamphaaDoorRdr
namespace Go.Proofs.YtgiceeholamphaaDoor
open Go.ChangeShapes Go.WideShapes Go.ChangeAt Go.RowKit Go.Maps

set_option maxRecDepth 100000 in
set_option maxHeartbeats 2000000 in
theorem number_any (w : World) (g tb c i : Nat) (T : List Tok) (h : RAt w g tb c T i) (hT : TokOk T) (bound : Int) :
    Calls Tryd.prog 70 #[.pointer (some ⟨g, 0, none⟩), .int .i64 bound] w (RPost (fun a v _ => v = .int .i64 a) w g tb c T (numR bound (T.drop i))) := by
  obtain ⟨t, hd', ht, h0, h1, hf1, h2, hil, hl⟩ := h.facts hT
  have hne := h.ne
  have hok := hT.each t ht
  obtain ⟨tx, tn⟩ := t
  simp only at h2 hok
  cases tx with
  | nil =>
    have hr : numR bound (T.drop i) = .no tn := by unfold numR; rw [hd']; rfl
    rw [hr]
    have H := Lib.hid (And.intro h (And.intro hT hd')); clear h hT hd' hok hr
    go_enter Tryd.func70, Tryd.ntmps70
    go_wp2_with fail
    go_quiet (fail)
    have hg2 := grown_drewN w nq none
    have hf := fail_any _ g tb c i T (H.out.1.kept hg2) H.out.2.1
    have H2 := Lib.hid (And.intro hg2 hf); clear hg2 hf
    go_wp2_with (go_at_call 27; (
      refine H2.out.2.mono ?_
      rintro E w3 ⟨rfl, hg3⟩
      have H3 := Lib.hid hg3; clear hg3))
    refine ⟨rfl, (H2.out.1.but _).trans (H3.out.but _), ?_⟩
    rw [H.out.2.2]
  | cons x l =>
    obtain ⟨s, hs⟩ : ∃ s : ByteArray, (⟨(x :: l).toArray⟩ : ByteArray) = s := ⟨_, rfl⟩
    rw [hs] at h2
    have hsz : s.size = l.length + 1 := by subst hs; simp [ByteArray.size]
    have hsd : s.data.toList = x :: l := by subst hs; simp
    have hpos : 0 < s.size := by omega
    have hs0 : s[0] = x := by subst hs; rfl
    have hse : ¬ s.toList = [] := by rw [ByteArray.toList_eq, hsd]; simp
    have hse2 : s.toList.isEmpty = false := by rw [ByteArray.toList_eq, hsd]; rfl
    have hrr : numR bound (T.drop i) = match Lib.parseIntB 64 (x :: l) with | .ok v => (if dig x && plainNum (x :: l) && decide (v ≤ bound) then .ok v (T.drop i).tail else .no tn) | _ => .no tn := by
      unfold numR digitFirst; rw [hd']; rfl
    have hmo := more_of_ne hT (i := i) (by rw [hd']; simp) h.hi
    cases hdx : dig x with
    | false =>
      have hr : numR bound (T.drop i) = .no tn := by
        rw [hrr]; split
        · rw [if_neg (by rw [hdx]; simp)]
        · rfl
      rw [hr]
      have H := Lib.hid (And.intro h (And.intro hT hd')); clear h hT hd' hok hr hrr
      go_enter Tryd.func70, Tryd.ntmps70
      go_wp2_with fail
      go_quiet (fail)
      have hg2 := grown_drewN w nq none
      have hf := fail_any _ g tb c i T (H.out.1.kept hg2) H.out.2.1
      have H2 := Lib.hid (And.intro hg2 hf); clear hg2 hf
      go_wp2_with (first
        | (go_at_call 43; (
          refine (digit_any x _).mono ?_
          rintro E w2 ⟨rfl, rfl⟩
          rw [hdx]))
        | (go_at_call 27; (
          refine H2.out.2.mono ?_
          rintro E w3 ⟨rfl, hg3⟩
          have H3 := Lib.hid hg3; clear hg3)))
      refine ⟨rfl, (H2.out.1.but _).trans (H3.out.but _), ?_⟩
      rw [H.out.2.2]
    | true =>
      have hdig := okTok_digits hok.1 hdx
      by_cases h10 : 10 < s.size
      · have k10 : (10 : Int) < (s.size : Int) := by omega
        have hr : numR bound (T.drop i) = .no tn := by
          rw [hrr]; split
          · rw [if_neg (by simp [plainNum]; omega)]
          · rfl
        rw [hr]
        have H := Lib.hid (And.intro h (And.intro hT hd')); clear h hT hd' hok hr hrr h10
        go_enter Tryd.func70, Tryd.ntmps70
        go_wp2_with fail
        go_quiet (fail)
        have hg2 := grown_drewN w nq none
        have hf := fail_any _ g tb c i T (H.out.1.kept hg2) H.out.2.1
        have H2 := Lib.hid (And.intro hg2 hf); clear hg2 hf
        go_wp2_with (first
          | (go_at_call 43; (
            refine (digit_any x _).mono ?_
            rintro E w2 ⟨rfl, rfl⟩
            rw [hdx]))
          | (go_at_call 27; (
            refine H2.out.2.mono ?_
            rintro E w3 ⟨rfl, hg3⟩
            have H3 := Lib.hid hg3; clear hg3)))
        refine ⟨rfl, (H2.out.1.but _).trans (H3.out.but _), ?_⟩
        rw [H.out.2.2]
      · have k10 : ¬ (10 : Int) < (s.size : Int) := by omega
        by_cases h48 : 1 < s.size ∧ x = 48
        · have k1 : (1 : Int) < (s.size : Int) := by omega
          have k48 : ((x.toNat : Int) == 48) = true := by rw [h48.2]; rfl
          have hr : numR bound (T.drop i) = .no tn := by
            rw [hrr]; split
            · have hpl : plainNum (x :: l) = false := by
                obtain ⟨ha, rfl⟩ := h48
                cases l with
                | nil => simp at hsz; omega
                | cons y l => simp [plainNum]
              rw [if_neg (by simp [hpl])]
            · rfl
          rw [hr]
          have H := Lib.hid (And.intro h (And.intro hT hd')); clear h hT hd' hok hr hrr h10 h48
          go_enter Tryd.func70, Tryd.ntmps70
          go_wp2_with fail
          go_quiet (fail)
          have hg2 := grown_drewN w nq none
          have hf := fail_any _ g tb c i T (H.out.1.kept hg2) H.out.2.1
          have H2 := Lib.hid (And.intro hg2 hf); clear hg2 hf
          go_wp2_with (first
            | (go_at_call 43; (
              refine (digit_any x _).mono ?_
              rintro E w2 ⟨rfl, rfl⟩
              rw [hdx]))
            | (go_at_call 27; (
              refine H2.out.2.mono ?_
              rintro E w3 ⟨rfl, hg3⟩
              have H3 := Lib.hid hg3; clear hg3)))
          refine ⟨rfl, (H2.out.1.but _).trans (H3.out.but _), ?_⟩
          rw [H.out.2.2]
        · obtain ⟨v, hv⟩ := parse_digits (by simp) hdig (by simp; omega)
          have hpl : plainNum (x :: l) = true := by
            simp only [plainNum, List.length_cons, List.head?_cons, Bool.and_eq_true, decide_eq_true_eq, Bool.not_eq_true', Bool.and_eq_false_iff]
            refine ⟨by omega, ?_⟩
            clear hrr
            by_cases h1 : 1 < s.size
            · right
              have : ¬ x = 48 := fun e => h48 ⟨h1, e⟩
              simpa using this
            · left; rw [decide_eq_false_iff_not]; omega
          rw [hv] at hrr
          simp only [hdx, hpl, Bool.true_and, decide_eq_true_eq] at hrr
          have hpar := fun wx => parseInt_ok s (by omega) v (by rw [hsd]; exact hv) wx
          by_cases hvb : bound < v
          · have hr : numR bound (T.drop i) = .no tn := by rw [hrr, if_neg (by omega)]
            rw [hr]
            have H := Lib.hid (And.intro h (And.intro hT (And.intro hd' hpar))); clear h hT hd' hok hr hrr h10 hpar hpl hdig hv
            by_cases h1 : 1 < s.size
            · have k1 : (1 : Int) < (s.size : Int) := by omega
              have k48 : ((x.toNat : Int) == 48) = false := by
                have : x.toNat ≠ 48 := fun e => h48 ⟨h1, UInt8.toNat_inj.1 e⟩
                rw [beq_eq_false_iff_ne]; omega
              clear h48 h1
              clear hsz hsd hs
              go_enter Tryd.func70, Tryd.ntmps70
              go_wp2_with fail
              go_quiet (fail)
              have hg2 := grown_drewN w nq none
              have H2 := Lib.hid hg2; clear hg2
              go_wp2_with (first
                | (go_at_call 43; (
                  refine (digit_any x _).mono ?_
                  rintro E w2 ⟨rfl, rfl⟩
                  rw [hdx]))
                | (go_at_call 89; (
                  refine (H.out.2.2.2 _).mono ?_
                  rintro E w3 ⟨rfl, hb3⟩
                  have hg3 := H2.out.trans (grown_of_below hb3 none)
                  have hf := fail_any w3 g tb c i T (H.out.1.kept hg3) H.out.2.1
                  have H3 := Lib.hid (And.intro hg3 hf); clear hg3 hf hb3))
                | (go_at_call 27; (
                  refine H3.out.2.mono ?_
                  rintro E w4 ⟨rfl, hg4⟩
                  have H4 := Lib.hid hg4; clear hg4)))
              refine ⟨rfl, (H3.out.1.but _).trans (H4.out.but _), ?_⟩
              rw [H.out.2.2.1]
            · have k1 : ¬ (1 : Int) < (s.size : Int) := by omega
              clear h48 h1
              clear hsz hsd hs
              go_enter Tryd.func70, Tryd.ntmps70
              go_wp2_with fail
              go_quiet (fail)
              have hg2 := grown_drewN w nq none
              have H2 := Lib.hid hg2; clear hg2
              go_wp2_with (first
                | (go_at_call 43; (
                  refine (digit_any x _).mono ?_
                  rintro E w2 ⟨rfl, rfl⟩
                  rw [hdx]))
                | (go_at_call 89; (
                  refine (H.out.2.2.2 _).mono ?_
                  rintro E w3 ⟨rfl, hb3⟩
                  have hg3 := H2.out.trans (grown_of_below hb3 none)
                  have hf := fail_any w3 g tb c i T (H.out.1.kept hg3) H.out.2.1
                  have H3 := Lib.hid (And.intro hg3 hf); clear hg3 hf hb3))
                | (go_at_call 27; (
                  refine H3.out.2.mono ?_
                  rintro E w4 ⟨rfl, hg4⟩
                  have H4 := Lib.hid hg4; clear hg4)))
              refine ⟨rfl, (H3.out.1.but _).trans (H4.out.but _), ?_⟩
              rw [H.out.2.2.1]
          · have hr : numR bound (T.drop i) = .ok v (T.drop i).tail := by rw [hrr, if_pos (by omega)]
            rw [hr]
            have H := Lib.hid (And.intro h (And.intro hT (And.intro hd' (And.intro hpar hmo)))); clear h hT hd' hok hr hrr h10 hpar hpl hdig hv
            by_cases h1 : 1 < s.size
            · have k1 : (1 : Int) < (s.size : Int) := by omega
              have k48 : ((x.toNat : Int) == 48) = false := by
                have : x.toNat ≠ 48 := fun e => h48 ⟨h1, UInt8.toNat_inj.1 e⟩
                rw [beq_eq_false_iff_ne]; omega
              clear h48 h1
              clear hsz hsd hs
              go_enter Tryd.func70, Tryd.ntmps70
              go_wp2_with fail
              go_quiet (fail)
              have hg2 := grown_drewN w nq none
              have H2 := Lib.hid hg2; clear hg2
              go_wp2_with (first
                | (go_at_call 43; (
                  refine (digit_any x _).mono ?_
                  rintro E w2 ⟨rfl, rfl⟩
                  rw [hdx]))
                | (go_at_call 89; (
                  refine (H.out.2.2.2.1 _).mono ?_
                  rintro E w3 ⟨rfl, hb3⟩
                  have hg3 := H2.out.trans (grown_of_below hb3 none)
                  obtain ⟨k1, k2⟩ := H.out.1.facts2 hg3
                  have H3 := Lib.hid hg3; clear hg3 hb3)))
              go_ret
              obtain ⟨h3, h4⟩ := H.out.1.next H3.out H.out.2.2.2.2
              exact ⟨h3, _, i + 1, rfl, rfl, tail_drop.symm, h4⟩
            · have k1 : ¬ (1 : Int) < (s.size : Int) := by omega
              clear h48 h1
              clear hsz hsd hs
              go_enter Tryd.func70, Tryd.ntmps70
              go_wp2_with fail
              go_quiet (fail)
              have hg2 := grown_drewN w nq none
              have H2 := Lib.hid hg2; clear hg2
              go_wp2_with (first
                | (go_at_call 43; (
                  refine (digit_any x _).mono ?_
                  rintro E w2 ⟨rfl, rfl⟩
                  rw [hdx]))
                | (go_at_call 89; (
                  refine (H.out.2.2.2.1 _).mono ?_
                  rintro E w3 ⟨rfl, hb3⟩
                  have hg3 := H2.out.trans (grown_of_below hb3 none)
                  obtain ⟨k1, k2⟩ := H.out.1.facts2 hg3
                  have H3 := Lib.hid hg3; clear hg3 hb3)))
              go_ret
              obtain ⟨h3, h4⟩ := H.out.1.next H3.out H.out.2.2.2.2
              exact ⟨h3, _, i + 1, rfl, rfl, tail_drop.symm, h4⟩
end Go.Proofs.YtgiceeholamphaaDoor
