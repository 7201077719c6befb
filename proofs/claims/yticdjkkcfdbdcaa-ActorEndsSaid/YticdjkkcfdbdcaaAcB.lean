/- actor.kind, actor.formed. No conditions. -/
import Derived.Test.YticdjkkcfdbdcaaAcA
import Derived.Test.YticdjkkcfdbdcaaAcR
namespace Go.Proofs.Yticdjkkcfdbdcaa
open Go.ChangeShapes Go.WideShapes Go.ChangeAt Go.RowKit
set_option maxRecDepth 100000 in
theorem kind_b (k : Int) (r : Bool) (w : World) (h : decide (kindOk k) = r) : Calls Try.prog 66 #[.int .i64 k] w fun e w' => e = .returned (.bool r) ∧ w = w' := by
  subst h
  by_cases h1 : 1 ≤ k
  · by_cases h2 : k ≤ 100
    · go_enter Try.func66, Try.ntmps66
      go_wp2
      go_ret
      exact ⟨retBool (decide_eq_true (show kindOk k from ⟨h1, h2⟩)).symm, rfl⟩
    · go_enter Try.func66, Try.ntmps66
      go_wp2
      go_ret
      exact ⟨retBool (decide_eq_false (fun h => by unfold kindOk at h; omega)).symm, rfl⟩
  · go_enter Try.func66, Try.ntmps66
    go_wp2
    go_ret
    exact ⟨retBool (decide_eq_false (fun h => by unfold kindOk at h; omega)).symm, rfl⟩
def cellsU (r : RuleR) : List Value := [.int .i64 r.kind, .int .i64 r.times, .int .i64 r.plus, .int .i64 r.mod, .int .i64 r.send, .int .i64 r.to, .int .i64 r.after]
set_option maxRecDepth 100000 in
set_option maxHeartbeats 8000000 in
theorem aformed_b (w : World) (n : Nat) (r : RuleR) : Calls Try.prog 67 #[.agg (cellsU r).toArray, .int .i64 n] w fun e w' => e = .returned (.bool (decide (ruleOk n r))) ∧ Below w.heap.size w w' := by
  obtain ⟨kd, ti, pl, md, sd, dt, af⟩ := r
  have hbl : ∀ o : Obj, Below w.heap.size w (w.alloc o) := fun o => (Below.refl _ _).alloc (Nat.le_refl _) o
  have Hbl := Lib.hid hbl; clear hbl
  have hu : ruleOk n ⟨kd, ti, pl, md, sd, dt, af⟩ ↔ kindOk kd ∧ 0 ≤ md ∧ ((md = 0 ∧ sd = 0 ∧ dt = 0 ∧ af = 0) ∨ (md ≠ 0 ∧ kindOk sd ∧ 0 ≤ dt ∧ dt < n ∧ 1 ≤ af ∧ af ≤ 1000)) := Iff.rfl
  unfold cellsU
  obtain ⟨b1, hb1⟩ : ∃ b, decide (kindOk kd) = b := ⟨_, rfl⟩
  obtain ⟨b2, hb2⟩ : ∃ b, decide (kindOk sd) = b := ⟨_, rfl⟩
  obtain ⟨ok, hok⟩ : ∃ b, decide (ruleOk n ⟨kd, ti, pl, md, sd, dt, af⟩) = b := ⟨_, rfl⟩
  rw [hok]
  have hk1 : kindOk kd ↔ b1 = true := by rw [← hb1, decide_eq_true_iff]
  have hk2 : kindOk sd ↔ b2 = true := by rw [← hb2, decide_eq_true_iff]
  rw [hk1, hk2] at hu
  have hoki : ok = true ↔ ruleOk n ⟨kd, ti, pl, md, sd, dt, af⟩ := by rw [← hok, decide_eq_true_iff]
  rw [hu] at hoki
  have Hok := Lib.hid hoki
  have H1 := Lib.hid hb1; have H2 := Lib.hid hb2
  clear hoki hb1 hb2 hk1 hk2 hu hok
  cases b1 with
  | false =>
    have hf : ok = false := by rw [← Bool.not_eq_true, Hok.out]; simp <;> omega
    subst hf
    clear Hok
    go_enter Try.func67, Try.ntmps67
    go_wp2_with (go_at_call 66; first | (refine (kind_b _ _ _ H1.out).mono ?_; rintro e w' ⟨rfl, rfl⟩) | (refine (kind_b _ _ _ H2.out).mono ?_; rintro e w' ⟨rfl, rfl⟩))
    go_ret
    exact ⟨by first | rfl | exact retBool (by simp [*]), Hbl.out _⟩
  | true =>
    by_cases hm : md < 0
    ·
      have hf : ok = false := by rw [← Bool.not_eq_true, Hok.out]; simp <;> omega
      subst hf
      clear Hok
      go_enter Try.func67, Try.ntmps67
      go_wp2_with (go_at_call 66; first | (refine (kind_b _ _ _ H1.out).mono ?_; rintro e w' ⟨rfl, rfl⟩) | (refine (kind_b _ _ _ H2.out).mono ?_; rintro e w' ⟨rfl, rfl⟩))
      go_ret
      exact ⟨by first | rfl | exact retBool (by simp [*]), Hbl.out _⟩
    by_cases h0 : md = 0
    · subst h0
      by_cases hs : sd = 0
      rotate_left
      ·
        have hf : ok = false := by rw [← Bool.not_eq_true, Hok.out]; simp <;> omega
        subst hf
        clear Hok
        go_enter Try.func67, Try.ntmps67
        go_wp2_with (go_at_call 66; first | (refine (kind_b _ _ _ H1.out).mono ?_; rintro e w' ⟨rfl, rfl⟩) | (refine (kind_b _ _ _ H2.out).mono ?_; rintro e w' ⟨rfl, rfl⟩))
        go_ret
        exact ⟨by first | rfl | exact retBool (by simp [*]), Hbl.out _⟩
      by_cases ht : dt = 0
      rotate_left
      ·
        have hf : ok = false := by rw [← Bool.not_eq_true, Hok.out]; simp <;> omega
        subst hf
        clear Hok
        go_enter Try.func67, Try.ntmps67
        go_wp2_with (go_at_call 66; first | (refine (kind_b _ _ _ H1.out).mono ?_; rintro e w' ⟨rfl, rfl⟩) | (refine (kind_b _ _ _ H2.out).mono ?_; rintro e w' ⟨rfl, rfl⟩))
        go_ret
        exact ⟨by first | rfl | exact retBool (by simp [*]), Hbl.out _⟩
      by_cases ha : af = 0
      rotate_left
      ·
        have hf : ok = false := by rw [← Bool.not_eq_true, Hok.out]; simp <;> omega
        subst hf
        clear Hok
        go_enter Try.func67, Try.ntmps67
        go_wp2_with (go_at_call 66; first | (refine (kind_b _ _ _ H1.out).mono ?_; rintro e w' ⟨rfl, rfl⟩) | (refine (kind_b _ _ _ H2.out).mono ?_; rintro e w' ⟨rfl, rfl⟩))
        go_ret
        exact ⟨by first | rfl | exact retBool (by simp [*]), Hbl.out _⟩
      have hf : ok = true := by rw [Hok.out]; simp <;> omega
      subst hf
      clear Hok
      go_enter Try.func67, Try.ntmps67
      go_wp2_with (go_at_call 66; first | (refine (kind_b _ _ _ H1.out).mono ?_; rintro e w' ⟨rfl, rfl⟩) | (refine (kind_b _ _ _ H2.out).mono ?_; rintro e w' ⟨rfl, rfl⟩))
      go_ret
      exact ⟨by first | rfl | exact retBool (by simp [*]), Hbl.out _⟩
    · cases b2 with
      | false =>
        have hf : ok = false := by rw [← Bool.not_eq_true, Hok.out]; simp <;> omega
        subst hf
        clear Hok
        go_enter Try.func67, Try.ntmps67
        go_wp2_with (go_at_call 66; first | (refine (kind_b _ _ _ H1.out).mono ?_; rintro e w' ⟨rfl, rfl⟩) | (refine (kind_b _ _ _ H2.out).mono ?_; rintro e w' ⟨rfl, rfl⟩))
        go_ret
        exact ⟨by first | rfl | exact retBool (by simp [*]), Hbl.out _⟩
      | true =>
        by_cases ht : 0 ≤ dt
        rotate_left
        ·
          have hf : ok = false := by rw [← Bool.not_eq_true, Hok.out]; simp <;> omega
          subst hf
          clear Hok
          go_enter Try.func67, Try.ntmps67
          go_wp2_with (go_at_call 66; first | (refine (kind_b _ _ _ H1.out).mono ?_; rintro e w' ⟨rfl, rfl⟩) | (refine (kind_b _ _ _ H2.out).mono ?_; rintro e w' ⟨rfl, rfl⟩))
          go_ret
          exact ⟨by first | rfl | exact retBool (by simp [*]), Hbl.out _⟩
        by_cases hn : dt < (n : Int)
        rotate_left
        ·
          have hf : ok = false := by rw [← Bool.not_eq_true, Hok.out]; simp <;> omega
          subst hf
          clear Hok
          go_enter Try.func67, Try.ntmps67
          go_wp2_with (go_at_call 66; first | (refine (kind_b _ _ _ H1.out).mono ?_; rintro e w' ⟨rfl, rfl⟩) | (refine (kind_b _ _ _ H2.out).mono ?_; rintro e w' ⟨rfl, rfl⟩))
          go_ret
          exact ⟨by first | rfl | exact retBool (by simp [*]), Hbl.out _⟩
        by_cases ha : 1 ≤ af
        rotate_left
        ·
          have hf : ok = false := by rw [← Bool.not_eq_true, Hok.out]; simp <;> omega
          subst hf
          clear Hok
          go_enter Try.func67, Try.ntmps67
          go_wp2_with (go_at_call 66; first | (refine (kind_b _ _ _ H1.out).mono ?_; rintro e w' ⟨rfl, rfl⟩) | (refine (kind_b _ _ _ H2.out).mono ?_; rintro e w' ⟨rfl, rfl⟩))
          go_ret
          exact ⟨by first | rfl | exact retBool (by simp [*]), Hbl.out _⟩
        by_cases hb : af ≤ 1000
        rotate_left
        ·
          have hf : ok = false := by rw [← Bool.not_eq_true, Hok.out]; simp <;> omega
          subst hf
          clear Hok
          go_enter Try.func67, Try.ntmps67
          go_wp2_with (go_at_call 66; first | (refine (kind_b _ _ _ H1.out).mono ?_; rintro e w' ⟨rfl, rfl⟩) | (refine (kind_b _ _ _ H2.out).mono ?_; rintro e w' ⟨rfl, rfl⟩))
          go_ret
          exact ⟨by first | rfl | exact retBool (by simp [*]), Hbl.out _⟩
        have hf : ok = true := by rw [Hok.out]; simp <;> omega
        subst hf
        clear Hok
        go_enter Try.func67, Try.ntmps67
        go_wp2_with (go_at_call 66; first | (refine (kind_b _ _ _ H1.out).mono ?_; rintro e w' ⟨rfl, rfl⟩) | (refine (kind_b _ _ _ H2.out).mono ?_; rintro e w' ⟨rfl, rfl⟩))
        go_ret
        exact ⟨by first | rfl | exact retBool (by simp [*]), Hbl.out _⟩
end Go.Proofs.Yticdjkkcfdbdcaa
