/- The contracts of stepref.Own, stepref.Named, lang.word, lang.IsName: may a name be? No conditions. -/
import Derived.Test.YtgiceeholamphaaDoorLangOk
import Derived.Test.YtgiceeholamphaaDoorChecked
import Derived.Laws.RangeAny
import Derived.LoopTactic
import Derived.Lib.SlicesS
namespace Go.Proofs.YtgiceeholamphaaDoor
open Go.ChangeShapes Go.WideShapes Go.ChangeAt Go.RowKit

theorem bytes_ext {s t : ByteArray} (h : s.toList = t.toList) : s = t := (Lib.bytes_beq_iff s t).1 (by rw [h]; simp)
theorem bytes_of {s : ByteArray} {l : List UInt8} (h : s.toList = l) : s = ⟨l.toArray⟩ := bytes_ext (by rw [h]; simp)
theorem own_any (w : World) (s : ByteArray) : Calls Tryd.prog 36 #[.string s] w fun e w' => e = .returned (.bool (decide (ownWord s))) ∧ w = w' := by
  have yes : ∀ s, ownWord s → decide (ownWord s) = true := fun s h => decide_eq_true h
  by_cases k1 : s = ⟨#[105, 102]⟩
  · subst k1
    go_enter Tryd.func36, Tryd.ntmps36
    go_wp2
    go_ret
    exact ⟨by rw [yes _ (.inl rfl)]; rfl, rfl⟩
  by_cases k2 : s = ⟨#[101, 108, 115, 101]⟩
  · subst k2
    go_enter Tryd.func36, Tryd.ntmps36
    go_wp2
    go_ret
    exact ⟨by rw [yes _ (.inr (.inl rfl))]; rfl, rfl⟩
  by_cases k3 : s = ⟨#[114, 101, 112, 101, 97, 116]⟩
  · subst k3
    go_enter Tryd.func36, Tryd.ntmps36
    go_wp2
    go_ret
    exact ⟨by rw [yes _ (.inr (.inr (.inl rfl)))]; rfl, rfl⟩
  by_cases k4 : s = ⟨#[112, 97, 114]⟩
  · subst k4
    go_enter Tryd.func36, Tryd.ntmps36
    go_wp2
    go_ret
    exact ⟨by rw [yes _ (.inr (.inr (.inr (.inl rfl))))]; rfl, rfl⟩
  by_cases k5 : s = ⟨#[97, 110, 100]⟩
  · subst k5
    go_enter Tryd.func36, Tryd.ntmps36
    go_wp2
    go_ret
    exact ⟨by rw [yes _ (.inr (.inr (.inr (.inr rfl))))]; rfl, rfl⟩
  have no : ¬ ownWord s := by rintro (h | h | h | h | h) <;> contradiction
  have e1 : (s.toList == [105, 102]) = false := beq_eq_false_iff_ne.2 fun h => k1 (bytes_of h)
  have e2 : (s.toList == [101, 108, 115, 101]) = false := beq_eq_false_iff_ne.2 fun h => k2 (bytes_of h)
  have e3 : (s.toList == [114, 101, 112, 101, 97, 116]) = false := beq_eq_false_iff_ne.2 fun h => k3 (bytes_of h)
  have e4 : (s.toList == [112, 97, 114]) = false := beq_eq_false_iff_ne.2 fun h => k4 (bytes_of h)
  have e5 : (s.toList == [97, 110, 100]) = false := beq_eq_false_iff_ne.2 fun h => k5 (bytes_of h)
  have No := Lib.hid no; clear no yes k1 k2 k3 k4 k5
  go_enter Tryd.func36, Tryd.ntmps36
  go_wp2
  go_ret
  exact ⟨by rw [decide_eq_false No.out]; first | rfl | exact retBool (by simp [e1, e2, e3, e4, e5]), rfl⟩
theorem word_any (w : World) (s : ByteArray) : Calls Tryd.prog 90 #[.string s] w fun e w' => e = .returned (.bool (decide (ownWord s))) ∧ w = w' := by
  have yes : ∀ s, ownWord s → decide (ownWord s) = true := fun s h => decide_eq_true h
  by_cases k1 : s = ⟨#[105, 102]⟩
  · subst k1
    go_enter Tryd.func90, Tryd.ntmps90
    go_wp2
    go_ret
    exact ⟨by rw [yes _ (.inl rfl)]; rfl, rfl⟩
  by_cases k2 : s = ⟨#[101, 108, 115, 101]⟩
  · subst k2
    go_enter Tryd.func90, Tryd.ntmps90
    go_wp2
    go_ret
    exact ⟨by rw [yes _ (.inr (.inl rfl))]; rfl, rfl⟩
  by_cases k3 : s = ⟨#[114, 101, 112, 101, 97, 116]⟩
  · subst k3
    go_enter Tryd.func90, Tryd.ntmps90
    go_wp2
    go_ret
    exact ⟨by rw [yes _ (.inr (.inr (.inl rfl)))]; rfl, rfl⟩
  by_cases k4 : s = ⟨#[112, 97, 114]⟩
  · subst k4
    go_enter Tryd.func90, Tryd.ntmps90
    go_wp2
    go_ret
    exact ⟨by rw [yes _ (.inr (.inr (.inr (.inl rfl))))]; rfl, rfl⟩
  by_cases k5 : s = ⟨#[97, 110, 100]⟩
  · subst k5
    go_enter Tryd.func90, Tryd.ntmps90
    go_wp2
    go_ret
    exact ⟨by rw [yes _ (.inr (.inr (.inr (.inr rfl))))]; rfl, rfl⟩
  have no : ¬ ownWord s := by rintro (h | h | h | h | h) <;> contradiction
  have e1 : (s.toList == [105, 102]) = false := beq_eq_false_iff_ne.2 fun h => k1 (bytes_of h)
  have e2 : (s.toList == [101, 108, 115, 101]) = false := beq_eq_false_iff_ne.2 fun h => k2 (bytes_of h)
  have e3 : (s.toList == [114, 101, 112, 101, 97, 116]) = false := beq_eq_false_iff_ne.2 fun h => k3 (bytes_of h)
  have e4 : (s.toList == [112, 97, 114]) = false := beq_eq_false_iff_ne.2 fun h => k4 (bytes_of h)
  have e5 : (s.toList == [97, 110, 100]) = false := beq_eq_false_iff_ne.2 fun h => k5 (bytes_of h)
  have No := Lib.hid no; clear no yes k1 k2 k3 k4 k5
  go_enter Tryd.func90, Tryd.ntmps90
  go_wp2
  go_ret
  exact ⟨by rw [decide_eq_false No.out]; first | rfl | exact retBool (by simp [e1, e2, e3, e4, e5]), rfl⟩
def okByte (s : ByteArray) (i : Nat) : Prop := ∀ h : i < s.size, 97 ≤ (s[i]'h).toNat ∧ (s[i]'h).toNat ≤ 122
set_option maxRecDepth 100000 in
theorem named_any (w : World) (s : ByteArray) : Calls Tryd.prog 18 #[.string s] w fun e w' => e = .returned (.bool (decide (named s))) ∧ w = w' := by
  by_cases k1 : s.size = 0
  · have no : ¬ named s := fun h => by have := h.1; omega
    have No := Lib.hid no; clear no
    go_enter Tryd.func18, Tryd.ntmps18
    go_wp2_with fail
    go_ret
    exact ⟨by rw [decide_eq_false No.out]; rfl, rfl⟩
  by_cases k2 : 8 < s.size
  · have no : ¬ named s := fun h => by have := h.2.1; omega
    have No := Lib.hid no; clear no
    go_enter Tryd.func18, Tryd.ntmps18
    go_wp2_with fail
    go_ret
    exact ⟨by rw [decide_eq_false No.out]; rfl, rfl⟩
  by_cases k3 : ownWord s
  · have no : ¬ named s := fun h => h.2.2.1 k3
    have No := Lib.hid no; clear no
    go_enter Tryd.func18, Tryd.ntmps18
    go_wp2_with (go_at_call 36; refine (own_any _ _).mono ?_; rintro e w' ⟨rfl, rfl⟩; rw [decide_eq_true k3])
    go_ret
    exact ⟨by rw [decide_eq_false No.out]; rfl, rfl⟩
  have K3 := Lib.hid k3; clear k3
  have e0 : ((s.size : Int) == 0) = false := beq_eq_false_iff_ne.2 (by omega)
  have e8 : ¬ (8 : Int) < s.size := by omega
  have K1 := Lib.hid k1; clear k1
  have K2 := Lib.hid k2; clear k2
  go_enter Tryd.func18, Tryd.ntmps18
  go_wp2_with (go_at_call 36; refine (own_any _ _).mono ?_; rintro e w' ⟨rfl, rfl⟩; rw [decide_eq_false K3.out])
  go_loop [3] (fun i => ∃ k : Nat, k ≤ s.size ∧ i = .int .i64 k ∧ (∀ j, j < k → okByte s j)) (fun i => s.size - (intOf i).toNat)
  case atStart => exact ⟨0, Nat.zero_le _, rfl, fun j hj => absurd hj (by omega)⟩
  case round =>
    obtain ⟨k, hk, rfl, hj⟩ := hrel
    by_cases hks : k < s.size
    · have no : ¬ okByte s k → ¬ named s := fun h h' => h fun hi => h'.2.2.2 k hi
      have Hj := Lib.hid hj; clear hj
      have No := Lib.hid no; clear no
      go_wp2_with fail
      case roundEnd =>
        rename_i h1 h2
        exact ⟨⟨k + 1, by omega, by go_num, fun j hj => by
          rcases Nat.lt_or_ge j k with h | h
          · exact Hj.out j h
          · obtain rfl : j = k := by omega
            exact fun hi => by omega⟩, by simp [intOf]; omega⟩
      all_goals
        rename_i h1
        go_ret
        exact ⟨by rw [decide_eq_false (No.out fun h => by have := h hks; omega)]; rfl, rfl⟩
    · have yes : named s := ⟨by have := K1.out; omega, by have := K2.out; omega, K3.out, fun i hi => hj i (by omega) hi⟩
      have Yes := Lib.hid yes; clear yes hj
      go_wp2_with fail
      go_ret
      exact ⟨by rw [decide_eq_true Yes.out]; rfl, rfl⟩
theorem iter_below (w : World) (s : ByteArray) (pos : Nat) : Below w.heap.size w (w.iter s pos) := (Below.refl _ _).alloc (Nat.le_refl _) _
set_option maxRecDepth 100000 in
theorem isName_any (w : World) (s : ByteArray) : Calls Tryd.prog 78 #[.string s] w fun e w' => e = .returned (.bool (decide (named s))) ∧ Below w.heap.size w w' := by
  by_cases k1 : s.size < 1
  · have no : ¬ named s := fun h => by have := h.1; omega
    have No := Lib.hid no; clear no
    have e1 : (s.size : Int) < 1 := by omega
    go_enter Tryd.func78, Tryd.ntmps78
    go_wp2_with fail
    go_ret
    exact ⟨by rw [decide_eq_false No.out]; rfl, Below.refl _ _⟩
  by_cases k2 : 8 < s.size
  · have no : ¬ named s := fun h => by have := h.2.1; omega
    have No := Lib.hid no; clear no
    have e1 : ¬ (s.size : Int) < 1 := by omega
    have e8 : (8 : Int) < s.size := by omega
    go_enter Tryd.func78, Tryd.ntmps78
    go_wp2_with fail
    go_ret
    exact ⟨by rw [decide_eq_false No.out]; rfl, Below.refl _ _⟩
  have e1 : ¬ (s.size : Int) < 1 := by omega
  have e8 : ¬ (8 : Int) < s.size := by omega
  by_cases k3 : ownWord s
  · have no : ¬ named s := fun h => h.2.2.1 k3
    have No := Lib.hid no; clear no
    go_enter Tryd.func78, Tryd.ntmps78
    go_wp2_with (go_at_call 90; refine (word_any _ _).mono ?_; rintro e w' ⟨rfl, rfl⟩; rw [decide_eq_true k3])
    go_ret
    exact ⟨by rw [decide_eq_false No.out]; rfl, Below.refl _ _⟩
  have K3 := Lib.hid k3; clear k3
  have K1 := Lib.hid k1; clear k1
  have K2 := Lib.hid k2; clear k2
  go_enter Tryd.func78, Tryd.ntmps78
  go_wp2_with (go_at_call 90; refine (word_any _ _).mono ?_; rintro e w' ⟨rfl, rfl⟩; rw [decide_eq_false K3.out])
  go_loopw [4] (fun _ w' => ∃ pos : Nat, w' = w.iter s pos ∧ pos ≤ s.size ∧ (∀ j, j < pos → okByte s j)) (fun _ w' => s.size - w'.iterPos w.heap.size)
  case atStart => exact ⟨0, rfl, Nat.zero_le _, fun j hj => absurd hj (by omega)⟩
  case round =>
    obtain ⟨pos, rfl, hle, hj⟩ := hrel
    by_cases hp : pos < s.size
    · have no : ¬ okByte s pos → ¬ named s := fun h h' => h fun hi => h'.2.2.2 pos hi
      have Hj := Lib.hid hj; clear hj
      have No := Lib.hid no; clear no
      by_cases ha : (s[pos]'hp).toNat < 128
      · have hnx : ∀ ty, (Instr.next (.pointer (some ⟨w.heap.size, 0, none⟩)) true ty).run Tryd.prog (w.iter s pos) = _ := fun ty => run_next_ascii w s pos ty hp ha
        go_wp2_with fail
        case roundEnd =>
          rename_i h1 h2
          exact ⟨⟨pos + 1, rfl, by omega, fun j hj => by
            rcases Nat.lt_or_ge j pos with h | h
            · exact Hj.out j h
            · obtain rfl : j = pos := by omega
              exact fun hi => by omega⟩, by simp; omega⟩
        all_goals
          rename_i h1
          go_ret
          exact ⟨by rw [decide_eq_false (No.out fun h => by have := h hp; omega)]; rfl, iter_below _ _ _⟩
      · have hd := decode_high s pos hp (by omega)
        have hnx : ∀ ty, (Instr.next (.pointer (some ⟨w.heap.size, 0, none⟩)) true ty).run Tryd.prog (w.iter s pos) = _ := fun ty => run_next_any w s pos ty hp
        obtain ⟨hd1, -⟩ := hd
        generalize Utf8.decode s pos = y at *
        obtain ⟨y1, y2⟩ := y
        simp only at hd1
        have h1 : ¬ (y1 : Int) < 97 := by omega
        have h2 : (122 : Int) < y1 := by omega
        clear hd1
        go_wp2_with fail
        go_ret
        exact ⟨by rw [decide_eq_false (No.out fun h => by have := h hp; omega)]; rfl, iter_below _ _ _⟩
    · have yes : named s := ⟨by have := K1.out; omega, by have := K2.out; omega, K3.out, fun i hi => hj i (by omega) hi⟩
      have Yes := Lib.hid yes; clear yes hj
      have hnx : ∀ ty, (Instr.next (.pointer (some ⟨w.heap.size, 0, none⟩)) true ty).run Tryd.prog (w.iter s pos) = _ := fun ty => run_next_end w s pos ty hp
      go_wp2_with fail
      go_ret
      exact ⟨by rw [decide_eq_true Yes.out]; rfl, iter_below _ _ _⟩
end Go.Proofs.YtgiceeholamphaaDoor
