/- Contracts of the reference's functions on jobs: Between, Workers, allDone. No conditions but that what is read is there. -/
import Derived.Test.YticdjkkcfdbdcaaGraphDefs
import Derived.Test.YticdjkkcfdbdcaaRows
namespace Go.Proofs.Yticdjkkcfdbdcaa
open Go.ChangeShapes Go.WideShapes Go.ChangeAt Go.RowKit
set_option maxHeartbeats 400000 in
theorem between_t (a b c : Int) (w : World) (h : b ≤ a ∧ a ≤ c) : Calls Try.prog 54 #[.int .i64 a, .int .i64 b, .int .i64 c] w fun e w' => e = .returned (.bool true) ∧ w = w' := by
  obtain ⟨h1, h2⟩ := h
  go_enter Try.func54, Try.ntmps54
  go_wp2
  go_ret
  exact ⟨rfl, rfl⟩
set_option maxHeartbeats 400000 in
theorem between_f (a b c : Int) (w : World) (h : ¬ (b ≤ a ∧ a ≤ c)) : Calls Try.prog 54 #[.int .i64 a, .int .i64 b, .int .i64 c] w fun e w' => e = .returned (.bool false) ∧ w = w' := by
  by_cases h1 : b ≤ a
  · have h2 : c < a := by omega
    go_enter Try.func54, Try.ntmps54
    go_wp2
    go_ret
    exact ⟨retBool (decide_eq_false (by omega)), rfl⟩
  · go_enter Try.func54, Try.ntmps54
    go_wp2
    go_ret
    exact ⟨rfl, rfl⟩
/-- Are all of a list done? -/
def allIn (bs : List Bool) (l : List Int) : Bool := l.all fun a => bs.getD a.toNat false
set_option maxHeartbeats 1000000 in
theorem allDone (w : World) (B B' : Nat) (A A' : Option Addr) (n c m c' : Nat) (js : List Int) (bs : List Bool) (hA : Rd w B A (ints js)) (hb : Rd w B' A' (bools bs))
    (hlen : js.length = n) (hlen' : bs.length = m) (hn : Fits n) (hm : Fits m) (hj : ∀ j ∈ js, okIn m j) :
    Calls Try.prog 60 #[.slice A n c, .slice A' m c'] w fun e w' => e = .returned (.bool (allIn bs js)) ∧ w = w' := by
  have Hlen := Lib.hid hlen; clear hlen
  have Hlen' := Lib.hid hlen'; clear hlen'
  unfold Fits at hn hm
  go_enter Try.func60, Try.ntmps60
  go_wp2
  go_loop [5] (fun i => ∃ k : Nat, k ≤ n ∧ i = .int .i64 k ∧ allIn bs (js.take k) = true) (fun i => n - (intOf i).toNat)
  case atStart => exact ⟨0, by omega, rfl, rfl⟩
  case round =>
    obtain ⟨k, hk, rfl, hall⟩ := hrel
    have Hall := Lib.hid hall; clear hall
    by_cases hlt : k < n
    · have hjk : k < js.length := by have := Hlen.out; omega
      obtain ⟨b, o, rfl, _, hc⟩ := hA.atMap hjk
      have hmem : js[k] ∈ js := List.getElem_mem _
      obtain ⟨hj0, hj1⟩ := hj _ hmem
      have htake : js.take (k + 1) = js.take k ++ [js[k]] := by simp
      generalize hjx : js[k] = x at *
      obtain ⟨x, rfl⟩ := Int.eq_ofNat_of_zero_le hj0
      have hjb : x < bs.length := by have := Hlen'.out; omega
      obtain ⟨b', o', rfl, _, hc'⟩ := hb.atMap hjb
      have Ht := Lib.hid htake
      have Hmem := Lib.hid hmem
      clear hjx hA hb hj htake hmem
      have hxm : x < m := by omega
      cases hbx : bs[x] <;> rw [hbx] at hc' <;> have Hbx := Lib.hid hbx <;> clear hbx
      · go_wp2
        go_ret
        refine ⟨retBool ?_, rfl⟩
        show false = _
        rw [eq_comm, allIn, List.all_eq_false]
        exact ⟨_, Hmem.out, by simp [hjb, Hbx.out]⟩
      · go_wp2
        go_round
        case rel => exact ⟨k + 1, by omega, by go_num, by rw [Ht.out, allIn, List.all_append, Bool.and_eq_true]; exact ⟨Hall.out, by simp [hjb, Hbx.out]⟩⟩
        case measure => simp [intOf]; omega
    · have hk' : n ≤ k := by omega
      go_wp2
      go_ret
      refine ⟨retBool ?_, rfl⟩
      have := Hall.out
      rw [List.take_of_length_le (by rw [Hlen.out]; omega)] at this
      exact this.symm
theorem allDone_b (b : Bool) (w : World) (B B' : Nat) (A A' : Option Addr) (n c m c' : Nat) (js : List Int) (bs : List Bool) (hA : Rd w B A (ints js)) (hb : Rd w B' A' (bools bs))
    (hlen : js.length = n) (hlen' : bs.length = m) (hn : Fits n) (hm : Fits m) (hj : ∀ j ∈ js, okIn m j) (hbb : allIn bs js = b) :
    Calls Try.prog 60 #[.slice A n c, .slice A' m c'] w fun e w' => e = .returned (.bool b) ∧ w = w' := by
  subst hbb; exact allDone w B B' A A' n c m c' js bs hA hb hlen hlen' hn hm hj
end Go.Proofs.Yticdjkkcfdbdcaa
