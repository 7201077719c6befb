/- The operators of scan as plain arithmetic; they are associative. No program; no conditions. -/
import Derived.RowKit
import Derived.Laws.BitsLemmas
import Derived.Laws.Bits64
namespace Go.Proofs.Ytnabgoljnfaebaa
open Go.RowKit
/-- An int of 64 bits. -/
def I64 (n : Int) : Prop := -9223372036854775808 ≤ n ∧ n ≤ 9223372036854775807
def hiS (a : Int) : Int := a / 4294967296 % 2147483647
def loS (a : Int) : Int := a % 4294967296 % 2147483647
def stepsI (a b : Int) : Int := hiS a * hiS b % 2147483647 * 4294967296 + (loS a * hiS b % 2147483647 + loS b) % 2147483647
/-- What the operator makes of two. -/
def two (op a b : Int) : Int := if op = 1 then wrap64 (a + b) else if op = 2 then max a b else if op = 3 then (if b = 0 then a else b) else stepsI a b
theorem hiS_bd (a : Int) : 0 ≤ hiS a ∧ hiS a < 2147483647 := ⟨Int.emod_nonneg _ (by decide), Int.emod_lt_of_pos _ (by decide)⟩
theorem loS_bd (a : Int) : 0 ≤ loS a ∧ loS a < 2147483647 := ⟨Int.emod_nonneg _ (by decide), Int.emod_lt_of_pos _ (by decide)⟩
theorem mul_bd {x y : Int} (hx : 0 ≤ x ∧ x < 2147483647) (hy : 0 ≤ y ∧ y < 2147483647) : 0 ≤ x * y ∧ x * y ≤ 4611686011984936962 := by
  refine ⟨Int.mul_nonneg hx.1 hy.1, ?_⟩
  have h1 : x * y ≤ 2147483646 * y := Int.mul_le_mul_of_nonneg_right (by omega) hy.1
  have h2 : 2147483646 * y ≤ 2147483646 * 2147483646 := Int.mul_le_mul_of_nonneg_left (by omega) (by decide)
  omega
theorem packed {h l : Int} (hh : 0 ≤ h ∧ h < 2147483647) (hl : 0 ≤ l ∧ l < 2147483647) : hiS (h * 4294967296 + l) = h ∧ loS (h * 4294967296 + l) = l := by
  unfold hiS loS
  constructor <;> omega
theorem steps_i64 (a b : Int) : I64 (stepsI a b) := by
  unfold stepsI I64
  have h1 : 0 ≤ hiS a * hiS b % 2147483647 := Int.emod_nonneg _ (by decide)
  have h2 : hiS a * hiS b % 2147483647 < 2147483647 := Int.emod_lt_of_pos _ (by decide)
  have h3 : 0 ≤ (loS a * hiS b % 2147483647 + loS b) % 2147483647 := Int.emod_nonneg _ (by decide)
  have h4 : (loS a * hiS b % 2147483647 + loS b) % 2147483647 < 2147483647 := Int.emod_lt_of_pos _ (by decide)
  omega
theorem two_i64 {op a b : Int} (ha : I64 a) (hb : I64 b) : I64 (two op a b) := by
  unfold two
  split
  · unfold I64 wrap64 at *; omega
  · split
    · unfold I64 at *; omega
    · split
      · split
        · exact ha
        · exact hb
      · exact steps_i64 a b
theorem steps_hi (a b : Int) : hiS (stepsI a b) = hiS a * hiS b % 2147483647 := (packed ⟨Int.emod_nonneg _ (by decide), Int.emod_lt_of_pos _ (by decide)⟩ ⟨Int.emod_nonneg _ (by decide), Int.emod_lt_of_pos _ (by decide)⟩).1
theorem steps_lo (a b : Int) : loS (stepsI a b) = (loS a * hiS b % 2147483647 + loS b) % 2147483647 := (packed ⟨Int.emod_nonneg _ (by decide), Int.emod_lt_of_pos _ (by decide)⟩ ⟨Int.emod_nonneg _ (by decide), Int.emod_lt_of_pos _ (by decide)⟩).2
theorem emod_mul_l (x y m : Int) : x % m * y % m = x * y % m := by rw [Int.mul_emod, Int.emod_emod, ← Int.mul_emod]
theorem emod_mul_r (x y m : Int) : x * (y % m) % m = x * y % m := by rw [Int.mul_emod, Int.emod_emod, ← Int.mul_emod]
theorem emod_add_l (x y m : Int) : (x % m + y) % m = (x + y) % m := by rw [Int.add_emod, Int.emod_emod, ← Int.add_emod]
theorem emod_add_r (x y m : Int) : (x + y % m) % m = (x + y) % m := by rw [Int.add_emod, Int.emod_emod, ← Int.add_emod]
theorem steps_assoc (a b c : Int) : stepsI (stepsI a b) c = stepsI a (stepsI b c) := by
  have e1 : hiS (stepsI a b) * hiS c % 2147483647 = hiS a * hiS (stepsI b c) % 2147483647 := by
    rw [steps_hi, steps_hi, emod_mul_l, emod_mul_r, Int.mul_assoc]
  have e2 : (loS (stepsI a b) * hiS c % 2147483647 + loS c) % 2147483647 = (loS a * hiS (stepsI b c) % 2147483647 + loS (stepsI b c)) % 2147483647 := by
    rw [steps_lo, steps_lo, steps_hi]
    simp only [emod_mul_l, emod_mul_r, emod_add_l, emod_add_r]
    rw [Int.add_mul, Int.mul_assoc, Int.add_assoc]
  show hiS (stepsI a b) * hiS c % 2147483647 * 4294967296 + (loS (stepsI a b) * hiS c % 2147483647 + loS c) % 2147483647 = hiS a * hiS (stepsI b c) % 2147483647 * 4294967296 + (loS a * hiS (stepsI b c) % 2147483647 + loS (stepsI b c)) % 2147483647
  rw [e1, e2]
theorem two_assoc (op a b c : Int) : two op (two op a b) c = two op a (two op b c) := by
  unfold two
  split
  · unfold wrap64; omega
  · split
    · omega
    · split
      · by_cases hb : b = 0 <;> by_cases hc : c = 0 <;> simp [hb, hc]
      · exact steps_assoc a b c
theorem bits_low (a : Int) (ha : I64 a) : bits .and .i64 a 4294967295 = a % 4294967296 := by
  have e : bits .and .i64 a 4294967295 = IntKind.i64.wrap ((BitVec.ofInt 64 a &&& BitVec.ofInt 64 4294967295).toNat : Int) := rfl
  have h2 : (BitVec.ofInt 64 4294967295).toNat = 2 ^ 32 - 1 := by decide
  have h3 : (BitVec.ofInt 64 a).toNat = (a % 18446744073709551616).toNat := by rw [BitVec.toNat_ofInt]; rfl
  rw [e, BitVec.toNat_and, h2, Nat.and_two_pow_sub_one_eq_mod, h3, IntKind.wrap_i64]
  have h4 : (2 : Nat) ^ 32 = 4294967296 := by decide
  rw [h4]
  omega
theorem bits_pack (h l : Int) (hh : 0 ≤ h ∧ h < 2147483647) (hl : 0 ≤ l ∧ l < 2147483647) : bits .or .i64 (h * 4294967296) l = h * 4294967296 + l := by
  obtain ⟨a, rfl⟩ := Int.eq_ofNat_of_zero_le hh.1
  obtain ⟨b, rfl⟩ := Int.eq_ofNat_of_zero_le hl.1
  have hw : ∀ n : Int, 0 ≤ n → n < 2 ^ 63 → IntKind.i64.wrap n = n := fun n h0 h1 => by
    rw [IntKind.wrap_i64]
    have : (2 : Int) ^ 63 = 9223372036854775808 := by decide
    omega
  have ha : a * 4294967296 < 2 ^ 63 := by have : (2 : Nat) ^ 63 = 9223372036854775808 := by decide
                                          omega
  have hb : b < 2 ^ 63 := by have : (2 : Nat) ^ 63 = 9223372036854775808 := by decide
                             omega
  have := (bits_nat .i64 63 (by decide) hw (a * 4294967296) b ha hb).2
  have e : a * 4294967296 ||| b = a * 4294967296 + b := by
    have e32 : (2 : Nat) ^ 32 = 4294967296 := by decide
    have := Nat.two_pow_add_eq_or_of_lt (i := 32) (b := b) (by rw [e32]; omega) a
    rw [e32, Nat.mul_comm] at this
    exact this.symm
  rw [e] at this
  simpa using this
end Go.Proofs.Ytnabgoljnfaebaa
