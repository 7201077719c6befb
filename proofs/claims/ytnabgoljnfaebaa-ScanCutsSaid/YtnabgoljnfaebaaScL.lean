/- Contracts of slices.Clone at int64, of scan.parts and of the reference's small functions. No conditions but that what is read is there. -/
import Derived.Test.YtnabgoljnfaebaaScO
import Derived.Test.YtnabgoljnfaebaaScF
import Derived.Deep.DeepCutAuto
import Derived.Deep.LoopGhost
import Derived.Lib.SliceRun
import Derived.WalkSmall
namespace Go.Proofs.Ytnabgoljnfaebaa
open Go.ChangeShapes Go.WideShapes Go.ChangeAt Go.RowKit
theorem info_i64 : (Try.prog.info? 2).map (fun i => (i.zero, i.size, i.bytes)) = some (some (.int .i64 0), 1, 8) := by kernel_rfl
theorem ints_one {l : List Int} : ∀ u ∈ ints l, u.oneCell' = true := fun u hu => by obtain ⟨x, _, rfl⟩ := List.mem_map.1 hu; rfl
theorem Rd.src {w : World} {B : Nat} {A : Option Addr} {vs : List Value} (h : Rd w B A vs) : SrcAt w A vs := fun hn => by
  obtain ⟨b, o, e, _, hc⟩ := h hn
  exact ⟨b, o, e, fun j u hj => by rw [Addr.add_lit']; exact hc j u hj⟩
def CloneP (xs : List Int) (w : World) (E : Ending) (w' : World) : Prop :=
  ∃ v, E = .returned v ∧ w'.ownsRow w.heap.size 2 1 v xs.length (ints xs) ∧ Below w.heap.size w w'
set_option maxRecDepth 100000 in
theorem clone_s (A : Option Addr) (c : Nat) (xs : List Int) (w : World) (B : Nat) (hR : Rd w B A (ints xs)) (hB : B ≤ w.heap.size) (hn : xs.length ≤ 1048576) :
    Calls Try.prog 13 #[.slice A xs.length c] w (CloneP xs w) := by
  obtain ⟨i0, hi0, hz0, hz1, hz2⟩ := info_parts info_i64
  have Hi0 := Lib.hid (And.intro hi0 (And.intro hz0 (And.intro hz1 hz2))); clear hi0 hz0 hz1 hz2
  have HR := Lib.hid hR; clear hR
  cases A with
  | none =>
    have hl : xs = [] := by
      rcases xs with _ | ⟨x, l⟩
      · rfl
      · obtain ⟨b, o, e, _⟩ := HR.out (by simp [ints])
        cases e
    subst hl
    have he := fun (w : World) (a : Option Addr) (n c n' c' : Nat) => Lib.run_eql_slice_nil (P := Try.prog) w _ _ a n c n' c' Try.underlying22
    go_enter Try.func13, Try.ntmps13
    go_wp2_with fail
    go_ret
    exact ⟨_, rfl, ⟨rfl, .inl ⟨rfl, rfl⟩⟩, Below.refl _ _⟩
  | some a =>
    have he := fun (w : World) (a : Option Addr) (n c n' c' : Nat) => Lib.run_eql_slice_nil (P := Try.prog) w _ _ a n c n' c' Try.underlying22
    go_enter Try.func13, Try.ntmps13
    have hlit := World.ownsRow_lit (base := w.heap.size) (e := 2) (size := 1) w #[] 0 (Nat.le_refl _) (by unfold maxLen; omega) rfl
    have hsrc : SrcAt (w.alloc (.cells #[] 2)) (some a) (ints xs) := (HR.out.keep fun p hp => World.cell?_alloc_lt w _ p (by omega)).src
    have HL := Lib.hid (And.intro hlit hsrc); clear hlit hsrc
    go_wp2_with (at_builtin; go_loud (
      refine wpList_append_src rfl (.tmp 5) (.tmp 6) _ rfl w.heap.size 2 i0 _ 1 8 Try.underlying22 Hi0.out.1 Hi0.out.2.1 Hi0.out.2.2.1 Hi0.out.2.2.2 rfl (by decide) (.slice (some ⟨w.heap.size, 0, none⟩) 0 0) 0 _ rfl HL.out.1 (some a) xs.length c (ints xs) rfl (by simp) HL.out.2 ints_one (by unfold maxLen; omega) (by omega) (by simp) ?_
      intro v1 w3 hown3 hg3 _
      have H3 := Lib.hid (And.intro hown3 hg3); clear hown3 hg3))
    go_ret
    refine ⟨_, rfl, by have h := H3.out.1; rw [Nat.zero_add] at h; exact h, ((Below.refl _ _).alloc (Nat.le_refl _) _).grown H3.out.2 (by simp) (fun g h => by cases h; exact Nat.le_refl _)⟩
theorem between_s (n a b : Int) (w : World) : Calls Try.prog 18 #[.int .i64 n, .int .i64 a, .int .i64 b] w fun e w' => e = .returned (.bool (decide (a ≤ n ∧ n ≤ b))) ∧ w = w' := by
  by_cases h1 : a ≤ n <;> by_cases h2 : n ≤ b
  all_goals
    go_enter Try.func18, Try.ntmps18
    go_wp2
    all_goals (first | (exfalso; omega) | (go_ret; exact ⟨retBool (by simp; omega), rfl⟩))
theorem workers_s (n : Int) (w : World) : Calls Try.prog 19 #[.int .i64 n] w fun e w' => e = .returned (.bool (decide (1 ≤ n ∧ n ≤ 16))) ∧ w = w' := by
  go_enter Try.func19, Try.ntmps19
  go_wp2_with (go_at_call 18; refine (between_s _ _ _ _).mono ?_; rintro e w' ⟨rfl, rfl⟩)
  go_ret
  exact ⟨retBool (by simp), rfl⟩
theorem tmod_at (a n : Int) (hn : 0 < n) : a.tmod n = if 0 ≤ a then a % n else -((-a) % n) := by
  split
  · exact Int.tmod_eq_emod_of_nonneg (by assumption)
  · have h := Int.neg_tmod (a := -a) (b := n)
    rw [Int.neg_neg] at h
    rw [h, Int.tmod_eq_emod_of_nonneg (by omega)]
theorem retPair {k k' : IntKind} {a b c d : Int} (h : a = b) (h' : c = d) : Ending.returned (.tuple #[.int k a, .int k' c]) = .returned (.tuple #[.int k b, .int k' d]) := by rw [h, h']
theorem low_neg {a : Int} (h : a.tmod 4294967296 < 0) : wrap64 (a.tmod 4294967296 + 4294967296) = a % 4294967296 := by
  have t := tmod_at a 4294967296 (by decide)
  split at t <;> rw [t] at h ⊢
  · omega
  · rw [w64 (by unfold I64; omega)]; omega
theorem low_pos {a : Int} (h : ¬ a.tmod 4294967296 < 0) : a.tmod 4294967296 = a % 4294967296 := by
  have t := tmod_at a 4294967296 (by decide)
  split at t <;> rw [t] at h ⊢
  omega
theorem high_of {a : Int} (ha : I64 a) : wrap64 ((wrap64 (a - a % 4294967296)).tdiv 4294967296) = a / 4294967296 := by
  obtain ⟨h1, h2⟩ := ha
  have e : a - a % 4294967296 = 4294967296 * (a / 4294967296) := by omega
  rw [w64 (n := a - a % 4294967296) (by unfold I64; omega), e, Int.mul_tdiv_cancel_left _ (by decide), w64 (by unfold I64; omega)]
theorem mod_neg {q : Int} (h : q.tmod 2147483647 < 0) : wrap64 (q.tmod 2147483647 + 2147483647) = q % 2147483647 := by
  have t := tmod_at q 2147483647 (by decide)
  split at t <;> rw [t] at h ⊢
  · omega
  · rw [w64 (by unfold I64; omega)]; omega
theorem mod_pos {q : Int} (h : ¬ q.tmod 2147483647 < 0) : q.tmod 2147483647 = q % 2147483647 := by
  have t := tmod_at q 2147483647 (by decide)
  split at t <;> rw [t] at h ⊢
  omega
theorem halves_s (a : Int) (w : World) (ha : I64 a) : Calls Try.prog 30 #[.int .i64 a] w fun e w' => e = .returned (.tuple #[.int .i64 (hiS a), .int .i64 (loS a)]) ∧ w = w' := by
  go_enter Try.func30, Try.ntmps30
  go_wp2
  all_goals go_ret2
  all_goals refine ⟨retPair ?_ ?_, rfl⟩
  all_goals rename_i g1 g2
  all_goals first
    | rw [low_neg g1] at g2 ⊢
    | rw [low_pos (Int.not_lt.2 g1)] at g2 ⊢
    | (rw [low_neg g1] at g2; rw [low_neg g1])
    | (rw [low_pos (Int.not_lt.2 g1)] at g2; rw [low_pos (Int.not_lt.2 g1)])
  all_goals rw [high_of ha] at g2
  all_goals try rw [high_of ha]
  all_goals first
    | (rw [mod_neg g2]; rfl)
    | (rw [mod_pos (Int.not_lt.2 g2)]; rfl)
    | (rw [Int.tmod_eq_emod_of_nonneg (Int.emod_nonneg _ (by decide))]; rfl)
    | rfl
theorem two_s (op a b : Int) (w : World) (ho : 1 ≤ op ∧ op ≤ 4) (ha : I64 a) (hb : I64 b) : Calls Try.prog 20 #[.int .i64 op, .int .i64 a, .int .i64 b] w fun e w' => e = .returned (.int .i64 (two op a b)) ∧ w = w' := by
  obtain rfl | rfl | rfl | rfl : op = 1 ∨ op = 2 ∨ op = 3 ∨ op = 4 := by omega
  · go_enter Try.func20, Try.ntmps20
    go_wp2
    go_ret
    exact ⟨retInt (by simp [two]), rfl⟩
  · go_enter Try.func20, Try.ntmps20
    go_wp2
    all_goals go_ret
    all_goals exact ⟨retInt (by simp [two]; omega), rfl⟩
  · by_cases hz : b = 0
    · subst hz
      go_enter Try.func20, Try.ntmps20
      go_wp2
      go_ret
      exact ⟨retInt (by simp [two]), rfl⟩
    · have hz' : (b == 0) = false := by simpa using hz
      go_enter Try.func20, Try.ntmps20
      go_wp2
      all_goals go_ret
      all_goals exact ⟨retInt (by simp [two, hz]), rfl⟩
  · go_enter Try.func20, Try.ntmps20
    go_wp2_with (go_at_call 30; refine (halves_s _ _ (by first | exact ha | exact hb)).mono ?_; rintro e w' ⟨rfl, rfl⟩)
    all_goals go_ret
    refine ⟨retInt ?_, rfl⟩
    have m1 := mul_bd (hiS_bd a) (hiS_bd b)
    have m2 := mul_bd (loS_bd a) (hiS_bd b)
    have l2 := loS_bd b
    have t1 : (hiS a * hiS b).tmod 2147483647 = hiS a * hiS b % 2147483647 := Int.tmod_eq_emod_of_nonneg m1.1
    have t2 : (loS a * hiS b).tmod 2147483647 = loS a * hiS b % 2147483647 := Int.tmod_eq_emod_of_nonneg m2.1
    have b1 : 0 ≤ hiS a * hiS b % 2147483647 ∧ hiS a * hiS b % 2147483647 < 2147483647 := by omega
    have b2 : 0 ≤ loS a * hiS b % 2147483647 ∧ loS a * hiS b % 2147483647 < 2147483647 := by omega
    rw [w64 (n := hiS a * hiS b) (by unfold I64; omega), w64 (n := loS a * hiS b) (by unfold I64; omega), t1, t2, w64 (n := hiS a * hiS b % 2147483647 * 4294967296) (by unfold I64; omega), w64 (n := loS a * hiS b % 2147483647 + loS b) (by unfold I64; omega), Int.tmod_eq_emod_of_nonneg (by omega), w64 (by unfold I64; omega)]
    simp [two, stepsI]
end Go.Proofs.Ytnabgoljnfaebaa
