/- Contracts of cmp.Compare, cmp.Or of two, slices.Clone at int, and of the closure that Greedy hands to the sort. No conditions but that what is read is there. -/
import Derived.Test.YtokjchcmjglbhaaOwn3
import Derived.Test.YtokjchcmjglbhaaChecked
import Derived.Sort.Grow
import Derived.StillTailTactics
import Derived.Lib.Small
import Derived.Lib.SliceRun
import Derived.OwnWalk
namespace Go.Proofs.Ytokjchcmjglbhaa
open Go.ChangeShapes Go.WideShapes Go.ChangeAt Go.RowKit Go.Sort

set_option maxRecDepth 100000 in
theorem isNaN_any (w : World) (x : Int) : Calls Try.prog 21 #[.int .i64 x] w fun e w' => e = .returned (.bool false) ∧ w = w' := by
  go_enter Try.func21, Try.ntmps21
  go_wp2
  go_ret
  exact ⟨by simp, rfl⟩
set_option maxRecDepth 100000 in
theorem compare_any (w : World) (x y : Int) : Calls Try.prog 15 #[.int .i64 x, .int .i64 y] w fun e w' => e = .returned (.int .i64 (Lib.compareInt x y)) ∧ w = w' := by
  go_enter Try.func15, Try.ntmps15
  go_wp2_with (go_at_call 21; refine (isNaN_any _ _).mono ?_; rintro e w' ⟨rfl, rfl⟩)
  all_goals (go_ret; refine ⟨?_, rfl⟩; unfold Lib.compareInt; (repeat' split) <;> first | rfl | (exfalso; omega))
theorem compare_same (w : World) (x y : Int) : Calls Try.prog 15 #[.int .i64 x, .int .i64 y] w fun e w' => e = .returned (.int .i64 (Lib.compareInt x y)) ∧ w' = w := (compare_any w x y).mono fun _ _ ⟨h1, h2⟩ => ⟨h1, h2.symm⟩
def orInt (x y : Int) : Int := if x = 0 then y else x
set_option maxRecDepth 100000 in
theorem or_any (w : World) (g : Nat) (x y : Int) (hx : w.cell? ⟨g, 0, none⟩ = some (.int .i64 x)) (hy : w.cell? ⟨g, 1, none⟩ = some (.int .i64 y)) :
    Calls Try.prog 14 #[.slice (some ⟨g, 0, none⟩) 2 2] w fun e w' => e = .returned (.int .i64 (orInt x y)) ∧ w = w' := by
  go_enter Try.func14, Try.ntmps14
  go_wp2
  go_loop [8] (fun i => ∃ k : Nat, k ≤ 2 ∧ i = .int .i64 k ∧ (1 ≤ k → x = 0) ∧ (2 ≤ k → y = 0)) (fun i => 2 - (intOf i).toNat)
  case atStart => exact ⟨0, by omega, rfl, by omega, by omega⟩
  case round =>
    obtain ⟨k, hk, rfl, h1, h2⟩ := hrel
    have hk' : k = 0 ∨ k = 1 ∨ k = 2 := by omega
    rcases hk' with rfl | rfl | rfl
    · by_cases hx0 : x = 0
      · go_wp2
        go_round
        case rel => exact ⟨1, by omega, by go_num, fun _ => hx0, by omega⟩
        case measure => simp [intOf]
      · go_wp2
        go_ret
        exact ⟨by simp [orInt, hx0], rfl⟩
    · have hx0 := h1 (by omega)
      by_cases hy0 : y = 0
      · go_wp2
        go_round
        case rel => exact ⟨2, by omega, by go_num, fun _ => hx0, fun _ => hy0⟩
        case measure => simp [intOf]
      · go_wp2
        go_ret
        exact ⟨by simp [orInt], rfl⟩
    · have hx0 := h1 (by omega)
      have hy0 := h2 (by omega)
      go_wp2
      go_ret
      exact ⟨by simp [orInt], rfl⟩
def cmpDepth (dep : Nat → Int) (a b : Nat) : Int := orInt (Lib.compareInt (dep b) (dep a)) (Lib.compareInt a b)
set_option maxRecDepth 100000 in
set_option maxHeartbeats 1000000 in
theorem closure_any (W : World) (bx lb N cc : Nat) (dep : Nat → Int) (hbox : W.cell? ⟨bx, 0, none⟩ = some (.slice (some ⟨lb, 0, none⟩) N cc)) (hd : ∀ i, i < N → W.cell? ⟨lb, i * 3, none⟩ = some (.int .i64 (dep i)))
    (a b : Nat) (ha : a < N) (hb : b < N) :
    Calls Try.prog 13 #[.int .i64 a, .int .i64 b, .pointer (some ⟨bx, 0, none⟩)] W fun e w' => e = .returned (.int .i64 (cmpDepth dep a b)) ∧ ∃ q os, w' = grow (W.drewN q) os := by
  have hda := hd a ha
  have hdb := hd b hb
  clear hd
  have hai : (a : Int) < N := by omega
  have hbi : (b : Int) < N := by omega
  generalize hx : dep a = x at *
  generalize hy : dep b = y at *
  have hres : cmpDepth dep a b = orInt (Lib.compareInt y x) (Lib.compareInt a b) := by unfold cmpDepth; rw [hx, hy]
  rw [hres]
  clear hres hx hy
  go_enter Try.func13, Try.ntmps13
  go_wp2_with fail
  refine wp_region_still_tail 14 (by kernel_rfl) (by kernel_rfl) ?_
  simp only [List.take_succ_cons, List.take_zero, List.drop_succ_cons, List.drop_zero]
  repeat (first | still_step | still_call (compare_same _ _ _))
  refine wpStill_nil ?_
  change wpList _ _ _ _ _ W.drew
  clear hda hdb hbox
  go_wp2_with (go_at_call 14; refine (or_any _ _ (Lib.compareInt y x) (Lib.compareInt a b) (by go_simp) (by go_simp)).mono ?_; rintro e w' ⟨rfl, rfl⟩)
  go_ret
  exact ⟨rfl, 1, #[_], by rw [← alloc_eq_grow]; rfl⟩
/-- The contract of slices.Clone: a row of the call's own. -/
theorem info_int' : (Try.prog.info? 3).map (fun i => (i.zero, i.size, i.bytes)) = some (some (.int .i64 0), 1, 8) := by kernel_rfl
set_option maxRecDepth 100000 in
set_option maxHeartbeats 1000000 in
theorem clone_any (w : World) (b o c : Nat) (l : List Int) (hl : l.length ≤ 1048576) (hc : ∀ (j : Nat) (h : j < l.length), w.cell? ⟨b, o + j, none⟩ = some (.int .i64 l[j])) :
    Calls Try.prog 16 #[.slice (some ⟨b, o, none⟩) l.length c] w fun e w' => ∃ v, e = .returned v ∧ w'.ownsRow w.heap.size 3 1 v l.length (ints l) ∧ Below w.heap.size w w' := by
  obtain ⟨i0, hi0, hz0, hz1, hz2⟩ := info_parts info_int'
  have Hi0 := Lib.hid (And.intro hi0 (And.intro hz0 (And.intro hz1 hz2))); clear hi0 hz0 hz1 hz2
  have hq : ∀ (w : World) (a : Option Addr) (n c n' c' : Nat), (binOp .eql 25 (.slice a n c) (.slice none n' c')).run Try.prog w = .ok (.bool a.isNone) w := fun w a n c n' c' => Lib.run_eql_slice_nil w _ _ a n c n' c' Try.underlying25
  have Hc := Lib.hid hc; clear hc
  go_enter Try.func16, Try.ntmps16
  go_wp2_with (at_builtin; (
    refine wpList_append_own _ rfl _ _ 25 rfl w.heap.size 3 i0 (.int .i64 0) 1 8 Try.underlying25 Hi0.out.1 Hi0.out.2.1 Hi0.out.2.2.1 Hi0.out.2.2.2 rfl (by decide) _ _ _ rfl (World.ownsRow_made w #[] 0 (Nat.le_refl _) (Nat.zero_le _) rfl) ⟨b, o, none⟩ l.length c (ints l) rfl ?qc1 ?qc2 ?qc3 ?qc4 ?qc5 ?qc6 ?_))
  case qc1 => simp
  case qc2 =>
    intro j u hj
    obtain ⟨hjl, rfl⟩ := List.getElem?_eq_some_iff.1 hj
    rw [Addr.add_lit]
    refine Lib.cell?_alloc_some _ ?_
    have hjl' : j < l.length := by simpa using hjl
    simpa [ints] using Hc.out j hjl'
  case qc3 => intro u hu; obtain ⟨x, _, rfl⟩ := List.mem_map.1 hu; rfl
  case qc4 => unfold maxLen; omega
  case qc5 => omega
  case qc6 => simp
  intro v' w1 hown hgrow hnil
  go_wp2
  go_ret
  refine ⟨v', rfl, by simpa using hown, ?_⟩
  exact ((Below.refl _ w).alloc (Nat.le_refl _) _).grown hgrow (by simp) (by intro k hk; simp [Value.ownBlock] at hk; omega)
end Go.Proofs.Ytokjchcmjglbhaa
