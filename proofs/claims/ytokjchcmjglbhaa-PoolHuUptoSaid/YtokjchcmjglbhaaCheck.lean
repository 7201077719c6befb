/- The contracts of pool.Check and pool.Work. No conditions but that what is read is there, and that its nodes can be counted. -/
import Derived.Test.YtokjchcmjglbhaaWhole
namespace Go.Proofs.Ytokjchcmjglbhaa
open Go.ChangeShapes Go.WideShapes Go.ChangeAt Go.RowKit

def CheckPost (w : World) (t : TreeR) (e : Ending) (w' : World) : Prop :=
  Below w.heap.size w w' ∧ ∃ c : Int, e = .returned (.int .i64 c) ∧ (c = 0 ∨ c = 1 ∨ c = 2) ∧ (c = 0 ↔ AllOk t ∧ t.nodes ≤ 100000 ∧ t.depth ≤ 100)
set_option maxRecDepth 100000 in
set_option maxHeartbeats 1000000 in
theorem check_any (w : World) (B : Nat) (t : TreeR) (hR : RdT w B t) (hB : B ≤ w.heap.size) (hn : t.nodes ≤ 1048576) :
    Calls Try.prog 9 #[t.val] w (CheckPost w t) := by
  have hw := fun (W : World) (h : Below w.heap.size w W) => whole_any W B t (hR.under (h.mono hB)) (Nat.le_trans hB h.size) hn
  have hm := fun (W : World) (h : Below w.heap.size w W) => measure_any 102 t W B 1 (hR.under (h.mono hB)) (Nat.le_trans hB h.size) (by omega) (by omega) hn
  have hle := meas_le 102 t
  have hok := fun h => meas_ok 102 t h
  have hml := hle.1
  have HX := Lib.hid (And.intro hw (And.intro hm (And.intro hok hle)))
  clear hw hm hok hR
  obtain ⟨mn, hmn⟩ : ∃ x, (meas 102 t).1 = x := ⟨_, rfl⟩
  obtain ⟨md, hmd⟩ : ∃ x, (meas 102 t).2.1 = x := ⟨_, rfl⟩
  rw [hmn] at hml hle
  have Hmn := Lib.hid hmn; clear hmn
  have Hmd := Lib.hid hmd; clear hmd
  clear hle
  have hn' := Lib.hid hn; clear hn
  obtain ⟨kind, n, sA, sc, kids⟩ := t
  show Calls Try.prog 9 #[.agg #[.int .i64 kind, .int .i64 n, .slice sA kids.length sc]] w _
  have hb0 : Below w.heap.size w (w.alloc (.cells #[.int .i64 kind, .int .i64 n, .slice sA kids.length sc] 24)) := (Below.refl _ _).alloc (Nat.le_refl _) _
  have Hb0 := Lib.hid hb0; clear hb0
  by_cases h1 : 100000 < mn
  · have h1i : (100000 : Int) < mn := by omega
    go_enter Try.func9, Try.ntmps9
    go_wp2_with (first
      | (go_at_call 18; (
         refine (HX.out.1 _ Hb0.out).mono ?_
         rintro e w1 ⟨hb1, b, rfl, hb⟩
         have k0 : w1.cell? ⟨w.heap.size, 0, none⟩ = some (.int .i64 kind) := (hb1.cell (by simp)).trans (by rw [cell_of_row _ _ 0 _ _ (0, 0) (heap_alloc_new w _)]; rfl)
         have k1 : w1.cell? ⟨w.heap.size, 1, none⟩ = some (.int .i64 n) := (hb1.cell (by simp)).trans (by rw [cell_of_row _ _ 1 _ _ (0, 0) (heap_alloc_new w _)]; rfl)
         have k2 : w1.cell? ⟨w.heap.size, 2, none⟩ = some (.slice sA kids.length sc) := (hb1.cell (by simp)).trans (by rw [cell_of_row _ _ 2 _ _ (0, 0) (heap_alloc_new w _)]; rfl)
         have hb1' := Hb0.out.trans (hb1.mono Hb0.out.size)
         have H1 := Lib.hid (And.intro hb1' hb); clear hb1 hb1' hb))
      | (go_at_call 10; (
         refine (HX.out.2.1 _ H1.out.1).mono ?_
         rintro e w2 ⟨rfl, hb2⟩
         rw [Hmn.out, Hmd.out]
         have hb2' := H1.out.1.trans (hb2.mono H1.out.1.size)
         have H2 := Lib.hid hb2'; clear hb2 hb2'))
      | fail)
    all_goals go_ret
    · exact ⟨H1.out.1, 1, rfl, .inr (.inl rfl), ⟨fun h => (by cases h), fun h => by
        have hb1 := H1.out.2.2 h.1
        have hx : (!b) = true := by assumption
        rw [hb1] at hx
        cases hx⟩⟩
    · exact ⟨H2.out, 2, rfl, .inr (.inr rfl), ⟨fun h => (by cases h), fun h => by have h1 := HX.out.2.2.2; have h2 := Hmn.out; have h3 := Hmd.out; omega⟩⟩
  by_cases h2 : 100 < md
  · have h1i : ¬ (100000 : Int) < mn := by omega
    have h2i : (100 : Int) < md := by omega
    go_enter Try.func9, Try.ntmps9
    go_wp2_with (first
      | (go_at_call 18; (
         refine (HX.out.1 _ Hb0.out).mono ?_
         rintro e w1 ⟨hb1, b, rfl, hb⟩
         have k0 : w1.cell? ⟨w.heap.size, 0, none⟩ = some (.int .i64 kind) := (hb1.cell (by simp)).trans (by rw [cell_of_row _ _ 0 _ _ (0, 0) (heap_alloc_new w _)]; rfl)
         have k1 : w1.cell? ⟨w.heap.size, 1, none⟩ = some (.int .i64 n) := (hb1.cell (by simp)).trans (by rw [cell_of_row _ _ 1 _ _ (0, 0) (heap_alloc_new w _)]; rfl)
         have k2 : w1.cell? ⟨w.heap.size, 2, none⟩ = some (.slice sA kids.length sc) := (hb1.cell (by simp)).trans (by rw [cell_of_row _ _ 2 _ _ (0, 0) (heap_alloc_new w _)]; rfl)
         have hb1' := Hb0.out.trans (hb1.mono Hb0.out.size)
         have H1 := Lib.hid (And.intro hb1' hb); clear hb1 hb1' hb))
      | (go_at_call 10; (
         refine (HX.out.2.1 _ H1.out.1).mono ?_
         rintro e w2 ⟨rfl, hb2⟩
         rw [Hmn.out, Hmd.out]
         have hb2' := H1.out.1.trans (hb2.mono H1.out.1.size)
         have H2 := Lib.hid hb2'; clear hb2 hb2'))
      | fail)
    all_goals go_ret
    · exact ⟨H1.out.1, 1, rfl, .inr (.inl rfl), ⟨fun h => (by cases h), fun h => by
        have hb1 := H1.out.2.2 h.1
        have hx : (!b) = true := by assumption
        rw [hb1] at hx
        cases hx⟩⟩
    · exact ⟨H2.out, 2, rfl, .inr (.inr rfl), ⟨fun h => (by cases h), fun h => by have h1 := HX.out.2.2.2; have h2 := Hmn.out; have h3 := Hmd.out; omega⟩⟩
  · have h1i : ¬ (100000 : Int) < mn := by omega
    have h2i : ¬ (100 : Int) < md := by omega
    go_enter Try.func9, Try.ntmps9
    go_wp2_with (first
      | (go_at_call 18; (
         refine (HX.out.1 _ Hb0.out).mono ?_
         rintro e w1 ⟨hb1, b, rfl, hb⟩
         have k0 : w1.cell? ⟨w.heap.size, 0, none⟩ = some (.int .i64 kind) := (hb1.cell (by simp)).trans (by rw [cell_of_row _ _ 0 _ _ (0, 0) (heap_alloc_new w _)]; rfl)
         have k1 : w1.cell? ⟨w.heap.size, 1, none⟩ = some (.int .i64 n) := (hb1.cell (by simp)).trans (by rw [cell_of_row _ _ 1 _ _ (0, 0) (heap_alloc_new w _)]; rfl)
         have k2 : w1.cell? ⟨w.heap.size, 2, none⟩ = some (.slice sA kids.length sc) := (hb1.cell (by simp)).trans (by rw [cell_of_row _ _ 2 _ _ (0, 0) (heap_alloc_new w _)]; rfl)
         have hb1' := Hb0.out.trans (hb1.mono Hb0.out.size)
         have H1 := Lib.hid (And.intro hb1' hb); clear hb1 hb1' hb))
      | (go_at_call 10; (
         refine (HX.out.2.1 _ H1.out.1).mono ?_
         rintro e w2 ⟨rfl, hb2⟩
         rw [Hmn.out, Hmd.out]
         have hb2' := H1.out.1.trans (hb2.mono H1.out.1.size)
         have H2 := Lib.hid hb2'; clear hb2 hb2'))
      | fail)
    all_goals go_ret
    · exact ⟨H1.out.1, 1, rfl, .inr (.inl rfl), ⟨fun h => (by cases h), fun h => by
        have hb1 := H1.out.2.2 h.1
        have hx : (!b) = true := by assumption
        rw [hb1] at hx
        cases hx⟩⟩
    · refine ⟨H2.out, 0, rfl, .inl rfl, ⟨fun _ => ?_, fun _ => rfl⟩⟩
      have hall := H1.out.2.1 (by rename_i hbf _ _; cases b with | true => rfl | false => cases hbf)
      have h3 := HX.out.2.2.1 hall
      have h4 := Hmn.out
      have h5 := Hmd.out
      rw [h5] at h3
      have h6 := h3.2.2 (by omega)
      exact ⟨hall, by omega, by omega⟩
def WorkPost (w : World) (t : TreeR) (e : Ending) (w' : World) : Prop :=
  Below w.heap.size w w' ∧ ∃ c : Int, (c = 0 ∨ c = 1 ∨ c = 2) ∧ ((c ≠ 0 ∧ e = .returned (.tuple #[.int .i64 0, .int .i64 0, .int .i64 c])) ∨
    (c = 0 ∧ AllOk t ∧ t.nodes ≤ 100000 ∧ t.depth ≤ 100 ∧ e = .returned (.tuple #[.int .i64 t.nodes, .int .i64 t.depth, .int .i64 0])))
set_option maxRecDepth 100000 in
set_option maxHeartbeats 1000000 in
theorem work_any (w : World) (B : Nat) (t : TreeR) (hR : RdT w B t) (hB : B ≤ w.heap.size) (hn : t.nodes ≤ 1048576) :
    Calls Try.prog 4 #[t.val] w (WorkPost w t) := by
  have hc := fun (W : World) (h : Below w.heap.size w W) => check_any W B t (hR.under (h.mono hB)) (Nat.le_trans hB h.size) hn
  have hm := fun (W : World) (h : Below w.heap.size w W) => measure_any 102 t W B 1 (hR.under (h.mono hB)) (Nat.le_trans hB h.size) (by omega) (by omega) hn
  have hok := fun h => meas_ok 102 t h
  have HX := Lib.hid (And.intro hc (And.intro hm hok))
  clear hc hm hok hR hn
  obtain ⟨kind, n, sA, sc, kids⟩ := t
  show Calls Try.prog 4 #[.agg #[.int .i64 kind, .int .i64 n, .slice sA kids.length sc]] w _
  have hb0 : Below w.heap.size w (w.alloc (.cells #[.int .i64 kind, .int .i64 n, .slice sA kids.length sc] 24)) := (Below.refl _ _).alloc (Nat.le_refl _) _
  have Hb0 := Lib.hid hb0; clear hb0
  go_enter Try.func4, Try.ntmps4
  go_wp2_with (first
    | (go_at_call 9; (
       first
         | (refine (HX.out.1 _ Hb0.out).mono ?_
            rintro e w1 ⟨hb1, c, rfl, hc3, hc0⟩
            have k0 : w1.cell? ⟨w.heap.size, 0, none⟩ = some (.int .i64 kind) := (hb1.cell (by simp)).trans (by rw [cell_of_row _ _ 0 _ _ (0, 0) (heap_alloc_new w _)]; rfl)
            have k1 : w1.cell? ⟨w.heap.size, 1, none⟩ = some (.int .i64 n) := (hb1.cell (by simp)).trans (by rw [cell_of_row _ _ 1 _ _ (0, 0) (heap_alloc_new w _)]; rfl)
            have k2 : w1.cell? ⟨w.heap.size, 2, none⟩ = some (.slice sA kids.length sc) := (hb1.cell (by simp)).trans (by rw [cell_of_row _ _ 2 _ _ (0, 0) (heap_alloc_new w _)]; rfl)
            have hb1' := Hb0.out.trans (hb1.mono Hb0.out.size)
            have H1 := Lib.hid (And.intro hb1' (And.intro hc3 hc0)); clear hb1 hb1' hc3 hc0)))
    | (go_at_call 10; (
       refine (HX.out.2.1 _ H1.out.1).mono ?_
       rintro e w2 ⟨rfl, hb2⟩
       have hb2' := H1.out.1.trans (hb2.mono H1.out.1.size)
       have H2 := Lib.hid hb2'; clear hb2 hb2'))
    | fail)
  all_goals go_ret3
  · rename_i h
    exact ⟨H1.out.1, c, H1.out.2.1, .inl ⟨bne_iff_ne.1 h, rfl⟩⟩
  · rename_i h
    have hc : c = 0 := by simpa using h
    obtain ⟨ha, hn, hd⟩ := H1.out.2.2.1 hc
    have hm := HX.out.2.2 ha
    refine ⟨H2.out, c, H1.out.2.1, .inr ⟨hc, ha, hn, hd, ?_⟩⟩
    rw [← hm.2.2 (by omega), show (TreeR.mk kind n sA sc kids).depth = (meas 102 (.mk kind n sA sc kids)).2.1 by rw [hm.2.1]; omega]
    rfl
end Go.Proofs.Ytokjchcmjglbhaa
