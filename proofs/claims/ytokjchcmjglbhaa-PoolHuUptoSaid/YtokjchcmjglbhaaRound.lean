/- Greedy's round in plain Lean: the sorted list's beginning is HU's choice; what one node's end does to the counts. No program. No conditions but those named. -/
import Derived.Test.YtokjchcmjglbhaaHu
namespace Go.Proofs.Ytokjchcmjglbhaa

section
variable {n m : Nat} {par : Nat → Int} {dep : Nat → Nat}
/-- The first m of the leaves, the deepest ahead, are HU's round. -/
theorem hu_round {U : Nat → Bool} {S : List Nat} (hn : S.Nodup) (hm : ∀ i, i ∈ S ↔ i < n ∧ leafU n par U i) (hs : S.Pairwise fun a b => dep b ≤ dep a) : Hu n m par dep U (fun i => U i && !decide (i ∈ S.take m)) (S.take m) where
  nodup := hn.sublist (List.take_sublist _ _)
  leaf := fun x hx => (hm x).1 (List.mem_of_mem_take hx)
  size := by rw [List.length_take]; omega
  out := fun i _ => rfl
  full := by
    by_cases h : m ≤ S.length
    · exact .inl (by rw [List.length_take]; omega)
    · right
      intro i hi hl
      rw [List.take_of_length_le (by omega)]
      exact (hm i).2 ⟨hi, hl⟩
  deepest := fun x hx i hi hl hn' => by
    have h1 : i ∈ S := (hm i).2 ⟨hi, hl⟩
    rw [← List.take_append_drop m S] at h1 hs
    have h2 : i ∈ S.drop m := (List.mem_append.1 h1).resolve_left hn'
    exact (List.pairwise_append.1 hs).2.2 x hx i h2
/-- How many kids of i remain. -/
def kidsN (n : Nat) (par : Nat → Int) (U : Nat → Bool) (i : Nat) : Nat := cnt (fun k => U k && decide (par k = (i : Int))) n
theorem leaf_iff {U : Nat → Bool} {i : Nat} : leafU n par U i ↔ U i = true ∧ kidsN n par U i = 0 := by
  constructor
  · rintro ⟨h1, h2⟩
    refine ⟨h1, cnt_zero fun k hk => ?_⟩
    cases hu : U k with
    | false => rfl
    | true => simpa using h2 k hk hu
  · rintro ⟨h1, h2⟩
    refine ⟨h1, fun k hk hu e => ?_⟩
    have : 0 < kidsN n par U i := cnt_of (i := k) (by simp [hu, e]) hk
    omega
def delU (U : Nat → Bool) (x : Nat) : Nat → Bool := fun i => U i && !decide (i = x)
theorem kids_del {U : Nat → Bool} {x i : Nat} (hx : x < n) (hu : U x = true) : kidsN n par U i = kidsN n par (delU U x) i + (if par x = (i : Int) then 1 else 0) := by
  have h1 := cnt_split (p := fun k => U k && decide (par k = (i : Int))) (q := fun k => decide (k ∈ [x])) (n := n)
  have h2 : cnt (fun k => (U k && decide (par k = (i : Int))) && !decide (k ∈ [x])) n = kidsN n par (delU U x) i := cnt_congr fun k _ => by
    simp only [delU, List.mem_singleton]
    cases U k <;> cases decide (par k = (i : Int)) <;> cases decide (k = x) <;> rfl
  have h3 : cnt (fun k => (U k && decide (par k = (i : Int))) && decide (k ∈ [x])) n = if par x = (i : Int) then 1 else 0 := by
    by_cases e : par x = (i : Int)
    · rw [if_pos e]
      refine (cnt_congr (q := fun k => decide (k ∈ [x])) fun k _ => ?_).trans (cnt_mem (X := [x]) (n := n) (by simp) (fun y hy => by simp at hy; subst hy; exact hx))
      by_cases ek : k = x
      · subst ek; simp [hu, e]
      · simp [ek]
    · rw [if_neg e]
      refine cnt_zero fun k _ => ?_
      by_cases ek : k = x
      · subst ek; simp [e]
      · simp [ek]
  unfold kidsN at *
  omega
/-- The leaves behind the end of one of them. -/
theorem leaf_del {U : Nat → Bool} {x i : Nat} (hc : closedU n par U) (hx : x < n) (hl : leafU n par U x) : leafU n par (delU U x) i ↔ (i ≠ x ∧ leafU n par U i) ∨ (par x = (i : Int) ∧ kidsN n par (delU U x) i = 0 ∧ i ≠ x) := by
  have hk := kids_del (par := par) (i := i) hx hl.1
  rw [leaf_iff, leaf_iff]
  have hd : delU U x i = true ↔ U i = true ∧ i ≠ x := by simp [delU]
  rw [hd]
  constructor
  · rintro ⟨⟨h1, h2⟩, h3⟩
    by_cases e : par x = (i : Int)
    · exact .inr ⟨e, h3, h2⟩
    · rw [if_neg e] at hk
      exact .inl ⟨h2, h1, by omega⟩
  · rintro (⟨h1, h2, h3⟩ | ⟨h1, h2, h3⟩)
    · exact ⟨⟨h2, h1⟩, by omega⟩
    · refine ⟨⟨?_, h3⟩, h2⟩
      have := hc x hx hl.1 (by omega)
      rwa [h1, Int.toNat_natCast] at this
end
end Go.Proofs.Ytokjchcmjglbhaa
