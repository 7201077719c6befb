/- All actors of a time, one behind the other, plain. No program. -/
import Derived.Test.YticdjkkcfdbdcaaAcA
namespace Go.Proofs.Yticdjkkcfdbdcaa
/-- The program's way, time by time: so many times from one on; none: too many letters. -/
def runA (R : List (List RuleR)) : Nat → Int → List Int → Come → List LetR → Option (List Int × List LetR)
  | 0, _, nums, _, log => some (nums, log)
  | k + 1, t, nums, c, log =>
    let log' := log ++ logR R.length c t
    if 100000 < log'.length then none else
    let r := timeR R c t nums
    runA R k (t + 1) r.1 (c.addAll r.2) log'
end Go.Proofs.Yticdjkkcfdbdcaa

/- The reference's way through a time, plain. No program. -/
namespace Go.Proofs.Yticdjkkcfdbdcaa
/-- What was told by so many actors. -/
def logTo (c : Come) (t : Int) (j : Nat) : List LetR := (List.range j).flatMap fun i => c i t
theorem logTo_succ (c : Come) (t : Int) (j : Nat) : logTo c t (j + 1) = logTo c t j ++ c j t := by
  unfold logTo
  rw [List.range_succ, List.flatMap_append]
  simp
end Go.Proofs.Yticdjkkcfdbdcaa

/- What is to come, the past taken out, plain. No program. -/
namespace Go.Proofs.Yticdjkkcfdbdcaa
/-- What is to come from a time on, some actors done with that time. -/
def cutD (c : Come) (t : Int) (D : List Nat) : Come := fun i s => if s < t ∨ (s = t ∧ i ∈ D) then [] else c i s
theorem cutD_start {c : Come} (h : ∀ i s, s < 0 → c i s = []) : cutD c 0 [] = c := by
  funext i s
  unfold cutD
  split
  · rename_i e
    rcases e with e | ⟨_, e⟩
    · exact (h i s e).symm
    · cases e
  · rfl
theorem cutD_add {c : Come} {t : Int} {D : List Nat} {y : LetR} (h : t < y.time) : (cutD c t D).add y = cutD (c.add y) t D := by
  funext i s
  unfold cutD Come.add
  by_cases e : (i : Int) = y.to ∧ s = y.time
  · have hn : ¬ (s < t ∨ (s = t ∧ i ∈ D)) := by rintro (h2 | ⟨h2, _⟩) <;> omega
    simp only [if_pos e, if_neg hn]
  · simp only [if_neg e]
theorem cutD_del (c : Come) (t : Int) (D : List Nat) (i : Nat) : (fun j s => if j = i ∧ s = t then [] else cutD c t D j s) = cutD c t (i :: D) := by
  funext j s
  unfold cutD
  by_cases e : j = i ∧ s = t
  · rw [if_pos e, if_pos (.inr ⟨e.2, by rw [e.1]; exact List.mem_cons_self ..⟩)]
  · rw [if_neg e]
    by_cases e2 : s < t ∨ (s = t ∧ j ∈ D)
    · rw [if_pos e2, if_pos (e2.imp (fun h => h) fun h => ⟨h.1, List.mem_cons_of_mem _ h.2⟩)]
    · rw [if_neg e2, if_neg]
      rintro (h | ⟨h1, h2⟩)
      · exact e2 (.inl h)
      · rcases List.mem_cons.1 h2 with h2 | h2
        · exact e ⟨h2, h1⟩
        · exact e2 (.inr ⟨h1, h2⟩)
theorem cutD_now (c : Come) (t : Int) (i : Nat) : cutD c t [] i t = c i t := by
  unfold cutD
  rw [if_neg]
  rintro (h | ⟨_, h⟩)
  · omega
  · cases h
end Go.Proofs.Yticdjkkcfdbdcaa

/- How many letters there are, plain. No program. -/
namespace Go.Proofs.Yticdjkkcfdbdcaa
theorem sum_le {f g : Nat → Nat} : ∀ (l : List Nat), (∀ i, f i ≤ g i) → (l.map f).sum ≤ (l.map g).sum
  | [], _ => Nat.le_refl _
  | i :: l, h => by
    have := sum_le l h
    have := h i
    simp only [List.map_cons, List.sum_cons]
    omega
theorem sum_one {f g : Nat → Nat} (k : Nat) (h1 : ∀ i, i ≠ k → f i ≤ g i) (h2 : f k ≤ g k + 1) : ∀ (l : List Nat), l.Nodup → (l.map f).sum ≤ (l.map g).sum + 1
  | [], _ => by simp
  | i :: l, hn => by
    rw [List.nodup_cons] at hn
    simp only [List.map_cons, List.sum_cons]
    by_cases e : i = k
    · subst e
      have : (l.map f).sum ≤ (l.map g).sum := by
        have hl : ∀ j ∈ l, f j ≤ g j := fun j hj => h1 j fun e => hn.1 (e ▸ hj)
        clear hn h1 h2
        induction l with
        | nil => exact Nat.le_refl _
        | cons a l ih =>
          have := ih fun j hj => hl j (List.mem_cons_of_mem _ hj)
          have := hl a (List.mem_cons_self ..)
          simp only [List.map_cons, List.sum_cons]
          omega
      omega
    · have := sum_one k h1 h2 l hn.2
      have := h1 i e
      omega
theorem sum_add (c : Come) (y : LetR) (n : Nat) (s : Int) : ((List.range n).map fun i => ((c.add y) i s).length).sum ≤ ((List.range n).map fun i => (c i s).length).sum + 1 := by
  refine sum_one y.to.toNat (fun i hi => ?_) ?_ _ List.nodup_range
  · unfold Come.add
    rw [if_neg (fun h => hi (by omega))]
    exact Nat.le_refl _
  · unfold Come.add
    split <;> simp
theorem sum_addAll : ∀ (l : List LetR) (c : Come) (n : Nat) (s : Int), ((List.range n).map fun i => ((c.addAll l) i s).length).sum ≤ ((List.range n).map fun i => (c i s).length).sum + l.length
  | [], c, n, s => Nat.le_refl _
  | y :: l, c, n, s => by
    have h1 := sum_addAll l (c.add y) n s
    have h2 := sum_add c y n s
    show ((List.range n).map fun i => (((c.add y).addAll l) i s).length).sum ≤ _
    simp only [List.length_cons]
    omega
theorem one_le_sum (c : Come) (n : Nat) (s : Int) {i : Nat} (hi : i < n) : (c i s).length ≤ ((List.range n).map fun j => (c j s).length).sum := by
  have : ∀ (l : List Nat), i ∈ l → (c i s).length ≤ (l.map fun j => (c j s).length).sum := fun l => by
    induction l with
    | nil => intro h; cases h
    | cons a l ih =>
      intro h
      simp only [List.map_cons, List.sum_cons]
      rcases List.mem_cons.1 h with rfl | h
      · omega
      · have := ih h; omega
  exact this _ (List.mem_range.2 hi)
theorem logR_len (n : Nat) (c : Come) (t : Int) : (logR n c t).length = ((List.range n).map fun i => (c i t).length).sum := by
  simp [logR, List.length_flatMap]
theorem atR_len (rs : List RuleR) : ∀ (l : List LetR) (num : Int), (atR rs num l).2.length ≤ l.length
  | [], _ => Nat.le_refl _
  | x :: l, num => by
    have h := atR_len rs l (takeR rs num x).1
    have h2 : (takeR rs num x).2.toList.length ≤ 1 := by cases (takeR rs num x).2 <;> simp
    simp only [atR, List.length_append, List.length_cons]
    omega
/-- No more is sent than came. -/
theorem timeR_len (R : List (List RuleR)) (c : Come) (t : Int) (nums : List Int) : (timeR R c t nums).2.length ≤ (logR nums.length c t).length := by
  rw [logR_len]
  have h1 : (timeR R c t nums).2.length = ((List.range nums.length).map fun i => (atR (R.getD i []) (nums.getD i 0) (c i t)).2.length).sum := by
    simp only [timeR, List.length_flatMap]
    congr 1
    apply List.ext_getElem?
    intro j
    simp only [List.getElem?_map, List.getElem?_mapIdx]
    by_cases e : j < nums.length
    · rw [List.getElem?_eq_getElem e, List.getElem?_range e]
      simp [List.getD_eq_getElem?_getD, List.getElem?_eq_getElem e]
    · rw [List.getElem?_eq_none (by omega), List.getElem?_eq_none (by simpa using e)]
      rfl
  rw [h1]
  exact sum_le _ fun i => atR_len _ _ _
/-- The bound goes on from time to time. -/
theorem sum_time {R : List (List RuleR)} {c : Come} {t : Int} {nums : List Int} {log : List LetR} (hn : nums.length = R.length) (h : ∀ s, ((List.range R.length).map fun i => (c i s).length).sum ≤ 200 + log.length) :
    ∀ s, ((List.range R.length).map fun i => ((c.addAll (timeR R c t nums).2) i s).length).sum ≤ 200 + (log ++ logR R.length c t).length := fun s => by
  have h1 := sum_addAll (timeR R c t nums).2 c R.length s
  have h2 := timeR_len R c t nums
  rw [hn] at h2
  have := h s
  rw [List.length_append]
  omega
end Go.Proofs.Yticdjkkcfdbdcaa
