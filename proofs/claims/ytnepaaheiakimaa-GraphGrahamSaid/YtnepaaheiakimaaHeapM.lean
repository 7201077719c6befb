/- A binary heap in a list, plain. No program here. No conditions. -/
import Derived.Test.YtnepaaheiakimaaPlanM
namespace Go.Proofs.Ytnepaaheiakimaa

/-- What is at place k. -/
def ht (l : List Int) (k : Nat) : Int := l.getD k 0
def swp (l : List Int) (a b : Nat) : List Int := (l.set a (l.getD b 0)).set b (l.getD a 0)
theorem swp_len (l : List Int) (a b : Nat) : (swp l a b).length = l.length := by simp [swp]
theorem ht_get {l : List Int} {k : Nat} (h : k < l.length) : l[k] = ht l k := by simp [ht, h]
theorem ht_mem {l : List Int} {k : Nat} (h : k < l.length) : ht l k ∈ l := by rw [← ht_get h]; exact List.getElem_mem h
theorem ht_swp {l : List Int} {a b : Nat} (ha : a < l.length) (hb : b < l.length) (k : Nat) : ht (swp l a b) k = if k = b then ht l a else if k = a then ht l b else ht l k := by
  have e : ∀ (l : List Int) (i : Nat) (x : Int) (k : Nat), i < l.length → ht (l.set i x) k = if k = i then x else ht l k := by
    intro l i x k hi
    unfold ht
    rw [List.getD_eq_getElem?_getD, List.getElem?_set, List.getD_eq_getElem?_getD]
    by_cases h : i = k
    · subst h; rw [if_pos rfl, if_pos hi, if_pos rfl]; rfl
    · rw [if_neg h, if_neg (fun e => h e.symm)]
  unfold swp
  rw [e _ _ _ _ (by simpa using hb), e _ _ _ _ ha]
  rfl
theorem swp_perm {l : List Int} {a b : Nat} (ha : a < l.length) (hb : b < l.length) : (swp l a b).Perm l := by
  have := List.set_set_perm ha hb
  simpa [swp, ha, hb] using this
theorem swp_mem {l : List Int} {a b : Nat} (ha : a < l.length) (hb : b < l.length) {x : Int} (h : x ∈ swp l a b) : x ∈ l := (swp_perm ha hb).mem_iff.1 h

/-- A strict total order on what is in the heap. -/
structure Strict (s : Int → Int → Prop) : Prop where
  irr : ∀ a, ¬ s a a
  tr : ∀ a b c, s a b → s b c → s a c
  conn : ∀ a b, s a b ∨ a = b ∨ s b a
theorem Strict.notr {s : Int → Int → Prop} (h : Strict s) {a b c : Int} (h1 : ¬ s b a) (h2 : ¬ s c b) : ¬ s c a := by
  intro h3
  rcases h.conn a b with e | e | e
  · exact h2 (h.tr _ _ _ h3 e)
  · subst e; exact h2 h3
  · exact h1 e
theorem Strict.asym {s : Int → Int → Prop} (h : Strict s) {a b : Int} (h1 : s a b) : ¬ s b a := fun h2 => h.irr _ (h.tr _ _ _ h1 h2)

/-- The first n places are a heap. -/
def Hp (s : Int → Int → Prop) (n : Nat) (l : List Int) : Prop := ∀ k, 0 < k → k < n → ¬ s (ht l k) (ht l ((k - 1) / 2))
theorem Hp.min {s : Int → Int → Prop} (hs : Strict s) {n : Nat} {l : List Int} (h : Hp s n l) : ∀ k, k < n → ¬ s (ht l k) (ht l 0) := by
  intro k
  induction k using Nat.strongRecOn with
  | _ k ih =>
    intro hk
    by_cases h0 : k = 0
    · subst h0; exact hs.irr _
    · exact hs.notr (ih ((k - 1) / 2) (by omega) (by omega)) (h k (by omega) hk)
/-- A heap but for place j, which may be too soon for its parent. -/
structure HpUp (s : Int → Int → Prop) (l : List Int) (j : Nat) : Prop where
  lt : j < l.length
  rest : ∀ k, 0 < k → k < l.length → k ≠ j → ¬ s (ht l k) (ht l ((k - 1) / 2))
  over : ∀ k, 0 < k → k < l.length → (k - 1) / 2 = j → 0 < j → ¬ s (ht l k) (ht l ((j - 1) / 2))
theorem HpUp.push {s : Int → Int → Prop} {l : List Int} (h : Hp s l.length l) (x : Int) : HpUp s (l ++ [x]) l.length where
  lt := by simp
  rest := fun k h0 hk hne => by
    simp at hk
    have e : ∀ i, i < l.length → ht (l ++ [x]) i = ht l i := fun i hi => by simp [ht, List.getElem?_append_left hi]
    rw [e _ (by omega), e _ (by omega)]
    exact h k h0 (by omega)
  over := fun k h0 hk e => by simp at hk; omega
theorem HpUp.done {s : Int → Int → Prop} {l : List Int} {j : Nat} (h : HpUp s l j) (he : j = 0 ∨ ¬ s (ht l j) (ht l ((j - 1) / 2))) : Hp s l.length l := by
  intro k h0 hk
  by_cases e : k = j
  · subst e
    rcases he with he | he
    · omega
    · exact he
  · exact h.rest k h0 hk e
theorem HpUp.step {s : Int → Int → Prop} (hs : Strict s) {l : List Int} {j : Nat} (h : HpUp s l j) (h0 : 0 < j) (hl : s (ht l j) (ht l ((j - 1) / 2))) : HpUp s (swp l ((j - 1) / 2) j) ((j - 1) / 2) where
  lt := by rw [swp_len]; have := h.lt; omega
  rest := fun k hk0 hk hne => by
    rw [swp_len] at hk
    have hj := h.lt
    rw [ht_swp (by omega) hj, ht_swp (by omega) hj]
    by_cases e : k = j
    · subst e
      rw [if_pos rfl, if_neg (by omega), if_pos rfl]
      exact hs.asym hl
    · rw [if_neg e, if_neg hne]
      by_cases e2 : (k - 1) / 2 = j
      · rw [if_pos e2]; exact h.over k hk0 hk e2 h0
      · rw [if_neg e2]
        by_cases e3 : (k - 1) / 2 = (j - 1) / 2
        · rw [if_pos e3]
          have := h.rest k hk0 hk e
          rw [e3] at this
          exact hs.notr (hs.asym hl) this
        · rw [if_neg e3]; exact h.rest k hk0 hk e
  over := fun k hk0 hk hp hi => by
    rw [swp_len] at hk
    have hj := h.lt
    rw [ht_swp (by omega) hj, ht_swp (by omega) hj]
    rw [if_neg (show ¬ ((j - 1) / 2 - 1) / 2 = j by omega), if_neg (show ¬ ((j - 1) / 2 - 1) / 2 = (j - 1) / 2 by omega)]
    have hpp := h.rest ((j - 1) / 2) hi (by omega) (by omega)
    by_cases e : k = j
    · subst e; rw [if_pos rfl]; exact hpp
    · rw [if_neg e, if_neg (by omega)]
      have := h.rest k hk0 hk e
      rw [hp] at this
      exact hs.notr hpp this
/-- A heap in the first n places but for place i, which may be too late for its children. -/
structure HpDn (s : Int → Int → Prop) (n : Nat) (l : List Int) (i : Nat) : Prop where
  len : n ≤ l.length
  rest : ∀ k, 0 < k → k < n → (k - 1) / 2 ≠ i → ¬ s (ht l k) (ht l ((k - 1) / 2))
  over : ∀ k, 0 < k → k < n → (k - 1) / 2 = i → 0 < i → ¬ s (ht l k) (ht l ((i - 1) / 2))
theorem HpDn.start {s : Int → Int → Prop} {l : List Int} {n : Nat} (h : Hp s (n + 1) l) (hn : l.length = n + 1) : HpDn s n (swp l 0 n) 0 where
  len := by rw [swp_len]; omega
  rest := fun k h0 hk hp => by
    rw [ht_swp (by omega) (by omega), ht_swp (by omega) (by omega), if_neg (by omega), if_neg (by omega), if_neg (by omega), if_neg hp]
    exact h k h0 (by omega)
  over := fun k h0 hk hp hi => by omega
theorem HpDn.done {s : Int → Int → Prop} (hs : Strict s) {n : Nat} {l : List Int} {i : Nat} (h : HpDn s n l i) (he : 2 * i + 1 < n → ∃ j, (j = 2 * i + 1 ∨ j = 2 * i + 2) ∧ (∀ k, (k = 2 * i + 1 ∨ k = 2 * i + 2) → k < n → ¬ s (ht l k) (ht l j)) ∧ ¬ s (ht l j) (ht l i)) : Hp s n l := by
  intro k h0 hk
  by_cases e : (k - 1) / 2 = i
  · obtain ⟨j, _, h2, h3⟩ := he (by omega)
    rw [e]
    exact hs.notr h3 (h2 k (by omega) hk)
  · exact h.rest k h0 hk e
theorem HpDn.step {s : Int → Int → Prop} (hs : Strict s) {n : Nat} {l : List Int} {i j : Nat} (h : HpDn s n l i) (hj : j = 2 * i + 1 ∨ j = 2 * i + 2) (hjn : j < n) (hb : ∀ k, (k = 2 * i + 1 ∨ k = 2 * i + 2) → k < n → ¬ s (ht l k) (ht l j)) (hl : s (ht l j) (ht l i)) : HpDn s n (swp l i j) j where
  len := by rw [swp_len]; exact h.len
  rest := fun k h0 hk hp => by
    have hn := h.len
    rw [ht_swp (by omega) (by omega), ht_swp (by omega) (by omega), if_neg (show ¬ (k - 1) / 2 = j from hp)]
    by_cases e : (k - 1) / 2 = i
    · rw [if_pos e]
      by_cases e2 : k = j
      · rw [if_pos e2]; exact hs.asym hl
      · rw [if_neg e2, if_neg (by omega)]; exact hb k (by omega) hk
    · rw [if_neg e, if_neg (show ¬ k = j by omega)]
      by_cases e2 : k = i
      · rw [if_pos e2]
        subst e2
        exact h.over j (by omega) hjn (by omega) (by omega)
      · rw [if_neg e2]; exact h.rest k h0 hk e
  over := fun k h0 hk hp hj0 => by
    have hn := h.len
    have e : (j - 1) / 2 = i := by omega
    rw [e, ht_swp (by omega) (by omega), ht_swp (by omega) (by omega), if_neg (show ¬ k = j by omega), if_neg (show ¬ k = i by omega), if_neg (show ¬ i = j by omega), if_pos rfl]
    have := h.rest k h0 hk (by omega)
    rwa [hp] at this
theorem perm_last {l : List Int} {n : Nat} (h : l.length = n + 1) : l = l.take n ++ [ht l n] := by
  have h1 := (List.take_append_drop n l).symm
  have h2 : l.drop n = [ht l n] := by
    rw [List.drop_eq_getElem_cons (by omega), List.drop_eq_nil_of_le (by omega), ht_get]
  rw [h2] at h1
  exact h1
/-- The order of the queue, on the numbers that it holds. -/
def sI (J : List JobR) (a b : Int) : Prop := urgOf J b.toNat < urgOf J a.toNat ∨ (urgOf J a.toNat = urgOf J b.toNat ∧ a < b)
theorem sI_iff {J : List JobR} {a b : Int} (ha : 0 ≤ a) (hb : 0 ≤ b) : sI J a b ↔ sooner J a.toNat b.toNat := by
  unfold sI sooner
  have : a < b ↔ a.toNat < b.toNat := by omega
  rw [this]
theorem sI_strict (J : List JobR) : Strict (sI J) where
  irr := fun a h => by unfold sI at h; omega
  tr := fun a b c h1 h2 => by unfold sI at *; omega
  conn := fun a b => by unfold sI; omega
instance (J : List JobR) (a b : Int) : Decidable (sI J a b) := inferInstanceAs (Decidable (_ ∨ _))
end Go.Proofs.Ytnepaaheiakimaa
