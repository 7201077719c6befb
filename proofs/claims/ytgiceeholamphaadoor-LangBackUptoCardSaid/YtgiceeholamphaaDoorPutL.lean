/- A sorted list of names, and a name set in: plain. No conditions. -/
import Derived.Test.YtgiceeholamphaaDoorMapR
namespace Go.Proofs.YtgiceeholamphaaDoor
open Go.ChangeShapes Go.WideShapes Go.ChangeAt Go.RowKit Go.Maps

def ltN (a b : ByteArray) : Prop := a.data.toList < b.data.toList
instance (a b : ByteArray) : Decidable (ltN a b) := inferInstanceAs (Decidable (a.data.toList < b.data.toList))
theorem ltN_irrefl (a : ByteArray) : ¬ ltN a a := List.lt_irrefl _
theorem ltN_trans {a b c : ByteArray} (h : ltN a b) (k : ltN b c) : ltN a c := List.lt_trans h k
theorem ltN_of {a b : ByteArray} (h : ¬ ltN a b) (hn : a ≠ b) : ltN b a := Std.lt_of_le_of_ne (Std.not_lt.1 h) fun e => hn (bytes_data e.symm)
/-- s set into l. -/
def putL (s : ByteArray) : List ByteArray → List ByteArray
  | [] => [s]
  | a :: l => open Classical in if ltN a s then a :: putL s l else if a = s then a :: l else s :: a :: l
theorem putL_mem (s t : ByteArray) : ∀ l : List ByteArray, t ∈ putL s l ↔ t = s ∨ t ∈ l
  | [] => by simp [putL]
  | a :: l => by
    rw [putL]
    split
    · rw [List.mem_cons, putL_mem s t l, List.mem_cons]
      constructor
      · rintro (h | h | h)
        · exact .inr (.inl h)
        · exact .inl h
        · exact .inr (.inr h)
      · rintro (h | h | h)
        · exact .inr (.inl h)
        · exact .inl h
        · exact .inr (.inr h)
    · split
      · rename_i h
        subst h
        constructor
        · exact .inr
        · rintro (rfl | h)
          · simp
          · exact h
      · rw [List.mem_cons]
theorem putL_sorted (s : ByteArray) : ∀ l : List ByteArray, l.Pairwise ltN → (putL s l).Pairwise ltN
  | [], _ => by simp [putL]
  | a :: l, h => by
    have h1 := List.pairwise_cons.1 h
    rw [putL]
    split
    · rename_i ha
      refine List.pairwise_cons.2 ⟨fun t ht => ?_, putL_sorted s l h1.2⟩
      rcases (putL_mem s t l).1 ht with rfl | ht
      · exact ha
      · exact h1.1 t ht
    · split
      · exact h
      · rename_i ha hn
        have hs := ltN_of ha hn
        refine List.pairwise_cons.2 ⟨fun t ht => ?_, h⟩
        rcases List.mem_cons.1 ht with rfl | ht
        · exact hs
        · exact ltN_trans hs (h1.1 t ht)
theorem putL_at (s : ByteArray) : ∀ (l : List ByteArray) (k : Nat), k ≤ l.length → (∀ i (h : i < l.length), i < k → ltN l[i] s) → (∀ h : k < l.length, ¬ ltN l[k] s) →
    (∀ h : k < l.length, l[k] = s → putL s l = l) ∧ ((∀ h : k < l.length, l[k] ≠ s) → putL s l = l.take k ++ s :: l.drop k)
  | [], k, hk, _, _ => by
    obtain rfl : k = 0 := by simpa using hk
    exact ⟨fun h => absurd h (by simp), fun _ => rfl⟩
  | a :: l, 0, _, _, h2 => by
    have h2 := h2 (by simp)
    simp only [List.getElem_cons_zero] at h2
    constructor
    · intro _ he
      simp only [List.getElem_cons_zero] at he
      rw [putL, if_neg h2, if_pos he]
    · intro hn
      have hn := hn (by simp)
      simp only [List.getElem_cons_zero] at hn
      rw [putL, if_neg h2, if_neg hn]
      rfl
  | a :: l, k + 1, hk, h1, h2 => by
    have ha := h1 0 (by simp) (by omega)
    simp only [List.getElem_cons_zero] at ha
    have ih := putL_at s l k (by simpa using hk) (fun i h hi => by have := h1 (i + 1) (by simpa using h) (by omega); simpa using this) (fun h => by have := h2 (by simpa using h); simpa using this)
    constructor
    · intro h he
      simp only [List.getElem_cons_succ] at he
      rw [putL, if_pos ha, ih.1 (by simpa using h) he]
    · intro hn
      rw [putL, if_pos ha, ih.2 fun h => by have := hn (by simpa using h); simpa using this]
      rfl
/-- Sorted lists with the same names are one. -/
theorem sortedN_unique {a b : List ByteArray} (ha : a.Pairwise ltN) (hb : b.Pairwise ltN) (h : ∀ s, s ∈ a ↔ s ∈ b) : a = b := by
  have hne : ∀ {L : List ByteArray}, L.Pairwise ltN → L.Nodup := fun h => h.imp fun {a b} h e => by subst e; exact ltN_irrefl _ h
  exact List.Perm.eq_of_pairwise (le := ltN) (fun a b _ _ h1 h2 => absurd (ltN_trans h1 h2) (ltN_irrefl _)) ha hb ((List.perm_ext_iff_of_nodup (hne ha) (hne hb)).2 h)
end Go.Proofs.YtgiceeholamphaaDoor
