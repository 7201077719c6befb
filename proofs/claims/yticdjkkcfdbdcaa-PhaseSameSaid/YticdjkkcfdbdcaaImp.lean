/- The import of an argument: a lone world with one row, read only, that mirrors the call's. No program; no conditions but those named. -/
import Derived.Test.YticdjkkcfdbdcaaOps
import Derived.Test.YticdjkkcfdbdcaaTop
namespace Go.Proofs.Yticdjkkcfdbdcaa
open Go.Conc Go.ConcN
section
variable (P : Program) (bad : TypeId) (n b o : Nat)
/-- Of the row's block alone. -/
def renRow (hb : P.globals.size ≤ b) : Ren where
  to := fun x => if x = P.globals.size then some (b, o) else none
  base := P.globals.size
  own := fun _ => False
  isChan := fun _ => False
  bad := bad
  part := fun x => x = P.globals.size
  ok := fun x p h => by
    by_cases e : x = P.globals.size
    · rw [if_pos e] at h; cases h; exact ⟨Nat.le_of_eq e.symm, hb⟩
    · rw [if_neg e] at h; cases h
/-- The row may be read. -/
def readK : LK := ⟨fun _ => False, fun l => ∃ i, i < n ∧ l = .cell ⟨b, o + i, none⟩, fun _ => False⟩
def rowW (vs : List Value) (w : World) : World := { w with heap := (Array.replicate P.globals.size (.cells #[] bad)).push (.cells vs.toArray bad (0, vs.length)) }
end
section
variable {S : FnSet} {P : Program} {bad : TypeId} {b o : Nat}
theorem rowW_size (vs : List Value) (w : World) : (rowW P bad vs w).heap.size = P.globals.size + 1 := by simp [rowW]
theorem rowW_at (vs : List Value) (w : World) : (rowW P bad vs w).heap[P.globals.size]? = some (.cells vs.toArray bad (0, vs.length)) := by
  have : (Array.replicate P.globals.size (Obj.cells #[] bad)).size = P.globals.size := by simp
  unfold rowW
  simp only [Array.getElem?_push, this, if_true]
theorem rowW_obj {vs : List Value} {w : World} {x : Nat} {ob : Obj} (h : (rowW P bad vs w).heap[x]? = some ob) : ∃ c e f, ob = .cells c e f := by
  unfold rowW at h
  simp only [Array.getElem?_push] at h
  split at h
  · cases h; exact ⟨_, _, _, rfl⟩
  · rw [Array.getElem?_replicate] at h
    split at h
    · cases h; exact ⟨_, _, _, rfl⟩
    · cases h
theorem mir_row (hb : BadT P bad) (hg : P.globals.size ≤ b) {vs : List Value} (hv : ∀ v ∈ vs, Bare v) {W : World} {x : Array Value} {e : TypeId} {f : Nat × Nat} (hW : W.heap[b]? = some (.cells x e f)) (hc : ∀ (i : Nat) v, vs[i]? = some v → x[o + i]? = some v) :
    Mir S P (renRow P bad b o hg) (readK vs.length b o) (rowW P bad vs W) W := by
  have hlt : b < W.heap.size := (Array.getElem?_eq_some_iff.1 hW).1
  have to : ∀ y c s, (renRow P bad b o hg) y = some (c, s) → y = P.globals.size ∧ c = b ∧ s = o := fun y c s h => by
    have h' : (if y = P.globals.size then some (b, o) else none) = some (c, s) := h
    split at h' <;> simp_all
  refine ⟨?_, ⟨Nat.le_refl _, hb.cell, hb.none⟩⟩
  constructor
  · exact fun y ob ho => .inl (rowW_obj ho)
  · exact ⟨by rw [rowW_size]; exact Nat.le_succ _, by show P.globals.size ≤ W.heap.size; omega⟩
  · intro y n z c s r t h
    obtain ⟨_, _, _, e⟩ := rowW_obj h
    cases e
  · rintro y (h | h)
    · exact h.elim
    · rw [rowW_size]
      have h' : y = P.globals.size := h
      omega
  · intro y c s h
    obtain ⟨rfl, rfl, rfl⟩ := to y c s h
    exact ⟨by rw [rowW_size]; omega, hlt⟩
  · intro y c s z e' fz h h2
    obtain ⟨rfl, rfl, rfl⟩ := to y c s h
    rw [rowW_at] at h2
    cases h2
    exact ⟨_, _, _, hW, .inr ⟨rfl, rfl⟩⟩
  · intro y c s z e' fz h h2 i v hi
    obtain ⟨rfl, rfl, rfl⟩ := to y c s h
    rw [rowW_at] at h2
    cases h2
    have hi' : vs[i]? = some v := by simpa using hi
    have hil : i < vs.length := (List.getElem?_eq_some_iff.1 hi').1
    exact ⟨_, _, _, v, hW, hc i v hi', (hv v (List.mem_of_getElem? hi')).rel, .inr ⟨i, hil, rfl⟩, fun hn => absurd ⟨Nat.zero_le _, hil⟩ hn⟩
  · intro y c s ob h h2 hn
    obtain ⟨_, _, _, e⟩ := rowW_obj h2
    exact absurd e (hn _ _ _)
  · intro y c s ob h h2 ⟨o', hor⟩
    obtain ⟨_, _, _, e⟩ := rowW_obj h2
    exact absurd e (hor.notCells.1 _ _ _)
  · exact fun y ob h => h.elim
  · intro y y' c s s' z z' e1 e2 f1 f2 i i' h1 h2 h3 h4 h5 h6 h7 h8
    rw [(to y c s h1).1, (to y' c s' h2).1]
  · intro y y' c s s' o1 o2 h1 h2 h3 h4 h5 h6
    rw [(to y c s h1).1, (to y' c s' h2).1]
  · intro y c s n z cl sn rc t h h2
    obtain ⟨_, _, _, e⟩ := rowW_obj h2
    cases e
end
end Go.Proofs.Yticdjkkcfdbdcaa
