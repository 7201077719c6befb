/- Words for memory, over any program: a slice that reads as a list (Rd), a block known whole (Blk). No conditions. -/
import Derived.WalkKit
import Derived.ProofKit
import Derived.Outline
import Derived.WalkLawsBesides
import Derived.WalkSpells
import Derived.Lib.Hide
import Derived.Laws.OwnMore
import Derived.Deep.OwnRows
import Derived.Test.YticdjkkcfdbdcaaProg
import Derived.Maps.AppendAt
import Derived.OwnWalk
namespace Go.Proofs.Yticdjkkcfdbdcaa
open Go.ChangeShapes Go.WideShapes Go.ChangeAt Go.RowKit
theorem add_block (a : Addr) (n : Nat) : (a.add n).block = a.block := by unfold Addr.add; split <;> rfl
theorem Addr.add_lit' (g o k : Nat) : (⟨g, o, none⟩ : Addr).add k = ⟨g, o + k, none⟩ := by unfold Addr.add; split <;> simp_all
/-- The address option A begins a row of cells that holds vs; it lies below block B. (Nothing is said of A where vs is empty.) -/
def Rd (w : World) (B : Nat) (A : Option Addr) (vs : List Value) : Prop :=
  vs ≠ [] → ∃ b o, A = some ⟨b, o, none⟩ ∧ b < B ∧ ∀ i v, vs[i]? = some v → w.cell? ⟨b, o + i, none⟩ = some v
/-- Block g holds just vs, cells of type t, none frozen. -/
def Blk (w : World) (g : Nat) (t : TypeId) (vs : List Value) : Prop := w.heap[g]? = some (.cells vs.toArray t (0, 0))
section
variable {w w' : World} {B B' : Nat} {A : Option Addr} {vs : List Value}
theorem Rd.nil (w : World) (B : Nat) (A : Option Addr) : Rd w B A [] := fun h => absurd rfl h
theorem Rd.at_ (h : Rd w B A vs) {k : Nat} (hk : k < vs.length) : ∃ b o, A = some ⟨b, o, none⟩ ∧ b < B ∧ w.cell? ⟨b, o + k, none⟩ = some vs[k] := by
  obtain ⟨b, o, e, hb, hc⟩ := h (by rintro rfl; simp at hk)
  exact ⟨b, o, e, hb, hc k _ (List.getElem?_eq_getElem hk)⟩
theorem Rd.atMap {α : Type} {f : α → Value} {l : List α} (h : Rd w B A (l.map f)) {k : Nat} (hk : k < l.length) : ∃ b o, A = some ⟨b, o, none⟩ ∧ b < B ∧ w.cell? ⟨b, o + k, none⟩ = some (f l[k]) := by
  obtain ⟨b, o, e, hb, hc⟩ := h.at_ (k := k) (by simpa using hk)
  exact ⟨b, o, e, hb, by simpa using hc⟩
theorem Rd.keep (h : Rd w B A vs) (hk : ∀ p : Addr, p.block < B → w'.cell? p = w.cell? p) : Rd w' B A vs := fun hn => by
  obtain ⟨b, o, e, hb, hc⟩ := h hn
  exact ⟨b, o, e, hb, fun i v hv => (hk _ hb).trans (hc i v hv)⟩
theorem Rd.more (h : Rd w B A vs) (hB : B ≤ B') : Rd w B' A vs := fun hn => by
  obtain ⟨b, o, e, hb, hc⟩ := h hn
  exact ⟨b, o, e, by omega, hc⟩
theorem Rd.below (h : Rd w B A vs) (hb : Below B w w') : Rd w' B A vs := h.keep fun _ hp => hb.cell hp
end
section
variable {w w' : World} {g : Nat} {t : TypeId} {vs : List Value}
theorem Blk.lt (h : Blk w g t vs) : g < w.heap.size := by
  rcases Nat.lt_or_ge g w.heap.size with hlt | hge
  · exact hlt
  · unfold Blk at h; rw [Array.getElem?_eq_none hge] at h; cases h
theorem Blk.cell (h : Blk w g t vs) (i : Nat) : w.cell? ⟨g, i, none⟩ = vs[i]? := by
  rw [cell_of_row w g i vs.toArray t (0, 0) h]; simp
theorem Blk.set_ (h : Blk w g t vs) (i : Nat) (u : Value) : Blk (w.setCell ⟨g, i, none⟩ u) g t (vs.set i u) := by
  unfold Blk at h ⊢
  simp [World.setCell, Array.getElem?_modify, h]
end
def ints (l : List Int) : List Value := l.map (Value.int .i64)
theorem retInt {k : IntKind} {a b : Int} (h : a = b) : Ending.returned (.int k a) = .returned (.int k b) := by rw [h]
theorem retBool {a b : Bool} (h : a = b) : Ending.returned (.bool a) = .returned (.bool b) := by rw [h]
/-- No list that a slice can bear is longer. -/
def Fits (n : Nat) : Prop := n ≤ 140737488351232
end Go.Proofs.Yticdjkkcfdbdcaa

/- Rows of the call's own whose elements take several cells; append from whatever is read. No conditions. -/
namespace Go.Proofs.Yticdjkkcfdbdcaa
open Go.ChangeShapes Go.WideShapes Go.ChangeAt Go.RowKit
section
variable {w w' : World} {base size n : Nat} {e : TypeId} {v : Value} {vs : List Value}
theorem own_form (h : w.ownsRow base e size v n vs) : ∃ A c, v = .slice A n c ∧ n ≤ c ∧ c ≤ maxLen := by
  rcases h.2 with ⟨rfl, rfl⟩ | ⟨g, cap, cur, rfl, _, _, hnc, hcm, _⟩
  · exact ⟨none, 0, rfl, Nat.le_refl _, Nat.zero_le _⟩
  · exact ⟨_, cap, rfl, hnc, hcm⟩
end
end Go.Proofs.Yticdjkkcfdbdcaa
