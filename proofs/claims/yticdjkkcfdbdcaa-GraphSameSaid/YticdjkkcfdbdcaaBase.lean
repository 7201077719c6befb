/- Words for memory, over any program: a slice that reads as a list (Rd), a block known whole (Blk). No conditions. -/
import Derived.WalkKit
import Derived.ProofKit
import Derived.Outline
import Derived.WalkLawsBesides
import Derived.WalkSpells
import Derived.Lib.Hide
import Derived.Laws.OwnMore
import Derived.Deep.OwnRows
namespace Go.Proofs.Yticdjkkcfdbdcaa
open Go.ChangeShapes Go.WideShapes Go.ChangeAt Go.RowKit
theorem add_block (a : Addr) (n : Nat) : (a.add n).block = a.block := by unfold Addr.add; split <;> rfl
theorem Addr.add_lit' (g o k : Nat) : (⟨g, o, none⟩ : Addr).add k = ⟨g, o + k, none⟩ := by unfold Addr.add; split <;> simp_all
theorem add_lit (g k : Nat) : (⟨g, 0, none⟩ : Addr).add k = ⟨g, k, none⟩ := by unfold Addr.add; split <;> simp_all
/-- The address option A begins a row of cells that holds vs; it lies below block B. (Nothing is said of A where vs is empty.) -/
def Rd (w : World) (B : Nat) (A : Option Addr) (vs : List Value) : Prop :=
  vs ≠ [] → ∃ b o, A = some ⟨b, o, none⟩ ∧ b < B ∧ ∀ i v, vs[i]? = some v → w.cell? ⟨b, o + i, none⟩ = some v
/-- Block g holds just vs, cells of type t, none frozen. -/
def Blk (w : World) (g : Nat) (t : TypeId) (vs : List Value) : Prop := w.heap[g]? = some (.cells vs.toArray t (0, 0))
section
variable {w w' : World} {B B' : Nat} {A : Option Addr} {vs : List Value}
theorem Rd.nil (w : World) (B : Nat) (A : Option Addr) : Rd w B A [] := fun h => absurd rfl h
theorem Rd.at_ (h : Rd w B A vs) {k : Nat} (hk : k < vs.length) : ∃ b o, A = some ⟨b, o, none⟩ ∧ b < B ∧ w.cell? ⟨b, o + k, none⟩ = some vs[k] := by
  obtain ⟨b, o, e, hb, hc⟩ := h (by rintro rfl; simp at hk)
  exact ⟨b, o, e, hb, hc k _ (List.getElem?_eq_getElem hk)⟩
theorem Rd.atMap {α : Type} {f : α → Value} {l : List α} (h : Rd w B A (l.map f)) {k : Nat} (hk : k < l.length) : ∃ b o, A = some ⟨b, o, none⟩ ∧ b < B ∧ w.cell? ⟨b, o + k, none⟩ = some (f l[k]) := by
  obtain ⟨b, o, e, hb, hc⟩ := h.at_ (k := k) (by simpa using hk)
  exact ⟨b, o, e, hb, by simpa using hc⟩
theorem Rd.keep (h : Rd w B A vs) (hk : ∀ p : Addr, p.block < B → w'.cell? p = w.cell? p) : Rd w' B A vs := fun hn => by
  obtain ⟨b, o, e, hb, hc⟩ := h hn
  exact ⟨b, o, e, hb, fun i v hv => (hk _ hb).trans (hc i v hv)⟩
theorem Rd.more (h : Rd w B A vs) (hB : B ≤ B') : Rd w B' A vs := fun hn => by
  obtain ⟨b, o, e, hb, hc⟩ := h hn
  exact ⟨b, o, e, by omega, hc⟩
theorem Rd.alloc (h : Rd w B A vs) (hB : B ≤ w.heap.size) (o : Obj) : Rd (w.alloc o) B A vs := h.keep fun p hp => World.cell?_alloc_lt w o p (by omega)
end
section
variable {w w' : World} {g : Nat} {t : TypeId} {vs : List Value}
theorem Blk.lt (h : Blk w g t vs) : g < w.heap.size := by
  rcases Nat.lt_or_ge g w.heap.size with hlt | hge
  · exact hlt
  · unfold Blk at h; rw [Array.getElem?_eq_none hge] at h; cases h
theorem Blk.cell (h : Blk w g t vs) (i : Nat) : w.cell? ⟨g, i, none⟩ = vs[i]? := by
  rw [cell_of_row w g i vs.toArray t (0, 0) h]; simp
theorem Blk.frozen (h : Blk w g t vs) (i : Nat) : w.frozen? ⟨g, i, none⟩ = false := by
  unfold Blk at h
  simp [World.frozen?, h]
theorem Blk.rd (h : Blk w g t vs) : Rd w w.heap.size (some ⟨g, 0, none⟩) vs := fun _ => ⟨g, 0, rfl, h.lt, fun i v hv => by rw [Nat.zero_add, h.cell]; exact hv⟩
theorem Blk.new (w : World) (t : TypeId) (vs : List Value) : Blk (w.alloc (.cells vs.toArray t)) w.heap.size t vs := heap_alloc_new w _
theorem Blk.newArr (w : World) (t : TypeId) {cs : Array Value} {vs : List Value} (h : cs.toList = vs) : Blk (w.alloc (.cells cs t)) w.heap.size t vs := by
  subst h; exact heap_alloc_new w (Obj.cells cs.toList.toArray t (0, 0))
theorem Blk.alloc (h : Blk w g t vs) (o : Obj) : Blk (w.alloc o) g t vs := (Below.heap_alloc w o g h.lt).trans h
theorem Blk.set_ (h : Blk w g t vs) (i : Nat) (u : Value) : Blk (w.setCell ⟨g, i, none⟩ u) g t (vs.set i u) := by
  unfold Blk at h ⊢
  simp [World.setCell, Array.getElem?_modify, h]
theorem Blk.far (h : Blk w g t vs) {p : Addr} (hp : g ≠ p.block) (u : Value) : Blk (w.setCell p u) g t vs := (Below.heap_setCell w p u g hp).trans h
theorem Blk.grown {row : Option Nat} (h : Blk w g t vs) (hb : w.grownBy w' row) (hg : some g ≠ row) : Blk w' g t vs := (hb.block g h.lt hg).trans h
end
def ints (l : List Int) : List Value := l.map (Value.int .i64)
def bools (l : List Bool) : List Value := l.map Value.bool
theorem ints_set (l : List Int) (i : Nat) (x : Int) : (ints l).set i (.int .i64 x) = ints (l.set i x) := by simp [ints, List.map_set]
theorem bools_set (l : List Bool) (i : Nat) (x : Bool) : (bools l).set i (.bool x) = bools (l.set i x) := by simp [bools, List.map_set]
theorem made_one (z : Value) (n : Nat) : (madeCells #[z] n).toList = List.replicate n z := toList_madeCells_one z n
theorem bools_rep (n : Nat) (b : Bool) : bools (List.replicate n b) = List.replicate n (.bool b) := by simp [bools]
theorem ints_rep (n : Nat) (x : Int) : ints (List.replicate n x) = List.replicate n (.int .i64 x) := by simp [ints]
theorem Blk.atBool {w : World} {g : Nat} {t : TypeId} {l : List Bool} (h : Blk w g t (bools l)) {k : Nat} (hk : k < l.length) : w.cell? ⟨g, k, none⟩ = some (.bool l[k]) := by
  rw [h.cell]; simp [bools, hk]
theorem retInt {k : IntKind} {a b : Int} (h : a = b) : Ending.returned (.int k a) = .returned (.int k b) := by rw [h]
theorem retBool {a b : Bool} (h : a = b) : Ending.returned (.bool a) = .returned (.bool b) := by rw [h]
def boolOf : Value → Nat | .bool true => 1 | _ => 0
/-- No list that a slice can bear is longer. -/
def Fits (n : Nat) : Prop := n ≤ 140737488351232
end Go.Proofs.Yticdjkkcfdbdcaa
