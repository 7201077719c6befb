/- Blocks that are apart; programs without races; slices of blocks with their room: plain (for the seat that has neither Mean nor Begin: texts of wip/tplc cut small). No conditions. -/
import Derived.Test.YtgiceeholamphaaDoorNamesW
import Derived.Test.YtgiceeholamphaaDoorMapR
namespace Go.Proofs.YtgiceeholamphaaDoor
open Go.ChangeShapes Go.WideShapes Go.ChangeAt Go.RowKit Go.Maps

section
variable {A D R A' D' R' : List ByteArray}
/-- Two that are apart. -/
structure Apt (A D R A' D' R' : List ByteArray) : Prop where
  aa : ∀ s ∈ A, s ∉ A'
  ad : ∀ s ∈ A, s ∉ D'
  ar : ∀ s ∈ A, s ∉ R'
  da : ∀ s ∈ D, s ∉ A'
  dr : ∀ s ∈ D, s ∉ R'
  ra : ∀ s ∈ R, s ∉ A'
  rd : ∀ s ∈ R, s ∉ D'
theorem Apt.symm (h : Apt A D R A' D' R') : Apt A' D' R' A D R :=
  ⟨fun s a b => h.aa s b a, fun s a b => h.da s b a, fun s a b => h.ra s b a, fun s a b => h.ad s b a, fun s a b => h.rd s b a, fun s a b => h.ar s b a, fun s a b => h.dr s b a⟩
end
/-- Blocks that are apart, two by two: in whatever order. -/
def aptB (a b : BlockR) : Prop := Apt (assignsS a.l) (addsS a.l) (readsS a.l) (assignsS b.l) (addsS b.l) (readsS b.l)
theorem aptB_symm {a b : BlockR} (h : aptB a b) : aptB b a := Apt.symm h
/-- Without races. -/
inductive CalmS : StatR → Prop
  | mk (x : StatR) (ok : x.kind = 5 → x.blocks.Pairwise aptB) (each : ∀ b ∈ x.blocks, ∀ y ∈ b.l, CalmS y) : CalmS x
def CalmL (l : List StatR) : Prop := ∀ x ∈ l, CalmS x
theorem CalmS.ok {x : StatR} (h : CalmS x) : x.kind = 5 → x.blocks.Pairwise aptB := by cases h with | mk _ r _ => exact r
theorem CalmS.in_ {x : StatR} (h : CalmS x) {b : BlockR} (hb : b ∈ x.blocks) : CalmL b.l := by cases h with | mk _ _ r => exact r b hb
/-- No slice of blocks is longer than its room. -/
inductive CapS : StatR → Prop
  | mk (x : StatR) (cap : x.blocks.length ≤ x.bc) (each : ∀ b ∈ x.blocks, ∀ y ∈ b.l, CapS y) : CapS x
def CapL (l : List StatR) : Prop := ∀ x ∈ l, CapS x
theorem CapS.cap {x : StatR} (h : CapS x) : x.blocks.length ≤ x.bc := by cases h with | mk _ r _ => exact r
theorem CapS.in_ {x : StatR} (h : CapS x) {b : BlockR} (hb : b ∈ x.blocks) : CapL b.l := by cases h with | mk _ _ r => exact r b hb
theorem box_facts {w W : World} {c : List Value} {t : TypeId} (h : w.alloc (.cells c.toArray t) = W) : Below w.heap.size w W ∧ W.heap.size = w.heap.size + 1 ∧ Blk W w.heap.size t c := by
  subst h
  exact ⟨(Below.refl _ _).alloc (Nat.le_refl _) _, by simp, Blk.new _ _ _⟩
theorem bcell {W w1 : World} (hb : Below W.heap.size W w1) : ∀ b o, b < W.heap.size → w1.cell? ⟨b, o, none⟩ = W.cell? ⟨b, o, none⟩ := fun b o h => hb.cell (p := ⟨b, o, none⟩) h
end Go.Proofs.YtgiceeholamphaaDoor
