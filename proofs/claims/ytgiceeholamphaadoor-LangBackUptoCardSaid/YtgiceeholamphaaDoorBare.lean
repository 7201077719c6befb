/- What is read, but for where it lies; memory without one block: what stays readable while that block turns. No conditions. -/
import Derived.Test.YtgiceeholamphaaDoorOwn
import Derived.Test.YtgiceeholamphaaDoorPar
namespace Go.Proofs.YtgiceeholamphaaDoor
open Go.ChangeShapes Go.WideShapes Go.ChangeAt Go.RowKit

/-! ### Bare -/
mutual
def ExprR.plain : ExprR → ExprR | .mk k n s _ _ l => .mk k n s none 0 (plainE l)
def plainE : List ExprR → List ExprR
  | [] => []
  | e :: l => e.plain :: plainE l
end
mutual
def StatR.plain : StatR → StatR | .mk k s e n _ _ l => .mk k s e.plain n none 0 (plainB l)
def plainB : List BlockR → List BlockR
  | [] => []
  | b :: l => b.plain :: plainB l
def BlockR.plain : BlockR → BlockR | .mk _ _ l => .mk none 0 (plainS l)
def plainS : List StatR → List StatR
  | [] => []
  | x :: l => x.plain :: plainS l
end
theorem plainE_map (l : List ExprR) : plainE l = l.map ExprR.plain := by
  induction l with
  | nil => rfl
  | cons x l ih => simp [plainE, ih]
theorem plainS_map (l : List StatR) : plainS l = l.map StatR.plain := by
  induction l with
  | nil => rfl
  | cons x l ih => simp [plainS, ih]
theorem plainB_map (l : List BlockR) : plainB l = l.map BlockR.plain := by
  induction l with
  | nil => rfl
  | cons x l ih => simp [plainB, ih]
theorem plainS_append (a b : List StatR) : plainS (a ++ b) = plainS a ++ plainS b := by simp [plainS_map]
theorem plainB_append (a b : List BlockR) : plainB (a ++ b) = plainB a ++ plainB b := by simp [plainB_map]
theorem plainS_length (a : List StatR) : (plainS a).length = a.length := by simp [plainS_map]
theorem plainB_length (a : List BlockR) : (plainB a).length = a.length := by simp [plainB_map]
theorem plainE_length (a : List ExprR) : (plainE a).length = a.length := by simp [plainE_map]
mutual
theorem ExprR.plain_nodes : ∀ e : ExprR, e.plain.nodes = e.nodes
  | .mk _ _ _ _ _ l => by simp only [ExprR.plain, ExprR.nodes, plainE_nodes l]
theorem plainE_nodes : ∀ l : List ExprR, nodesE (plainE l) = nodesE l
  | [] => rfl
  | e :: l => by simp only [plainE, nodesE, ExprR.plain_nodes e, plainE_nodes l]
end
mutual
theorem StatR.plain_nodes : ∀ x : StatR, x.plain.nodes = x.nodes
  | .mk _ _ e _ _ _ l => by simp only [StatR.plain, StatR.nodes, ExprR.plain_nodes e, plainB_nodes l]
theorem plainB_nodes : ∀ l : List BlockR, nodesB (plainB l) = nodesB l
  | [] => rfl
  | b :: l => by simp only [plainB, nodesB, BlockR.plain_nodes b, plainB_nodes l]
theorem BlockR.plain_nodes : ∀ b : BlockR, b.plain.nodes = b.nodes
  | .mk _ _ l => by simp only [BlockR.plain, BlockR.nodes, plainS_nodes l]
theorem plainS_nodes : ∀ l : List StatR, nodesS (plainS l) = nodesS l
  | [] => rfl
  | x :: l => by simp only [plainS, nodesS, StatR.plain_nodes x, plainS_nodes l]
end

/-! ### Memory without some blocks -/
def less (S : Nat → Bool) (w : World) : World := { w with heap := w.heap.mapIdx fun k o => if S k then .cells #[] 0 (0, 0) else o }
theorem less_cell (S : Nat → Bool) (w : World) (p : Addr) (v : Value) : (less S w).cell? p = some v ↔ S p.block = false ∧ w.cell? p = some v := by
  unfold less World.cell?
  simp only [Array.getElem?_mapIdx]
  cases hs : S p.block with
  | true =>
    cases hw : w.heap[p.block]? with
    | none => simp
    | some o => simp
  | false =>
    cases hw : w.heap[p.block]? with
    | none => simp
    | some o => simp
section
variable {w w' : World} {B B' : Nat}
theorem RowE.mono {A : Option Addr} {l : List ExprR} (h : RowE w B A l) (hk : ∀ p v, p.block < B → w.cell? p = some v → w'.cell? p = some v) (hB : B ≤ B') : RowE w' B' A l := fun hn => by
  obtain ⟨b, o, e, hb, hc⟩ := h hn
  refine ⟨b, o, e, by omega, fun i hi => ?_⟩
  have k := hc i hi
  exact ⟨hk _ _ hb k.c0, hk _ _ hb k.c1, hk _ _ hb k.c2, hk _ _ hb k.c3⟩
theorem RowS.mono {A : Option Addr} {l : List StatR} (h : RowS w B A l) (hk : ∀ p v, p.block < B → w.cell? p = some v → w'.cell? p = some v) (hB : B ≤ B') : RowS w' B' A l := fun hn => by
  obtain ⟨b, o, e, hb, hc⟩ := h hn
  refine ⟨b, o, e, by omega, fun i hi => ?_⟩
  have k := hc i hi
  exact ⟨hk _ _ hb k.c0, hk _ _ hb k.c1, hk _ _ hb k.c2, hk _ _ hb k.c3, hk _ _ hb k.c4, hk _ _ hb k.c5, hk _ _ hb k.c6, hk _ _ hb k.c7⟩
theorem RowB.mono {A : Option Addr} {l : List BlockR} (h : RowB w B A l) (hk : ∀ p v, p.block < B → w.cell? p = some v → w'.cell? p = some v) (hB : B ≤ B') : RowB w' B' A l := fun hn => by
  obtain ⟨b, o, e, hb, hc⟩ := h hn
  exact ⟨b, o, e, by omega, fun i hi => hk _ _ hb (hc i hi)⟩
theorem RdE.mono {e : ExprR} (h : RdE w B e) (hk : ∀ p v, p.block < B → w.cell? p = some v → w'.cell? p = some v) (hB : B ≤ B') : RdE w' B' e := by
  induction h with
  | mk e row each f ih => exact ⟨e, row.mono hk hB, ih, f⟩
theorem RdS.mono {x : StatR} (h : RdS w B x) (hk : ∀ p v, p.block < B → w.cell? p = some v → w'.cell? p = some v) (hB : B ≤ B') : RdS w' B' x := by
  induction h with
  | mk x he row rows each f ih => exact ⟨x, he.mono hk hB, row.mono hk hB, fun b hb => ⟨(rows b hb).1.mono hk hB, (rows b hb).2⟩, ih, f⟩
theorem RdB.mono {b : BlockR} (h : RdB w B b) (hk : ∀ p v, p.block < B → w.cell? p = some v → w'.cell? p = some v) (hB : B ≤ B') : RdB w' B' b :=
  ⟨h.row.mono hk hB, fun y hy => (h.each y hy).mono hk hB, h.fits⟩
/-- Read, and not in a block of S. -/
def LdE (S : Nat → Bool) (w : World) (e : ExprR) : Prop := RdE (less S w) w.heap.size e
def LdS (S : Nat → Bool) (w : World) (x : StatR) : Prop := RdS (less S w) w.heap.size x
def LdB (S : Nat → Bool) (w : World) (b : BlockR) : Prop := RdB (less S w) w.heap.size b
variable {S S' : Nat → Bool}
/-- What is not in S stays, and is not in S'. -/
structure Stays (S S' : Nat → Bool) (w w' : World) : Prop where
  size : w.heap.size ≤ w'.heap.size
  block : ∀ b, b < w.heap.size → S b = false → w'.heap[b]? = w.heap[b]? ∧ S' b = false
theorem less_kept (h : Stays S S' w w') (p : Addr) (v : Value) (hp : p.block < w.heap.size) (hc : (less S w).cell? p = some v) : (less S' w').cell? p = some v := by
  obtain ⟨h1, h2⟩ := (less_cell S w p v).1 hc
  obtain ⟨h3, h4⟩ := h.block _ hp h1
  exact (less_cell S' w' p v).2 ⟨h4, (World.cell?_of_block h3).trans h2⟩
theorem LdE.go {e : ExprR} (h : LdE S w e) (hk : Stays S S' w w') : LdE S' w' e := RdE.mono h (less_kept hk) hk.size
theorem LdS.go {x : StatR} (h : LdS S w x) (hk : Stays S S' w w') : LdS S' w' x := RdS.mono h (less_kept hk) hk.size
theorem LdB.go {b : BlockR} (h : LdB S w b) (hk : Stays S S' w w') : LdB S' w' b := RdB.mono h (less_kept hk) hk.size
theorem LdE.rd {e : ExprR} (h : LdE S w e) : RdE w w.heap.size e := RdE.mono h (fun p v _ hc => ((less_cell S w p v).1 hc).2) (Nat.le_refl _)
theorem LdS.rd {x : StatR} (h : LdS S w x) : RdS w w.heap.size x := RdS.mono h (fun p v _ hc => ((less_cell S w p v).1 hc).2) (Nat.le_refl _)
theorem LdB.rd {b : BlockR} (h : LdB S w b) : RdB w w.heap.size b := RdB.mono h (fun p v _ hc => ((less_cell S w p v).1 hc).2) (Nat.le_refl _)
theorem LdE.leaf {k n : Int} {s : ByteArray} {A : Option Addr} {c : Nat} : LdE S w (.mk k n s A c []) := ⟨_, RowE.nil _ _ _, by simp [ExprR.kids], by simp [ExprR.kids, Fits]⟩
theorem fresh_cell {b o : Nat} {v : Value} (hb : S b = false) (h : w.cell? ⟨b, o, none⟩ = some v) : (less S w).cell? ⟨b, o, none⟩ = some v := (less_cell S w _ v).2 ⟨hb, h⟩
/-- Two expressions in a row of their own. -/
theorem LdE.two {k n : Int} {c b : Nat} {s : ByteArray} {x y : ExprR} {t : TypeId} (hx : LdE S w x) (hy : LdE S w y) (hb : S b = false) (h : Blk w b t (x.cells ++ y.cells)) : LdE S w (.mk k n s (some ⟨b, 0, none⟩) c [x, y]) := by
  refine ⟨_, fun _ => ⟨b, 0, rfl, h.lt, fun i hi => ?_⟩, ?_, by simp [ExprR.kids, Fits]⟩
  · have hm : i = 0 ∨ i = 1 := by simp [ExprR.kids] at hi; omega
    rcases hm with rfl | rfl
    · exact ⟨fresh_cell hb (by rw [h.cell]; rfl), fresh_cell hb (by rw [h.cell]; rfl), fresh_cell hb (by rw [h.cell]; rfl), fresh_cell hb (by rw [h.cell]; rfl)⟩
    · exact ⟨fresh_cell hb (by rw [h.cell]; rfl), fresh_cell hb (by rw [h.cell]; rfl), fresh_cell hb (by rw [h.cell]; rfl), fresh_cell hb (by rw [h.cell]; rfl)⟩
  · intro z hz
    simp only [ExprR.kids, List.mem_cons, List.not_mem_nil, or_false] at hz
    rcases hz with rfl | rfl
    · exact hx
    · exact hy
/-- Rows that the call owns. -/
theorem RowS.owned {v : Value} {n base : Nat} {l : List StatR} {A : Option Addr} {c : Nat} (h : w.ownsRow base 49 8 v n (cellsS l)) (hv : v = .slice A n c) (hS : ∀ b, v.ownBlock = some b → S b = false) : RowS (less S w) w.heap.size A l := fun hn => by
  have hl : n = l.length := by have := h.1; rw [cellsS_length] at this; omega
  have hp : 0 < n := by cases l with | nil => exact absurd rfl hn | cons _ _ => simp at hl; omega
  obtain ⟨b, cc, rfl, hb, hlt, _, _⟩ := own_top h hp
  simp only [Value.slice.injEq] at hv
  obtain ⟨rfl, _, rfl⟩ := hv
  refine ⟨b, 0, rfl, hlt, fun i hi => ?_⟩
  have k := own_statAt h hi
  rw [Nat.zero_add]
  have hbg : S b = false := hS b rfl
  exact ⟨fresh_cell hbg k.c0, fresh_cell hbg k.c1, fresh_cell hbg k.c2, fresh_cell hbg k.c3, fresh_cell hbg k.c4, fresh_cell hbg k.c5, fresh_cell hbg k.c6, fresh_cell hbg k.c7⟩
def blockC (l : List BlockR) : List Value := l.map BlockR.val
theorem RowB.owned {v : Value} {n base : Nat} {l : List BlockR} {A : Option Addr} {c : Nat} (h : w.ownsRow base 22 1 v n (blockC l)) (hv : v = .slice A n c) (hS : ∀ b, v.ownBlock = some b → S b = false) : RowB (less S w) w.heap.size A l := fun hn => by
  have hl : n = l.length := by have := h.1; simp [blockC] at this; omega
  have hp : 0 < n := by cases l with | nil => exact absurd rfl hn | cons _ _ => simp at hl; omega
  obtain ⟨b, cc, rfl, hb, hlt, _, _⟩ := own_top h hp
  simp only [Value.slice.injEq] at hv
  obtain ⟨rfl, _, rfl⟩ := hv
  refine ⟨b, 0, rfl, hlt, fun i hi => ?_⟩
  have hbg : S b = false := hS b rfl
  rw [Nat.zero_add]
  exact fresh_cell hbg (by rw [h.cellAt _ (by omega)]; simp [blockC, hi])
end
/-- The blocks below lo. -/
abbrev under (lo : Nat) : Nat → Bool := fun b => decide (b < lo)
theorem Stays.grown {lo g : Nat} {w w' : World} (h : w.grownBy w' (some g)) (hg : g < lo) : Stays (under lo) (under lo) w w' :=
  ⟨h.size, fun b hb hS => ⟨h.block b hb (fun e => by cases e; simp [under] at hS; omega), hS⟩⟩
theorem Stays.trans {S S' S'' : Nat → Bool} {w w' w'' : World} (h : Stays S S' w w') (k : Stays S' S'' w' w'') : Stays S S'' w w'' :=
  ⟨Nat.le_trans h.size k.size, fun b hb hS => by
    obtain ⟨h1, h2⟩ := h.block b hb hS
    obtain ⟨h3, h4⟩ := k.block b (Nat.lt_of_lt_of_le hb h.size) h2
    exact ⟨h3.trans h1, h4⟩⟩
/-- To another set, memory as it is. -/
theorem Stays.sub {S S' : Nat → Bool} {w : World} (h : ∀ b, b < w.heap.size → S b = false → S' b = false) : Stays S S' w w := ⟨Nat.le_refl _, fun b hb hS => ⟨rfl, h b hb hS⟩⟩
theorem Stays.of_grown {S : Nat → Bool} {w w' : World} {row : Option Nat} (h : w.grownBy w' row) (hr : ∀ g, row = some g → S g = true) : Stays S S w w' :=
  ⟨h.size, fun b hb hS => ⟨h.block b hb (fun e => by rw [hr b e.symm] at hS; cases hS), hS⟩⟩
theorem Stays.set_ {S : Nat → Bool} {w : World} {b o : Nat} {v : Value} (h : S b = true) : Stays S S w (w.setCell ⟨b, o, none⟩ v) :=
  ⟨by simp [World.setCell], fun k _ hS => ⟨by simp only [World.setCell, Array.getElem?_modify]; rw [if_neg (fun e => by rw [← e, h] at hS; cases hS)], hS⟩⟩
theorem Stays.alloc {S : Nat → Bool} {w : World} (o : Obj) : Stays S S w (w.alloc o) := ⟨by simp, fun k hk hS => ⟨Below.heap_alloc w o k hk, hS⟩⟩
theorem Stays.drew {S : Nat → Bool} {w : World} : Stays S S w w.drew := ⟨Nat.le_refl _, fun _ _ hS => ⟨rfl, hS⟩⟩
end Go.Proofs.YtgiceeholamphaaDoor
