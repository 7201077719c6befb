/- Phases in plain Lean: what a process does in a phase. No program; no conditions. -/
import Derived.Test.YticdjkkcfdbdcaaBase
namespace Go.Proofs.Yticdjkkcfdbdcaa
open Go.ChangeShapes Go.WideShapes Go.ChangeAt Go.RowKit
structure DoR where
  kind : Int
  to : Int
  n : Int
structure ProcR where
  todo : List DoR
  num : Int
  come : List Int
  sends : List (Int × Int)
def w64 (n : Int) : Int := wrap64 n
def foldN (n : Int) : List Int → Int
  | [] => n
  | x :: l => foldN (w64 (w64 (31 * n) + x)) l
/-- A process in a phase: up to its DoSync, or its end. -/
def runP (num : Int) (come : List Int) (sends : List (Int × Int)) : List DoR → ProcR
  | [] => ⟨[], num, come, sends⟩
  | d :: t => if d.kind = 1 then runP (w64 (num + d.n)) come sends t
    else if d.kind = 2 then runP num come (sends ++ [(d.to, w64 (num + d.n))]) t
    else if d.kind = 3 then runP (foldN num come) [] sends t
    else ⟨t, num, come, sends⟩
/-- Dos as they lie: three cells each. -/
structure RdDos (w : World) (B : Nat) (A : Option Addr) (D : List DoR) : Prop where
  row : D ≠ [] → ∃ b o, A = some ⟨b, o, none⟩ ∧ b < B ∧ ∀ (k : Nat) (h : k < D.length), w.cell? ⟨b, o + k * 3, none⟩ = some (.int .i64 D[k].kind) ∧ w.cell? ⟨b, o + k * 3 + 1, none⟩ = some (.int .i64 D[k].to) ∧ w.cell? ⟨b, o + k * 3 + 2, none⟩ = some (.int .i64 D[k].n)
theorem RdDos.keep {w w' : World} {B : Nat} {A : Option Addr} {D : List DoR} (h : RdDos w B A D) (hk : ∀ p : Addr, p.block < B → w'.cell? p = w.cell? p) : RdDos w' B A D where
  row := fun hn => by
    obtain ⟨b, o, e, hb, hc⟩ := h.row hn
    refine ⟨b, o, e, hb, fun k hlt => ?_⟩
    obtain ⟨h0, h1, h2⟩ := hc k hlt
    exact ⟨(hk _ hb).trans h0, (hk _ hb).trans h1, (hk _ hb).trans h2⟩
theorem RdDos.below {w w' : World} {B : Nat} {A : Option Addr} {D : List DoR} (h : RdDos w B A D) (hb : Below B w w') : RdDos w' B A D := h.keep fun _ hp => hb.cell hp
theorem RdDos.more {w : World} {B B' : Nat} {A : Option Addr} {D : List DoR} (h : RdDos w B A D) (hB : B ≤ B') : RdDos w B' A D where
  row := fun hn => by obtain ⟨b, o, e, hb, hc⟩ := h.row hn; exact ⟨b, o, e, by omega, hc⟩
theorem RdDos.at_ {w : World} {B : Nat} {A : Option Addr} {D : List DoR} (h : RdDos w B A D) {k : Nat} (hk : k < D.length) : ∃ b o, A = some ⟨b, o, none⟩ ∧ b < B ∧ w.cell? ⟨b, o + k * 3, none⟩ = some (.int .i64 D[k].kind) ∧ w.cell? ⟨b, o + k * 3 + 1, none⟩ = some (.int .i64 D[k].to) ∧ w.cell? ⟨b, o + k * 3 + 2, none⟩ = some (.int .i64 D[k].n) := by
  obtain ⟨b, o, e, hb, hc⟩ := h.row (by rintro rfl; simp at hk)
  exact ⟨b, o, e, hb, hc k hk⟩
theorem RdDos.nil (w : World) (B : Nat) (A : Option Addr) : RdDos w B A [] := ⟨fun h => absurd rfl h⟩
theorem RdDos.tail {w : World} {B : Nat} {A : Option Addr} {d : DoR} {D : List DoR} (h : RdDos w B A (d :: D)) : ∃ b o, A = some ⟨b, o, none⟩ ∧ b < B ∧ w.cell? ⟨b, o, none⟩ = some (.int .i64 d.kind) ∧ w.cell? ⟨b, o + 1, none⟩ = some (.int .i64 d.to) ∧ w.cell? ⟨b, o + 2, none⟩ = some (.int .i64 d.n) ∧ RdDos w B (some ⟨b, o + 3, none⟩) D := by
  obtain ⟨b, o, e, hb, hc⟩ := h.row (by simp)
  obtain ⟨c0, c1, c2⟩ := hc 0 (by simp)
  refine ⟨b, o, e, hb, by simpa using c0, by simpa using c1, by simpa using c2, ⟨fun _ => ⟨b, o + 3, rfl, hb, fun k hk => ?_⟩⟩⟩
  have := hc (k + 1) (by simp; omega)
  simp only [List.getElem_cons_succ] at this
  rw [show o + (k + 1) * 3 = o + 3 + k * 3 by omega] at this
  exact this
/-- What a row of letters holds. -/
def cellsL (l : List (Int × Int)) : List Value := l.flatMap fun x => [.int .i64 x.1, .int .i64 x.2]
theorem cellsL_length (l : List (Int × Int)) : (cellsL l).length = l.length * 2 := by
  induction l with
  | nil => rfl
  | cons x l ih => simp only [cellsL, List.flatMap_cons, List.length_append, List.length_cons, List.length_nil] at ih ⊢; omega
theorem cellsL_append (l m : List (Int × Int)) : cellsL (l ++ m) = cellsL l ++ cellsL m := by simp [cellsL]
/-- A process as it lies. -/
structure PrSt (w : World) (base g : Nat) (T : TypeId) (p : ProcR) (tA cA : Option Addr) (tc cc : Nat) (sv : Value) : Prop where
  blk : Blk w g T [.slice tA p.todo.length tc, .int .i64 p.num, .slice cA p.come.length cc, sv]
  todo : RdDos w g tA p.todo
  come : Rd w g cA (ints p.come)
  own : w.ownsRow base 117 2 sv p.sends.length (cellsL p.sends)
  low : g < base
  bound : base ≤ w.heap.size
  tc : p.todo.length ≤ tc
  cap : p.sends.length + p.todo.length ≤ 1000
  few : p.come.length ≤ 1000000
  nil : p.sends = [] → sv = .slice none 0 0
section
variable {w w' : World} {base g : Nat} {T : TypeId} {t : List DoR} {n : Int} {c : List Int} {s : List (Int × Int)} {tA cA : Option Addr} {tc cc : Nat} {sv : Value}
/-- One Do is taken. -/
theorem PrSt.next {d : DoR} (h : PrSt w base g T ⟨d :: t, n, c, s⟩ tA cA tc cc sv) {A : Option Addr} (hA : RdDos w g A t) {tc1 : Nat} (h1 : t.length ≤ tc1) : PrSt (w.setCell ⟨g, 0, none⟩ (.slice A t.length tc1)) base g T ⟨t, n, c, s⟩ A cA tc1 cc sv where
  blk := h.blk.set_ 0 _
  todo := hA.keep fun p hp => World.cell?_setCell_other w _ p _ (fun e => by subst e; exact absurd hp (Nat.lt_irrefl _))
  come := h.come.setCell (Nat.le_refl _) _
  own := ownsRow_setCell_below h.own h.low _
  low := h.low
  bound := by have := h.bound; simpa [World.setCell] using this
  tc := h1
  cap := by have := h.cap; simp at this ⊢; omega
  few := h.few
  nil := h.nil
theorem PrSt.alloc {p : ProcR} (h : PrSt w base g T p tA cA tc cc sv) (o : Obj) : PrSt (w.alloc o) base g T p tA cA tc cc sv where
  blk := h.blk.alloc o
  todo := h.todo.keep fun p hp => World.cell?_alloc_lt w o p (by have := h.blk.lt; omega)
  come := h.come.keep fun p hp => World.cell?_alloc_lt w o p (by have := h.blk.lt; omega)
  own := h.own.alloc o
  low := h.low
  bound := by have := h.bound; simp; omega
  tc := h.tc
  cap := h.cap
  few := h.few
  nil := h.nil
theorem PrSt.drewN {p : ProcR} (h : PrSt w base g T p tA cA tc cc sv) (m : Nat) : PrSt (w.drewN m) base g T p tA cA tc cc sv := ⟨h.blk, ⟨h.todo.row⟩, h.come, h.own, h.low, h.bound, h.tc, h.cap, h.few, h.nil⟩
theorem PrSt.same {p : ProcR} (h : PrSt w base g T p tA cA tc cc sv) (e : w'.heap = w.heap) : PrSt w' base g T p tA cA tc cc sv := by
  have hc : ∀ q : Addr, w'.cell? q = w.cell? q := fun q => by simp only [World.cell?, e]
  refine ⟨?_, h.todo.keep fun p _ => hc p, h.come.keep fun p _ => hc p, ?_, h.low, by rw [e]; exact h.bound, h.tc, h.cap, h.few, h.nil⟩
  · have := h.blk; unfold Blk at this ⊢; rw [e]; exact this
  · have := h.own; unfold World.ownsRow at this ⊢; rw [e]; exact this
theorem PrSt.drew {p : ProcR} (h : PrSt w base g T p tA cA tc cc sv) : PrSt w.drew base g T p tA cA tc cc sv := ⟨h.blk, ⟨h.todo.row⟩, h.come, h.own, h.low, h.bound, h.tc, h.cap, h.few, h.nil⟩
/-- Its number. -/
theorem PrSt.num (h : PrSt w base g T ⟨t, n, c, s⟩ tA cA tc cc sv) (v : Int) : PrSt (w.setCell ⟨g, 1, none⟩ (.int .i64 v)) base g T ⟨t, v, c, s⟩ tA cA tc cc sv where
  blk := h.blk.set_ 1 _
  todo := h.todo.keep fun p hp => World.cell?_setCell_other w _ p _ (fun e => by subst e; exact absurd hp (Nat.lt_irrefl _))
  come := h.come.setCell (Nat.le_refl _) _
  own := ownsRow_setCell_below h.own h.low _
  low := h.low
  bound := by have := h.bound; simpa [World.setCell] using this
  tc := h.tc
  cap := h.cap
  few := h.few
  nil := h.nil
/-- What came is folded. -/
theorem PrSt.fold (h : PrSt w base g T ⟨t, n, c, s⟩ tA cA tc cc sv) : PrSt (w.setCell ⟨g, 2, none⟩ (.slice none 0 0)) base g T ⟨t, n, [], s⟩ tA none tc 0 sv where
  blk := h.blk.set_ 2 _
  todo := h.todo.keep fun p hp => World.cell?_setCell_other w _ p _ (fun e => by subst e; exact absurd hp (Nat.lt_irrefl _))
  come := .nil _ _ _
  own := ownsRow_setCell_below h.own h.low _
  low := h.low
  bound := by have := h.bound; simpa [World.setCell] using this
  tc := h.tc
  cap := h.cap
  few := Nat.zero_le _
  nil := h.nil
/-- One more is sent. -/
theorem PrSt.send (h : PrSt w base g T ⟨t, n, c, s⟩ tA cA tc cc sv) (hc : s.length < 1000 - t.length) {x : Int × Int} {sv' : Value} (hg : w.grownBy w' sv.ownBlock) (ho : w'.ownsRow base 117 2 sv' (s.length + 1) (cellsL (s ++ [x]))) :
    PrSt (w'.setCell ⟨g, 3, none⟩ sv') base g T ⟨t, n, c, s ++ [x]⟩ tA cA tc cc sv' where
  blk := by
    have hb : Blk w' g T [.slice tA t.length tc, .int .i64 n, .slice cA c.length cc, sv] := h.blk.grown hg (fun e => by have := h.own.lt _ e.symm; have := h.low; omega)
    exact hb.set_ 3 _
  todo := (h.todo.keep fun p hp => World.cell?_of_block (hg.block p.block (by have := h.blk.lt; omega) (fun e => by have := h.own.lt _ e.symm; have := h.low; omega))).keep fun p hp => World.cell?_setCell_other w' _ p _ (fun e => by subst e; exact absurd hp (Nat.lt_irrefl _))
  come := (h.come.keep fun p hp => World.cell?_of_block (hg.block p.block (by have := h.blk.lt; omega) (fun e => by have := h.own.lt _ e.symm; have := h.low; omega))).setCell (Nat.le_refl _) _
  own := by
    have := ownsRow_setCell_below ho (a := ⟨g, 3, none⟩) h.low sv'
    simpa using this
  low := h.low
  bound := by have := h.bound; have := hg.size; simp [World.setCell]; omega
  tc := h.tc
  cap := by simp; omega
  few := h.few
  nil := fun e => by simp at e
end
/-- What stays: all below the base but block g. -/
structure Far (base g : Nat) (w w' : World) : Prop where
  low : ∀ k, k < base → k ≠ g → w'.heap[k]? = w.heap[k]?
  size : w.heap.size ≤ w'.heap.size
section
variable {w w' : World} {base g : Nat}
theorem Far.refl (base g : Nat) (w : World) : Far base g w w := ⟨fun _ _ _ => rfl, Nat.le_refl _⟩
theorem Far.set_ (h : Far base g w w') (i : Nat) (v : Value) : Far base g w (w'.setCell ⟨g, i, none⟩ v) := ⟨fun k hk hg => (Below.heap_setCell w' ⟨g, i, none⟩ v k hg).trans (h.low k hk hg), by have := h.size; simpa [World.setCell] using this⟩
theorem Far.alloc (h : Far base g w w') (hb : base ≤ w'.heap.size) (o : Obj) : Far base g w (w'.alloc o) := ⟨fun k hk hg => (Below.heap_alloc w' o k (by omega)).trans (h.low k hk hg), by have := h.size; simp; omega⟩
theorem Far.drewN (h : Far base g w w') (m : Nat) : Far base g w (w'.drewN m) := ⟨h.low, h.size⟩
theorem Far.drew (h : Far base g w w') : Far base g w w'.drew := ⟨h.low, h.size⟩
theorem Far.same {w2 : World} (h : Far base g w w') (e : w2.heap = w'.heap) : Far base g w w2 := ⟨fun k hk hn => by rw [e]; exact h.low k hk hn, by rw [e]; exact h.size⟩
theorem Far.grown {w2 : World} (h : Far base g w w') (hb : base ≤ w'.heap.size) {row : Option Nat} (hr : ∀ b, row = some b → base ≤ b) (hg : w'.grownBy w2 row) : Far base g w w2 := ⟨fun k hk hn => (hg.block k (by omega) (fun e => by have := hr _ e.symm; omega)).trans (h.low k hk hn), Nat.le_trans h.size hg.size⟩
end
end Go.Proofs.Yticdjkkcfdbdcaa
