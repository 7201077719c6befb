/- The memory of graph.Run ahead of its fork, in the lone world. No conditions. -/
import Derived.Test.YticdjkkcfdbdcaaGrU
import Derived.Test.YticdjkkcfdbdcaaGraphChk
import Derived.Test.YticdjkkcfdbdcaaGrP
namespace Go.Proofs.Yticdjkkcfdbdcaa
open Go.ChangeShapes Go.WideShapes Go.ChangeAt Go.RowKit
/-- What was there stands. -/
structure KpG (N : Nat) (L0 L : World) : Prop where
  size : N ≤ L.heap.size
  at_ : ∀ b, b < N → L.heap[b]? = L0.heap[b]?
theorem own_blockG {w w' : World} {base s n : Nat} {e : TypeId} {v : Value} {vs : List Value} (h : w.ownsRow base e s v n vs) (hk : ∀ b, v.ownBlock = some b → w'.heap[b]? = w.heap[b]?) : w'.ownsRow base e s v n vs := by
  refine ⟨h.1, ?_⟩
  rcases h.2 with h1 | ⟨g, cap, cur, rfl, h1, h2, h3⟩
  · exact .inl h1
  · exact .inr ⟨g, cap, cur, rfl, h1, (hk g rfl).trans h2, h3⟩
theorem Rows.of_block {w w' : World} {base g : Nat} {T e : TypeId} {vs : List Value} {xss : List (List Int)} (h : Rows w base g T e vs xss) (hk : ∀ b, b = g ∨ base ≤ b → b < w.heap.size → w'.heap[b]? = w.heap[b]?) (hz : w.heap.size ≤ w'.heap.size) : Rows w' base g T e vs xss :=
  ⟨(hk g (.inl rfl) h.blk.lt).trans h.blk, h.len, fun k v xs hv hx => own_blockG (h.own k v xs hv hx) fun b hb => hk b (.inr ((h.own k v xs hv hx).lt b hb).1) ((h.own k v xs hv hx).lt b hb).2, h.apart, h.below, Nat.le_trans h.bound hz⟩
structure RunSt (L0 L : World) (g bJ : Nat) (A : Option Addr) (c n : Nat) (left : Nat → Int) (nxf : Nat → List Int) (vs : List Value) (q : List Nat) (cl : Bool) : Prop where
  bj : Blk L bJ 34 [.slice A n c]
  num : Blk L g 2 (ints (List.replicate n 0))
  bn : Blk L (g + 1) 23 [.slice (some ⟨g, 0, none⟩) n n]
  left : Blk L (g + 2) 128 (ints (fnI n left))
  bl : Blk L (g + 3) 124 [.slice (some ⟨g + 2, 0, none⟩) n n]
  rows : Rows L (g + 9) (g + 4) 39 3 vs (fnL n nxf)
  bx : Blk L (g + 5) 125 [.slice (some ⟨g + 4, 0, none⟩) n n]
  ch : L.heap[g + 6]? = some (.chan n (bufQ q) cl q.length 0 false)
  bc : Blk L (g + 7) 126 [.chan (some (g + 6))]
  ov : Blk L (g + 8) 128 [.int .i64 0]
  kp : KpG L0.heap.size L0 L
  jlow : L0.heap.size ≤ bJ ∧ bJ < g
section
variable {L0 L L' : World} {g bJ : Nat} {A : Option Addr} {c n : Nat} {left : Nat → Int} {nxf : Nat → List Int} {vs : List Value} {q : List Nat} {cl : Bool}
/-- All blocks but one stand. -/
theorem RunSt.keep (h : RunSt L0 L g bJ A c n left nxf vs q cl) {X : Nat} (hX : X = g + 2 ∨ X = g + 6 ∨ (g + 9 ≤ X ∧ L.heap.size ≤ X)) (hz : L.heap.size ≤ L'.heap.size) (hk : ∀ b, b < L.heap.size → b ≠ X → L'.heap[b]? = L.heap[b]?) {left' : Nat → Int} {q' : List Nat} {cl' : Bool}
    (hl : Blk L' (g + 2) 128 (ints (fnI n left'))) (hc : L'.heap[g + 6]? = some (.chan n (bufQ q') cl' q'.length 0 false)) : RunSt L0 L' g bJ A c n left' nxf vs q' cl' := by
  have hb := h.rows.bound
  have hj := h.jlow
  have bl : ∀ {b t xs}, Blk L b t xs → b ≠ g + 2 → b ≠ g + 6 → b < g + 9 → Blk L' b t xs := fun {b t xs} hb h1 h2 h3 => (hk b hb.lt (by rcases hX with e | e | e <;> omega)).trans hb
  refine ⟨bl h.bj (by omega) (by omega) (by omega), bl h.num (by omega) (by omega) (by omega), bl h.bn (by omega) (by omega) (by omega), hl, bl h.bl (by omega) (by omega) (by omega), h.rows.of_block (fun b hb2 hlt => hk b hlt ?_) hz, bl h.bx (by omega) (by omega) (by omega), hc, bl h.bc (by omega) (by omega) (by omega), bl h.ov (by omega) (by omega) (by omega), ⟨Nat.le_trans h.kp.size hz, fun b hb2 => (hk b (by have := h.kp.size; omega) (by rcases hX with e | e | e <;> omega)).trans (h.kp.at_ b hb2)⟩, h.jlow⟩
  rcases hX with e | e | e <;> rcases hb2 with hb2 | hb2 <;> omega
theorem RunSt.same (h : RunSt L0 L g bJ A c n left nxf vs q cl) (e : L'.heap = L.heap) : RunSt L0 L' g bJ A c n left nxf vs q cl :=
  h.keep (X := L.heap.size) (.inr (.inr ⟨h.rows.bound, Nat.le_refl _⟩)) (by rw [e]; exact Nat.le_refl _) (fun b _ _ => by rw [e]) (by have := h.left; unfold Blk at this ⊢; rw [e]; exact this) (by rw [e]; exact h.ch)
theorem RunSt.alloc (h : RunSt L0 L g bJ A c n left nxf vs q cl) (o : Obj) : RunSt L0 (L.alloc o) g bJ A c n left nxf vs q cl :=
  h.keep (X := L.heap.size) (.inr (.inr ⟨h.rows.bound, Nat.le_refl _⟩)) (by simp) (fun b hb _ => Below.heap_alloc L o b hb) (h.left.alloc o) ((Below.heap_alloc L o _ (Array.getElem?_eq_some_iff.1 h.ch).1).trans h.ch)
theorem RunSt.setLeft (h : RunSt L0 L g bJ A c n left nxf vs q cl) (k : Nat) (x : Int) {left' : Nat → Int} (hx : left' k = x) (hg : ∀ j, j < n → j ≠ k → left' j = left j) : RunSt L0 (L.setCell ⟨g + 2, k, none⟩ (.int .i64 x)) g bJ A c n left' nxf vs q cl :=
  h.keep (X := g + 2) (.inl rfl) (by simp [World.setCell]) (fun b _ hb => Below.heap_setCell L _ _ b hb) (by have := h.left.set_ k (.int .i64 x); rwa [ints_set, fnI_set hx hg] at this) ((Below.heap_setCell L _ _ _ (by show g + 6 ≠ g + 2; omega)).trans h.ch)
theorem RunSt.setChan (h : RunSt L0 L g bJ A c n left nxf vs q cl) (q' : List Nat) (cl' : Bool) : RunSt L0 { L with heap := L.heap.setIfInBounds (g + 6) (.chan n (bufQ q') cl' q'.length 0 false) } g bJ A c n left nxf vs q' cl' := by
  have hne : ∀ b, b ≠ g + 6 → ({ L with heap := L.heap.setIfInBounds (g + 6) (.chan n (bufQ q') cl' q'.length 0 false) } : World).heap[b]? = L.heap[b]? := fun b hb => by
    show (L.heap.setIfInBounds (g + 6) _)[b]? = _
    rw [Array.getElem?_setIfInBounds, if_neg (fun e => hb e.symm)]
  refine h.keep (X := g + 6) (.inr (.inl rfl)) (by simp) (fun b _ hb => hne b hb) ((hne _ (by omega)).trans h.left) ?_
  show (L.heap.setIfInBounds (g + 6) _)[g + 6]? = _
  rw [Array.getElem?_setIfInBounds, if_pos rfl, if_pos (Array.getElem?_eq_some_iff.1 h.ch).1]
theorem RunSt.pushRow (h : RunSt L0 L g bJ A c n left nxf vs q cl) {k : Nat} (hk : k < n) {v v' : Value} {x : Int} (hv : vs[k]? = some v) (hg : L.grownBy L' v.ownBlock) (hown : L'.ownsRow (g + 9) 3 1 v' ((nxf k).length + 1) (ints (nxf k) ++ [.int .i64 x])) (hat : v'.ownBlock = v.ownBlock ∨ v'.ownBlock = some L.heap.size)
    {nxf' : Nat → List Int} (hx : nxf' k = nxf k ++ [x]) (hne : ∀ j, j < n → j ≠ k → nxf' j = nxf j) : RunSt L0 (L'.setCell ⟨g + 4, k, none⟩ v') g bJ A c n left nxf' (vs.set k v') q cl := by
  have hr := h.rows.put hv (fnL_get hk) hg hown hat
  rw [fnL_set hx hne] at hr
  have hvl := fun b (hb : v.ownBlock = some b) => ownBlock_lt h.rows hv hb
  have hb := h.rows.bound
  have hj := h.jlow
  have keep : ∀ b, b < g + 9 → b ≠ g + 4 → (L'.setCell ⟨g + 4, k, none⟩ v').heap[b]? = L.heap[b]? := fun b h1 h2 => by
    rw [Below.heap_setCell L' ⟨g + 4, k, none⟩ v' b h2]
    exact hg.block b (by omega) fun e => by have := hvl b e.symm; omega
  have bl : ∀ {b t xs}, Blk L b t xs → b ≠ g + 4 → b < g + 9 → Blk (L'.setCell ⟨g + 4, k, none⟩ v') b t xs := fun {b t xs} hb h1 h3 => (keep b h3 h1).trans hb
  have hz := hg.size
  exact ⟨bl h.bj (by omega) (by omega), bl h.num (by omega) (by omega), bl h.bn (by omega) (by omega), bl h.left (by omega) (by omega), bl h.bl (by omega) (by omega), hr, bl h.bx (by omega) (by omega), (keep _ (by omega) (by omega)).trans h.ch, bl h.bc (by omega) (by omega), bl h.ov (by omega) (by omega), ⟨by have := h.kp.size; simp [World.setCell]; omega, fun b hb2 => (keep b (by omega) (by omega)).trans (h.kp.at_ b hb2)⟩, h.jlow⟩
theorem RunSt.jobs (h : RunSt L0 L g bJ A c n left nxf vs q cl) {J : List JobR} {B : Nat} (hR : RdJobs L0 B A J) (hB : B ≤ L0.heap.size) : RdJobs L B A J := hR.keep fun p hp => World.cell?_of_block (h.kp.at_ _ (by omega))
end
end Go.Proofs.Yticdjkkcfdbdcaa
