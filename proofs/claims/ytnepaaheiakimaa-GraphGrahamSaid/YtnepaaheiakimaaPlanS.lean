/- The memory of graph.Plan while it works. No conditions. -/
import Derived.Test.YtnepaaheiakimaaHeapQ
import Derived.Test.YtnepaaheiakimaaPlanRef
import Derived.Test.YtnepaaheiakimaaPlanE
namespace Go.Proofs.Ytnepaaheiakimaa
open Go.ChangeShapes Go.WideShapes Go.ChangeAt Go.RowKit

theorem ownsRow_block {w w' : World} {base : Nat} {e : TypeId} {size : Nat} {v : Value} {n : Nat} {vs : List Value} (h : w.ownsRow base e size v n vs) (hb : ∀ b, v.ownBlock = some b → w'.heap[b]? = w.heap[b]?) : w'.ownsRow base e size v n vs := by
  refine ⟨h.1, ?_⟩
  rcases h.2 with h1 | ⟨g, cap, cur, hv, hbg, hg, rest⟩
  · exact .inl h1
  · exact .inr ⟨g, cap, cur, hv, hbg, (hb g (by subst hv; rfl)).trans hg, rest⟩
/-- The blocks: the slots at g, the counters at g + 1, the slices of those that wait at g + 2, the queue at g + 3, rows from g + 4 on. -/
structure PlSt (w0 w : World) (g B : Nat) (A : Option Addr) (c : Nat) (J : List JobR) (n : Nat) (left : Nat → Int) (nxf : Nat → List Int) (vs : List Value) (vq : Value) (l : List Int) (S : PS) : Prop where
  out : Blk w g 33 (ints (fnI (n * 2) (slotF S)))
  left : Blk w (g + 1) 3 (ints (fnI n left))
  rows : Rows w (g + 4) (g + 2) 38 3 vs (fnL n nxf)
  q : QSt w B (g + 4) (g + 3) A c J vq l
  apart : ∀ (k : Nat) v, vs[k]? = some v → v.ownBlock = none ∨ v.ownBlock ≠ vq.ownBlock
  below : Below g w0 w
  belowB : B ≤ g
section
variable {w0 w w' : World} {g B : Nat} {A : Option Addr} {c : Nat} {J : List JobR} {n : Nat} {left : Nat → Int} {nxf : Nat → List Int} {vs : List Value} {vq vq' : Value} {l l' : List Int} {S S' : PS}
theorem QSt.alloc {base q : Nat} (h : QSt w B base q A c J vq l) (o : Obj) : QSt (w.alloc o) B base q A c J vq l :=
  ⟨h.blk.alloc o, h.own.alloc o, h.jobs.keep fun p hp => World.cell?_of_block (Below.heap_alloc w o _ (by have := h.bound; have := h.qlow; have := h.blow; omega)), h.few, h.size, h.inR, h.qlow, h.blow, by have := h.bound; simp; omega⟩
theorem QSt.setOther {base q : Nat} (h : QSt w B base q A c J vq l) {p : Addr} (hp : p.block ≠ q) (hB : B ≤ p.block) (hv : vq.ownBlock ≠ some p.block) (u : Value) : QSt (w.setCell p u) B base q A c J vq l :=
  ⟨h.blk.far (fun e => hp e.symm) u, ownsRow_setCell_other h.own hv u, h.jobs.keep fun a ha => World.cell?_of_block (Below.heap_setCell w _ _ _ (by omega)), h.few, h.size, h.inR, h.qlow, h.blow, by have := h.bound; simpa [World.setCell] using this⟩
theorem PlSt.alloc (h : PlSt w0 w g B A c J n left nxf vs vq l S) (o : Obj) : PlSt w0 (w.alloc o) g B A c J n left nxf vs vq l S :=
  ⟨h.out.alloc o, h.left.alloc o, h.rows.alloc o, h.q.alloc o, h.apart, h.below.alloc (by have := h.q.bound; omega) o, h.belowB⟩
theorem PlSt.drewN (h : PlSt w0 w g B A c J n left nxf vs vq l S) (m : Nat) : PlSt w0 (w.drewN m) g B A c J n left nxf vs vq l S :=
  ⟨h.out, h.left, ⟨h.rows.blk, h.rows.len, fun k v xs hv hx => h.rows.own k v xs hv hx, h.rows.apart, h.rows.below, h.rows.bound⟩, h.q.drewN m, h.apart, below_drewN h.below m, h.belowB⟩
theorem PlSt.qlt (h : PlSt w0 w g B A c J n left nxf vs vq l S) {b : Nat} (hb : vq.ownBlock = some b) : g + 4 ≤ b ∧ b < w.heap.size := h.q.own.lt b hb
theorem PlSt.setLeft (h : PlSt w0 w g B A c J n left nxf vs vq l S) (k : Nat) (x : Int) {left' : Nat → Int} (hx : left' k = x) (hg : ∀ j, j < n → j ≠ k → left' j = left j) :
    PlSt w0 (w.setCell ⟨g + 1, k, none⟩ (.int .i64 x)) g B A c J n left' nxf vs vq l S :=
  ⟨h.out.far (by simp) _, by have := h.left.set_ k (.int .i64 x); rwa [ints_set, fnI_set hx hg] at this, h.rows.setLow (p := ⟨g + 1, k, none⟩) (by simp) (by simp) _,
    h.q.setOther (by simp) (by have := h.belowB; show B ≤ g + 1; omega) (fun e => by have := (h.qlt e).1; simp at this) _, h.apart, h.below.setCell (by simp) _, h.belowB⟩
theorem PlSt.pushRow (h : PlSt w0 w g B A c J n left nxf vs vq l S) {k : Nat} (hk : k < n) {v v' : Value} {x : Int} (hv : vs[k]? = some v) (hg : w.grownBy w' v.ownBlock)
    (hown : w'.ownsRow (g + 4) 3 1 v' ((nxf k).length + 1) (ints (nxf k) ++ [.int .i64 x])) (hat : v'.ownBlock = v.ownBlock ∨ v'.ownBlock = some w.heap.size)
    {nxf' : Nat → List Int} (hx : nxf' k = nxf k ++ [x]) (hne : ∀ j, j < n → j ≠ k → nxf' j = nxf j) :
    PlSt w0 (w'.setCell ⟨g + 2, k, none⟩ v') g B A c J n left nxf' (vs.set k v') vq l S := by
  have hr := h.rows.put hv (fnL_get hk) hg hown hat
  rw [fnL_set hx hne] at hr
  have hvl := fun b (hb : v.ownBlock = some b) => ownBlock_lt h.rows hv hb
  have hbd := h.q.bound
  have hkeep : ∀ b, b < w.heap.size → b ≠ g + 2 → some b ≠ v.ownBlock → (w'.setCell ⟨g + 2, k, none⟩ v').heap[b]? = w.heap[b]? := fun b h1 h2 h3 => by
    rw [Below.heap_setCell _ _ _ _ h2, hg.block b h1 h3]
  refine ⟨(h.out.grown hg (fun e => by have := hvl _ e.symm; omega)).far (by simp) _, (h.left.grown hg (fun e => by have := hvl _ e.symm; omega)).far (by simp) _, hr,
    ⟨(h.q.blk.grown hg (fun e => by have := hvl _ e.symm; omega)).far (by simp) _, ownsRow_block h.q.own fun b hb => ?_, h.q.jobs.keep fun p hp => World.cell?_of_block ?_, h.q.few, h.q.size, h.q.inR, h.q.qlow, h.q.blow, ?_⟩, fun j u hu => ?_,
    (h.below.grown hg (by omega) (fun b hb => by have := hvl _ hb; omega)).setCell (by simp) _, h.belowB⟩
  · have := h.qlt hb
    refine hkeep b this.2 (by omega) fun e => ?_
    rcases h.apart k v hv with e1 | e1
    · rw [e1] at e; cases e
    · exact e1 (by rw [← e, hb])
  · have := h.belowB
    refine hkeep _ (by omega) (by omega) fun e => ?_
    have := hvl _ e.symm
    omega
  · have := hg.size
    show g + 4 ≤ (w'.setCell _ _).heap.size
    simp [World.setCell]
    omega
  · rw [List.getElem?_set] at hu
    by_cases e : k = j
    · subst e
      split at hu
      · split at hu
        · cases hu
          rcases hat with e | e
          · rw [e]; exact h.apart k v hv
          · refine .inr fun e' => ?_
            have := h.qlt (b := w.heap.size) (by rw [← e', e])
            omega
        · cases hu
      · exact h.apart k u hu
    · rw [if_neg e] at hu
      exact h.apart j u hu
/-- A call on the queue. -/
theorem PlSt.qmove (h : PlSt w0 w g B A c J n left nxf vs vq l S) (hm : QMove (g + 3) w w' vq vq') (hq : QSt w' B (g + 4) (g + 3) A c J vq' l') : PlSt w0 w' g B A c J n left nxf vs vq' l' S := by
  have hbd := h.q.bound
  have hsz := hm.size
  have hlow : ∀ b, b < g + 3 → w'.heap[b]? = w.heap[b]? := fun b hb => hm.block b (by omega) (by omega) fun e => by have := h.qlt e.symm; omega
  have hap : ∀ (k : Nat) v, vs[k]? = some v → v.ownBlock = none ∨ v.ownBlock ≠ vq'.ownBlock := fun k v hv => by
    rcases hm.at_ with e | ⟨b, e, hb⟩
    · rw [e]; exact h.apart k v hv
    · rw [e]
      refine .inr fun e' => ?_
      have := ownBlock_lt h.rows hv e'
      omega
  refine ⟨(hlow g (by omega)).trans h.out, (hlow (g + 1) (by omega)).trans h.left, ⟨(hlow (g + 2) (by omega)).trans h.rows.blk, h.rows.len, fun k v xs hv hx => ownsRow_block (h.rows.own k v xs hv hx) fun b hb => ?_, h.rows.apart, h.rows.below, by omega⟩, hq, hap,
    ⟨hm.os.trans h.below.os, hm.tape.trans h.below.tape, hm.output.trans h.below.output, by have := h.below.size; omega, fun b hb => (hlow b (by omega)).trans (h.below.block b hb)⟩, h.belowB⟩
  have hbl := ownBlock_lt h.rows hv hb
  refine hm.block b hbl.2 (by omega) fun e => ?_
  rcases h.apart k v hv with e1 | e1
  · rw [e1] at hb; cases hb
  · exact e1 (by rw [hb, e])
/-- The slot of a job is laid. -/
theorem PlSt.setSlot (h : PlSt w0 w g B A c J n left nxf vs vq l S) {t : Int} {v b : Nat} (hb : b < n) :
    PlSt w0 ((w.setCell ⟨g, b * 2, none⟩ (.int .i64 t)).setCell ⟨g, b * 2 + 1, none⟩ (.int .i64 v)) g B A c J n left nxf vs vq l (asg J t v b S) where
  out := by
    have h1 := (h.out.set_ (b * 2) (.int .i64 t)).set_ (b * 2 + 1) (.int .i64 v)
    rw [ints_set, ints_set, fnI_set (g := fun k => if k = b * 2 then t else slotF S k) (by simp) (fun j _ hj => by simp [hj]), fnI_set (g := slotF (asg J t v b S)) ?_ ?_] at h1
    · exact h1
    · simp only [slotF, asg]
      rw [if_neg (by omega), show (b * 2 + 1) / 2 = b by omega, upd_eq]
    · intro j _ hj
      simp only [slotF, asg]
      by_cases e : j = b * 2
      · subst e; simp [upd_eq]
      · rw [if_neg e]
        have : j / 2 ≠ b := by omega
        rw [upd_ne this, upd_ne this]
  left := (h.left.far (by simp) _).far (by simp) _
  rows := (h.rows.setLow (p := ⟨g, b * 2, none⟩) (by simp) (by simp) _).setLow (p := ⟨g, b * 2 + 1, none⟩) (by simp) (by simp) _
  q := (h.q.setOther (p := ⟨g, b * 2, none⟩) (by simp) h.belowB (fun e => by have := (h.qlt e).1; simp at this; omega) _).setOther (p := ⟨g, b * 2 + 1, none⟩) (by simp) h.belowB (fun e => by have := (h.qlt e).1; simp at this; omega) _
  apart := h.apart
  below := (h.below.setCell (Nat.le_refl _) _).setCell (Nat.le_refl _) _
  belowB := h.belowB
/-- The workers' array, behind the rows of those that wait. -/
structure DoSt (w : World) (gd g W : Nat) (does : Nat → Int) (vs : List Value) (vq : Value) : Prop where
  blk : Blk w gd 3 (ints (fnI W does))
  far : g + 4 ≤ gd
  offq : vq.ownBlock ≠ some gd
  offr : ∀ (k : Nat) v, vs[k]? = some v → v.ownBlock ≠ some gd
theorem DoSt.drewN {gd W : Nat} {does : Nat → Int} (h : DoSt w gd g W does vs vq) (m : Nat) : DoSt (w.drewN m) gd g W does vs vq := ⟨h.blk, h.far, h.offq, h.offr⟩
theorem DoSt.qmove {gd W : Nat} {does : Nat → Int} (h : DoSt w gd g W does vs vq) (hm : QMove (g + 3) w w' vq vq') : DoSt w' gd g W does vs vq' where
  blk := (hm.block gd h.blk.lt (by have := h.far; omega) (fun e => h.offq e.symm)).trans h.blk
  far := h.far
  offq := fun e => by
    rcases hm.at_ with e1 | ⟨b, e1, hb⟩
    · exact h.offq (e1.symm.trans e)
    · rw [e1] at e; cases e; have := h.blk.lt; omega
  offr := h.offr
theorem DoSt.setOther {gd W : Nat} {does : Nat → Int} (h : DoSt w gd g W does vs vq) {p : Addr} (hp : p.block ≠ gd) (u : Value) : DoSt (w.setCell p u) gd g W does vs vq :=
  ⟨h.blk.far (fun e => hp e.symm) u, h.far, h.offq, h.offr⟩
theorem DoSt.set_ {gd W : Nat} {does does' : Nat → Int} (h : DoSt w gd g W does vs vq) (k : Nat) (x : Int) (hx : does' k = x) (hg : ∀ j, j < W → j ≠ k → does' j = does j) : DoSt (w.setCell ⟨gd, k, none⟩ (.int .i64 x)) gd g W does' vs vq :=
  ⟨by have := h.blk.set_ k (.int .i64 x); rwa [ints_set, fnI_set hx hg] at this, h.far, h.offq, h.offr⟩
/-- A store into the workers' array. -/
theorem PlSt.setDoes (h : PlSt w0 w g B A c J n left nxf vs vq l S) {gd W : Nat} {does : Nat → Int} (hd : DoSt w gd g W does vs vq) (k : Nat) (u : Value) : PlSt w0 (w.setCell ⟨gd, k, none⟩ u) g B A c J n left nxf vs vq l S := by
  have hf := hd.far
  have hb := h.belowB
  have hbd := h.q.bound
  refine ⟨h.out.far (by show g ≠ gd; omega) u, h.left.far (by show g + 1 ≠ gd; omega) u, ⟨h.rows.blk.far (by show g + 2 ≠ gd; omega) u, h.rows.len, fun k v xs hv hx => ownsRow_block (h.rows.own k v xs hv hx) fun b hb => ?_, h.rows.apart, h.rows.below, ?_⟩, h.q.setOther (by show gd ≠ g + 3; omega) (by show B ≤ gd; omega) hd.offq u, h.apart, h.below.setCell (by show g ≤ gd; omega) u, h.belowB⟩
  · exact Below.heap_setCell w _ _ _ (fun e => hd.offr k v hv (by rw [hb, e]))
  · simpa [World.setCell] using hbd
end
end Go.Proofs.Ytnepaaheiakimaa
