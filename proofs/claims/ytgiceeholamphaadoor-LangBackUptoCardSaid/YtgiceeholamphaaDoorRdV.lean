/- A statement in the making: where its parts lie; boxes of eight cells. No conditions. -/
import Derived.Test.YtgiceeholamphaaDoorRdL
namespace Go.Proofs.YtgiceeholamphaaDoor
open Go.ChangeShapes Go.WideShapes Go.ChangeAt Go.RowKit Go.Maps

theorem box8 {w : World} {n : Nat} {t : TypeId} {a b c d e f g k : Value} (h : Blk w n t [a, b, c, d, e, f, g, k]) : (w.cell? ⟨n, 0, none⟩ = some a ∧ w.cell? ⟨n, 1, none⟩ = some b ∧ w.cell? ⟨n, 2, none⟩ = some c ∧ w.cell? ⟨n, 3, none⟩ = some d ∧ w.cell? ⟨n, 4, none⟩ = some e ∧ w.cell? ⟨n, 5, none⟩ = some f ∧ w.cell? ⟨n, 6, none⟩ = some g ∧ w.cell? ⟨n, 7, none⟩ = some k) ∧
    (w.frozen? ⟨n, 0, none⟩ = false ∧ w.frozen? ⟨n, 1, none⟩ = false ∧ w.frozen? ⟨n, 2, none⟩ = false ∧ w.frozen? ⟨n, 3, none⟩ = false ∧ w.frozen? ⟨n, 4, none⟩ = false ∧ w.frozen? ⟨n, 5, none⟩ = false ∧ w.frozen? ⟨n, 6, none⟩ = false ∧ w.frozen? ⟨n, 7, none⟩ = false) :=
  ⟨⟨h.cell 0, h.cell 1, h.cell 2, h.cell 3, h.cell 4, h.cell 5, h.cell 6, h.cell 7⟩, h.frozen 0, h.frozen 1, h.frozen 2, h.frozen 3, h.frozen 4, h.frozen 5, h.frozen 6, h.frozen 7⟩
abbrev World.put8 (w : World) (n : Nat) (x0 x1 x2 x3 x4 x5 x6 x7 : Value) : World :=
  (((((((w.setCell ⟨n, 0, none⟩ x0).setCell ⟨n, 1, none⟩ x1).setCell ⟨n, 2, none⟩ x2).setCell ⟨n, 3, none⟩ x3).setCell ⟨n, 4, none⟩ x4).setCell ⟨n, 5, none⟩ x5).setCell ⟨n, 6, none⟩ x6).setCell ⟨n, 7, none⟩ x7
section
variable {x0 x1 x2 x3 x4 x5 x6 x7 y0 y1 y2 y3 y4 y5 y6 y7 : Value} {w w1 : World} {n : Nat}
theorem Blk.put8 {t : TypeId} (h : Blk w n t [y0, y1, y2, y3, y4, y5, y6, y7]) : Blk (World.put8 w n x0 x1 x2 x3 x4 x5 x6 x7) n t [x0, x1, x2, x3, x4, x5, x6, x7] := by
  simpa using (((((((h.set_ 0 x0).set_ 1 x1).set_ 2 x2).set_ 3 x3).set_ 4 x4).set_ 5 x5).set_ 6 x6).set_ 7 x7
theorem RAt.put8 {g tb c i : Nat} {T : List Tok} (h : RAt w g tb c T i) (hn : n ≠ g) (hn2 : n ≠ tb) : RAt (World.put8 w n x0 x1 x2 x3 x4 x5 x6 x7) g tb c T i :=
  (((((((h.far hn hn2).far hn hn2).far hn hn2).far hn hn2).far hn hn2).far hn hn2).far hn hn2).far hn hn2
theorem grown_put8 {row : Option Nat} (h : w.grownBy w1 row) (hb : w.heap.size ≤ n) : w.grownBy (World.put8 w1 n x0 x1 x2 x3 x4 x5 x6 x7) row :=
  grown_new (grown_new (grown_new (grown_new (grown_new (grown_new (grown_new (grown_new h hb) hb) hb) hb) hb) hb) hb) hb
theorem Stays.put8 {S : Nat → Bool} (h : S n = true) : Stays S S w (World.put8 w n x0 x1 x2 x3 x4 x5 x6 x7) :=
  (((((((Stays.set_ h).trans (Stays.set_ h)).trans (Stays.set_ h)).trans (Stays.set_ h)).trans (Stays.set_ h)).trans (Stays.set_ h)).trans (Stays.set_ h)).trans (Stays.set_ h)
theorem put8_size : (World.put8 w n x0 x1 x2 x3 x4 x5 x6 x7).heap.size = w.heap.size := by simp [World.setCell]
theorem ret8 {fn : Func} {R : Ending → World → Prop} {a : Act} {W : World} {k : Nat} {ty : TypeId} (hf : fn.results = #[.cell k 49]) (ht : a.tmps[k]?.getD undef = .pointer (some ⟨n, 0, none⟩)) (hd : a.defers = [])
    (hx : Blk W n ty [x0, x1, x2, x3, x4, x5, x6, x7]) (hR : R (.returned (.agg #[x0, x1, x2, x3, x4, x5, x6, x7])) W) : bodyPost Tryd.prog fn R .ret a W := by
  obtain ⟨⟨k0, k1, k2, k3, k4, k5, k6, k7⟩, _⟩ := box8 hx
  exact bodyPost_ret (v := .agg #[x0, x1, x2, x3, x4, x5, x6, x7]) (by simp [results, hf, ht, go_sem, k0, k1, k2, k3, k4, k5, k6, k7]) hd hR
end
theorem own_own {w w' : World} {base size n : Nat} {e : TypeId} {v : Value} {vs : List Value} (h : w.ownsRow base e size v n vs) (hk : ∀ b, v.ownBlock = some b → w'.heap[b]? = w.heap[b]?) : w'.ownsRow base e size v n vs := by
  refine ⟨h.1, ?_⟩
  rcases h.2 with h1 | ⟨g, cap, cur, hv, hb, hg, rest⟩
  · exact .inl h1
  · exact .inr ⟨g, cap, cur, hv, hb, (hk g (by rw [hv]; rfl)).trans hg, rest⟩
abbrev zeros8 : List Value := [.int .i64 0, .string ⟨#[]⟩, .int .i64 0, .int .i64 0, .string ⟨#[]⟩, .slice none 0 0, .int .i64 0, .slice none 0 0]
/-- The blocks that a statement in the making is not in. -/
abbrev sideS (lo n : Nat) (v : Value) : Nat → Bool := fun b => decide (b < lo) || decide (b = n) || decide (v.ownBlock = some b)
/-- The statement in the making in block n3. -/
structure XS (w : World) (n3 g tb c : Nat) (T : List Tok) (wr : World) (i : Nat) (k : Int) (name : ByteArray) (e : ExprR) (n : Int) (vb : Value) (bs : List BlockR) : Prop where
  at_ : RAt wr g tb c T i
  grown : w.grownBy wr (some g)
  box : Blk wr w.heap.size 49 zeros8
  val : Blk wr n3 49 [.int .i64 k, .string name, .int .i64 e.kind, .int .i64 e.n, .string e.name, .slice e.sA e.kids.length e.sc, .int .i64 n, vb]
  lde : LdE (sideS (w.heap.size + 1) n3 vb) wr e
  own : wr.ownsRow (w.heap.size + 1) 22 1 vb bs.length (blockC bs)
  far : vb.ownBlock ≠ some n3
  each : ∀ b ∈ bs, LdB (sideS (w.heap.size + 1) n3 vb) wr b
  low : w.heap.size < n3
section
variable {w wr w' : World} {n3 g tb c i j : Nat} {T : List Tok} {k n : Int} {name : ByteArray} {e : ExprR} {vb : Value} {bs : List BlockR}
theorem XS.moved (h : XS w n3 g tb c T wr i k name e n vb bs) (hg : wr.grownBy w' (some g)) (hA : RAt w' g tb c T j) (hgl : g < w.heap.size) : XS w n3 g tb c T w' j k name e n vb bs := by
  have hst : Stays (sideS (w.heap.size + 1) n3 vb) (sideS (w.heap.size + 1) n3 vb) wr w' := Stays.of_grown hg (by intro b e; cases e; simp; omega)
  have hl := h.low
  exact ⟨hA, h.grown.trans hg, h.box.grown hg (by intro e; cases e; omega), h.val.grown hg (by intro e; cases e; omega), h.lde.go hst, own_grown h.own hg (fun b e e2 => by cases e2; have := (h.own.lt _ e).1; omega), h.far, fun b hb => (h.each b hb).go hst, hl⟩
theorem blockC_append (a b : List BlockR) : blockC (a ++ b) = blockC a ++ blockC b := by simp [blockC]
theorem blockC_one (l : List BlockR) : ∀ u ∈ blockC l, u.oneCell' = true := by
  intro u hu
  obtain ⟨b, _, rfl⟩ := List.mem_map.1 hu
  rfl
theorem blockC_length (l : List BlockR) : (blockC l).length = l.length * 1 := by simp [blockC]
/-- One block more, by append. -/
theorem XS.push {w6 w8 : World} {v' : Value} {kb : BlockR} {lo5 : Nat} (h : XS w n3 g tb c T w6 i k name e n vb bs) (hgl : g < w.heap.size) (htl : tb < w.heap.size) (hk : LdB (under lo5) w6 kb) (h5 : n3 < lo5) (hv : ∀ b, vb.ownBlock = some b → b < lo5)
    (hown : w8.ownsRow (w.heap.size + 1) 22 1 v' (bs.length + 1) (blockC bs ++ blockC [kb])) (hg : (w6.alloc (.cells #[kb.val] 22)).grownBy w8 vb.ownBlock) (hl : v'.ownBlock = vb.ownBlock ∨ v'.ownBlock = some (w6.alloc (.cells #[kb.val] 22)).heap.size) :
    XS w n3 g tb c T (w8.setCell ⟨n3, 7, none⟩ v') i k name e n v' (bs ++ [kb]) := by
  have hlow := h.low
  have hn3 := h.val.lt
  have hblo : ∀ b, vb.ownBlock = some b → w.heap.size + 1 ≤ b := fun b e => (h.own.lt b e).1
  have hfar : v'.ownBlock ≠ some n3 := by
    rcases hl with e | e
    · rw [e]; exact h.far
    · rw [e]; intro e; simp at e; omega
  have hgo : (w6.alloc (.cells #[kb.val] 22)).grownBy w8 (vb.ownBlock) := hg
  have hst : Stays (sideS (w.heap.size + 1) n3 vb) (sideS (w.heap.size + 1) n3 v') w6 (w8.setCell ⟨n3, 7, none⟩ v') :=
    ((Stays.alloc _).trans (⟨hg.size, fun b hb hS => by
      simp at hS ⊢
      refine ⟨hg.block b hb (fun e => hS.2 e.symm), hS.1, ?_⟩
      rcases hl with e | e
      · rw [e]; exact hS.2
      · rw [e]; intro e; simp at e
        have hb' : b < (w6.alloc (.cells #[kb.val] 22)).heap.size := hb
        simp at hb'
        omega⟩ : Stays (sideS (w.heap.size + 1) n3 vb) (sideS (w.heap.size + 1) n3 v') _ w8)).trans (Stays.set_ (by simp))
  have hA : RAt w8 g tb c T i := (h.at_.kept (World.grownBy_alloc w6 _ none)).stay hg (fun b e => by have := hblo b e; omega) (fun b e => by have := hblo b e; omega)
  refine ⟨hA.far (by omega) (by omega), grown_new ((grown_alloc h.grown _).andThen hg (fun b hb => .inl (by have := hblo b hb; omega))) (by omega), ((h.box.alloc _).grown hg (fun e => by have := hblo _ e.symm; omega)).far (by show w.heap.size ≠ n3; omega) _, ?_, h.lde.go hst, ?_, hfar, ?_, hlow⟩
  · have := ((h.val.alloc (.cells #[kb.val] 22)).grown hg (fun e => h.far e.symm)).set_ 7 v'
    simpa using this
  · rw [blockC_append, List.length_append]
    exact own_own hown fun b hb => by
      simp only [World.setCell, Array.getElem?_modify]
      rw [if_neg (fun e => hfar (by rw [hb, ← e]))]
  · intro b hb
    rcases List.mem_append.1 hb with hb | hb
    · exact (h.each b hb).go hst
    · obtain rfl := List.mem_singleton.1 hb
      refine (hk.go (Stays.sub (S' := sideS (w.heap.size + 1) n3 vb) ?_)).go hst
      intro b _ hb
      simp at hb ⊢
      exact ⟨⟨by omega, by omega⟩, fun e => by have := hv b e; omega⟩
/-- The statement is done: it goes to the result's box. -/
theorem XS.done (h : XS w n3 g tb c T wr i k name e n vb bs) (hf : Fits bs.length) {a : StatR} (ha : StatR.mk k name e.plain n none 0 (plainB bs) = a) {b : StatR} (hb : b = a) : QS w.heap.size b (.agg #[.int .i64 k, .string name, .int .i64 e.kind, .int .i64 e.n, .string e.name, .slice e.sA e.kids.length e.sc, .int .i64 n, vb])
    (World.put8 wr w.heap.size (.int .i64 k) (.string name) (.int .i64 e.kind) (.int .i64 e.n) (.string e.name) (.slice e.sA e.kids.length e.sc) (.int .i64 n) vb) := by
  subst hb
  have hlow := h.low
  obtain ⟨A, cc, rfl, _, _⟩ := own_form h.own
  refine ⟨.mk k name e n A cc bs, rfl, ha, ?_⟩
  have hst : Stays (sideS (w.heap.size + 1) n3 (.slice A bs.length cc)) (under w.heap.size) wr (World.put8 wr w.heap.size (.int .i64 k) (.string name) (.int .i64 e.kind) (.int .i64 e.n) (.string e.name) (.slice e.sA e.kids.length e.sc) (.int .i64 n) (.slice A bs.length cc)) :=
    (Stays.put8 (by simp)).trans (Stays.sub (by intro b _ hb; simp at hb ⊢; omega))
  have hbl : ∀ b, (Value.slice A bs.length cc).ownBlock = some b → w.heap.size + 1 ≤ b := fun b e => (h.own.lt b e).1
  refine ⟨_, h.lde.go hst, ?_, fun b hb => ?_, fun b hb y hy => ?_, hf⟩
  · refine RowB.owned (base := w.heap.size + 1) (v := .slice A bs.length cc) (own_blocks h.own fun b hb hlt => ?_) rfl (fun b e => by have := hbl b e; simp [under]; omega)
    simp only [World.setCell, Array.getElem?_modify]
    repeat rw [if_neg (by show ¬ w.heap.size = b; omega)]
  · have k := (h.each b hb).go hst
    exact ⟨k.row, k.fits⟩
  · exact ((h.each b hb).go hst).each y hy
end
end Go.Proofs.YtgiceeholamphaaDoor
