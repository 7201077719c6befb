/- Letters are appended; the region of (*Actor).at that draws its order, alone. No conditions but that what is read is there. -/
import Derived.Test.YticdjkkcfdbdcaaAcF
import Derived.Test.YticdjkkcfdbdcaaPhY
import Derived.Deep.LoopGhost
namespace Go.Proofs.Yticdjkkcfdbdcaa
open Go.Conc Go.ConcN Go.RowKit
def flatX (l : List LetR) : List Value := l.flatMap cellsX
theorem flatX_len (l : List LetR) : (flatX l).length = l.length * 4 := flat_len (f := cellsX) (s := 4) (fun _ => rfl) l
theorem flatX_app (a b : List LetR) : flatX (a ++ b) = flatX a ++ flatX b := by simp [flatX]
theorem flatX_one (y : LetR) : flatX [y] = cellsX y := by simp [flatX]
abbrev ownX (w : World) (base : Nat) (v : Value) (l : List LetR) : Prop := w.ownsRow base 49 4 v l.length (flatX l)
theorem flatX_one' (l : List LetR) : ∀ u ∈ flatX l, u.oneCell' = true := by
  intro u hu
  obtain ⟨x, _, hx⟩ := List.mem_flatMap.1 hu
  simp [cellsX] at hx
  rcases hx with rfl | rfl | rfl | rfl <;> rfl
theorem info_lett : (Try.prog.info? 49).map (fun i => (i.zero, i.size, i.bytes)) = some (some (aggX le0), 4, 32) := by kernel_rfl
/-- Some letters are appended to a row of one's own. -/
theorem app_letters {w : World} {base : Nat} {v : Value} {s ys : List LetR} {A : Addr} {c : Nat} {e : Operand → Value} {o : Oper} {p q : Tmp} (ho : ownX w base v s) (hn : ∀ j u, (flatX ys)[j]? = some u → w.cell? (A.add j) = some u) (hs : s.length + ys.length < 1000000) (hb : base ≤ w.heap.size)
    (hop : o.op = .call { callee := .builtin .append, args := #[.tmp p, .tmp q], argTypes := #[44, 44] }) (ep : e (.tmp p) = v) (eq : e (.tmp q) = .slice (some A) ys.length c) :
    ∃ v' w', (execOp e o).run Try.prog w = .ok (.value v') w' ∧ ownX w' base v' (s ++ ys) ∧ w.grownBy w' v.ownBlock ∧ (v'.ownBlock = v.ownBlock ∨ v'.ownBlock = some w.heap.size) := by
  obtain ⟨i0, hi0, hz0, hz1, hz2⟩ := info_parts info_lett
  obtain ⟨v', w', r1, r2, r3, _, r5⟩ := run_append_own_at (P := Try.prog) w base 44 o.type 49 i0 (aggX le0) 4 32 Try.underlying44 hi0 hz0 hz1 hz2 rfl (by decide) v s.length (flatX s) ho A ys.length c (flatX ys) (flatX_len ys) hn (flatX_one' ys) (by unfold maxLen; omega) (by omega) hb
  refine ⟨v', w', ?_, ?_, r3, r5⟩
  · unfold execOp
    simp only [hop, resolve, invoke, builtin, Sem.run_bind, Sem.run_pure, Result.andThen_ok, List.map_toArray, List.map_cons, List.map_nil, ep, eq, r1]
  · unfold ownX
    rw [List.length_append, flatX_app]
    exact r2
theorem app_one {w : World} {base : Nat} {v : Value} {s : List LetR} {y : LetR} {nb : Nat} {e : Operand → Value} {o : Oper} {p q : Tmp} (ho : ownX w base v s) (hn : w.heap[nb]? = some (.cells (cellsX y).toArray 49 (0, 0))) (hs : s.length < 900000) (hb : base ≤ w.heap.size)
    (hop : o.op = .call { callee := .builtin .append, args := #[.tmp p, .tmp q], argTypes := #[44, 44] }) (ep : e (.tmp p) = v) (eq : e (.tmp q) = .slice (some ⟨nb, 0, none⟩) 1 1) :
    ∃ v' w', (execOp e o).run Try.prog w = .ok (.value v') w' ∧ ownX w' base v' (s ++ [y]) ∧ w.grownBy w' v.ownBlock ∧ (v'.ownBlock = v.ownBlock ∨ v'.ownBlock = some w.heap.size) :=
  app_letters (ys := [y]) ho (fun j u hu => by
    rw [flatX_one] at hu
    have e : ((⟨nb, 0, none⟩ : Addr).add j) = ⟨nb, j, none⟩ := by simp [Addr.add_lit']
    rw [e]
    exact cells_at hn j u hu) (by simp; omega) hb hop ep eq
/-- An actor's two cells are set; what else was there stands. -/
structure AtSt (w w' : World) (g og : Nat) (n : Int) (v : Value) : Prop where
  size : w.heap.size ≤ w'.heap.size
  other : ∀ b, b < w.heap.size → b ≠ g → w'.heap[b]? = w.heap[b]?
  row : ∃ x ty, w.heap[g]? = some (.cells x ty (0, 0)) ∧ og + 3 < x.size ∧ w'.heap[g]? = some (.cells ((x.setIfInBounds og (.int .i64 n)).setIfInBounds (og + 3) v) ty (0, 0))
section
variable {w w' w2 : World} {g og : Nat} {n n2 : Int} {v v2 : Value}
theorem AtSt.lt (h : AtSt w w' g og n v) : g < w.heap.size := by
  obtain ⟨x, ty, h1, _⟩ := h.row
  exact (Array.getElem?_eq_some_iff.1 h1).1
theorem AtSt.cell (h : AtSt w w' g og n v) : w'.cell? ⟨g, og, none⟩ = some (.int .i64 n) ∧ w'.cell? ⟨g, og + 3, none⟩ = some v ∧ (∀ i, i ≠ og → i ≠ og + 3 → w'.cell? ⟨g, i, none⟩ = w.cell? ⟨g, i, none⟩) ∧ ∀ i, w'.frozen? ⟨g, i, none⟩ = false := by
  obtain ⟨x, ty, h1, h2, h3⟩ := h.row
  refine ⟨?_, ?_, fun i e1 e2 => ?_, fun i => frozen_at h3 i⟩
  · rw [cell_of_row _ _ _ _ _ _ h3]
    simp [Array.getElem?_setIfInBounds]
    omega
  · rw [cell_of_row _ _ _ _ _ _ h3]
    simp [Array.getElem?_setIfInBounds, h2]
  · rw [cell_of_row _ _ _ _ _ _ h3, cell_of_row _ _ _ _ _ _ h1]
    simp [Array.getElem?_setIfInBounds, Ne.symm e1, Ne.symm e2]
theorem AtSt.more (h : AtSt w w' g og n v) (hz : w.heap.size ≤ w2.heap.size) (hk : ∀ b, b < w.heap.size → w2.heap[b]? = w'.heap[b]?) : AtSt w w2 g og n v := by
  obtain ⟨x, ty, h1, h2, h3⟩ := h.row
  exact ⟨hz, fun b hb hg => (hk b hb).trans (h.other b hb hg), x, ty, h1, h2, (hk g (Array.getElem?_eq_some_iff.1 h1).1).trans h3⟩
theorem AtSt.num (h : AtSt w w' g og n v) (ho : One w' w2 ⟨g, og, none⟩ (.int .i64 n2)) : AtSt w w2 g og n2 v := by
  obtain ⟨x, ty, h1, h2, h3⟩ := h.row
  have hg : g < w.heap.size := (Array.getElem?_eq_some_iff.1 h1).1
  refine ⟨Nat.le_trans h.size ho.size, fun b hb hn => (ho.other b (Nat.lt_of_lt_of_le hb h.size) hn).trans (h.other b hb hn), x, ty, h1, h2, ?_⟩
  have := ho.at_
  simp only at this
  rw [this, setCell_get (a := ⟨g, og, none⟩) rfl h3]
  congr 2
  apply Array.ext_getElem?
  intro i
  simp only [Array.getElem?_setIfInBounds, Array.size_setIfInBounds]
  by_cases e1 : og = i
  · subst e1; simp
  · by_cases e2 : og + 3 = i
    · subst e2; simp
    · simp [e1, e2]
theorem AtSt.sent (h : AtSt w w' g og n v) (hw : w2.heap = (w'.setCell ⟨g, og + 3, none⟩ v2).heap) : AtSt w w2 g og n v2 := by
  obtain ⟨x, ty, h1, h2, h3⟩ := h.row
  have hg : g < w.heap.size := (Array.getElem?_eq_some_iff.1 h1).1
  refine ⟨by rw [hw, setCell_size]; exact h.size, fun b hb hn => by rw [hw, setCell_ne hn]; exact h.other b hb hn, x, ty, h1, h2, ?_⟩
  rw [hw, setCell_get (a := ⟨g, og + 3, none⟩) rfl h3]
  congr 2
  apply Array.ext_getElem?
  intro i
  simp only [Array.getElem?_setIfInBounds, Array.size_setIfInBounds]
  by_cases e2 : og + 3 = i
  · subst e2; simp
  · simp [e2]
end
def VA5 (g og : Nat) (v : Value) (y : LetR) : Nat → Value := fun i => match i with
  | 0 => .pointer (some ⟨g, og, none⟩)
  | 1 => .pointer (some ⟨g, og, none⟩)
  | 2 => .pointer (some ⟨g, og, none⟩)
  | 3 => .pointer (some ⟨g, og + 3, none⟩)
  | 4 => v
  | 5 => aggX y
  | 8 => .pointer (some ⟨g, og, none⟩)
  | 9 => .pointer (some ⟨g, og + 3, none⟩)
  | _ => undef
set_option maxRecDepth 100000 in
theorem a5_ok : drawOk (opsOf Try.f64 5) 10 = true := by kernel_rfl
set_option maxRecDepth 100000 in
theorem a5_ch : chainOk (opsOf Try.f64 5) 10 [6, 7] = true := by kernel_rfl
/-- The region's world: the sent row's cell, the letter. -/
def SA5 (W : World) (base g og yb : Nat) (v : Value) (y : LetR) (s : List LetR) (vs : List Value) (w : World) : Prop :=
  (w.cell? ⟨g, og + 3, none⟩ = some v ∧ w.frozen? ⟨g, og + 3, none⟩ = false ∧ ∀ j u, (cellsX y)[j]? = some u → w.cell? ⟨yb, j, none⟩ = some u) ∧
  match vs with
  | [] => w.heap = W.heap
  | [v1] => v1 = .slice (some ⟨W.heap.size, 0, none⟩) 1 1 ∧ w.heap = (W.alloc (.cells (cellsX y).toArray 49)).heap
  | _ :: v2 :: _ => ∃ w1 : World, w1.heap = (W.alloc (.cells (cellsX y).toArray 49)).heap ∧ w1.grownBy w v.ownBlock ∧ ownX w base v2 (s ++ [y])
set_option maxRecDepth 100000 in
theorem a5_wp {ops : Array Oper} (hops : ops = opsOf Try.f64 5) {a : Act} {w0 W : World} {g og yb : Nat} {n : Int} {v : Value} {y : LetR} {s : List LetR}
    (hz : a.tmps.size = 37) (t0 : a.eval (.tmp 0) = .pointer (some ⟨g, og, none⟩)) (t6 : a.eval (.tmp 6) = .pointer (some ⟨yb, 0, none⟩)) (hst : AtSt w0 W g og n v) (ho : ownX W w0.heap.size v s) (hs : s.length < 900000) (hy : W.heap[yb]? = some (.cells (cellsX y).toArray 49 (0, 0))) (hyr : some yb ≠ v.ownBlock) {Q : Exit → Act → World → Prop} {id : Nat}
    (hQ : ∀ v1 v2 w', AtSt w0 w' g og n v2 → ownX w' w0.heap.size v2 (s ++ [y]) → Q .normal (putsV ops (VE [6, 7] (VA5 g og v y) [v1, v2]) (List.range 10) a) w') : (Code.region id ops true).wp Try.prog Q a W := by
  subst hops
  have hdd := drawOk_d a5_ok
  have nw : ∀ (V : Nat → Value) t j, prodOf (opsOf Try.f64 5) t = some j → j < 10 → t < 37 → (putsV (opsOf Try.f64 5) V (List.range 10) a).eval (.tmp t) = V j := fun V t j h1 h2 h3 => puts_new hdd h1 h2 (by rw [hz]; exact h3)
  have od : ∀ (V : Nat → Value) t, prodOf (opsOf Try.f64 5) t = none → (putsV (opsOf Try.f64 5) V (List.range 10) a).eval (.tmp t) = a.eval (.tmp t) := fun V t h => puts_old hdd h
  have hsz : (opsOf Try.f64 5).size = 11 := by kernel_rfl
  have hgl := hst.lt
  have hyl := (Array.getElem?_eq_some_iff.1 hy).1
  obtain ⟨q0, q1, _, q3⟩ := hst.cell
  have hgr : some g ≠ v.ownBlock := fun e => by have := (own_block_at ho e.symm).1; omega
  have hgW : g < W.heap.size := Nat.lt_of_lt_of_le hgl hst.size
  refine wp_drawnE mixed_orders a5_ok a5_ch (SA5 W w0.heap.size g og yb v y s) (VA5 g og v y) (fun i o hio him hiE vs w hS => ?_) (fun q i o hq hio vs w hl hS => ?_) (fun vs w hl hS => ?_) (fun d => ⟨⟨q1, q3 _, fun j u hu => cells_at hy j u hu⟩, rfl⟩)
  · have hil : i < 11 := by have := (Array.getElem?_eq_some_iff.1 hio).1; omega
    have h6 : i ≠ 6 := fun e => hiE (by subst e; simp)
    have h7 : i ≠ 7 := fun e => hiE (by subst e; simp)
    obtain rfl | rfl | rfl | rfl | rfl | rfl | rfl | rfl : i = 0 ∨ i = 1 ∨ i = 2 ∨ i = 3 ∨ i = 4 ∨ i = 5 ∨ i = 8 ∨ i = 9 := by omega
    · exact a_mv (op_of (p := .move (.tmp 0)) (by kernel_rfl) hio) ((od _ 0 (by kernel_rfl)).trans t0)
    · exact a_mv (op_of (p := .move (.tmp 0)) (by kernel_rfl) hio) ((od _ 0 (by kernel_rfl)).trans t0)
    · exact q_nil (op_of (p := .nilCheck (.tmp 27)) (by kernel_rfl) hio) (nw _ 27 1 (by kernel_rfl) (by decide) (by decide))
    · exact a_fac (op_of (p := .fieldAddr 140 (.tmp 28) 3) (by kernel_rfl) hio) (nw _ 28 2 (by kernel_rfl) (by decide) (by decide)) (by decide) rfl
    · exact q_load (op_of (p := .load 44 (.tmp 29)) (by kernel_rfl) hio) (nw _ 29 3 (by kernel_rfl) (by decide) (by decide)) (fun w => Try.isAgg44 w) hS.1.1
    · exact a_loadX (op_of (p := .load 49 (.tmp 6)) (by kernel_rfl) hio) ((od _ 6 (by kernel_rfl)).trans t6) (fun j u hu => by rw [Nat.zero_add]; exact hS.1.2.2 j u hu)
    · exact q_nil (op_of (p := .nilCheck (.tmp 26)) (by kernel_rfl) hio) (nw _ 26 0 (by kernel_rfl) (by decide) (by decide))
    · exact a_fac (op_of (p := .fieldAddr 140 (.tmp 34) 3) (by kernel_rfl) hio) (nw _ 34 8 (by kernel_rfl) (by decide) (by decide)) (by decide) rfl
  · match q, hq with
    | 0, hq =>
      obtain rfl : 6 = i := by simpa using hq
      obtain rfl : vs = [] := List.eq_nil_of_length_eq_zero hl
      have hw : w.heap = W.heap := hS.2
      have hc : ∀ p : Addr, p.block < W.heap.size → (w.alloc (.cells (cellsX y).toArray 49)).cell? p = w.cell? p := fun p hp => World.cell?_alloc_lt w _ p (by rw [hw]; exact hp)
      refine ⟨.slice (some ⟨W.heap.size, 0, none⟩) 1 1, w.alloc (.cells (cellsX y).toArray 49), ?_, ⟨(hc _ hgW).trans hS.1.1, ?_, fun j u hu => (hc _ hyl).trans (hS.1.2.2 j u hu)⟩, rfl, ?_⟩
      · have := a_sliceX (e := (putsV (opsOf Try.f64 5) (VE [6, 7] (VA5 g og v y) []) (List.range 10) a).eval) (w := w) (z := y) (op_of (by kernel_rfl) hio) (nw _ 31 5 (by kernel_rfl) (by decide) (by decide))
        rw [hw] at this
        exact this
      · rw [World.frozen?_of_block (w := w) (Below.heap_alloc w _ g (by rw [hw]; exact hgW))]
        exact hS.1.2.1
      · show w.heap.push _ = W.heap.push _
        rw [hw]
    | 1, hq =>
      obtain rfl : 7 = i := by simpa using hq
      match vs, hl with
      | [v1], _ =>
        obtain ⟨hS1, hv1, hw⟩ := hS
        subst hv1
        have hsz1 : w.heap.size = W.heap.size + 1 := by rw [hw]; simp
        have hold : ∀ b, b < W.heap.size → w.heap[b]? = W.heap[b]? := fun b hb => by rw [hw]; exact Below.heap_alloc W _ b hb
        have ho1 : ownX w w0.heap.size v s := own_of_block ho fun b hb => hold b (by obtain ⟨_, cur, h2⟩ := own_block_at ho hb; exact (Array.getElem?_eq_some_iff.1 h2).1)
        have hnb : w.heap[W.heap.size]? = some (.cells (cellsX y).toArray 49 (0, 0)) := by rw [hw]; exact heap_alloc_new W _
        obtain ⟨v', w', r1, r2, r3, _⟩ := app_one (e := (putsV (opsOf Try.f64 5) (VE [6, 7] (VA5 g og v y) [.slice (some ⟨W.heap.size, 0, none⟩) 1 1]) (List.range 10) a).eval) ho1 hnb hs (by have := hst.size; omega) (op_of (by kernel_rfl) hio) (nw _ 30 4 (by kernel_rfl) (by decide) (by decide)) (nw _ 32 6 (by kernel_rfl) (by decide) (by decide))
        have hk : ∀ b, b < w.heap.size → some b ≠ v.ownBlock → w'.heap[b]? = w.heap[b]? := fun b h1 h2 => r3.block b h1 h2
        refine ⟨v', w', r1, ⟨(World.cell?_of_block (hk g (by omega) hgr)).trans hS1.1, (World.frozen?_of_block (hk g (by omega) hgr)).trans hS1.2.1, fun j u hu => (World.cell?_of_block (hk yb (by omega) hyr)).trans (hS1.2.2 j u hu)⟩, w, hw, r3, r2⟩
    | q + 2, hq => simp at hq
  · match vs, hl with
    | [v1, v2], _ =>
      obtain ⟨hS1, w1, hw, hg, ho2⟩ := hS
      have e35 : (putsV (opsOf Try.f64 5) (VE [6, 7] (VA5 g og v y) [v1, v2]) (List.range 10) a).eval (.tmp 35) = .pointer (some ⟨g, og + 3, none⟩) := nw _ 35 9 (by kernel_rfl) (by decide) (by decide)
      have e33 : (putsV (opsOf Try.f64 5) (VE [6, 7] (VA5 g og v y) [v1, v2]) (List.range 10) a).eval (.tmp 33) = v2 := nw _ 33 7 (by kernel_rfl) (by decide) (by decide)
      obtain ⟨o, ho10, hop, hgd, hdst⟩ := op_ex (ops := (opsOf Try.f64 5)) (i := 10) (p := .store 44 (.tmp 35) (.tmp 33)) (d := none) (by kernel_rfl)
      obtain ⟨A2, c2, rfl, _, _⟩ := own_form ho2
      have g1 := (op_store (P := Try.prog) (fn := 0) (k := ⟨fun _ => True, fun _ => True, fun _ => True⟩) (w := w) hop e35 e33 ⟨fun c h => (by cases h), fun c h => (by cases h)⟩ (fun w => Try.sizeOf44 w) hS1.1 hS1.2.1 trivial).1
      have hsz1 : w1.heap.size = W.heap.size + 1 := by rw [hw]; simp
      have hst1 : AtSt w0 w g og n v := hst.more (by have := hst.size; have := hg.size; omega) fun b hb => by
        have hb' := hst.size
        rw [hg.block b (by omega) (fun e => by have := (own_block_at ho e.symm).1; omega), hw]
        exact Below.heap_alloc W _ b (by omega)
      simp only [wpOps, ho10, yld hgd, if_true]
      refine .inl ?_
      unfold Oper.wp
      rw [g1, Oper.upon_skip, hdst, put_none]
      refine hQ v1 _ _ (hst1.sent rfl) (own_of_block ho2 fun b hb => setCell_ne ?_)
      have := (own_block_at ho2 hb).1
      show b ≠ g
      omega
end Go.Proofs.Yticdjkkcfdbdcaa

/- The contract of (*Actor).at. No conditions but that what is read is there. -/
namespace Go.Proofs.Yticdjkkcfdbdcaa
open Go.Conc Go.ConcN Go.RowKit Go.ChangeShapes Go.WideShapes Go.ChangeAt
theorem atR_snoc (rs : List RuleR) : ∀ (l : List LetR) (num : Int) (x : LetR), atR rs num (l ++ [x]) = ((takeR rs (atR rs num l).1 x).1, (atR rs num l).2 ++ (takeR rs (atR rs num l).1 x).2.toList)
  | [], num, x => by simp [atR]
  | y :: l, num, x => by
    have := atR_snoc rs l (takeR rs num y).1 x
    simp only [List.cons_append, atR, this, List.append_assoc]
theorem atR_few (rs : List RuleR) : ∀ (l : List LetR) (num : Int), (atR rs num l).2.length ≤ l.length
  | [], _ => Nat.le_refl _
  | x :: l, num => by
    have := atR_few rs l (takeR rs num x).1
    have h : (takeR rs num x).2.toList.length ≤ 1 := by cases (takeR rs num x).2 <;> simp
    simp only [atR, List.length_append, List.length_cons]
    omega
theorem AtSt.refl {w : World} {g og : Nat} {n : Int} {v : Value} {x : Array Value} {ty : TypeId} (h : w.heap[g]? = some (.cells x ty (0, 0))) (h0 : x[og]? = some (.int .i64 n)) (h3 : x[og + 3]? = some v) : AtSt w w g og n v := by
  refine ⟨Nat.le_refl _, fun _ _ _ => rfl, x, ty, h, (Array.getElem?_eq_some_iff.1 h3).1, ?_⟩
  rw [h]
  congr 2
  apply Array.ext_getElem?
  intro i
  simp only [Array.getElem?_setIfInBounds, Array.size_setIfInBounds]
  by_cases e2 : og + 3 = i
  · subst e2; rw [if_pos rfl, if_pos (by simpa using (Array.getElem?_eq_some_iff.1 h3).1), h3]
  · by_cases e1 : og = i
    · subst e1; rw [if_neg e2, if_pos rfl, if_pos (Array.getElem?_eq_some_iff.1 h0).1, h0]
    · simp [e1, e2]
/-- What 'at' asks. -/
structure AtAsk (w : World) (g og rb cb : Nat) (num : Int) (rs : List RuleR) (ra ca : Assoc) (t : Int) (ls : List LetR) (A : Option Addr) (c B : Nat) : Prop where
  st : AtSt w w g og num (.slice none 0 0)
  c1 : w.cell? ⟨g, og + 1, none⟩ = some (.map (some rb))
  c2 : w.cell? ⟨g, og + 2, none⟩ = some (.map (some cb))
  m1 : MapI w rb ra
  r1 : RulesAs ra rs
  md : ∀ r ∈ rs, 0 ≤ r.mod ∧ (r.mod ≠ 0 → 0 ≤ r.after ∧ r.after ≤ 1000)
  m2 : MapI w cb ca
  get : (getI ca t).getD (.slice none 0 0) = .slice A ls.length c
  rd : Rd w B A (flatX ls)
  hB : B ≤ w.heap.size
  ne : ∀ b o, A = some ⟨b, o, none⟩ → b ≠ g
  few : ls.length < 900000
  ti : ∀ x ∈ ls, 0 ≤ x.time ∧ x.time ≤ 1000000
/-- Between two letters. -/
structure AtMid (w wr : World) (g og : Nat) (num : Int) (rs : List RuleR) (ls : List LetR) (k : Nat) (v : Value) : Prop where
  st : AtSt w wr g og (atR rs num (ls.take k)).1 v
  own : ownX wr w.heap.size v (atR rs num (ls.take k)).2
  nil : (atR rs num (ls.take k)).2 = [] → v = .slice none 0 0
section
variable {w wr w1 w2 w3 : World} {g og rb cb : Nat} {num : Int} {rs : List RuleR} {ra ca : Assoc} {t : Int} {ls : List LetR} {A : Option Addr} {c B k : Nat} {v : Value}
theorem AtAsk.run (h : AtAsk w g og rb cb num rs ra ca t ls A c B) : (Instr.lookup 138 (.map (some cb)) (.int .i64 t) false).run Try.prog w = .ok (.slice A ls.length c) w := by
  have := run_lookupI (P := Try.prog) (w := w) Try.underlying138 Try.underlying3 zero_les h.m2 t
  rw [h.get] at this
  exact this
theorem AtMid.letter (h : AtMid w wr g og num rs ls k v) (ha : AtAsk w g og rb cb num rs ra ca t ls A c B) (hk : k < ls.length) : ∃ b o, A = some ⟨b, o, none⟩ ∧ ∀ j u, (cellsX ls[k])[j]? = some u → wr.cell? ⟨b, o + k * 4 + j, none⟩ = some u := by
  obtain ⟨b, o, hA, hb, hc⟩ := rd_flat (f := cellsX) (s := 4) (by decide) (fun _ => rfl) ha.rd hk
  refine ⟨b, o, hA, fun j u hu => ?_⟩
  have hbw : b < w.heap.size := Nat.lt_of_lt_of_le hb ha.hB
  exact (World.cell?_of_block (h.st.other b hbw (ha.ne _ _ hA))).trans (hc j u hu)
/-- The call's world: the letter's copy is new. -/
theorem AtMid.asks (h : AtMid w wr g og num rs ls k v) (ha : AtAsk w g og rb cb num rs ra ca t ls A c B) (ob : Obj) : (wr.alloc ob).cell? ⟨g, og, none⟩ = some (.int .i64 (atR rs num (ls.take k)).1) ∧ (wr.alloc ob).frozen? ⟨g, og, none⟩ = false ∧ (wr.alloc ob).cell? ⟨g, og + 1, none⟩ = some (.map (some rb)) ∧ MapI (wr.alloc ob) rb ra := by
  obtain ⟨q0, _, q2, q3⟩ := h.st.cell
  have hg := h.st.lt
  have hz := h.st.size
  have hk : ∀ b, b < wr.heap.size → (wr.alloc ob).heap[b]? = wr.heap[b]? := fun b hb => Below.heap_alloc wr ob b hb
  refine ⟨(World.cell?_of_block (hk g (by omega))).trans q0, (World.frozen?_of_block (hk g (by omega))).trans (q3 _), (World.cell?_of_block (hk g (by omega))).trans ((q2 _ (by omega) (by omega)).trans ha.c1), ?_⟩
  have hrl := ha.m1.lt
  refine ha.m1.keep ((hk rb (by omega)).trans (h.st.other rb hrl fun e => ?_))
  obtain ⟨x, ty, h1, _⟩ := h.st.row
  exact ha.m1.not_cells h1 e.symm
theorem AtMid.call (h : AtMid w wr g og num rs ls k v) (ha : AtAsk w g og rb cb num rs ra ca t ls A c B) {n : Int} {x : LetR} {yo : Option LetR} (hn : (atR rs num (ls.take k)).1 = n) (hy : (takeR rs n x).2 = yo) (ht : 0 ≤ x.time ∧ x.time ≤ 1000000) (ob : Obj) :
    Calls Try.prog 106 #[.pointer (some ⟨g, og, none⟩), .agg #[.int .i64 x.time, .int .i64 x.to, .int .i64 x.kind, .int .i64 x.n]] (wr.alloc ob) fun e w' => ∃ v, e = .returned v ∧ takeRet yo v ∧ One (wr.alloc ob) w' ⟨g, og, none⟩ (.int .i64 (takeR rs n x).1) := by
  obtain ⟨q0, q1, q2, q3⟩ := h.asks ha ob
  rw [hn] at q0
  have := take_any (wr.alloc ob) g og rb n rs ra x q0 q1 q2 q3 ha.r1 ha.md ht
  rw [hy] at this
  exact this
/-- Behind the call. -/
theorem AtMid.took (h : AtMid w wr g og num rs ls k v) (hk : k < ls.length) {ob ob2 : Obj} (ho : One (wr.alloc ob) w2 ⟨g, og, none⟩ (.int .i64 (takeR rs (atR rs num (ls.take k)).1 ls[k]).1)) :
    AtSt w (w2.alloc ob2) g og (atR rs num (ls.take (k + 1))).1 v ∧ ownX (w2.alloc ob2) w.heap.size v (atR rs num (ls.take k)).2 ∧ some w2.heap.size ≠ v.ownBlock := by
  have hz := h.st.size
  have hz2 : wr.heap.size + 1 ≤ w2.heap.size := by have := ho.size; simpa using this
  have e : (atR rs num (ls.take (k + 1))).1 = (takeR rs (atR rs num (ls.take k)).1 ls[k]).1 := by
    rw [List.take_succ_eq_append_getElem hk, atR_snoc]
  have hst : AtSt w (wr.alloc ob) g og (atR rs num (ls.take k)).1 v := h.st.more (by simp; omega) fun b hb => Below.heap_alloc wr ob b (by omega)
  have hlt : ∀ b, v.ownBlock = some b → b < wr.heap.size := fun b hb => by
    obtain ⟨_, cur, h2⟩ := own_block_at h.own hb
    exact (Array.getElem?_eq_some_iff.1 h2).1
  refine ⟨?_, own_of_block h.own fun b hb => ?_, fun hb => ?_⟩
  · rw [e]
    exact (hst.num ho).more (by simp; omega) fun b hb => Below.heap_alloc w2 ob2 b (by omega)
  · have h1 := hlt b hb
    have h2 := (own_block_at h.own hb).1
    rw [Below.heap_alloc w2 ob2 b (by omega), ho.other b (by simp; omega) (by have := h.st.lt; show b ≠ g; omega), Below.heap_alloc wr ob b h1]
  · have := hlt _ hb.symm
    omega
theorem AtMid.next (hk : k < ls.length) (h1 : AtSt w w3 g og (atR rs num (ls.take (k + 1))).1 v) {s : List LetR} (h2 : ownX w3 w.heap.size v s) (h3 : s = (atR rs num (ls.take k)).2 ++ (takeR rs (atR rs num (ls.take k)).1 ls[k]).2.toList) (h4 : s = [] → v = .slice none 0 0) : AtMid w w3 g og num rs ls (k + 1) v := by
  have e : (atR rs num (ls.take (k + 1))).2 = s := by rw [h3, List.take_succ_eq_append_getElem hk, atR_snoc]
  refine ⟨h1, ?_, ?_⟩
  · rw [e]; exact h2
  · rw [e]; exact h4
end
set_option maxRecDepth 100000 in
set_option maxHeartbeats 4000000 in
theorem at_any (w : World) (g og rb cb : Nat) (num : Int) (rs : List RuleR) (ra ca : Assoc) (t : Int) (ls : List LetR) (A : Option Addr) (c B : Nat) (h : AtAsk w g og rb cb num rs ra ca t ls A c B) :
    Calls Try.prog 64 #[.pointer (some ⟨g, og, none⟩), .int .i64 t] w fun e w' => e = .returned (.tuple #[]) ∧ ∃ v, AtSt w w' g og (atR rs num ls).1 v ∧ ownX w' w.heap.size v (atR rs num ls).2 ∧ ((atR rs num ls).2 = [] → v = .slice none 0 0) := by
  have hfew := h.few
  have hc2 := h.c2
  have hrun := h.run
  have H := Lib.hid h; clear h
  go_enter Try.func64, Try.ntmps64
  go_wp2
  clear hrun hc2
  go_loopg [15] ls.length (fun gk i wr => ∃ (k : Nat) (v : Value), gk + k = ls.length ∧ i = .int .i64 k ∧ AtMid w wr g og num rs ls k v)
  case atStart => exact ⟨0, _, by omega, rfl, by rw [List.take_zero]; exact H.out.st, World.ownsRow_nil .., fun _ => rfl⟩
  case round =>
    obtain ⟨k, v, hgk, rfl, hmid⟩ := hrel
    by_cases hlt : k < ls.length
    · obtain ⟨b, o, rfl, hx⟩ := hmid.letter H.out hlt
      obtain ⟨x, hxe⟩ : ∃ x, ls[k] = x := ⟨_, rfl⟩
      have hti := H.out.ti ls[k] (List.getElem_mem hlt)
      rw [hxe] at hx hti
      obtain ⟨n, hn⟩ : ∃ n, (atR rs num (ls.take k)).1 = n := ⟨_, rfl⟩
      obtain ⟨yo, hyo⟩ : ∃ yo, (takeR rs n x).2 = yo := ⟨_, rfl⟩
      have hs := Nat.le_trans (atR_few rs (ls.take k) num) (List.length_take_le k ls)
      obtain ⟨xt, xto, xk, xn⟩ := x
      have c0 := hx 0 _ rfl
      have c1 := hx 1 _ rfl
      have c2 := hx 2 _ rfl
      have c3 := hx 3 _ rfl
      rw [Nat.add_zero] at c0
      simp only at c0 c1 c2 c3 hti
      have HM := Lib.hid (And.intro hmid (And.intro hxe (And.intro hn (And.intro hyo (And.intro hti hs)))))
      clear hmid hxe hn hyo hti hx hs
      cases yo with
      | none =>
        go_wp2_with (go_at_call 106; refine (HM.out.1.call H.out HM.out.2.2.1 HM.out.2.2.2.1 HM.out.2.2.2.2.1 _).mono ?_; rintro e w2 ⟨v2, rfl, hret, hone⟩; obtain ⟨⟨y1, y2, y3, y4⟩, rfl, _⟩ := hret; simp only [aggX, cellsX]; have HT := Lib.hid (HM.out.1.took hlt (ob2 := .cells #[.int .i64 y1, .int .i64 y2, .int .i64 y3, .int .i64 y4] 49) (by rw [HM.out.2.2.1, HM.out.2.1]; exact hone)); clear hone)
        go_roundg (gk - 1)
        case measure => omega
        case rel => exact ⟨k + 1, v, by omega, by go_num, AtMid.next hlt HT.out.1 HT.out.2.1 (by rw [HM.out.2.2.1, HM.out.2.1, HM.out.2.2.2.1]; simp) HM.out.1.nil⟩
      | some y =>
        obtain ⟨y1, y2, y3, y4⟩ := y
        go_wp2_with (go_at_call 106; refine (HM.out.1.call H.out HM.out.2.2.1 HM.out.2.2.2.1 HM.out.2.2.2.2.1 _).mono ?_; rintro e w2 ⟨v2, rfl, hret, hone⟩; obtain ⟨y, rfl, hyy⟩ := hret; obtain rfl := hyy _ rfl; simp only [aggX, cellsX]; have HT := Lib.hid (HM.out.1.took hlt (ob2 := .cells #[.int .i64 y1, .int .i64 y2, .int .i64 y3, .int .i64 y4] 49) (by rw [HM.out.2.2.1, HM.out.2.1]; exact hone)); clear hone hyy)
        refine a5_wp (w0 := w) (g := g) (og := og) (yb := w2.heap.size) (y := ⟨y1, y2, y3, y4⟩) (by kernel_rfl) rfl rfl rfl HT.out.1 HT.out.2.1 (by have := HM.out.2.2.2.2.2; omega) (heap_alloc_new w2 _) HT.out.2.2 fun v1 v2 w4 h4 h5 => ?_
        have HF := Lib.hid (AtMid.next hlt h4 h5 (by rw [HM.out.2.2.1, HM.out.2.1, HM.out.2.2.2.1]; simp) (fun e => by simp at e)); clear h4 h5
        rw [show List.range 10 = [0, 1, 2, 3, 4, 5, 6, 7, 8, 9] from rfl]
        simp only [putsV, VA5, VE, List.findIdx?_cons, List.findIdx?_nil, List.getElem?_toArray, List.getElem?_cons_succ, List.getElem?_cons_zero, Option.bind_some]
        go_simp
        go_wp2
        go_roundg (gk - 1)
        case measure => omega
        case rel => exact ⟨k + 1, v2, by omega, by go_num, HF.out⟩
    · have hke : k = ls.length := by omega
      subst hke
      have h1 := hmid.st
      have h2 := hmid.own
      have h3 := hmid.nil
      rw [List.take_length] at h1 h2 h3
      have HM := Lib.hid (And.intro h1 (And.intro h2 h3)); clear hmid h1 h2 h3
      go_wp2
      go_end0
      exact ⟨rfl, v, HM.out⟩
end Go.Proofs.Yticdjkkcfdbdcaa
