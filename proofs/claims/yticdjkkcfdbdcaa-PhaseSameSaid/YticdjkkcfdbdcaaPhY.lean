/- The region of phase.Run that hands on a letter, alone. No conditions but that what is read is there. -/
import Derived.Test.YticdjkkcfdbdcaaPhH
import Derived.Test.YticdjkkcfdbdcaaPhR
namespace Go.Proofs.Yticdjkkcfdbdcaa
open Go.Conc Go.ConcN Go.RowKit
/-- What was there stands. -/
structure Kp (N : Nat) (L0 L : World) : Prop where
  size : N ≤ L.heap.size
  at_ : ∀ b, b < N → L.heap[b]? = L0.heap[b]?
section
variable {N : Nat} {L0 L L' : World}
theorem Kp.same (h : Kp N L0 L) (e : L'.heap = L.heap) : Kp N L0 L' := ⟨by rw [e]; exact h.size, fun b hb => by rw [e]; exact h.at_ b hb⟩
theorem Kp.alloc (h : Kp N L0 L) (o : Obj) : Kp N L0 (L.alloc o) := ⟨by have := h.size; simp; omega, fun b hb => (Below.heap_alloc L o b (by have := h.size; omega)).trans (h.at_ b hb)⟩
theorem Kp.set_ (h : Kp N L0 L) {p : Addr} (hp : N ≤ p.block) (v : Value) : Kp N L0 (L.setCell p v) := ⟨by have := h.size; simpa [World.setCell] using this, fun b hb => (Below.heap_setCell L p v b (by omega)).trans (h.at_ b hb)⟩
theorem Kp.grown (h : Kp N L0 L) {row : Option Nat} (hg : L.grownBy L' row) (hr : ∀ b, row = some b → N ≤ b) : Kp N L0 L' := ⟨Nat.le_trans h.size hg.size, fun b hb => (hg.block b (by have := h.size; omega) fun e => by have := hr b e.symm; omega).trans (h.at_ b hb)⟩
theorem Kp.keep (h : Kp N L0 L) (hz : L.heap.size ≤ L'.heap.size) (hk : ∀ b, b < N → L'.heap[b]? = L.heap[b]?) : Kp N L0 L' := ⟨Nat.le_trans h.size hz, fun b hb => (hk b hb).trans (h.at_ b hb)⟩
theorem Kp.refl (N : Nat) (L : World) (h : N ≤ L.heap.size) : Kp N L L := ⟨h, fun _ _ => rfl⟩
end
theorem field_q (g o : Nat) (w : World) : ∀ n, n < 4 → (Instr.fieldAt 102 (.pointer (some ⟨g, o, none⟩)) n).run Try.prog w = .ok (.pointer (some ⟨g, o + n, none⟩)) w
  | 0, _ => by kernel_rfl
  | 1, _ => by kernel_rfl
  | 2, _ => by kernel_rfl
  | 3, _ => by kernel_rfl
  | n + 4, h => absurd h (by omega)
theorem field_l (g : Nat) (w : World) : ∀ n, n < 2 → (Instr.fieldAt 117 (.pointer (some ⟨g, 0, none⟩)) n).run Try.prog w = .ok (.pointer (some ⟨g, n, none⟩)) w
  | 0, _ => by kernel_rfl
  | 1, _ => by kernel_rfl
  | n + 2, h => absurd h (by omega)
theorem info_i64c : (Try.prog.info? 2).map (fun i => (i.zero, i.size, i.bytes)) = some (some (.int .i64 0), 1, 8) := by kernel_rfl
set_option maxRecDepth 100000 in
theorem f15_r35 : drawOk (opsOf Try.f15 35) 15 = true := by kernel_rfl
set_option maxRecDepth 100000 in
theorem f15_c35 : chainOk (opsOf Try.f15 35) 15 [11, 12] = true := by kernel_rfl
theorem slice_i64 (e : Operand → Value) (o : Oper) (w : World) {t : Nat} (hop : o.op = .buildSlice 23 1 #[(0, .tmp t)]) {y : Int} (h1 : e (.tmp t) = .int .i64 y) : (execOp e o).run Try.prog w = .ok (.value (.slice (some ⟨w.heap.size, 0, none⟩) 1 1)) (w.alloc (.cells #[.int .i64 y] 2)) := by
  simp [go_sem, hop, h1, execOp]
def V35 (gl n c8 d nl : Nat) (cv : Value) (v : Int) : Nat → Value := fun i => match i with
  | 0 => .slice (some ⟨gl, 0, none⟩) n c8
  | 1 => .pointer (some ⟨nl, 0, none⟩)
  | 2 => .int .i64 d
  | 3 => .slice (some ⟨gl, 0, none⟩) n c8
  | 4 => .pointer (some ⟨nl, 0, none⟩)
  | 5 => .int .i64 d
  | 6 => .pointer (some ⟨gl, d * 4, none⟩)
  | 7 => .pointer (some ⟨gl, d * 4 + 2, none⟩)
  | 8 => cv
  | 9 => .pointer (some ⟨nl, 1, none⟩)
  | 10 => .int .i64 v
  | 13 => .pointer (some ⟨gl, d * 4, none⟩)
  | 14 => .pointer (some ⟨gl, d * 4 + 2, none⟩)
  | _ => undef
def S35 (W : World) (base gl d nl : Nat) (x : PL) (v : Int) (vs : List Value) (w : World) : Prop :=
  (w.cell? ⟨gl, d * 4 + 2, none⟩ = some x.cv ∧ w.frozen? ⟨gl, d * 4 + 2, none⟩ = false ∧ w.cell? ⟨nl, 0, none⟩ = some (.int .i64 d) ∧ w.cell? ⟨nl, 1, none⟩ = some (.int .i64 v)) ∧
  match vs with
  | [] => w.heap = W.heap
  | [v1] => v1 = .slice (some ⟨W.heap.size, 0, none⟩) 1 1 ∧ w.heap = (W.alloc (.cells #[.int .i64 v] 2)).heap
  | _ :: v2 :: _ => ∃ w1 : World, w1.heap = (W.alloc (.cells #[.int .i64 v] 2)).heap ∧ w1.grownBy w x.cv.ownBlock ∧ w.ownsRow base 2 1 v2 (x.p.come.length + 1) (ints (x.p.come ++ [v])) ∧ (v2.ownBlock = x.cv.ownBlock ∨ v2.ownBlock = some w1.heap.size)
theorem ints_app (a b : List Int) : ints (a ++ b) = ints a ++ ints b := by simp [ints]
set_option maxRecDepth 100000 in
set_option maxHeartbeats 1000000 in
theorem r35_wp {ops : Array Oper} (hops : ops = opsOf Try.f15 35) {a : Act} {L0 W : World} {B base gl n c8 d nl : Nat} {l : List PL} {v : Int} (hz : a.tmps.size = 130) (t8 : a.eval (.tmp 8) = .slice (some ⟨gl, 0, none⟩) n c8) (t15 : a.eval (.tmp 15) = .pointer (some ⟨nl, 0, none⟩))
    (hL : Lies W B base gl l) (hK : Kp B L0 W) (hn : l.length = n) (hd : d < n) (hnl : W.heap[nl]? = some (.cells #[.int .i64 d, .int .i64 v] 117 (0, 0))) (hfew : (l[d]'(by omega)).p.come.length < 1000000) {Q : Exit → Act → World → Prop} {id : Nat}
    (hQ : ∀ v1 v2 w', Lies w' B base gl (l.set d { l[d]'(by omega) with p := { (l[d]'(by omega)).p with come := (l[d]'(by omega)).p.come ++ [v] }, cv := v2 }) → Kp B L0 w' → Q .normal (putsV ops (VE [11, 12] (V35 gl n c8 d nl (l[d]'(by omega)).cv v) [v1, v2]) (List.range 15) a) w') : (Code.region id ops true).wp Try.prog Q a W := by
  subst hops
  subst hn
  obtain ⟨i0, hi0, hz0, hz1, hz2⟩ := info_parts info_i64c
  have hdd := drawOk_d f15_r35
  have nw : ∀ (V : Nat → Value) t j, prodOf (opsOf Try.f15 35) t = some j → j < 15 → t < 130 → (putsV (opsOf Try.f15 35) V (List.range 15) a).eval (.tmp t) = V j := fun V t j h1 h2 h3 => puts_new hdd h1 h2 (by rw [hz]; exact h3)
  have o8 : ∀ V, (putsV (opsOf Try.f15 35) V (List.range 15) a).eval (.tmp 8) = .slice (some ⟨gl, 0, none⟩) l.length c8 := fun V => (puts_old hdd (by kernel_rfl)).trans t8
  have o15 : ∀ V, (putsV (opsOf Try.f15 35) V (List.range 15) a).eval (.tmp 15) = .pointer (some ⟨nl, 0, none⟩) := fun V => (puts_old hdd (by kernel_rfl)).trans t15
  have hsz : (opsOf Try.f15 35).size = 16 := by kernel_rfl
  have hgl := hL.blk.lt
  have hbd := hL.bound
  have hbl := hL.below
  obtain ⟨hown, _⟩ := hL.come _ (List.getElem_mem hd)
  have hc2 := (hL.blk.cell (d * 4 + 2)).trans (cellsP_at l d hd 2 (by omega))
  have hf2 := hL.blk.frozen (d * 4 + 2)
  simp only [PL.cells, List.getElem?_cons_succ, List.getElem?_cons_zero] at hc2
  have hnlt := (Array.getElem?_eq_some_iff.1 hnl).1
  have hng : nl ≠ gl := fun e => by
    have := hL.blk
    unfold Blk at this
    rw [← e, hnl] at this
    injection this with this
    injection this with _ ht _
    exact absurd ht (by decide)
  have hnr : some nl ≠ l[d].cv.ownBlock := fun e => by
    obtain ⟨_, cur, h2⟩ := own_block_at hown e.symm
    rw [hnl] at h2
    cases h2
  have hgr : some gl ≠ l[d].cv.ownBlock := fun e => by have := (own_block_at hown e.symm).1; omega
  have hn0 : W.cell? ⟨nl, 0, none⟩ = some (.int .i64 d) := by simp [World.cell?, hnl]
  have hn1 : W.cell? ⟨nl, 1, none⟩ = some (.int .i64 v) := by simp [World.cell?, hnl]
  generalize hx : l[d] = x at *
  have hidx : ∀ {V : Nat → Value} {o : Oper} {t u : Tmp} {w : World}, o.op = .indexAddr 99 (.tmp t) (.tmp u) → (putsV (opsOf Try.f15 35) V (List.range 15) a).eval (.tmp t) = .slice (some ⟨gl, 0, none⟩) l.length c8 → (putsV (opsOf Try.f15 35) V (List.range 15) a).eval (.tmp u) = .int .i64 d → (execOp (putsV (opsOf Try.f15 35) V (List.range 15) a).eval o).run Try.prog w = .ok (.value (.pointer (some ⟨gl, d * 4, none⟩))) w := fun {V o t u w} hop h1 h2 => by
    have := (opv_index (P := Try.prog) (fn := 0) (k := LK.none) (w := w) hop h1 h2 (by omega) (by omega) Try.underlying99 (fun w => Try.sizeOf102 w)).1
    rw [show ((⟨gl, 0, none⟩ : Addr).add (((d : Nat) : Int).toNat * 4)) = ⟨gl, d * 4, none⟩ by simp [Addr.add_lit']] at this
    exact this
  refine wp_drawnE mixed_orders f15_r35 f15_c35 (S35 W base gl d nl x v) (V35 gl l.length c8 d nl x.cv v) (fun i o hio him hiE vs w hS => ?_) (fun q i o hq hio vs w hl hS => ?_) (fun vs w hl hS => ?_) (fun d => ⟨⟨hc2, hf2, hn0, hn1⟩, rfl⟩)
  · have hi16 : i < 16 := by have := (Array.getElem?_eq_some_iff.1 hio).1; omega
    have h11 : i ≠ 11 := fun e => hiE (by subst e; simp)
    have h12 : i ≠ 12 := fun e => hiE (by subst e; simp)
    obtain rfl | rfl | rfl | rfl | rfl | rfl | rfl | rfl | rfl | rfl | rfl | rfl | rfl : i = 0 ∨ i = 1 ∨ i = 2 ∨ i = 3 ∨ i = 4 ∨ i = 5 ∨ i = 6 ∨ i = 7 ∨ i = 8 ∨ i = 9 ∨ i = 10 ∨ i = 13 ∨ i = 14 := by omega
    · exact (q_move (op_of (p := .move (.tmp 8)) (by kernel_rfl) hio)).trans (by rw [o8]; rfl)
    · exact q_field (op_of (p := .fieldAddr 117 (.tmp 15) 0) (by kernel_rfl) hio) (o15 _) (fun w => field_l nl w 0 (by decide))
    · exact q_load (op_of (p := .load 3 (.tmp 94)) (by kernel_rfl) hio) (nw (V35 gl l.length c8 d nl x.cv v) 94 1 (by kernel_rfl) (by decide) (by decide)) (fun w => Try.isAgg3 w) hS.1.2.2.1
    · exact (q_move (op_of (p := .move (.tmp 8)) (by kernel_rfl) hio)).trans (by rw [o8]; rfl)
    · exact q_field (op_of (p := .fieldAddr 117 (.tmp 15) 0) (by kernel_rfl) hio) (o15 _) (fun w => field_l nl w 0 (by decide))
    · exact q_load (op_of (p := .load 3 (.tmp 97)) (by kernel_rfl) hio) (nw (V35 gl l.length c8 d nl x.cv v) 97 4 (by kernel_rfl) (by decide) (by decide)) (fun w => Try.isAgg3 w) hS.1.2.2.1
    · exact hidx (op_of (p := .indexAddr 99 (.tmp 96) (.tmp 98)) (by kernel_rfl) hio) (nw (V35 gl l.length c8 d nl x.cv v) 96 3 (by kernel_rfl) (by decide) (by decide)) (nw (V35 gl l.length c8 d nl x.cv v) 98 5 (by kernel_rfl) (by decide) (by decide))
    · exact q_field (op_of (p := .fieldAddr 102 (.tmp 99) 2) (by kernel_rfl) hio) (nw (V35 gl l.length c8 d nl x.cv v) 99 6 (by kernel_rfl) (by decide) (by decide)) (fun w => field_q gl _ w 2 (by decide))
    · exact q_load (op_of (p := .load 23 (.tmp 100)) (by kernel_rfl) hio) (nw (V35 gl l.length c8 d nl x.cv v) 100 7 (by kernel_rfl) (by decide) (by decide)) (fun w => Try.isAgg23 w) hS.1.1
    · exact q_field (op_of (p := .fieldAddr 117 (.tmp 15) 1) (by kernel_rfl) hio) (o15 _) (fun w => field_l nl w 1 (by decide))
    · exact q_load (op_of (p := .load 2 (.tmp 102)) (by kernel_rfl) hio) (nw (V35 gl l.length c8 d nl x.cv v) 102 9 (by kernel_rfl) (by decide) (by decide)) (fun w => Try.isAgg2 w) hS.1.2.2.2
    · exact hidx (op_of (p := .indexAddr 99 (.tmp 93) (.tmp 95)) (by kernel_rfl) hio) (nw (V35 gl l.length c8 d nl x.cv v) 93 0 (by kernel_rfl) (by decide) (by decide)) (nw (V35 gl l.length c8 d nl x.cv v) 95 2 (by kernel_rfl) (by decide) (by decide))
    · exact q_field (op_of (p := .fieldAddr 102 (.tmp 106) 2) (by kernel_rfl) hio) (nw (V35 gl l.length c8 d nl x.cv v) 106 13 (by kernel_rfl) (by decide) (by decide)) (fun w => field_q gl _ w 2 (by decide))
  · match q, hq with
    | 0, hq =>
      obtain rfl : 11 = i := by simpa using hq
      obtain rfl : vs = [] := List.eq_nil_of_length_eq_zero hl
      have hw : w.heap = W.heap := hS.2
      have hc : ∀ p : Addr, p.block < W.heap.size → (w.alloc (.cells #[.int .i64 v] 2)).cell? p = w.cell? p := fun p hp => World.cell?_alloc_lt w _ p (by rw [hw]; exact hp)
      refine ⟨.slice (some ⟨W.heap.size, 0, none⟩) 1 1, w.alloc (.cells #[.int .i64 v] 2), ?_, ⟨(hc _ hgl).trans hS.1.1, ?_, (hc _ hnlt).trans hS.1.2.2.1, (hc _ hnlt).trans hS.1.2.2.2⟩, rfl, ?_⟩
      · have := slice_i64 (putsV (opsOf Try.f15 35) (VE [11, 12] (V35 gl l.length c8 d nl x.cv v) []) (List.range 15) a).eval o w (t := 103) (op_of (by kernel_rfl) hio) (nw _ 103 10 (by kernel_rfl) (by decide) (by decide))
        rw [hw] at this
        exact this
      · have := (hL.same hw).alloc (.cells #[.int .i64 v] 2)
        exact this.blk.frozen _
      · show w.heap.push _ = W.heap.push _
        rw [hw]
    | 1, hq =>
      obtain rfl : 12 = i := by simpa using hq
      match vs, hl with
      | [v1], _ =>
        obtain ⟨hS1, hv1, hw⟩ := hS
        subst hv1
        have st1 := (hL.alloc (.cells #[.int .i64 v] 2)).same (L' := w) hw
        have hsz1 : w.heap.size = W.heap.size + 1 := by rw [hw]; simp
        have ho1 : w.ownsRow base 2 1 x.cv x.p.come.length (ints x.p.come) := (st1.come _ (by rw [← hx]; exact List.getElem_mem hd)).1
        have ex : (putsV (opsOf Try.f15 35) (VE [11, 12] (V35 gl l.length c8 d nl x.cv v) [.slice (some ⟨W.heap.size, 0, none⟩) 1 1]) (List.range 15) a).eval (.tmp 104) = .slice (some ⟨W.heap.size, 0, none⟩) 1 1 := nw _ 104 11 (by kernel_rfl) (by decide) (by decide)
        have es : (putsV (opsOf Try.f15 35) (VE [11, 12] (V35 gl l.length c8 d nl x.cv v) [.slice (some ⟨W.heap.size, 0, none⟩) 1 1]) (List.range 15) a).eval (.tmp 101) = x.cv := nw _ 101 8 (by kernel_rfl) (by decide) (by decide)
        have hcell : ∀ j u, [Value.int .i64 v][j]? = some u → w.cell? ((⟨W.heap.size, 0, none⟩ : Addr).add j) = some u := fun j u hu => by
          have hb : Blk (W.alloc (.cells #[.int .i64 v] 2)) W.heap.size 2 [.int .i64 v] := Blk.newArr W _ rfl
          have := hb.cellAdd j
          simp only [World.cell?, ← hw] at this ⊢
          rw [this]; exact hu
        obtain ⟨v', w', r1, r2, r3, r4, r5⟩ := run_append_own_at (P := Try.prog) w base 23 o.type 2 i0 (.int .i64 0) 1 8 Try.underlying23 hi0 hz0 hz1 hz2 rfl (by decide) x.cv x.p.come.length (ints x.p.come) ho1 ⟨W.heap.size, 0, none⟩ 1 1 [.int .i64 v] rfl hcell (by intro u hu; simp at hu; subst hu; rfl) (by unfold maxLen; omega) (by omega) (by omega)
        have hop : o.op = .call { callee := .builtin .append, args := #[.tmp 101, .tmp 104], argTypes := #[23, 23] } := op_of (by kernel_rfl) hio
        have hk : ∀ b, b < w.heap.size → some b ≠ x.cv.ownBlock → w'.heap[b]? = w.heap[b]? := fun b h1 h2 => r3.block b h1 h2
        have hbk := st1.blk.grown r3 hgr
        have hcn : ∀ q, w'.cell? ⟨nl, q, none⟩ = w.cell? ⟨nl, q, none⟩ := fun q => World.cell?_of_block (hk nl (by omega) hnr)
        have hcg : ∀ q, w'.cell? ⟨gl, q, none⟩ = w.cell? ⟨gl, q, none⟩ := fun q => World.cell?_of_block (hk gl (by omega) hgr)
        refine ⟨v', w', ?_, ⟨(hcg _).trans hS1.1, hbk.frozen _, (hcn 0).trans hS1.2.2.1, (hcn 1).trans hS1.2.2.2⟩, w, hw, r3, ?_, ?_⟩
        · unfold execOp
          simp only [hop, resolve, invoke, builtin, Sem.run_bind, Sem.run_pure, Result.andThen_ok, List.map_toArray, List.map_cons, List.map_nil, es, ex, r1]
        · rw [ints_app]; exact r2
        · exact r5
    | q + 2, hq => simp at hq
  · match vs, hl with
    | [v1, v2], _ =>
      obtain ⟨hS1, w1, hw, hg, ho, hat⟩ := hS
      have e107 : (putsV (opsOf Try.f15 35) (VE [11, 12] (V35 gl l.length c8 d nl x.cv v) [v1, v2]) (List.range 15) a).eval (.tmp 107) = .pointer (some ⟨gl, d * 4 + 2, none⟩) := nw _ 107 14 (by kernel_rfl) (by decide) (by decide)
      have e105 : (putsV (opsOf Try.f15 35) (VE [11, 12] (V35 gl l.length c8 d nl x.cv v) [v1, v2]) (List.range 15) a).eval (.tmp 105) = v2 := nw _ 105 12 (by kernel_rfl) (by decide) (by decide)
      obtain ⟨o, ho15, hop, hgd, hdst⟩ := op_ex (ops := opsOf Try.f15 35) (i := 15) (p := .store 23 (.tmp 107) (.tmp 105)) (d := none) (by kernel_rfl)
      obtain ⟨A2, c2, rfl, _, _⟩ := own_form ho
      have g1 := (op_store (P := Try.prog) (fn := 0) (k := ⟨fun _ => True, fun _ => True, fun _ => True⟩) (w := w) hop e107 e105 ⟨fun c h => (by cases h), fun c h => (by cases h)⟩ (fun w => Try.sizeOf23 w) hS1.1 hS1.2.1 trivial).1
      have st1 := (hL.alloc (.cells #[.int .i64 v] 2)).same (L' := w1) hw
      have kp1 := (hK.alloc (.cells #[.int .i64 v] 2)).same (L' := w1) hw
      simp only [wpOps, ho15, yld hgd, if_true]
      refine .inl ?_
      unfold Oper.wp
      rw [g1, Oper.upon_skip, hdst, put_none]
      subst hx
      exact hQ v1 _ _ (st1.put hd rfl hg ho hat) ((kp1.grown hg fun b hb => by have := (own_block_at hown hb).1; have := hL.low; omega).set_ (by show B ≤ gl; exact hL.low) _)
end Go.Proofs.Yticdjkkcfdbdcaa
