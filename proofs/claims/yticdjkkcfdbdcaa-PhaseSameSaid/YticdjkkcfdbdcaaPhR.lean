/- The region of (*process).phase that sends a letter, alone. No conditions but that what is read is there. -/
import Derived.Test.YticdjkkcfdbdcaaPhA
import Derived.Test.YticdjkkcfdbdcaaScO
import Derived.Test.YticdjkkcfdbdcaaHelp
import Derived.Test.YticdjkkcfdbdcaaDrawE
import Derived.Test.YticdjkkcfdbdcaaProg
import Derived.Test.YticdjkkcfdbdcaaOkB
import Derived.Test.YticdjkkcfdbdcaaRows
import Derived.KernelRfl
namespace Go.Proofs.Yticdjkkcfdbdcaa
open Go.Conc Go.ConcN Go.RowKit
theorem mixed_orders : Try.prog.follows .mixedOrders = true := by kernel_rfl
theorem w64_wrap (n : Int) : IntKind.i64.wrap n = w64 n := by unfold w64 wrap64; exact IntKind.wrap_i64 n
theorem info_letter : (Try.prog.info? 117).map (fun i => (i.zero, i.size, i.bytes)) = some (some (.agg #[.int .i64 0, .int .i64 0]), 2, 16) := by kernel_rfl
set_option maxRecDepth 100000 in
theorem f51_r7 : drawOk (opsOf Try.f51 7) 19 = true := by kernel_rfl
set_option maxRecDepth 100000 in
theorem f51_c7 : chainOk (opsOf Try.f51 7) 19 [15, 16] = true := by kernel_rfl
section
variable {e : Operand → Value} {o : Oper} {w : World}
theorem q_move {x : Operand} (hop : o.op = .move x) : (execOp e o).run Try.prog w = .ok (.value (e x)) w := by simp [go_sem, hop, execOp]
theorem q_nil {x : Operand} {p : Addr} (hop : o.op = .nilCheck x) (hx : e x = .pointer (some p)) : (execOp e o).run Try.prog w = .ok (.value (.pointer (some p))) w := by simp [go_sem, hop, hx, execOp]
theorem q_field {s n : Nat} {x : Operand} {p q : Addr} (hop : o.op = .fieldAddr s x n) (hx : e x = .pointer (some p)) (hf : ∀ w, (Instr.fieldAt s (.pointer (some p)) n).run Try.prog w = .ok (.pointer (some q)) w) : (execOp e o).run Try.prog w = .ok (.value (.pointer (some q))) w := by
  have := hf w
  simp only [execOp, hop, hx]
  simp [this]
theorem q_load {t : TypeId} {x : Operand} {p : Addr} {v : Value} (hop : o.op = .load t x) (hx : e x = .pointer (some p)) (hag : ∀ w, (isAgg t).run Try.prog w = .ok false w) (hc : w.cell? p = some v) : (execOp e o).run Try.prog w = .ok (.value v) w := by
  simp [go_sem, hop, hx, hag, hc, execOp, Instr.loadAt]
end
theorem field_p (g : Nat) (w : World) : ∀ n, n < 4 → (Instr.fieldAt 102 (.pointer (some ⟨g, 0, none⟩)) n).run Try.prog w = .ok (.pointer (some ⟨g, n, none⟩)) w
  | 0, _ => by kernel_rfl
  | 1, _ => by kernel_rfl
  | 2, _ => by kernel_rfl
  | 3, _ => by kernel_rfl
  | n + 4, h => absurd h (by omega)
theorem field_d (g : Nat) (w : World) : ∀ n, n < 3 → (Instr.fieldAt 31 (.pointer (some ⟨g, 0, none⟩)) n).run Try.prog w = .ok (.pointer (some ⟨g, n, none⟩)) w
  | 0, _ => by kernel_rfl
  | 1, _ => by kernel_rfl
  | 2, _ => by kernel_rfl
  | n + 3, h => absurd h (by omega)
theorem under_i64 : Try.prog.underlying 2 = some (.int .i64) := by kernel_rfl
def V7 (g n : Nat) (sv : Value) (dst num nn : Int) : Nat → Value := fun i => match i with
  | 0 => .pointer (some ⟨g, 0, none⟩)
  | 1 => .pointer (some ⟨g, 0, none⟩)
  | 2 => .pointer (some ⟨g, 0, none⟩)
  | 3 => .pointer (some ⟨g, 3, none⟩)
  | 4 => sv
  | 5 => .pointer (some ⟨n, 1, none⟩)
  | 6 => .int .i64 dst
  | 7 => .pointer (some ⟨g, 0, none⟩)
  | 8 => .pointer (some ⟨g, 0, none⟩)
  | 9 => .pointer (some ⟨g, 1, none⟩)
  | 10 => .int .i64 num
  | 11 => .pointer (some ⟨n, 2, none⟩)
  | 12 => .int .i64 nn
  | 13 => .int .i64 (w64 (num + nn))
  | 14 => .agg #[.int .i64 dst, .int .i64 (w64 (num + nn))]
  | 17 => .pointer (some ⟨g, 0, none⟩)
  | 18 => .pointer (some ⟨g, 3, none⟩)
  | _ => undef
theorem build_letter (e : Operand → Value) (o : Oper) (w : World) (hop : o.op = .build 117 #[(0, .tmp 46), (1, .tmp 53)]) {x y : Int} (h1 : e (.tmp 46) = .int .i64 x) (h2 : e (.tmp 53) = .int .i64 y) : (execOp e o).run Try.prog w = .ok (.value (.agg #[.int .i64 x, .int .i64 y])) w := by
  simp [go_sem, hop, h1, h2, execOp]
theorem slice_letter (e : Operand → Value) (o : Oper) (w : World) (hop : o.op = .buildSlice 100 1 #[(0, .tmp 54)]) {x y : Int} (h1 : e (.tmp 54) = .agg #[.int .i64 x, .int .i64 y]) : (execOp e o).run Try.prog w = .ok (.value (.slice (some ⟨w.heap.size, 0, none⟩) 1 1)) (w.alloc (.cells #[.int .i64 x, .int .i64 y] 117)) := by
  simp [go_sem, hop, h1, execOp]
def S7 (W : World) (base g n : Nat) (sv : Value) (dst num nn : Int) (s : List (Int × Int)) (vs : List Value) (w : World) : Prop :=
  (w.cell? ⟨g, 3, none⟩ = some sv ∧ w.frozen? ⟨g, 3, none⟩ = false ∧ w.cell? ⟨g, 1, none⟩ = some (.int .i64 num) ∧ w.cell? ⟨n, 1, none⟩ = some (.int .i64 dst) ∧ w.cell? ⟨n, 2, none⟩ = some (.int .i64 nn)) ∧
  match vs with
  | [] => w.heap = W.heap
  | [v1] => v1 = .slice (some ⟨W.heap.size, 0, none⟩) 1 1 ∧ w.heap = (W.alloc (.cells #[.int .i64 dst, .int .i64 (w64 (num + nn))] 117)).heap
  | _ :: v2 :: _ => ∃ w1 : World, w1.heap = (W.alloc (.cells #[.int .i64 dst, .int .i64 (w64 (num + nn))] 117)).heap ∧ w1.grownBy w sv.ownBlock ∧ w.ownsRow base 117 2 v2 (s.length + 1) (cellsL (s ++ [(dst, w64 (num + nn))]))
set_option maxRecDepth 100000 in
theorem r7_wp {ops : Array Oper} (hops : ops = opsOf Try.f51 7) {a : Act} {w0 W : World} {base g n : Nat} {T : TypeId} {t : List DoR} {num : Int} {c : List Int} {s : List (Int × Int)} {tA cA : Option Addr} {tc cc : Nat} {sv : Value} {dst nn : Int}
    (hz : a.tmps.size = 84) (t0 : a.eval (.tmp 0) = .pointer (some ⟨g, 0, none⟩)) (t2 : a.eval (.tmp 2) = .pointer (some ⟨n, 0, none⟩)) (hst : PrSt W base g T ⟨t, num, c, s⟩ tA cA tc cc sv) (hcap : s.length < 1000 - t.length) (hn : n < W.heap.size) (hnr : some n ≠ sv.ownBlock)
    (d1 : W.cell? ⟨n, 1, none⟩ = some (.int .i64 dst)) (d2 : W.cell? ⟨n, 2, none⟩ = some (.int .i64 nn)) (hfar : Far base g w0 W) {Q : Exit → Act → World → Prop} {id : Nat}
    (hQ : ∀ v1 v2 w', PrSt w' base g T ⟨t, num, c, s ++ [(dst, w64 (num + nn))]⟩ tA cA tc cc v2 → Far base g w0 w' → Q .normal (putsV ops (VE [15, 16] (V7 g n sv dst num nn) [v1, v2]) (List.range 19) a) w') : (Code.region id ops true).wp Try.prog Q a W := by
  subst hops
  obtain ⟨i0, hi0, hz0, hz1, hz2⟩ := info_parts info_letter
  have hdd := drawOk_d f51_r7
  have nw : ∀ (V : Nat → Value) t j, prodOf (opsOf Try.f51 7) t = some j → j < 19 → t < 84 → (putsV (opsOf Try.f51 7) V (List.range 19) a).eval (.tmp t) = V j := fun V t j h1 h2 h3 => puts_new hdd h1 h2 (by rw [hz]; exact h3)
  have o0 : ∀ V, (putsV (opsOf Try.f51 7) V (List.range 19) a).eval (.tmp 0) = .pointer (some ⟨g, 0, none⟩) := fun V => (puts_old hdd (by kernel_rfl)).trans t0
  have o2 : ∀ V, (putsV (opsOf Try.f51 7) V (List.range 19) a).eval (.tmp 2) = .pointer (some ⟨n, 0, none⟩) := fun V => (puts_old hdd (by kernel_rfl)).trans t2
  have hgW := hst.blk.lt
  have hlow := hst.low
  have hsz : (opsOf Try.f51 7).size = 20 := by kernel_rfl
  have hc3 := hst.blk.cell 3
  have hf3 := hst.blk.frozen 3
  have hc1 := hst.blk.cell 1
  simp only [List.getElem?_cons_succ, List.getElem?_cons_zero] at hc3 hc1
  have hgr : some g ≠ sv.ownBlock := fun e => by have := hst.own.lt _ e.symm; omega
  have hbe := hst.bound
  refine wp_drawnE mixed_orders f51_r7 f51_c7 (S7 W base g n sv dst num nn s) (V7 g n sv dst num nn) (fun i o hio him hiE vs w hS => ?_) (fun q i o hq hio vs w hl hS => ?_) (fun vs w hl hS => ?_) (fun d => ⟨⟨hc3, hf3, hc1, d1, d2⟩, rfl⟩)
  · have hi20 : i < 20 := by have := (Array.getElem?_eq_some_iff.1 hio).1; omega
    have h15 : i ≠ 15 := fun e => hiE (by subst e; simp)
    have h16 : i ≠ 16 := fun e => hiE (by subst e; simp)
    obtain rfl | rfl | rfl | rfl | rfl | rfl | rfl | rfl | rfl | rfl | rfl | rfl | rfl | rfl | rfl | rfl | rfl : i = 0 ∨ i = 1 ∨ i = 2 ∨ i = 3 ∨ i = 4 ∨ i = 5 ∨ i = 6 ∨ i = 7 ∨ i = 8 ∨ i = 9 ∨ i = 10 ∨ i = 11 ∨ i = 12 ∨ i = 13 ∨ i = 14 ∨ i = 17 ∨ i = 18 := by omega
    · exact (q_move (op_of (p := .move (.tmp 0)) (by kernel_rfl) hio)).trans (by rw [o0]; rfl)
    · exact (q_move (op_of (p := .move (.tmp 0)) (by kernel_rfl) hio)).trans (by rw [o0]; rfl)
    · exact q_nil (op_of (p := .nilCheck (.tmp 41)) (by kernel_rfl) hio) (nw (V7 g n sv dst num nn) 41 1 (by kernel_rfl) (by decide) (by decide))
    · exact q_field (op_of (p := .fieldAddr 102 (.tmp 42) 3) (by kernel_rfl) hio) (nw (V7 g n sv dst num nn) 42 2 (by kernel_rfl) (by decide) (by decide)) (fun w => field_p g w 3 (by decide))
    · exact q_load (op_of (p := .load 100 (.tmp 43)) (by kernel_rfl) hio) (nw (V7 g n sv dst num nn) 43 3 (by kernel_rfl) (by decide) (by decide)) (fun w => Try.isAgg100 w) (hS.1.1)
    · exact q_field (op_of (p := .fieldAddr 31 (.tmp 2) 1) (by kernel_rfl) hio) (o2 _) (fun w => field_d n w 1 (by decide))
    · exact q_load (op_of (p := .load 3 (.tmp 45)) (by kernel_rfl) hio) (nw (V7 g n sv dst num nn) 45 5 (by kernel_rfl) (by decide) (by decide)) (fun w => Try.isAgg3 w) (hS.1.2.2.2.1)
    · exact (q_move (op_of (p := .move (.tmp 0)) (by kernel_rfl) hio)).trans (by rw [o0]; rfl)
    · exact q_nil (op_of (p := .nilCheck (.tmp 47)) (by kernel_rfl) hio) (nw (V7 g n sv dst num nn) 47 7 (by kernel_rfl) (by decide) (by decide))
    · exact q_field (op_of (p := .fieldAddr 102 (.tmp 48) 1) (by kernel_rfl) hio) (nw (V7 g n sv dst num nn) 48 8 (by kernel_rfl) (by decide) (by decide)) (fun w => field_p g w 1 (by decide))
    · exact q_load (op_of (p := .load 2 (.tmp 49)) (by kernel_rfl) hio) (nw (V7 g n sv dst num nn) 49 9 (by kernel_rfl) (by decide) (by decide)) (fun w => Try.isAgg2 w) (hS.1.2.2.1)
    · exact q_field (op_of (p := .fieldAddr 31 (.tmp 2) 2) (by kernel_rfl) hio) (o2 _) (fun w => field_d n w 2 (by decide))
    · exact q_load (op_of (p := .load 2 (.tmp 51)) (by kernel_rfl) hio) (nw (V7 g n sv dst num nn) 51 11 (by kernel_rfl) (by decide) (by decide)) (fun w => Try.isAgg2 w) (hS.1.2.2.2.2)
    · have e50 : (putsV (opsOf Try.f51 7) (V7 g n sv dst num nn) (List.range 19) a).eval (.tmp 50) = .int .i64 num := nw (V7 g n sv dst num nn) 50 10 (by kernel_rfl) (by decide) (by decide)
      have e52 : (putsV (opsOf Try.f51 7) (V7 g n sv dst num nn) (List.range 19) a).eval (.tmp 52) = .int .i64 nn := nw (V7 g n sv dst num nn) 52 12 (by kernel_rfl) (by decide) (by decide)
      have := (opv_add (P := Try.prog) (fn := 0) (k := LK.none) (w := w) (op_of (p := .binOp .add 2 (.tmp 50) (.tmp 52) 2) (by kernel_rfl) hio) e50 e52 under_i64).1
      rw [w64_wrap] at this; exact this
    · exact build_letter _ _ w (op_of (by kernel_rfl) hio) (nw (V7 g n sv dst num nn) 46 6 (by kernel_rfl) (by decide) (by decide)) (nw (V7 g n sv dst num nn) 53 13 (by kernel_rfl) (by decide) (by decide))
    · exact q_nil (op_of (p := .nilCheck (.tmp 40)) (by kernel_rfl) hio) (nw (V7 g n sv dst num nn) 40 0 (by kernel_rfl) (by decide) (by decide))
    · exact q_field (op_of (p := .fieldAddr 102 (.tmp 57) 3) (by kernel_rfl) hio) (nw (V7 g n sv dst num nn) 57 17 (by kernel_rfl) (by decide) (by decide)) (fun w => field_p g w 3 (by decide))
  · match q, hq with
    | 0, hq =>
      obtain rfl : 15 = i := by simpa using hq
      obtain rfl : vs = [] := List.eq_nil_of_length_eq_zero hl
      have hw : w.heap = W.heap := hS.2
      have st1 := (hst.same (w' := w) hw).alloc (.cells #[.int .i64 dst, .int .i64 (w64 (num + nn))] 117)
      have g3 := st1.blk.cell 3
      have g1 := st1.blk.cell 1
      simp only [List.getElem?_cons_succ, List.getElem?_cons_zero] at g3 g1
      refine ⟨.slice (some ⟨W.heap.size, 0, none⟩) 1 1, w.alloc (.cells #[.int .i64 dst, .int .i64 (w64 (num + nn))] 117), ?_, ?_⟩
      · have := slice_letter (putsV (opsOf Try.f51 7) (VE [15, 16] (V7 g n sv dst num nn) []) (List.range 19) a).eval o w (op_of (by kernel_rfl) hio) (nw _ 54 14 (by kernel_rfl) (by decide) (by decide))
        rw [hw] at this
        exact this
      · have hc : ∀ p : Addr, p.block < W.heap.size → (w.alloc (.cells #[.int .i64 dst, .int .i64 (w64 (num + nn))] 117)).cell? p = w.cell? p := fun p hp => World.cell?_alloc_lt w _ p (by rw [hw]; exact hp)
        refine ⟨⟨g3, st1.blk.frozen 3, g1, (hc _ hn).trans hS.1.2.2.2.1, (hc _ hn).trans hS.1.2.2.2.2⟩, rfl, ?_⟩
        show w.heap.push _ = W.heap.push _
        rw [hw]
    | 1, hq =>
      obtain rfl : 16 = i := by simpa using hq
      match vs, hl with
      | [v1], _ =>
        obtain ⟨hS1, hv1, hw⟩ := hS
        subst hv1
        have st0 := hst.alloc (.cells #[.int .i64 dst, .int .i64 (w64 (num + nn))] 117)
        have st1 := st0.same (w' := w) hw
        have ex : (putsV (opsOf Try.f51 7) (VE [15, 16] (V7 g n sv dst num nn) [.slice (some ⟨W.heap.size, 0, none⟩) 1 1]) (List.range 19) a).eval (.tmp 55) = .slice (some ⟨W.heap.size, 0, none⟩) 1 1 := nw _ 55 15 (by kernel_rfl) (by decide) (by decide)
        have es : (putsV (opsOf Try.f51 7) (VE [15, 16] (V7 g n sv dst num nn) [.slice (some ⟨W.heap.size, 0, none⟩) 1 1]) (List.range 19) a).eval (.tmp 44) = sv := nw _ 44 4 (by kernel_rfl) (by decide) (by decide)
        have hcell : ∀ j u, [Value.int .i64 dst, .int .i64 (w64 (num + nn))][j]? = some u → w.cell? ((⟨W.heap.size, 0, none⟩ : Addr).add j) = some u := fun j u hu => by
          have hb : Blk (W.alloc (.cells #[.int .i64 dst, .int .i64 (w64 (num + nn))] 117)) W.heap.size 117 [.int .i64 dst, .int .i64 (w64 (num + nn))] := Blk.newArr W _ rfl
          have := hb.cellAdd j
          simp only [World.cell?, ← hw] at this ⊢
          rw [this]; exact hu
        have hbs : base ≤ w.heap.size := st1.bound
        obtain ⟨v', w', r1, r2, r3, _, _⟩ := run_append_own_at (P := Try.prog) w base 100 o.type 117 i0 (.agg #[.int .i64 0, .int .i64 0]) 2 16 Try.underlying100 hi0 hz0 hz1 hz2 rfl (by decide) sv s.length (cellsL s) st1.own ⟨W.heap.size, 0, none⟩ 1 1 [.int .i64 dst, .int .i64 (w64 (num + nn))] rfl hcell (by intro u hu; simp at hu; rcases hu with rfl | rfl <;> rfl) (by unfold maxLen; omega) (by omega) hbs
        have hop : o.op = .call { callee := .builtin .append, args := #[.tmp 44, .tmp 55], argTypes := #[100, 100] } := op_of (by kernel_rfl) hio
        refine ⟨v', w', ?_, ?_, w, hw, r3, ?_⟩
        · unfold execOp
          simp only [hop, resolve, invoke, builtin, Sem.run_bind, Sem.run_pure, Result.andThen_ok, List.map_toArray, List.map_cons, List.map_nil, es, ex, r1]
        · have hsz1 : w.heap.size = W.heap.size + 1 := by rw [hw]; simp
          have hk : ∀ b, b < w.heap.size → some b ≠ sv.ownBlock → w'.heap[b]? = w.heap[b]? := fun b h1 h2 => r3.block b h1 h2
          have hbk := st1.blk.grown r3 hgr
          have g3 := hbk.cell 3
          have g1 := hbk.cell 1
          simp only [List.getElem?_cons_succ, List.getElem?_cons_zero] at g3 g1
          have hcn : ∀ q, w'.cell? ⟨n, q, none⟩ = w.cell? ⟨n, q, none⟩ := fun q => World.cell?_of_block (hk n (by omega) hnr)
          exact ⟨g3, hbk.frozen 3, g1, (hcn 1).trans hS1.2.2.2.1, (hcn 2).trans hS1.2.2.2.2⟩
        · rw [cellsL_append]; exact r2
    | q + 2, hq => simp at hq
  · match vs, hl with
    | [v1, v2], _ =>
      obtain ⟨hS1, w1, hw, hg, ho⟩ := hS
      have e58 : (putsV (opsOf Try.f51 7) (VE [15, 16] (V7 g n sv dst num nn) [v1, v2]) (List.range 19) a).eval (.tmp 58) = .pointer (some ⟨g, 3, none⟩) := nw _ 58 18 (by kernel_rfl) (by decide) (by decide)
      have e56 : (putsV (opsOf Try.f51 7) (VE [15, 16] (V7 g n sv dst num nn) [v1, v2]) (List.range 19) a).eval (.tmp 56) = v2 := nw _ 56 16 (by kernel_rfl) (by decide) (by decide)
      obtain ⟨o, ho19, hop, hgd, hdst⟩ := op_ex (ops := opsOf Try.f51 7) (i := 19) (p := .store 100 (.tmp 58) (.tmp 56)) (d := none) (by kernel_rfl)
      obtain ⟨A2, c2, rfl, _, _⟩ := own_form ho
      have g1 := (op_store (P := Try.prog) (fn := 0) (k := ⟨fun _ => True, fun _ => True, fun _ => True⟩) (w := w) hop e58 e56 ⟨fun c h => (by cases h), fun c h => (by cases h)⟩ (fun w => Try.sizeOf100 w) hS1.1 hS1.2.1 trivial).1
      have st1 := (hst.alloc (.cells #[.int .i64 dst, .int .i64 (w64 (num + nn))] 117)).same (w' := w1) hw
      have fr1 := (hfar.alloc hbe (.cells #[.int .i64 dst, .int .i64 (w64 (num + nn))] 117)).same (w2 := w1) hw
      simp only [wpOps, ho19, yld hgd, if_true]
      refine .inl ?_
      unfold Oper.wp
      rw [g1, Oper.upon_skip, hdst, put_none]
      exact hQ v1 _ _ (st1.send hcap hg ho) ((fr1.grown st1.bound (fun b hb => (hst.own.lt _ hb).1) hg).set_ 3 _)
end Go.Proofs.Yticdjkkcfdbdcaa
