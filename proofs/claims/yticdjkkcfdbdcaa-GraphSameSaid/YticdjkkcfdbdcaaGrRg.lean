/- The region of graph.Run that lists a job with those that wait, alone. No conditions but that what is read is there. -/
import Derived.Test.YticdjkkcfdbdcaaGrLi
import Derived.Test.YticdjkkcfdbdcaaGrRf
import Derived.Test.YticdjkkcfdbdcaaDrawE
namespace Go.Proofs.Yticdjkkcfdbdcaa
open Go.Conc Go.ConcN Go.RowKit
def V16r (g n x k : Nat) (v : Value) : Nat → Value := fun j => match j with
  | 0 => .slice (some ⟨g + 4, 0, none⟩) n n
  | 1 => .int .i64 (x : Int)
  | 2 => .slice (some ⟨g + 4, 0, none⟩) n n
  | 3 => .int .i64 (x : Int)
  | 4 => .pointer (some ⟨g + 4, x, none⟩)
  | 5 => v
  | 6 => .int .i64 (k : Int)
  | 9 => .pointer (some ⟨g + 4, x, none⟩)
  | _ => undef
set_option maxRecDepth 100000 in
theorem rg_r16 : drawOk (opsOf Try.f20 16) 10 = true := by kernel_rfl
set_option maxRecDepth 100000 in
theorem rg_c16 : chainOk (opsOf Try.f20 16) 10 [7, 8] = true := by kernel_rfl
def S16r (W : World) (g n x k : Nat) (v : Value) (xs : List Int) (vs : List Value) (w : World) : Prop :=
  (w.cell? ⟨g + 5, 0, none⟩ = some (.slice (some ⟨g + 4, 0, none⟩) n n) ∧ w.cell? ⟨g + 4, x, none⟩ = some v ∧ w.frozen? ⟨g + 4, x, none⟩ = false) ∧
  match vs with
  | [] => w.heap = W.heap
  | [v1] => v1 = .slice (some ⟨W.heap.size, 0, none⟩) 1 1 ∧ w.heap = (W.alloc (.cells #[.int .i64 (k : Int)] 3)).heap
  | _ :: v2 :: _ => ∃ w1 : World, w1.heap = (W.alloc (.cells #[.int .i64 (k : Int)] 3)).heap ∧ w1.grownBy w v.ownBlock ∧ w.ownsRow (g + 9) 3 1 v2 (xs.length + 1) (ints xs ++ [.int .i64 (k : Int)]) ∧ (v2.ownBlock = v.ownBlock ∨ v2.ownBlock = some w1.heap.size)
theorem slice_int {e : Operand → Value} {o : Oper} {w : World} {t : Nat} (hop : o.op = .buildSlice 39 1 #[(0, .tmp t)]) {y : Int} (h1 : e (.tmp t) = .int .i64 y) : (execOp e o).run Try.prog w = .ok (.value (.slice (some ⟨w.heap.size, 0, none⟩) 1 1)) (w.alloc (.cells #[.int .i64 y] 3)) := by
  simp [go_sem, hop, h1, execOp]
theorem cells_atG {w : World} {b : Nat} {cs : List Value} {t : TypeId} {fz : Nat × Nat} (h : w.heap[b]? = some (.cells cs.toArray t fz)) (i : Nat) : w.cell? ⟨b, i, none⟩ = cs[i]? := by simp [World.cell?, h]
set_option maxRecDepth 100000 in
set_option maxHeartbeats 1000000 in
theorem r16_wp {ops : Array Oper} (hops : ops = opsOf Try.f20 16) {a : Act} {L0 W : World} {g bJ : Nat} {A : Option Addr} {c n x k : Nat} {left : Nat → Int} {nxf nxf' : Nat → List Int} {vs : List Value} {q : List Nat} {cl : Bool} {v : Value} (hz : a.tmps.size = 86) (t9 : a.eval (.tmp 9) = .pointer (some ⟨g + 5, 0, none⟩)) (t15 : a.eval (.tmp 15) = .int .i64 (x : Int)) (t12 : a.eval (.tmp 12) = .int .i64 (k : Int))
    (hR : RunSt L0 W g bJ A c n left nxf vs q cl) (hx : x < n) (hv : vs[x]? = some v) (hfew : (nxf x).length < 1000000) (hne1 : nxf' x = nxf x ++ [(k : Int)]) (hne2 : ∀ j, j < n → j ≠ x → nxf' j = nxf j) {Q : Exit → Act → World → Prop} {id : Nat}
    (hQ : ∀ v1 v2 w', RunSt L0 w' g bJ A c n left nxf' (vs.set x v2) q cl → W.heap.size ≤ w'.heap.size → (v2.ownBlock = v.ownBlock ∨ v2.ownBlock = some (W.heap.size + 1)) → (∀ b, b < W.heap.size → b ≠ g + 4 → v.ownBlock ≠ some b → w'.heap[b]? = W.heap[b]?) → Q .normal (putsV ops (VE [7, 8] (V16r g n x k v) [v1, v2]) (List.range 10) a) w') : (Code.region id ops true).wp Try.prog Q a W := by
  subst hops
  obtain ⟨i0, hi0, hz0, hz1, hz2⟩ := info_parts info_int
  have hdd := drawOk_d rg_r16
  have nw : ∀ (V : Nat → Value) t j, prodOf (opsOf Try.f20 16) t = some j → j < 10 → t < 86 → (putsV (opsOf Try.f20 16) V (List.range 10) a).eval (.tmp t) = V j := fun V t j h1 h2 h3 => puts_new hdd h1 h2 (by rw [hz]; exact h3)
  have od : ∀ (V : Nat → Value) t, prodOf (opsOf Try.f20 16) t = none → (putsV (opsOf Try.f20 16) V (List.range 10) a).eval (.tmp t) = a.eval (.tmp t) := fun V t h => puts_old hdd h
  have hsz : (opsOf Try.f20 16).size = 11 := by kernel_rfl
  have hb := hR.rows.bound
  obtain ⟨v', hv', hcv, hown⟩ := hR.rows.get (k := x) (by rw [fnL_len]; exact hx)
  rw [hv] at hv'
  cases hv'
  have hgx : (fnL n nxf)[x]'(by rw [fnL_len]; exact hx) = nxf x := by simp [fnL]
  rw [hgx] at hown
  have hfz := hR.rows.blk.frozen x
  have hcx := (hR.bx.cell 0)
  simp only [List.getElem?_cons_zero] at hcx
  have hvl := fun b (hb : v.ownBlock = some b) => ownBlock_lt hR.rows hv hb
  refine wp_drawnE (show Try.prog.follows .mixedOrders = true by kernel_rfl) rg_r16 rg_c16 (S16r W g n x k v (nxf x)) (V16r g n x k v) (fun i o hio him hiE us w hS => ?_) (fun m i o hm hio us w hl hS => ?_) (fun us w hl hS => ?_) (fun d => ⟨⟨hcx, hcv, hfz⟩, rfl⟩)
  · have hil : i < 11 := by have := (Array.getElem?_eq_some_iff.1 hio).1; omega
    have h7 : i ≠ 7 := fun e => hiE (by subst e; simp)
    have h8 : i ≠ 8 := fun e => hiE (by subst e; simp)
    obtain rfl | rfl | rfl | rfl | rfl | rfl | rfl | rfl : i = 0 ∨ i = 1 ∨ i = 2 ∨ i = 3 ∨ i = 4 ∨ i = 5 ∨ i = 6 ∨ i = 9 := by omega
    · exact ri_load (op_of (p := .load 125 (.tmp 9)) (by kernel_rfl) hio) ((od _ 9 (by kernel_rfl)).trans t9) (fun w => Try.isAgg125 w) hS.1.1
    · exact ri_move (op_of (p := .move (.tmp 15)) (by kernel_rfl) hio) ((od _ 15 (by kernel_rfl)).trans t15)
    · exact ri_load (op_of (p := .load 125 (.tmp 9)) (by kernel_rfl) hio) ((od _ 9 (by kernel_rfl)).trans t9) (fun w => Try.isAgg125 w) hS.1.1
    · exact ri_move (op_of (p := .move (.tmp 15)) (by kernel_rfl) hio) ((od _ 15 (by kernel_rfl)).trans t15)
    · exact ri_index (op_of (p := .indexAddr 125 (.tmp 58) (.tmp 59)) (by kernel_rfl) hio) (nw (V16r g n x k v) 58 2 (by kernel_rfl) (by decide) (by decide)) (nw (V16r g n x k v) 59 3 (by kernel_rfl) (by decide) (by decide)) hx Try.underlying125 (fun w => Try.sizeOf39 w) (by omega)
    · exact ri_load (op_of (p := .load 39 (.tmp 60)) (by kernel_rfl) hio) (nw (V16r g n x k v) 60 4 (by kernel_rfl) (by decide) (by decide)) (fun w => Try.isAgg39 w) hS.1.2.1
    · exact ri_move (op_of (p := .move (.tmp 12)) (by kernel_rfl) hio) ((od _ 12 (by kernel_rfl)).trans t12)
    · exact ri_index (op_of (p := .indexAddr 125 (.tmp 56) (.tmp 57)) (by kernel_rfl) hio) (nw (V16r g n x k v) 56 0 (by kernel_rfl) (by decide) (by decide)) (nw (V16r g n x k v) 57 1 (by kernel_rfl) (by decide) (by decide)) hx Try.underlying125 (fun w => Try.sizeOf39 w) (by omega)
  · match m, hm with
    | 0, hm =>
      obtain rfl : 7 = i := by simpa using hm
      obtain rfl : us = [] := List.eq_nil_of_length_eq_zero hl
      obtain ⟨⟨s1, s2, s3⟩, hw⟩ := hS
      refine ⟨.slice (some ⟨W.heap.size, 0, none⟩) 1 1, w.alloc (.cells #[.int .i64 (k : Int)] 3), ?_, ⟨?_, ?_, ?_⟩, rfl, ?_⟩
      · have := slice_int (e := (putsV (opsOf Try.f20 16) (VE [7, 8] (V16r g n x k v) []) (List.range 10) a).eval) (w := w) (y := (k : Int)) (op_of (by kernel_rfl) hio) (nw (VE [7, 8] (V16r g n x k v) []) 62 6 (by kernel_rfl) (by decide) (by decide))
        rw [hw] at this
        exact this
      · exact (World.cell?_of_block (Below.heap_alloc _ _ _ (by rw [hw]; show g + 5 < _; omega))).trans s1
      · exact (World.cell?_of_block (Below.heap_alloc _ _ _ (by rw [hw]; show g + 4 < _; omega))).trans s2
      · exact (World.frozen?_of_block (Below.heap_alloc _ _ _ (by rw [hw]; show g + 4 < _; omega))).trans s3
      · show w.heap.push _ = W.heap.push _
        rw [hw]
    | 1, hm =>
      obtain rfl : 8 = i := by simpa using hm
      match us, hl with
      | [v1], _ =>
        obtain ⟨⟨s1, s2, s3⟩, hv1, hw⟩ := hS
        subst hv1
        have hsz1 : w.heap.size = W.heap.size + 1 := by rw [hw]; simp
        have hold : ∀ b, b < W.heap.size → w.heap[b]? = W.heap[b]? := fun b hb => by rw [hw]; exact Below.heap_alloc W _ b hb
        have hox : w.ownsRow (g + 9) 3 1 v (nxf x).length (ints (nxf x)) := own_blockG hown fun b hb => hold b (hown.lt _ hb).2
        have hnn : w.heap[W.heap.size]? = some (.cells [Value.int .i64 (k : Int)].toArray 3 (0, 0)) := by rw [hw]; exact heap_alloc_new W _
        have e61 : (putsV (opsOf Try.f20 16) (VE [7, 8] (V16r g n x k v) [.slice (some ⟨W.heap.size, 0, none⟩) 1 1]) (List.range 10) a).eval (.tmp 61) = v := nw _ 61 5 (by kernel_rfl) (by decide) (by decide)
        have e63 : (putsV (opsOf Try.f20 16) (VE [7, 8] (V16r g n x k v) [.slice (some ⟨W.heap.size, 0, none⟩) 1 1]) (List.range 10) a).eval (.tmp 63) = .slice (some ⟨W.heap.size, 0, none⟩) 1 1 := nw _ 63 7 (by kernel_rfl) (by decide) (by decide)
        have hop : o.op = .call { callee := .builtin .append, args := #[.tmp 61, .tmp 63], argTypes := #[39, 39] } := op_of (by kernel_rfl) hio
        obtain ⟨v', w', r1, r2, r3, _, r5⟩ := run_append_own_at (P := Try.prog) w (g + 9) 39 o.type 3 i0 (.int .i64 0) 1 8 Try.underlying39 hi0 hz0 hz1 hz2 rfl (by decide) v (nxf x).length (ints (nxf x)) hox ⟨W.heap.size, 0, none⟩ 1 1 [.int .i64 (k : Int)] rfl (fun j u hu => by
            rw [show ((⟨W.heap.size, 0, none⟩ : Addr).add j) = ⟨W.heap.size, j, none⟩ by simp [Addr.add_lit']]
            rw [cells_atG hnn j]; exact hu) (fun u hu => by simp at hu; subst hu; rfl) (by unfold maxLen; omega) (by omega) (by omega)
        have kb : ∀ b, b < g + 9 → w'.heap[b]? = w.heap[b]? := fun b hb => r3.block b (by omega) fun e => by have := hvl b e.symm; omega
        refine ⟨v', w', ?_, ⟨(World.cell?_of_block (kb _ (by show g + 5 < _; omega))).trans s1, (World.cell?_of_block (kb _ (by show g + 4 < _; omega))).trans s2, (World.frozen?_of_block (kb _ (by show g + 4 < _; omega))).trans s3⟩, w, hw, r3, r2, r5⟩
        unfold execOp
        simp only [hop, resolve, invoke, builtin, Sem.run_bind, Sem.run_pure, Result.andThen_ok, List.map_toArray, List.map_cons, List.map_nil, e61, e63, r1]
    | m + 2, hm => simp at hm
  · match us, hl with
    | [v1, v2], _ =>
      obtain ⟨⟨s1, s2, s3⟩, w1, hw1, hgr, hox, hat⟩ := hS
      have e65 : (putsV (opsOf Try.f20 16) (VE [7, 8] (V16r g n x k v) [v1, v2]) (List.range 10) a).eval (.tmp 65) = .pointer (some ⟨g + 4, x, none⟩) := nw _ 65 9 (by kernel_rfl) (by decide) (by decide)
      have e64 : (putsV (opsOf Try.f20 16) (VE [7, 8] (V16r g n x k v) [v1, v2]) (List.range 10) a).eval (.tmp 64) = v2 := nw _ 64 8 (by kernel_rfl) (by decide) (by decide)
      obtain ⟨o, ho, hop, hgd, hdst⟩ := op_ex (ops := (opsOf Try.f20 16)) (i := 10) (p := .store 39 (.tmp 65) (.tmp 64)) (d := none) (by kernel_rfl)
      obtain ⟨A2, c2, rfl, _, _⟩ := own_form hox
      have g1 := (op_store (P := Try.prog) (fn := 0) (k := ⟨fun _ => True, fun _ => True, fun _ => True⟩) (w := w) hop e65 e64 ⟨fun c h => (by cases h), fun c h => (by cases h)⟩ (fun w => Try.sizeOf39 w) s2 s3 trivial).1
      simp only [wpOps, ho, yld hgd, if_true]
      refine .inl ?_
      unfold Oper.wp
      rw [g1, Oper.upon_skip, hdst, put_none]
      have hR1 : RunSt L0 w1 g bJ A c n left nxf vs q cl := (hR.alloc (.cells #[.int .i64 (k : Int)] 3)).same hw1
      have hs1 : w1.heap.size = W.heap.size + 1 := by rw [hw1]; simp
      refine hQ v1 _ _ (hR1.pushRow hx hv hgr hox hat hne1 hne2) (by have := hgr.size; simp [World.setCell]; omega) (by rw [← hs1]; exact hat) fun b hb1 hb2 hb3 => ?_
      rw [Below.heap_setCell w ⟨g + 4, x, none⟩ _ b hb2, hgr.block b (by omega) (fun e => hb3 e.symm), hw1]
      exact Below.heap_alloc W _ b hb1
end Go.Proofs.Yticdjkkcfdbdcaa
