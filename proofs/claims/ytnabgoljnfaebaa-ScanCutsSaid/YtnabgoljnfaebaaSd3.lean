/- The walk of scan.side among its workers: the loop's pieces. No conditions but those named. -/
import Derived.Test.YtnabgoljnfaebaaSd2
namespace Go.Proofs.Ytnabgoljnfaebaa
open Go.Conc Go.ConcN Go.RowKit
theorem cell_push (w : World) (v : Value) (t : TypeId) : ({ w with heap := w.heap.push (.cells #[v] t) } : World).cell? ⟨w.heap.size, 0, none⟩ = some v := by simp [World.cell?]
theorem frozen_push (w : World) (v : Value) (t : TypeId) : ({ w with heap := w.heap.push (.cells #[v] t) } : World).frozen? ⟨w.heap.size, 0, none⟩ = false := by simp [World.frozen?]
theorem yld {o : Oper} (hg : o.guard = none) (f : Nat → Option Bool) : Region.wanted o f = true := by unfold Region.wanted; rw [hg]
theorem bS_kind : ((Go.Conc.base 15)).kind ≠ .early := by decide
/-- i's box, made and filled. -/
structure Boxed (Kb : LK) (w1 : World) (n : Nat) (v : Value) (k : LK) (w : World) : Prop where
  k : k = Kb.grow n (n + 1)
  rely : Rely Kb w1 w
  low : w1.heap.size ≤ n
  high : n < w.heap.size
  cell : w.cell? ⟨n, 0, none⟩ = some v
  loose : w.frozen? ⟨n, 0, none⟩ = false
theorem new_cell (n : Nat) : NewLoc n (n + 1) (.cell ⟨n, 0, none⟩) := ⟨Nat.le_refl _, Nat.lt_succ_self _⟩
theorem Boxed.r {Kb : LK} {w1 : World} {n : Nat} {v : Value} {k : LK} {w w₁ : World} (h : Boxed Kb w1 n v k w) (hr : Rely k w w₁) : Boxed Kb w1 n v k w₁ := by
  obtain ⟨rfl, h2, h3, h4, h5, h6⟩ := h
  exact ⟨rfl, h2.trans (hr.mono ⟨fun l hl => .inl hl, fun l hl => .inr hl⟩), h3, Nat.lt_of_lt_of_le h4 hr.size, (hr.cell _ (.inl (.inr (new_cell n)))).trans h5, (frozen_rely hr h4).trans h6⟩
section
variable {J : LK → Goroutine → World → Prop} {main : Bool} {R : LK → World → World → Prop} (hJ : JOk Try.prog main R J)
include hJ
set_option maxRecDepth 100000 in
theorem sd_test {S : LK → World → Prop} (hSR : ∀ k w w₁, S k w → R k w w₁ → S k w₁) {wg fbx cbx m i : Nat} {K : List Item} {cs : List Frame} {a : Act} (ha : AS wg fbx cbx m i a) {k : LK} {w : World} {x y z : Code}
    (hn : ∀ a1 k1 w1, AS wg fbx cbx m i a1 → S k1 w1 → J k1 (G (((Go.Conc.base 15)).at a1 (.code (if decide (i < m) then x else y) :: .code z :: K)) cs) w1) (h0 : S k w) : J k (G (((Go.Conc.base 15)).at a (.code (.seq (.region 3 (opsOf Try.f15 3) false) (.seq (.cond (.tmp 10) x y) z)) :: K)) cs) w := by
  let V : Nat → Value := fun i' => match i' with
    | 0 => .bool (decide ((i : Int) < (m : Nat)))
    | _ => undef
  have hdd := textOk_d f15_r3
  have hA : AS wg fbx cbx m i (putsV (opsOf Try.f15 3) V (List.range 1) a) := ⟨(puts_size hdd a).trans ha.size, (puts_defers hdd a).trans ha.d, (puts_old hdd (by kernel_rfl)).trans ha.t2, (puts_old hdd (by kernel_rfl)).trans ha.t3, (puts_old hdd (by kernel_rfl)).trans ha.t4, (puts_old hdd (by kernel_rfl)).trans ha.t8, (puts_old hdd (by kernel_rfl)).trans ha.t9⟩
  have e10 : (putsV (opsOf Try.f15 3) V (List.range 1) a).eval (.tmp 10) = .bool (decide ((i : Int) < (m : Nat))) := puts_new hdd (j := 0) (by kernel_rfl) (by decide) (by rw [ha.size]; decide)
  refine js_seq hJ _ hSR (fun k w hS => j_text hJ f15_r3 _ hSR V bS_kind (fun j o hjo hjm k w hS => ?_) (fun k w hS => ?_) hS) h0
  · obtain rfl : j = 0 := by omega
    exact opv_lss (P := Try.prog) (fn := ((Go.Conc.base 15)).fn) (k := k) (w := w) (op_of (p := .binOp .lss 3 (.tmp 9) (.tmp 8) 3) (by kernel_rfl) hjo) hA.t9 hA.t8 under_int
  · have hsz : (opsOf Try.f15 3).size = 1 := by kernel_rfl
    rw [hsz, drop_all]
    generalize putsV (opsOf Try.f15 3) V (List.range 1) a = a1 at hA e10
    have he : decide ((i : Int) < (m : Nat)) = decide (i < m) := by simp
    rw [he] at e10
    exact js_regend hJ _ hSR (fun k w hS => js_seq hJ _ hSR (fun k w hS => js_cond hJ _ hSR e10 (fun k w hS => hn a1 k w hA hS) hS) hS) hS
set_option maxRecDepth 100000 in
theorem sd_box {Kb : LK} {w1 : World} (hmem : ∀ l, Kb.W l ∨ Kb.R l → MemLoc w1.heap.size l) {wg fbx cbx m i : Nat} {K : List Item} {cs : List Frame} {a : Act} (ha : AS wg fbx cbx m i a) {k : LK} {w : World}
    (hn : ∀ n a1 k1 w', AS wg fbx cbx m i a1 → a1.eval (.tmp 5) = .pointer (some ⟨n, 0, none⟩) → Boxed Kb w1 n (.int .i64 i) k1 w' → J k1 (G (((Go.Conc.base 15)).at a1 K) cs) w') (h0 : k = Kb ∧ Rely Kb w1 w) : J k (G (((Go.Conc.base 15)).at a (.code (.region 4 (opsOf Try.f15 4) false) :: K)) cs) w := by
  have hSR : ∀ k w w₁, (k = Kb ∧ Rely Kb w1 w) → R k w w₁ → k = Kb ∧ Rely Kb w1 w₁ := fun k w w₁ h hR => ⟨h.1, h.2.trans (h.1 ▸ hJ.rel _ _ _ hR)⟩
  refine j_ctl hJ (fun w => stepG_region) fun w₁ hR => ?_
  have hsz : List.range (opsOf Try.f15 4).size = [0, 1, 2] := by kernel_rfl
  rw [hsz]
  replace h0 := hSR _ _ _ h0 hR
  clear hR
  obtain ⟨o0, ho0, hop0, hg0, hd0⟩ := op_ex (ops := opsOf Try.f15 4) (i := 0) (p := .move (.tmp 9)) (d := some 11) (by kernel_rfl)
  refine j_val hJ _ hSR bS_kind ho0 (yld hg0 _) (fun k w hS => opv_move (x := .tmp 9) (.inl hop0)) (fun k w hS => ?_) h0
  rw [hd0, ha.t9]
  have z0 : (a.put (some 11) (.int .i64 i)).eval (.tmp 11) = .int .i64 i := eval_put_eq _ (by rw [ha.size]; decide) _
  have ha1 : AS wg fbx cbx m i (a.put (some 11) (.int .i64 i)) := ha.put (by decide)
  generalize a.put (some 11) (.int .i64 i) = a1 at z0 ha1
  obtain ⟨o1, ho1, hop1, hg1, hd1⟩ := op_ex (ops := opsOf Try.f15 4) (i := 1) (p := .alloc 3) (d := some 5) (by kernel_rfl)
  refine js_new hJ _ hSR bS_kind (ob := .cells #[.int .i64 0] 3) ho1 (yld hg1 _) (fun w => by simp [go_sem, hop1, execOp]) (fun k w hS => ?_) hS
  obtain ⟨rfl, hr⟩ := hS
  rw [hd1]
  have hB : Boxed k w1 w.heap.size (.int .i64 0) (k.grow w.heap.size (w.heap.size + 1)) { w with heap := w.heap.push (.cells #[.int .i64 0] 3) } := ⟨rfl, rely_push hr hmem _, hr.size, by simp, cell_push .., frozen_push ..⟩
  have z1 : (a1.put (some 5) (.pointer (some ⟨w.heap.size, 0, none⟩))).eval (.tmp 5) = .pointer (some ⟨w.heap.size, 0, none⟩) := eval_put_eq _ (by rw [ha1.size]; decide) _
  have z2 : (a1.put (some 5) (.pointer (some ⟨w.heap.size, 0, none⟩))).eval (.tmp 11) = .int .i64 i := (eval_put_ne _ (by decide) _).trans z0
  have ha2 : AS wg fbx cbx m i (a1.put (some 5) (.pointer (some ⟨w.heap.size, 0, none⟩))) := ha1.put (by decide)
  have hw2 : w1.heap.size ≤ w.heap.size := hr.size
  generalize a1.put (some 5) (.pointer (some ⟨w.heap.size, 0, none⟩)) = a2 at z1 z2 ha2
  generalize w.heap.size = n at hB z1 hw2
  generalize k.grow n (n + 1) = k1 at hB
  generalize ({ w with heap := w.heap.push (.cells #[.int .i64 0] 3) } : World) = w' at hB
  obtain ⟨o2, ho2, hop2, hg2, hd2⟩ := op_ex (ops := opsOf Try.f15 4) (i := 2) (p := .store 3 (.tmp 5) (.tmp 11)) (d := none) (by kernel_rfl)
  refine hJ.own _ _ _ rfl rfl fun w₁ hR => ?_
  have hB1 := hB.r (hJ.rel _ _ _ hR)
  have hW : k1.W (.cell ⟨n, 0, none⟩) := by rw [hB1.k]; exact .inr (new_cell n)
  obtain ⟨g1, g2⟩ := op_store (P := Try.prog) (fn := ((Go.Conc.base 15)).fn) (k := k1) (w := w₁) hop2 z1 z2 ⟨fun c h => (by cases h), fun c h => (by cases h)⟩ (fun w => Try.sizeOf3 w) hB1.cell hB1.loose hW
  refine ⟨_, _, _, stepG_none ho2 (yld hg2 _) bS_kind g1, g2, ?_⟩
  rw [setCell_size, grow_self, hd2, put_none]
  have hB2 : Boxed k w1 n (.int .i64 i) k1 (w₁.setCell ⟨n, 0, none⟩ (.int .i64 i)) := ⟨hB1.k, rely_cell hB1.rely hmem hw2 hB1.cell, hB1.low, by rw [setCell_size]; exact hB1.high, World.cell?_setCell_same (w := w₁) (a := ⟨n, 0, none⟩) (v := .int .i64 i) hB1.cell, (World.frozen?_setCell ..).trans hB1.loose⟩
  exact js_regend hJ (fun k' w => Boxed k w1 n (.int .i64 i) k' w) (fun k w w₁ h hR => h.r (hJ.rel _ _ _ hR)) (fun k' w hS => hn n a2 k' w ha2 z1 hS) hB2
set_option maxRecDepth 100000 in
theorem sd_inc {S : LK → World → Prop} (hSR : ∀ k w w₁, S k w → R k w w₁ → S k w₁) {wg fbx cbx m i : Nat} (hi : i < 1000) {K : List Item} {cs : List Frame} {a : Act} (ha : AS wg fbx cbx m i a) {k : LK} {w : World}
    (hn : ∀ a1 k1 w1, AS wg fbx cbx m (i + 1) a1 → S k1 w1 → J k1 (G (((Go.Conc.base 15)).at a1 K) cs) w1) (h0 : S k w) : J k (G (((Go.Conc.base 15)).at a (.code (.region 7 (opsOf Try.f15 7) false) :: K)) cs) w := by
  refine j_ctl hJ (fun w => stepG_region) fun w₁ hR => ?_
  have hsz : List.range (opsOf Try.f15 7).size = [0, 1] := by kernel_rfl
  rw [hsz]
  replace h0 := hSR _ _ _ h0 hR
  clear hR
  obtain ⟨o0, ho0, hop0, hg0, hd0⟩ := op_ex (ops := opsOf Try.f15 7) (i := 0) (p := .binOp .add 3 (.tmp 9) (.const (.int .i64 1)) 3) (d := some 14) (by kernel_rfl)
  have wadd : IntKind.i64.wrap ((i : Int) + 1) = ((i + 1 : Nat) : Int) := by rw [wrapI (by unfold I64; omega)]; omega
  refine j_val hJ _ hSR bS_kind ho0 (yld hg0 _) (fun k w hS => opv_add hop0 ha.t9 rfl under_int) (fun k w hS => ?_) h0
  rw [hd0, wadd]
  have z0 : (a.put (some 14) (.int .i64 (i + 1 : Nat))).eval (.tmp 14) = .int .i64 (i + 1 : Nat) := eval_put_eq _ (by rw [ha.size]; decide) _
  have ha1 : AS wg fbx cbx m i (a.put (some 14) (.int .i64 (i + 1 : Nat))) := ha.put (by decide)
  generalize a.put (some 14) (.int .i64 (i + 1 : Nat)) = a1 at z0 ha1
  obtain ⟨o1, ho1, hop1, hg1, hd1⟩ := op_ex (ops := opsOf Try.f15 7) (i := 1) (p := .move (.tmp 14)) (d := some 9) (by kernel_rfl)
  refine j_val hJ _ hSR bS_kind ho1 (yld hg1 _) (fun k w hS => opv_move (x := .tmp 14) (.inl hop1)) (fun k w hS => ?_) hS
  rw [hd1, z0]
  refine js_regend hJ _ hSR (fun k w hS => hn _ k w ⟨(put_size _ _ _).trans ha1.size, ha1.d, (eval_put_ne _ (by decide) _).trans ha1.t2, (eval_put_ne _ (by decide) _).trans ha1.t3, (eval_put_ne _ (by decide) _).trans ha1.t4, (eval_put_ne _ (by decide) _).trans ha1.t8, eval_put_eq _ (by rw [ha1.size]; decide) _⟩ hS) hS
end
end Go.Proofs.Ytnabgoljnfaebaa
