/- The region of the reference's Worked that adds one number, alone. No conditions but that what is read is there. -/
import Derived.Test.YticdjkkcfdbdcaaGrP
import Derived.Test.YticdjkkcfdbdcaaGraphChk
namespace Go.Proofs.Yticdjkkcfdbdcaa
open Go.Conc Go.ConcN Go.RowKit
def V16 (gN n i : Nat) (A : Option Addr) (nc c : Nat) (jb jo : Nat) (sA : Option Addr) (ln sc : Nat) (q ab ao y : Nat) (x v : Int) : Nat → Value := fun j => match j with
  | 0 => .slice (some ⟨gN, 0, none⟩) n nc
  | 1 => .int .i64 (i : Int)
  | 2 => .slice (some ⟨gN, 0, none⟩) n nc
  | 3 => .int .i64 (i : Int)
  | 4 => .pointer (some ⟨gN, i, none⟩)
  | 5 => .int .i64 x
  | 6 => .int .i64 (IntKind.i64.wrap (31 * x))
  | 7 => .slice (some ⟨gN, 0, none⟩) n nc
  | 8 => .slice A n c
  | 9 => .int .i64 (i : Int)
  | 10 => .pointer (some ⟨jb, jo + i * 4, none⟩)
  | 11 => .pointer (some ⟨jb, jo + i * 4 + 2, none⟩)
  | 12 => .slice sA ln sc
  | 13 => .int .i64 (q : Int)
  | 14 => .pointer (some ⟨ab, ao + q, none⟩)
  | 15 => .int .i64 (y : Int)
  | 16 => .pointer (some ⟨gN, y, none⟩)
  | 17 => .int .i64 v
  | 18 => .int .i64 (step31 x v)
  | 19 => .pointer (some ⟨gN, i, none⟩)
  | _ => undef
set_option maxRecDepth 100000 in
theorem rf_r16 : drawOk (opsOf Try.f21 16) 20 = true := by kernel_rfl
theorem ri_move {e : Operand → Value} {o : Oper} {w : World} {x : Operand} {v : Value} (hop : o.op = .move x) (hv : e x = v) : (execOp e o).run Try.prog w = .ok (.value v) w := by
  have := (opv_move (P := Try.prog) (fn := 0) (e := e) (k := LK.none) (w := w) (x := x) (.inl hop)).1
  rwa [hv] at this
theorem ri_index {e : Operand → Value} {o : Oper} {w : World} {t elem : TypeId} {x i : Operand} {b o' len cap sz : Nat} {n : Nat} (hop : o.op = .indexAddr t x i) (hx : e x = .slice (some ⟨b, o', none⟩) len cap) (hi : e i = .int .i64 (n : Int)) (h1 : n < len) (ht : Try.prog.underlying t = some (.slice elem)) (hsz : ∀ w, (Go.sizeOf elem).run Try.prog w = .ok sz w) {r : Nat} (hr : o' + n * sz = r) : (execOp e o).run Try.prog w = .ok (.value (.pointer (some ⟨b, r, none⟩))) w := by
  have := (opv_index (P := Try.prog) (fn := 0) (k := LK.none) (w := w) hop hx hi (Int.natCast_nonneg n) (by omega) ht hsz).1
  rw [show ((⟨b, o', none⟩ : Addr).add ((n : Int).toNat * sz)) = ⟨b, r, none⟩ by rw [Addr.add_lit', ← hr]; simp] at this
  exact this
theorem ri_load {e : Operand → Value} {o : Oper} {w : World} {t : TypeId} {x : Operand} {p : Addr} {v : Value} (hop : o.op = .load t x) (hx : e x = .pointer (some p)) (hag : ∀ w, (isAgg t).run Try.prog w = .ok false w) (hc : w.cell? p = some v) : (execOp e o).run Try.prog w = .ok (.value v) w :=
  (opv_load (P := Try.prog) (fn := 0) (k := ⟨fun _ => True, fun _ => True, fun _ => True⟩) (w := w) hop hx hag hc (.inl trivial)).1
theorem ri_of {e : Operand → Value} {o : Oper} {w : World} {v : Value} (h : (execOp e o).runT Try.prog w #[] = (.ok (.value v) w, #[])) : (execOp e o).run Try.prog w = .ok (.value v) w := by
  rw [Sem.runT_eq] at h
  exact (Prod.mk.inj h).1
set_option maxRecDepth 100000 in
theorem rf16_wp {ops : Array Oper} (hops : ops = opsOf Try.f21 16) {a : Act} {W : World} {gN n i nc c jb jo ln sc q ab ao y : Nat} {x v : Int} (hz : a.tmps.size = 92) (t7 : a.eval (.tmp 7) = .slice (some ⟨gN, 0, none⟩) n nc) (t10 : a.eval (.tmp 10) = .int .i64 (i : Int)) (t0 : a.eval (.tmp 0) = .slice (some ⟨jb, jo, none⟩) n c) (t11 : a.eval (.tmp 11) = .int .i64 (q : Int))
    (hi : i < n) (hq : q < ln) (hy : y < n) (c1 : W.cell? ⟨gN, i, none⟩ = some (.int .i64 x)) (z1 : W.frozen? ⟨gN, i, none⟩ = false) (c2 : W.cell? ⟨jb, jo + i * 4 + 2, none⟩ = some (.slice (some ⟨ab, ao, none⟩) ln sc)) (c3 : W.cell? ⟨ab, ao + q, none⟩ = some (.int .i64 (y : Int))) (c4 : W.cell? ⟨gN, y, none⟩ = some (.int .i64 v)) {Q : Exit → Act → World → Prop} {id : Nat}
    (hQ : ∀ w : World, w.heap = W.heap → (w.os = W.os ∧ w.tape = W.tape ∧ w.output = W.output) → Q .normal (putsV ops (V16 gN n i (some ⟨jb, jo, none⟩) nc c jb jo (some ⟨ab, ao, none⟩) ln sc q ab ao y x v) (List.range 20) a) (w.setCell ⟨gN, i, none⟩ (.int .i64 (step31 x v)))) : (Code.region id ops true).wp Try.prog Q a W := by
  subst hops
  have hdd := drawOk_d rf_r16
  have nw : ∀ t j, prodOf (opsOf Try.f21 16) t = some j → j < 20 → t < 92 → (putsV (opsOf Try.f21 16) (V16 gN n i (some ⟨jb, jo, none⟩) nc c jb jo (some ⟨ab, ao, none⟩) ln sc q ab ao y x v) (List.range 20) a).eval (.tmp t) = V16 gN n i (some ⟨jb, jo, none⟩) nc c jb jo (some ⟨ab, ao, none⟩) ln sc q ab ao y x v j := fun t j h1 h2 h3 => puts_new hdd h1 h2 (by rw [hz]; exact h3)
  have od : ∀ t, prodOf (opsOf Try.f21 16) t = none → (putsV (opsOf Try.f21 16) (V16 gN n i (some ⟨jb, jo, none⟩) nc c jb jo (some ⟨ab, ao, none⟩) ln sc q ab ao y x v) (List.range 20) a).eval (.tmp t) = a.eval (.tmp t) := fun t h => puts_old hdd h
  have hsz : (opsOf Try.f21 16).size = 21 := by kernel_rfl
  have cof : ∀ {w : World} {p : Addr} {v : Value}, w.heap = W.heap → W.cell? p = some v → w.cell? p = some v := fun e h => by rw [← h]; simp only [World.cell?, e]
  refine wp_drawn (show Try.prog.follows .mixedOrders = true by kernel_rfl) rf_r16 (fun w => w.heap = W.heap ∧ (w.os = W.os ∧ w.tape = W.tape ∧ w.output = W.output)) (fun w d h => h) (V16 gN n i (some ⟨jb, jo, none⟩) nc c jb jo (some ⟨ab, ao, none⟩) ln sc q ab ao y x v) (fun j o hio him => ?_) (fun w hw => ?_) ⟨rfl, rfl, rfl, rfl⟩
  · have hi21 : j < 21 := by have := (Array.getElem?_eq_some_iff.1 hio).1; omega
    refine .inl fun w hww => ?_
    have hw := hww.1
    obtain rfl | rfl | rfl | rfl | rfl | rfl | rfl | rfl | rfl | rfl | rfl | rfl | rfl | rfl | rfl | rfl | rfl | rfl | rfl | rfl : j = 0 ∨ j = 1 ∨ j = 2 ∨ j = 3 ∨ j = 4 ∨ j = 5 ∨ j = 6 ∨ j = 7 ∨ j = 8 ∨ j = 9 ∨ j = 10 ∨ j = 11 ∨ j = 12 ∨ j = 13 ∨ j = 14 ∨ j = 15 ∨ j = 16 ∨ j = 17 ∨ j = 18 ∨ j = 19 := by omega
    · exact ri_move (op_of (p := .move (.tmp 7)) (by kernel_rfl) hio) ((od 7 (by kernel_rfl)).trans t7)
    · exact ri_move (op_of (p := .move (.tmp 10)) (by kernel_rfl) hio) ((od 10 (by kernel_rfl)).trans t10)
    · exact ri_move (op_of (p := .move (.tmp 7)) (by kernel_rfl) hio) ((od 7 (by kernel_rfl)).trans t7)
    · exact ri_move (op_of (p := .move (.tmp 10)) (by kernel_rfl) hio) ((od 10 (by kernel_rfl)).trans t10)
    · exact ri_index (op_of (p := .indexAddr 23 (.tmp 68) (.tmp 69)) (by kernel_rfl) hio) (nw 68 2 (by kernel_rfl) (by decide) (by decide)) (nw 69 3 (by kernel_rfl) (by decide) (by decide)) hi Try.underlying23 (fun w => Try.sizeOf2 w) (by omega)
    · exact ri_load (op_of (p := .load 2 (.tmp 70)) (by kernel_rfl) hio) (nw 70 4 (by kernel_rfl) (by decide) (by decide)) (fun w => Try.isAgg2 w) (cof hw c1)
    · exact ri_of (run_arith under_i64g (op_of (p := .binOp .mul 2 (.const (.int .i64 31)) (.tmp 71) 2) (by kernel_rfl) hio) rfl (nw 71 5 (by kernel_rfl) (by decide) (by decide)) (.inr (.inl ⟨rfl, rfl⟩)) w)
    · exact ri_move (op_of (p := .move (.tmp 7)) (by kernel_rfl) hio) ((od 7 (by kernel_rfl)).trans t7)
    · exact ri_move (op_of (p := .move (.tmp 0)) (by kernel_rfl) hio) ((od 0 (by kernel_rfl)).trans t0)
    · exact ri_move (op_of (p := .move (.tmp 10)) (by kernel_rfl) hio) ((od 10 (by kernel_rfl)).trans t10)
    · exact ri_index (op_of (p := .indexAddr 34 (.tmp 74) (.tmp 75)) (by kernel_rfl) hio) (nw 74 8 (by kernel_rfl) (by decide) (by decide)) (nw 75 9 (by kernel_rfl) (by decide) (by decide)) hi Try.underlying34 (fun w => Try.sizeOf41 w) rfl
    · exact ri_of (run_field (op_of (p := .fieldAddr 41 (.tmp 76) 2) (by kernel_rfl) hio) (nw 76 10 (by kernel_rfl) (by decide) (by decide)) (fun w => field_job _ _ w 2 (by decide)) w)
    · exact ri_load (op_of (p := .load 39 (.tmp 77)) (by kernel_rfl) hio) (nw 77 11 (by kernel_rfl) (by decide) (by decide)) (fun w => Try.isAgg39 w) (cof hw c2)
    · exact ri_move (op_of (p := .move (.tmp 11)) (by kernel_rfl) hio) ((od 11 (by kernel_rfl)).trans t11)
    · exact ri_index (op_of (p := .indexAddr 39 (.tmp 78) (.tmp 79)) (by kernel_rfl) hio) (nw 78 12 (by kernel_rfl) (by decide) (by decide)) (nw 79 13 (by kernel_rfl) (by decide) (by decide)) hq Try.underlying39 (fun w => Try.sizeOf3 w) (by omega)
    · exact ri_load (op_of (p := .load 3 (.tmp 80)) (by kernel_rfl) hio) (nw 80 14 (by kernel_rfl) (by decide) (by decide)) (fun w => Try.isAgg3 w) (cof hw c3)
    · exact ri_index (op_of (p := .indexAddr 23 (.tmp 73) (.tmp 81)) (by kernel_rfl) hio) (nw 73 7 (by kernel_rfl) (by decide) (by decide)) (nw 81 15 (by kernel_rfl) (by decide) (by decide)) hy Try.underlying23 (fun w => Try.sizeOf2 w) (by omega)
    · exact ri_load (op_of (p := .load 2 (.tmp 82)) (by kernel_rfl) hio) (nw 82 16 (by kernel_rfl) (by decide) (by decide)) (fun w => Try.isAgg2 w) (cof hw c4)
    · exact ri_of (run_arith under_i64g (op_of (p := .binOp .add 2 (.tmp 72) (.tmp 83) 2) (by kernel_rfl) hio) (nw 72 6 (by kernel_rfl) (by decide) (by decide)) (nw 83 17 (by kernel_rfl) (by decide) (by decide)) (.inl ⟨rfl, rfl⟩) w)
    · exact ri_index (op_of (p := .indexAddr 23 (.tmp 66) (.tmp 67)) (by kernel_rfl) hio) (nw 66 0 (by kernel_rfl) (by decide) (by decide)) (nw 67 1 (by kernel_rfl) (by decide) (by decide)) hi Try.underlying23 (fun w => Try.sizeOf2 w) (by omega)
  · obtain ⟨o, ho, hop, hg, hdst⟩ := op_ex (ops := opsOf Try.f21 16) (i := 20) (p := .store 2 (.tmp 85) (.tmp 84)) (d := none) (by kernel_rfl)
    have hw0 := hw.2
    replace hw := hw.1
    have g1 := (op_store (P := Try.prog) (fn := 0) (k := ⟨fun _ => True, fun _ => True, fun _ => True⟩) (w := w) hop (nw 85 19 (by kernel_rfl) (by decide) (by decide)) (nw 84 18 (by kernel_rfl) (by decide) (by decide)) ⟨fun c h => (by cases h), fun c h => (by cases h)⟩ (fun w => Try.sizeOf2 w) (cof hw c1) (by simp only [World.frozen?, hw] at z1 ⊢; exact z1) trivial).1
    simp only [wpOps, ho, yld hg, if_true]
    refine .inl ?_
    unfold Oper.wp
    rw [g1, Oper.upon_skip, hdst, put_none]
    exact hQ w hw hw0
end Go.Proofs.Yticdjkkcfdbdcaa
