/- scan.Scan's region that lays what is ahead, alone. No conditions but those named. -/
import Derived.Test.YtnabgoljnfaebaaMScanA
import Derived.Test.YtnabgoljnfaebaaTop
namespace Go.Proofs.Ytnabgoljnfaebaa
open Go.Conc Go.ConcN Go.RowKit
set_option maxRecDepth 100000 in
theorem f5_r16 : drawOk (opsOf Try.f5 16) 14 = true := by kernel_rfl
theorem run_ld (w : World) (e : Operand → Value) (o : Oper) {t : TypeId} {x : Operand} {p : Addr} {v : Value} (hop : o.op = .load t x) (hx : e x = .pointer (some p)) (hag : ∀ w, (isAgg t).run Try.prog w = .ok false w) (hc : w.cell? p = some v) : (execOp e o).run Try.prog w = .ok (.value v) w := by
  simp [go_sem, hop, hx, hag, hc, execOp, Instr.loadAt]
def V16 (aL fL arL m k : Nat) (f : FuncId) (za lp r : Int) : Nat → Value := fun i => match i with
  | 0 => .slice (some ⟨arL, 0, none⟩) k k
  | 1 => .int .i64 m
  | 2 => .func (.func f) #[] #[]
  | 3 => .slice (some ⟨arL, 0, none⟩) k k
  | 4 => .int .i64 m
  | 5 => .int .i64 ((m : Int) - 1)
  | 6 => .pointer (some ⟨arL, m - 1, none⟩)
  | 7 => .int .i64 za
  | 8 => .slice (some ⟨arL, 0, none⟩) k k
  | 9 => .int .i64 m
  | 10 => .pointer (some ⟨arL, m, none⟩)
  | 11 => .int .i64 lp
  | 12 => .int .i64 r
  | 13 => .pointer (some ⟨arL, m, none⟩)
  | _ => undef
set_option maxRecDepth 100000 in
theorem r16_wp {ops : Array Oper} (hops : ops = opsOf Try.f5 16) {a : Act} {W1 : World} {aL fL arL m k : Nat} {f : FuncId} {za lp r : Int} (hz : a.tmps.size = 75) (t12 : a.eval (.tmp 12) = .pointer (some ⟨aL, 0, none⟩)) (t8 : a.eval (.tmp 8) = .pointer (some ⟨fL, 0, none⟩)) (t13 : a.eval (.tmp 13) = .int .i64 m)
    (hm1 : 1 ≤ m) (hm : m < k) (hk : k ≤ 16) (c1 : W1.cell? ⟨arL, m, none⟩ = some (.int .i64 lp)) (c2 : W1.cell? ⟨aL, 0, none⟩ = some (.slice (some ⟨arL, 0, none⟩) k k)) (c3 : W1.cell? ⟨fL, 0, none⟩ = some (.func (.func f) #[] #[])) (c4 : W1.cell? ⟨arL, m - 1, none⟩ = some (.int .i64 za)) (fz : W1.frozen? ⟨arL, m, none⟩ = false)
    (hf : ∃ g, Try.prog.funcs[f]? = some g ∧ (g.name == "runtime.NumGoroutine") = false ∧ g.body.isNone = false) (hC : ∀ W, Calls Try.prog f #[.int .i64 za, .int .i64 lp] W fun e w' => e = .returned (.int .i64 r) ∧ W = w') {Q : Exit → Act → World → Prop} {id : Nat}
    (hQ : ∀ w' : World, w'.heap = W1.heap → Q .normal (putsV ops (V16 aL fL arL m k f za lp r) (List.range 14) a) (w'.setCell ⟨arL, m, none⟩ (.int .i64 r))) : (Code.region id ops true).wp Try.prog Q a W1 := by
  subst hops
  have hdd := drawOk_d f5_r16
  have nw : ∀ t j, prodOf (opsOf Try.f5 16) t = some j → j < 14 → t < 75 → (putsV (opsOf Try.f5 16) (V16 aL fL arL m k f za lp r) (List.range 14) a).eval (.tmp t) = V16 aL fL arL m k f za lp r j := fun t j h1 h2 h3 => puts_new hdd h1 h2 (by rw [hz]; exact h3)
  have od : ∀ t, prodOf (opsOf Try.f5 16) t = none → (putsV (opsOf Try.f5 16) (V16 aL fL arL m k f za lp r) (List.range 14) a).eval (.tmp t) = a.eval (.tmp t) := fun t h1 => puts_old hdd h1
  have o12 := (od 12 (by kernel_rfl)).trans t12
  have o8 := (od 8 (by kernel_rfl)).trans t8
  have o13 := (od 13 (by kernel_rfl)).trans t13
  have e0 : (putsV (opsOf Try.f5 16) (V16 aL fL arL m k f za lp r) (List.range 14) a).eval (.tmp 57) = .slice (some ⟨arL, 0, none⟩) k k := nw 57 0 (by kernel_rfl) (by decide) (by decide)
  have e1 : (putsV (opsOf Try.f5 16) (V16 aL fL arL m k f za lp r) (List.range 14) a).eval (.tmp 58) = .int .i64 m := nw 58 1 (by kernel_rfl) (by decide) (by decide)
  have e2 : (putsV (opsOf Try.f5 16) (V16 aL fL arL m k f za lp r) (List.range 14) a).eval (.tmp 59) = .func (.func f) #[] #[] := nw 59 2 (by kernel_rfl) (by decide) (by decide)
  have e3 : (putsV (opsOf Try.f5 16) (V16 aL fL arL m k f za lp r) (List.range 14) a).eval (.tmp 60) = .slice (some ⟨arL, 0, none⟩) k k := nw 60 3 (by kernel_rfl) (by decide) (by decide)
  have e4 : (putsV (opsOf Try.f5 16) (V16 aL fL arL m k f za lp r) (List.range 14) a).eval (.tmp 61) = .int .i64 m := nw 61 4 (by kernel_rfl) (by decide) (by decide)
  have e5 : (putsV (opsOf Try.f5 16) (V16 aL fL arL m k f za lp r) (List.range 14) a).eval (.tmp 62) = .int .i64 ((m : Int) - 1) := nw 62 5 (by kernel_rfl) (by decide) (by decide)
  have e6 : (putsV (opsOf Try.f5 16) (V16 aL fL arL m k f za lp r) (List.range 14) a).eval (.tmp 63) = .pointer (some ⟨arL, m - 1, none⟩) := nw 63 6 (by kernel_rfl) (by decide) (by decide)
  have e7 : (putsV (opsOf Try.f5 16) (V16 aL fL arL m k f za lp r) (List.range 14) a).eval (.tmp 64) = .int .i64 za := nw 64 7 (by kernel_rfl) (by decide) (by decide)
  have e8 : (putsV (opsOf Try.f5 16) (V16 aL fL arL m k f za lp r) (List.range 14) a).eval (.tmp 65) = .slice (some ⟨arL, 0, none⟩) k k := nw 65 8 (by kernel_rfl) (by decide) (by decide)
  have e9 : (putsV (opsOf Try.f5 16) (V16 aL fL arL m k f za lp r) (List.range 14) a).eval (.tmp 66) = .int .i64 m := nw 66 9 (by kernel_rfl) (by decide) (by decide)
  have e10 : (putsV (opsOf Try.f5 16) (V16 aL fL arL m k f za lp r) (List.range 14) a).eval (.tmp 67) = .pointer (some ⟨arL, m, none⟩) := nw 67 10 (by kernel_rfl) (by decide) (by decide)
  have e11 : (putsV (opsOf Try.f5 16) (V16 aL fL arL m k f za lp r) (List.range 14) a).eval (.tmp 68) = .int .i64 lp := nw 68 11 (by kernel_rfl) (by decide) (by decide)
  have e12 : (putsV (opsOf Try.f5 16) (V16 aL fL arL m k f za lp r) (List.range 14) a).eval (.tmp 69) = .int .i64 r := nw 69 12 (by kernel_rfl) (by decide) (by decide)
  have e13 : (putsV (opsOf Try.f5 16) (V16 aL fL arL m k f za lp r) (List.range 14) a).eval (.tmp 70) = .pointer (some ⟨arL, m, none⟩) := nw 70 13 (by kernel_rfl) (by decide) (by decide)
  have hsz : (opsOf Try.f5 16).size = 15 := by kernel_rfl
  have hadd : ∀ n : Nat, (⟨arL, 0, none⟩ : Addr).add n = ⟨arL, n, none⟩ := fun n => by unfold Addr.add; split <;> simp_all
  have wsub : IntKind.i64.wrap ((m : Int) - 1) = (m : Int) - 1 := wrapI (by unfold I64; omega)
  have cof : ∀ {w : World} {p : Addr} {v : Value}, w.heap = W1.heap → W1.cell? p = some v → w.cell? p = some v := fun e h => by rw [← h]; simp only [World.cell?, e]
  refine wp_drawn mixed_orders f5_r16 (fun w => w.heap = W1.heap) (fun w d h => h) (V16 aL fL arL m k f za lp r) (fun i o hio him => ?_) (fun w hw => ?_) rfl
  · have hi15 : i < 15 := by have := (Array.getElem?_eq_some_iff.1 hio).1; omega
    obtain rfl | rfl | rfl | rfl | rfl | rfl | rfl | rfl | rfl | rfl | rfl | rfl | rfl | rfl : i = 0 ∨ i = 1 ∨ i = 2 ∨ i = 3 ∨ i = 4 ∨ i = 5 ∨ i = 6 ∨ i = 7 ∨ i = 8 ∨ i = 9 ∨ i = 10 ∨ i = 11 ∨ i = 12 ∨ i = 13 := by omega
    · exact .inl fun w hw => run_ld w _ _ (op_of (p := .load 22 (.tmp 12)) (by kernel_rfl) hio) o12 (fun w => Try.isAgg22 w) (cof hw c2)
    · refine .inl fun w hw => ?_
      have := (opv_move (P := Try.prog) (fn := 0) (e := (putsV (opsOf Try.f5 16) (V16 aL fL arL m k f za lp r) (List.range 14) a).eval) (k := LK.none) (w := w) (x := .tmp 13) (.inl (op_of (p := .move (.tmp 13)) (by kernel_rfl) hio))).1
      rw [o13] at this; exact this
    · exact .inl fun w hw => run_ld w _ _ (op_of (p := .load 31 (.tmp 8)) (by kernel_rfl) hio) o8 (fun w => Try.isAgg31 w) (cof hw c3)
    · exact .inl fun w hw => run_ld w _ _ (op_of (p := .load 22 (.tmp 12)) (by kernel_rfl) hio) o12 (fun w => Try.isAgg22 w) (cof hw c2)
    · refine .inl fun w hw => ?_
      have := (opv_move (P := Try.prog) (fn := 0) (e := (putsV (opsOf Try.f5 16) (V16 aL fL arL m k f za lp r) (List.range 14) a).eval) (k := LK.none) (w := w) (x := .tmp 13) (.inl (op_of (p := .move (.tmp 13)) (by kernel_rfl) hio))).1
      rw [o13] at this; exact this
    · refine .inl fun w hw => ?_
      have := (opv_sub (P := Try.prog) (fn := 0) (k := LK.none) (w := w) (op_of (p := .binOp .sub 3 (.tmp 61) (.const (.int .i64 1)) 3) (by kernel_rfl) hio) e4 rfl under_int).1
      rw [wsub] at this; exact this
    · refine .inl fun w hw => ?_
      have := (opv_index (P := Try.prog) (fn := 0) (k := LK.none) (w := w) (op_of (p := .indexAddr 22 (.tmp 60) (.tmp 62)) (by kernel_rfl) hio) e3 e5 (by omega) (by omega) under_ints (fun w => Try.sizeOf2 w)).1
      have e : ((m : Int) - 1).toNat * 1 = m - 1 := by omega
      rw [e, hadd] at this; exact this
    · exact .inl fun w hw => run_ld w _ _ (op_of (p := .load 2 (.tmp 63)) (by kernel_rfl) hio) e6 (fun w => Try.isAgg2 w) (cof hw c4)
    · exact .inl fun w hw => run_ld w _ _ (op_of (p := .load 22 (.tmp 12)) (by kernel_rfl) hio) o12 (fun w => Try.isAgg22 w) (cof hw c2)
    · refine .inl fun w hw => ?_
      have := (opv_move (P := Try.prog) (fn := 0) (e := (putsV (opsOf Try.f5 16) (V16 aL fL arL m k f za lp r) (List.range 14) a).eval) (k := LK.none) (w := w) (x := .tmp 13) (.inl (op_of (p := .move (.tmp 13)) (by kernel_rfl) hio))).1
      rw [o13] at this; exact this
    · refine .inl fun w hw => ?_
      have := (opv_index (P := Try.prog) (fn := 0) (k := LK.none) (w := w) (op_of (p := .indexAddr 22 (.tmp 65) (.tmp 66)) (by kernel_rfl) hio) e8 e9 (by omega) (by omega) under_ints (fun w => Try.sizeOf2 w)).1
      have e : ((m : Nat) : Int).toNat * 1 = m := by omega
      rw [e, hadd] at this; exact this
    · exact .inl fun w hw => run_ld w _ _ (op_of (p := .load 2 (.tmp 67)) (by kernel_rfl) hio) e10 (fun w => Try.isAgg2 w) (cof hw c1)
    · refine .inr ⟨f, #[.int .i64 za, .int .i64 lp], fun w => ?_, fun w hw => (hC w).mono ?_⟩
      · have := (op_call (P := Try.prog) (op_of (p := .call { callee := .value (.tmp 59), args := #[.tmp 64, .tmp 68], argTypes := #[2, 2] }) (by kernel_rfl) hio) e2 hf w).1
        simpa [e7, e11] using this
      · rintro e w' ⟨rfl, rfl⟩; exact ⟨rfl, hw⟩
    · refine .inl fun w hw => ?_
      have := (opv_index (P := Try.prog) (fn := 0) (k := LK.none) (w := w) (op_of (p := .indexAddr 22 (.tmp 57) (.tmp 58)) (by kernel_rfl) hio) e0 e1 (by omega) (by omega) under_ints (fun w => Try.sizeOf2 w)).1
      have e : ((m : Nat) : Int).toNat * 1 = m := by omega
      rw [e, hadd] at this; exact this
  · obtain ⟨o, ho14, hop, hg, hdst⟩ := op_ex (ops := opsOf Try.f5 16) (i := 14) (p := .store 2 (.tmp 70) (.tmp 69)) (d := none) (by kernel_rfl)
    have g1 := (op_store (P := Try.prog) (fn := 0) (k := ⟨fun _ => True, fun _ => True, fun _ => True⟩) (w := w) hop e13 e12 ⟨fun c h => (by cases h), fun c h => (by cases h)⟩ (fun w => Try.sizeOf2 w) (cof hw c1) (by simp only [World.frozen?, hw] at fz ⊢; exact fz) trivial).1
    simp only [wpOps, ho14, yld hg, if_true]
    refine .inl ?_
    unfold Oper.wp
    rw [g1, Oper.upon_skip, hdst, put_none]
    exact hQ w hw
end Go.Proofs.Ytnabgoljnfaebaa
