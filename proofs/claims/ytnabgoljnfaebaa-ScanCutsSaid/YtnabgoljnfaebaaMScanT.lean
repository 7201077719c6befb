/- scan.Scan in company, told of the lone world: from the second call of side on. No conditions but those named. -/
import Derived.Test.YtnabgoljnfaebaaMScanR
namespace Go.Proofs.Ytnabgoljnfaebaa
open Go.Conc Go.ConcN Go.RowKit Go.ChangeShapes Go.WideShapes Go.ChangeAt
set_option maxRecDepth 100000 in
theorem res_5 : ResFn Try.prog 5 := resB_ok Try.func5 (by kernel_rfl)
theorem run_store1 {w : World} {p : Addr} {v u : Value} (h1 : ∀ c, v ≠ .agg c) (h2 : ∀ c, v ≠ .tuple c) (hc : w.cell? p = some u) (hz : w.frozen? p = false) : (store p v : Sem Unit).run Try.prog w = .ok () (w.setCell p v) := by
  have hst : (store p v : Sem Unit).runT Try.prog w #[] = (.ok () (w.setCell p v), #[⟨.cell p, true, false⟩]) := by
    show (Sem.store .plain p v (.pure ())).runT Try.prog w #[] = _
    rw [runT_store h1 h2, hc, hz]
    simp [Sem.runT, -Sem.runT_eq]
  rw [Sem.runT_eq] at hst
  exact (Prod.mk.inj hst).1
theorem run_as (e : Operand → Value) (o : Oper) {x : Operand} (hop : o.op = .assign x) (w : World) : (execOp e o).runT Try.prog w #[] = (.ok (.value (e x)) w, #[]) := by simp [go_sem, hop, execOp]
theorem pack_two {fn : Func} {i j : Tmp} (h : fn.results = #[.tmp i, .tmp j]) (T : Array Value) : pack (resVals fn T) = .tuple #[T.getD i undef, T.getD j undef] := by
  simp [resVals, h, pack]
theorem results_5 : Try.f5.results = #[.tmp 6, .tmp 7] := by kernel_rfl
theorem eq_nilF (W : World) : (binOp .eql 31 Value.nilFunc Value.nilFunc).run Try.prog W = .ok (.bool true) W := by kernel_rfl
theorem eq_nilG (f : FuncId) (W : World) : (binOp .eql 31 (.func (.func f) #[] #[]) Value.nilFunc).run Try.prog W = .ok (.bool false) W := by kernel_rfl
theorem run_store_sl {w : World} {p : Addr} {q : Option Addr} {n c : Nat} {u : Value} (hc : w.cell? p = some u) (hz : w.frozen? p = false) : (store p (.slice q n c) : Sem Unit).run Try.prog w = .ok () (w.setCell p (.slice q n c)) := run_store1 (fun c h => by cases h) (fun c h => by cases h) hc hz
section
variable {Post : Value → World → Prop} {n0 : Nat} {W0 : World}
/-- What Scan answers, told of the lone world. -/
def ScanPM (op wk : Int) (xs : List Int) (L : World) (v : Value) (L1 : World) : Prop :=
  (ScanOk op xs wk → ∃ u, v = .tuple #[u, .int .i64 0] ∧ L1.ownsRow L.heap.size 2 1 u xs.length (ints (scanI op xs))) ∧
  (¬ ScanOk op xs wk → v = .tuple #[.slice none 0 0, .int .i64 (if (1 ≤ op ∧ op ≤ 4) ∧ (1 ≤ wk ∧ wk ≤ 16) then 2 else 1)]) ∧ ∀ b, b < L.heap.size → L1.heap[b]? = L.heap[b]?
set_option maxRecDepth 100000 in
theorem scan_tail {op : Int} {xs : List Int} {L L' : World} {xL cL arL aL cc k kn : Nat} {p : Option Addr} (h1 : 1 ≤ op ∧ op ≤ 4) (h2 : 1 ≤ kn ∧ kn ≤ 16) (h3 : xs.length ≤ 100000) (hk : kOf xs.length kn = k) (hx : ∀ x ∈ xs, I64 x)
    {ops17 ops18 : Array Oper} (h17 : ops17 = opsOf Try.f5 17) (h18 : ops18 = opsOf Try.f5 18) {a : Act} (hz : a.tmps.size = 75) (hd : a.defers = []) (t8 : a.eval (.tmp 8) = .pointer (some ⟨L.heap.size, 0, none⟩)) (t10 : a.eval (.tmp 10) = .pointer (some ⟨xL, 0, none⟩)) (t11 : a.eval (.tmp 11) = .slice (some ⟨cL, 0, none⟩) (k + 1) (k + 1)) (t12 : a.eval (.tmp 12) = .pointer (some ⟨aL, 0, none⟩))
    (hS : Sc11 op (ys1 op xs k) k (aheadTo op xs k k) L L' xL cL arL aL p cc) {i17 i18 : Nat} :
    Mp (InL scanL) Try.prog (fun k g w => Win Try.prog Post n0 W0 k g w) 5 (.seq (.region i17 ops17 false) (.seq (.region i18 ops18 false) .ret)) false (fun e a1 L1 => (e = .normal ∨ e = .ret) ∧ ScanPM op kn xs L (pack (resVals Try.f5 a1.tmps)) L1) a L' := by
  subst h17 h18
  have hJ : JOk Try.prog true _ (fun k g w => Win Try.prog Post n0 W0 k g w) := win_jok (P := Try.prog) (Post := Post) (n0 := n0) (W0 := W0)
  obtain ⟨hk0, hk16, hkn⟩ := k_bd hk h2
  have hyl := ys1_length op xs hk0
  refine Mp.seq hJ (Mp.region hJ ?_)
  rw [show List.range (opsOf Try.f5 17).size = [0, 1, 2] by kernel_rfl]
  obtain ⟨o0, ho0, hop0, hg0, hd0⟩ := op_ex (ops := opsOf Try.f5 17) (i := 0) (p := .move (.tmp 11)) (d := some 71) (by kernel_rfl)
  refine MpOps.val hJ scan_ok.bodies ho0 (yld hg0 _) (by rw [hop0]; exact okOpB_ok (by kernel_rfl)) (fun w => run_mv _ _ hop0 w) ?_
  rw [hd0, t11]
  obtain ⟨o1, ho1, hop1, hg1, hd1⟩ := op_ex (ops := opsOf Try.f5 17) (i := 1) (p := .makeFunc (.func 17) #[] #[.tmp 8, .tmp 12, .tmp 10]) (d := some 72) (by kernel_rfl)
  refine MpOps.val hJ scan_ok.bodies ho1 (yld hg1 _) (by rw [hop1]; exact okOpB_ok (by kernel_rfl)) (fun w => run_mk3 _ _ hop1 w) ?_
  rw [hd1, (eval_put_ne a (d := 71) (t := 8) (by decide) _).trans t8, (eval_put_ne a (d := 71) (t := 12) (by decide) _).trans t12, (eval_put_ne a (d := 71) (t := 10) (by decide) _).trans t10]
  obtain ⟨o2, ho2, hop2, hg2, hd2⟩ := op_ex (ops := opsOf Try.f5 17) (i := 2) (p := .call { callee := .value (.func 15), args := #[.tmp 71, .tmp 72], argTypes := #[36, 39] }) (d := some 73) (by kernel_rfl)
  obtain ⟨obL, t, rst, hrow⟩ := hS.s.row
  have hcr := hS.cr
  have hra := hS.ra
  have hhi := hrow.high
  have hsl : (scanI op xs).length = xs.length := scanI_length op xs
  have z1 : (a.put (some 71) (.slice (some ⟨cL, 0, none⟩) (k + 1) (k + 1))).tmps.size = 75 := (put_size _ _ _).trans hz
  have q71 : ((a.put (some 71) (.slice (some ⟨cL, 0, none⟩) (k + 1) (k + 1))).put (some 72) (.func (.func 17) #[] #[.pointer (some ⟨L.heap.size, 0, none⟩), .pointer (some ⟨aL, 0, none⟩), .pointer (some ⟨xL, 0, none⟩)])).eval (.tmp 71) = .slice (some ⟨cL, 0, none⟩) (k + 1) (k + 1) := (eval_put_ne _ (by decide) _).trans (eval_put_eq _ (by rw [hz]; decide) _)
  have q72 : ((a.put (some 71) (.slice (some ⟨cL, 0, none⟩) (k + 1) (k + 1))).put (some 72) (.func (.func 17) #[] #[.pointer (some ⟨L.heap.size, 0, none⟩), .pointer (some ⟨aL, 0, none⟩), .pointer (some ⟨xL, 0, none⟩)])).eval (.tmp 72) = .func (.func 17) #[] #[.pointer (some ⟨L.heap.size, 0, none⟩), .pointer (some ⟨aL, 0, none⟩), .pointer (some ⟨xL, 0, none⟩)] := eval_put_eq _ (by rw [z1]; decide) _
  have q10 : ((a.put (some 71) (.slice (some ⟨cL, 0, none⟩) (k + 1) (k + 1))).put (some 72) (.func (.func 17) #[] #[.pointer (some ⟨L.heap.size, 0, none⟩), .pointer (some ⟨aL, 0, none⟩), .pointer (some ⟨xL, 0, none⟩)])).eval (.tmp 10) = .pointer (some ⟨xL, 0, none⟩) := (eval_put_ne _ (by decide) _).trans ((eval_put_ne _ (by decide) _).trans t10)
  have z2 : ((a.put (some 71) (.slice (some ⟨cL, 0, none⟩) (k + 1) (k + 1))).put (some 72) (.func (.func 17) #[] #[.pointer (some ⟨L.heap.size, 0, none⟩), .pointer (some ⟨aL, 0, none⟩), .pointer (some ⟨xL, 0, none⟩)])).tmps.size = 75 := (put_size _ _ _).trans z1
  generalize (a.put (some 71) (.slice (some ⟨cL, 0, none⟩) (k + 1) (k + 1))).put (some 72) _ = a2 at q71 q72 q10 z2
  have hcl := sideOk2 (L := L') h1 (ys1_i64 op xs k hx) (aheadTo_i64 (op := op) hx k k) hrow.t (cuts := cutAt xs.length k) (m := k) (by rw [hyl, cut_end _ hk0]) (by omega) hk16 (aheadTo_length op xs k k) (fun j _ => cut_mono _ _ j) hS.s.s.f hS.s.s.x hrow.p hS.a hS.r hrow.b (.inl hrow.nf) hrow.nx (.inl (by omega)) (.inl (by omega)) (ys := scanI op xs) (fun j hj i h => ys2_get hk0 hkn j hj i h)
  refine m_side (obL := obL) (p := 71) (q := 72) (d := 73) (m := k) (cuts := cutAt xs.length k) (x1 := (ints (scanI op xs) ++ rst).toArray) (cf := 17) (crL := cL) (cc := k + 1)
    ho2 hg2 hd2 hop2 q71 q72 hk16 ⟨_, Try.func17, by kernel_rfl, by kernel_rfl⟩ (fun j _ => cut_mono _ _ j) (cut_zero _ _) hS.s.c info_int (fun j hj => ?_) hrow.b hrow.t (fun i _ => by simp) (by rw [cut_end _ hk0]; simp [hyl]) hrow.nc (fun ρ k W a' hm ha => hrow.ren ρ k W hm ?_) (by simp [hyl, hsl]) (fun i hi => ints_get_out (by rw [hsl, hyl]) (by rw [hyl]; rw [cut_end _ hk0] at hi; exact hi)) hcl ?_
  · rw [hyl]
    simp only [List.getElem?_toArray, ints, List.getElem?_map, cutRow_get (show j < k + 1 by omega), if_pos (show j < k + 1 by omega), Option.map_some]
  · have h10 := ha.eval.1 (.tmp 10) trivial
    rw [q10] at h10
    obtain ⟨c, s, h11, _⟩ := ptr_ren h10
    exact ⟨_, h11⟩
  refine MpOps.nil hJ ?_
  have h9 := hS.s.rerow hrow (ys := scanI op xs) (by rw [hsl, hyl])
  generalize reRow L' obL _ t (0, 0) = L10 at h9
  show Mp _ _ _ _ _ _ _ _ _
  have q10' := (eval_put_ne a2 (d := 73) (t := 10) (by decide) (.tuple #[])).trans q10
  have z3 : (a2.put (some 73) (.tuple #[])).tmps.size = 75 := (put_size _ _ _).trans z2
  generalize a2.put (some 73) (.tuple #[]) = a3 at q10' z3
  refine Mp.seq hJ (Mp.region hJ ?_)
  rw [show List.range (opsOf Try.f5 18).size = [0, 1, 2] by kernel_rfl]
  obtain ⟨o3, ho3, hop3, hg3, hd3⟩ := op_ex (ops := opsOf Try.f5 18) (i := 0) (p := .load 22 (.tmp 10)) (d := some 74) (by kernel_rfl)
  have hcell := h9.s.x.cell 0
  simp only [List.getElem?_cons_zero] at hcell
  refine MpOps.op hJ scan_ok.bodies ho3 (yld hg3 _) (by rw [hop3]; exact okOpB_ok (by kernel_rfl)) fun T => ⟨{ L10 with tape := T }, .inl ⟨_, run_ld _ _ _ hop3 q10' (fun w => Try.isAgg22 w) hcell, MpOps.tape (L := L10) rfl ?_⟩⟩
  rw [hd3]
  obtain ⟨o4, ho4, hop4, hg4, hd4⟩ := op_ex (ops := opsOf Try.f5 18) (i := 1) (p := .assign (.tmp 74)) (d := some 6) (by kernel_rfl)
  refine MpOps.val hJ scan_ok.bodies ho4 (yld hg4 _) (by rw [hop4]; exact okOpB_ok (by kernel_rfl)) (fun w => run_as _ _ hop4 w) ?_
  rw [hd4, eval_put_eq a3 (by rw [z3]; decide)]
  have z4 : (a3.put (some 74) (.slice p (scanI op xs).length cc)).tmps.size = 75 := (put_size _ _ _).trans z3
  generalize a3.put (some 74) (.slice p (scanI op xs).length cc) = a4 at z4
  obtain ⟨o5, ho5, hop5, hg5, hd5⟩ := op_ex (ops := opsOf Try.f5 18) (i := 2) (p := .assign (.const (.int .i64 0))) (d := some 7) (by kernel_rfl)
  refine MpOps.val hJ scan_ok.bodies ho5 (yld hg5 _) (by rw [hop5]; exact okOpB_ok (by kernel_rfl)) (fun w => run_as _ _ hop5 w) ?_
  rw [hd5]
  refine MpOps.nil hJ ?_
  show Mp _ _ _ _ _ _ _ _ _
  have r6 : ((a4.put (some 6) (.slice p (scanI op xs).length cc)).put (some 7) (.int .i64 0)).eval (.tmp 6) = .slice p (scanI op xs).length cc := (eval_put_ne _ (by decide) _).trans (eval_put_eq _ (by rw [z4]; decide) _)
  have r7 : ((a4.put (some 6) (.slice p (scanI op xs).length cc)).put (some 7) (.int .i64 0)).eval (.tmp 7) = .int .i64 0 := eval_put_eq _ (by rw [put_size, z4]; decide) _
  rw [show (a4.put (some 6) (.slice p (scanI op xs).length cc)).eval (.const (.int .i64 0)) = .int .i64 0 from rfl]
  generalize (a4.put (some 6) (.slice p (scanI op xs).length cc)).put (some 7) (.int .i64 0) = a5 at r6 r7 ⊢
  refine Mp.ret hJ ⟨.inr rfl, fun _ => ?_, fun h => absurd ⟨h1, by omega, h3⟩ h, h9.s.keeps.2⟩
  refine ⟨.slice p (scanI op xs).length cc, ?_, ?_⟩
  · rw [pack_two results_5]
    show Value.tuple #[a5.eval (.tmp 6), a5.eval (.tmp 7)] = _
    rw [r6, r7]
  · have := own_base h9.s.own (b := L.heap.size) (by omega)
    rw [hsl] at this ⊢
    exact this
end
end Go.Proofs.Ytnabgoljnfaebaa
