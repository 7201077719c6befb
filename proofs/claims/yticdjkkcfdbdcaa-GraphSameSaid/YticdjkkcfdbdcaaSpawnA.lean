/- 'for range m { group.Add(1); go f() }; group.Wait()': goroutine 0's part, whatever the temporaries' numbers. No conditions but those named. -/
import Derived.Test.YticdjkkcfdbdcaaQueue
import Derived.Test.YticdjkkcfdbdcaaWgD
import Derived.Test.YticdjkkcfdbdcaaDrawE
import Derived.Conc.DeferLaws
import Derived.Conc.Own2
import Derived.KernelRfl
namespace Go.Proofs.Yticdjkkcfdbdcaa
open Go.Conc Go.ConcN Go.RowKit
theorem sp_under_int : Try.prog.underlying 3 = some (.int .i64) := by kernel_rfl
/-- What stands below a goroutine's first call. -/
def bornBelow (P : Program) : Frame := { (default : Frame) with fn := P.funcs.size, defers := [], mode := .panicking [goexitEntry] }
theorem stepG_first {P : Program} {main : Bool} {f : FuncId} {fn : Func} {c : Code} {args cap : Array Value} (hf : P.funcs[f]? = some fn) (hname : (fn.name == "runtime.NumGoroutine") = false) (hb : fn.body = some c) (w : World) :
    stepG P main (born P { target := .fn (.func f) cap, args := args }) w = .go (G (Frame.enter P f (args ++ cap) .deferred) [bornBelow P]) w #[] := by
  have h1 : ¬ fn.name = "runtime.NumGoroutine" := by simpa using hname
  simp [G, born, stepG, unwind, callDeferred, invoke, callFunc, hf, h1, hb, GStep.after, seen_none, bornBelow]
/-- One operation of a text: its number, what it is, where its value goes. -/
def OpIs (ops : Array Oper) (i : Nat) (p : Op) (d : Option Tmp) : Prop := ∃ o, ops[i]? = some o ∧ o.op = p ∧ o.guard = none ∧ o.dst = d
/-- The loop's text. -/
structure SpawnT (cf : FuncId) (rT rA rG rI rW : Array Oper) (g lim cnt tst da mk inc dw : Tmp) (caps : Array Operand) : Prop where
  zT : rT.size = 1
  T : OpIs rT 0 (.binOp .lss 3 (.tmp cnt) (.tmp lim) 3) (some tst)
  zA : rA.size = 1
  A : OpIs rA 0 (.call { callee := .value (.func 48), args := #[.tmp g, .const (.int .i64 1)], argTypes := #[114, 3] }) (some da)
  zG : rG.size = 2
  G0 : OpIs rG 0 (.makeFunc (.func cf) #[] caps) (some mk)
  G1 : OpIs rG 1 (.go { callee := .value (.tmp mk), args := #[], argTypes := #[] }) none
  zI : rI.size = 2
  I0 : OpIs rI 0 (.binOp .add 3 (.tmp cnt) (.const (.int .i64 1)) 3) (some inc)
  I1 : OpIs rI 1 (.move (.tmp inc)) (some cnt)
  zW : rW.size = 1
  W0 : OpIs rW 0 (.call { callee := .value (.func 52), args := #[.tmp g], argTypes := #[114] }) (some dw)
/-- The loop's body. -/
def spawnC (iT iA iG iI b1 e : Nat) (rT rA rG rI : Array Oper) (tst : Tmp) : Code :=
  .seq (.region iT rT false) (.seq (.cond (.tmp tst) .skip (.exit e)) (.seq (.block b1 (.seq (.region iA rA false) (.region iG rG false))) (.region iI rI false)))
/-- What the loop's own temporaries hold. -/
def ScrV (cf : FuncId) (vcap : Array Value) (v : Value) : Prop := (∃ b, v = .bool b) ∨ (∃ n, v = .int .i64 n) ∨ v = .tuple #[] ∨ v = .func (.func cf) #[] vcap
/-- Goroutine 0's temporaries: all but the loop's own as they were. -/
structure SA (cf : FuncId) (vcap : Array Value) (nt : Nat) (scr : List Tmp) (cnt : Tmp) (a0 : Act) (i : Nat) (a : Act) : Prop where
  size : a.tmps.size = nt
  d : a.defers = []
  cnt : a.eval (.tmp cnt) = .int .i64 i
  old : ∀ t, t ∉ scr → a.eval (.tmp t) = a0.eval (.tmp t)
  new : ∀ t, a.eval (.tmp t) = a0.eval (.tmp t) ∨ ScrV cf vcap (a.eval (.tmp t))
theorem SA.put {cf : FuncId} {vcap : Array Value} {nt : Nat} {scr : List Tmp} {cnt : Tmp} {a0 a : Act} {i : Nat} (h : SA cf vcap nt scr cnt a0 i a) {d : Nat} (hd : d ∈ scr) (hc : d ≠ cnt) {v : Value} (hv : ScrV cf vcap v) : SA cf vcap nt scr cnt a0 i (a.put (some d) v) :=
  ⟨(put_size _ _ _).trans h.size, h.d, (eval_put_ne _ hc _).trans h.cnt, fun t ht => (eval_put_ne _ (fun e => ht (by rw [← e]; exact hd)) _).trans (h.old t ht), fun t => by
    by_cases e : d = t
    · subst e
      by_cases hs : d < a.tmps.size
      · rw [eval_put_eq _ hs]; exact .inr hv
      · have := h.new d
        rw [show (a.put (some d) v).eval (.tmp d) = a.eval (.tmp d) by simp only [Act.put, Act.eval, Array.setIfInBounds, dif_neg hs]]
        exact this
    · rw [eval_put_ne _ e]; exact h.new t⟩
theorem sp_mk (e : Operand → Value) (o : Oper) {cf : FuncId} {caps : Array Operand} (hop : o.op = .makeFunc (.func cf) #[] caps) (w : World) : (execOp e o).runT Try.prog w #[] = (.ok (.value (.func (.func cf) #[] (caps.map e))) w, #[]) := by simp [go_sem, hop, execOp, Instr.makeFunc]
theorem sp_go0 (e : Operand → Value) (o : Oper) {x : Operand} {f : FuncId} {cap : Array Value} (hop : o.op = .go { callee := .value x, args := #[], argTypes := #[] }) (hx : e x = .func (.func f) #[] cap) (w : World) : (execOp e o).runT Try.prog w #[] = (.ok (.spawn { target := .fn (.func f) cap, args := #[] }) w, #[]) := by simp [go_sem, hop, hx, execOp]
end Go.Proofs.Yticdjkkcfdbdcaa

/- 'for range m { group.Add(1); go f() }; group.Wait()': goroutine 0's part, where more than the group is shared (At). No conditions but those named. -/
namespace Go.Proofs.Yticdjkkcfdbdcaa
open Go.Conc Go.ConcN Go.RowKit
/-- Its licence, i workers started: what the others are to have; what all read; what all touch atomically. -/
def KSpA (Ow : Nat → Loc → Prop) (R0 At : Loc → Prop) (m i : Nat) : LK := ⟨fun l => ∃ j, i ≤ j ∧ j < m ∧ Ow j l, R0, At⟩
/-- Whose is what. -/
structure SplA (Ow : Nat → Loc → Prop) (R0 At : Loc → Prop) (m : Nat) (w1 : World) : Prop where
  ow : ∀ j l, j < m → Ow j l → MemLoc w1.heap.size l ∧ ¬ R0 l ∧ ¬ At l
  r0 : ∀ l, R0 l → MemLoc w1.heap.size l ∧ ¬ At l
  dis : ∀ i j, i < m → j < m → i ≠ j → ∀ l, Ow i l → ¬ Ow j l
section
variable {fm : Fam} {w1 : World} {m0 p0 m wg : Nat} {Shun : Loc → Prop} {Anc : Goroutine → World → Prop} {Ow : Nat → Loc → Prop} {R0 At : Loc → Prop} {cf : FuncId} {rT rA rG rI rW : Array Oper} {g lim cnt tst da mk inc dw : Tmp} {caps : Array Operand} {vcap : Array Value} {nt : Nat} {a0 : Act} {iT iA iG iI iW b1 ex : Nat} {rest : Code} {b : Frame} {K0 : List Item} {cs : List Frame} {x0 : fm.τ}
/-- ████ THE LOOP AND THE WAIT. ████ -/
theorem spawn_loopA (ok : fm.Ok wg) (hAt : ∀ l, WgLoc wg l → At l) (hb : b.kind ≠ .early) (hm : m ≤ 16) (T : SpawnT cf rT rA rG rI rW g lim cnt tst da mk inc dw caps) (hS0 : SplA Ow R0 At m w1)
    (hscr : ∀ scr, scr = [tst, da, mk, inc, cnt, dw] → g ∉ scr ∧ lim ∉ scr ∧ (∀ t, .tmp t ∈ caps → t ∉ scr) ∧ tst ≠ cnt ∧ da ≠ cnt ∧ mk ≠ cnt ∧ inc ≠ cnt ∧ dw ≠ cnt ∧ tst < nt ∧ mk < nt ∧ inc < nt ∧ cnt < nt) (hcaps : ∀ x ∈ caps, ∃ t, x = .tmp t) (hcapv : caps.map a0.eval = vcap)
    (hg : a0.eval (.tmp g) = .pointer (some ⟨wg, 0, none⟩)) (hl : a0.eval (.tmp lim) = .int .i64 m)
    (hG0 : ∀ i n T K w t a b, i < m → fm.G n T K w t → Lic n K w t → 0 < n → m0 ≤ n → K 0 = KSpA Ow R0 At m i → T 0 = none → Deaf t 0 = 0 → (a : MemOp).g = 0 ∧ a.act = .go n → (b : MemOp).g = n ∧ b.act = .start → fm.G (n + 1) (upd T n (some x0)) (upd (upd K 0 (KSpA Ow R0 At m (i + 1))) n ⟨Ow i, R0, At⟩) w (t ++ #[a, b]))
    (hW : ∀ i n w, i < m → n = m0 + i → n ≠ 0 → Rely ⟨Ow i, R0, fun _ => False⟩ w1 w → WP (wgProto Try.prog fm 114 wg m0 p0 m Shun Anc) n ⟨Ow i, R0, At⟩ (.work x0) (born Try.prog { target := .fn (.func cf) vcap, args := #[] }) w)
    (hE : ∀ a w, a.tmps.size = nt → a.defers = [] → (∀ t, t ∉ [tst, da, mk, inc, cnt, dw] → a.eval (.tmp t) = a0.eval (.tmp t)) → (∀ t, a.eval (.tmp t) = a0.eval (.tmp t) ∨ ScrV cf vcap (a.eval (.tmp t))) → Anc (G (b.at a (.inRegion rW [] :: .code rest :: K0)) cs) w) :
    ∀ (r i : Nat) (a : Act) (w : World), m = i + r → SA cf vcap nt [tst, da, mk, inc, cnt, dw] cnt a0 i a → Rely (KSpA Ow R0 At m i) w1 w →
      WP (wgProto Try.prog fm 114 wg m0 p0 m Shun Anc) 0 (KSpA Ow R0 At m i) (.main (.sp r 3)) (G (b.at a (.code (spawnC iT iA iG iI b1 ex rT rA rG rI tst) :: .inLoop (spawnC iT iA iG iI b1 ex rT rA rG rI tst) :: .inBlock ex :: .code (.seq (.region iW rW false) rest) :: K0)) cs) w := by
  obtain ⟨c1, c2, c3, c4, c5, c6, c7, c8, z1, z2, z3, z4⟩ := hscr _ rfl
  generalize hscr0 : [tst, da, mk, inc, cnt, dw] = scr at c1 c2 c3 hE ⊢
  have m1 : tst ∈ scr ∧ da ∈ scr ∧ mk ∈ scr ∧ inc ∈ scr ∧ cnt ∈ scr ∧ dw ∈ scr := by subst hscr0; simp
  have hcapE : ∀ {i : Nat} {a : Act}, SA cf vcap nt scr cnt a0 i a → caps.map a.eval = vcap := fun {i a} h => by
    rw [← hcapv]
    refine Array.map_congr_left fun x hx => ?_
    obtain ⟨t, rfl⟩ := hcaps x hx
    exact h.old t (c3 t hx)
  have hmem : ∀ i l, (KSpA Ow R0 At m i).W l ∨ (KSpA Ow R0 At m i).R l → MemLoc w1.heap.size l := by
    rintro i l (⟨j, _, hj, hx⟩ | hx)
    · exact (hS0.ow j l hj hx).1
    · exact (hS0.r0 l hx).1
  -- the test
  have test : ∀ (J : LK → Goroutine → World → Prop) (R : LK → World → World → Prop), JOk Try.prog true R J → ∀ (S : LK → World → Prop), (∀ k w w₁, S k w → R k w w₁ → S k w₁) → ∀ (i : Nat) (a : Act) (K : List Item) (k : LK) (w : World) (x y z : Code), SA cf vcap nt scr cnt a0 i a →
      (∀ a1 k1 w1', SA cf vcap nt scr cnt a0 i a1 → S k1 w1' → J k1 (G (b.at a1 (.code (if decide (i < m) then x else y) :: .code z :: K)) cs) w1') → S k w → J k (G (b.at a (.code (.seq (.region iT rT false) (.seq (.cond (.tmp tst) x y) z)) :: K)) cs) w := by
    intro J R hJ S hSR i a K k w x y z ha hn h0
    obtain ⟨o, ho, hop, hgd, hd⟩ := T.T
    refine js_seq hJ _ hSR (fun k w hS => j_ctl hJ (fun w => stepG_region) fun w₁ hR => ?_) h0
    replace hS := hSR _ _ _ hS hR
    rw [show List.range rT.size = [0] by rw [T.zT]; rfl]
    refine j_val hJ _ hSR hb ho (yld hgd _) (fun k w hS => opv_lss (P := Try.prog) (fn := b.fn) (k := k) (w := w) hop ha.cnt ((ha.old lim c2).trans hl) sp_under_int) (fun k w hS => ?_) hS
    rw [hd]
    have he : decide ((i : Int) < (m : Int)) = decide (i < m) := by simp
    have e10 : (a.put (some tst) (.bool (decide ((i : Int) < (m : Int))))).eval (.tmp tst) = .bool (decide (i < m)) := by rw [he]; exact eval_put_eq _ (by rw [ha.size]; exact z1) _
    refine js_regend hJ _ hSR (fun k w hS => js_seq hJ _ hSR (fun k w hS => js_cond hJ _ hSR e10 (fun k w hS => hn _ k w (ha.put m1.1 c4 (.inl ⟨_, rfl⟩)) hS) hS) hS) hS
  intro r
  induction r with
  | zero =>
    intro i a w hir ha hr
    have hJ3 : JOk Try.prog (0 == 0) _ _ := wp_jok (P := Try.prog) (ty := 114) (m0 := m0) (p0 := p0) (tot := m) (Shun := Shun) (Anc := Anc) ok 0 (s := .main (.sp 0 3)) id
    have hSR : ∀ k w w₁, (k = KSpA Ow R0 At m i ∧ Rely (KSpA Ow R0 At m i) w1 w) → (Rely k w w₁ ∧ fm.GR 0 w w₁) → k = KSpA Ow R0 At m i ∧ Rely (KSpA Ow R0 At m i) w1 w₁ := fun k w w₁ h hR => ⟨h.1, h.2.trans (h.1 ▸ hR.1)⟩
    refine test _ _ hJ3 _ hSR i a _ _ _ _ _ _ ha (fun a1 k w hA hS => ?_) ⟨rfl, hr⟩
    rw [decide_eq_false (by omega)]
    refine js_exit hJ3 _ hSR (K1 := .code (.seq (.region iW rW false) rest) :: K0) (by simp [exitTo]) (fun k w hS => js_seq hJ3 _ hSR (fun k w hS => ?_) hS) hS
    refine j_ctl hJ3 (fun w => stepG_region) fun w₁ hR => ?_
    rw [show List.range rW.size = [0] by rw [T.zW]; rfl]
    obtain ⟨o0, ho0, hop0, hg0, hd0⟩ := T.W0
    have hcall := op_call (P := Try.prog) (e := a1.eval) (n := 52) (first := #[]) (captured := #[]) hop0 rfl ⟨_, Try.func52, by kernel_rfl, by kernel_rfl⟩
    have hargs : (#[] ++ #[Operand.tmp g].map a1.eval ++ #[] : Array Value) = #[.pointer (some ⟨wg, 0, none⟩)] := by simp [(hA.old g c1).trans hg]
    rw [hargs] at hcall
    refine j_ctl hJ3 (fun w => (stepG_enter ho0 (yld hg0 _) hb (hcall w).1).trans (by rw [listed, (hcall w).2, seen_empty])) fun w₂ hR => ?_
    obtain ⟨g0, q, hwt⟩ := wait_script wg (b.at a1 (.inRegion rW [0] :: .code rest :: K0)) cs
    refine wp_still ok (by simp) rfl q (wp_wait ok hwt _ fun w' hr => ?_)
    rw [show (b.at a1 (.inRegion rW [0] :: .code rest :: K0)).finish (.tuple #[]) = b.at (a1.put o0.dst (.tuple #[])) (.inRegion rW [] :: .code rest :: K0) by rw [Frame.finish_at, ho0]; rfl]
    have hA2 := hA.put (v := .tuple #[]) m1.2.2.2.2.2 c8 (.inr (.inr (.inl rfl)))
    rw [hd0]
    exact WP.stop rfl rfl fun w₁ _ _ => ⟨rfl, hE _ _ hA2.size hA2.d hA2.old hA2.new⟩
  | succ r ih =>
    intro i a w hir ha hr
    have hi : i < m := by omega
    have hJ3 : JOk Try.prog (0 == 0) _ _ := wp_jok (P := Try.prog) (ty := 114) (m0 := m0) (p0 := p0) (tot := m) (Shun := Shun) (Anc := Anc) ok 0 (s := .main (.sp (r + 1) 3)) id
    have hJ0 : JOk Try.prog (0 == 0) _ _ := wp_jok (P := Try.prog) (ty := 114) (m0 := m0) (p0 := p0) (tot := m) (Shun := Shun) (Anc := Anc) ok 0 (s := .main (.sp (r + 1) 0)) id
    have hJr : JOk Try.prog (0 == 0) _ _ := wp_jok (P := Try.prog) (ty := 114) (m0 := m0) (p0 := p0) (tot := m) (Shun := Shun) (Anc := Anc) ok 0 (s := .main (.sp r 3)) id
    have hSR : ∀ i k w w₁, (k = KSpA Ow R0 At m i ∧ Rely (KSpA Ow R0 At m i) w1 w) → (Rely k w w₁ ∧ fm.GR 0 w w₁) → k = KSpA Ow R0 At m i ∧ Rely (KSpA Ow R0 At m i) w1 w₁ := fun i k w w₁ h hR => ⟨h.1, h.2.trans (h.1 ▸ hR.1)⟩
    refine test _ _ hJ3 _ (hSR i) i a _ _ _ _ _ _ ha (fun a1 k w hA hS => ?_) ⟨rfl, hr⟩
    rw [decide_eq_true hi]
    refine js_skip hJ3 _ (hSR i) (fun k w hS => js_seq hJ3 _ (hSR i) (fun k w hS => js_block hJ3 _ (hSR i) (fun k w hS => js_seq hJ3 _ (hSR i) (fun k w hS => ?_) hS) hS) hS) hS
    -- Add
    refine j_ctl hJ3 (fun w => stepG_region) fun w₁ hR => ?_
    replace hS := hSR i _ _ _ hS hR
    rw [show List.range rA.size = [0] by rw [T.zA]; rfl]
    obtain ⟨o0, ho0, hop0, hg0, hd0⟩ := T.A
    have hcall := op_call (P := Try.prog) (e := a1.eval) (n := 48) (first := #[]) (captured := #[]) hop0 rfl ⟨_, Try.func48, by kernel_rfl, by kernel_rfl⟩
    have hargs : (#[] ++ #[Operand.tmp g, .const (.int .i64 1)].map a1.eval ++ #[] : Array Value) = #[.pointer (some ⟨wg, 0, none⟩), .int .i64 1] := by
      simp [(hA.old g c1).trans hg]
      rfl
    rw [hargs] at hcall
    refine j_ctl hJ3 (fun w => (stepG_enter ho0 (yld hg0 _) hb (hcall w).1).trans (by rw [listed, (hcall w).2, seen_empty])) fun w₂ hR => ?_
    replace hS := hSR i _ _ _ hS hR
    obtain ⟨g0, q, hadd⟩ := add_script wg (b.at a1 (.inRegion rA [0] :: .code (.region iG rG false) :: .inBlock b1 :: .code (.region iI rI false) :: .inLoop (spawnC iT iA iG iI b1 ex rT rA rG rI tst) :: .inBlock ex :: .code (.seq (.region iW rW false) rest) :: K0)) cs
    refine wp_still ok (by simp) rfl q (wp_add ok hadd fun w' hr => ?_)
    obtain ⟨rfl, hS⟩ := hS
    replace hS : Rely (KSpA Ow R0 At m i) w1 w' := hS.trans hr
    rw [show (b.at a1 (.inRegion rA [0] :: .code (.region iG rG false) :: .inBlock b1 :: .code (.region iI rI false) :: .inLoop (spawnC iT iA iG iI b1 ex rT rA rG rI tst) :: .inBlock ex :: .code (.seq (.region iW rW false) rest) :: K0)).finish (.tuple #[]) = b.at (a1.put o0.dst (.tuple #[])) (.inRegion rA [] :: .code (.region iG rG false) :: .inBlock b1 :: .code (.region iI rI false) :: .inLoop (spawnC iT iA iG iI b1 ex rT rA rG rI tst) :: .inBlock ex :: .code (.seq (.region iW rW false) rest) :: K0) by rw [Frame.finish_at, ho0]; rfl, hd0]
    have hA2 := hA.put (v := .tuple #[]) m1.2.1 c5 (.inr (.inr (.inl rfl)))
    generalize a1.put (some da) (.tuple #[]) = a2 at hA2
    refine js_regend hJ0 (fun k w => k = KSpA Ow R0 At m i ∧ Rely (KSpA Ow R0 At m i) w1 w) (hSR i) (fun k w hS => ?_) (⟨rfl, hS⟩ : _ = KSpA Ow R0 At m i ∧ Rely (KSpA Ow R0 At m i) w1 w')
    -- go
    refine j_ctl hJ0 (fun w => stepG_region) fun w₁ hR => ?_
    replace hS := hSR i _ _ _ hS hR
    rw [show List.range rG.size = [0, 1] by rw [T.zG]; rfl]
    obtain ⟨oM, hoM, hopM, hgM, hdM⟩ := T.G0
    refine j_val hJ0 (fun k w => k = KSpA Ow R0 At m i ∧ Rely (KSpA Ow R0 At m i) w1 w) (hSR i) hb hoM (yld hgM _) (v := .func (.func cf) #[] vcap) (fun k w hS => opv_run fun w => by rw [sp_mk _ _ hopM w]; rw [hcapE hA2]) (fun k w hS => ?_) hS
    rw [hdM]
    have z0 : (a2.put (some mk) (.func (.func cf) #[] vcap)).eval (.tmp mk) = .func (.func cf) #[] vcap := eval_put_eq _ (by rw [hA2.size]; exact z2) _
    have hA3 := hA2.put (v := .func (.func cf) #[] vcap) m1.2.2.1 c6 (.inr (.inr (.inr rfl)))
    generalize a2.put (some mk) _ = a3 at z0 hA3
    obtain ⟨oG, hoG, hopG, hgG, hdG⟩ := T.G1
    have hgo : ∀ w, (execOp a3.eval oG).runT Try.prog w #[] = (.ok (.spawn { target := .fn (.func cf) vcap, args := #[] }) w, #[]) := fun w => sp_go0 _ _ hopG z0 w
    have hrun : ∀ w, (execOp a3.eval oG).run Try.prog w = .ok (.spawn { target := .fn (.func cf) vcap, args := #[] }) w ∧ (execOp a3.eval oG).events Try.prog w #[] = #[] := fun w => by
      have := hgo w; rw [Sem.runT_eq] at this; exact Prod.mk.inj this
    obtain ⟨rfl, hS⟩ := hS
    refine wp_go ok (k' := KSpA Ow R0 At m (i + 1)) (kc := ⟨Ow i, R0, At⟩) rfl rfl (fun w₁ => (stepG_spawn hoG (yld hgG _) hb (hrun w₁).1 rfl).trans (by rw [listed, (hrun w₁).2, seen_empty]))
      (fun l ⟨j, h, h', hl⟩ => ⟨j, by omega, h', hl⟩) (fun l hl => .inr hl) (fun l hl => .inr hl) (fun l hl => ⟨i, Nat.le_refl _, hi, hl⟩) (fun l hl => .inr hl) (fun l hl => .inr hl)
      (fun l ⟨j, h, h', hl⟩ => hS0.dis j i h' hi (by omega) l hl) (fun l ⟨j, h, h', hl⟩ hc => (hS0.ow j l h' hl).2.1 hc) (fun l hl hc => (hS0.ow i l hi hl).2.1 hc)
      (fun l hl => ?_) (fun l hl => ?_) (fun l hl => hAt l hl) (fun l hl => hAt l hl) x0 (fun n' T K w t a b hG hL hn h8 hk hT hD h9 h10 => hG0 i n' T K w t a b hi hG hL hn (by omega) hk hT hD h9 h10) (fun w₁ hr _ => ?_) fun w₁ hr _ n' hn0 hnn => ?_
    · have : ¬ At l := by
        rcases hl with ⟨j, h, h', hl⟩ | hl
        · exact (hS0.ow j l h' hl).2.2
        · exact (hS0.r0 l hl).2
      exact ⟨this, this⟩
    · have : ¬ At l := by
        rcases hl with hl | hl
        · exact (hS0.ow i l hi hl).2.2
        · exact (hS0.r0 l hl).2
      exact ⟨this, this⟩
    · rw [hdG, put_none]
      have hr1 : Rely (KSpA Ow R0 At m (i + 1)) w1 w₁ := (hS.mono (k := KSpA Ow R0 At m (i + 1)) ⟨fun l ⟨j, h, h', hl⟩ => ⟨j, by omega, h', hl⟩, fun l hl => .inr hl⟩).trans (hr.mono (k := KSpA Ow R0 At m (i + 1)) ⟨fun l ⟨j, h, h', hl⟩ => ⟨j, by omega, h', hl⟩, fun l hl => .inr hl⟩)
      refine js_regend hJr (fun k w => k = KSpA Ow R0 At m (i + 1) ∧ Rely (KSpA Ow R0 At m (i + 1)) w1 w) (hSR (i + 1)) (fun k w hS => ?_) ⟨rfl, hr1⟩
      refine js_inBlock hJr _ (hSR (i + 1)) (fun k w hS => ?_) hS
      -- the counter
      refine j_ctl hJr (fun w => stepG_region) fun w₁ hR => ?_
      replace hS := hSR (i + 1) _ _ _ hS hR
      rw [show List.range rI.size = [0, 1] by rw [T.zI]; rfl]
      obtain ⟨o1, ho1, hop1, hg1, hd1⟩ := T.I0
      have wadd : IntKind.i64.wrap ((i : Int) + 1) = ((i + 1 : Nat) : Int) := by rw [IntKind.wrap_i64]; omega
      refine j_val hJr _ (hSR (i + 1)) hb ho1 (yld hg1 _) (fun k w hS => opv_add (P := Try.prog) (fn := b.fn) (k := k) (w := w) hop1 hA3.cnt rfl sp_under_int) (fun k w hS => ?_) hS
      rw [hd1, wadd]
      have z5 : (a3.put (some inc) (.int .i64 (i + 1 : Nat))).eval (.tmp inc) = .int .i64 (i + 1 : Nat) := eval_put_eq _ (by rw [hA3.size]; exact z3) _
      have hA4 := hA3.put (v := .int .i64 (i + 1 : Nat)) m1.2.2.2.1 c7 (.inr (.inl ⟨_, rfl⟩))
      generalize a3.put (some inc) _ = a4 at z5 hA4
      obtain ⟨o2, ho2, hop2, hg2, hd2⟩ := T.I1
      refine j_val hJr _ (hSR (i + 1)) hb ho2 (yld hg2 _) (fun k w hS => opv_move (x := .tmp inc) (.inl hop2)) (fun k w hS => ?_) hS
      rw [hd2, z5]
      refine js_regend hJr _ (hSR (i + 1)) (fun k w hS => js_inLoop hJr _ (hSR (i + 1)) (fun k w hS => ?_) hS) hS
      obtain ⟨rfl, hS⟩ := hS
      exact ih (i + 1) _ w (by omega) ⟨(put_size _ _ _).trans hA4.size, hA4.d, eval_put_eq _ (by rw [hA4.size]; exact z4) _, fun t ht => (eval_put_ne _ (fun e => ht (by rw [← e]; exact m1.2.2.2.2.1)) _).trans (hA4.old t ht), fun t => by
        by_cases e : cnt = t
        · subst e; rw [eval_put_eq _ (by rw [hA4.size]; exact z4)]; exact .inr (.inr (.inl ⟨_, rfl⟩))
        · rw [eval_put_ne _ e]; exact hA4.new t⟩ hS
    · have hr2 : Rely ⟨Ow i, R0, fun _ => False⟩ w1 w₁ := (hS.mono (k := ⟨Ow i, R0, fun _ => False⟩) ⟨fun l hl => ⟨i, Nat.le_refl _, hi, hl⟩, fun l hl => .inr hl⟩).trans (hr.mono (k := ⟨Ow i, R0, fun _ => False⟩) ⟨fun l hl => ⟨i, Nat.le_refl _, hi, hl⟩, fun l hl => .inr hl⟩)
      exact hW i n' w₁ hi (by omega) hn0 hr2
end
end Go.Proofs.Yticdjkkcfdbdcaa
