/- 'for range m { group.Add(1); go f() }; group.Wait()': goroutine 0's part, whatever the temporaries' numbers. No conditions but those named. -/
import Derived.Test.YticdjkkcfdbdcaaCut
import Derived.Test.YticdjkkcfdbdcaaAcDn
import Derived.Test.YticdjkkcfdbdcaaDrawE
import Derived.Conc.DeferLaws
import Derived.Conc.Own2
import Derived.KernelRfl
namespace Go.Proofs.Yticdjkkcfdbdcaa
open Go.Conc Go.ConcN Go.RowKit
theorem sp_under_int : Try.prog.underlying 3 = some (.int .i64) := by kernel_rfl
/-- What stands below a goroutine's first call. -/
def bornBelow (P : Program) : Frame := { (default : Frame) with fn := P.funcs.size, defers := [], mode := .panicking [goexitEntry] }
theorem stepG_first {P : Program} {main : Bool} {f : FuncId} {fn : Func} {c : Code} {args cap : Array Value} (hf : P.funcs[f]? = some fn) (hname : (fn.name == "runtime.NumGoroutine") = false) (hb : fn.body = some c) (w : World) :
    stepG P main (born P { target := .fn (.func f) cap, args := args }) w = .go (G (Frame.enter P f (args ++ cap) .deferred) [bornBelow P]) w #[] := by
  have h1 : ¬ fn.name = "runtime.NumGoroutine" := by simpa using hname
  simp [G, born, stepG, unwind, callDeferred, invoke, callFunc, hf, h1, hb, GStep.after, seen_none, bornBelow]
/-- One operation of a text: its number, what it is, where its value goes. -/
def OpIs (ops : Array Oper) (i : Nat) (p : Op) (d : Option Tmp) : Prop := ∃ o, ops[i]? = some o ∧ o.op = p ∧ o.guard = none ∧ o.dst = d
/-- Its licence, i workers started: what the others are to have; what all read. -/
def KSp (Ow : Nat → Loc → Prop) (R0 : Loc → Prop) (wg m i : Nat) : LK := ⟨fun l => ∃ j, i ≤ j ∧ j < m ∧ Ow j l, R0, WgLoc wg⟩
/-- Whose is what. -/
structure Spl (Ow : Nat → Loc → Prop) (R0 : Loc → Prop) (wg m : Nat) (w1 : World) : Prop where
  ow : ∀ j l, j < m → Ow j l → MemLoc w1.heap.size l ∧ ¬ R0 l ∧ ¬ WgLoc wg l
  r0 : ∀ l, R0 l → MemLoc w1.heap.size l ∧ ¬ WgLoc wg l
  dis : ∀ i j, i < m → j < m → i ≠ j → ∀ l, Ow i l → ¬ Ow j l
theorem sp_mk (e : Operand → Value) (o : Oper) {cf : FuncId} {caps : Array Operand} (hop : o.op = .makeFunc (.func cf) #[] caps) (w : World) : (execOp e o).runT Try.prog w #[] = (.ok (.value (.func (.func cf) #[] (caps.map e))) w, #[]) := by simp [go_sem, hop, execOp, Instr.makeFunc]
theorem sp_go0 (e : Operand → Value) (o : Oper) {x : Operand} {f : FuncId} {cap : Array Value} (hop : o.op = .go { callee := .value x, args := #[], argTypes := #[] }) (hx : e x = .func (.func f) #[] cap) (w : World) : (execOp e o).runT Try.prog w #[] = (.ok (.spawn { target := .fn (.func f) cap, args := #[] }) w, #[]) := by simp [go_sem, hop, hx, execOp]
end Go.Proofs.Yticdjkkcfdbdcaa

/- 'for v := range m { group.Add(1); go f() }; group.Wait()' where f captures v: each round makes a box; goroutine 0's part, whatever the temporaries' numbers. No conditions but those named. -/
namespace Go.Proofs.Yticdjkkcfdbdcaa
open Go.Conc Go.ConcN Go.RowKit
/-- The loop's text. -/
structure SpawnB (cf : FuncId) (rT rB rA rG rI rW : Array Oper) (g lim cnt tst mv bt da mk inc dw : Tmp) (caps : Array Operand) : Prop where
  zT : rT.size = 1
  T : OpIs rT 0 (.binOp .lss 3 (.tmp cnt) (.tmp lim) 3) (some tst)
  zB : rB.size = 3
  B0 : OpIs rB 0 (.move (.tmp cnt)) (some mv)
  B1 : OpIs rB 1 (.alloc 3) (some bt)
  B2 : OpIs rB 2 (.store 3 (.tmp bt) (.tmp mv)) none
  zA : rA.size = 1
  A : OpIs rA 0 (.call { callee := .value (.func 48), args := #[.tmp g, .const (.int .i64 1)], argTypes := #[114, 3] }) (some da)
  zG : rG.size = 2
  G0 : OpIs rG 0 (.makeFunc (.func cf) #[] caps) (some mk)
  G1 : OpIs rG 1 (.go { callee := .value (.tmp mk), args := #[], argTypes := #[] }) none
  zI : rI.size = 2
  I0 : OpIs rI 0 (.binOp .add 3 (.tmp cnt) (.const (.int .i64 1)) 3) (some inc)
  I1 : OpIs rI 1 (.move (.tmp inc)) (some cnt)
  zW : rW.size = 1
  W0 : OpIs rW 0 (.call { callee := .value (.func 52), args := #[.tmp g], argTypes := #[114] }) (some dw)
/-- The loop's body. -/
def spawnCB (iT iB iA iG iI b1 e : Nat) (rT rB rA rG rI : Array Oper) (tst : Tmp) : Code :=
  .seq (.region iT rT false) (.seq (.cond (.tmp tst) .skip (.exit e)) (.seq (.block b1 (.seq (.region iB rB false) (.seq (.region iA rA false) (.region iG rG false)))) (.region iI rI false)))
def ScrP (v : Value) : Prop := (∃ b, v = .bool b) ∨ (∃ n, v = .int .i64 n) ∨ v = .tuple #[]
/-- Goroutine 0's temporaries: all but the loop's own as they were; b1, b2: the boxes that are known of. -/
structure SB (cf : FuncId) (vcap : Nat → Array Value) (nt : Nat) (scr : List Tmp) (cnt bt mk : Tmp) (a0 : Act) (i : Nat) (a : Act) (b1 b2 : Nat) : Prop where
  size : a.tmps.size = nt
  d : a.defers = []
  cnt : a.eval (.tmp cnt) = .int .i64 i
  old : ∀ t, t ∉ scr → a.eval (.tmp t) = a0.eval (.tmp t)
  new : ∀ t, t ≠ bt → t ≠ mk → a.eval (.tmp t) = a0.eval (.tmp t) ∨ ScrP (a.eval (.tmp t))
  box : a.eval (.tmp bt) = a0.eval (.tmp bt) ∨ a.eval (.tmp bt) = .pointer (some ⟨b1, 0, none⟩)
  clo : a.eval (.tmp mk) = a0.eval (.tmp mk) ∨ a.eval (.tmp mk) = .func (.func cf) #[] (vcap b2)
section
variable {cf : FuncId} {vcap : Nat → Array Value} {nt : Nat} {scr : List Tmp} {cnt bt mk : Tmp} {a0 a : Act} {i b1 b2 : Nat}
theorem SB.put (h : SB cf vcap nt scr cnt bt mk a0 i a b1 b2) {d : Nat} (hd : d ∈ scr) (hc : d ≠ cnt) (hb : d ≠ bt) (hm : d ≠ mk) {v : Value} (hv : ScrP v) : SB cf vcap nt scr cnt bt mk a0 i (a.put (some d) v) b1 b2 :=
  ⟨(put_size _ _ _).trans h.size, h.d, (eval_put_ne _ hc _).trans h.cnt, fun t ht => (eval_put_ne _ (fun e => ht (by rw [← e]; exact hd)) _).trans (h.old t ht), fun t h1 h2 => by
    by_cases e : d = t
    · subst e
      by_cases hs : d < a.tmps.size
      · rw [eval_put_eq _ hs]; exact .inr hv
      · have := h.new d h1 h2
        rw [show (a.put (some d) v).eval (.tmp d) = a.eval (.tmp d) by simp only [Act.put, Act.eval, Array.setIfInBounds, dif_neg hs]]
        exact this
    · rw [eval_put_ne _ e]; exact h.new t h1 h2, by rw [eval_put_ne _ hb]; exact h.box, by rw [eval_put_ne _ hm]; exact h.clo⟩
theorem SB.putB (h : SB cf vcap nt scr cnt bt mk a0 i a b1 b2) (hd : bt ∈ scr) (hc : bt ≠ cnt) (hm : bt ≠ mk) (hn : bt < nt) (b : Nat) : SB cf vcap nt scr cnt bt mk a0 i (a.put (some bt) (.pointer (some ⟨b, 0, none⟩))) b b2 :=
  ⟨(put_size _ _ _).trans h.size, h.d, (eval_put_ne _ hc _).trans h.cnt, fun t ht => (eval_put_ne _ (fun e => ht (by rw [← e]; exact hd)) _).trans (h.old t ht), fun t h1 h2 => by rw [eval_put_ne _ (Ne.symm h1)]; exact h.new t h1 h2, .inr (eval_put_eq _ (by rw [h.size]; exact hn) _), by rw [eval_put_ne _ hm]; exact h.clo⟩
theorem SB.putC (h : SB cf vcap nt scr cnt bt mk a0 i a b1 b2) (hd : mk ∈ scr) (hc : mk ≠ cnt) (hm : mk ≠ bt) (hn : mk < nt) (b : Nat) : SB cf vcap nt scr cnt bt mk a0 i (a.put (some mk) (.func (.func cf) #[] (vcap b))) b1 b :=
  ⟨(put_size _ _ _).trans h.size, h.d, (eval_put_ne _ hc _).trans h.cnt, fun t ht => (eval_put_ne _ (fun e => ht (by rw [← e]; exact hd)) _).trans (h.old t ht), fun t h1 h2 => by rw [eval_put_ne _ (Ne.symm h2)]; exact h.new t h1 h2, by rw [eval_put_ne _ hm]; exact h.box, .inr (eval_put_eq _ (by rw [h.size]; exact hn) _)⟩
end
/-- A row lies there. -/
def RowAt (w : World) (b : Nat) : Prop := ∃ x e f, w.heap[b]? = some (.cells x e f)
theorem RowAt.rely {k : LK} {w w₁ : World} {b : Nat} (h : RowAt w b) (hr : Rely k w w₁) : RowAt w₁ b := by
  obtain ⟨x, e, f, h⟩ := h
  obtain ⟨o', h1, h2⟩ := hr.shape b _ h
  cases o' <;> simp [Alike] at h2
  exact ⟨_, _, _, h1⟩
theorem rely_push {k : LK} {w : World} (ob : Obj) (hk : ∀ l, k.W l ∨ k.R l → MemLoc w.heap.size l) : Rely k w { w with heap := w.heap.push ob } where
  size := by show _ ≤ (w.heap.push ob).size; simp
  tape := rfl
  os := rfl
  output := rfl
  shape := fun b o h => ⟨o, by show (w.heap.push ob)[b]? = _; rw [Array.getElem?_push, if_neg (Nat.ne_of_lt (Array.getElem?_eq_some_iff.1 h).1)]; exact h, .refl o⟩
  cell := fun a ha => by
    have : a.block < w.heap.size := hk _ ha
    have e : (w.heap.push ob)[a.block]? = w.heap[a.block]? := by rw [Array.getElem?_push, if_neg (Nat.ne_of_lt this)]
    simp only [World.cell?, e]
  obj := fun b o h _ _ => by show (w.heap.push ob)[b]? = _; rw [Array.getElem?_push, if_neg (Nat.ne_of_lt (Array.getElem?_eq_some_iff.1 h).1)]; exact h
theorem rely_set {k : LK} {w : World} {p : Addr} {u v : Value} (hp : w.cell? p = some u) (hs : p.spot = none) (hk : ∀ q : Addr, k.W (.cell q) ∨ k.R (.cell q) → q.block ≠ p.block) : Rely k w (w.setCell p v) := by
  obtain ⟨x, e, f, hx⟩ : ∃ x e f, w.heap[p.block]? = some (.cells x e f) := by
    unfold World.cell? at hp
    cases hb : w.heap[p.block]? with
    | none => simp [hb] at hp
    | some o => cases o with
      | cells x e f => exact ⟨x, e, f, rfl⟩
      | _ => simp [hb] at hp
  refine ⟨by rw [setCell_size]; exact Nat.le_refl _, rfl, rfl, rfl, fun b o h => ?_, fun a ha => World.cell?_of_block (setCell_ne (hk a ha)), fun b o h hn _ => ?_⟩
  · by_cases eb : b = p.block
    · subst eb
      rw [hx] at h
      cases h
      exact ⟨_, setCell_get hs hx, by simp [Alike]⟩
    · exact ⟨o, (setCell_ne eb).trans h, .refl o⟩
  · refine (setCell_ne fun eb => ?_).trans h
    subst eb
    rw [hx] at h
    cases h
    exact hn _ _ _ rfl
theorem run_allocI (e : Operand → Value) (o : Oper) (hop : o.op = .alloc 3) (w : World) : (execOp e o).runT Try.prog w #[] = (.ok (.value (.pointer (some ⟨w.heap.size, 0, none⟩))) { w with heap := w.heap.push (.cells #[.int .i64 0] 3) }, #[]) := by
  simp [go_sem, hop, execOp]
section
variable {X Rl : Loc → Prop} {Q : Nat → LK → World → Prop} {w1 : World} {m0 p0 m wg : Nat} {Shun : Loc → Prop} {Anc : Goroutine → World → Prop} {Ow : Nat → Loc → Prop} {R0 : Loc → Prop} {cf : FuncId} {rT rB rA rG rI rW : Array Oper} {g lim cnt tst mv bt da mk inc dw : Tmp} {caps : Array Operand} {vcap : Nat → Array Value} {nt : Nat} {a0 : Act} {iT iB iA iG iI iW bk ex : Nat} {rest : Code} {b : Frame} {K0 : List Item} {cs : List Frame}
set_option maxHeartbeats 1000000 in
/-- ████ THE LOOP AND THE WAIT. ████ -/
theorem spawn_loopB (ok : (famX X Rl w1 m0 Q).Ok wg) (hb : b.kind ≠ .early) (hm : m ≤ 16) (hwl : wg < w1.heap.size) (T : SpawnB cf rT rB rA rG rI rW g lim cnt tst mv bt da mk inc dw caps) (hS0 : Spl Ow R0 wg m w1)
    (hscr : ∀ scr, scr = [tst, mv, bt, da, mk, inc, cnt, dw] → scr.Nodup ∧ g ∉ scr ∧ lim ∉ scr ∧ ∀ t ∈ scr, t < nt)
    (hcaps : ∀ (a : Act) (bx : Nat), (∀ t, t ∉ [tst, mv, bt, da, mk, inc, cnt, dw] → a.eval (.tmp t) = a0.eval (.tmp t)) → a.eval (.tmp bt) = .pointer (some ⟨bx, 0, none⟩) → caps.map a.eval = vcap bx)
    (hg : a0.eval (.tmp g) = .pointer (some ⟨wg, 0, none⟩)) (hl : a0.eval (.tmp lim) = .int .i64 m)
    (hW : ∀ i n w bx, i < m → n = m0 + i → n ≠ 0 → w1.heap.size ≤ bx → Rely ⟨Ow i, R0, fun _ => False⟩ w1 w → w.cell? ⟨bx, 0, none⟩ = some (.int .i64 i) → WP (wgProto Try.prog (famX X Rl w1 m0 Q) 114 wg m0 p0 m Shun Anc) n ⟨fun l => Ow i l ∨ l = .cell ⟨bx, 0, none⟩, R0, WgLoc wg⟩ (.work ()) (born Try.prog { target := .fn (.func cf) (vcap bx), args := #[] }) w)
    (hE : ∀ (a : Act) w b1 b2, SB cf vcap nt [tst, mv, bt, da, mk, inc, cnt, dw] cnt bt mk a0 m (a.put (some dw) (.tuple #[])) b1 b2 → wg ≤ b1 → wg ≤ b2 → RowAt w b1 → RowAt w b2 → Anc (G (b.at (a.put (some dw) (.tuple #[])) (.inRegion rW [] :: .code rest :: K0)) cs) w) :
    ∀ (r i : Nat) (a : Act) (w : World) (b1 b2 : Nat), m = i + r → SB cf vcap nt [tst, mv, bt, da, mk, inc, cnt, dw] cnt bt mk a0 i a b1 b2 → Rely (KSp Ow R0 wg m i) w1 w → wg ≤ b1 → wg ≤ b2 → RowAt w b1 → RowAt w b2 →
      WP (wgProto Try.prog (famX X Rl w1 m0 Q) 114 wg m0 p0 m Shun Anc) 0 (KSp Ow R0 wg m i) (.main (.sp r 3)) (G (b.at a (.code (spawnCB iT iB iA iG iI bk ex rT rB rA rG rI tst) :: .inLoop (spawnCB iT iB iA iG iI bk ex rT rB rA rG rI tst) :: .inBlock ex :: .code (.seq (.region iW rW false) rest) :: K0)) cs) w := by
  obtain ⟨cN, c1, c2, cL⟩ := hscr _ rfl
  simp only [List.nodup_cons, List.mem_cons, List.not_mem_nil, or_false, not_or, List.nodup_nil, and_true, not_false_eq_true] at cN
  obtain ⟨⟨n0_0, n0_1, n0_2, n0_3, n0_4, n0_5, n0_6⟩, ⟨n1_0, n1_1, n1_2, n1_3, n1_4, n1_5⟩, ⟨n2_0, n2_1, n2_2, n2_3, n2_4⟩, ⟨n3_0, n3_1, n3_2, n3_3⟩, ⟨n4_0, n4_1, n4_2⟩, ⟨n5_0, n5_1⟩, n6_0⟩ := cN
  generalize hscr0 : [tst, mv, bt, da, mk, inc, cnt, dw] = scr at c1 c2 cL hE hcaps ⊢
  have m1 : tst ∈ scr ∧ mv ∈ scr ∧ bt ∈ scr ∧ da ∈ scr ∧ mk ∈ scr ∧ inc ∈ scr ∧ cnt ∈ scr ∧ dw ∈ scr := by subst hscr0; simp
  have hmem : ∀ i l, (KSp Ow R0 wg m i).W l ∨ (KSp Ow R0 wg m i).R l → MemLoc w1.heap.size l := by
    rintro i l (⟨j, _, hj, hx⟩ | hx)
    · exact (hS0.ow j l hj hx).1
    · exact (hS0.r0 l hx).1
  -- the test
  have test : ∀ (J : LK → Goroutine → World → Prop) (R : LK → World → World → Prop), JOk Try.prog true R J → ∀ (S : LK → World → Prop), (∀ k w w₁, S k w → R k w w₁ → S k w₁) → ∀ (i : Nat) (a : Act) (b1 b2 : Nat) (K : List Item) (k : LK) (w : World) (x y z : Code), SB cf vcap nt scr cnt bt mk a0 i a b1 b2 →
      (∀ a1 k1 w1', SB cf vcap nt scr cnt bt mk a0 i a1 b1 b2 → S k1 w1' → J k1 (G (b.at a1 (.code (if decide (i < m) then x else y) :: .code z :: K)) cs) w1') → S k w → J k (G (b.at a (.code (.seq (.region iT rT false) (.seq (.cond (.tmp tst) x y) z)) :: K)) cs) w := by
    intro J R hJ S hSR i a b1 b2 K k w x y z ha hn h0
    obtain ⟨o, ho, hop, hgd, hd⟩ := T.T
    refine js_seq hJ _ hSR (fun k w hS => j_ctl hJ (fun w => stepG_region) fun w₁ hR => ?_) h0
    replace hS := hSR _ _ _ hS hR
    rw [show List.range rT.size = [0] by rw [T.zT]; rfl]
    refine j_val hJ _ hSR hb ho (yld hgd _) (fun k w hS => opv_lss (P := Try.prog) (fn := b.fn) (k := k) (w := w) hop ha.cnt ((ha.old lim c2).trans hl) sp_under_int) (fun k w hS => ?_) hS
    rw [hd]
    have he : decide ((i : Int) < (m : Int)) = decide (i < m) := by simp
    have e10 : (a.put (some tst) (.bool (decide ((i : Int) < (m : Int))))).eval (.tmp tst) = .bool (decide (i < m)) := by rw [he]; exact eval_put_eq _ (by rw [ha.size]; exact cL _ m1.1) _
    refine js_regend hJ _ hSR (fun k w hS => js_seq hJ _ hSR (fun k w hS => js_cond hJ _ hSR e10 (fun k w hS => hn _ k w (ha.put m1.1 (by first | assumption | (refine Ne.symm ?_; assumption)) (by first | assumption | (refine Ne.symm ?_; assumption)) (by first | assumption | (refine Ne.symm ?_; assumption)) (.inl ⟨_, rfl⟩)) hS) hS) hS) hS
  intro r
  induction r with
  | zero =>
    intro i a w b1 b2 hir ha hr g1 g2 r1 r2
    have hJ3 : JOk Try.prog (0 == 0) _ _ := wp_jok (P := Try.prog) (ty := 114) (m0 := m0) (p0 := p0) (tot := m) (Shun := Shun) (Anc := Anc) ok 0 (s := .main (.sp 0 3)) id
    have hSR : ∀ k w w₁, (k = KSp Ow R0 wg m i ∧ Rely (KSp Ow R0 wg m i) w1 w ∧ RowAt w b1 ∧ RowAt w b2) → (Rely k w w₁ ∧ (famX X Rl w1 m0 Q).GR 0 w w₁) → k = KSp Ow R0 wg m i ∧ Rely (KSp Ow R0 wg m i) w1 w₁ ∧ RowAt w₁ b1 ∧ RowAt w₁ b2 := fun k w w₁ h hR => ⟨h.1, h.2.1.trans (h.1 ▸ hR.1), h.2.2.1.rely hR.1, h.2.2.2.rely hR.1⟩
    refine test _ _ hJ3 _ hSR i a b1 b2 _ _ _ _ _ _ ha (fun a1 k w hA hS => ?_) ⟨rfl, hr, r1, r2⟩
    rw [decide_eq_false (by omega)]
    refine js_exit hJ3 _ hSR (K1 := .code (.seq (.region iW rW false) rest) :: K0) (by simp [exitTo]) (fun k w hS => js_seq hJ3 _ hSR (fun k w hS => ?_) hS) hS
    refine j_ctl hJ3 (fun w => stepG_region) fun w₁ hR => ?_
    replace hS := hSR _ _ _ hS hR
    rw [show List.range rW.size = [0] by rw [T.zW]; rfl]
    obtain ⟨o0, ho0, hop0, hg0, hd0⟩ := T.W0
    have hcall := op_call (P := Try.prog) (e := a1.eval) (n := 52) (first := #[]) (captured := #[]) hop0 rfl ⟨_, Try.func52, by kernel_rfl, by kernel_rfl⟩
    have hargs : (#[] ++ #[Operand.tmp g].map a1.eval ++ #[] : Array Value) = #[.pointer (some ⟨wg, 0, none⟩)] := by simp [(hA.old g c1).trans hg]
    rw [hargs] at hcall
    refine j_ctl hJ3 (fun w => (stepG_enter ho0 (yld hg0 _) hb (hcall w).1).trans (by rw [listed, (hcall w).2, seen_empty])) fun w₂ hR => ?_
    replace hS := hSR _ _ _ hS hR
    obtain ⟨g0, q, hwt⟩ := wait_script wg (b.at a1 (.inRegion rW [0] :: .code rest :: K0)) cs
    refine wp_still ok (by simp) rfl q (wp_wait ok hwt _ fun w' hrw => ?_)
    rw [show (b.at a1 (.inRegion rW [0] :: .code rest :: K0)).finish (.tuple #[]) = b.at (a1.put o0.dst (.tuple #[])) (.inRegion rW [] :: .code rest :: K0) by rw [Frame.finish_at, ho0]; rfl]
    have hA2 := hA.put (v := .tuple #[]) m1.2.2.2.2.2.2.2 (by first | assumption | (refine Ne.symm ?_; assumption)) (by first | assumption | (refine Ne.symm ?_; assumption)) (by first | assumption | (refine Ne.symm ?_; assumption)) (.inr (.inr rfl))
    rw [hd0]
    obtain rfl : i = m := by omega
    exact WP.stop rfl rfl fun w₁ hr1 _ => ⟨rfl, hE _ _ b1 b2 hA2 g1 g2 ((hS.2.2.1.rely hrw).rely hr1) ((hS.2.2.2.rely hrw).rely hr1)⟩
  | succ r ih =>
    intro i a w b1 b2 hir ha hr g1 g2 r1 r2
    have hi : i < m := by omega
    have hJ3 : JOk Try.prog (0 == 0) _ _ := wp_jok (P := Try.prog) (ty := 114) (m0 := m0) (p0 := p0) (tot := m) (Shun := Shun) (Anc := Anc) ok 0 (s := .main (.sp (r + 1) 3)) id
    have hJ0 : JOk Try.prog (0 == 0) _ _ := wp_jok (P := Try.prog) (ty := 114) (m0 := m0) (p0 := p0) (tot := m) (Shun := Shun) (Anc := Anc) ok 0 (s := .main (.sp (r + 1) 0)) id
    have hJr : JOk Try.prog (0 == 0) _ _ := wp_jok (P := Try.prog) (ty := 114) (m0 := m0) (p0 := p0) (tot := m) (Shun := Shun) (Anc := Anc) ok 0 (s := .main (.sp r 3)) id
    have hSR : ∀ k w w₁, (k = KSp Ow R0 wg m i ∧ Rely (KSp Ow R0 wg m i) w1 w ∧ RowAt w b1 ∧ RowAt w b2) → (Rely k w w₁ ∧ (famX X Rl w1 m0 Q).GR 0 w w₁) → k = KSp Ow R0 wg m i ∧ Rely (KSp Ow R0 wg m i) w1 w₁ ∧ RowAt w₁ b1 ∧ RowAt w₁ b2 := fun k w w₁ h hR => ⟨h.1, h.2.1.trans (h.1 ▸ hR.1), h.2.2.1.rely hR.1, h.2.2.2.rely hR.1⟩
    refine test _ _ hJ3 _ hSR i a b1 b2 _ _ _ _ _ _ ha (fun a1 k w hA hS => ?_) ⟨rfl, hr, r1, r2⟩
    rw [decide_eq_true hi]
    refine js_skip hJ3 _ hSR (fun k w hS => js_seq hJ3 _ hSR (fun k w hS => js_block hJ3 _ hSR (fun k w hS => js_seq hJ3 _ hSR (fun k w hS => ?_) hS) hS) hS) hS
    -- the box
    refine j_ctl hJ3 (fun w => stepG_region) fun w₁ hR => ?_
    replace hS := hSR _ _ _ hS hR
    rw [show List.range rB.size = [0, 1, 2] by rw [T.zB]; rfl]
    obtain ⟨oB0, hoB0, hopB0, hgB0, hdB0⟩ := T.B0
    refine j_val hJ3 _ hSR hb hoB0 (yld hgB0 _) (fun k w hS => opv_move (x := .tmp cnt) (.inl hopB0)) (fun k w hS => ?_) hS
    rw [hdB0, hA.cnt]
    have zmv : (a1.put (some mv) (.int .i64 i)).eval (.tmp mv) = .int .i64 i := eval_put_eq _ (by rw [hA.size]; exact cL _ m1.2.1) _
    have hAm := hA.put (v := .int .i64 i) m1.2.1 (by first | assumption | (refine Ne.symm ?_; assumption)) (by first | assumption | (refine Ne.symm ?_; assumption)) (by first | assumption | (refine Ne.symm ?_; assumption)) (.inr (.inl ⟨_, rfl⟩))
    generalize a1.put (some mv) _ = am at zmv hAm
    obtain ⟨oB1, hoB1, hopB1, hgB1, hdB1⟩ := T.B1
    refine js_new hJ3 _ hSR hb hoB1 (yld hgB1 _) (fun w => run_allocI _ _ hopB1 w) (fun k2 w2 hS => ?_) hS
    obtain ⟨rfl, hr2, r1, r2⟩ := hS
    rw [hdB1]
    have hz2 := hr2.size
    have zb : (am.put (some bt) (.pointer (some ⟨w2.heap.size, 0, none⟩))).eval (.tmp bt) = .pointer (some ⟨w2.heap.size, 0, none⟩) := eval_put_eq _ (by rw [hAm.size]; exact cL _ m1.2.2.1) _
    have zmv2 : (am.put (some bt) (.pointer (some ⟨w2.heap.size, 0, none⟩))).eval (.tmp mv) = .int .i64 i := (eval_put_ne _ (by first | assumption | (refine Ne.symm ?_; assumption)) _).trans zmv
    have hAb := hAm.putB m1.2.2.1 (by first | assumption | (refine Ne.symm ?_; assumption)) (by first | assumption | (refine Ne.symm ?_; assumption)) (cL _ m1.2.2.1) w2.heap.size
    generalize am.put (some bt) _ = ab at zb zmv2 hAb
    generalize hbx : w2.heap.size = bx at *
    have hmem2 : ∀ l, (KSp Ow R0 wg m i).W l ∨ (KSp Ow R0 wg m i).R l → MemLoc w2.heap.size l := fun l hl => (hmem i l hl).mono (by omega)
    have hrp := rely_push (.cells #[.int .i64 0] 3) hmem2
    have hwb : ({ w2 with heap := w2.heap.push (.cells #[.int .i64 0] 3) } : World).heap[bx]? = some (.cells #[.int .i64 0] 3 (0, 0)) := by rw [← hbx]; exact Array.getElem?_push_size
    have S2R : ∀ u : Value, ∀ k w w₁, (k = (KSp Ow R0 wg m i).grow bx (bx + 1) ∧ Rely (KSp Ow R0 wg m i) w1 w ∧ w.cell? ⟨bx, 0, none⟩ = some u ∧ w.frozen? ⟨bx, 0, none⟩ = false ∧ RowAt w b2 ∧ RowAt w bx) → (Rely k w w₁ ∧ (famX X Rl w1 m0 Q).GR 0 w w₁) →
        (k = (KSp Ow R0 wg m i).grow bx (bx + 1) ∧ Rely (KSp Ow R0 wg m i) w1 w₁ ∧ w₁.cell? ⟨bx, 0, none⟩ = some u ∧ w₁.frozen? ⟨bx, 0, none⟩ = false ∧ RowAt w₁ b2 ∧ RowAt w₁ bx) := by
      rintro u k w w₁ ⟨rfl, h2, h3, h4, h5, h6⟩ ⟨hR, _⟩
      refine ⟨rfl, h2.trans (hR.mono (k := KSp Ow R0 wg m i) ⟨fun l hl => .inl hl, fun l hl => .inr hl⟩), (hR.cell _ (.inl (.inr ⟨Nat.le_refl _, Nat.lt_succ_self _⟩))).trans h3, (frozen_rely hR ?_).trans h4, h5.rely hR, h6.rely hR⟩
      obtain ⟨x, e, f, hx⟩ := h6
      exact (Array.getElem?_eq_some_iff.1 hx).1
    have hS2 : (KSp Ow R0 wg m i).grow bx (bx + 1) = (KSp Ow R0 wg m i).grow bx (bx + 1) ∧ Rely (KSp Ow R0 wg m i) w1 ({ w2 with heap := w2.heap.push (.cells #[.int .i64 0] 3) } : World) ∧ ({ w2 with heap := w2.heap.push (.cells #[.int .i64 0] 3) } : World).cell? ⟨bx, 0, none⟩ = some (.int .i64 0) ∧ ({ w2 with heap := w2.heap.push (.cells #[.int .i64 0] 3) } : World).frozen? ⟨bx, 0, none⟩ = false ∧ RowAt ({ w2 with heap := w2.heap.push (.cells #[.int .i64 0] 3) } : World) b2 ∧ RowAt ({ w2 with heap := w2.heap.push (.cells #[.int .i64 0] 3) } : World) bx :=
      ⟨rfl, hr2.trans hrp, by simp only [World.cell?, hwb]; simp, by simp only [World.frozen?, hwb]; simp, r2.rely hrp, ⟨_, _, _, hwb⟩⟩
    generalize ({ w2 with heap := w2.heap.push (.cells #[.int .i64 0] 3) } : World) = wb at hS2
    clear hwb hrp hr2 r1 r2 hmem2
    obtain ⟨oB2, hoB2, hopB2, hgB2, hdB2⟩ := T.B2
    refine hJ3.own _ _ _ rfl rfl fun w₁ hR => ?_
    obtain ⟨_, q2, q3, q4, q5, q6⟩ := S2R _ _ _ _ hS2 hR
    obtain ⟨s1, s2⟩ := op_store (P := Try.prog) (fn := b.fn) (k := (KSp Ow R0 wg m i).grow bx (bx + 1)) (w := w₁) hopB2 zb zmv2 ⟨fun c h => (by cases h), fun c h => (by cases h)⟩ (fun w => Try.sizeOf3 w) q3 q4 (.inr ⟨Nat.le_refl _, Nat.lt_succ_self _⟩)
    refine ⟨_, _, _, stepG_none hoB2 (yld hgB2 _) hb s1, s2, ?_⟩
    rw [hdB2, setCell_size, grow_self]
    have hbq : ∀ q : Addr, (KSp Ow R0 wg m i).W (.cell q) ∨ (KSp Ow R0 wg m i).R (.cell q) → q.block ≠ bx := fun q hq e => by
      have : q.block < w1.heap.size := hmem i _ hq
      omega
    have hrs := rely_set (k := KSp Ow R0 wg m i) (v := .int .i64 i) q3 rfl hbq
    obtain ⟨xb, eb, fb, hxb⟩ := q6
    have hgt := setCell_get (a := ⟨bx, 0, none⟩) (v := .int .i64 i) rfl hxb
    have hS3 : (KSp Ow R0 wg m i).grow bx (bx + 1) = (KSp Ow R0 wg m i).grow bx (bx + 1) ∧ Rely (KSp Ow R0 wg m i) w1 (w₁.setCell ⟨bx, 0, none⟩ (.int .i64 i)) ∧ (w₁.setCell ⟨bx, 0, none⟩ (.int .i64 i)).cell? ⟨bx, 0, none⟩ = some (.int .i64 i) ∧ (w₁.setCell ⟨bx, 0, none⟩ (.int .i64 i)).frozen? ⟨bx, 0, none⟩ = false ∧ RowAt (w₁.setCell ⟨bx, 0, none⟩ (.int .i64 i)) b2 ∧ RowAt (w₁.setCell ⟨bx, 0, none⟩ (.int .i64 i)) bx := by
      refine ⟨rfl, q2.trans hrs, ?_, ?_, q5.rely hrs, ⟨_, _, _, hgt⟩⟩
      · simp only [World.cell?, hxb] at q3
        simp at q3
        have hlt := (Array.getElem?_eq_some_iff.1 q3).1
        simp only [World.cell?, hgt, Option.isSome_none, Bool.false_eq_true, if_false]
        rw [Array.getElem?_setIfInBounds, if_pos rfl, if_pos hlt]
      · simp only [World.frozen?, hxb] at q4
        simp only [World.frozen?, hgt]
        exact q4
    generalize w₁.setCell ⟨bx, 0, none⟩ (.int .i64 i) = wc at hS3
    clear hgt hrs hxb hS2 s1 s2 q2 q3 q4 q5 hR
    refine js_regend hJ3 _ (S2R (.int .i64 i)) (fun k w hS => js_seq hJ3 _ (S2R (.int .i64 i)) (fun k w hS => ?_) hS) hS3
    -- Add
    refine j_ctl hJ3 (fun w => stepG_region) fun w₁ hR => ?_
    replace hS := S2R _ _ _ _ hS hR
    rw [show List.range rA.size = [0] by rw [T.zA]; rfl]
    obtain ⟨o0, ho0, hop0, hg0, hd0⟩ := T.A
    have hcall := op_call (P := Try.prog) (e := ab.eval) (n := 48) (first := #[]) (captured := #[]) hop0 rfl ⟨_, Try.func48, by kernel_rfl, by kernel_rfl⟩
    have hargs : (#[] ++ #[Operand.tmp g, .const (.int .i64 1)].map ab.eval ++ #[] : Array Value) = #[.pointer (some ⟨wg, 0, none⟩), .int .i64 1] := by
      simp [(hAb.old g c1).trans hg]
      rfl
    rw [hargs] at hcall
    refine j_ctl hJ3 (fun w => (stepG_enter ho0 (yld hg0 _) hb (hcall w).1).trans (by rw [listed, (hcall w).2, seen_empty])) fun w₂ hR => ?_
    replace hS := S2R _ _ _ _ hS hR
    obtain ⟨g0, q, hadd⟩ := add_script wg (b.at ab (.inRegion rA [0] :: .code (.region iG rG false) :: .inBlock bk :: .code (.region iI rI false) :: .inLoop (spawnCB iT iB iA iG iI bk ex rT rB rA rG rI tst) :: .inBlock ex :: .code (.seq (.region iW rW false) rest) :: K0)) cs
    refine wp_still ok (by simp) rfl q (wp_add ok hadd fun w' hr => ?_)
    replace hS := S2R _ _ _ _ hS ⟨hr, trivial⟩
    rw [show (b.at ab (.inRegion rA [0] :: .code (.region iG rG false) :: .inBlock bk :: .code (.region iI rI false) :: .inLoop (spawnCB iT iB iA iG iI bk ex rT rB rA rG rI tst) :: .inBlock ex :: .code (.seq (.region iW rW false) rest) :: K0)).finish (.tuple #[]) = b.at (ab.put o0.dst (.tuple #[])) (.inRegion rA [] :: .code (.region iG rG false) :: .inBlock bk :: .code (.region iI rI false) :: .inLoop (spawnCB iT iB iA iG iI bk ex rT rB rA rG rI tst) :: .inBlock ex :: .code (.seq (.region iW rW false) rest) :: K0) by rw [Frame.finish_at, ho0]; rfl, hd0]
    have zb2 : (ab.put (some da) (.tuple #[])).eval (.tmp bt) = .pointer (some ⟨bx, 0, none⟩) := (eval_put_ne _ (by first | assumption | (refine Ne.symm ?_; assumption)) _).trans zb
    have hA2 := hAb.put (v := .tuple #[]) m1.2.2.2.1 (by first | assumption | (refine Ne.symm ?_; assumption)) (by first | assumption | (refine Ne.symm ?_; assumption)) (by first | assumption | (refine Ne.symm ?_; assumption)) (.inr (.inr rfl))
    generalize ab.put (some da) (.tuple #[]) = a2 at hA2 zb2
    refine js_regend hJ0 _ (S2R (.int .i64 i)) (fun k w hS => ?_) hS
    -- go
    refine j_ctl hJ0 (fun w => stepG_region) fun w₁ hR => ?_
    replace hS := S2R _ _ _ _ hS hR
    rw [show List.range rG.size = [0, 1] by rw [T.zG]; rfl]
    obtain ⟨oM, hoM, hopM, hgM, hdM⟩ := T.G0
    refine j_val hJ0 _ (S2R (.int .i64 i)) hb hoM (yld hgM _) (v := .func (.func cf) #[] (vcap bx)) (fun k w hS => opv_run fun w => by rw [sp_mk _ _ hopM w]; rw [hcaps a2 bx hA2.old zb2]) (fun k w hS => ?_) hS
    rw [hdM]
    have z0 : (a2.put (some mk) (.func (.func cf) #[] (vcap bx))).eval (.tmp mk) = .func (.func cf) #[] (vcap bx) := eval_put_eq _ (by rw [hA2.size]; exact cL _ m1.2.2.2.2.1) _
    have hA3 := hA2.putC m1.2.2.2.2.1 (by first | assumption | (refine Ne.symm ?_; assumption)) (by first | assumption | (refine Ne.symm ?_; assumption)) (cL _ m1.2.2.2.2.1) bx
    generalize a2.put (some mk) _ = a3 at z0 hA3
    obtain ⟨oG, hoG, hopG, hgG, hdG⟩ := T.G1
    have hgo : ∀ w, (execOp a3.eval oG).runT Try.prog w #[] = (.ok (.spawn { target := .fn (.func cf) (vcap bx), args := #[] }) w, #[]) := fun w => sp_go0 _ _ hopG z0 w
    have hrun : ∀ w, (execOp a3.eval oG).run Try.prog w = .ok (.spawn { target := .fn (.func cf) (vcap bx), args := #[] }) w ∧ (execOp a3.eval oG).events Try.prog w #[] = #[] := fun w => by
      have := hgo w; rw [Sem.runT_eq] at this; exact Prod.mk.inj this
    have hkS := hS.1
    subst hkS
    have hbn : ∀ l, l = Loc.cell ⟨bx, 0, none⟩ → ¬ MemLoc w1.heap.size l := fun l e hm => by
      subst e
      have : bx < w1.heap.size := hm
      omega
    have hbw : ∀ l, l = Loc.cell ⟨bx, 0, none⟩ → ¬ WgLoc wg l := fun l e ⟨o, s, e2⟩ => by
      subst e
      cases e2
      omega
    refine wp_go ok (k' := KSp Ow R0 wg m (i + 1)) (kc := ⟨fun l => Ow i l ∨ l = .cell ⟨bx, 0, none⟩, R0, WgLoc wg⟩) rfl rfl (fun w₁ => (stepG_spawn hoG (yld hgG _) hb (hrun w₁).1 rfl).trans (by rw [listed, (hrun w₁).2, seen_empty]))
      (fun l ⟨j, h, h', hl⟩ => .inl ⟨j, by omega, h', hl⟩) (fun l hl => .inr hl) (fun l hl => .inr hl) (fun l hl => hl.elim (fun hl => .inl ⟨i, Nat.le_refl _, hi, hl⟩) (fun e => by subst e; exact .inr ⟨Nat.le_refl _, Nat.lt_succ_self _⟩)) (fun l hl => .inr hl) (fun l hl => .inr hl)
      (fun l ⟨j, h, h', hl⟩ hc => hc.elim (fun hc => hS0.dis j i h' hi (by omega) l hl hc) (fun e => hbn l e (hS0.ow j l h' hl).1)) (fun l ⟨j, h, h', hl⟩ hc => (hS0.ow j l h' hl).2.1 hc) (fun l hl hc => hl.elim (fun hl => (hS0.ow i l hi hl).2.1 hc) (fun e => hbn l e (hS0.r0 l hc).1))
      (fun l hl => ?_) (fun l hl => ?_) (fun l hl => hl) (fun l hl => hl) () (fun n' T K w t a b hG hL hn h8 hk hT hD h9 h10 => famX_go hG hn hk (fun l ⟨j, h, h', hl⟩ => .inl ⟨j, by omega, h', hl⟩) (fun l hl => hl.elim (fun hl => .inl ⟨i, Nat.le_refl _, hi, hl⟩) (fun e => by subst e; exact .inr ⟨Nat.le_refl _, Nat.lt_succ_self _⟩)) h9.2 h10.2) (fun w₁ hr _ => ?_) fun w₁ hr _ n' hn0 hnn => ?_
    · have : ¬ WgLoc wg l := by
        rcases hl with ⟨j, h, h', hl⟩ | hl
        · exact (hS0.ow j l h' hl).2.2
        · exact (hS0.r0 l hl).2
      exact ⟨this, this⟩
    · have : ¬ WgLoc wg l := by
        rcases hl with (hl | hl) | hl
        · exact (hS0.ow i l hi hl).2.2
        · exact hbw l hl
        · exact (hS0.r0 l hl).2
      exact ⟨this, this⟩
    · rw [hdG, put_none]
      obtain ⟨_, q2, _, _, q5, q6⟩ := hS
      have hr1 : Rely (KSp Ow R0 wg m (i + 1)) w1 w₁ := (q2.mono (k := KSp Ow R0 wg m (i + 1)) ⟨fun l ⟨j, h, h', hl⟩ => ⟨j, by omega, h', hl⟩, fun l hl => .inr hl⟩).trans (hr.mono (k := KSp Ow R0 wg m (i + 1)) ⟨fun l ⟨j, h, h', hl⟩ => .inl ⟨j, by omega, h', hl⟩, fun l hl => .inr hl⟩)
      have hSr : ∀ k w w₁, (k = KSp Ow R0 wg m (i + 1) ∧ Rely (KSp Ow R0 wg m (i + 1)) w1 w ∧ RowAt w bx) → (Rely k w w₁ ∧ (famX X Rl w1 m0 Q).GR 0 w w₁) → k = KSp Ow R0 wg m (i + 1) ∧ Rely (KSp Ow R0 wg m (i + 1)) w1 w₁ ∧ RowAt w₁ bx := fun k w w₁ h hR => ⟨h.1, h.2.1.trans (h.1 ▸ hR.1), h.2.2.rely hR.1⟩
      refine js_regend hJr _ hSr (fun k w hS => ?_) ⟨rfl, hr1, q6.rely hr⟩
      refine js_inBlock hJr _ hSr (fun k w hS => ?_) hS
      -- the counter
      refine j_ctl hJr (fun w => stepG_region) fun w₁ hR => ?_
      replace hS := hSr _ _ _ hS hR
      rw [show List.range rI.size = [0, 1] by rw [T.zI]; rfl]
      obtain ⟨o1, ho1, hop1, hg1, hd1⟩ := T.I0
      have wadd : IntKind.i64.wrap ((i : Int) + 1) = ((i + 1 : Nat) : Int) := by rw [IntKind.wrap_i64]; omega
      refine j_val hJr _ hSr hb ho1 (yld hg1 _) (fun k w hS => opv_add (P := Try.prog) (fn := b.fn) (k := k) (w := w) hop1 hA3.cnt rfl sp_under_int) (fun k w hS => ?_) hS
      rw [hd1, wadd]
      have z5 : (a3.put (some inc) (.int .i64 (i + 1 : Nat))).eval (.tmp inc) = .int .i64 (i + 1 : Nat) := eval_put_eq _ (by rw [hA3.size]; exact cL _ m1.2.2.2.2.2.1) _
      have hA4 := hA3.put (v := .int .i64 (i + 1 : Nat)) m1.2.2.2.2.2.1 (by first | assumption | (refine Ne.symm ?_; assumption)) (by first | assumption | (refine Ne.symm ?_; assumption)) (by first | assumption | (refine Ne.symm ?_; assumption)) (.inr (.inl ⟨_, rfl⟩))
      generalize a3.put (some inc) _ = a4 at z5 hA4
      obtain ⟨o2, ho2, hop2, hg2, hd2⟩ := T.I1
      refine j_val hJr _ hSr hb ho2 (yld hg2 _) (fun k w hS => opv_move (x := .tmp inc) (.inl hop2)) (fun k w hS => ?_) hS
      rw [hd2, z5]
      refine js_regend hJr _ hSr (fun k w hS => js_inLoop hJr _ hSr (fun k w hS => ?_) hS) hS
      obtain ⟨rfl, hS, hrw⟩ := hS
      refine ih (i + 1) _ w bx bx (by omega) ⟨(put_size _ _ _).trans hA4.size, hA4.d, eval_put_eq _ (by rw [hA4.size]; exact cL _ m1.2.2.2.2.2.2.1) _, fun t ht => (eval_put_ne _ (fun e => ht (by rw [← e]; exact m1.2.2.2.2.2.2.1)) _).trans (hA4.old t ht), fun t h1 h2 => ?_, ?_, ?_⟩ hS (by omega) (by omega) hrw hrw
      · by_cases e : cnt = t
        · subst e; rw [eval_put_eq _ (by rw [hA4.size]; exact cL _ m1.2.2.2.2.2.2.1)]; exact .inr (.inr (.inl ⟨_, rfl⟩))
        · rw [eval_put_ne _ e]; exact hA4.new t h1 h2
      · rw [eval_put_ne _ (by first | assumption | (refine Ne.symm ?_; assumption))]; exact hA4.box
      · rw [eval_put_ne _ (by first | assumption | (refine Ne.symm ?_; assumption))]; exact hA4.clo
    · obtain ⟨_, q2, q3, _, _, _⟩ := hS
      have hr2 : Rely ⟨Ow i, R0, fun _ => False⟩ w1 w₁ := (q2.mono (k := ⟨Ow i, R0, fun _ => False⟩) ⟨fun l hl => ⟨i, Nat.le_refl _, hi, hl⟩, fun l hl => .inr hl⟩).trans (hr.mono (k := ⟨Ow i, R0, fun _ => False⟩) ⟨fun l hl => .inl ⟨i, Nat.le_refl _, hi, hl⟩, fun l hl => .inr hl⟩)
      exact hW i n' w₁ bx hi (by omega) hn0 (by omega) hr2 ((hr.cell _ (.inl (.inr ⟨Nat.le_refl _, Nat.lt_succ_self _⟩))).trans q3)
end
end Go.Proofs.Yticdjkkcfdbdcaa
