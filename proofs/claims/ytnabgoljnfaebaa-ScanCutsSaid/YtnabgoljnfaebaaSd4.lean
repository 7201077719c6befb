/- The walk of scan.side among its workers: the loop. No conditions but those named. -/
import Derived.Test.YtnabgoljnfaebaaSd3
namespace Go.Proofs.Ytnabgoljnfaebaa
open Go.Conc Go.ConcN Go.RowKit
theorem run_mk4 (e : Operand → Value) (o : Oper) (hop : o.op = .makeFunc (.func 27) #[] #[.tmp 4, .tmp 3, .tmp 5, .tmp 2]) (w : World) : (execOp e o).runT Try.prog w #[] = (.ok (.value (.func (.func 27) #[] #[e (.tmp 4), e (.tmp 3), e (.tmp 5), e (.tmp 2)])) w, #[]) := by simp [go_sem, hop, execOp]
theorem run_go0 (e : Operand → Value) (o : Oper) {x : Operand} {f : FuncId} {cap : Array Value} (hop : o.op = .go { callee := .value x, args := #[], argTypes := #[] }) (hx : e x = .func (.func f) #[] cap) (w : World) : (execOp e o).runT Try.prog w #[] = (.ok (.spawn { target := .fn (.func f) cap, args := #[] }) w, #[]) := by simp [go_sem, hop, hx, execOp]
/-- What the closure does, in company. -/
def Closure (cf : FuncId) (cap : Array Value) (cuts : Nat → Nat) (m : Nat) (Pre Pst : Nat → LK → World → Prop) : Prop :=
  ∀ (J : LK → Goroutine → World → Prop) (main : Bool) (R : LK → World → World → Prop), JOk Try.prog main R J → ∀ j, j < m → ∀ c' cs k w, Pre j k w → (∀ k w, Pst j k w → J k (G (c'.finish (.tuple #[])) cs) w) → J k (G (Frame.enter Try.prog cf (#[.int .i64 j, .int .i64 (cuts j), .int .i64 (cuts (j + 1))] ++ cap) .normal) (c' :: cs)) w
/-- The world at the loop: whose is what. -/
structure Forked (Ow : Nat → Loc → Prop) (R0 : Loc → Prop) (wg fbx cbx cr : Nat) (cf : FuncId) (cap : Array Value) (cc m : Nat) (cuts : Nat → Nat) (Pre : Nat → LK → World → Prop) (w1 : World) : Prop where
  glob : Try.prog.globals.size ≤ w1.heap.size
  ow : ∀ j l, j < m → Ow j l → MemLoc w1.heap.size l ∧ ¬ R0 l ∧ ¬ WgLoc wg l
  r0 : ∀ l, R0 l → MemLoc w1.heap.size l ∧ ¬ WgLoc wg l
  dis : ∀ i j, i < m → j < m → i ≠ j → ∀ l, Ow i l → ¬ Ow j l
  wg : wg < w1.heap.size
  f : w1.cell? ⟨fbx, 0, none⟩ = some (.func (.func cf) #[] cap) ∧ R0 (.cell ⟨fbx, 0, none⟩)
  c : w1.cell? ⟨cbx, 0, none⟩ = some (.slice (some ⟨cr, 0, none⟩) (m + 1) cc) ∧ R0 (.cell ⟨cbx, 0, none⟩)
  cut : ∀ j, j ≤ m → w1.cell? ⟨cr, j, none⟩ = some (.int .i64 (cuts j)) ∧ R0 (.cell ⟨cr, j, none⟩)
  pre : ∀ j, j < m → ∀ k' w', (∀ l, Ow j l → k'.W l) → (∀ l, R0 l → k'.R l) → (∀ l, k'.W l ∨ k'.R l → MemLoc w'.heap.size l) → Rely ⟨Ow j, R0, fun _ => False⟩ w1 w' → Pre j k' w'
section
variable {X Rl : Loc → Prop} {w1 : World} {m0 p0 m wg : Nat} {Shun : Loc → Prop} {c' : Frame} {cs : List Frame} {Pre Pst : Nat → LK → World → Prop} {fbx cbx cr : Nat} {cf : FuncId} {cap : Array Value} {cc : Nat} {cuts : Nat → Nat} {Ow : Nat → Loc → Prop} {R0 : Loc → Prop}
theorem KS_mem (hF : Forked Ow R0 wg fbx cbx cr cf cap cc m cuts Pre w1) (i : Nat) : ∀ l, (KS Ow R0 wg m i).W l ∨ (KS Ow R0 wg m i).R l → MemLoc w1.heap.size l := by
  rintro l (⟨j, _, hj, hl⟩ | hl)
  · exact (hF.ow j l hj hl).1
  · exact (hF.r0 l hl).1
set_option maxRecDepth 100000 in
/-- Add, of one. -/
theorem sd_add (ok : (famX X Rl w1 m0 Pst).Ok wg) {i r : Nat} {K : List Item} {a : Act} (ha : AS wg fbx cbx m i a) {S : LK → World → Prop} (hSR : ∀ k w w₁, S k w → Rely k w w₁ → S k w₁) {k : LK} {w : World}
    (hn : ∀ a1 k1 w', AS wg fbx cbx m i a1 → a1.eval (.tmp 5) = a.eval (.tmp 5) → S k1 w' → WP (wgProto Try.prog (famX X Rl w1 m0 Pst) 52 wg m0 p0 m Shun (fun g' _ => SideEnd c' cs g')) 0 k1 (.main (.sp (r + 1) 0)) (G (((Go.Conc.base 15)).at a1 K) (c' :: cs)) w') (h0 : S k w) : WP (wgProto Try.prog (famX X Rl w1 m0 Pst) 52 wg m0 p0 m Shun (fun g' _ => SideEnd c' cs g')) 0 k (.main (.sp (r + 1) 3)) (G (((Go.Conc.base 15)).at a (.code (.region 5 (opsOf Try.f15 5) false) :: K)) (c' :: cs)) w := by
  have hJ3 : JOk Try.prog (0 == 0) _ _ := wp_jok (P := Try.prog) (ty := 52) (m0 := m0) (p0 := p0) (tot := m) (Shun := Shun) (Anc := fun g' _ => SideEnd c' cs g') ok 0 (s := .main (.sp (r + 1) 3)) id
  have hJ0 : JOk Try.prog (0 == 0) _ _ := wp_jok (P := Try.prog) (ty := 52) (m0 := m0) (p0 := p0) (tot := m) (Shun := Shun) (Anc := fun g' _ => SideEnd c' cs g') ok 0 (s := .main (.sp (r + 1) 0)) id
  refine j_ctl hJ3 (fun w => stepG_region) fun w₁ hR => ?_
  have hsz : List.range (opsOf Try.f15 5).size = [0] := by kernel_rfl
  rw [hsz]
  replace h0 := hSR _ _ _ h0 hR.1
  clear hR
  obtain ⟨o0, ho0, hop0, hg0, hd0⟩ := op_ex (ops := opsOf Try.f15 5) (i := 0) (p := .call { callee := .value (.func 26), args := #[.tmp 4, .const (.int .i64 1)], argTypes := #[52, 3] }) (d := some 12) (by kernel_rfl)
  have hcall := op_call (P := Try.prog) (e := a.eval) (n := 26) (first := #[]) (captured := #[]) hop0 rfl ⟨_, Try.func26, by kernel_rfl, by kernel_rfl⟩
  have hargs : (#[] ++ #[Operand.tmp 4, .const (.int .i64 1)].map a.eval ++ #[] : Array Value) = #[.pointer (some ⟨wg, 0, none⟩), .int .i64 1] := by
    simp [ha.t4]
    rfl
  rw [hargs] at hcall
  refine j_ctl hJ3 (fun w => (stepG_enter ho0 (yld hg0 _) bS_kind (hcall w).1).trans (by rw [listed, (hcall w).2, seen_empty])) fun w₂ hR => ?_
  replace h0 := hSR _ _ _ h0 hR.1
  clear hR
  obtain ⟨g0, q, hadd⟩ := add_script wg (((Go.Conc.base 15)).at a (.inRegion (opsOf Try.f15 5) [0] :: K)) (c' :: cs)
  refine wp_still ok (by simp) rfl q (wp_add ok hadd fun w' hr => ?_)
  replace h0 := hSR _ _ _ h0 hr
  rw [show (((Go.Conc.base 15)).at a (.inRegion (opsOf Try.f15 5) [0] :: K)).finish (.tuple #[]) = ((Go.Conc.base 15)).at (a.put o0.dst (.tuple #[])) (.inRegion (opsOf Try.f15 5) [] :: K) by rw [Frame.finish_at, ho0]; rfl, hd0]
  exact js_regend hJ0 S (fun k w w₁ h hR => hSR _ _ _ h hR.1) (fun k w hS => hn _ k w (ha.put (by decide)) (eval_put_ne _ (by decide) _) hS) h0
/-- The go statement. -/
theorem sd_go (ok : (famX X Rl w1 m0 Pst).Ok wg) (hpre : ∀ j k w w₁, Pre j k w → Rely k w w₁ → Pre j k w₁) (hpst : ∀ j k w w₁, Pst j k w → Rely k w w₁ → Pst j k w₁) (hm : m ≤ 16)
    (hcf : ∃ g, Try.prog.funcs[cf]? = some g ∧ (g.name == "runtime.NumGoroutine") = false ∧ g.body.isNone = false) (hC : Closure cf cap cuts m Pre Pst) (hF : Forked Ow R0 wg fbx cbx cr cf cap cc m cuts Pre w1)
    {i r n : Nat} (hir : m = i + (r + 1)) {K : List Item} {a : Act} (ha : AS wg fbx cbx m i a) (h5 : a.eval (.tmp 5) = .pointer (some ⟨n, 0, none⟩)) {k : LK} {w : World}
    (hn : ∀ a1 w', AS wg fbx cbx m i a1 → Rely (KS Ow R0 wg m (i + 1)) w1 w' → WP (wgProto Try.prog (famX X Rl w1 m0 Pst) 52 wg m0 p0 m Shun (fun g' _ => SideEnd c' cs g')) 0 (KS Ow R0 wg m (i + 1)) (.main (.sp r 3)) (G (((Go.Conc.base 15)).at a1 K) (c' :: cs)) w') (h0 : Boxed (KS Ow R0 wg m i) w1 n (.int .i64 i) k w) : WP (wgProto Try.prog (famX X Rl w1 m0 Pst) 52 wg m0 p0 m Shun (fun g' _ => SideEnd c' cs g')) 0 k (.main (.sp (r + 1) 0)) (G (((Go.Conc.base 15)).at a (.code (.region 6 (opsOf Try.f15 6) false) :: K)) (c' :: cs)) w := by
  have hJ0 : JOk Try.prog (0 == 0) _ _ := wp_jok (P := Try.prog) (ty := 52) (m0 := m0) (p0 := p0) (tot := m) (Shun := Shun) (Anc := fun g' _ => SideEnd c' cs g') ok 0 (s := .main (.sp (r + 1) 0)) id
  have hJr : JOk Try.prog (0 == 0) _ _ := wp_jok (P := Try.prog) (ty := 52) (m0 := m0) (p0 := p0) (tot := m) (Shun := Shun) (Anc := fun g' _ => SideEnd c' cs g') ok 0 (s := .main (.sp r 3)) id
  have hi : i < m := by omega
  refine j_ctl hJ0 (fun w => stepG_region) fun w₁ hR => ?_
  have hsz : List.range (opsOf Try.f15 6).size = [0, 1] := by kernel_rfl
  rw [hsz]
  replace h0 := h0.r hR.1
  clear hR
  obtain ⟨o0, ho0, hop0, hg0, hd0⟩ := op_ex (ops := opsOf Try.f15 6) (i := 0) (p := .makeFunc (.func 27) #[] #[.tmp 4, .tmp 3, .tmp 5, .tmp 2]) (d := some 13) (by kernel_rfl)
  refine j_val hJ0 (fun k w => Boxed (KS Ow R0 wg m i) w1 n (.int .i64 i) k w) (fun k w w₁ h hR => h.r hR.1) bS_kind ho0 (yld hg0 _) (v := .func (.func 27) #[] #[.pointer (some ⟨wg, 0, none⟩), .pointer (some ⟨fbx, 0, none⟩), .pointer (some ⟨n, 0, none⟩), .pointer (some ⟨cbx, 0, none⟩)]) (fun k w hS => opv_run fun w => by rw [run_mk4 _ _ hop0 w, ha.t4, ha.t3, ha.t2, h5]) (fun k w hB => ?_) h0
  rw [hd0]
  have z0 : (a.put (some 13) (.func (.func 27) #[] #[.pointer (some ⟨wg, 0, none⟩), .pointer (some ⟨fbx, 0, none⟩), .pointer (some ⟨n, 0, none⟩), .pointer (some ⟨cbx, 0, none⟩)])).eval (.tmp 13) = .func (.func 27) #[] #[.pointer (some ⟨wg, 0, none⟩), .pointer (some ⟨fbx, 0, none⟩), .pointer (some ⟨n, 0, none⟩), .pointer (some ⟨cbx, 0, none⟩)] := eval_put_eq _ (by rw [ha.size]; decide) _
  have ha1 : AS wg fbx cbx m i (a.put (some 13) (.func (.func 27) #[] #[.pointer (some ⟨wg, 0, none⟩), .pointer (some ⟨fbx, 0, none⟩), .pointer (some ⟨n, 0, none⟩), .pointer (some ⟨cbx, 0, none⟩)])) := ha.put (by decide)
  generalize a.put (some 13) _ = a1 at z0 ha1
  obtain ⟨o1, ho1, hop1, hg1, hd1⟩ := op_ex (ops := opsOf Try.f15 6) (i := 1) (p := .go { callee := .value (.tmp 13), args := #[], argTypes := #[] }) (d := none) (by kernel_rfl)
  have hgo : ∀ w, (execOp a1.eval o1).runT Try.prog w #[] = (.ok (.spawn { target := .fn (.func 27) #[.pointer (some ⟨wg, 0, none⟩), .pointer (some ⟨fbx, 0, none⟩), .pointer (some ⟨n, 0, none⟩), .pointer (some ⟨cbx, 0, none⟩)], args := #[] }) w, #[]) := fun w => run_go0 _ _ hop1 z0 w
  have hrun : ∀ w, (execOp a1.eval o1).run Try.prog w = .ok (.spawn { target := .fn (.func 27) #[.pointer (some ⟨wg, 0, none⟩), .pointer (some ⟨fbx, 0, none⟩), .pointer (some ⟨n, 0, none⟩), .pointer (some ⟨cbx, 0, none⟩)], args := #[] }) w ∧ (execOp a1.eval o1).events Try.prog w #[] = #[] := fun w => by
    have := hgo w; rw [Sem.runT_eq] at this; exact Prod.mk.inj this
  obtain ⟨rfl, h2, h3, h4, h6, h7⟩ := hB
  have hnw : ∀ l, WgLoc wg l → ¬ (l = .cell ⟨n, 0, none⟩) := fun l ⟨o, s, hl⟩ e => by
    rw [hl] at e
    have hwg := hF.wg
    have := congrArg (fun x : Loc => match x with | .cell a => a.block | _ => 0) e
    simp only at this
    omega
  have hnm : ∀ l, MemLoc w1.heap.size l → ¬ (l = .cell ⟨n, 0, none⟩) := fun l hl e => by
    subst e
    have : n < w1.heap.size := hl
    omega
  refine wp_go ok (k' := KS Ow R0 wg m (i + 1)) (kc := ⟨Ow i, fun l => R0 l ∨ l = .cell ⟨n, 0, none⟩, WgLoc wg⟩) rfl rfl (fun w₁ => (stepG_spawn ho1 (yld hg1 _) bS_kind (hrun w₁).1 rfl).trans (by rw [listed, (hrun w₁).2, seen_empty]))
    (fun l ⟨j, h, h', hl⟩ => .inl ⟨j, by omega, h', hl⟩) (fun l hl => .inr hl) (fun l hl => .inr hl) (fun l hl => .inl ⟨i, Nat.le_refl _, hi, hl⟩) (fun l hl => hl.elim .inr fun e => .inl (.inr (by rw [e]; exact new_cell n))) (fun l hl => .inr hl)
    (fun l ⟨j, h, h', hl⟩ => hF.dis j i h' hi (by omega) l hl) (fun l ⟨j, h, h', hl⟩ hc => hc.elim (hF.ow j l h' hl).2.1 (hnm l (hF.ow j l h' hl).1)) (fun l hl hc => (hF.ow i l hi hl).2.1 hc)
    (fun l hl => ?_) (fun l hl => ?_) (fun l hl => hl) (fun l hl => hl) () (fun n' T K w t a b hG _ hn h8 hk hT _ h9 h10 => famX_go (k' := KS Ow R0 wg m (i + 1)) (kc := ⟨Ow i, fun l => R0 l ∨ l = .cell ⟨n, 0, none⟩, WgLoc wg⟩) hG hn hk (fun l ⟨j, h, h', hl⟩ => .inl ⟨j, by omega, h', hl⟩) (fun l hl => .inl ⟨i, Nat.le_refl _, hi, hl⟩) h9.2 h10.2) (fun w₁ hr _ => ?_) fun w₁ hr _ n' hn0 hnn => ?_
  · have : ¬ WgLoc wg l := by
      rcases hl with ⟨j, h, h', hl⟩ | hl
      · exact (hF.ow j l h' hl).2.2
      · exact (hF.r0 l hl).2
    exact ⟨this, this⟩
  · have : ¬ WgLoc wg l := by
      rcases hl with hl | hl | hl
      · exact (hF.ow i l hi hl).2.2
      · exact (hF.r0 l hl).2
      · exact fun hw => hnw l hw hl
    exact ⟨this, this⟩
  · rw [hd1, put_none]
    have hr1 : Rely (KS Ow R0 wg m (i + 1)) w1 w₁ := (h2.mono (k := KS Ow R0 wg m (i + 1)) ⟨fun l ⟨j, h, h', hl⟩ => ⟨j, by omega, h', hl⟩, fun l hl => .inr hl⟩).trans (hr.mono (k := KS Ow R0 wg m (i + 1)) ⟨fun l ⟨j, h, h', hl⟩ => .inl ⟨j, by omega, h', hl⟩, fun l hl => .inr hl⟩)
    refine js_regend hJr (fun k w => k = KS Ow R0 wg m (i + 1) ∧ Rely (KS Ow R0 wg m (i + 1)) w1 w) (fun k w w₁ h hR => ⟨h.1, h.2.trans (h.1 ▸ hR.1)⟩) (fun k w hS => ?_) ⟨rfl, hr1⟩
    obtain ⟨rfl, hS⟩ := hS
    exact hn a1 w ha1 hS
  · have hr2 : Rely ⟨Ow i, R0, fun _ => False⟩ w1 w₁ := (h2.mono (k := ⟨Ow i, R0, fun _ => False⟩) ⟨fun l hl => ⟨i, Nat.le_refl _, hi, hl⟩, fun l hl => .inr hl⟩).trans (hr.mono (k := ⟨Ow i, R0, fun _ => False⟩) ⟨fun l hl => .inl ⟨i, Nat.le_refl _, hi, hl⟩, fun l hl => .inr hl⟩)
    have hmw : ∀ l, Ow i l ∨ (R0 l ∨ l = .cell ⟨n, 0, none⟩) → MemLoc w₁.heap.size l := by
      rintro l (hl | hl | hl)
      · exact (hF.ow i l hi hl).1.mono hr2.size
      · exact (hF.r0 l hl).1.mono hr2.size
      · subst hl; exact Nat.lt_of_lt_of_le h4 hr.size
    refine sd_worker ok hpre hpst hm hcf hC hi (by omega) hn0 ⟨⟨Nat.le_trans hF.glob hr2.size, hmw, ⟨(hr2.cell _ (.inr hF.f.2)).trans hF.f.1, .inr (.inl hF.f.2)⟩, ⟨(hr.cell _ (.inl (.inr (new_cell n)))).trans h6, .inr (.inr rfl)⟩, ⟨(hr2.cell _ (.inr hF.c.2)).trans hF.c.1, .inr (.inl hF.c.2)⟩, ⟨(hr2.cell _ (.inr (hF.cut i (by omega)).2)).trans (hF.cut i (by omega)).1, .inr (.inl (hF.cut i (by omega)).2)⟩, ⟨(hr2.cell _ (.inr (hF.cut (i + 1) (by omega)).2)).trans (hF.cut (i + 1) (by omega)).1, .inr (.inl (hF.cut (i + 1) (by omega)).2)⟩⟩, hF.pre i hi _ _ (fun l hl => hl) (fun l hl => .inl hl) hmw hr2⟩
set_option maxRecDepth 100000 in
/-- The loop and the wait. -/
theorem sd_loop (ok : (famX X Rl w1 m0 Pst).Ok wg) (hpre : ∀ j k w w₁, Pre j k w → Rely k w w₁ → Pre j k w₁) (hpst : ∀ j k w w₁, Pst j k w → Rely k w w₁ → Pst j k w₁) (hm : m ≤ 16)
    (hcf : ∃ g, Try.prog.funcs[cf]? = some g ∧ (g.name == "runtime.NumGoroutine") = false ∧ g.body.isNone = false) (hC : Closure cf cap cuts m Pre Pst) (hF : Forked Ow R0 wg fbx cbx cr cf cap cc m cuts Pre w1) :
    ∀ (r i : Nat) (a : Act) (w : World), m = i + r → AS wg fbx cbx m i a → Rely (KS Ow R0 wg m i) w1 w →
      WP (wgProto Try.prog (famX X Rl w1 m0 Pst) 52 wg m0 p0 m Shun (fun g' _ => SideEnd c' cs g')) 0 (KS Ow R0 wg m i) (.main (.sp r 3)) (G (((Go.Conc.base 15)).at a [.code LBS, .inLoop LBS, .inBlock 0, .code (.region 8 (opsOf Try.f15 8) false)]) (c' :: cs)) w := by
  intro r
  induction r with
  | zero =>
    intro i a w hir ha hr
    have hJ3 : JOk Try.prog (0 == 0) _ _ := wp_jok (P := Try.prog) (ty := 52) (m0 := m0) (p0 := p0) (tot := m) (Shun := Shun) (Anc := fun g' _ => SideEnd c' cs g') ok 0 (s := .main (.sp 0 3)) id
    have hSR : ∀ k w w₁, (k = KS Ow R0 wg m i ∧ Rely (KS Ow R0 wg m i) w1 w) → (Rely k w w₁ ∧ (famX X Rl w1 m0 Pst).GR 0 w w₁) → k = KS Ow R0 wg m i ∧ Rely (KS Ow R0 wg m i) w1 w₁ := fun k w w₁ h hR => ⟨h.1, h.2.trans (h.1 ▸ hR.1)⟩
    refine sd_test hJ3 hSR ha (fun a1 k w hA hS => ?_) ⟨rfl, hr⟩
    rw [decide_eq_false (by omega)]
    refine js_exit hJ3 _ hSR (K1 := [.code (.region 8 (opsOf Try.f15 8) false)]) rfl (fun k w hS => ?_) hS
    refine j_ctl hJ3 (fun w => stepG_region) fun w₁ hR => ?_
    have hsz : List.range (opsOf Try.f15 8).size = [0] := by kernel_rfl
    rw [hsz]
    obtain ⟨o0, ho0, hop0, hg0, hd0⟩ := op_ex (ops := opsOf Try.f15 8) (i := 0) (p := .call { callee := .value (.func 29), args := #[.tmp 4], argTypes := #[52] }) (d := some 15) (by kernel_rfl)
    have hcall := op_call (P := Try.prog) (e := a1.eval) (n := 29) (first := #[]) (captured := #[]) hop0 rfl ⟨_, Try.func29, by kernel_rfl, by kernel_rfl⟩
    have hargs : (#[] ++ #[Operand.tmp 4].map a1.eval ++ #[] : Array Value) = #[.pointer (some ⟨wg, 0, none⟩)] := by simp [hA.t4]
    rw [hargs] at hcall
    refine j_ctl hJ3 (fun w => (stepG_enter ho0 (yld hg0 _) bS_kind (hcall w).1).trans (by rw [listed, (hcall w).2, seen_empty])) fun w₂ hR => ?_
    obtain ⟨g0, q, hwt⟩ := wait_script wg (((Go.Conc.base 15)).at a1 [.inRegion (opsOf Try.f15 8) [0]]) (c' :: cs)
    refine wp_still ok (by simp) rfl q (wp_wait ok hwt _ fun w' hr => ?_)
    rw [show (((Go.Conc.base 15)).at a1 [.inRegion (opsOf Try.f15 8) [0]]).finish (.tuple #[]) = ((Go.Conc.base 15)).at (a1.put o0.dst (.tuple #[])) [.inRegion (opsOf Try.f15 8) []] by rw [Frame.finish_at, ho0]; rfl]
    exact WP.stop rfl rfl fun w₁ _ _ => ⟨rfl, _, rfl, by rw [hd0]; exact hA.d⟩
  | succ r ih =>
    intro i a w hir ha hr
    have hJ3 : JOk Try.prog (0 == 0) _ _ := wp_jok (P := Try.prog) (ty := 52) (m0 := m0) (p0 := p0) (tot := m) (Shun := Shun) (Anc := fun g' _ => SideEnd c' cs g') ok 0 (s := .main (.sp (r + 1) 3)) id
    have hJ0 : JOk Try.prog (0 == 0) _ _ := wp_jok (P := Try.prog) (ty := 52) (m0 := m0) (p0 := p0) (tot := m) (Shun := Shun) (Anc := fun g' _ => SideEnd c' cs g') ok 0 (s := .main (.sp (r + 1) 0)) id
    have hJr : JOk Try.prog (0 == 0) _ _ := wp_jok (P := Try.prog) (ty := 52) (m0 := m0) (p0 := p0) (tot := m) (Shun := Shun) (Anc := fun g' _ => SideEnd c' cs g') ok 0 (s := .main (.sp r 3)) id
    have hSR : ∀ i k w w₁, (k = KS Ow R0 wg m i ∧ Rely (KS Ow R0 wg m i) w1 w) → (Rely k w w₁ ∧ (famX X Rl w1 m0 Pst).GR 0 w w₁) → k = KS Ow R0 wg m i ∧ Rely (KS Ow R0 wg m i) w1 w₁ := fun i k w w₁ h hR => ⟨h.1, h.2.trans (h.1 ▸ hR.1)⟩
    refine sd_test hJ3 (hSR i) ha (fun a1 k w hA hS => ?_) ⟨rfl, hr⟩
    rw [decide_eq_true (by omega)]
    refine js_skip hJ3 _ (hSR i) (fun k w hS => js_seq hJ3 _ (hSR i) (fun k w hS => js_block hJ3 _ (hSR i) (fun k w hS => js_seq hJ3 _ (hSR i) (fun k w hS => ?_) hS) hS) hS) hS
    refine sd_box hJ3 (KS_mem hF i) hA (fun n a2 k2 w2 hA2 h5 hB => ?_) hS
    have hBR : ∀ k w w₁, Boxed (KS Ow R0 wg m i) w1 n (.int .i64 i) k w → Rely k w w₁ → Boxed (KS Ow R0 wg m i) w1 n (.int .i64 i) k w₁ := fun k w w₁ h hR => h.r hR
    refine js_seq hJ3 _ (fun k w w₁ h hR => hBR k w w₁ h hR.1) (fun k w hB => ?_) hB
    refine sd_add ok hA2 hBR (fun a3 k3 w3 hA3 e5 hB => ?_) hB
    refine sd_go ok hpre hpst hm hcf hC hF hir hA3 (e5.trans h5) (fun a4 w4 hA4 hr4 => ?_) hB
    refine js_inBlock hJr _ (hSR (i + 1)) (fun k w hS => ?_) ⟨rfl, hr4⟩
    refine sd_inc hJr (hSR (i + 1)) (by omega) hA4 (fun a5 k w hA5 hS => ?_) hS
    refine js_inLoop hJr _ (hSR (i + 1)) (fun k w hS => ?_) hS
    obtain ⟨rfl, hS⟩ := hS
    exact ih (i + 1) a5 w (by omega) hA5 hS
end
end Go.Proofs.Ytnabgoljnfaebaa
