/- scan.side whole, goroutine 0 beside leavers: behind it every part is done. No conditions but those named. -/
import Derived.Test.YtnabgoljnfaebaaSd4
namespace Go.Proofs.Ytnabgoljnfaebaa
open Go.Conc Go.ConcN Go.RowKit
/-- What stands. -/
def Keep (n m : Nat) (Ow : Nat → Loc → Prop) (l : Loc) : Prop := MemLoc n l ∧ ∀ j, j < m → ¬ Ow j l
section
variable {Post : Value → World → Prop} {n0 : Nat} {W0 : World} {m : Nat} {c' : Frame} {cs : List Frame} {Pre Pst : Nat → LK → World → Prop} {cr : Nat} {cf : FuncId} {cap : Array Value} {cc : Nat} {cuts : Nat → Nat} {Ow : Nat → Loc → Prop} {Sh : Loc → Prop}
set_option maxRecDepth 100000 in
theorem side_fork {R0 : Loc → Prop} {fbx cbx wg : Nat} (hpre : ∀ j k w w₁, Pre j k w → Rely k w w₁ → Pre j k w₁) (hpst : ∀ j k w w₁, Pst j k w → Rely k w w₁ → Pst j k w₁) (hm : m ≤ 16)
    (hcf : ∃ g, Try.prog.funcs[cf]? = some g ∧ (g.name == "runtime.NumGoroutine") = false ∧ g.body.isNone = false) (hC : Closure cf cap cuts m Pre Pst) {k0 k : LK} {w0 w : World} (hF : Forked Ow R0 wg fbx cbx cr cf cap cc m cuts Pre w)
    (hn0 : n0 ≤ w0.heap.size) (hw0 : w0.heap.size ≤ wg) (hr0 : Rely (keepK (Keep w0.heap.size m Ow)) w0 w) (hk0 : ∀ l, k0.W l ∨ k0.R l → MemLoc w0.heap.size l) (hOw : ∀ j l, j < m → Ow j l → k0.W l) (hR0 : ∀ l, R0 l → k.W l ∨ k.R l)
    (hkW : ∀ l, k0.W l → k.W l) (hkR : ∀ l, k0.R l → k.R l) (hwk : ∀ l, WgLoc wg l → k.W l) (hwg : WgIs 52 wg w 0 0) {a : Act} (ha : AS wg fbx cbx m 0 a)
    (hend : ∀ (k' : LK) (kk : Nat → LK) (w' : World), Rely (keepK (Keep w0.heap.size m Ow)) w0 w' → (∀ l, k0.W l → k'.W l) → (∀ l, k0.R l → k'.R l) → (∀ j, j < m → Pst j (kk j) w') → (Win Try.prog Post n0 W0) k' (G (c'.finish (.tuple #[])) cs) w') :
    (Win Try.prog Post n0 W0) k (G (((Go.Conc.base 15)).at a [.code LBS, .inLoop LBS, .inBlock 0, .code (.region 8 (opsOf Try.f15 8) false)]) (c' :: cs)) w := by
  refine win_pre fun hO hmem => ?_
  have hnw : ∀ l, MemLoc w0.heap.size l → ¬ WgLoc wg l := fun l hl ⟨o, s, e⟩ => by
    subst e
    have : wg < w0.heap.size := hl
    omega
  have hX : ∀ l, Keep w0.heap.size m Ow l → ¬ WgLoc wg l ∧ l ≠ .obj wg := fun l hl => ⟨hnw l hl.1, fun e => by
    subst e
    have : wg < w0.heap.size := hl.1
    omega⟩
  refine win_fork (ty := 52) (Wg := wg) (tot := m) (X := Keep w0.heap.size m Ow) (Q := Pst) (k0 := KS Ow R0 wg m 0) (Anc := SideEnd c' cs) hpst hwg hm hwk
    (fun l hl => ⟨hl.1.mono hr0.size, fun ⟨j, _, hj, h⟩ => hl.2 j hj h, (hX l hl).1, (hX l hl).2⟩) (fun l hl => ⟨hl.mono hn0, fun j hj h => hO.lic l (hkW l (hOw j l hj h)) hl⟩)
    (fun l ⟨j, _, hj, h⟩ => ⟨hkW l (hOw j l hj h), (hF.ow j l hj h).2.2⟩) (fun l hl => ⟨hR0 l hl, (hF.r0 l hl).2⟩) (fun l => Iff.rfl) (fun m0 p0 Shun => ?_) fun gend w' k' kk hE hr hW hR _ hQ _ => ?_
  · exact sd_loop (famX_ok hpst hX) hpre hpst hm hcf hC hF m 0 a w (by omega) ha (.refl _ _)
  · obtain ⟨a1, rfl, hd⟩ := hE
    have hS0 : ∀ k w w₁, (k = k' ∧ Rely (keepK (Keep w0.heap.size m Ow)) w0 w ∧ ∀ j, j < m → Pst j (kk j) w) → (∃ d, w₁ = w.at d) → k = k' ∧ Rely (keepK (Keep w0.heap.size m Ow)) w0 w₁ ∧ ∀ j, j < m → Pst j (kk j) w₁ := by
      rintro k w _ ⟨h1, h2, h3⟩ ⟨d, rfl⟩
      exact ⟨h1, h2.trans (.at _ _ d), fun j hj => hpst _ _ _ _ (h3 j hj) (.at _ _ d)⟩
    refine js_regend win_jok _ hS0 (fun k w hS => js_end win_jok _ hS0 (fun k w hS => js_leave0 win_jok _ hS0 rfl hd Try.func15 rfl (fun k w hS => ?_) hS) hS) ⟨rfl, hr0.trans hr, hQ⟩
    obtain ⟨rfl, h2, h3⟩ := hS
    exact hend k kk w h2 (fun l hl => hW l (hkW l hl) (hnw l (hk0 l (.inl hl)))) (fun l hl => hR l (hkR l hl) (hnw l (hk0 l (.inr hl)))) h3
theorem run_box (e : Operand → Value) (o : Oper) {x : Operand} {v : Value} (hop : o.op = .box 36 x) (hx : e x = v) (hv : ∃ p n c, v = .slice p n c) (w : World) : (execOp e o).runT Try.prog w #[] = (.ok (.value (.pointer (some ⟨w.heap.size, 0, none⟩))) { w with heap := w.heap.push (.cells #[v] 36) }, #[]) := by
  obtain ⟨p, n, c, rfl⟩ := hv
  simp [go_sem, hop, hx, execOp]
theorem run_boxF (e : Operand → Value) (o : Oper) {x : Operand} {v : Value} (hop : o.op = .box 39 x) (hx : e x = v) (hv : ∃ p n c, v = .func p n c) (w : World) : (execOp e o).runT Try.prog w #[] = (.ok (.value (.pointer (some ⟨w.heap.size, 0, none⟩))) { w with heap := w.heap.push (.cells #[v] 39) }, #[]) := by
  obtain ⟨p, n, c, rfl⟩ := hv
  simp [go_sem, hop, hx, execOp]
theorem run_allocWg (e : Operand → Value) (o : Oper) (hop : o.op = .alloc 52) (w : World) : (execOp e o).runT Try.prog w #[] = (.ok (.value (.pointer (some ⟨w.heap.size, 0, none⟩))) { w with heap := w.heap.push (.cells #[.int .u64 0, .int .u32 0] 52) }, #[]) := by
  simp [go_sem, hop, execOp]
theorem run_lenI (e : Operand → Value) (o : Oper) {x : Operand} {A : Option Addr} {n c : Nat} (hop : o.op = .call { callee := .builtin .len, args := #[x], argTypes := #[36] }) (hx : e x = .slice A n c) (w : World) : (execOp e o).runT Try.prog w #[] = (.ok (.value (.int .i64 n)) w, #[]) := by
  simp [go_sem, hop, hx, execOp]
theorem cell_old (w : World) (o : Obj) {p : Addr} (hp : p.block < w.heap.size) : ({ w with heap := w.heap.push o } : World).cell? p = w.cell? p := by
  have hne : p.block ≠ w.heap.size := Nat.ne_of_lt hp
  simp [World.cell?, Array.getElem?_push, hne]
/-- side's world behind its three blocks. -/
def sideW (w : World) (v f : Value) : World := { w with heap := ((w.heap.push (.cells #[v] 36)).push (.cells #[f] 39)).push (.cells #[.int .u64 0, .int .u32 0] 52) }
theorem side_rely {K : LK} {w : World} (v f : Value) (hK : ∀ l, K.W l ∨ K.R l → MemLoc w.heap.size l) : Rely K w (sideW w v f) :=
  rely_push (w := { w with heap := (w.heap.push (.cells #[v] 36)).push (.cells #[f] 39) }) (rely_push (w := { w with heap := w.heap.push (.cells #[v] 36) }) (rely_push (.refl K w) hK _) hK _) hK _
theorem get_push (h : Array Obj) (o : Obj) (i : Nat) (hi : i = h.size) : (h.push o)[i]? = some o := by subst hi; exact Array.getElem?_push_size
theorem get_push_ne (h : Array Obj) (o : Obj) (i : Nat) (hi : i < h.size) : (h.push o)[i]? = h[i]? := Array.getElem?_push_lt hi ▸ (Array.getElem?_eq_getElem hi).symm
theorem sideW_cells (w : World) (v f : Value) : (sideW w v f).cell? ⟨w.heap.size, 0, none⟩ = some v ∧ (sideW w v f).cell? ⟨w.heap.size + 1, 0, none⟩ = some f ∧ WgIs 52 (w.heap.size + 2) (sideW w v f) 0 0 ∧ (sideW w v f).heap.size = w.heap.size + 3 := by
  have h0 : (sideW w v f).heap[w.heap.size]? = some (.cells #[v] 36) := by
    unfold sideW
    rw [get_push_ne _ _ _ (by simp; omega), get_push_ne _ _ _ (by simp), get_push _ _ _ rfl]
  have h1 : (sideW w v f).heap[w.heap.size + 1]? = some (.cells #[f] 39) := by
    unfold sideW
    rw [get_push_ne _ _ _ (by simp), get_push _ _ _ (by simp)]
  have h2 : (sideW w v f).heap[w.heap.size + 2]? = some (.cells #[.int .u64 0, .int .u32 0] 52) := by
    unfold sideW
    rw [get_push _ _ _ (by simp)]
  refine ⟨?_, ?_, h2, ?_⟩
  · simp [World.cell?, h0]
  · simp [World.cell?, h1]
  · simp [sideW]
section
variable {K : List Item} {k : LK} {w0 : World}
theorem st_box {ops : Array Oper} {i : Nat} {rest : List Nat} {o : Oper} {a : Act} {ob : Obj} {d : Nat} (ho : ops[i]? = some o) (hg : o.guard = none) (hd : o.dst = some d)
    (hop : ∀ w, (execOp a.eval o).runT Try.prog w #[] = (.ok (.value (.pointer (some ⟨w.heap.size, 0, none⟩))) { w with heap := w.heap.push ob }, #[]))
    (hn : ∀ k1 w1, AtW (k.grow w0.heap.size (w0.heap.size + 1)) { w0 with heap := w0.heap.push ob } k1 w1 → (Win Try.prog Post n0 W0) k1 (G (((Go.Conc.base 15)).at (a.put (some d) (.pointer (some ⟨w0.heap.size, 0, none⟩))) (.inRegion ops rest :: K)) cs) w1) {k1 : LK} {w1 : World} (h : AtW k w0 k1 w1) : (Win Try.prog Post n0 W0) k1 (G (((Go.Conc.base 15)).at a (.inRegion ops (i :: rest) :: K)) cs) w1 := by
  refine js_new (win_jok (P := Try.prog) (Post := Post) (n0 := n0) (W0 := W0)) _ AtW.r bS_kind ho (yld hg _) hop (fun k1 w1 hS => ?_) h
  obtain ⟨rfl, d, rfl⟩ := hS
  rw [hd]
  exact hn _ _ ⟨rfl, d, rfl⟩
end
theorem size_push (w : World) (o : Obj) : ({ w with heap := w.heap.push o } : World).heap.size = w.heap.size + 1 := by simp
set_option maxRecDepth 100000 in
/-- ████ scan.side ████. -/
theorem side_win (hpre : ∀ j k w w₁, Pre j k w → Rely k w w₁ → Pre j k w₁) (hpst : ∀ j k w w₁, Pst j k w → Rely k w w₁ → Pst j k w₁) (hm : m ≤ 16)
    (hcf : ∃ g, Try.prog.funcs[cf]? = some g ∧ (g.name == "runtime.NumGoroutine") = false ∧ g.body.isNone = false) (hC : Closure cf cap cuts m Pre Pst) {k : LK} {w : World}
    (hglob : Try.prog.globals.size ≤ w.heap.size) (hOw : ∀ j l, j < m → Ow j l → k.W l) (hSh : ∀ l, Sh l → k.W l ∨ k.R l) (hds : ∀ j l, j < m → Ow j l → ¬ Sh l) (hdd : ∀ i j, i < m → j < m → i ≠ j → ∀ l, Ow i l → ¬ Ow j l)
    (hcut : ∀ j, j ≤ m → w.cell? ⟨cr, j, none⟩ = some (.int .i64 (cuts j)) ∧ Sh (.cell ⟨cr, j, none⟩))
    (hPre : ∀ j, j < m → ∀ k' w', (∀ l, Ow j l → k'.W l) → (∀ l, Sh l → k'.R l) → (∀ l, k'.W l ∨ k'.R l → MemLoc w'.heap.size l) → Rely ⟨Ow j, Sh, fun _ => False⟩ w w' → Pre j k' w')
    (hend : ∀ (k' : LK) (kk : Nat → LK) (w' : World), Rely (keepK (Keep w.heap.size m Ow)) w w' → (∀ l, k.W l → k'.W l) → (∀ l, k.R l → k'.R l) → (∀ j, j < m → Pst j (kk j) w') → (Win Try.prog Post n0 W0) k' (G (c'.finish (.tuple #[])) cs) w') :
    (Win Try.prog Post n0 W0) k (G (Frame.enter Try.prog 15 #[.slice (some ⟨cr, 0, none⟩) (m + 1) cc, .func (.func cf) #[] cap] .normal) (c' :: cs)) w := by
  refine win_pre fun hO hmem => ?_
  rw [enter_at _ Try.func15 body_15, show (Try.f15).ntmps = 16 by kernel_rfl]
  generalize ha0 : (⟨#[.slice (some ⟨cr, 0, none⟩) (m + 1) cc, .func (.func cf) #[] cap] ++ Array.replicate (16 - #[Value.slice (some ⟨cr, 0, none⟩) (m + 1) cc, .func (.func cf) #[] cap].size) undef, []⟩ : Act) = a0
  have z : a0.tmps.size = 16 := by subst ha0; simp
  have zd : a0.defers = [] := by subst ha0; rfl
  have z0 : a0.eval (.tmp 0) = .slice (some ⟨cr, 0, none⟩) (m + 1) cc := by subst ha0; exact eval_args _ _ 0 _ (by simp)
  have z1 : a0.eval (.tmp 1) = .func (.func cf) #[] cap := by subst ha0; exact eval_args _ _ 1 _ (by simp)
  clear ha0
  have hJ : JOk Try.prog true _ _ := win_jok (P := Try.prog) (Post := Post) (n0 := n0) (W0 := W0)
  refine js_seq hJ _ AtW.r (fun k1 w1 hS => j_ctl hJ (fun w => stepG_region) fun w₁ hR => ?_) (AtW.self k w)
  have hsz : List.range (opsOf Try.f15 0).size = [0, 1] := by kernel_rfl
  rw [hsz]
  replace hS := AtW.r _ _ _ hS hR
  clear hR w1
  obtain ⟨o0, ho0, hop0, hg0, hd0⟩ := op_ex (ops := opsOf Try.f15 0) (i := 0) (p := .box 36 (.tmp 0)) (d := some 2) (by kernel_rfl)
  refine st_box ho0 hg0 hd0 (fun w => run_box _ _ hop0 z0 ⟨_, _, _, rfl⟩ w) (fun k1 w1 hS => ?_) hS
  have y : (a0.put (some 2) (.pointer (some ⟨w.heap.size, 0, none⟩))).tmps.size = 16 := (put_size _ _ _).trans z
  have y2 : (a0.put (some 2) (.pointer (some ⟨w.heap.size, 0, none⟩))).eval (.tmp 2) = .pointer (some ⟨w.heap.size, 0, none⟩) := eval_put_eq _ (by rw [z]; decide) _
  have y1 := (eval_put_ne a0 (d := 2) (t := 1) (by decide) (.pointer (some ⟨w.heap.size, 0, none⟩))).trans z1
  have yd : (a0.put (some 2) (.pointer (some ⟨w.heap.size, 0, none⟩))).defers = [] := zd
  generalize a0.put (some 2) _ = a1 at y y2 y1 yd
  obtain ⟨o1, ho1, hop1, hg1, hd1⟩ := op_ex (ops := opsOf Try.f15 0) (i := 1) (p := .box 39 (.tmp 1)) (d := some 3) (by kernel_rfl)
  refine st_box ho1 hg1 hd1 (fun w => run_boxF _ _ hop1 y1 ⟨_, _, _, rfl⟩ w) (fun k2 w2 hS => ?_) hS
  rw [size_push]
  have x : (a1.put (some 3) (.pointer (some ⟨w.heap.size + 1, 0, none⟩))).tmps.size = 16 := (put_size _ _ _).trans y
  have x3 : (a1.put (some 3) (.pointer (some ⟨w.heap.size + 1, 0, none⟩))).eval (.tmp 3) = .pointer (some ⟨w.heap.size + 1, 0, none⟩) := eval_put_eq _ (by rw [y]; decide) _
  have x2 := (eval_put_ne a1 (d := 3) (t := 2) (by decide) (.pointer (some ⟨w.heap.size + 1, 0, none⟩))).trans y2
  have xd : (a1.put (some 3) (.pointer (some ⟨w.heap.size + 1, 0, none⟩))).defers = [] := yd
  generalize a1.put (some 3) _ = a2 at x x2 x3 xd
  refine js_regend hJ _ AtW.r (fun k2 w2 hS => js_seq hJ _ AtW.r (fun k2 w2 hS => j_ctl hJ (fun w => stepG_region) fun w₁ hR => ?_) hS) hS
  have hsz : List.range (opsOf Try.f15 1).size = [0] := by kernel_rfl
  rw [hsz]
  replace hS := AtW.r _ _ _ hS hR
  clear hR w2
  obtain ⟨o2, ho2, hop2, hg2, hd2⟩ := op_ex (ops := opsOf Try.f15 1) (i := 0) (p := .alloc 52) (d := some 4) (by kernel_rfl)
  refine st_box ho2 hg2 hd2 (fun w => run_allocWg _ _ hop2 w) (fun k3 w3 hS => ?_) hS
  rw [size_push, size_push]
  have v : (a2.put (some 4) (.pointer (some ⟨w.heap.size + 1 + 1, 0, none⟩))).tmps.size = 16 := (put_size _ _ _).trans x
  have v4 : (a2.put (some 4) (.pointer (some ⟨w.heap.size + 1 + 1, 0, none⟩))).eval (.tmp 4) = .pointer (some ⟨w.heap.size + 2, 0, none⟩) := eval_put_eq _ (by rw [x]; decide) _
  have v3 := (eval_put_ne a2 (d := 4) (t := 3) (by decide) (.pointer (some ⟨w.heap.size + 1 + 1, 0, none⟩))).trans x3
  have v2 := (eval_put_ne a2 (d := 4) (t := 2) (by decide) (.pointer (some ⟨w.heap.size + 1 + 1, 0, none⟩))).trans x2
  have vd : (a2.put (some 4) (.pointer (some ⟨w.heap.size + 1 + 1, 0, none⟩))).defers = [] := xd
  generalize a2.put (some 4) _ = a3 at v v2 v3 v4 vd
  replace hS : AtW (k.grow w.heap.size (w.heap.size + 3)) (sideW w (.slice (some ⟨cr, 0, none⟩) (m + 1) cc) (.func (.func cf) #[] cap)) k3 w3 := by
    obtain ⟨rfl, d, rfl⟩ := hS
    refine ⟨?_, d, rfl⟩
    simp only [Array.size_push]
    rw [grow_grow _ (by omega) (by omega), grow_grow _ (by omega) (by omega)]
  have hkG : ∀ l, k.W l → (k.grow w.heap.size (w.heap.size + 3)).W l := fun l hl => .inl hl
  have hnew : ∀ b o, w.heap.size ≤ b → b < w.heap.size + 3 → (k.grow w.heap.size (w.heap.size + 3)).W (.cell ⟨b, o, none⟩) := fun b o h1 h2 => .inr ⟨h1, h2⟩
  have hsr := fun (K : LK) hK => side_rely (K := K) (w := w) (.slice (some ⟨cr, 0, none⟩) (m + 1) cc) (.func (.func cf) #[] cap) hK
  obtain ⟨c1, c2, c3, c4⟩ := sideW_cells w (.slice (some ⟨cr, 0, none⟩) (m + 1) cc) (.func (.func cf) #[] cap)
  have hsi := hsr k hmem
  have hShk := fun l hl => hmem l (hSh l hl)
  have hOwk : ∀ j l, j < m → Ow j l → MemLoc w.heap.size l := fun j l hj hl => hmem l (.inl (hOw j l hj hl))
  have hAll : Rely ⟨fun l => MemLoc w.heap.size l, fun _ => False, fun _ => False⟩ w (sideW w (.slice (some ⟨cr, 0, none⟩) (m + 1) cc) (.func (.func cf) #[] cap)) := hsr _ fun l hl => hl.elim id False.elim
  generalize sideW w (.slice (some ⟨cr, 0, none⟩) (m + 1) cc) (.func (.func cf) #[] cap) = wC at hS hsr c1 c2 c3 c4 hsi hAll
  generalize hkC : k.grow w.heap.size (w.heap.size + 3) = kC at hS hkG hnew
  have hkR : kC.R = k.R := by subst hkC; rfl
  clear hsi hsr
  let V : Nat → Value := fun i => match i with
    | 0 => .slice (some ⟨cr, 0, none⟩) (m + 1) cc
    | 1 => .int .i64 (m + 1 : Nat)
    | 2 => .int .i64 (m : Nat)
    | 3 => .int .i64 (0 : Nat)
    | _ => undef
  have hdd2 := textOk_d f15_r2
  have e6 : (putsV (opsOf Try.f15 2) V (List.range 4) a3).eval (.tmp 6) = .slice (some ⟨cr, 0, none⟩) (m + 1) cc := puts_new hdd2 (j := 0) (by kernel_rfl) (by decide) (by rw [v]; decide)
  have e7 : (putsV (opsOf Try.f15 2) V (List.range 4) a3).eval (.tmp 7) = .int .i64 (m + 1 : Nat) := puts_new hdd2 (j := 1) (by kernel_rfl) (by decide) (by rw [v]; decide)
  have hA : AS (w.heap.size + 2) (w.heap.size + 1) w.heap.size m 0 (putsV (opsOf Try.f15 2) V (List.range 4) a3) := ⟨(puts_size hdd2 a3).trans v, (puts_defers hdd2 a3).trans vd, (puts_old hdd2 (by kernel_rfl)).trans v2, (puts_old hdd2 (by kernel_rfl)).trans v3, (puts_old hdd2 (by kernel_rfl)).trans v4, puts_new hdd2 (j := 2) (by kernel_rfl) (by decide) (by rw [v]; decide), puts_new hdd2 (j := 3) (by kernel_rfl) (by decide) (by rw [v]; decide)⟩
  have wsub : IntKind.i64.wrap (((m + 1 : Nat) : Int) - 1) = (m : Nat) := by rw [wrapI (by unfold I64; omega)]; omega
  refine js_regend hJ _ AtW.r (fun k2 w2 hS => js_seq hJ _ AtW.r (fun k2 w2 hS => js_seq hJ _ AtW.r (fun k2 w2 hS => j_text hJ f15_r2 _ AtW.r V bS_kind (fun i o hio him k w' hS => ?_) (fun k w' hS => ?_) hS) hS) hS) hS
  · obtain ⟨rfl, d, rfl⟩ := hS
    obtain rfl | rfl | rfl | rfl : i = 0 ∨ i = 1 ∨ i = 2 ∨ i = 3 := by omega
    · exact opv_load (op_of (p := .load 36 (.tmp 2)) (by kernel_rfl) hio) hA.t2 (fun w => Try.isAgg36 w) c1 (.inl (hnew _ _ (by omega) (by omega)))
    · exact opv_run (run_lenI _ _ (op_of (by kernel_rfl) hio) e6)
    · have := opv_sub (P := Try.prog) (fn := ((Go.Conc.base 15)).fn) (k := k) (w := wC.at d) (op_of (p := .binOp .sub 3 (.tmp 7) (.const (.int .i64 1)) 3) (by kernel_rfl) hio) e7 rfl under_int
      rw [wsub] at this; exact this
    · exact opv_move (x := .const (.int .i64 0)) (.inl (op_of (by kernel_rfl) hio))
  · have hsz : (opsOf Try.f15 2).size = 4 := by kernel_rfl
    rw [hsz, drop_all]
    generalize putsV (opsOf Try.f15 2) V (List.range 4) a3 = a4 at hA
    refine js_regend hJ _ AtW.r (fun k w' hS => js_block hJ _ AtW.r (fun k w' hS => js_loop hJ _ AtW.r (fun k w' hS => ?_) hS) hS) hS
    obtain ⟨rfl, d, rfl⟩ := hS
    have hRel : ∀ K : LK, (∀ l, K.W l ∨ K.R l → MemLoc w.heap.size l) → Rely K w (wC.at d) := fun K hK => (hAll.mono ⟨fun l hl => hK l (.inl hl), fun l hl => .inl (hK l (.inr hl))⟩).trans (.at _ _ d)
    have hsz3 : (wC.at d).heap.size = w.heap.size + 3 := c4
    have hnm : ∀ (l : Loc) (b o : Nat), MemLoc w.heap.size l → w.heap.size ≤ b → l ≠ .cell ⟨b, o, none⟩ := fun l b o h1 h2 e => by
      subst e
      have : b < w.heap.size := h1
      omega
    have hnw : ∀ l, MemLoc w.heap.size l → ¬ WgLoc (w.heap.size + 2) l := fun l hl ⟨o, s, e⟩ => by
      subst e
      have : w.heap.size + 2 < w.heap.size := hl
      omega
    have hnw2 : ∀ b o, b < w.heap.size + 2 → ¬ WgLoc (w.heap.size + 2) (.cell ⟨b, o, none⟩) := fun b o hb ⟨o', s, e⟩ => by
      have := congrArg (fun x : Loc => match x with | .cell a => a.block | _ => 0) e
      simp only at this
      omega
    have hF : Forked Ow (fun l => Sh l ∨ l = .cell ⟨w.heap.size, 0, none⟩ ∨ l = .cell ⟨w.heap.size + 1, 0, none⟩) (w.heap.size + 2) (w.heap.size + 1) w.heap.size cr cf cap cc m cuts Pre (wC.at d) := by
      refine ⟨?_, fun j l hj hl => ⟨?_, ?_, hnw _ (hOwk j l hj hl)⟩, ?_, hdd, ?_, ⟨c2, .inr (.inr rfl)⟩, ⟨c1, .inr (.inl rfl)⟩, fun j hj => ⟨?_, .inl (hcut j hj).2⟩, fun j hj k' w' h1 h2 h3 h4 => ?_⟩
      · rw [hsz3]; omega
      · rw [hsz3]; exact (hOwk j l hj hl).mono (by omega)
      · rintro (h | h | h)
        · exact hds j l hj hl h
        · exact hnm l _ _ (hOwk j l hj hl) (Nat.le_refl _) h
        · exact hnm l _ _ (hOwk j l hj hl) (by omega) h
      · rintro l (hl | hl | hl)
        · exact ⟨by rw [hsz3]; exact (hShk l hl).mono (by omega), hnw _ (hShk l hl)⟩
        · subst hl; exact ⟨by rw [hsz3]; show w.heap.size < _; omega, hnw2 _ _ (by omega)⟩
        · subst hl; exact ⟨by rw [hsz3]; show w.heap.size + 1 < _; omega, hnw2 _ _ (by omega)⟩
      · rw [hsz3]; omega
      · exact ((hRel ⟨Sh, fun _ => False, fun _ => False⟩ fun l hl => hShk l (hl.elim id False.elim)).cell _ (.inl (hcut j hj).2)).trans (hcut j hj).1
      · refine hPre j hj k' w' h1 (fun l hl => h2 l (.inl hl)) h3 ((hRel _ fun l hl => hl.elim (hOwk j l hj) (hShk l)).trans (h4.mono ⟨fun l hl => hl, fun l hl => .inr (.inl hl)⟩))
    refine side_fork hpre hpst hm hcf hC hF (w0 := w) hO.size (by omega) (hRel _ fun l hl => hl.elim False.elim (fun h => h.1)) hmem hOw ?_ hkG (fun l hl => by rw [hkR]; exact hl) (fun l ⟨o, s, e⟩ => ?_) c3 hA hend
    · rintro l (hl | hl | hl)
      · exact (hSh l hl).imp (hkG l) fun x => by rw [hkR]; exact x
      · subst hl; exact .inl (hnew _ _ (by omega) (by omega))
      · subst hl; exact .inl (hnew _ _ (by omega) (by omega))
    · subst hkC; subst e; exact .inr ⟨by show w.heap.size ≤ w.heap.size + 2; omega, by show w.heap.size + 2 < w.heap.size + 3; omega⟩
end
end Go.Proofs.Ytnabgoljnfaebaa
