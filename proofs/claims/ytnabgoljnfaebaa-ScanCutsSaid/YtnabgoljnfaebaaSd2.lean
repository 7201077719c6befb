/- The walk of scan.side among its workers: goroutine 0's loop of starts and its wait. No conditions but those named. -/
import Derived.Test.YtnabgoljnfaebaaSd1
import Derived.Test.YtnabgoljnfaebaaTop
namespace Go.Proofs.Ytnabgoljnfaebaa
open Go.Conc Go.ConcN Go.RowKit
noncomputable def LBS : Code := .seq (.region 3 (opsOf Try.f15 3) false) (.seq (.cond (.tmp 10) .skip (.exit 0)) (.seq (.block 1 (.seq (.region 4 (opsOf Try.f15 4) false) (.seq (.region 5 (opsOf Try.f15 5) false) (.region 6 (opsOf Try.f15 6) false)))) (.region 7 (opsOf Try.f15 7) false)))
set_option maxRecDepth 100000 in
theorem body_15 : (Try.f15).body = some (.seq (.region 0 (opsOf Try.f15 0) false) (.seq (.region 1 (opsOf Try.f15 1) false) (.seq (.seq (.region 2 (opsOf Try.f15 2) false) (.block 0 (.loop LBS))) (.region 8 (opsOf Try.f15 8) false)))) := by kernel_rfl
set_option maxRecDepth 100000 in
theorem f15_r2 : textOk (opsOf Try.f15 2) 4 = true := by kernel_rfl
set_option maxRecDepth 100000 in
theorem f15_r3 : textOk (opsOf Try.f15 3) 1 = true := by kernel_rfl
structure AS (wg fbx cbx : Nat) (m : Nat) (i : Nat) (a : Act) : Prop where
  size : a.tmps.size = 16
  d : a.defers = []
  t2 : a.eval (.tmp 2) = .pointer (some ⟨cbx, 0, none⟩)
  t3 : a.eval (.tmp 3) = .pointer (some ⟨fbx, 0, none⟩)
  t4 : a.eval (.tmp 4) = .pointer (some ⟨wg, 0, none⟩)
  t8 : a.eval (.tmp 8) = .int .i64 m
  t9 : a.eval (.tmp 9) = .int .i64 i
theorem AS.put {wg fbx cbx m i : Nat} {a : Act} (h : AS wg fbx cbx m i a) {d : Nat} {v : Value} (h1 : d ≠ 2 ∧ d ≠ 3 ∧ d ≠ 4 ∧ d ≠ 8 ∧ d ≠ 9) : AS wg fbx cbx m i (a.put (some d) v) :=
  ⟨(put_size _ _ _).trans h.size, h.d, (eval_put_ne _ h1.1 _).trans h.t2, (eval_put_ne _ h1.2.1 _).trans h.t3, (eval_put_ne _ h1.2.2.1 _).trans h.t4, (eval_put_ne _ h1.2.2.2.1 _).trans h.t8, (eval_put_ne _ h1.2.2.2.2 _).trans h.t9⟩
/-- Goroutine 0 behind the wait. -/
def SideEnd (c' : Frame) (cs : List Frame) (g : Goroutine) : Prop := ∃ a : Act, g = G (((Go.Conc.base 15)).at a [.inRegion (opsOf Try.f15 8) []]) (c' :: cs) ∧ a.defers = []
/-- Its licence, i workers started. -/
def KS (Ow : Nat → Loc → Prop) (R0 : Loc → Prop) (wg m i : Nat) : LK := ⟨fun l => ∃ j, i ≤ j ∧ j < m ∧ Ow j l, R0, WgLoc wg⟩
theorem rely_push {K : LK} {w1 w : World} (h : Rely K w1 w) (hm : ∀ l, K.W l ∨ K.R l → MemLoc w1.heap.size l) (o : Obj) : Rely K w1 { w with heap := w.heap.push o } :=
  h.trans ((own_new (k := LK.none) o).chg.rest (fun _ _ h => h) fun l hl => (hm l hl).mono h.size)
theorem rely_cell {K : LK} {w1 w : World} (h : Rely K w1 w) (hm : ∀ l, K.W l ∨ K.R l → MemLoc w1.heap.size l) {p : Addr} {u v : Value} (hp : w1.heap.size ≤ p.block) (hc : w.cell? p = some u) : Rely K w1 (w.setCell p v) :=
  h.trans ((own_write (k := ⟨fun l => l = .cell p, fun _ => False, fun _ => False⟩) hc rfl).chg.rest (fun l hl e => by
    have e' : l = .cell p := e
    subst e'
    have : p.block < w1.heap.size := hm _ hl
    omega) fun l hl => (hm l hl).mono h.size)
section
variable {X Rl : Loc → Prop} {w1 : World} {m0 p0 m wg : Nat} {Shun : Loc → Prop} {Anc : Goroutine → World → Prop} {Pre Pst : Nat → LK → World → Prop} {fbx cbx cr : Nat} {cf : FuncId} {cap : Array Value} {cc : Nat} {cuts : Nat → Nat}
/-- A worker. -/
theorem sd_worker (ok : (famX X Rl w1 m0 Pst).Ok wg) (hpre : ∀ j k w w₁, Pre j k w → Rely k w w₁ → Pre j k w₁) (hpst : ∀ j k w w₁, Pst j k w → Rely k w w₁ → Pst j k w₁) (hm : m ≤ 16)
    (hcf : ∃ g, Try.prog.funcs[cf]? = some g ∧ (g.name == "runtime.NumGoroutine") = false ∧ g.body.isNone = false)
    (hC : ∀ (J : LK → Goroutine → World → Prop) (main : Bool) (R : LK → World → World → Prop), JOk Try.prog main R J → ∀ j, j < m → ∀ c' cs k w, Pre j k w → (∀ k w, Pst j k w → J k (G (c'.finish (.tuple #[])) cs) w) → J k (G (Frame.enter Try.prog cf (#[.int .i64 j, .int .i64 (cuts j), .int .i64 (cuts (j + 1))] ++ cap) .normal) (c' :: cs)) w)
    {i n ibx : Nat} (hi : i < m) (hn : n = m0 + i) (hn0 : n ≠ 0) {kc : LK} {w : World} (h0 : SW fbx ibx cbx cr cf cap i m cc (cuts i) (cuts (i + 1)) kc w ∧ Pre i kc w) :
    WP (wgProto Try.prog (famX X Rl w1 m0 Pst) 52 wg m0 p0 m Shun Anc) n kc (.work ()) (born Try.prog { target := .fn (.func 27) #[.pointer (some ⟨wg, 0, none⟩), .pointer (some ⟨fbx, 0, none⟩), .pointer (some ⟨ibx, 0, none⟩), .pointer (some ⟨cbx, 0, none⟩)], args := #[] }) w := by
  have hJ : JOk Try.prog (n == 0) _ _ := wp_jok (P := Try.prog) (ty := 52) (m0 := m0) (p0 := p0) (tot := m) (Shun := Shun) (Anc := Anc) ok n (s := .work ()) id
  refine hJ.own _ _ _ rfl rfl fun w₁ hR => ⟨_, _, _, stepG_born Try.func27 (by kernel_rfl) body_27 w₁, .idle _ _, ?_⟩
  rw [grow_self, Array.empty_append]
  refine side1_j hJ hi (by omega) hcf (Pre i) (Pst i) (hpre i) (hpst i) (fun c' cs k w hP hn => hC _ _ _ hJ i hi c' cs k w hP hn) (fun T k w hP => ?_) ⟨h0.1.rely (hJ.rel _ _ _ hR), hpre _ _ _ _ h0.2 (hJ.rel _ _ _ hR)⟩
  obtain ⟨g0, q, hd⟩ := done_script wg T []
  have hb : (n == 0) = false := by simpa using hn0
  refine wp_still ok (by simp) rfl (by rw [hb]; exact q) (wp_done ok hn0 hd fun w₁ hr _ => ?_)
  show Pst (n - m0) k w₁
  rw [hn, Nat.add_sub_cancel_left]
  exact hpst _ _ _ _ hP hr
end
end Go.Proofs.Ytnabgoljnfaebaa
