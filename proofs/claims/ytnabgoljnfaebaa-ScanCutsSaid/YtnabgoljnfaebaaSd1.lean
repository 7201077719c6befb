/- The walk of scan.side's goroutine in company, over whatever it is to do. No conditions but those named. -/
import Derived.Test.YtnabgoljnfaebaaScW3
import Derived.Test.YtnabgoljnfaebaaWgD
import Derived.Conc.DeferLaws
import Derived.Conc.Own2
namespace Go.Proofs.Ytnabgoljnfaebaa
open Go.Conc Go.ConcN Go.RowKit
/-- What stands below a goroutine's first call. -/
def below0 (P : Program) : Frame := { (default : Frame) with fn := P.funcs.size, defers := [], mode := .panicking [goexitEntry] }
theorem stepG_born {P : Program} {main : Bool} {f : FuncId} {fn : Func} {c : Code} {args cap : Array Value} (hf : P.funcs[f]? = some fn) (hname : (fn.name == "runtime.NumGoroutine") = false) (hb : fn.body = some c) (w : World) :
    stepG P main (born P { target := .fn (.func f) cap, args := args }) w = .go (G (Frame.enter P f (args ++ cap) .deferred) [below0 P]) w #[] := by
  have h1 : ¬ fn.name = "runtime.NumGoroutine" := by simpa using hname
  simp [G, born, stepG, unwind, callDeferred, invoke, callFunc, hf, h1, hb, GStep.after, seen_none, below0]
set_option maxRecDepth 100000 in
theorem body_27 : (Try.f27).body = some (.seq (.region 0 (opsOf Try.f27 0) false) (.region 1 (opsOf Try.f27 1) true)) := by kernel_rfl
set_option maxRecDepth 100000 in
theorem f27_r1 : drawOk (opsOf Try.f27 1) 11 = true := by kernel_rfl
theorem under_intsI : Try.prog.underlying 36 = some (.slice 3) := by kernel_rfl
structure SW (fbx ibx cbx cr : Nat) (cf : FuncId) (cap : Array Value) (j m cc from_ to : Nat) (k : LK) (w : World) : Prop where
  glob : Try.prog.globals.size ≤ w.heap.size
  mem : ∀ l, k.W l ∨ k.R l → MemLoc w.heap.size l
  f : w.cell? ⟨fbx, 0, none⟩ = some (.func (.func cf) #[] cap) ∧ Lik k ⟨fbx, 0, none⟩
  i : w.cell? ⟨ibx, 0, none⟩ = some (.int .i64 j) ∧ Lik k ⟨ibx, 0, none⟩
  c : w.cell? ⟨cbx, 0, none⟩ = some (.slice (some ⟨cr, 0, none⟩) (m + 1) cc) ∧ Lik k ⟨cbx, 0, none⟩
  c0 : w.cell? ⟨cr, j, none⟩ = some (.int .i64 from_) ∧ Lik k ⟨cr, j, none⟩
  c1 : w.cell? ⟨cr, j + 1, none⟩ = some (.int .i64 to) ∧ Lik k ⟨cr, j + 1, none⟩
theorem SW.rely {fbx ibx cbx cr : Nat} {cf : FuncId} {cap : Array Value} {j m cc from_ to : Nat} {k : LK} {w w₁ : World} (h : SW fbx ibx cbx cr cf cap j m cc from_ to k w) (hr : Rely k w w₁) : SW fbx ibx cbx cr cf cap j m cc from_ to k w₁ :=
  ⟨Nat.le_trans h.glob hr.size, fun l hl => (h.mem l hl).mono hr.size, ⟨(hr.cell _ h.f.2).trans h.f.1, h.f.2⟩, ⟨(hr.cell _ h.i.2).trans h.i.1, h.i.2⟩, ⟨(hr.cell _ h.c.2).trans h.c.1, h.c.2⟩, ⟨(hr.cell _ h.c0.2).trans h.c0.1, h.c0.2⟩, ⟨(hr.cell _ h.c1.2).trans h.c1.1, h.c1.2⟩⟩
section
variable {J : LK → Goroutine → World → Prop} {main : Bool} {R : LK → World → World → Prop} (hJ : JOk Try.prog main R J)
include hJ
set_option maxRecDepth 100000 in
theorem side1_j {wg fbx ibx cbx cr : Nat} {cf : FuncId} {cap : Array Value} {j m cc from_ to : Nat} (hj : j < m) (hm : m ≤ 1000) (hcf : ∃ g, Try.prog.funcs[cf]? = some g ∧ (g.name == "runtime.NumGoroutine") = false ∧ g.body.isNone = false)
    (Pre Post : LK → World → Prop) (hpre : ∀ k w w₁, Pre k w → Rely k w w₁ → Pre k w₁) (hpost : ∀ k w w₁, Post k w → Rely k w w₁ → Post k w₁)
    (hC : ∀ c' cs k w, Pre k w → (∀ k w, Post k w → J k (G (c'.finish (.tuple #[])) cs) w) → J k (G (Frame.enter Try.prog cf (#[.int .i64 j, .int .i64 from_, .int .i64 to] ++ cap) .normal) (c' :: cs)) w)
    (hdone : ∀ T k w, Post k w → J k (dnIn Try.prog 27 28 wg T []) w) {k : LK} {w : World} (h0 : SW fbx ibx cbx cr cf cap j m cc from_ to k w ∧ Pre k w) :
    J k (G (Frame.enter Try.prog 27 #[.pointer (some ⟨wg, 0, none⟩), .pointer (some ⟨fbx, 0, none⟩), .pointer (some ⟨ibx, 0, none⟩), .pointer (some ⟨cbx, 0, none⟩)] .deferred) [below0 Try.prog]) w := by
  rw [enter_atD _ Try.func27 body_27, show (Try.f27).ntmps = 16 by kernel_rfl]
  have hb : (baseD 27).kind ≠ .early := by decide
  have hSR : ∀ k w w₁, SW fbx ibx cbx cr cf cap j m cc from_ to k w ∧ Pre k w → R k w w₁ → SW fbx ibx cbx cr cf cap j m cc from_ to k w₁ ∧ Pre k w₁ := fun k w w₁ hS hR => ⟨hS.1.rely (hJ.rel _ _ _ hR), hpre _ _ _ hS.2 (hJ.rel _ _ _ hR)⟩
  have hPR : ∀ k w w₁, Post k w → R k w w₁ → Post k w₁ := fun k w w₁ hS hR => hpost _ _ _ hS (hJ.rel _ _ _ hR)
  generalize ha0 : (⟨#[.pointer (some ⟨wg, 0, none⟩), .pointer (some ⟨fbx, 0, none⟩), .pointer (some ⟨ibx, 0, none⟩), .pointer (some ⟨cbx, 0, none⟩)] ++ Array.replicate (16 - #[Value.pointer (some ⟨wg, 0, none⟩), .pointer (some ⟨fbx, 0, none⟩), .pointer (some ⟨ibx, 0, none⟩), .pointer (some ⟨cbx, 0, none⟩)].size) undef, []⟩ : Act) = a0
  have z : a0.tmps.size = 16 := by subst ha0; simp
  have zd : a0.defers = [] := by subst ha0; rfl
  have z0 : a0.eval (.tmp 0) = .pointer (some ⟨wg, 0, none⟩) := by subst ha0; exact eval_args _ _ 0 _ (by simp)
  have z1 : a0.eval (.tmp 1) = .pointer (some ⟨fbx, 0, none⟩) := by subst ha0; exact eval_args _ _ 1 _ (by simp)
  have z2 : a0.eval (.tmp 2) = .pointer (some ⟨ibx, 0, none⟩) := by subst ha0; exact eval_args _ _ 2 _ (by simp)
  have z3 : a0.eval (.tmp 3) = .pointer (some ⟨cbx, 0, none⟩) := by subst ha0; exact eval_args _ _ 3 _ (by simp)
  clear ha0
  refine js_seq hJ _ hSR (fun k w hS => j_ctl hJ (fun w => stepG_region) fun w₁ hR => ?_) h0
  replace hS := hSR _ _ _ hS hR
  clear hR w
  have hsz0 : List.range (opsOf Try.f27 0).size = [0] := by kernel_rfl
  rw [hsz0]
  obtain ⟨o, ho0, hop, hg, hdst⟩ := op_ex (ops := opsOf Try.f27 0) (i := 0) (p := .defer { callee := .value (.func 28), args := #[.tmp 0], argTypes := #[52] }) (d := none) (by kernel_rfl)
  refine j_ctl hJ (fun w => stepG_defer ho0 (by unfold Region.wanted; rw [hg]) hb hop) fun w₂ hR => ?_
  replace hS := hSR _ _ _ hS hR
  clear hR w₁
  rw [hdst, put_none, zd]
  have hargs : (#[Operand.tmp 0].map a0.eval) = #[.pointer (some ⟨wg, 0, none⟩)] := by simp [z0]
  rw [hargs]
  generalize ha1 : (⟨a0.tmps, [dcall 28 #[.pointer (some ⟨wg, 0, none⟩)]]⟩ : Act) = a1
  have y : a1.tmps.size = 16 := by subst ha1; exact z
  have yd : a1.defers = [dcall 28 #[.pointer (some ⟨wg, 0, none⟩)]] := by subst ha1; rfl
  have y1 : a1.eval (.tmp 1) = .pointer (some ⟨fbx, 0, none⟩) := by subst ha1; exact z1
  have y2 : a1.eval (.tmp 2) = .pointer (some ⟨ibx, 0, none⟩) := by subst ha1; exact z2
  have y3 : a1.eval (.tmp 3) = .pointer (some ⟨cbx, 0, none⟩) := by subst ha1; exact z3
  clear ha1 z zd z0 z1 z2 z3 hargs
  let V : Nat → Value := fun i => match i with
    | 0 => .func (.func cf) #[] cap
    | 1 => .int .i64 j
    | 2 => .slice (some ⟨cr, 0, none⟩) (m + 1) cc
    | 3 => .int .i64 j
    | 4 => .pointer (some ⟨cr, j, none⟩)
    | 5 => .int .i64 from_
    | 6 => .slice (some ⟨cr, 0, none⟩) (m + 1) cc
    | 7 => .int .i64 j
    | 8 => .int .i64 (j + 1 : Nat)
    | 9 => .pointer (some ⟨cr, j + 1, none⟩)
    | 10 => .int .i64 to
    | _ => undef
  have hdd := drawOk_d f27_r1
  have nw : ∀ t i, prodOf (opsOf Try.f27 1) t = some i → i < 11 → t < 16 → (putsV (opsOf Try.f27 1) V (List.range 11) a1).eval (.tmp t) = V i := fun t i h1 h2 h3 => puts_new hdd h1 h2 (by rw [y]; exact h3)
  have od : ∀ t, prodOf (opsOf Try.f27 1) t = none → (putsV (opsOf Try.f27 1) V (List.range 11) a1).eval (.tmp t) = a1.eval (.tmp t) := fun t h1 => puts_old hdd h1
  have hadd : ∀ n : Nat, (⟨cr, 0, none⟩ : Addr).add n = ⟨cr, n, none⟩ := fun n => by unfold Addr.add; split <;> simp_all
  have e4 : (putsV (opsOf Try.f27 1) V (List.range 11) a1).eval (.tmp 4) = .func (.func cf) #[] cap := (nw 4 0 (by kernel_rfl) (by decide) (by decide))
  have e5 : (putsV (opsOf Try.f27 1) V (List.range 11) a1).eval (.tmp 5) = .int .i64 j := (nw 5 1 (by kernel_rfl) (by decide) (by decide))
  have e6 := (nw 6 2 (by kernel_rfl) (by decide) (by decide))
  have e7 := (nw 7 3 (by kernel_rfl) (by decide) (by decide))
  have e8 := (nw 8 4 (by kernel_rfl) (by decide) (by decide))
  have e9 : (putsV (opsOf Try.f27 1) V (List.range 11) a1).eval (.tmp 9) = .int .i64 from_ := (nw 9 5 (by kernel_rfl) (by decide) (by decide))
  have e10 := (nw 10 6 (by kernel_rfl) (by decide) (by decide))
  have e11 := (nw 11 7 (by kernel_rfl) (by decide) (by decide))
  have e12 := (nw 12 8 (by kernel_rfl) (by decide) (by decide))
  have e13 := (nw 13 9 (by kernel_rfl) (by decide) (by decide))
  have e14 : (putsV (opsOf Try.f27 1) V (List.range 11) a1).eval (.tmp 14) = .int .i64 to := (nw 14 10 (by kernel_rfl) (by decide) (by decide))
  have o1 := (od 1 (by kernel_rfl)).trans y1
  have o2 := (od 2 (by kernel_rfl)).trans y2
  have o3 := (od 3 (by kernel_rfl)).trans y3
  have hsz : (opsOf Try.f27 1).size = 12 := by kernel_rfl
  have wadd : IntKind.i64.wrap ((j : Int) + 1) = ((j + 1 : Nat) : Int) := by rw [wrapI (by unfold I64; omega)]; omega
  refine js_regend hJ _ hSR (fun k w hS => ?_) hS
  refine j_draw hJ mixed_orders f27_r1 _ hSR (fun k w d hS => ⟨hS.1.rely (.at k w d), hpre _ _ _ hS.2 (.at k w d)⟩) V hb (fun i o hio him => .inl fun k w hS => ?_) (fun k w hS => ?_) hS
  · have hi12 : i < 12 := by have := (Array.getElem?_eq_some_iff.1 hio).1; omega
    obtain rfl | rfl | rfl | rfl | rfl | rfl | rfl | rfl | rfl | rfl | rfl : i = 0 ∨ i = 1 ∨ i = 2 ∨ i = 3 ∨ i = 4 ∨ i = 5 ∨ i = 6 ∨ i = 7 ∨ i = 8 ∨ i = 9 ∨ i = 10 := by omega
    · exact opv_load (op_of (p := .load 39 (.tmp 1)) (by kernel_rfl) hio) o1 (fun w => Try.isAgg39 w) hS.1.f.1 hS.1.f.2
    · exact opv_load (op_of (p := .load 3 (.tmp 2)) (by kernel_rfl) hio) o2 (fun w => Try.isAgg3 w) hS.1.i.1 hS.1.i.2
    · exact opv_load (op_of (p := .load 36 (.tmp 3)) (by kernel_rfl) hio) o3 (fun w => Try.isAgg36 w) hS.1.c.1 hS.1.c.2
    · exact opv_load (op_of (p := .load 3 (.tmp 2)) (by kernel_rfl) hio) o2 (fun w => Try.isAgg3 w) hS.1.i.1 hS.1.i.2
    · have := opv_index (P := Try.prog) (fn := (baseD 27).fn) (k := k) (w := w) (op_of (p := .indexAddr 36 (.tmp 6) (.tmp 7)) (by kernel_rfl) hio) e6 e7 (by omega) (by omega) under_intsI (fun w => Try.sizeOf3 w)
      have e : ((j : Nat) : Int).toNat * 1 = j := by omega
      rw [e, hadd] at this; exact this
    · exact opv_load (op_of (p := .load 3 (.tmp 8)) (by kernel_rfl) hio) e8 (fun w => Try.isAgg3 w) hS.1.c0.1 hS.1.c0.2
    · exact opv_load (op_of (p := .load 36 (.tmp 3)) (by kernel_rfl) hio) o3 (fun w => Try.isAgg36 w) hS.1.c.1 hS.1.c.2
    · exact opv_load (op_of (p := .load 3 (.tmp 2)) (by kernel_rfl) hio) o2 (fun w => Try.isAgg3 w) hS.1.i.1 hS.1.i.2
    · have := opv_add (P := Try.prog) (fn := (baseD 27).fn) (k := k) (w := w) (op_of (p := .binOp .add 3 (.tmp 11) (.const (.int .i64 1)) 3) (by kernel_rfl) hio) e11 rfl under_int
      rw [wadd] at this; exact this
    · have := opv_index (P := Try.prog) (fn := (baseD 27).fn) (k := k) (w := w) (op_of (p := .indexAddr 36 (.tmp 10) (.tmp 12)) (by kernel_rfl) hio) e10 e12 (by omega) (by omega) under_intsI (fun w => Try.sizeOf3 w)
      have e : ((j + 1 : Nat) : Int).toNat * 1 = j + 1 := by omega
      rw [e, hadd] at this; exact this
    · exact opv_load (op_of (p := .load 3 (.tmp 13)) (by kernel_rfl) hio) e13 (fun w => Try.isAgg3 w) hS.1.c1.1 hS.1.c1.2
  · obtain ⟨o, ho11, hop, hg, hdst⟩ := op_ex (ops := opsOf Try.f27 1) (i := 11) (p := .call { callee := .value (.tmp 4), args := #[.tmp 5, .tmp 9, .tmp 14], argTypes := #[3, 3, 3] }) (d := some 15) (by kernel_rfl)
    have hcall := op_call (P := Try.prog) hop e4 hcf
    have hdf := (puts_defers (V := V) (m := 11) hdd a1).trans yd
    simp only [List.map_toArray, List.map_cons, List.map_nil, e5, e9, e14, Array.empty_append] at hcall
    clear e6 e7 e8 e10 e11 e12 e13 o1 o2 o3 nw od
    generalize putsV (opsOf Try.f27 1) V (List.range 11) a1 = a2 at hcall hdf
    refine j_ctl hJ (base1 := (baseD 27).at a2 (.inRegion (opsOf Try.f27 1) [11] :: []) :: [below0 Try.prog]) (fun w => (stepG_enter ho11 (by unfold Region.wanted; rw [hg]) hb (hcall w).1).trans (by rw [listed, (hcall w).2, seen_empty])) fun w₁ hR => ?_
    replace hS := hSR _ _ _ hS hR
    refine hC _ _ k w₁ hS.2 fun k w hP => ?_
    rw [show ((baseD 27).at a2 (.inRegion (opsOf Try.f27 1) [11] :: [])).finish (.tuple #[]) = (baseD 27).at (a2.put o.dst (.tuple #[])) (.inRegion (opsOf Try.f27 1) [] :: []) by rw [Frame.finish_at, ho11]; rfl, hdst]
    refine js_regend hJ _ hPR (fun k w hP => js_end hJ _ hPR (fun k w hP => ?_) hP) hP
    have := hdone (a2.put (some 15) (.tuple #[])).tmps k w hP
    have e : dnIn Try.prog 27 28 wg (a2.put (some 15) (.tuple #[])).tmps [] = G { (baseD 27).at (a2.put (some 15) (.tuple #[])) [] with mode := .returning } [below0 Try.prog] := by
      show _ = G { (baseD 27).at (a2.put (some 15) (.tuple #[])) [] with mode := .returning } [below0 Try.prog]
      unfold dnIn Frame.at
      have h1 : (a2.put (some 15) (.tuple #[])).defers = [dcall 28 #[.pointer (some ⟨wg, 0, none⟩)]] := hdf
      rw [h1]
      rfl
    rw [e] at this
    exact this
end
end Go.Proofs.Ytnabgoljnfaebaa
