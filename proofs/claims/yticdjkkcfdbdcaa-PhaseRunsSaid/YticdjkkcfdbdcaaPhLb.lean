/- The law steplaw.PhaseRuns' body in company, told of the lone world: true. No conditions but those named. -/
import Derived.Test.YticdjkkcfdbdcaaPhLa
namespace Go.Proofs.Yticdjkkcfdbdcaa
open Go.Conc Go.ConcN Go.RowKit Go.ChangeShapes Go.WideShapes Go.ChangeAt
theorem run_as (e : Operand → Value) (o : Oper) {x : Operand} (hop : o.op = .assign x) (w : World) : (execOp e o).runT Try.prog w #[] = (.ok (.value (e x)) w, #[]) := by simp [go_sem, hop, execOp]
set_option maxRecDepth 100000 in
theorem res_3 : ResFn Try.prog 3 := resB_ok Try.func3 (by kernel_rfl)
theorem results_3 : Try.f3.results = #[.tmp 4] := by kernel_rfl
section
variable {Post : Value → World → Prop} {n0 : Nat} {W0 : World}
set_option maxRecDepth 100000 in
set_option maxHeartbeats 4000000 in
theorem law_m {A : Option Addr} {c n : Nat} {D : List DosR} {wk : Int} {L : World} (hR : RdAll L L.heap.size A D) (hn : D.length = n) (hcap : ∀ k (h : k < D.length), D[k].ds.length ≤ D[k].c) {code : Code} (hcode : Try.f3.body = some code) :
    Mp (InV phL phV) Try.prog (fun k g w => Win Try.prog Post n0 W0 k g w) 3 code false (fun e a1 _ => (e = .normal ∨ e = .ret) ∧ pack (resVals Try.f3 a1.tmps) = .bool true) ⟨#[.slice A n c, .int .i64 wk] ++ Array.replicate (Try.f3.ntmps - #[Value.slice A n c, .int .i64 wk].size) undef, []⟩ L := by
  have hJ : JOk Try.prog true _ (fun k g w => Win Try.prog Post n0 W0 k g w) := win_jok (P := Try.prog) (Post := Post) (n0 := n0) (W0 := W0)
  have hcode' := (show Try.f3.body = some _ from rfl).symm.trans hcode
  obtain rfl := Option.some.inj hcode'
  clear hcode hcode'
  simp only [Try.ntmps3, List.size_toArray, List.length_cons, List.length_nil, Nat.reduceAdd, Nat.reduceSub, Array.replicate_succ, Array.replicate_zero, List.push_toArray, List.append_toArray, List.nil_append, List.cons_append]
  have Hn := Lib.hid hn; clear hn
  have HR := Lib.hid hR; clear hR
  have Hcap := Lib.hid hcap; clear hcap
  refine Mp.piece' hJ ph_ok res_3 (by kernel_rfl) (fun L' => Hid (L'.heap = L.heap)) (fun L' e => Lib.hid e) fun L2 Hs => ?_
  go_wp2
  refine MpPost.normal ?_
  have k2 : Keeps L L2 := .eq Hs.out
  obtain ⟨kk, ys, code, hS⟩ := saidP D wk
  have hc1 := run_m (Post := Post) (n0 := n0) (W0 := W0) (A := A) (c := c) (wk := wk) (L := L2) ((HR.out.kept (Nat.le_refl _) k2).more k2.1) Hn.out Hcap.out
  refine Mp.seq hJ (Mp.region hJ ?_)
  ((refine MpOps.val hJ ph_ok.bodies rfl (yld rfl _) (okOpB_ok (by kernel_rfl)) (fun w => run_mv _ _ rfl w) ?_; refine MpOps.val hJ ph_ok.bodies rfl (yld rfl _) (okOpB_ok (by kernel_rfl)) (fun w => run_mv _ _ rfl w) ?_))
  refine MpOps.call' hJ rfl (yld rfl _) rfl (fun x hx => ?_) ⟨_, Try.func15, by kernel_rfl, by kernel_rfl⟩ (by simp only [List.map_toArray, List.map_cons, List.map_nil]; rfl) (MCalls.mono hc1 fun v L3 hv => ?_)
  · simp at hx
    rcases hx with rfl | rfl <;> trivial
  obtain ⟨p1, c1, rfl, r1, k3⟩ := hS.run _ _ _ hv
  clear hc1 hv
  ((refine MpOps.val hJ ph_ok.bodies rfl (yld rfl _) (okOpB_ok (by kernel_rfl)) (fun w => run_mv _ _ rfl w) ?_; refine MpOps.val hJ ph_ok.bodies rfl (yld rfl _) (okOpB_ok (by kernel_rfl)) (fun w => run_ex _ _ rfl rfl rfl w) ?_; refine MpOps.val hJ ph_ok.bodies rfl (yld rfl _) (okOpB_ok (by kernel_rfl)) (fun w => run_ex _ _ rfl rfl rfl w) ?_; refine MpOps.val hJ ph_ok.bodies rfl (yld rfl _) (okOpB_ok (by kernel_rfl)) (fun w => run_ex _ _ rfl rfl rfl w) ?_; refine MpOps.val hJ ph_ok.bodies rfl (yld rfl _) (okOpB_ok (by kernel_rfl)) (fun w => run_as _ _ rfl w) ?_; refine MpOps.val hJ ph_ok.bodies rfl (yld rfl _) (okOpB_ok (by kernel_rfl)) (fun w => run_as _ _ rfl w) ?_; refine MpOps.val hJ ph_ok.bodies rfl (yld rfl _) (okOpB_ok (by kernel_rfl)) (fun w => run_as _ _ rfl w) ?_; refine MpOps.nil hJ ?_))
  show Mp _ _ _ _ _ _ _ _ _
  go_simp
  have k13 := k2.trans k3
  have hc2 := phases_m (Post := Post) (n0 := n0) (W0 := W0) (A := A) (c := c) (wk := wk) (L := L3) ((HR.out.kept (Nat.le_refl _) k13).more k13.1) Hn.out
  refine Mp.seq hJ (Mp.region hJ ?_)
  ((refine MpOps.val hJ ph_ok.bodies rfl (yld rfl _) (okOpB_ok (by kernel_rfl)) (fun w => run_mv _ _ rfl w) ?_; refine MpOps.val hJ ph_ok.bodies rfl (yld rfl _) (okOpB_ok (by kernel_rfl)) (fun w => run_mv _ _ rfl w) ?_))
  refine MpOps.call' hJ rfl (yld rfl _) rfl (fun x hx => ?_) ⟨_, Try.func16, by kernel_rfl, by kernel_rfl⟩ (by simp only [List.map_toArray, List.map_cons, List.map_nil]; rfl) (MCalls.mono hc2 fun v L4 hv => ?_)
  · simp at hx
    rcases hx with rfl | rfl <;> trivial
  obtain ⟨p2, c2, rfl, r2, k4⟩ := hS.ref _ _ _ hv
  clear hc2 hv
  ((refine MpOps.val hJ ph_ok.bodies rfl (yld rfl _) (okOpB_ok (by kernel_rfl)) (fun w => run_mv _ _ rfl w) ?_; refine MpOps.val hJ ph_ok.bodies rfl (yld rfl _) (okOpB_ok (by kernel_rfl)) (fun w => run_ex _ _ rfl rfl rfl w) ?_; refine MpOps.val hJ ph_ok.bodies rfl (yld rfl _) (okOpB_ok (by kernel_rfl)) (fun w => run_ex _ _ rfl rfl rfl w) ?_; refine MpOps.val hJ ph_ok.bodies rfl (yld rfl _) (okOpB_ok (by kernel_rfl)) (fun w => run_ex _ _ rfl rfl rfl w) ?_; refine MpOps.val hJ ph_ok.bodies rfl (yld rfl _) (okOpB_ok (by kernel_rfl)) (fun w => run_as _ _ rfl w) ?_; refine MpOps.val hJ ph_ok.bodies rfl (yld rfl _) (okOpB_ok (by kernel_rfl)) (fun w => run_as _ _ rfl w) ?_; refine MpOps.val hJ ph_ok.bodies rfl (yld rfl _) (okOpB_ok (by kernel_rfl)) (fun w => run_as _ _ rfl w) ?_; refine MpOps.nil hJ ?_))
  show Mp _ _ _ _ _ _ _ _ _
  go_simp
  have k14 := k13.trans k4
  have q1 : Rd L4 L3.heap.size p1 (ints ys) := r1.kept (Nat.le_refl _) k4
  have qA : RdAll L4 L.heap.size A D := HR.out.kept (Nat.le_refl _) k14
  refine Mp.last' hJ ph_ok res_3 (by kernel_rfl) (fun L' => Hid (Rd L' L'.heap.size p1 (ints ys) ∧ Rd L' L'.heap.size p2 (ints ys) ∧ RdAll L' L'.heap.size A D)) (fun L' e => Lib.hid ⟨(q1.kept k4.1 (.eq e)).more (by rw [e]; exact k4.1), (r2.kept (Nat.le_refl _) (.eq e)).more (by rw [e]; exact Nat.le_refl _), (qA.kept k14.1 (.eq e)).more (by rw [e]; exact k14.1)⟩) fun L6 H6 => ?_
  have hlen := hS.len
  clear q1 r2 qA k4 k14 k13 k3 r1 hS k2 Hs HR Hcap
  have hsame : ∀ W : World, W.heap = L6.heap → Calls Try.prog 17 #[.slice p1 ys.length c1, .slice p2 ys.length c2] W fun e w' => e = .returned (.bool true) ∧ Keeps L6 w' := fun W e => by
    have h1 : Rd W W.heap.size p1 (ints ys) := (H6.out.1.kept (Nat.le_refl _) (.eq e)).more (by rw [e]; exact Nat.le_refl _)
    have h2 : Rd W W.heap.size p2 (ints ys) := (H6.out.2.1.kept (Nat.le_refl _) (.eq e)).more (by rw [e]; exact Nat.le_refl _)
    refine (same_s W W.heap.size p1 p2 c1 c2 ys h1 h2 (Nat.le_refl _) (by omega)).mono ?_
    rintro e' w' ⟨rfl, hb⟩
    exact ⟨rfl, (Keeps.eq e).trans (Keeps.below hb)⟩
  have HSm := Lib.hid hsame; clear hsame
  have hchk : ∀ W : World, Keeps L6 W → Calls Try.prog 18 #[.slice A n c] W fun e w' => e = .returned (.int .i64 (dosCode D)) ∧ Keeps L6 w' := fun W e => by
    refine (phcheck_any W L6.heap.size A c n D (H6.out.2.2.kept (Nat.le_refl _) e) e.1 Hn.out).mono ?_
    rintro e' w' ⟨rfl, hb⟩
    exact ⟨rfl, e.trans (Keeps.below hb)⟩
  have hdos : ∀ W : World, Keeps L6 W → Calls Try.prog 19 #[.slice A n c] W fun e w' => e = .returned (.int .i64 (dosCode D)) ∧ Keeps L6 w' := fun W e => by
    refine (dos_any W L6.heap.size A c n D (H6.out.2.2.kept (Nat.le_refl _) e) e.1 Hn.out).mono ?_
    rintro e' w' ⟨rfl, hb⟩
    exact ⟨rfl, e.trans (Keeps.below hb)⟩
  have HC := Lib.hid hchk; have HD := Lib.hid hdos; clear hchk hdos H6
  generalize dosCode D = dc at *
  generalize ys.length = yl at *
  go_wp2_with (first
    | (go_at_call 17; refine (HSm.out _ rfl).mono ?_; rintro e w1 ⟨rfl, hb⟩; have Hb := Lib.hid hb; clear hb)
    | (go_at_call 18; refine (HC.out _ Hb.out).mono ?_; rintro e w2 ⟨rfl, hb⟩; have Hb2 := Lib.hid hb; clear hb)
    | (go_at_call 19; refine (HD.out _ Hb2.out).mono ?_; rintro e w3 ⟨rfl, hb⟩; have Hb3 := Lib.hid hb; clear hb))
  refine MpPost.leave ⟨.inr rfl, ?_⟩
  rw [pack_one results_3]
  rfl
end
end Go.Proofs.Yticdjkkcfdbdcaa
