/- What graph.Run and the reference answer, in one form; the contract of Same over int64. No conditions but that what is read is there. -/
import Derived.Test.YticdjkkcfdbdcaaGrRun
import Derived.Test.YticdjkkcfdbdcaaGrRw
namespace Go.Proofs.Yticdjkkcfdbdcaa
open Go.Conc Go.ConcN Go.RowKit Go.ChangeShapes Go.WideShapes Go.ChangeAt
theorem drewN_g {B : Nat} {w w' : World} (h : RowKit.Below B w w') (m : Nat) : RowKit.Below B w (w'.drewN m) := ⟨h.1, h.2, h.3, h.4, h.5⟩
set_option maxRecDepth 100000 in
set_option maxHeartbeats 1000000 in
theorem same_g (w : World) (B : Nat) (A A' : Option Addr) (c c' : Nat) (l : List Int) (hA : Rd w B A (ints l)) (hA' : Rd w B A' (ints l)) (hB : B ≤ w.heap.size) (hl : l.length ≤ 1048576) :
    Calls Try.prog 17 #[.slice A l.length c, .slice A' l.length c'] w fun e w' => e = .returned (.bool true) ∧ RowKit.Below w.heap.size w w' := by
  have HA := Lib.hid (And.intro hA hA'); clear hA hA'
  go_enter Try.func17, Try.ntmps17
  go_wp2
  go_loopg [13] l.length (fun gk i wr => ∃ k : Nat, gk + k = l.length ∧ i = .int .i64 k ∧ RowKit.Below w.heap.size w wr)
  case atStart => exact ⟨0, by omega, rfl, Below.refl _ _⟩
  case round =>
    obtain ⟨k, hgk, rfl, hb⟩ := hrel
    by_cases hk : k < l.length
    · obtain ⟨g, o, rfl, hg, c0⟩ := (HA.out.1.keep (w' := wr) fun p hp => hb.cell (by omega)).atMap hk
      obtain ⟨g', o', rfl, hg', d0⟩ := (HA.out.2.keep (w' := wr) fun p hp => hb.cell (by omega)).atMap hk
      have Hb := Lib.hid hb
      clear hb
      generalize l[k] = x at c0 d0
      go_wp2
      go_quiet (fail)
      go_wp2
      go_roundg (gk - 1)
      case measure => omega
      case rel => exact ⟨k + 1, by omega, by go_num, drewN_g Hb.out _⟩
    · have Hb := Lib.hid hb
      clear hb
      go_wp2
      go_ret
      exact ⟨rfl, Hb.out⟩
theorem pack_oneG {fn : Func} {i : Tmp} (h : fn.results = #[.tmp i]) (T : Array Value) : pack (resVals fn T) = T.getD i undef := by
  simp [resVals, h, pack]
def KeepsG (L L' : World) : Prop := KpG L.heap.size L L'
theorem KeepsG.trans {L L1 L2 : World} (h : KeepsG L L1) (h' : KeepsG L1 L2) : KeepsG L L2 := ⟨Nat.le_trans h.size h'.size, fun b hb => (h'.at_ b (Nat.lt_of_lt_of_le hb h.size)).trans (h.at_ b hb)⟩
theorem KeepsG.below {L L1 : World} (h : RowKit.Below L.heap.size L L1) : KeepsG L L1 := ⟨h.size, fun b hb => h.block b hb⟩
theorem KeepsG.eq {L L1 : World} (e : L1.heap = L.heap) : KeepsG L L1 := ⟨by rw [e]; exact Nat.le_refl _, fun b _ => by rw [e]⟩
theorem KeepsG.cell {L L1 : World} (h : KeepsG L L1) {p : Addr} (hp : p.block < L.heap.size) : L1.cell? p = L.cell? p := World.cell?_of_block (h.at_ _ hp)
theorem Rd.keptG {L L1 : World} {B : Nat} {A : Option Addr} {vs : List Value} (h : Rd L B A vs) (hB : B ≤ L.heap.size) (hk : KeepsG L L1) : Rd L1 B A vs := h.keep fun p hp => hk.cell (Nat.lt_of_lt_of_le hp hB)
theorem RdJobs.kept {L L1 : World} {B : Nat} {A : Option Addr} {J : List JobR} (h : RdJobs L B A J) (hB : B ≤ L.heap.size) (hk : KeepsG L L1) : RdJobs L1 B A J := h.keep fun p hp => hk.cell (Nat.lt_of_lt_of_le hp hB)
/-- What the reference answers. -/
def RefG (J : List JobR) (wk : Int) (L : World) (v : Value) (L1 : World) : Prop := (∃ u, v = .tuple #[u, .int .i64 (askedCode J wk)] ∧ (askedCode J wk ≠ 0 → u = .slice none 0 0) ∧
  (askedCode J wk = 0 → ∃ g, u = .slice (some ⟨g, 0, none⟩) J.length J.length ∧ Blk L1 g 2 (ints ((List.range J.length).map (valJ J))))) ∧ KeepsG L L1
/-- One form for right and for wrong input. -/
structure SaidG (J : List JobR) (wk : Int) (ys : List Int) (code : Int) : Prop where
  len : ys.length ≤ 200
  run : ∀ v L L1, RunPG J wk L v L1 → ∃ p c, v = .tuple #[.slice p ys.length c, .int .i64 code] ∧ Rd L1 L1.heap.size p (ints ys) ∧ KeepsG L L1
  ref : ∀ v L L1, RefG J wk L v L1 → ∃ p c, v = .tuple #[.slice p ys.length c, .int .i64 code] ∧ Rd L1 L1.heap.size p (ints ys) ∧ KeepsG L L1
  ok : code = askedCode J wk ∧ (code = 0 → ys = (List.range J.length).map (valJ J))
theorem asked_good {J : List JobR} {wk : Int} (h : askedCode J wk = 0) : Good J :=
  good_of_zero (Classical.byContradiction fun hx => hx ((askedCode_bad (n := wk) hx).symm.trans h))
theorem saidG (J : List JobR) (wk : Int) : ∃ ys code, SaidG J wk ys code := by
  by_cases h0 : askedCode J wk = 0
  · refine ⟨(List.range J.length).map (valJ J), 0, by simpa using (asked_good h0).few, fun v L L1 h => ?_, fun v L L1 h => ?_, h0.symm, fun _ => rfl⟩
    · obtain ⟨g, rfl, h2, h3⟩ := h.2.1 h0
      exact ⟨_, J.length, by simp, h3.rd, h.2.2⟩
    · obtain ⟨⟨u, rfl, _, h2⟩, h3⟩ := h
      obtain ⟨g, rfl, h4⟩ := h2 h0
      exact ⟨_, J.length, by simp [h0], h4.rd, h3⟩
  · refine ⟨[], askedCode J wk, by simp, fun v L L1 h => ⟨none, 0, h.1 h0, .nil _ _ _, h.2.2⟩, fun v L L1 h => ?_, rfl, fun h => absurd h h0⟩
    obtain ⟨⟨u, rfl, h1, _⟩, h3⟩ := h
    rw [h1 h0]
    exact ⟨none, 0, rfl, .nil _ _ _, h3⟩
section
variable {Post : Value → World → Prop} {n0 : Nat} {W0 : World}
theorem worked_m {A : Option Addr} {c n : Nat} {J : List JobR} {wk : Int} {L : World} (hR : RdJobs L L.heap.size A J) (hn : J.length = n) :
    MCalls (InV grL grV) Try.prog (fun k g w => Win Try.prog Post n0 W0 k g w) 21 #[.slice A n c, .int .i64 wk] false (RefG J wk L) L := by
  refine MCalls.lone (win_jok (P := Try.prog) (Post := Post) (n0 := n0) (W0 := W0)) gr_ok (by unfold InV; decide) fun T => ?_
  refine (worked_any { L with tape := T } L.heap.size A c n wk J (hR.keep fun _ _ => rfl) (Nat.le_refl _) hn).mono ?_
  rintro e w' ⟨u, rfl, h1, h2, h3⟩
  refine ⟨⟨u, rfl, h2, fun h => ?_⟩, h1.size, fun b hb => h1.block b hb⟩
  obtain ⟨g, q1, _, q3⟩ := h3 h
  exact ⟨g, q1, q3⟩
end
end Go.Proofs.Yticdjkkcfdbdcaa

/- The law steplaw.GraphRuns' body in company, told of the lone world: true. No conditions but those named. -/
namespace Go.Proofs.Yticdjkkcfdbdcaa
open Go.Conc Go.ConcN Go.RowKit Go.ChangeShapes Go.WideShapes Go.ChangeAt
theorem run_asG (e : Operand → Value) (o : Oper) {x : Operand} (hop : o.op = .assign x) (w : World) : (execOp e o).runT Try.prog w #[] = (.ok (.value (e x)) w, #[]) := by simp [go_sem, hop, execOp]
set_option maxRecDepth 100000 in
theorem res_5 : ResFn Try.prog 5 := resB_ok Try.func5 (by kernel_rfl)
theorem results_5 : Try.f5.results = #[.tmp 4] := by kernel_rfl
section
variable {Post : Value → World → Prop} {n0 : Nat} {W0 : World}
set_option maxRecDepth 100000 in
set_option maxHeartbeats 4000000 in
theorem law_m {A : Option Addr} {c n : Nat} {J : List JobR} {wk : Int} {L : World} (hR : RdJobs L L.heap.size A J) (hn : J.length = n) {code : Code} (hcode : Try.f5.body = some code) :
    Mp (InV grL grV) Try.prog (fun k g w => Win Try.prog Post n0 W0 k g w) 5 code false (fun e a1 _ => (e = .normal ∨ e = .ret) ∧ pack (resVals Try.f5 a1.tmps) = .bool true) ⟨#[.slice A n c, .int .i64 wk] ++ Array.replicate (Try.f5.ntmps - #[Value.slice A n c, .int .i64 wk].size) undef, []⟩ L := by
  have hJ : JOk Try.prog true _ (fun k g w => Win Try.prog Post n0 W0 k g w) := win_jok (P := Try.prog) (Post := Post) (n0 := n0) (W0 := W0)
  have hcode' := (show Try.f5.body = some _ from rfl).symm.trans hcode
  obtain rfl := Option.some.inj hcode'
  clear hcode hcode'
  simp only [Try.ntmps5, List.size_toArray, List.length_cons, List.length_nil, Nat.reduceAdd, Nat.reduceSub, Array.replicate_succ, Array.replicate_zero, List.push_toArray, List.append_toArray, List.nil_append, List.cons_append]
  have Hn := Lib.hid hn; clear hn
  have HR := Lib.hid hR; clear hR
  refine Mp.piece' hJ gr_ok res_5 (by kernel_rfl) (fun L' => Hid (L'.heap = L.heap)) (fun L' e => Lib.hid e) fun L2 Hs => ?_
  go_wp2
  refine MpPost.normal ?_
  have k2 : KeepsG L L2 := .eq Hs.out
  obtain ⟨ys, code, hS⟩ := saidG J wk
  have hc1 := run_m (Post := Post) (n0 := n0) (W0 := W0) (A := A) (c := c) (wk := wk) (L := L2) ((HR.out.kept (Nat.le_refl _) k2).more k2.size) (Nat.le_refl _) Hn.out
  refine Mp.seq hJ (Mp.region hJ ?_)
  ((refine MpOps.val hJ gr_ok.bodies rfl (yld rfl _) (okOpB_ok (by kernel_rfl)) (fun w => run_mvG _ _ rfl w) ?_; refine MpOps.val hJ gr_ok.bodies rfl (yld rfl _) (okOpB_ok (by kernel_rfl)) (fun w => run_mvG _ _ rfl w) ?_))
  go_simp
  refine MpOps.call' hJ rfl (yld rfl _) rfl (fun x hx => ?_) ⟨_, Try.func20, by kernel_rfl, by kernel_rfl⟩ (by simp only [List.map_toArray, List.map_cons, List.map_nil]; rfl) (MCalls.mono hc1 fun v L3 hv => ?_)
  · simp at hx
    rcases hx with rfl | rfl <;> trivial
  obtain ⟨p1, c1, rfl, r1, k3⟩ := hS.run _ _ _ hv
  clear hc1 hv
  go_simp
  refine MpOps.val hJ gr_ok.bodies rfl (yld rfl _) (okOpB_ok (by kernel_rfl)) (fun w => run_mvG _ _ rfl w) ?_
  go_simp
  refine MpOps.val hJ gr_ok.bodies rfl (yld rfl _) (okOpB_ok (by kernel_rfl)) (fun w => run_extr rfl rfl (.inl rfl) w) ?_
  refine MpOps.val hJ gr_ok.bodies rfl (yld rfl _) (okOpB_ok (by kernel_rfl)) (fun w => run_extr rfl rfl (.inr rfl) w) ?_
  go_simp
  refine MpOps.val hJ gr_ok.bodies rfl (yld rfl _) (okOpB_ok (by kernel_rfl)) (fun w => run_asG _ _ rfl w) ?_
  refine MpOps.val hJ gr_ok.bodies rfl (yld rfl _) (okOpB_ok (by kernel_rfl)) (fun w => run_asG _ _ rfl w) ?_
  refine MpOps.nil hJ ?_
  show Mp _ _ _ _ _ _ _ _ _
  go_simp
  have k13 := k2.trans k3
  have hc2 := worked_m (Post := Post) (n0 := n0) (W0 := W0) (A := A) (c := c) (wk := wk) (L := L3) ((HR.out.kept (Nat.le_refl _) k13).more k13.size) Hn.out
  refine Mp.seq hJ (Mp.region hJ ?_)
  ((refine MpOps.val hJ gr_ok.bodies rfl (yld rfl _) (okOpB_ok (by kernel_rfl)) (fun w => run_mvG _ _ rfl w) ?_; refine MpOps.val hJ gr_ok.bodies rfl (yld rfl _) (okOpB_ok (by kernel_rfl)) (fun w => run_mvG _ _ rfl w) ?_))
  go_simp
  refine MpOps.call' hJ rfl (yld rfl _) rfl (fun x hx => ?_) ⟨_, Try.func21, by kernel_rfl, by kernel_rfl⟩ (by simp only [List.map_toArray, List.map_cons, List.map_nil]; rfl) (MCalls.mono hc2 fun v L4 hv => ?_)
  · simp at hx
    rcases hx with rfl | rfl <;> trivial
  obtain ⟨p2, c2, rfl, r2, k4⟩ := hS.ref _ _ _ hv
  clear hc2 hv
  go_simp
  refine MpOps.val hJ gr_ok.bodies rfl (yld rfl _) (okOpB_ok (by kernel_rfl)) (fun w => run_mvG _ _ rfl w) ?_
  go_simp
  refine MpOps.val hJ gr_ok.bodies rfl (yld rfl _) (okOpB_ok (by kernel_rfl)) (fun w => run_extr rfl rfl (.inl rfl) w) ?_
  refine MpOps.val hJ gr_ok.bodies rfl (yld rfl _) (okOpB_ok (by kernel_rfl)) (fun w => run_extr rfl rfl (.inr rfl) w) ?_
  go_simp
  refine MpOps.val hJ gr_ok.bodies rfl (yld rfl _) (okOpB_ok (by kernel_rfl)) (fun w => run_asG _ _ rfl w) ?_
  refine MpOps.val hJ gr_ok.bodies rfl (yld rfl _) (okOpB_ok (by kernel_rfl)) (fun w => run_asG _ _ rfl w) ?_
  refine MpOps.nil hJ ?_
  show Mp _ _ _ _ _ _ _ _ _
  go_simp
  have k14 := k13.trans k4
  have q1 : Rd L4 L3.heap.size p1 (ints ys) := r1.keptG (Nat.le_refl _) k4
  have qA : RdJobs L4 L.heap.size A J := HR.out.kept (Nat.le_refl _) k14
  refine Mp.last' hJ gr_ok res_5 (by kernel_rfl) (fun L' => Hid (Rd L' L'.heap.size p1 (ints ys) ∧ Rd L' L'.heap.size p2 (ints ys) ∧ RdJobs L' L'.heap.size A J)) (fun L' e => Lib.hid ⟨(q1.keptG k4.size (.eq e)).more (by rw [e]; exact k4.size), (r2.keptG (Nat.le_refl _) (.eq e)).more (by rw [e]; exact Nat.le_refl _), (qA.kept k14.size (.eq e)).more (by rw [e]; exact k14.size)⟩) fun L6 H6 => ?_
  have hlen := hS.len
  clear q1 r2 qA k4 k14 k13 k3 r1 hS k2 Hs HR
  have hsame : ∀ W : World, W.heap = L6.heap → Calls Try.prog 17 #[.slice p1 ys.length c1, .slice p2 ys.length c2] W fun e w' => e = .returned (.bool true) ∧ KeepsG L6 w' := fun W e => by
    have h1 : Rd W W.heap.size p1 (ints ys) := (H6.out.1.keptG (Nat.le_refl _) (.eq e)).more (by rw [e]; exact Nat.le_refl _)
    have h2 : Rd W W.heap.size p2 (ints ys) := (H6.out.2.1.keptG (Nat.le_refl _) (.eq e)).more (by rw [e]; exact Nat.le_refl _)
    refine (same_g W W.heap.size p1 p2 c1 c2 ys h1 h2 (Nat.le_refl _) (by omega)).mono ?_
    rintro e' w' ⟨rfl, hb⟩
    exact ⟨rfl, (KeepsG.eq e).trans (KeepsG.below hb)⟩
  have HSm := Lib.hid hsame; clear hsame
  have hchk : ∀ W : World, KeepsG L6 W → Calls Try.prog 22 #[.slice A n c] W fun e w' => e = .returned (.int .i64 (jobsCode J)) ∧ KeepsG L6 w' := fun W e => by
    refine (check_any W L6.heap.size A c n J (H6.out.2.2.kept (Nat.le_refl _) e) e.size Hn.out).mono ?_
    rintro e' w' ⟨rfl, hb⟩
    exact ⟨rfl, e.trans (KeepsG.below hb)⟩
  have hjobs : ∀ W : World, KeepsG L6 W → Calls Try.prog 23 #[.slice A n c] W fun e w' => e = .returned (.int .i64 (jobsCode J)) ∧ KeepsG L6 w' := fun W e => by
    refine (jobs W L6.heap.size A c n J (H6.out.2.2.kept (Nat.le_refl _) e) e.size Hn.out).mono ?_
    rintro e' w' ⟨rfl, hb⟩
    exact ⟨rfl, e.trans (KeepsG.below hb)⟩
  have HC := Lib.hid hchk; have HD := Lib.hid hjobs; clear hchk hjobs H6
  generalize jobsCode J = dc at *
  generalize ys.length = yl at *
  go_wp2_with (first
    | (go_at_call 17; refine (HSm.out _ rfl).mono ?_; rintro e w1 ⟨rfl, hb⟩; have Hb := Lib.hid hb; clear hb)
    | (go_at_call 22; refine (HC.out _ Hb.out).mono ?_; rintro e w2 ⟨rfl, hb⟩; have Hb2 := Lib.hid hb; clear hb)
    | (go_at_call 23; refine (HD.out _ Hb2.out).mono ?_; rintro e w3 ⟨rfl, hb⟩; have Hb3 := Lib.hid hb; clear hb))
  refine MpPost.leave ⟨.inr rfl, ?_⟩
  rw [pack_oneG results_5]
  rfl
end
end Go.Proofs.Yticdjkkcfdbdcaa
