/- A worker of graph.Run in company: it tells those that wait. No conditions but those named. -/
import Derived.Test.YticdjkkcfdbdcaaGrK
namespace Go.Proofs.Yticdjkkcfdbdcaa
open Go.Conc Go.ConcN Go.RowKit
theorem run_sendI {e : Operand → Value} {o : Oper} {c : Nat} {v : Value} {x y : Tmp} (hop : o.op = .send (.tmp x) (.tmp y)) (hx : e (.tmp x) = .chan (some c)) (hy : e (.tmp y) = v) (w : World) : (execOp e o).runT Try.prog w #[] = (.ok (.comm #[scase c v (.tuple #[])] true .send) w, #[]) := by
  simp [go_sem, hop, hx, hy, execOp, scase]
theorem run_recvI {e : Operand → Value} {o : Oper} {c : Nat} {x : Tmp} (hop : o.op = .recv 126 (.tmp x) true) (hx : e (.tmp x) = .chan (some c)) (w : World) : (execOp e o).runT Try.prog w #[] = (.ok (.comm #[rcase c (.int .i64 0)] true (.recv true)) w, #[]) := by
  simp [go_sem, hop, hx, execOp, rcase]
section
variable {P : GPar} {M : GLoc} {X Rl : Loc → Prop} {w0 : World} {m0 p0 tot wg : Nat} {Shun : Loc → Prop} {Anc : Goroutine → World → Prop} {R0 At : Loc → Prop} {Nj : Nat → Int} {B : GBox} {n r0 j : Nat} {ds : List Deferred} {b : Frame} {cs : List Frame} {K : List Item}
/-- A call of Add in company: what stands ahead and behind. -/
theorem gk_add (hO : GOk P M X wg w0) {x x' : GSt} {bb o : Nat} {d : Int} {c : Frame} {k : LK} {w : World} {n : Nat} (hn0 : n ≠ 0)
    (h : ∀ g0 g1, AddAt Try.prog g0 ⟨bb, o, none⟩ d g1 → g0.status = .running → g0.offers = none → (∀ x' k' w' v, WP (wgProto Try.prog (famG P M X Rl w0 m0) 114 wg m0 p0 tot Shun Anc) n k' (.work x') (G (c.finish (.int .i64 v)) cs) w' → WP (wgProto Try.prog (famG P M X Rl w0 m0) 114 wg m0 p0 tot Shun Anc) n k' (.work x') (g1 v) w') → WP (wgProto Try.prog (famG P M X Rl w0 m0) 114 wg m0 p0 tot Shun Anc) n k (.work x) g0 w) :
    WP (wgProto Try.prog (famG P M X Rl w0 m0) 114 wg m0 p0 tot Shun Anc) n k (.work x) (at0 ⟨bb, o, none⟩ d c cs) w := by
  obtain ⟨g0, g1, q1, q2, q3, q4⟩ := add_script64 114 wg bb o d c cs
  have hb0 : (n == 0) = false := by simpa using hn0
  refine wp_still (famG_ok hO) (by simp) rfl (by rw [hb0]; exact q1) (h g0 g1 q2 q3.1 q3.2 fun x' k' w' v hw => ?_)
  exact wp_still (famG_ok hO) (by simp) (q4 v).1 (by rw [hb0]; exact (q4 v).2) hw
set_option maxRecDepth 100000 in
/-- Those that wait are told. -/
theorem gk_tell (hO : GOk P M X wg w0) (hN : JobsAt w0 R0 P M Nj B) (hb : b.kind ≠ .early) (hn0 : n ≠ 0) (hj : j < P.N) {sv : Value} (hsv : ∃ sA sc, sv = .slice sA (P.nxt j).length sc ∧ ∀ q (h : q < (P.nxt j).length), ∃ ab ao, sA = some ⟨ab, ao, none⟩ ∧ w0.cell? ⟨ab, ao + q, none⟩ = some (.int .i64 ((P.nxt j)[q] : Int)) ∧ R0 (.cell ⟨ab, ao + q, none⟩))
    (hn : ∀ ph a k w, ph.at (P.nxt j).length → Tm 66 ds (tbG wg B M) a → GP w0 R0 At M r0 j ph k w → WP (wgProto Try.prog (famG P M X Rl w0 m0) 114 wg m0 p0 tot Shun Anc) n k (.work (.busy j ph)) (G (b.at a K) cs) w) :
    ∀ (d q : Nat) (ph : GPh) (a : Act) (k : LK) (w : World), (P.nxt j).length - q = d → q ≤ (P.nxt j).length → ph.at q → Tm 66 ds ((49, .int .i64 (q : Int)) :: (48, .int .i64 ((P.nxt j).length : Int)) :: (47, sv) :: tbG wg B M) a → GP w0 R0 At M r0 j ph k w →
      WP (wgProto Try.prog (famG P M X Rl w0 m0) 114 wg m0 p0 tot Shun Anc) n k (.work (.busy j ph)) (G (b.at a (.code LGC :: .inLoop LGC :: .inBlock 4 :: K)) cs) w := by
  obtain ⟨sA, sc, rfl, hsv⟩ := hsv
  intro d
  induction d with
  | zero =>
    intro q ph a k w hd hq hph hT hS
    have hJ := gk_jok (P := P) (M := M) (X := X) (Rl := Rl) (w0 := w0) (m0 := m0) (p0 := p0) (tot := tot) (wg := wg) (Shun := Shun) (Anc := Anc) hO n (.busy j ph)
    have hSR : ∀ k w w₁, GP w0 R0 At M r0 j ph k w → (Rely k w w₁ ∧ (famG P M X Rl w0 m0).GR n w w₁) → GP w0 R0 At M r0 j ph k w₁ := fun k w w₁ h hR => h.go hR.1 hR.2.2
    obtain rfl : q = (P.nxt j).length := by omega
    refine js_seq hJ _ hSR (fun k w hS => t_region hJ _ hSR (n := 1) (by kernel_rfl) (fun k w hS => ?_) hS) hS
    refine t_run hJ _ hSR hb (i := 0) (p := .binOp .lss 3 (.tmp 49) (.tmp 48) 3) (d := 50) (by kernel_rfl) (by decide) hT (v := .bool (decide (((P.nxt j).length : Int) < ((P.nxt j).length : Int)))) (fun o ho w => run_arith under_int ho (hT.of _ _ rfl) (hT.of _ _ rfl) (.inr (.inr (.inr ⟨rfl, rfl⟩))) w) (fun a1 hT k w hS => ?_) hS
    rw [decide_eq_false (Int.lt_irrefl _)] at hT
    refine js_regend hJ _ hSR (fun k w hS => js_seq hJ _ hSR (fun k w hS => js_cond hJ _ hSR (hT.of 50 _ rfl) (fun k w hS => js_exit hJ _ hSR (K1 := K) (by simp [exitTo]) (fun k w hS => ?_) hS) hS) hS) hS
    refine hn ph a1 k w hph (hT.to ?_) hS
    exact getT_skip (getT_skip (getT_skip (getT_skip getT_refl rfl) rfl) rfl) rfl
  | succ d ih =>
    intro q ph a k w hd hq hph hT hS
    have hJ := gk_jok (P := P) (M := M) (X := X) (Rl := Rl) (w0 := w0) (m0 := m0) (p0 := p0) (tot := tot) (wg := wg) (Shun := Shun) (Anc := Anc) hO n (.busy j ph)
    have hSR : ∀ k w w₁, GP w0 R0 At M r0 j ph k w → (Rely k w w₁ ∧ (famG P M X Rl w0 m0).GR n w w₁) → GP w0 R0 At M r0 j ph k w₁ := fun k w w₁ h hR => h.go hR.1 hR.2.2
    have hlt : q < (P.nxt j).length := by omega
    obtain ⟨ab, ao, rfl, hc, hR⟩ := hsv q hlt
    have hs200 := hN.shortN j hj
    have hget : (P.nxt j)[q]? = some (P.nxt j)[q] := List.getElem?_eq_getElem hlt
    have hmN : (P.nxt j)[q] < P.N := hO.wf.lt j hj _ (List.getElem_mem _)
    refine js_seq hJ _ hSR (fun k w hS => t_region hJ _ hSR (n := 1) (by kernel_rfl) (fun k w hS => ?_) hS) hS
    refine t_run hJ _ hSR hb (i := 0) (p := .binOp .lss 3 (.tmp 49) (.tmp 48) 3) (d := 50) (by kernel_rfl) (by decide) hT (v := .bool (decide ((q : Int) < ((P.nxt j).length : Int)))) (fun o ho w => run_arith under_int ho (hT.of _ _ rfl) (hT.of _ _ rfl) (.inr (.inr (.inr ⟨rfl, rfl⟩))) w) (fun a1 hT k w hS => ?_) hS
    rw [decide_eq_true (by omega)] at hT
    refine js_regend hJ _ hSR (fun k w hS => js_seq hJ _ hSR (fun k w hS => js_cond hJ _ hSR (hT.of 50 _ rfl) (fun k w hS => js_skip hJ _ hSR (fun k w hS => js_seq hJ _ hSR (fun k w hS => js_block hJ _ hSR (fun k w hS => js_seq hJ _ hSR (fun k w hS => t_region hJ _ hSR (n := 3) (by kernel_rfl) (fun k w hS => ?_) hS) hS) hS) hS) hS) hS) hS) hS
    refine t_index hJ _ hSR hb (i := 0) (t := 47) (u := 49) (d := 51) (ty := 39) (elem := 3) (sz := 1) (by kernel_rfl) (by decide) hT (q := ⟨ab, ao, none⟩) (len := (P.nxt j).length) (n := q) rfl rfl hlt Try.underlying39 (fun w => Try.sizeOf3 w) (fun a2 hT k w hS => ?_) hS
    rw [show ((⟨ab, ao, none⟩ : Addr).add (q * 1)) = ⟨ab, ao + q, none⟩ by simp [Addr.add_lit']] at hT
    refine t_load hJ _ hSR hb (i := 1) (t := 51) (d := 52) (ty := 3) (by kernel_rfl) (by decide) hT rfl (fun w => Try.isAgg3 w) (fun k w hS => hS.b.rd hc hR) (fun a3 hT k w hS => ?_) hS
    refine t_move hJ _ hSR hb (i := 2) (t := 52) (d := 12) (asg := true) (by kernel_rfl) (by decide) hT rfl (fun a4 hT k w hS => ?_) hS
    generalize hme : (P.nxt j)[q] = m at hT hget hmN
    obtain ⟨lb, hlc, hla, hlbz, hlz⟩ := hN.left
    refine js_regend hJ _ hSR (fun k w hS => js_seq hJ _ hSR (fun k w hS => t_region hJ _ hSR (n := 5) (by kernel_rfl) (fun k w hS => ?_) hS) hS) hS
    refine t_load hJ _ hSR hb (i := 0) (t := 5) (d := 53) (ty := 124) (by kernel_rfl) (by decide) hT rfl (fun w => Try.isAgg124 w) (fun k w hS => hS.b.rd hlc.1 hlc.2) (fun a5 hT k w hS => ?_) hS
    refine t_move hJ _ hSR hb (i := 1) (t := 12) (d := 54) (asg := false) (by kernel_rfl) (by decide) hT rfl (fun a6 hT k w hS => ?_) hS
    refine t_index hJ _ hSR hb (i := 2) (t := 53) (u := 54) (d := 55) (ty := 124) (elem := 128) (sz := 1) (by kernel_rfl) (by decide) hT (q := ⟨lb, 0, none⟩) (len := P.N) (n := m) rfl rfl hmN Try.underlying124 (fun w => Try.sizeOf128 w) (fun a7 hT k w hS => ?_) hS
    rw [show ((⟨lb, 0, none⟩ : Addr).add (m * 1)) = ⟨lb, m, none⟩ by simp [Addr.add_lit']] at hT
    -- the call
    obtain ⟨o3, ho3, hop3, hg3, hd3⟩ := op_ex (ops := opsOf Try.f57 14) (i := 3) (p := .call { callee := .value (.func 58), args := #[.tmp 55, .const (.int .i64 (-1))], argTypes := #[128, 2] }) (d := some 56) (by kernel_rfl)
    have hcall := op_call (P := Try.prog) (e := a7.eval) (n := 58) (first := #[]) (captured := #[]) hop3 rfl ⟨_, Try.func58, by kernel_rfl, by kernel_rfl⟩
    have hargs : (#[] ++ #[Operand.tmp 55, .const (.int .i64 (-1))].map a7.eval ++ #[] : Array Value) = #[.pointer (some ⟨lb, m, none⟩), .int .i64 (-1)] := by
      simp [hT.of 55 _ rfl]
      rfl
    rw [hargs] at hcall
    refine j_ctl hJ (fun w => (stepG_enter ho3 (yld hg3 _) hb (hcall w).1).trans (by rw [listed, (hcall w).2, seen_empty])) fun w₂ hR2 => ?_
    replace hS := hSR _ _ _ hS hR2
    clear hR2
    have hfin : ∀ v, (b.at a7 (.inRegion (opsOf Try.f57 14) [3, 4] :: .code (.cond (.tmp 57) (rgK 15 false) .skip) :: .inBlock 5 :: .code (rgK 16 false) :: .inLoop LGC :: .inBlock 4 :: K)).finish v = b.at (a7.put (some 56) v) (.inRegion (opsOf Try.f57 14) [4] :: .code (.cond (.tmp 57) (rgK 15 false) .skip) :: .inBlock 5 :: .code (rgK 16 false) :: .inLoop LGC :: .inBlock 4 :: K) := fun v => by rw [Frame.finish_at, ho3]; simp only [Option.bind_some, hd3]
    refine gk_add hO hn0 (x := .busy j ph) (x' := .idle) (bb := lb) (o := m) (d := -1) fun g0 g1 hA hr0 ho0 hpost => ?_
    simp only [hfin] at hpost
    have hlam : M.la m = ⟨lb, m, none⟩ := hla m
    rw [← hlam] at hA
    -- behind it
    have fin : ∀ ph' k' w' a', ph'.at (q + 1) → GP w0 R0 At M r0 j ph' k' w' → Tm 66 ds ((49, .int .i64 (q : Int)) :: (48, .int .i64 ((P.nxt j).length : Int)) :: (47, .slice (some ⟨ab, ao, none⟩) (P.nxt j).length sc) :: tbG wg B M) a' →
        WP (wgProto Try.prog (famG P M X Rl w0 m0) 114 wg m0 p0 tot Shun Anc) n k' (.work (.busy j ph')) (G (b.at a' (.inBlock 5 :: .code (rgK 16 false) :: .inLoop LGC :: .inBlock 4 :: K)) cs) w' := by
      intro ph' k' w' a' hph' hS' hT'
      have hJ' := gk_jok (P := P) (M := M) (X := X) (Rl := Rl) (w0 := w0) (m0 := m0) (p0 := p0) (tot := tot) (wg := wg) (Shun := Shun) (Anc := Anc) hO n (.busy j ph')
      have hSR' : ∀ k w w₁, GP w0 R0 At M r0 j ph' k w → (Rely k w w₁ ∧ (famG P M X Rl w0 m0).GR n w w₁) → GP w0 R0 At M r0 j ph' k w₁ := fun k w w₁ h hR => h.go hR.1 hR.2.2
      refine js_inBlock hJ' _ hSR' (fun k w hS => t_region hJ' _ hSR' (n := 2) (by kernel_rfl) (fun k w hS => ?_) hS) hS'
      refine t_run hJ' _ hSR' hb (i := 0) (p := .binOp .add 3 (.tmp 49) (.const (.int .i64 1)) 3) (d := 60) (by kernel_rfl) (by decide) hT' (fun o ho w => run_arith under_int ho (hT'.of _ _ rfl) rfl (.inl ⟨rfl, rfl⟩) w) (fun a13 hT k w hS => ?_) hS
      rw [show IntKind.i64.wrap ((q : Int) + 1) = ((q + 1 : Nat) : Int) by rw [IntKind.wrap_i64]; omega] at hT
      refine t_move hJ' _ hSR' hb (i := 1) (t := 60) (d := 49) (asg := false) (by kernel_rfl) (by decide) hT rfl (fun a14 hT k w hS => ?_) hS
      refine js_regend hJ' _ hSR' (fun k w hS => js_inLoop hJ' _ hSR' (fun k w hS => ?_) hS) hS
      refine ih (q + 1) ph' a14 k w (by omega) (by omega) hph' (hT.to ?_) hS
      refine getT_cons rfl (getT_cons rfl (getT_cons rfl ?_))
      exact getT_skip (getT_skip (getT_skip (getT_skip (getT_skip getT_refl rfl) rfl) rfl) rfl) rfl
    have down : ∀ {v x' a'}, Tm 66 ds ((57, v) :: (56, x') :: (55, .pointer (some ⟨lb, m, none⟩)) :: (54, .int .i64 (m : Int)) :: (53, .slice (some ⟨lb, 0, none⟩) P.N P.N) :: (12, .int .i64 (m : Int)) :: (52, .int .i64 (m : Int)) :: (51, .pointer (some ⟨ab, ao + q, none⟩)) :: (50, .bool true) :: (49, .int .i64 (q : Int)) :: (48, .int .i64 ((P.nxt j).length : Int)) :: (47, .slice (some ⟨ab, ao, none⟩) (P.nxt j).length sc) :: tbG wg B M) a' → Tm 66 ds ((12, .int .i64 (m : Int)) :: (49, .int .i64 (q : Int)) :: (48, .int .i64 ((P.nxt j).length : Int)) :: (47, .slice (some ⟨ab, ao, none⟩) (P.nxt j).length sc) :: tbG wg B M) a' := fun {v x' a'} h => h.to (by
      refine getT_cons rfl (getT_cons rfl (getT_cons rfl (getT_cons rfl ?_)))
      exact getT_skip (getT_skip (getT_skip (getT_skip (getT_skip (getT_skip (getT_skip (getT_skip (getT_skip (getT_skip (getT_skip (getT_skip getT_refl rfl) rfl) rfl) rfl) rfl) rfl) rfl) rfl) rfl) rfl) rfl) rfl)
    have gb : ∀ {w' : World}, Rely k w₂ w' → (∀ r0, Recvd M w₂ r0 → Recvd M w' r0) → GB w0 R0 At M r0 (k.after M j ph) w' := fun {w'} hr hv => by
      have h1 := hS.b.go hr hv
      refine ⟨fun l hl => ?_, by rw [(LK.after_le k M j ph).2]; exact h1.A, h1.rel, h1.rcv⟩
      have := h1.R l hl
      cases ph with
      | comp => exact .inl this
      | put _ => exact this
      | send _ => exact this
    have hzz : w₂.frozen? (M.la m) = false := by rw [hlam]; exact (frozen_rely hS.b.rel hlbz).trans (hlz m hmN)
    have hlz2 : (M.la m).block < w₂.heap.size := by rw [hlam]; exact Nat.lt_of_lt_of_le hlbz hS.b.rel.size
    refine wp_gtell hO hn0 hr0 ho0 hph hget (fun e => (hS.num e).1) (fun e => (hS.num e).2) hzz hlz2 (Nat.le_trans (hN.short m hmN) (by decide)) hA (fun w' v hr hv hrc => ?_) (fun w' hr hrc => ?_)
    · -- more are waited for
      refine hpost _ _ _ _ ?_
      have hJ' := gk_jok (P := P) (M := M) (X := X) (Rl := Rl) (w0 := w0) (m0 := m0) (p0 := p0) (tot := tot) (wg := wg) (Shun := Shun) (Anc := Anc) hO n (.busy j (.put (q + 1)))
      have hSR' : ∀ k w w₁, GP w0 R0 At M r0 j (.put (q + 1)) k w → (Rely k w w₁ ∧ (famG P M X Rl w0 m0).GR n w w₁) → GP w0 R0 At M r0 j (.put (q + 1)) k w₁ := fun k w w₁ h hR => h.go hR.1 hR.2.2
      have hT8 := hT.put (d := 56) (by decide) (.int .i64 v)
      refine t_run hJ' _ hSR' hb (i := 4) (p := .binOp .eql 2 (.tmp 56) (.const (.int .i64 0)) 2) (d := 57) (by kernel_rfl) (by decide) hT8 (fun o ho w => run_arith under_i64g ho (hT8.of _ _ rfl) rfl (.inr (.inr (.inl ⟨rfl, rfl⟩))) w) (fun a9 hT k w hS => ?_) (⟨gb hr hrc, fun e => by cases e⟩ : GP w0 R0 At M r0 j (.put (q + 1)) _ w')
      rw [show (v == 0) = false by simpa using hv] at hT
      refine js_regend hJ' _ hSR' (fun k w hS => js_cond hJ' _ hSR' (hT.of 57 _ rfl) (fun k w hS => js_skip hJ' _ hSR' (fun k w hS => ?_) hS) hS) hS
      exact fin _ _ _ _ rfl hS ((down hT).to (getT_skip getT_refl rfl))
    · refine hpost _ _ _ _ ?_
      have hJ' := gk_jok (P := P) (M := M) (X := X) (Rl := Rl) (w0 := w0) (m0 := m0) (p0 := p0) (tot := tot) (wg := wg) (Shun := Shun) (Anc := Anc) hO n (.busy j (.send q))
      have hSR' : ∀ k w w₁, GP w0 R0 At M r0 j (.send q) k w → (Rely k w w₁ ∧ (famG P M X Rl w0 m0).GR n w w₁) → GP w0 R0 At M r0 j (.send q) k w₁ := fun k w w₁ h hR => h.go hR.1 hR.2.2
      have hT8 := hT.put (d := 56) (by decide) (.int .i64 0)
      refine t_run hJ' _ hSR' hb (i := 4) (p := .binOp .eql 2 (.tmp 56) (.const (.int .i64 0)) 2) (d := 57) (by kernel_rfl) (by decide) hT8 (fun o ho w => run_arith under_i64g ho (hT8.of _ _ rfl) rfl (.inr (.inr (.inl ⟨rfl, rfl⟩))) w) (fun a9 hT k w hS => ?_) (⟨gb hr hrc, fun e => by cases e⟩ : GP w0 R0 At M r0 j (.send q) _ w')
      rw [show ((0 : Int) == 0) = true from rfl] at hT
      refine js_regend hJ' _ hSR' (fun k w hS => js_cond hJ' _ hSR' (hT.of 57 _ rfl) (fun k w hS => ?_) hS) hS
      replace hT := down hT
      show WP _ n k _ (G (b.at a9 (.code (rgK 15 false) :: _)) cs) w
      refine t_region hJ' _ hSR' (n := 3) (by kernel_rfl) (fun k w hS => ?_) hS
      refine t_load hJ' _ hSR' hb (i := 0) (t := 1) (d := 58) (ty := 126) (by kernel_rfl) (by decide) hT rfl (fun w => Try.isAgg126 w) (fun k w hS => hS.b.rd hN.ch.1 hN.ch.2) (fun a10 hT k w hS => ?_) hS
      refine t_move hJ' _ hSR' hb (i := 1) (t := 12) (d := 59) (asg := false) (by kernel_rfl) (by decide) hT rfl (fun a11 hT k w hS => ?_) hS
      obtain ⟨o5, ho5, hop5, hg5, hd5⟩ := op_ex (ops := opsOf Try.f57 15) (i := 2) (p := .send (.tmp 58) (.tmp 59)) (d := none) (by kernel_rfl)
      have hrun := run_sendI (e := a11.eval) hop5 (hT.of 58 _ rfl) (hT.of 59 _ rfl)
      have hr2 : ∀ w, (execOp a11.eval o5).run Try.prog w = .ok (.comm #[scase M.c (.int .i64 (m : Int)) (.tuple #[])] true .send) w ∧ (execOp a11.eval o5).events Try.prog w #[] = #[] := fun w => by
        have := hrun w
        rw [Sem.runT_eq] at this
        exact Prod.mk.inj this
      have hsnd : SendAt Try.prog n (G (b.at a11 (.inRegion (opsOf Try.f57 15) [2] :: .inBlock 5 :: .code (rgK 16 false) :: .inLoop LGC :: .inBlock 4 :: K)) cs) M.c (.int .i64 (m : Int)) (.tuple #[]) := fun w => (stepG_comm ho5 (yld hg5 _) hb (hr2 w).1).trans (by rw [listed, (hr2 w).2, seen_empty])
      refine wp_ggive hO hn0 rfl rfl hget hsnd fun w' hr hrc => ?_
      have hfin5 : Go.Conc.served (G (b.at a11 (.inRegion (opsOf Try.f57 15) [2] :: .inBlock 5 :: .code (rgK 16 false) :: .inLoop LGC :: .inBlock 4 :: K)) cs) undef = G (b.at a11 (.inRegion (opsOf Try.f57 15) [] :: .inBlock 5 :: .code (rgK 16 false) :: .inLoop LGC :: .inBlock 4 :: K)) cs := by
        show G ((b.at a11 _).finish undef) cs = _
        rw [Frame.finish_at, ho5]
        simp only [Option.bind_some, hd5]
        rfl
      rw [hfin5]
      have hJ2 := gk_jok (P := P) (M := M) (X := X) (Rl := Rl) (w0 := w0) (m0 := m0) (p0 := p0) (tot := tot) (wg := wg) (Shun := Shun) (Anc := Anc) hO n (.busy j (.put (q + 1)))
      have hSR2 : ∀ k w w₁, GP w0 R0 At M r0 j (.put (q + 1)) k w → (Rely k w w₁ ∧ (famG P M X Rl w0 m0).GR n w w₁) → GP w0 R0 At M r0 j (.put (q + 1)) k w₁ := fun k w w₁ h hR => h.go hR.1 hR.2.2
      refine js_regend hJ2 _ hSR2 (fun k w hS => fin _ _ _ _ rfl hS (hT.to ?_)) (⟨hS.b.go hr hrc, fun e => by cases e⟩ : GP w0 R0 At M r0 j (.put (q + 1)) _ w')
      exact getT_skip (getT_skip (getT_skip getT_refl rfl) rfl) rfl
end
end Go.Proofs.Yticdjkkcfdbdcaa
