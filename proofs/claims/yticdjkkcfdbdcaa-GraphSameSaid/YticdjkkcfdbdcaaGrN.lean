/- A worker of graph.Run in company, from its birth. No conditions but those named. -/
import Derived.Test.YticdjkkcfdbdcaaGrM
namespace Go.Proofs.Yticdjkkcfdbdcaa
open Go.Conc Go.ConcN Go.RowKit
section
variable {P : GPar} {M : GLoc} {X Rl : Loc → Prop} {w0 : World} {m0 p0 tot wg : Nat} {Shun : Loc → Prop} {Anc : Goroutine → World → Prop} {R0 At : Loc → Prop} {Nj : Nat → Int} {B : GBox} {n r0 j : Nat} {cs : List Frame}
set_option maxRecDepth 100000 in
theorem gk_loop (hO : GOk P M X wg w0) (hN : JobsAt w0 R0 P M Nj B) (hn0 : n ≠ 0) (hcs : cs = [bornBelow Try.prog]) :
    ∀ (d r0 : Nat) (a : Act) (k : LK) (w : World), P.N - r0 ≤ d → Tm 66 [dcall 50 #[.pointer (some ⟨wg, 0, none⟩)]] (tbG wg B M) a → GB w0 R0 At M r0 k w →
      WP (wgProto Try.prog (famG P M X Rl w0 m0) 114 wg m0 p0 tot Shun Anc) n k (.work .idle) (G ((baseD 57).at a (.code LGB :: .inLoop LGB :: .inBlock 0 :: [])) cs) w := by
  intro d
  induction d using Nat.strongRecOn with
  | _ d ih =>
  intro r0 a k w hd hT hS
  have hb : (baseD 57).kind ≠ .early := by decide
  have hJ := gk_jok (P := P) (M := M) (X := X) (Rl := Rl) (w0 := w0) (m0 := m0) (p0 := p0) (tot := tot) (wg := wg) (Shun := Shun) (Anc := Anc) hO n .idle
  have hSR : ∀ k w w₁, GB w0 R0 At M r0 k w → (Rely k w w₁ ∧ (famG P M X Rl w0 m0).GR n w w₁) → GB w0 R0 At M r0 k w₁ := fun k w w₁ h hR => h.go hR.1 hR.2.2
  refine js_seq hJ _ hSR (fun k w hS => t_region hJ _ hSR (n := 2) (by kernel_rfl) (fun k w hS => ?_) hS) hS
  obtain ⟨o0, ho0, hop0, hg0, hd0⟩ := op_ex (ops := opsOf Try.f57 2) (i := 0) (p := .recv 126 (.tmp 13) true) (d := some 14) (by kernel_rfl)
  refine wp_grecv hO hn0 hb ho0 (yld hg0 _) (fun w => run_recvI hop0 (hT.of 13 _ rfl) w) (fun j w' hj hr hvals hrc => ?_) (fun w' hr hsh => ?_)
  · -- a job
    rw [hd0]
    obtain ⟨hlt, hrc2⟩ := hrc r0 hS.rcv
    have hT1 := hT.put (d := 14) (by decide) (.tuple #[.int .i64 (j : Int), .bool true])
    generalize a.put (some 14) _ = a1 at hT1
    have hC : GC P w0 R0 At M (r0 + 1) j (k.take P M j) w' := by
      have h1 := hS.go (r0 := r0) hr (fun x hx => by
        have : Recvd M w' x := by
          obtain ⟨_, h2⟩ := hrc x hx
          rcases h2 with h2 | ⟨c1, c2, c3, c4, c5, c6, c7, c8⟩
          · omega
          · exact .inr ⟨c1, c2, c3, c4, c5, c6, c7, by omega⟩
        exact this)
      exact ⟨⟨fun l hl => .inl (h1.R l hl), h1.A, h1.rel, hrc2⟩, .inr rfl, fun x hx => ⟨(hvals x hx).1, (hvals x hx).2, .inr ⟨x, hx, rfl⟩⟩⟩
    have hJ1 := gk_jok (P := P) (M := M) (X := X) (Rl := Rl) (w0 := w0) (m0 := m0) (p0 := p0) (tot := tot) (wg := wg) (Shun := Shun) (Anc := Anc) hO n (.busy j .comp)
    have hSC : ∀ k w w₁, GC P w0 R0 At M (r0 + 1) j k w → (Rely k w w₁ ∧ (famG P M X Rl w0 m0).GR n w w₁) → GC P w0 R0 At M (r0 + 1) j k w₁ := fun k w w₁ h hR => h.go hR.1 hR.2.2
    refine t_run hJ1 _ hSC hb (i := 1) (p := .extract (.tmp 14) 1) (d := 15) (by kernel_rfl) (by decide) hT1 (v := .bool true) (fun o ho w => by have := run_extr ho (hT1.of 14 _ rfl) (.inr rfl) w; exact this) (fun a2 hT2 k w hS => ?_) hC
    refine js_regend hJ1 _ hSC (fun k w hS => js_seq hJ1 _ hSC (fun k w hS => js_cond hJ1 _ hSC (hT2.of 15 _ rfl) (fun k w hS => js_skip hJ1 _ hSC (fun k w hS => js_block hJ1 _ hSC (fun k w hS => js_seq hJ1 _ hSC (fun k w hS => t_region hJ1 _ hSC (n := 2) (by kernel_rfl) (fun k w hS => ?_) hS) hS) hS) hS) hS) hS) hS
    refine t_run hJ1 _ hSC hb (i := 0) (p := .extract (.tmp 14) 0) (d := 16) (by kernel_rfl) (by decide) hT2 (v := .int .i64 (j : Int)) (fun o ho w => by have := run_extr ho (hT2.of 14 _ rfl) (.inl rfl) w; exact this) (fun a3 hT3 k w hS => ?_) hS
    refine t_move hJ1 _ hSC hb (i := 1) (t := 16) (d := 7) (asg := true) (by kernel_rfl) (by decide) hT3 rfl (fun a4 hT4 k w hS => ?_) hS
    obtain ⟨jA, cap, hjb, hjobs⟩ := hN.jobs
    obtain ⟨jb, jo, rfl, ⟨sA, sc, hsl, haft⟩, hnj, hnjR⟩ := hjobs j hj
    have hN200 := hN.few
    refine js_regend hJ1 _ hSC (fun k w hS => js_seq hJ1 _ hSC (fun k w hS => t_region hJ1 _ hSC (n := 6) (by kernel_rfl) (fun k w hS => ?_) hS) hS) hS
    -- its number
    refine t_load hJ1 _ hSC hb (i := 0) (t := 2) (d := 17) (ty := 34) (by kernel_rfl) (by decide) hT4 rfl (fun w => Try.isAgg34 w) (fun k w hS => hS.b.rd hjb.1 hjb.2) (fun a5 hT5 k w hS => ?_) hS
    refine t_move hJ1 _ hSC hb (i := 1) (t := 7) (d := 18) (asg := false) (by kernel_rfl) (by decide) hT5 rfl (fun a6 hT6 k w hS => ?_) hS
    refine t_index hJ1 _ hSC hb (i := 2) (t := 17) (u := 18) (d := 19) (ty := 34) (elem := 41) (sz := 4) (by kernel_rfl) (by decide) hT6 (q := ⟨jb, jo, none⟩) (len := P.N) (n := j) rfl rfl hj Try.underlying34 (fun w => Try.sizeOf41 w) (fun a7 hT7 k w hS => ?_) hS
    rw [show ((⟨jb, jo, none⟩ : Addr).add (j * 4)) = ⟨jb, jo + j * 4, none⟩ by simp [Addr.add_lit']] at hT7
    refine t_run hJ1 _ hSC hb (i := 3) (p := .fieldAddr 41 (.tmp 19) 3) (d := 20) (by kernel_rfl) (by decide) hT7 (v := .pointer (some ⟨jb, jo + j * 4 + 3, none⟩)) (fun o ho w => run_field ho (hT7.of 19 _ rfl) (fun w => field_job _ _ w 3 (by decide)) w) (fun a8 hT8 k w hS => ?_) hS
    refine t_load hJ1 _ hSC hb (i := 4) (t := 20) (d := 21) (ty := 2) (by kernel_rfl) (by decide) hT8 rfl (fun w => Try.isAgg2 w) (fun k w hS => hS.b.rd hnj hnjR) (fun a9 hT9 k w hS => ?_) hS
    refine t_move hJ1 _ hSC hb (i := 5) (t := 21) (d := 8) (asg := true) (by kernel_rfl) (by decide) hT9 rfl (fun a10 hT10 k w hS => ?_) hS
    refine js_regend hJ1 _ hSC (fun k w hS => js_seq hJ1 _ hSC (fun k w hS => js_seq hJ1 _ hSC (fun k w hS => t_region hJ1 _ hSC (n := 7) (by kernel_rfl) (fun k w hS => ?_) hS) hS) hS) hS
    refine t_load hJ1 _ hSC hb (i := 0) (t := 2) (d := 22) (ty := 34) (by kernel_rfl) (by decide) hT10 rfl (fun w => Try.isAgg34 w) (fun k w hS => hS.b.rd hjb.1 hjb.2) (fun a11 hT11 k w hS => ?_) hS
    refine t_move hJ1 _ hSC hb (i := 1) (t := 7) (d := 23) (asg := false) (by kernel_rfl) (by decide) hT11 rfl (fun a12 hT12 k w hS => ?_) hS
    refine t_index hJ1 _ hSC hb (i := 2) (t := 22) (u := 23) (d := 24) (ty := 34) (elem := 41) (sz := 4) (by kernel_rfl) (by decide) hT12 (q := ⟨jb, jo, none⟩) (len := P.N) (n := j) rfl rfl hj Try.underlying34 (fun w => Try.sizeOf41 w) (fun a13 hT13 k w hS => ?_) hS
    rw [show ((⟨jb, jo, none⟩ : Addr).add (j * 4)) = ⟨jb, jo + j * 4, none⟩ by simp [Addr.add_lit']] at hT13
    refine t_run hJ1 _ hSC hb (i := 3) (p := .fieldAddr 41 (.tmp 24) 2) (d := 25) (by kernel_rfl) (by decide) hT13 (v := .pointer (some ⟨jb, jo + j * 4 + 2, none⟩)) (fun o ho w => run_field ho (hT13.of 24 _ rfl) (fun w => field_job _ _ w 2 (by decide)) w) (fun a14 hT14 k w hS => ?_) hS
    refine t_load hJ1 _ hSC hb (i := 4) (t := 25) (d := 26) (ty := 39) (by kernel_rfl) (by decide) hT14 rfl (fun w => Try.isAgg39 w) (fun k w hS => hS.b.rd hsl.1 hsl.2) (fun a15 hT15 k w hS => ?_) hS
    refine t_run hJ1 _ hSC hb (i := 5) (p := .call { callee := .builtin .len, args := #[.tmp 26], argTypes := #[39] }) (d := 27) (by kernel_rfl) (by decide) hT15 (fun o ho w => run_lenI ho (hT15.of 26 _ rfl) w) (fun a16 hT16 k w hS => ?_) hS
    refine t_const hJ1 _ hSC hb (i := 6) (d := 28) (asg := false) (v := .int .i64 ((0 : Nat) : Int)) (by kernel_rfl) (by decide) hT16 (fun a17 hT17 k w hS => ?_) hS
    refine js_regend hJ1 _ hSC (fun k w hS => js_block hJ1 _ hSC (fun k w hS => js_loop hJ1 _ hSC (fun k w hS => ?_) hS) hS) hS
    refine gk_sum hO hN hb hj (sv := .slice sA (P.aft j).length sc) ⟨sA, sc, rfl, haft⟩ (fun a k w hT hS => ?_) _ 0 a17 k w rfl (Nat.zero_le _) (hT17.to ?_) hS
    rotate_left
    · rw [List.take_zero]
      refine getT_cons rfl (getT_cons rfl (getT_cons rfl (getT_cons rfl (getT_cons rfl ?_))))
      exact getT_skip (getT_skip (getT_skip (getT_skip (getT_skip (getT_skip (getT_skip (getT_skip (getT_skip (getT_skip (getT_skip (getT_skip (getT_skip (getT_skip (getT_skip (getT_skip (getT_skip getT_refl rfl) rfl) rfl) rfl) rfl) rfl) rfl) rfl) rfl) rfl) rfl) rfl) rfl) rfl) rfl) rfl) rfl
    -- it is stored
    clear hT1 hT2 hT3 hT4 hT5 hT6 hT7 hT8 hT9 hT10 hT11 hT12 hT13 hT14 hT15 hT16 hT17
    refine js_seq hJ1 _ hSC (fun k w hS => t_region hJ1 _ hSC (n := 5) (by kernel_rfl) (fun k w hS => ?_) hS) hS
    refine t_load hJ1 _ hSC hb (i := 0) (t := 3) (d := 40) (ty := 23) (by kernel_rfl) (by decide) hT rfl (fun w => Try.isAgg23 w) (fun k w hS => hS.b.rd hN.nums.1 hN.nums.2) (fun a1 hT1 k w hS => ?_) hS
    refine t_move hJ1 _ hSC hb (i := 1) (t := 7) (d := 41) (asg := false) (by kernel_rfl) (by decide) hT1 rfl (fun a2 hT2 k w hS => ?_) hS
    refine t_move hJ1 _ hSC hb (i := 2) (t := 8) (d := 42) (asg := false) (by kernel_rfl) (by decide) hT2 rfl (fun a3 hT3 k w hS => ?_) hS
    refine t_index hJ1 _ hSC hb (i := 3) (t := 40) (u := 41) (d := 43) (ty := 23) (elem := 2) (sz := 1) (by kernel_rfl) (by decide) hT3 (q := ⟨M.nb, 0, none⟩) (len := P.N) (n := j) rfl rfl hj Try.underlying23 (fun w => Try.sizeOf2 w) (fun a4 hT4 k w hS => ?_) hS
    rw [show ((⟨M.nb, 0, none⟩ : Addr).add (j * 1)) = ⟨M.nb, j, none⟩ by simp [Addr.add_lit']] at hT4
    have shp : ∀ {k w}, GC P w0 R0 At M (r0 + 1) j k w → (∃ x, w.cell? ⟨M.nb, j, none⟩ = some x) := fun {k w} hS => by
      obtain ⟨v, hv⟩ := hN.nume j hj
      unfold World.cell? at hv ⊢
      cases ho : w0.heap[M.nb]? with
      | none => simp [ho] at hv
      | some ob =>
        obtain ⟨o', h1, h2⟩ := hS.b.rel.shape M.nb ob ho
        cases ob with
        | cells c e f =>
          cases o' with
          | cells c' e' f' =>
            simp [ho] at hv
            obtain ⟨h3, _, _⟩ := h2
            have hlt := (Array.getElem?_eq_some_iff.1 hv).1
            refine ⟨c'[j]'(by omega), ?_⟩
            simp [h1]
          | _ => exact h2.elim
        | _ => simp [ho] at hv
    refine t_store hJ1 _ hSC (J' := fun _ _ _ => True) (R' := fun _ _ _ => True) hb (i := 4) (t := 43) (u := 42) (ty := 2) (by kernel_rfl) hT4 rfl rfl ⟨fun c e => (by cases e), fun c e => (by cases e)⟩ (fun w => Try.sizeOf2 w) (fun k w hS => ⟨shp hS, (frozen_rely hS.b.rel hN.nb).trans (hN.numz j hj), hS.W⟩) (fun k w hS => ?_) hS
    obtain ⟨u0, hu0⟩ := shp hS
    have hjj : (P.aft j).all (fun x => decide (x ≠ j)) = true := by
      rw [List.all_eq_true]
      intro x hx
      have := (hO.wf.mem j hj x hx).2.2
      exact decide_eq_true fun e => by rw [e] at this; omega
    have hP : GP w0 R0 At M (r0 + 1) j .comp k (w.setCell ⟨M.nb, j, none⟩ (.int .i64 (M.val j))) := by
      have hWR : ∀ l, R0 l → l ≠ numL M j := fun l hl e => by
        subst e
        exact hN.numR j hj hl
      refine ⟨⟨hS.b.R, hS.b.A, hS.b.rel.trans (rely_set hu0 ⟨id, fun h => hWR _ h rfl⟩), ?_⟩, fun _ => ⟨hS.W, cell_set_eq hu0⟩⟩
      rcases hS.b.rcv with h0 | ⟨c1, c2, c3, c4, c5, c6, c7, c8⟩
      · omega
      · exact .inr ⟨c1, c2, c3, c4, c5, c6, (setCell_ne fun e => cell_not_chan hu0 c7 e.symm).trans c7, c8⟩
    have hSP : ∀ k w w₁, GP w0 R0 At M (r0 + 1) j .comp k w → (Rely k w w₁ ∧ (famG P M X Rl w0 m0).GR n w w₁) → GP w0 R0 At M (r0 + 1) j .comp k w₁ := fun k w w₁ h hR => h.go hR.1 hR.2.2
    -- those that wait
    obtain ⟨xb, hxb, hnx⟩ := hN.next
    obtain ⟨xA, xc, hxsl, hxq⟩ := hnx j hj
    refine js_regend hJ1 _ hSP (fun k w hS => js_seq hJ1 _ hSP (fun k w hS => js_seq hJ1 _ hSP (fun k w hS => t_region hJ1 _ hSP (n := 6) (by kernel_rfl) (fun k w hS => ?_) hS) hS) hS) hP
    refine t_load hJ1 _ hSP hb (i := 0) (t := 4) (d := 44) (ty := 125) (by kernel_rfl) (by decide) hT4 rfl (fun w => Try.isAgg125 w) (fun k w hS => hS.b.rd hxb.1 hxb.2) (fun a5 hT5 k w hS => ?_) hS
    refine t_move hJ1 _ hSP hb (i := 1) (t := 7) (d := 45) (asg := false) (by kernel_rfl) (by decide) hT5 rfl (fun a6 hT6 k w hS => ?_) hS
    refine t_index hJ1 _ hSP hb (i := 2) (t := 44) (u := 45) (d := 46) (ty := 125) (elem := 39) (sz := 1) (by kernel_rfl) (by decide) hT6 (q := ⟨xb, 0, none⟩) (len := P.N) (n := j) rfl rfl hj Try.underlying125 (fun w => Try.sizeOf39 w) (fun a7 hT7 k w hS => ?_) hS
    rw [show ((⟨xb, 0, none⟩ : Addr).add (j * 1)) = ⟨xb, j, none⟩ by simp [Addr.add_lit']] at hT7
    refine t_load hJ1 _ hSP hb (i := 3) (t := 46) (d := 47) (ty := 39) (by kernel_rfl) (by decide) hT7 rfl (fun w => Try.isAgg39 w) (fun k w hS => hS.b.rd hxsl.1 hxsl.2) (fun a8 hT8 k w hS => ?_) hS
    refine t_run hJ1 _ hSP hb (i := 4) (p := .call { callee := .builtin .len, args := #[.tmp 47], argTypes := #[39] }) (d := 48) (by kernel_rfl) (by decide) hT8 (fun o ho w => run_lenI ho (hT8.of 47 _ rfl) w) (fun a9 hT9 k w hS => ?_) hS
    refine t_const hJ1 _ hSP hb (i := 5) (d := 49) (asg := false) (v := .int .i64 ((0 : Nat) : Int)) (by kernel_rfl) (by decide) hT9 (fun a10 hT10 k w hS => ?_) hS
    refine js_regend hJ1 _ hSP (fun k w hS => js_block hJ1 _ hSP (fun k w hS => js_loop hJ1 _ hSP (fun k w hS => ?_) hS) hS) hS
    refine gk_tell hO hN hb hn0 hj (sv := .slice xA (P.nxt j).length xc) ⟨xA, xc, rfl, hxq⟩ (fun ph a k w hph hT hS => ?_) _ 0 .comp a10 k w rfl (Nat.zero_le _) rfl (hT10.to ?_) hS
    rotate_left
    · refine getT_cons rfl (getT_cons rfl (getT_cons rfl ?_))
      exact getT_skip (getT_skip (getT_skip (getT_skip (getT_skip (getT_skip (getT_skip (getT_skip (getT_skip (getT_skip (getT_skip (getT_skip getT_refl rfl) rfl) rfl) rfl) rfl) rfl) rfl) rfl) rfl) rfl) rfl) rfl
    refine gk_over hO hN hb hn0 hj hph (fun a k w hT hS => ?_) hT hS
    have hSB : ∀ k w w₁, GB w0 R0 At M (r0 + 1) k w → (Rely k w w₁ ∧ (famG P M X Rl w0 m0).GR n w w₁) → GB w0 R0 At M (r0 + 1) k w₁ := fun k w w₁ h hR => h.go hR.1 hR.2.2
    refine js_inBlock hJ _ hSB (fun k w hS => js_inLoop hJ _ hSB (fun k w hS => ?_) hS) hS
    exact ih (P.N - (r0 + 1)) (by omega) (r0 + 1) a k w (Nat.le_refl _) hT hS
  · -- no more
    rw [hd0]
    have hT1 := hT.put (d := 14) (by decide) (.tuple #[.int .i64 0, .bool false])
    generalize a.put (some 14) _ = a1 at hT1
    have hNR : ∀ k w w₁, ShutW P M w → (Rely k w w₁ ∧ (famG P M X Rl w0 m0).GR n w w₁) → ShutW P M w₁ := fun k w w₁ h hR => hR.2.1 h
    refine t_run hJ (fun _ w => ShutW P M w) hNR hb (i := 1) (p := .extract (.tmp 14) 1) (d := 15) (by kernel_rfl) (by decide) hT1 (v := .bool false) (fun o ho w => by have := run_extr ho (hT1.of 14 _ rfl) (.inr rfl) w; exact this) (fun a2 hT2 k w hS => ?_) hsh
    refine js_regend hJ _ hNR (fun k w hS => js_seq hJ _ hNR (fun k w hS => js_cond hJ _ hNR (hT2.of 15 _ rfl) (fun k w hS => js_exit hJ _ hNR (K1 := []) rfl (fun k w hS => js_end hJ _ hNR (fun k w hS => ?_) hS) hS) hS) hS) hS
    obtain ⟨g0, q, hdn⟩ := done_graph wg a2.tmps []
    have hb0 : (n == 0) = false := by simpa using hn0
    have e : dnIn Try.prog 57 50 wg a2.tmps [] = G { (baseD 57).at a2 [] with mode := .returning } cs := by
      rw [hcs]
      show _ = G { (baseD 57).at a2 [] with mode := .returning } [bornBelow Try.prog]
      unfold dnIn Frame.at
      rw [hT2.d]
      rfl
    rw [e] at q
    exact wp_still (famG_ok hO) (by simp) rfl (by rw [hb0]; exact q) (wp_done (famG_ok hO) hn0 hdn fun w₁ hr hgr => ⟨rfl, hgr.1 hS⟩)
set_option maxRecDepth 100000 in
theorem gk_born (hO : GOk P M X wg w0) (hN : JobsAt w0 R0 P M Nj B) (hn0 : n ≠ 0) {w : World} (hw : Rely ⟨fun _ => False, R0, fun _ => False⟩ w0 w) :
    WP (wgProto Try.prog (famG P M X Rl w0 m0) 114 wg m0 p0 tot Shun Anc) n ⟨fun _ => False, R0, At⟩ (.work .idle) (born Try.prog { target := .fn (.func 57) #[.pointer (some ⟨wg, 0, none⟩), .pointer (some ⟨B.ch, 0, none⟩), .pointer (some ⟨B.jobs, 0, none⟩), .pointer (some ⟨B.nums, 0, none⟩), .pointer (some ⟨B.next, 0, none⟩), .pointer (some ⟨B.left, 0, none⟩), .pointer (some M.ov)], args := #[] }) w := by
  have hb : (baseD 57).kind ≠ .early := by decide
  have hJ := gk_jok (P := P) (M := M) (X := X) (Rl := Rl) (w0 := w0) (m0 := m0) (p0 := p0) (tot := tot) (wg := wg) (Shun := Shun) (Anc := Anc) hO n .idle
  have hSR : ∀ k w w₁, GB w0 R0 At M 0 k w → (Rely k w w₁ ∧ (famG P M X Rl w0 m0).GR n w w₁) → GB w0 R0 At M 0 k w₁ := fun k w w₁ h hR => h.go hR.1 hR.2.2
  have hwi : GB w0 R0 At M 0 ⟨fun _ => False, R0, At⟩ w := ⟨fun l hl => hl, rfl, hw.mono (k := keepK R0) ⟨fun l hl => hl.elim, fun l hl => .inr hl⟩, .inl rfl⟩
  refine hJ.own _ _ _ rfl rfl fun w₁ hR => ⟨_, _, _, stepG_first Try.func57 (by kernel_rfl) body_gk w₁, .idle _ _, ?_⟩
  rw [grow_self, Array.empty_append]
  replace hwi := hSR _ _ _ hwi hR
  clear hR hw w
  rw [enter_atD _ Try.func57 body_gk, show (Try.f57).ntmps = 66 by kernel_rfl]
  generalize ha0 : (⟨#[.pointer (some ⟨wg, 0, none⟩), .pointer (some ⟨B.ch, 0, none⟩), .pointer (some ⟨B.jobs, 0, none⟩), .pointer (some ⟨B.nums, 0, none⟩), .pointer (some ⟨B.next, 0, none⟩), .pointer (some ⟨B.left, 0, none⟩), .pointer (some M.ov)] ++ Array.replicate (66 - #[Value.pointer (some ⟨wg, 0, none⟩), .pointer (some ⟨B.ch, 0, none⟩), .pointer (some ⟨B.jobs, 0, none⟩), .pointer (some ⟨B.nums, 0, none⟩), .pointer (some ⟨B.next, 0, none⟩), .pointer (some ⟨B.left, 0, none⟩), .pointer (some M.ov)].size) undef, []⟩ : Act) = a0
  have hT0 : Tm 66 [] [(0, .pointer (some ⟨wg, 0, none⟩)), (1, .pointer (some ⟨B.ch, 0, none⟩)), (2, .pointer (some ⟨B.jobs, 0, none⟩)), (3, .pointer (some ⟨B.nums, 0, none⟩)), (4, .pointer (some ⟨B.next, 0, none⟩)), (5, .pointer (some ⟨B.left, 0, none⟩)), (6, .pointer (some M.ov))] a0 := by
    subst ha0
    refine ⟨by simp, rfl, fun t x hx => ?_⟩
    simp only [getT] at hx
    repeat' (split at hx)
    all_goals first
      | (cases hx; done)
      | (rename_i h; subst h; cases hx; exact eval_args _ _ _ _ (by simp))
  clear ha0
  refine js_seq hJ _ hSR (fun k w hS => t_region hJ _ hSR (n := 1) (by kernel_rfl) (fun k w hS => ?_) hS) hwi
  obtain ⟨o, ho0, hop, hg, hdst⟩ := op_ex (ops := opsOf Try.f57 0) (i := 0) (p := .defer { callee := .value (.func 50), args := #[.tmp 0], argTypes := #[114] }) (d := none) (by kernel_rfl)
  refine j_ctl hJ (fun w => stepG_defer ho0 (by unfold Region.wanted; rw [hg]) hb hop) fun w₂ hR => ?_
  replace hS := hSR _ _ _ hS hR
  clear hR
  rw [hdst, put_none, hT0.d]
  have hargs : (#[Operand.tmp 0].map a0.eval) = #[.pointer (some ⟨wg, 0, none⟩)] := by simp [hT0.of 0 _ rfl]
  rw [hargs]
  have hT1 : Tm 66 [dcall 50 #[.pointer (some ⟨wg, 0, none⟩)]] [(0, .pointer (some ⟨wg, 0, none⟩)), (1, .pointer (some ⟨B.ch, 0, none⟩)), (2, .pointer (some ⟨B.jobs, 0, none⟩)), (3, .pointer (some ⟨B.nums, 0, none⟩)), (4, .pointer (some ⟨B.next, 0, none⟩)), (5, .pointer (some ⟨B.left, 0, none⟩)), (6, .pointer (some M.ov))] ⟨a0.tmps, [dcall 50 #[.pointer (some ⟨wg, 0, none⟩)]]⟩ := ⟨hT0.size, rfl, hT0.of⟩
  generalize (⟨a0.tmps, [dcall 50 #[.pointer (some ⟨wg, 0, none⟩)]]⟩ : Act) = a1 at hT1
  refine js_regend hJ _ hSR (fun k w hS => js_seq hJ _ hSR (fun k w hS => t_region hJ _ hSR (n := 1) (by kernel_rfl) (fun k w hS => ?_) hS) hS) hS
  refine t_load hJ _ hSR hb (i := 0) (t := 1) (d := 13) (ty := 126) (by kernel_rfl) (by decide) hT1 rfl (fun w => Try.isAgg126 w) (fun k w hS => hS.rd hN.ch.1 hN.ch.2) (fun a2 hT2 k w hS => ?_) hS
  refine js_regend hJ _ hSR (fun k w hS => js_block hJ _ hSR (fun k w hS => js_loop hJ _ hSR (fun k w hS => ?_) hS) hS) hS
  refine gk_loop hO hN hn0 rfl _ 0 a2 k w (Nat.le_refl _) (hT2.to ?_) hS
  refine getT_cons rfl (getT_cons rfl (getT_cons rfl (getT_cons rfl (getT_cons rfl (getT_cons rfl (getT_cons rfl (getT_cons rfl getT_nil)))))))
end
end Go.Proofs.Yticdjkkcfdbdcaa
