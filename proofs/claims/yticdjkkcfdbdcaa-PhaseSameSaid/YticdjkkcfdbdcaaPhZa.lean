/- phase.Run in company, told of the lone world. No conditions but those named. -/
import Derived.Test.YticdjkkcfdbdcaaPhZb
import Derived.Deep.DeepCutAuto
import Derived.Deep.LoopGhost
import Derived.BigQuiet
import Derived.BigRegion
import Derived.Deep.QuietTactic
import Derived.StillTailTactics
import Derived.WalkSmall
namespace Go.Proofs.Yticdjkkcfdbdcaa
open Go.Conc Go.ConcN Go.RowKit Go.ChangeShapes Go.WideShapes Go.ChangeAt
section
variable {Post : Value → World → Prop} {n0 : Nat} {W0 : World}
set_option maxRecDepth 100000 in
set_option maxHeartbeats 2000000 in
theorem run_m {A : Option Addr} {c n : Nat} {D : List DosR} {wk : Int} {L : World} (hR : RdAll L L.heap.size A D) (hn : D.length = n) (hcap : ∀ k (h : k < D.length), D[k].ds.length ≤ D[k].c) :
    MCalls (InV phL phV) Try.prog (fun k g w => Win Try.prog Post n0 W0 k g w) 15 #[.slice A n c, .int .i64 wk] false (RunPM D wk L) L := by
  have hJ : JOk Try.prog true _ (fun k g w => Win Try.prog Post n0 W0 k g w) := win_jok (P := Try.prog) (Post := Post) (n0 := n0) (W0 := W0)
  refine MCalls.body hJ Try.func15 (c := _) rfl (fun i r hr => ?_) ?_
  · obtain ⟨fn, h1, h2⟩ := res_15
    cases Option.some.inj (h1.symm.trans Try.func15)
    exact h2 i r hr
  simp only [Try.ntmps15, List.size_toArray, List.length_cons, List.length_nil, Nat.reduceAdd, Nat.reduceSub, Array.replicate_succ, Array.replicate_zero, List.push_toArray, List.append_toArray, List.nil_append, List.cons_append]
  have Hn := Lib.hid hn; clear hn
  have HR := Lib.hid hR; clear hR
  have Hcap := Lib.hid hcap; clear hcap
  refine Mp.piece' hJ ph_ok res_15 (by kernel_rfl) (fun L' => Hid (L'.heap = L.heap)) (fun L' e => Lib.hid e) fun LT Hs0 => ?_
  go_wp2
  refine MpPost.normal ?_
  refine Mp.piece' hJ ph_ok res_15 (by kernel_rfl) (fun L' => Hid (L'.heap = L.heap)) (fun L' e => Lib.hid (e.trans Hs0.out)) fun L2 Hs2 => ?_
  clear Hs0 LT
  have hck : Calls Try.prog 18 #[.slice A n c] L2 fun e w' => e = .returned (.int .i64 (dosCode D)) ∧ RowKit.Below L2.heap.size L2 w' := by
    have hz : L2.heap.size = L.heap.size := by rw [Hs2.out]
    exact phcheck_any L2 L.heap.size A c n D (HR.out.keep fun p _ => by simp only [World.cell?, Hs2.out]) (by omega) Hn.out
  have Hck := Lib.hid hck; clear hck
  obtain ⟨code, hcode⟩ : ∃ code, dosCode D = code := ⟨_, rfl⟩
  rw [hcode] at Hck
  have Hcode := Lib.hid hcode; clear hcode
  by_cases hc0 : code = 0
  case neg =>
    have hce : (code == 0) = false := by simpa using hc0
    go_wp2_with (first | (go_at_call 18; refine (Hck.out).mono ?_; rintro e w3 ⟨rfl, hb3⟩; have Hb3 := Lib.hid hb3; clear hb3))
    have hrc : runCode D wk = code := by unfold runCode; rw [Hcode.out, if_pos hc0]
    refine MpPost.ret ⟨.inr rfl, fun h => absurd (hrc.symm.trans h) hc0, fun _ => ?_, ?_⟩
    · rw [pack_three results_15, hrc]
      rfl
    · exact (Kp.refl _ L (Nat.le_refl _)).keep (by have := Hb3.out.size; rw [Hs2.out] at this; exact this) fun b hb => (Hb3.out.block b (by rw [Hs2.out]; exact hb)).trans (by rw [Hs2.out])
  subst hc0
  go_wp2_with (first | (go_at_call 18; refine (Hck.out).mono ?_; rintro e w3 ⟨rfl, hb3⟩; have Hb3 := Lib.hid hb3; clear hb3))
  refine MpPost.normal ?_
  have hkp : Kp L.heap.size L w3 := (Kp.refl _ L (Nat.le_refl _)).keep (by have := Hb3.out.size; rw [Hs2.out] at this; exact this) fun b hb => (Hb3.out.block b (by rw [Hs2.out]; exact hb)).trans (by rw [Hs2.out])
  clear Hb3 Hck Hs2
  refine Mp.piece' hJ ph_ok res_15 (by kernel_rfl) (fun L' => Hid (Kp L.heap.size L L')) (fun L' e => Lib.hid (hkp.same e)) fun L4 Hk4 => ?_
  clear hkp
  by_cases hw : wkOk wk
  case neg =>
    have hrc : runCode D wk = 1 := by unfold runCode; rw [Hcode.out, if_neg (by simp), if_neg hw]
    by_cases h1 : wk < 1
    · go_wp2
      refine MpPost.ret ⟨.inr rfl, fun h => absurd (hrc.symm.trans h) (by decide), fun _ => ?_, Hk4.out⟩
      rw [pack_three results_15, hrc]
      rfl
    · have h2 : 16 < wk := by unfold wkOk at hw; omega
      go_wp2
      refine MpPost.ret ⟨.inr rfl, fun h => absurd (hrc.symm.trans h) (by decide), fun _ => ?_, Hk4.out⟩
      rw [pack_three results_15, hrc]
      rfl
  have h1 : ¬ wk < 1 := by unfold wkOk at hw; omega
  have h2 : ¬ 16 < wk := by unfold wkOk at hw; omega
  have Hw := Lib.hid hw; clear hw
  go_wp2
  refine MpPost.normal ?_
  clear h1 h2
  obtain ⟨hn200, hds, hok⟩ := dosCode_zero Hcode.out
  have hn2 : n ≤ 200 := by have := Hn.out; omega
  have Hds := Lib.hid (And.intro hds hok); clear hds hok hn200
  have hmk := fun W => make_proc n hn2 W
  refine Mp.piece' hJ ph_ok res_15 (by kernel_rfl) (fun L' => Hid (Kp L.heap.size L L')) (fun L' e => Lib.hid (Hk4.out.same e)) fun L5 Hk5 => ?_
  clear Hk4
  go_wp2
  refine MpPost.normal ?_
  have h6 := lies_start (D := D) L5 (B := L.heap.size) Hk5.out.size
  rw [Hn.out] at h6
  have k6 : Kp L.heap.size L (L5.alloc (.cells (madeCells #[.slice none 0 0, .int .i64 0, .slice none 0 0, .slice none 0 0] (n * 4)) 102)) := Hk5.out.alloc _
  generalize L5.alloc (.cells (madeCells #[.slice none 0 0, .int .i64 0, .slice none 0 0, .slice none 0 0] (n * 4)) 102) = L6 at h6 k6
  generalize L5.heap.size = gl at h6
  clear hmk Hk5
  refine Mp.piece' hJ ph_ok res_15 (by kernel_rfl) (fun L' => Hid (Lies L' L.heap.size (gl + 1) gl (fillP D 0) ∧ Kp L.heap.size L L')) (fun L' e => Lib.hid ⟨h6.same e, k6.same e⟩) fun L7 H7 => ?_
  clear h6 k6
  go_wp2
  go_loopg [33] n (fun gk i wr => ∃ k : Nat, gk + k = n ∧ i = .int .i64 k ∧ Lies wr L.heap.size (gl + 1) gl (fillP D k) ∧ Kp L.heap.size L wr)
  case atStart => exact ⟨0, by omega, rfl, H7.out⟩
  case round =>
    obtain ⟨k, hgk, rfl, hl, hkp⟩ := hrel
    by_cases hk : k < n
    · have hkD : k < D.length := by have := Hn.out; omega
      obtain ⟨b, o, rfl, hb, c0⟩ := (HR.out.keep (w' := wr) fun p hp => World.cell?_of_block (hkp.at_ _ hp)).at_ hkD
      have hc := (hl.blk.cell (k * 4 + 0)).trans (cellsP_at _ k (by rw [fillP_length]; exact hkD) 0 (by omega))
      have hf := hl.blk.frozen (k * 4 + 0)
      simp only [PL.cells, List.getElem?_cons_zero, Nat.add_zero] at hc hf
      have hset := lies_fill hl hkD (HR.out.each k hkD) (Hcap.out k hkD) (Hds.out.1 _ (List.getElem_mem hkD)) hkp
      have hkp2 := hkp.set_ (p := ⟨gl, k * 4 + 0, none⟩) hl.low (.slice D[k].A D[k].ds.length D[k].c)
      simp only [Nat.add_zero] at hset hkp2
      have Hset := Lib.hid (And.intro hset hkp2); clear hset hkp2 hl hkp
      go_wp2
      go_roundg (gk - 1)
      case measure => omega
      case rel => exact ⟨k + 1, by omega, by go_num, Hset.out.1, Hset.out.2⟩
    · obtain rfl : k = n := by omega
      have hki : ¬ (k : Int) < (k : Int) := by omega
      have hb0 := between_start (D := D) (by have := Hn.out; omega) Hds.out.1 Hds.out.2
      have hkd : D.length = k := Hn.out
      rw [hkd] at hb0
      have H8 := Lib.hid (And.intro hb0 (And.intro hl hkp)); clear hb0 hl hkp H7 hkd
      go_wp2
      refine MpPost.normal ?_
      generalize wr = L8 at H8
      refine Mp.seq hJ (Mp.block hJ (Mp.loop hJ (MainI A c k wk gl D L) (fun a _ => phMeas a) ?_ fun a L' hI => ?_))
      · exact ⟨0, _, ⟨rfl, rfl, rfl, rfl, rfl, rfl, rfl⟩, H8.out⟩
      clear H8 L8
      obtain ⟨ph, l, hA, hB, hl, hkp⟩ := hI
      obtain ⟨f, hf, hfe⟩ := act_lit 130 hA.size
      have e0 := (hfe 0).trans hA.t0
      have e1 := (hfe 1).trans hA.t1
      have e4 := (hfe 4).trans hA.t4
      have e5 := (hfe 5).trans hA.t5
      have e8 := (hfe 8).trans hA.t8
      obtain ⟨μ0, hμ0⟩ : ∃ μ0, phMeas a = μ0 := ⟨_, rfl⟩
      have Hmu0 : Hid (μ0 = (200001 - (ph : Int)).toNat) := Lib.hid (by rw [← hμ0]; unfold phMeas; rw [hA.t5])
      rw [hμ0]
      clear hμ0
      obtain ⟨tm, df⟩ := a
      have hdf := hA.d
      simp only at hf hdf
      subst hf hdf
      rw [show List.range 130 = [0, 1, 2, 3, 4, 5, 6, 7, 8, 9, 10, 11, 12, 13, 14, 15, 16, 17, 18, 19, 20, 21, 22, 23, 24, 25, 26, 27, 28, 29, 30, 31, 32, 33, 34, 35, 36, 37, 38, 39, 40, 41, 42, 43, 44, 45, 46, 47, 48, 49, 50, 51, 52, 53, 54, 55, 56, 57, 58, 59, 60, 61, 62, 63, 64, 65, 66, 67, 68, 69, 70, 71, 72, 73, 74, 75, 76, 77, 78, 79, 80, 81, 82, 83, 84, 85, 86, 87, 88, 89, 90, 91, 92, 93, 94, 95, 96, 97, 98, 99, 100, 101, 102, 103, 104, 105, 106, 107, 108, 109, 110, 111, 112, 113, 114, 115, 116, 117, 118, 119, 120, 121, 122, 123, 124, 125, 126, 127, 128, 129] from rfl]
      simp only [List.map_cons, List.map_nil, e0, e1, e4, e5, e8]
      clear hA hfe e0 e1 e4 e5 e8
      refine Mp.block hJ (Mp.seq hJ (Mp.region hJ ?_))
      refine MpOps.val hJ ph_ok.bodies rfl (yld rfl _) (okOpB_ok (by kernel_rfl)) (fun w => run_mv _ _ rfl w) ?_
      refine MpOps.val hJ ph_ok.bodies rfl (yld rfl _) (okOpB_ok (by kernel_rfl)) (fun w => run_lenP _ _ rfl rfl w) ?_
      refine MpOps.makeC hJ rfl (yld rfl _) (x := .tmp 46) (n := k) trivial rfl (fun e he w => run_makeC e _ rfl he hn2 w) ?_
      refine MpOps.new hJ ph_ok.bodies (v := .pointer (some ⟨L'.heap.size + 1, 0, none⟩)) (x := .cells #[.chan none] 103) rfl (yld rfl _) (okOpB_ok (by kernel_rfl)) (fun w hw => by rw [run_allocC _ _ rfl w, hw]; simp) ?_
      refine MpOps.set hJ ph_ok.bodies (p := ⟨L'.heap.size + 1, 0, none⟩) (v := .chan (some L'.heap.size)) rfl rfl (yld rfl _) (okOpB_ok (by kernel_rfl)) (fun w hw => ?_) ?_
      · exact run_storeC _ _ rfl rfl rfl w (box_new hw).1 (box_new hw).2
      refine MpOps.nil hJ ?_
      show Mp _ _ _ _ _ _ _ _ _
      obtain ⟨h12, k12, c12⟩ := chan_start (n := k) hl hkp
      clear hl hkp
      generalize World.setCell _ _ _ = L12 at h12 k12 c12 ⊢
      generalize L'.heap.size = cL at h12 k12 c12 ⊢
      clear L'
      go_simp
      have HB := Lib.hid hB; clear hB
      refine Mp.seq hJ ?_
      refine Mp.piece' hJ ph_ok res_15 (by kernel_rfl) (fun L' => Hid (Lies L' L.heap.size (gl + 1) gl l ∧ Kp L.heap.size L L' ∧ ChanL L.heap.size L' cL k #[] false)) (fun L' e => Lib.hid ⟨h12.same e, k12.same e, c12.same e⟩) fun L13 H13 => ?_
      clear h12 k12 c12
      go_wp2
      refine MpPost.normal ?_
      -- the filling of the channel
      refine Mp.block hJ (Mp.loop hJ (FillI A c k wk gl cL ph L.heap.size L l) (fun a _ => fillMeas k a) ?_ fun a L' hI => ?_)
      · exact ⟨0, Nat.zero_le _, ⟨rfl, rfl, rfl, rfl, rfl, rfl, rfl⟩, rfl, rfl, rfl, H13.out.1, H13.out.2.1, H13.out.2.2⟩
      clear H13 L13
      obtain ⟨j, hjk, hA, e10, e49, e50, hl, hkp, hch⟩ := hI
      obtain ⟨f, hf, hfe⟩ := act_lit 130 hA.size
      have e0 := (hfe 0).trans hA.t0
      have e1 := (hfe 1).trans hA.t1
      have e4 := (hfe 4).trans hA.t4
      have e5 := (hfe 5).trans hA.t5
      have e8 := (hfe 8).trans hA.t8
      obtain ⟨μ1, hμ1⟩ : ∃ μ1, fillMeas k a = μ1 := ⟨_, rfl⟩
      have Hmu1 : Hid (μ1 = ((k : Int) - (j : Int)).toNat) := Lib.hid (by rw [← hμ1]; unfold fillMeas; rw [e50])
      rw [hμ1]
      clear hμ1
      replace e10 := (hfe 10).trans e10
      replace e49 := (hfe 49).trans e49
      replace e50 := (hfe 50).trans e50
      obtain ⟨tm, df⟩ := a
      have hdf := hA.d
      simp only at hf hdf
      subst hf hdf
      rw [show List.range 130 = [0, 1, 2, 3, 4, 5, 6, 7, 8, 9, 10, 11, 12, 13, 14, 15, 16, 17, 18, 19, 20, 21, 22, 23, 24, 25, 26, 27, 28, 29, 30, 31, 32, 33, 34, 35, 36, 37, 38, 39, 40, 41, 42, 43, 44, 45, 46, 47, 48, 49, 50, 51, 52, 53, 54, 55, 56, 57, 58, 59, 60, 61, 62, 63, 64, 65, 66, 67, 68, 69, 70, 71, 72, 73, 74, 75, 76, 77, 78, 79, 80, 81, 82, 83, 84, 85, 86, 87, 88, 89, 90, 91, 92, 93, 94, 95, 96, 97, 98, 99, 100, 101, 102, 103, 104, 105, 106, 107, 108, 109, 110, 111, 112, 113, 114, 115, 116, 117, 118, 119, 120, 121, 122, 123, 124, 125, 126, 127, 128, 129] from rfl]
      simp only [List.map_cons, List.map_nil, e0, e1, e4, e5, e8, e10, e49, e50]
      clear hA hfe e0 e1 e4 e5 e8 e10 e49 e50
      have Hjk := Lib.hid hjk; clear hjk
      refine Mp.piece' hJ ph_ok res_15 (by kernel_rfl) (fun L1 => Hid (Lies L1 L.heap.size (gl + 1) gl l ∧ Kp L.heap.size L L1 ∧ ChanL L.heap.size L1 cL k (itemsP gl l j) false)) (fun L1 e => Lib.hid ⟨hl.same e, hkp.same e, hch.same e⟩) fun L13 H13 => ?_
      clear hl hkp hch L'
      go_wp2
      refine MpPost.normal ?_
      have hck : decide ((j : Int) < (k : Int)) = decide (j < k) := by simp
      refine Mp.seq hJ (Mp.cond hJ trivial (t := decide (j < k)) (by rw [← hck]; rfl) ?_)
      by_cases hj : j < k
      · rw [decide_eq_true hj, if_pos rfl]
        refine Mp.skip hJ ?_
        show Mp _ _ _ _ _ _ _ _ _
        clear hck
        have hjl : j < l.length := by have := HB.out.len; have := Hn.out; omega
        refine Mp.seq hJ (Mp.block hJ ?_)
        refine Mp.piece' hJ ph_ok res_15 (by kernel_rfl) (fun L1 => Hid (Lies L1 L.heap.size (gl + 1) gl l ∧ Kp L.heap.size L L1 ∧ ChanL L.heap.size L1 cL k (itemsP gl l j) false)) (fun L1 e => Lib.hid ⟨H13.out.1.same e, H13.out.2.1.same e, H13.out.2.2.same e⟩) fun L14 H14 => ?_
        clear H13 L13
        go_wp2
        refine MpPost.normal ?_
        obtain ⟨x, hx⟩ : ∃ x, l[j] = x := ⟨_, rfl⟩
        have hc0 : ∀ L1 : World, L1.heap = L14.heap → L1.cell? ⟨gl, j * 4, none⟩ = some (.slice x.tA x.p.todo.length x.tc) := fun L1 e => by
          have := ((H14.out.1.same e).blk.cell (j * 4 + 0)).trans (cellsP_at _ j hjl 0 (by omega))
          rw [hx] at this
          simpa [PL.cells] using this
        refine Mp.piece' hJ ph_ok res_15 (by kernel_rfl) (fun L1 => L1.cell? ⟨gl, j * 4, none⟩ = some (.slice x.tA x.p.todo.length x.tc) ∧ Hid (Lies L1 L.heap.size (gl + 1) gl l ∧ Kp L.heap.size L L1 ∧ ChanL L.heap.size L1 cL k (itemsP gl l j) false)) (fun L1 e => ⟨hc0 L1 e, Lib.hid ⟨H14.out.1.same e, H14.out.2.1.same e, H14.out.2.2.same e⟩⟩) fun L15 hL15 => ?_
        obtain ⟨hc, H15⟩ := hL15
        clear H14 hc0 L14
        have Hx := Lib.hid hx; clear hx
        go_wp2
        refine MpPost.normal ?_
        have hck : decide ((0 : Int) < (x.p.todo.length : Int)) = decide (0 < x.p.todo.length) := by simp
        refine Mp.cond hJ trivial (t := decide (0 < x.p.todo.length)) (by rw [← hck]; rfl) ?_
        by_cases hz : 0 < x.p.todo.length
        · rw [decide_eq_true hz, if_pos rfl]
          have hbz : l[j].p.todo ≠ [] := by rw [Hx.out]; exact List.length_pos_iff.1 hz
          have hroom : (itemsP gl l j).size < k := Nat.lt_of_le_of_lt (itemsP_size gl l j) hj
          obtain ⟨h16, k16, c16⟩ := chan_set (y := (itemsP gl l j).push (.pointer (some ⟨gl, j * 4, none⟩))) (c1 := false) H15.out.1 H15.out.2.1 H15.out.2.2
          refine m_r17 (by kernel_rfl) rfl rfl rfl rfl hj H15.out.2.2 hroom ?_
          clear H15 hc
          generalize ({ L15 with heap := _ } : World) = L16 at h16 k16 c16 ⊢
          rw [← itemsP_busy gl l j hjl hbz] at c16
          show Mp _ _ _ _ _ _ _ _ _
          rw [show List.range 4 = [0, 1, 2, 3] from rfl]
          simp only [putsV, V17, List.getElem?_toArray, List.getElem?_cons_succ, List.getElem?_cons_zero, Option.bind_some]
          go_simp
          refine Mp.last' hJ ph_ok res_15 (by kernel_rfl) (fun L1 => Hid (Lies L1 L.heap.size (gl + 1) gl l ∧ Kp L.heap.size L L1 ∧ ChanL L.heap.size L1 cL k (itemsP gl l (j + 1)) false)) (fun L1 e => Lib.hid ⟨h16.same e, k16.same e, c16.same e⟩) fun L17 H17 => ?_
          clear h16 k16 c16 L16
          go_wp2
          exact MpPost.end (fill_step Hmu1.out hj ⟨rfl, rfl, rfl, rfl, rfl, rfl, rfl⟩ rfl rfl (by go_num) H17.out)
        · rw [decide_eq_false hz, if_neg (by decide)]
          have hbz : l[j].p.todo = [] := by rw [Hx.out]; exact List.length_eq_zero_iff.1 (by omega)
          refine Mp.skip hJ ?_
          show Mp _ _ _ _ _ _ _ _ _
          have h17 := H15.out
          rw [← itemsP_idle gl l j hjl hbz] at h17
          refine Mp.last' hJ ph_ok res_15 (by kernel_rfl) (fun L1 => Hid (Lies L1 L.heap.size (gl + 1) gl l ∧ Kp L.heap.size L L1 ∧ ChanL L.heap.size L1 cL k (itemsP gl l (j + 1)) false)) (fun L1 e => Lib.hid ⟨h17.1.same e, h17.2.1.same e, h17.2.2.same e⟩) fun L17 H17 => ?_
          clear H15 hc h17
          go_wp2
          exact MpPost.end (fill_step Hmu1.out hj ⟨rfl, rfl, rfl, rfl, rfl, rfl, rfl⟩ rfl rfl (by go_num) H17.out)
      · have hjk : j = k := by have := Hjk.out; omega
        rw [decide_eq_false hj, if_neg (by decide)]
        clear hck
        subst hjk
        refine Mp.exit hJ ?_
        show Mp _ _ _ _ _ _ _ _ _
        -- closing
        refine Mp.seq hJ (Mp.region hJ ?_)
        refine MpOps.valH hJ ph_ok.bodies (v := .chan (some cL)) rfl (yld rfl _) (okOpB_ok (by kernel_rfl)) (fun w hw => q_load rfl rfl (fun w => Try.isAgg103 w) (H13.out.2.2.boxc hw)) ?_
        refine MpOps.close rfl (yld rfl _) rfl trivial (cL := cL) rfl H13.out.2.2.ch ?_
        refine MpOps.nil hJ ?_
        obtain ⟨h16, k16, c16⟩ := chan_set (y := itemsP gl l j) (c1 := true) H13.out.1 H13.out.2.1 H13.out.2.2
        clear H13
        generalize ({ L13 with heap := _ } : World) = L16 at h16 k16 c16 ⊢
        show Mp _ _ _ _ _ _ _ _ _
        go_simp
        refine Mp.seq hJ (Mp.seq hJ (Mp.region hJ ?_))
        refine MpOps.valH hJ ph_ok.bodies (v := .chan (some cL)) rfl (yld rfl _) (okOpB_ok (by kernel_rfl)) (fun w hw => q_load rfl rfl (fun w => Try.isAgg103 w) (c16.boxc hw)) ?_
        refine MpOps.lenC Try.underlying103 rfl (yld rfl _) rfl trivial (cL := cL) rfl c16.ch ?_
        refine MpOps.val' hJ ph_ok.bodies (v := .bool (((itemsP gl l j).size : Int) == 0)) rfl (yld rfl _) (okOpB_ok (by kernel_rfl)) (fun w => run_eqlI rfl rfl rfl Try.underlying3 w) ?_
        refine MpOps.nil hJ ?_
        show Mp _ _ _ _ _ _ _ _ _
        go_simp
        have hlen : l.length = j := by have := HB.out.len; have := Hn.out; omega
        refine Mp.cond hJ trivial (t := ((itemsP gl l j).size : Int) == 0) rfl ?_
        by_cases hz : (itemsP gl l j).size = 0
        · rw [show (((itemsP gl l j).size : Int) == 0) = true by simp [hz], if_pos rfl]
          refine Mp.exit hJ ?_
          show Mp _ _ _ _ _ _ _ _ _
          have Hph := Lib.hid (HB.out.phs 0 _ (.done (idle_of (gl := gl) (by rw [hlen]; exact hz))))
          have hout : OutN L gl l 0 (.slice none 0 0) L16 := ⟨h16.blk, k16, h16.low, World.ownsRow_nil ..⟩
          clear h16 k16 c16
          refine Mp.piece' hJ ph_ok res_15 (by kernel_rfl) (fun L1 => Hid (OutN L gl l 0 (.slice none 0 0) L1)) (fun L1 e => Lib.hid ⟨by have := hout.blk; unfold Blk at this ⊢; rw [e]; exact this, hout.kp.same e, hout.low, World.ownsRow_nil ..⟩) fun L17 H17 => ?_
          clear hout L16 hz
          obtain ⟨i0, hi0, hz0, hz1, hz2⟩ := info_parts info_i64c
          have Hi0 := Lib.hid (And.intro hi0 (And.intro hz0 (And.intro hz1 hz2))); clear hi0 hz0 hz1 hz2
          go_wp2
          go_loopg [4, 116] j (fun gk v i wr => ∃ q : Nat, gk + q = j ∧ i = .int .i64 q ∧ OutN L gl l q v wr)
          case atStart => exact ⟨0, by omega, rfl, H17.out⟩
          case round =>
            clear H17
            obtain ⟨q, hgq, rfl, ho⟩ := hrel
            obtain ⟨Ao, co, rfl, _, _⟩ := own_form ho.own
            by_cases hq : q < j
            · have hql : q < l.length := by omega
              have hc := (ho.blk.cell (q * 4 + 1)).trans (cellsP_at l q hql 1 (by omega))
              simp only [PL.cells, List.getElem?_cons_succ, List.getElem?_cons_zero] at hc
              obtain ⟨nu, hnu⟩ : ∃ nu, l[q].p.num = nu := ⟨_, rfl⟩
              rw [hnu] at hc
              have hgz := ho.blk.lt
              have H18 := Lib.hid (And.intro ho hnu); clear ho hnu
              go_wp2_with (at_builtin; go_loud (
                refine wpList_append_own_at _ rfl (.tmp 119) (.tmp 125) _ rfl (gl + 1) 2 i0 (.int .i64 0) 1 8 Try.underlying23 Hi0.out.1 Hi0.out.2.1 Hi0.out.2.2.1 Hi0.out.2.2.2 rfl (by decide) (.slice Ao q co) q (ints ((l.map (·.p.num)).take q)) rfl (H18.out.1.own.alloc _) ⟨wr.heap.size, 0, none⟩ 1 1 [.int .i64 nu] rfl rfl (cell_one_new _ _ _) ?qa ?qb ?qc ?qd ?_))
              case qa => intro u hu; simp at hu; subst hu; rfl
              case qb => unfold maxLen; omega
              case qc => omega
              case qd => rw [World.size_alloc]; omega
              intro v1 w3 hown3 hg3 _ _
              obtain ⟨A3, c3, rfl, _, _⟩ := own_form hown3
              have H19 := Lib.hid (H18.out.1.push hql hg3 (by rw [H18.out.2]; exact hown3)); clear hown3 hg3
              go_wp2
              go_roundg (gk - 1)
              case measure => omega
              case rel => exact ⟨q + 1, by omega, by go_num, H19.out⟩
            · have hqe : q = j := by omega
              subst hqe
              have H18 := Lib.hid ho; clear ho
              go_wp2
              refine MpPost.normal ?_
              refine Mp.last' hJ ph_ok res_15 (by kernel_rfl) (fun L1 => Hid (OutN L gl l q (.slice Ao q co) L1)) (fun L1 e => Lib.hid (H18.out.same e)) fun L19 H19 => ?_
              clear H18
              go_wp2
              have hrc : runCode D wk = 0 := by unfold runCode; rw [Hcode.out, if_neg (by simp), if_pos Hw.out]
              refine MpPost.leave ⟨.inr rfl, fun _ => ⟨ph, l.map (·.p), .slice Ao q co, Hph.out, ?_, ?_⟩, fun h => absurd hrc h, H19.out.kp⟩
              · rw [pack_three results_15]
                rfl
              · have ho := own_lower H19.out.own (Nat.le_succ_of_le H19.out.low)
                rw [List.take_of_length_le (by simp [hlen])] at ho
                rw [Hn.out, List.map_map]
                exact ho
        · rw [show (((itemsP gl l j).size : Int) == 0) = false by simp [hz], if_neg (by decide)]
          refine Mp.skip hJ ?_
          show Mp _ _ _ _ _ _ _ _ _
          have hph : ph < 200000 := HB.out.room hlen hz
          refine Mp.piece' hJ ph_ok res_15 (by kernel_rfl) (fun L1 => Hid (Lies L1 L.heap.size (gl + 1) gl l ∧ Kp L.heap.size L L1 ∧ ChanL L.heap.size L1 cL j (itemsP gl l j) true)) (fun L1 e => Lib.hid ⟨h16.same e, k16.same e, c16.same e⟩) fun L17 H17 => ?_
          clear h16 k16 c16 L16
          go_wp2
          refine MpPost.normal ?_
          have hm16 : ∃ m : Nat, wk = m ∧ 1 ≤ m ∧ m ≤ 16 := by have := Hw.out; unfold wkOk at this; exact ⟨wk.toNat, by omega, by omega, by omega⟩
          obtain ⟨m, rfl, hm16⟩ := hm16
          refine m_fork (B := L.heap.size) (base := gl + 1) (gl := gl) (cL := cL) (bL := cL + 1) (m := m) (n := j) (c8 := j) (l := l) (bs := busyP l j) rfl ⟨_, rfl, rfl, rfl, rfl⟩ rfl ⟨_, rfl, rfl, rfl, rfl⟩ ⟨_, rfl, rfl, rfl, rfl⟩ ⟨rfl, ⟨_, rfl, rfl, rfl, rfl⟩, rfl, ⟨_, rfl, rfl, rfl, rfl⟩, rfl, ⟨_, rfl, rfl, rfl, rfl⟩, ⟨_, rfl, rfl, rfl, rfl⟩, rfl, ⟨_, rfl, rfl, rfl, rfl⟩, ⟨_, rfl, rfl, rfl, rfl⟩, rfl, ⟨_, rfl, rfl, rfl, rfl⟩⟩ hm16 rfl rfl rfl rfl
            H17.out.1 (fun x hx => HB.out.nil4 hx) H17.out.2.2.box chan_info ?_ H17.out.2.2.ch (itemsP_len gl l j) (itemsP_at gl l j) (busyP_nodup l j) (fun i => by rw [← hlen]; exact busyP_mem l i) fun x l' L' hl' hmap hsz hold => ?_
          · exact fun e => by have := H17.out.2.2.box; rw [e] at this; exact box_ne H17.out.1.blk this
          have hgB := H17.out.1.low
          have hcB := H17.out.2.2.low
          have hkp' : Kp L.heap.size L L' := H17.out.2.1.keep hsz fun b hb => hold b (by have := H17.out.2.1.size; omega) (by omega) (by omega)
          have Hmid := Lib.hid (HB.out.mid hmap)
          have Hbz := Lib.hid (busy_of (n := gl) (l := l) (by rw [hlen]; exact hz))
          clear hsz hold hmap H17 hgB hcB L17 hz
          simp only [putL, List.foldl_cons, List.foldl_nil]
          go_simp
          refine Mp.last' hJ ph_ok res_15 (by kernel_rfl) (fun L1 => Hid (Lies L1 L.heap.size (gl + 1) gl l' ∧ Kp L.heap.size L L1)) (fun L1 e => Lib.hid ⟨hl'.same e, hkp'.same e⟩) fun L18 H18 => ?_
          clear hl' hkp' L'
          have hl'j : l'.length = j := by have := Hmid.out.len; have := Hn.out; omega
          have Hl'j := Lib.hid hl'j; clear hl'j
          go_wp2
          go_loopg [80] j (fun gk i wr => ∃ (q : Nat) (lx : List PL), gk + q = j ∧ i = .int .i64 q ∧ Dist l' (lsI l' q) q lx ∧ Lies wr L.heap.size (gl + 1) gl lx ∧ Kp L.heap.size L wr)
          case atStart => exact ⟨0, l', by omega, rfl, Dist.start l', H18.out⟩
          case round =>
            clear H18
            obtain ⟨q, lx, hgq, rfl, hd, hl, hkp⟩ := hrel
            by_cases hq : q < j
            · have hql : q < l'.length := by have := Hl'j.out; omega
              have hqx : q < lx.length := by rw [hd.len]; exact hql
              obtain ⟨s1, s2, s3⟩ := hd.sameq hql hqx
              have hc3 := (hl.blk.cell (q * 4 + 3)).trans (cellsP_at lx q hqx 3 (by omega))
              simp only [PL.cells, List.getElem?_cons_succ, List.getElem?_cons_zero] at hc3
              rw [s1, s2, s3] at hc3
              clear s1 s2 s3
              obtain ⟨sA, hsA⟩ : ∃ sA, l'[q].sA = sA := ⟨_, rfl⟩
              obtain ⟨xs, hxs⟩ : ∃ xs, l'[q].p.sends = xs := ⟨_, rfl⟩
              rw [hsA, hxs] at hc3
              have hxl : xs.length ≤ 200000 := by rw [← hxs]; exact Hmid.out.one hql
              generalize l'[q].sc = sc at hc3
              obtain ⟨wo, rfl⟩ : ∃ wo : World, wo = wr := ⟨_, rfl⟩
              obtain ⟨go, rfl⟩ : ∃ go : Nat, go = gk := ⟨_, rfl⟩
              have H19 := Lib.hid (And.intro hd (And.intro hl (And.intro hkp (And.intro hsA hxs)))); clear hd hl hkp hsA hxs
              go_wp2
              go_loopg [89] xs.length (fun gk i wr => ∃ (t : Nat) (ly : List PL), gk + t = xs.length ∧ i = .int .i64 t ∧ Dist l' (lsI l' q ++ l'[q].p.sends.take t) q ly ∧ Lies wr L.heap.size (gl + 1) gl ly ∧ Kp L.heap.size L wr)
              case atStart => exact ⟨0, lx, by omega, rfl, by rw [List.take_zero, List.append_nil]; exact H19.out.1, H19.out.2.1, H19.out.2.2.1⟩
              case round =>
                obtain ⟨t, ly, hgt, rfl, hd, hl, hkp⟩ := hrel
                have hqy : q < ly.length := by rw [hd.len]; exact hql
                by_cases ht : t < xs.length
                · obtain ⟨s1, s2, s3⟩ := hd.sameq hql hqy
                  have hxs := H19.out.2.2.2.2
                  have hne : ly[q].p.sends ≠ [] := by rw [s1, hxs]; exact List.length_pos_iff.1 (by omega)
                  obtain ⟨sb, ty, fz, hsb, hty, hrow⟩ := hl.sends _ (List.getElem_mem hqy) hne
                  rw [s2, H19.out.2.2.2.1] at hsb
                  subst hsb
                  rw [s1, hxs] at hrow
                  obtain ⟨a0, a1⟩ := cellsL_at xs t ht
                  have c0 : wr.cell? ⟨sb, t * 2, none⟩ = some (.int .i64 xs[t].1) := by rw [cell_of_row _ _ _ _ _ _ hrow]; simpa using a0
                  have c1 : wr.cell? ⟨sb, t * 2 + 1, none⟩ = some (.int .i64 xs[t].2) := by rw [cell_of_row _ _ _ _ _ _ hrow]; simpa using a1
                  have hdst := Hmid.out.dst _ (List.getElem_mem hql) xs[t] (by rw [hxs]; exact List.getElem_mem ht)
                  obtain ⟨d, hdd⟩ : ∃ d : Nat, xs[t].1 = d := ⟨xs[t].1.toNat, by omega⟩
                  have hdj : d < j := by have := Hn.out; omega
                  obtain ⟨v, hv⟩ : ∃ v, xs[t].2 = v := ⟨_, rfl⟩
                  have hlyj : ly.length = j := by rw [hd.len]; exact Hl'j.out
                  have hdy : d < ly.length := by omega
                  have htk : l'[q].p.sends.take (t + 1) = l'[q].p.sends.take t ++ [((d : Int), v)] := by
                    rw [List.take_succ_eq_append_getElem (by rw [hxs]; exact ht)]
                    simp only [hxs, ← hdd, ← hv]
                  rw [hdd] at c0
                  rw [hv] at c1
                  have hfew := Hmid.out.fewc hql hd hdy
                  have hl1 := hl.alloc (.cells #[.int .i64 d, .int .i64 v] 117)
                  have hk1 := hkp.alloc (.cells #[.int .i64 d, .int .i64 v] 117)
                  have H20 := Lib.hid (And.intro hd (And.intro hl1 (And.intro hk1 (And.intro htk hfew)))); clear hd hl1 hk1 htk hfew hl hkp hrow hdst hdd hv a0 a1 s1 s2 s3 hne hxs
                  go_wp2
                  refine r35_wp (L0 := L) (n := j) (c8 := j) (d := d) (nl := wr.heap.size) (v := v) (by kernel_rfl) rfl rfl rfl H20.out.2.1 H20.out.2.2.1 hlyj hdj (heap_alloc_new wr _) H20.out.2.2.2.2 fun v1 v2 w3 h3 h4 => ?_
                  have hd3 := H20.out.1.letter hdy v v2
                  rw [List.append_assoc, ← H20.out.2.2.2.1] at hd3
                  have H21 := Lib.hid (And.intro hd3 (And.intro h3 h4)); clear h3 h4 hd3 H20
                  rw [show List.range 15 = [0, 1, 2, 3, 4, 5, 6, 7, 8, 9, 10, 11, 12, 13, 14] from rfl]
                  simp only [putsV, V35, VE, List.findIdx?_cons, List.findIdx?_nil, List.getElem?_toArray, List.getElem?_cons_succ, List.getElem?_cons_zero, Option.bind_some]
                  go_simp
                  go_wp2
                  go_roundg (gk - 1)
                  case measure => omega
                  case rel => exact ⟨t + 1, _, by omega, by go_num, H21.out.1, H21.out.2.1, H21.out.2.2⟩
                · have hte : t = xs.length := by omega
                  subst hte
                  have hxs := H19.out.2.2.2.2
                  have htf : lsI l' q ++ l'[q].p.sends.take xs.length = lsI l' (q + 1) := by rw [lsI_succ hql, ← hxs, List.take_length]
                  rw [htf] at hd
                  have hc := (hl.blk.cell (q * 4 + 3)).trans (cellsP_at ly q hqy 3 (by omega))
                  simp only [PL.cells, List.getElem?_cons_succ, List.getElem?_cons_zero] at hc
                  have hf := hl.blk.frozen (q * 4 + 3)
                  have hl1 := hl.drop3 hqy
                  have hk1 := hkp.set_ (p := ⟨gl, q * 4 + 3, none⟩) hl.low (.slice none 0 0)
                  have H20 := Lib.hid (And.intro (hd.done hqy) (And.intro hl1 hk1)); clear hd hl1 hk1 hl hkp htf hxs H19
                  go_wp2
                  go_roundg (go - 1)
                  case measure => omega
                  case rel => exact ⟨q + 1, _, by omega, by go_num, H20.out.1, H20.out.2.1, H20.out.2.2⟩
            · have hqe : q = l'.length := by have := Hl'j.out; omega
              have hB2 := HB.out.next Hmid.out (by rw [hqe] at hd; exact hd) Hbz.out
              have H19 := Lib.hid (And.intro hB2 (And.intro hl hkp)); clear hB2 hd hl hkp hqe
              go_wp2
              refine MpPost.end (main_step Hmu0.out hph ⟨rfl, rfl, rfl, rfl, rfl, ?_, rfl⟩ H19.out.1 H19.out.2)
              rfl
end
end Go.Proofs.Yticdjkkcfdbdcaa
