/- The end of stepkeep.ActorEnds: the letters that have a rule, run alone, make the same numbers. No conditions but those named. -/
import Derived.Test.YticdjkkcfdbdcaaAcEn
import Derived.Test.YticdjkkcfdbdcaaAcIm
namespace Go.Proofs.Yticdjkkcfdbdcaa
open Go.Conc Go.ConcN Go.RowKit Go.ChangeShapes Go.WideShapes Go.ChangeAt
/-- The frame ahead of the end. -/
structure EndA (A AX p1 : Option Addr) (c cl n m l1 c1 : Nat) (E one : Int) (a : Act) : Prop where
  size : a.tmps.size = 155
  d : a.defers = []
  t0 : a.eval (.tmp 0) = .slice A n c
  t1 : a.eval (.tmp 1) = .slice AX m cl
  t2 : a.eval (.tmp 2) = .int .i64 E
  t4 : a.eval (.tmp 4) = .int .i64 one
  t16 : a.eval (.tmp 16) = .slice p1 l1 c1
section
variable {Post : Value → World → Prop} {n0 : Nat} {W0 : World}
set_option maxRecDepth 100000 in
set_option maxHeartbeats 4000000 in
theorem ends_tail {A AX p1 : Option Addr} {c cl n m l1 c1 : Nat} {R : List RulR} {ls : List LetR} {E one : Int} {nums : List Int} {log : List LetR} {L : World} {a : Act} (hA : EndA A AX p1 c cl n m l1 c1 E one a) (hR : RdRules L L.heap.size A R) (hX : Rd L L.heap.size AX (flatX ls)) (hn : R.length = n) (hm : ls.length = m) (hfm : Fits m)
    (hp : Rd L L.heap.size p1 (ints nums)) (hl : nums.length = l1) (hrun : runA (R.map (·.rs)) (E.toNat + 1) 0 (List.replicate R.length 0) (comeL ls) [] = some (nums, log)) (hact : actCode R ls = 0) (hE : 0 ≤ E ∧ E ≤ 1000) (hw : wkOk one) {y0 y1 y2 y3 y4 y5 rest : Code} (hcode : Try.f8.body = some (.seq y0 (.seq y1 (.seq y2 (.seq y3 (.seq y4 (.seq y5 rest))))))) :
    Mp (InV acL acV) Try.prog (fun k g w => Win Try.prog Post n0 W0 k g w) 8 rest false (fun e a1 _ => (e = .normal ∨ e = .ret) ∧ pack (resVals Try.f8 a1.tmps) = .bool true) a L := by
  have hJ : JOk Try.prog true _ (fun k g w => Win Try.prog Post n0 W0 k g w) := win_jok (P := Try.prog) (Post := Post) (n0 := n0) (W0 := W0)
  have hcode' := (show Try.f8.body = some _ from rfl).symm.trans hcode
  simp only [Option.some.injEq, Code.seq.injEq] at hcode'
  obtain ⟨_, _, _, _, _, _, rfl⟩ := hcode'
  clear hcode
  have Hn := Lib.hid hn; clear hn
  have Hm := Lib.hid hm; clear hm
  have HR := Lib.hid (And.intro hR (And.intro hX (And.intro hfm (And.intro hp (And.intro hl (And.intro hrun (And.intro hact (And.intro hE hw)))))))); clear hR hX hfm hp hl hrun hact hE hw
  obtain ⟨f, hf, hfe⟩ := act_lit 155 hA.size
  have e0 := (hfe 0).trans hA.t0
  have e1 := (hfe 1).trans hA.t1
  have e2 := (hfe 2).trans hA.t2
  have e4 := (hfe 4).trans hA.t4
  have e16 := (hfe 16).trans hA.t16
  obtain ⟨tm, df⟩ := a
  have hdf := hA.d
  simp only at hf hdf
  subst hf hdf
  rw [show List.range 155 = [0, 1, 2, 3, 4, 5, 6, 7, 8, 9, 10, 11, 12, 13, 14, 15, 16, 17, 18, 19, 20, 21, 22, 23, 24, 25, 26, 27, 28, 29, 30, 31, 32, 33, 34, 35, 36, 37, 38, 39, 40, 41, 42, 43, 44, 45, 46, 47, 48, 49, 50, 51, 52, 53, 54, 55, 56, 57, 58, 59, 60, 61, 62, 63, 64, 65, 66, 67, 68, 69, 70, 71, 72, 73, 74, 75, 76, 77, 78, 79, 80, 81, 82, 83, 84, 85, 86, 87, 88, 89, 90, 91, 92, 93, 94, 95, 96, 97, 98, 99, 100, 101, 102, 103, 104, 105, 106, 107, 108, 109, 110, 111, 112, 113, 114, 115, 116, 117, 118, 119, 120, 121, 122, 123, 124, 125, 126, 127, 128, 129, 130, 131, 132, 133, 134, 135, 136, 137, 138, 139, 140, 141, 142, 143, 144, 145, 146, 147, 148, 149, 150, 151, 152, 153, 154] from rfl]
  simp only [List.map_cons, List.map_nil, e0, e1, e2, e4, e16]
  clear hA hfe e0 e1 e2 e4 e16
  refine Mp.piece' hJ ac_ok res_8 (by kernel_rfl) (fun L1 => Hid (L1.heap = L.heap)) (fun L1 e => Lib.hid e) fun L2 H2 => ?_
  go_wp2
  refine MpPost.normal ?_
  refine Mp.piece' hJ ac_ok res_8 (by kernel_rfl) (fun L1 => Hid (L1.heap = L.heap)) (fun L1 e => Lib.hid (e.trans H2.out)) fun L3 H3 => ?_
  clear H2
  obtain ⟨z1, z2, z3, z4, z5⟩ := actCode_zero HR.out.2.2.2.2.2.2.1
  have hn2 : n ≤ 200 := by have := Hn.out; omega
  have hm2 : m ≤ 200 := by have := Hm.out; omega
  have Hz := Lib.hid (And.intro z3 z4); clear z1 z2 z3 z4 z5
  have hk3 : Kp L.heap.size L L3 := (Kp.refl _ L (Nat.le_refl _)).same H3.out
  clear H3
  have Hk3 := Lib.hid hk3; clear hk3
  obtain ⟨i0, hi0, hz0, hz1, hz2⟩ := info_parts info_lett
  have Hi0 := Lib.hid (And.intro hi0 (And.intro hz0 (And.intro hz1 hz2))); clear hi0 hz0 hz1 hz2
  go_wp2
  go_loopg [22, 93] m (fun gk v i wr => ∃ k : Nat, gk + k = m ∧ i = .int .i64 k ∧ ownX wr L.heap.size v (keptL (R.map (·.rs)) (ls.take k)) ∧ Kp L.heap.size L wr)
  case atStart => exact ⟨0, by omega, rfl, World.ownsRow_nil .., Hk3.out⟩
  case round =>
    clear Hk3
    obtain ⟨k, hgk, rfl, ho, hkp⟩ := hrel
    obtain ⟨A9, c9, rfl, _, _⟩ := own_form ho
    by_cases hlt : k < m
    · have hkl : k < ls.length := by have := Hm.out; omega
      have hXw := HR.out.2.1.keep (w' := wr) fun p hp => World.cell?_of_block (hkp.at_ _ hp)
      obtain ⟨xb, xo, rfl, hxb, hcx⟩ := rd_flat (f := cellsX) (s := 4) (by decide) (fun _ => rfl) hXw hkl
      have hks := keptL_take (R := R.map (·.rs)) hkl
      have hlo := Hz.out.1 _ (List.getElem_mem hkl)
      have hkn : (keptL (R.map (·.rs)) (ls.take k)).length ≤ 200 := by
        have h1 := keptL_len (R.map (·.rs)) (ls.take k)
        rw [List.length_take] at h1
        omega
      obtain ⟨x, hx⟩ : ∃ x, ls[k] = x := ⟨_, rfl⟩
      rw [hx] at hcx hks hlo
      unfold letOk at hlo
      obtain ⟨t0, t1, t2, t3, t4⟩ := hlo
      obtain ⟨i1, hi1⟩ : ∃ i1 : Nat, x.to = i1 := ⟨x.to.toNat, by omega⟩
      have hi2 : i1 < R.length := by omega
      obtain ⟨rb, ro, hAe, hrb, hcr⟩ := (HR.out.1.keep (w' := wr) fun p hp => World.cell?_of_block (hkp.at_ _ hp)).at_ hi2
      have hRu := (HR.out.1.keep (w' := wr) fun p hp => World.cell?_of_block (hkp.at_ _ hp)).each i1 hi2
      have hrl := Hz.out.2 R[i1] (List.getElem_mem hi2)
      have hrd : ruled (R.map (·.rs)) x.to.toNat x = hasR R[i1].rs x := by
        unfold ruled
        rw [hi1, Int.toNat_natCast, List.getD_eq_getElem?_getD, List.getElem?_map, List.getElem?_eq_getElem hi2]
        rfl
      rw [hrd] at hks
      subst hAe
      generalize R[i1] = ru at hcr hRu hrl hrd hks
      obtain ⟨rA, rc, rs⟩ := ru
      simp only at hcr hRu hrl hrd hks
      obtain ⟨mr, hmr⟩ : ∃ mr, rs.length = mr := ⟨_, rfl⟩
      obtain ⟨mk, hmk⟩ : ∃ mk, (keptL (R.map (·.rs)) (ls.take k)).length = mk := ⟨_, rfl⟩
      rw [hmr] at hcr hrl
      rw [hmk] at hkn ho ⊢
      obtain ⟨xt, xd, xk, xn⟩ := x
      simp only at hi1
      subst hi1
      have d0 := hcx 0 _ rfl
      have d1 := hcx 1 _ rfl
      have d2 := hcx 2 _ rfl
      have d3 := hcx 3 _ rfl
      rw [Nat.add_zero] at d0
      simp only at d0 d1 d2 d3 t0 t1 t2 t3 t4
      have hi3 : i1 < n := by have := Hn.out; omega
      have H5 := Lib.hid (And.intro ho (And.intro hkp (And.intro hks (And.intro hRu (And.intro hmr hmk))))); clear ho hkp hks hRu hmr hmk hXw hcx hrd hx t0 t1 t2 t3 t4
      obtain ⟨wo, rfl⟩ : ∃ wo : World, wo = wr := ⟨_, rfl⟩
      obtain ⟨go, rfl⟩ : ∃ go : Nat, go = gk := ⟨_, rfl⟩
      have H6 := Lib.hid (And.intro d0 (And.intro d1 (And.intro d2 (And.intro d3 hcr))))
      go_wp2
      clear d0 d1 d2 d3 hcr
      go_loopg [24, 105] mr (fun gk v i wr => ∃ q : Nat, gk + q = mr ∧ i = .int .i64 q ∧ v = .bool (hasR (rs.take q) ⟨xt, i1, xk, xn⟩) ∧ wr.heap = wo.heap)
      case atStart => exact ⟨0, by omega, rfl, by rw [List.take_zero]; rfl, rfl⟩
      case round =>
        obtain ⟨q, hgq, rfl, rfl, hwe⟩ := hrel
        by_cases hq : q < mr
        · have hqr : q < rs.length := by have := H5.out.2.2.2.2.1; omega
          have hnx := hasR_take (x := ⟨xt, i1, xk, xn⟩) hqr
          obtain ⟨ib, io, rfl, hib, hci⟩ := rd_flat (f := cellsRu) (s := 7) (by decide) (fun _ => rfl) H5.out.2.2.2.1 hqr
          have hci0 := hci 0 _ rfl
          rw [Nat.add_zero] at hci0
          obtain ⟨rk, hrk⟩ : ∃ rk, rs[q].kind = rk := ⟨_, rfl⟩
          have hnx2 : hasR (rs.take (q + 1)) ⟨xt, i1, xk, xn⟩ = (hasR (rs.take q) ⟨xt, i1, xk, xn⟩ || rk == xk) := by rw [← hrk]; exact hnx
          rw [hrk] at hci0
          have hcell : ∀ p : Addr, wr.cell? p = wo.cell? p := fun p => by simp only [World.cell?, hwe]
          have g0 := (hcell _).trans H6.out.1
          have g1 := (hcell _).trans H6.out.2.1
          have g2 := (hcell _).trans H6.out.2.2.1
          have g3 := (hcell _).trans H6.out.2.2.2.1
          have g4 := (hcell _).trans H6.out.2.2.2.2
          have g5 := (hcell _).trans hci0
          have Hw := Lib.hid hwe
          clear hci0 hci hnx hrk hcell hwe hqr
          have Hnx := Lib.hid hnx2; clear hnx2
          cases hbv : hasR (rs.take q) ⟨xt, i1, xk, xn⟩ with
          | true =>
            have Hbv := Lib.hid hbv; clear hbv
            go_wp2
            go_quiet (fail)
            go_wp2
            go_roundg (gk - 1)
            case measure => omega
            case rel =>
              refine ⟨q + 1, by omega, by go_num, ?_, Hw.out⟩
              rw [Hnx.out, Hbv.out]
              rfl
          | false =>
            have Hbv := Lib.hid hbv; clear hbv
            go_wp2
            go_quiet (fail)
            go_wp2
            go_roundg (gk - 1)
            case measure => omega
            case rel =>
              refine ⟨q + 1, by omega, by go_num, ?_, Hw.out⟩
              rw [Hnx.out, Hbv.out, Bool.false_or]
              try rfl
        · have hqe : q = mr := by omega
          subst hqe
          have hwk : ∀ b : Nat, wr.heap[b]? = wo.heap[b]? := fun b => by rw [hwe]
          rw [show rs.take q = rs from List.take_of_length_le (by rw [H5.out.2.2.2.2.1]; exact Nat.le_refl _)]
          have ho2 : ownX wr L.heap.size (.slice A9 mk c9) (keptL (R.map (·.rs)) (ls.take k)) := own_of_block H5.out.1 fun b _ => hwk b
          have hkp2 : Kp L.heap.size L wr := H5.out.2.1.same hwe
          have hcell : ∀ p : Addr, wr.cell? p = wo.cell? p := fun p => by simp only [World.cell?, hwe]
          have g0 := (hcell _).trans H6.out.1
          have g1 := (hcell _).trans H6.out.2.1
          have g2 := (hcell _).trans H6.out.2.2.1
          have g3 := (hcell _).trans H6.out.2.2.2.1
          clear hcell hwk hwe
          cases hbv : hasR rs ⟨xt, i1, xk, xn⟩ with
          | false =>
            have H7 := Lib.hid (And.intro ho2 (And.intro hkp2 hbv)); clear ho2 hkp2 hbv
            go_wp2
            go_roundg (go - 1)
            case measure => omega
            case rel =>
              refine ⟨k + 1, by omega, by go_num, ?_, H7.out.2.1⟩
              rw [H5.out.2.2.1, H7.out.2.2]
              simpa using H7.out.1
          | true =>
            have hown4 : wr.ownsRow L.heap.size 49 4 (.slice A9 mk c9) mk (flatX (keptL (R.map (·.rs)) (ls.take k))) := by
              have := ho2
              unfold ownX at this
              rwa [H5.out.2.2.2.2.2] at this
            have hLz := hkp2.size
            have H7 := Lib.hid (And.intro hown4 (And.intro hkp2 hbv)); clear ho2 hkp2 hbv hown4
            go_wp2_with (at_builtin; go_loud (refine wpList_append_own_at _ rfl (.tmp 131) (.tmp 136) _ rfl L.heap.size 49 i0 (aggX le0) 4 32 Try.underlying44 Hi0.out.1 Hi0.out.2.1 Hi0.out.2.2.1 Hi0.out.2.2.2 rfl (by decide) (.slice A9 mk c9) mk (flatX (keptL (R.map (·.rs)) (ls.take k))) rfl (H7.out.1.alloc _) ⟨wr.heap.size, 0, none⟩ 1 1 (cellsX ⟨xt, i1, xk, xn⟩) rfl rfl ?qn ?q1 ?qb ?qc ?qd ?_))
            case qn =>
              intro j u hj
              rw [show ((⟨wr.heap.size, 0, none⟩ : Addr).add j) = ⟨wr.heap.size, j, none⟩ by simp [Addr.add_lit']]
              exact cells_at (heap_alloc_new wr _) j u hj
            case q1 => exact fun u hu => flatX_one' [⟨xt, i1, xk, xn⟩] u (by simpa [flatX] using hu)
            case qb => unfold maxLen; omega
            case qc => omega
            case qd => first | omega | (rw [World.size_alloc]; omega)
            intro v3 w3 hown3 hg3 _ _
            have hown5 : ownX w3 L.heap.size v3 (keptL (R.map (·.rs)) (ls.take (k + 1))) := by
              rw [H5.out.2.2.1, H7.out.2.2, if_pos rfl]
              unfold ownX
              rw [List.length_append, flatX_app, H5.out.2.2.2.2.2, flatX_one]
              exact hown3
            have hkp5 : Kp L.heap.size L w3 := (H7.out.2.1.alloc _).grown hg3 fun b hb => (own_block_at H7.out.1 hb).1
            have H8 := Lib.hid (And.intro hown5 hkp5); clear hown3 hg3 hown5 hkp5
            go_wp2
            go_roundg (go - 1)
            case measure => omega
            case rel => exact ⟨k + 1, by omega, by go_num, H8.out.1, H8.out.2⟩
    · have hke : k = m := by omega
      subst hke
      rw [show ls.take k = ls from List.take_of_length_le (by rw [Hm.out]; exact Nat.le_refl _)] at ho
      obtain ⟨mk, hmk⟩ : ∃ mk, (keptL (R.map (·.rs)) ls).length = mk := ⟨_, rfl⟩
      rw [show ls.take k = ls from List.take_of_length_le (by rw [Hm.out]; exact Nat.le_refl _)]
      rw [hmk] at ho ⊢
      have hmkl : mk ≤ 200 := by
        have := keptL_len (R.map (·.rs)) ls
        have := Hm.out
        omega
      have H7 := Lib.hid (And.intro ho (And.intro hkp hmk)); clear ho hkp hmk
      go_wp2
      refine MpPost.normal ?_
      have kw : Keeps L wr := kp_keeps H7.out.2.1
      have hc3 := arun_m (Post := Post) (n0 := n0) (W0 := W0) (A := A) (AX := A9) (c := c) (cl := c9) (E := E) (wk := one) (L := wr) ((HR.out.1.kept (Nat.le_refl _) kw).more kw.1) (own_rd H7.out.1 (by rw [H7.out.2.2])) Hn.out H7.out.2.2 (by unfold Fits; omega)
      refine Mp.seq hJ (Mp.region hJ ?_)
      (refine MpOps.val hJ ac_ok.bodies rfl (yld rfl _) (okOpB_ok (by kernel_rfl)) (fun w => run_mv _ _ rfl w) ?_; refine MpOps.val hJ ac_ok.bodies rfl (yld rfl _) (okOpB_ok (by kernel_rfl)) (fun w => run_mv _ _ rfl w) ?_; refine MpOps.val hJ ac_ok.bodies rfl (yld rfl _) (okOpB_ok (by kernel_rfl)) (fun w => run_mv _ _ rfl w) ?_; refine MpOps.val hJ ac_ok.bodies rfl (yld rfl _) (okOpB_ok (by kernel_rfl)) (fun w => run_mv _ _ rfl w) ?_)
      go_simp
      refine MpOps.call' hJ rfl (yld rfl _) rfl (fun x hx => ?_) ⟨_, Try.func24, by kernel_rfl, by kernel_rfl⟩ (by simp only [List.map_toArray, List.map_cons, List.map_nil]; rfl) (MCalls.mono hc3 fun v L7 hv => ?_)
      · simp at hx
        rcases hx with rfl | rfl | rfl | rfl <;> first | trivial | exact .int _ _
      clear hc3
      have hg3 : goCode R (keptL (R.map (·.rs)) ls) E one = 0 := goCode_of (kept_code HR.out.2.2.2.2.2.2.1) HR.out.2.2.2.2.2.2.2.1 HR.out.2.2.2.2.2.2.2.2
      obtain ⟨l', hl'⟩ := runA_less (R := R.map (·.rs)) _ _ _ _ [] (less_start ls) (Nat.le_refl _) HR.out.2.2.2.2.2.1
      have k7 : Keeps wr L7 := kp_keeps hv.2.2
      obtain ⟨nums3, log3, u, lv, q1, rfl, q3, q4⟩ := (hv.1 hg3).resolve_left fun h => by
        have := hl'.symm.trans h.1
        cases this
      have hnn := hl'.symm.trans q1
      simp only [Option.some.injEq, Prod.mk.injEq] at hnn
      obtain ⟨rfl, rfl⟩ := hnn
      obtain ⟨p3, c3, rfl, _, _⟩ := own_form q3
      obtain ⟨p4, c4, rfl, _, _⟩ := own_form q4
      have hp3 := own_rd q3 rfl
      rw [HR.out.2.2.2.2.1]
      clear q1 q3 q4 hv hl' hg3
      go_simp
      (refine MpOps.val hJ ac_ok.bodies rfl (yld rfl _) (okOpB_ok (by kernel_rfl)) (fun w => run_mv _ _ rfl w) ?_; go_simp; refine MpOps.val hJ ac_ok.bodies rfl (yld rfl _) (okOpB_ok (by kernel_rfl)) (fun w => run_ex _ _ rfl rfl rfl w) ?_; refine MpOps.val hJ ac_ok.bodies rfl (yld rfl _) (okOpB_ok (by kernel_rfl)) (fun w => run_ex _ _ rfl rfl rfl w) ?_; refine MpOps.val hJ ac_ok.bodies rfl (yld rfl _) (okOpB_ok (by kernel_rfl)) (fun w => run_ex _ _ rfl rfl rfl w) ?_; go_simp; refine MpOps.val hJ ac_ok.bodies rfl (yld rfl _) (okOpB_ok (by kernel_rfl)) (fun w => run_as _ _ rfl w) ?_; refine MpOps.val hJ ac_ok.bodies rfl (yld rfl _) (okOpB_ok (by kernel_rfl)) (fun w => run_as _ _ rfl w) ?_; refine MpOps.val hJ ac_ok.bodies rfl (yld rfl _) (okOpB_ok (by kernel_rfl)) (fun w => run_as _ _ rfl w) ?_; refine MpOps.nil hJ ?_)
      show Mp _ _ _ _ _ _ _ _ _
      go_simp
      have hp1 : Rd L7 L.heap.size p1 (ints nums) := HR.out.2.2.2.1.kept (Nat.le_refl _) (kw.trans k7)
      refine Mp.last' hJ ac_ok res_8 (by kernel_rfl) (fun L' => Hid (Rd L' L'.heap.size p1 (ints nums) ∧ Rd L' L'.heap.size p3 (ints nums))) (fun L' e => Lib.hid ⟨(hp1.kept (kw.trans k7).1 (.eq e)).more (by rw [e]; exact (kw.trans k7).1), (hp3.kept (Nat.le_refl _) (.eq e)).more (by rw [e]; exact Nat.le_refl _)⟩) fun L8 H8 => ?_
      have hl200 : nums.length ≤ 1048576 := by
        have h1 := (runA_some _ _ _ _ _ (by simp) HR.out.2.2.2.2.2.1).1
        rw [List.length_replicate, Hn.out] at h1
        omega
      have hsam : ∀ W : World, W.heap = L8.heap → Calls Try.prog 17 #[.slice p1 l1 c1, .slice p3 l1 c3] W fun e w' => e = .returned (.bool true) ∧ Keeps L8 w' := fun W e => by
        have h1 : Rd W W.heap.size p1 (ints nums) := (H8.out.1.kept (Nat.le_refl _) (.eq e)).more (by rw [e]; exact Nat.le_refl _)
        have h2 : Rd W W.heap.size p3 (ints nums) := (H8.out.2.kept (Nat.le_refl _) (.eq e)).more (by rw [e]; exact Nat.le_refl _)
        have h3 := same_s W W.heap.size p1 p3 c1 c3 nums h1 h2 (Nat.le_refl _) hl200
        rw [HR.out.2.2.2.2.1] at h3
        refine h3.mono ?_
        rintro e' w' ⟨rfl, hb⟩
        exact ⟨rfl, (Keeps.eq e).trans (Keeps.below hb)⟩
      have HS1 := Lib.hid hsam
      clear hsam hp1 hp3 kw k7 hl200
      go_wp2_with (first | (go_at_call 17; refine (HS1.out _ rfl).mono ?_; rintro e w1 ⟨rfl, hb⟩; have Hb := Lib.hid hb; clear hb))
      refine MpPost.leave ⟨.inr rfl, ?_⟩
      rw [pack_one results_8]
      rfl
end
end Go.Proofs.Yticdjkkcfdbdcaa

/- The law stepkeep.ActorEnds' body in company, told of the lone world: true: its walk. No conditions but those named. -/
namespace Go.Proofs.Yticdjkkcfdbdcaa
open Go.Conc Go.ConcN Go.RowKit Go.ChangeShapes Go.WideShapes Go.ChangeAt
section
variable {Post : Value → World → Prop} {n0 : Nat} {W0 : World}
set_option maxRecDepth 100000 in
set_option maxHeartbeats 4000000 in
theorem ends_m {A AX : Option Addr} {c cl n m : Nat} {R : List RulR} {ls : List LetR} {E more one two : Int} {L : World} (hR : RdRules L L.heap.size A R) (hX : Rd L L.heap.size AX (flatX ls)) (hn : R.length = n) (hm : ls.length = m) (hfm : Fits m) {code : Code} (hcode : Try.f8.body = some code) :
    Mp (InV acL acV) Try.prog (fun k g w => Win Try.prog Post n0 W0 k g w) 8 code false (fun e a1 _ => (e = .normal ∨ e = .ret) ∧ pack (resVals Try.f8 a1.tmps) = .bool true) ⟨#[.slice A n c, .slice AX m cl, .int .i64 E, .int .i64 more, .int .i64 one, .int .i64 two] ++ Array.replicate (Try.f8.ntmps - #[Value.slice A n c, .slice AX m cl, .int .i64 E, .int .i64 more, .int .i64 one, .int .i64 two].size) undef, []⟩ L := by
  have hJ : JOk Try.prog true _ (fun k g w => Win Try.prog Post n0 W0 k g w) := win_jok (P := Try.prog) (Post := Post) (n0 := n0) (W0 := W0)
  have hcode' := (show Try.f8.body = some _ from rfl).symm.trans hcode
  obtain rfl := Option.some.inj hcode'
  clear hcode hcode'
  simp only [Try.ntmps8, List.size_toArray, List.length_cons, List.length_nil, Nat.reduceAdd, Nat.reduceSub, Array.replicate_succ, Array.replicate_zero, List.push_toArray, List.append_toArray, List.nil_append, List.cons_append]
  have Hn := Lib.hid hn; clear hn
  have Hm := Lib.hid hm; clear hm
  have HR := Lib.hid (And.intro hR (And.intro hX hfm)); clear hR hX hfm
  refine Mp.piece' hJ ac_ok res_8 (by kernel_rfl) (fun L' => Hid (L'.heap = L.heap)) (fun L' e => Lib.hid e) fun L2 Hs => ?_
  go_wp2
  refine MpPost.normal ?_
  refine Mp.seq hJ (Mp.seq hJ (Mp.region hJ ?_))
  refine MpOps.new hJ ac_ok.bodies (v := .slice (some ⟨L2.heap.size, 0, none⟩) 1 1) (x := .cells #[.slice none 0 0] 52) rfl (yld rfl _) (okOpB_ok (by kernel_rfl)) (fun w hw => by rw [slice_rus _ _ w rfl rfl, hw]) ?_
  refine MpOps.val' hJ ac_ok.bodies rfl (yld rfl _) (okOpB_ok (by kernel_rfl)) (fun w => build_le _ _ w rfl rfl) ?_
  go_simp
  refine MpOps.new hJ ac_ok.bodies (v := .slice (some ⟨L2.heap.size + 1, 0, none⟩) 1 1) (x := .cells #[.int .i64 0, .int .i64 0, .int .i64 1, .int .i64 0] 49) rfl (yld rfl _) (okOpB_ok (by kernel_rfl)) (fun w hw => by rw [slice_le _ _ w rfl rfl, hw]; simp) ?_
  obtain ⟨LA, hLA, e0, e1, kB⟩ := two_mem L2
  have kA : Keeps L LA := (Keeps.eq Hs.out).trans kB
  rw [hLA]
  clear hLA kB
  have hc0 := arun_m (Post := Post) (n0 := n0) (W0 := W0) (c := 1) (cl := 1) (E := 0) (wk := 1) (L := LA) (two_rd e0 e1).1 (two_rd e0 e1).2 (n := 1) rfl (m := 1) rfl (by simp [Fits])
  generalize L2.heap.size = g2 at e0 e1 hc0 ⊢
  go_simp
  refine MpOps.call' hJ rfl (yld rfl _) rfl (fun x hx => ?_) ⟨_, Try.func24, by kernel_rfl, by kernel_rfl⟩ (by simp only [List.map_toArray, List.map_cons, List.map_nil]; rfl) (MCalls.mono hc0 fun v L3 hv => ?_)
  · simp at hx
    rcases hx with rfl | rfl | rfl | rfl <;> first | trivial | exact .int _ _
  obtain ⟨u0, q0, d0, rfl, k3⟩ := two_run hv
  clear hc0 hv e0 e1
  go_simp
  (refine MpOps.val hJ ac_ok.bodies rfl (yld rfl _) (okOpB_ok (by kernel_rfl)) (fun w => run_mv _ _ rfl w) ?_; go_simp; refine MpOps.val hJ ac_ok.bodies rfl (yld rfl _) (okOpB_ok (by kernel_rfl)) (fun w => run_ex _ _ rfl rfl rfl w) ?_; refine MpOps.val hJ ac_ok.bodies rfl (yld rfl _) (okOpB_ok (by kernel_rfl)) (fun w => run_ex _ _ rfl rfl rfl w) ?_; refine MpOps.val hJ ac_ok.bodies rfl (yld rfl _) (okOpB_ok (by kernel_rfl)) (fun w => run_ex _ _ rfl rfl rfl w) ?_; go_simp; refine MpOps.val hJ ac_ok.bodies rfl (yld rfl _) (okOpB_ok (by kernel_rfl)) (fun w => run_as _ _ rfl w) ?_; refine MpOps.val hJ ac_ok.bodies rfl (yld rfl _) (okOpB_ok (by kernel_rfl)) (fun w => run_as _ _ rfl w) ?_; refine MpOps.val hJ ac_ok.bodies rfl (yld rfl _) (okOpB_ok (by kernel_rfl)) (fun w => run_as _ _ rfl w) ?_; refine MpOps.nil hJ ?_)
  show Mp _ _ _ _ _ _ _ _ _
  go_simp
  have k13 := kA.trans k3
  refine Mp.last' hJ ac_ok res_8 (by kernel_rfl) (fun L' => Hid (L'.heap = L3.heap)) (fun L' e => Lib.hid e) fun L4 H4 => ?_
  have k14 := k13.trans (.eq H4.out)
  clear k3 kA k13 H4
  go_wp2
  refine MpPost.normal ?_
  have hc1 := arun_m (Post := Post) (n0 := n0) (W0 := W0) (A := A) (AX := AX) (c := c) (cl := cl) (E := E) (wk := one) (L := L4) ((HR.out.1.kept (Nat.le_refl _) k14).more k14.1) ((HR.out.2.1.kept (Nat.le_refl _) k14).more k14.1) Hn.out Hm.out HR.out.2.2
  refine Mp.seq hJ (Mp.region hJ ?_)
  (refine MpOps.val hJ ac_ok.bodies rfl (yld rfl _) (okOpB_ok (by kernel_rfl)) (fun w => run_mv _ _ rfl w) ?_; refine MpOps.val hJ ac_ok.bodies rfl (yld rfl _) (okOpB_ok (by kernel_rfl)) (fun w => run_mv _ _ rfl w) ?_; refine MpOps.val hJ ac_ok.bodies rfl (yld rfl _) (okOpB_ok (by kernel_rfl)) (fun w => run_mv _ _ rfl w) ?_; refine MpOps.val hJ ac_ok.bodies rfl (yld rfl _) (okOpB_ok (by kernel_rfl)) (fun w => run_mv _ _ rfl w) ?_)
  go_simp
  refine MpOps.call' hJ rfl (yld rfl _) rfl (fun x hx => ?_) ⟨_, Try.func24, by kernel_rfl, by kernel_rfl⟩ (by simp only [List.map_toArray, List.map_cons, List.map_nil]; rfl) (MCalls.mono hc1 fun v L5 hv => ?_)
  · simp at hx
    rcases hx with rfl | rfl | rfl | rfl <;> first | trivial | exact .int _ _
  obtain ⟨p1, l1, c1, q1, m1, d1, code1, rfl, k5, H1⟩ := runE hv
  clear hc1 hv
  go_simp
  (refine MpOps.val hJ ac_ok.bodies rfl (yld rfl _) (okOpB_ok (by kernel_rfl)) (fun w => run_mv _ _ rfl w) ?_; go_simp; refine MpOps.val hJ ac_ok.bodies rfl (yld rfl _) (okOpB_ok (by kernel_rfl)) (fun w => run_ex _ _ rfl rfl rfl w) ?_; refine MpOps.val hJ ac_ok.bodies rfl (yld rfl _) (okOpB_ok (by kernel_rfl)) (fun w => run_ex _ _ rfl rfl rfl w) ?_; refine MpOps.val hJ ac_ok.bodies rfl (yld rfl _) (okOpB_ok (by kernel_rfl)) (fun w => run_ex _ _ rfl rfl rfl w) ?_; go_simp; refine MpOps.val hJ ac_ok.bodies rfl (yld rfl _) (okOpB_ok (by kernel_rfl)) (fun w => run_as _ _ rfl w) ?_; refine MpOps.val hJ ac_ok.bodies rfl (yld rfl _) (okOpB_ok (by kernel_rfl)) (fun w => run_as _ _ rfl w) ?_; refine MpOps.val hJ ac_ok.bodies rfl (yld rfl _) (okOpB_ok (by kernel_rfl)) (fun w => run_as _ _ rfl w) ?_; refine MpOps.nil hJ ?_)
  show Mp _ _ _ _ _ _ _ _ _
  go_simp
  have k15 := k14.trans k5
  have H1 := Lib.hid H1
  refine Mp.piece' hJ ac_ok res_8 (by kernel_rfl) (fun L' => Hid (L'.heap = L5.heap)) (fun L' e => Lib.hid e) fun L6 H6 => ?_
  have k16 := k15.trans (.eq H6.out)
  have k56 : Keeps L5 L6 := .eq H6.out
  clear H6 k14 k5 k15
  by_cases hz1 : code1 = 0
  case neg =>
    have h1' : (code1 != 0) = true := by simp [hz1]
    have h1b : (code1 == 0) = false := by simp [hz1]
    go_wp2
    refine MpPost.ret ⟨.inr rfl, ?_⟩
    rw [pack_one results_8]
    rfl
  subst hz1
  by_cases hm0 : more < 0
  · go_wp2
    refine MpPost.ret ⟨.inr rfl, ?_⟩
    rw [pack_one results_8]
    rfl
  by_cases hm5 : 500 < more
  · go_wp2
    refine MpPost.ret ⟨.inr rfl, ?_⟩
    rw [pack_one results_8]
    rfl
  go_wp2
  refine MpPost.normal ?_
  obtain ⟨_, hg1, nums, log, hr1, hl1, hm1, hp1, hq1, hf1, hd1, hd2⟩ := H1.out.resolve_left fun h => h rfl
  obtain ⟨ha1, hE1, hw1⟩ := goCode_zero hg1
  clear H1
  have h2m : m1 ≤ 100000 := by have := (runA_some _ _ _ _ _ (by simp) hr1).2; omega
  have hq1' : Rd L6 L6.heap.size q1 (flatX log) := (hq1.kept (Nat.le_refl _) k56).more k56.1
  have hp1' : Rd L6 L6.heap.size p1 (ints nums) := (hp1.kept (Nat.le_refl _) k56).more k56.1
  have HL := Lib.hid (And.intro hr1 (And.intro hl1 (And.intro hm1 (And.intro hp1' (And.intro hq1' hf1))))); clear hr1 hl1 hm1 hp1 hq1 hp1' hq1' hf1 k56
  have Hg := Lib.hid (And.intro hg1 (And.intro ha1 hw1)); clear hg1 ha1 hw1
  have hw6 : w64 (E + more) = E + more := by
    have h1 := hE1.1; have h2 := hE1.2
    exact w64_small (by omega) (by omega)
  have hc2 := arun_m (Post := Post) (n0 := n0) (W0 := W0) (A := A) (AX := AX) (c := c) (cl := cl) (E := E + more) (wk := two) (L := L6) ((HR.out.1.kept (Nat.le_refl _) k16).more k16.1) ((HR.out.2.1.kept (Nat.le_refl _) k16).more k16.1) Hn.out Hm.out HR.out.2.2
  refine Mp.seq hJ (Mp.region hJ ?_)
  (refine MpOps.val hJ ac_ok.bodies rfl (yld rfl _) (okOpB_ok (by kernel_rfl)) (fun w => run_mv _ _ rfl w) ?_; refine MpOps.val hJ ac_ok.bodies rfl (yld rfl _) (okOpB_ok (by kernel_rfl)) (fun w => run_mv _ _ rfl w) ?_; refine MpOps.val hJ ac_ok.bodies rfl (yld rfl _) (okOpB_ok (by kernel_rfl)) (fun w => run_mv _ _ rfl w) ?_; refine MpOps.val hJ ac_ok.bodies rfl (yld rfl _) (okOpB_ok (by kernel_rfl)) (fun w => run_mv _ _ rfl w) ?_)
  go_simp
  refine MpOps.val' hJ ac_ok.bodies rfl (yld rfl _) (okOpB_ok (by kernel_rfl)) (fun w => a_add rfl rfl rfl Try.underlying3) ?_
  refine MpOps.val hJ ac_ok.bodies rfl (yld rfl _) (okOpB_ok (by kernel_rfl)) (fun w => run_mv _ _ rfl w) ?_
  rw [hw6]
  go_simp
  refine MpOps.call' hJ rfl (yld rfl _) rfl (fun x hx => ?_) ⟨_, Try.func24, by kernel_rfl, by kernel_rfl⟩ (by simp only [List.map_toArray, List.map_cons, List.map_nil]; rfl) (MCalls.mono hc2 fun v L7 hv => ?_)
  · simp at hx
    rcases hx with rfl | rfl | rfl | rfl <;> first | trivial | exact .int _ _
  obtain ⟨p2, l2, c2, q2, m2, d2, code2, rfl, k7, H2⟩ := runE hv
  clear hc2 hv hw6
  go_simp
  (refine MpOps.val hJ ac_ok.bodies rfl (yld rfl _) (okOpB_ok (by kernel_rfl)) (fun w => run_mv _ _ rfl w) ?_; go_simp; refine MpOps.val hJ ac_ok.bodies rfl (yld rfl _) (okOpB_ok (by kernel_rfl)) (fun w => run_ex _ _ rfl rfl rfl w) ?_; refine MpOps.val hJ ac_ok.bodies rfl (yld rfl _) (okOpB_ok (by kernel_rfl)) (fun w => run_ex _ _ rfl rfl rfl w) ?_; refine MpOps.val hJ ac_ok.bodies rfl (yld rfl _) (okOpB_ok (by kernel_rfl)) (fun w => run_ex _ _ rfl rfl rfl w) ?_; go_simp; refine MpOps.val hJ ac_ok.bodies rfl (yld rfl _) (okOpB_ok (by kernel_rfl)) (fun w => run_as _ _ rfl w) ?_; refine MpOps.val hJ ac_ok.bodies rfl (yld rfl _) (okOpB_ok (by kernel_rfl)) (fun w => run_as _ _ rfl w) ?_; refine MpOps.val hJ ac_ok.bodies rfl (yld rfl _) (okOpB_ok (by kernel_rfl)) (fun w => run_as _ _ rfl w) ?_; refine MpOps.nil hJ ?_)
  show Mp _ _ _ _ _ _ _ _ _
  go_simp
  have k17 := k16.trans k7
  have H2 := Lib.hid H2
  refine Mp.piece' hJ ac_ok res_8 (by kernel_rfl) (fun L' => Hid (L'.heap = L7.heap)) (fun L' e => Lib.hid e) fun L8 H8 => ?_
  have k18 := k17.trans (.eq H8.out)
  have k78 : Keeps L7 L8 := .eq H8.out
  have k68 : Keeps L6 L8 := k7.trans k78
  clear H8 k7 k17
  have hq1' : Rd L8 L8.heap.size q1 (flatX log) := (HL.out.2.2.2.2.1.kept (Nat.le_refl _) k68).more k68.1
  by_cases hz2 : code2 = 0
  case neg =>
    have h2b : (code2 == 0) = false := by simp [hz2]
    go_wp2
    refine MpPost.normal ?_
    have kz : Keeps L6 _ := k68
    refine ends_tail (A := A) (AX := AX) (p1 := p1) (c := c) (cl := cl) (l1 := l1) (c1 := c1) (E := E) (one := one) (log := log) ⟨rfl, rfl, rfl, rfl, rfl, rfl, rfl⟩ ((HR.out.1.kept (Nat.le_refl _) (k16.trans kz)).more (k16.trans kz).1) ((HR.out.2.1.kept (Nat.le_refl _) (k16.trans kz)).more (k16.trans kz).1) Hn.out Hm.out HR.out.2.2 ((HL.out.2.2.2.1.kept (Nat.le_refl _) kz).more kz.1) HL.out.2.1 HL.out.1 Hg.out.2.1 hE1 Hg.out.2.2 (show Try.f8.body = some (.seq _ (.seq _ (.seq _ (.seq _ (.seq _ (.seq _ _)))))) from rfl)
  subst hz2
  obtain ⟨_, hg2, nums2, log2, hr2, hl2, hm2, hp2, hq2, hf2, hd3, hd4⟩ := H2.out.resolve_left fun h => h rfl
  clear H2
  obtain ⟨r, rfl⟩ := runA_more more.toNat (E.toNat + 1) 0 _ _ [] HL.out.1 (show runA _ (E.toNat + 1 + more.toNat) _ _ _ _ = _ by rw [show E.toNat + 1 + more.toNat = (E + more).toNat + 1 by have h1 := hE1.1; omega]; exact hr2)
  have hlen := HL.out.2.2.1
  rw [List.length_append, hlen] at hm2
  have hle : m1 ≤ m2 := by omega
  have hq2' : Rd L8 L8.heap.size q2 (flatX log) := Rd.pre ((hq2.kept (Nat.le_refl _) k78).more k78.1)
  have hsam : ∀ (W : World), W.heap = L8.heap → Calls Try.prog 26 #[.slice q1 m1 d1, .slice q2 m1 d2] W fun e w' => e = .returned (.bool true) ∧ Keeps L8 w' := fun W e => by
    refine (same_x W L8.heap.size q1 q2 d1 d2 m1 log (hq1'.kept (Nat.le_refl _) (.eq e)) (hq2'.kept (Nat.le_refl _) (.eq e)) (by rw [e]; exact Nat.le_refl _) hlen (by omega)).mono ?_
    rintro e' w' ⟨rfl, hb⟩
    exact ⟨rfl, (Keeps.eq e).trans (Keeps.below hb)⟩
  have HS := Lib.hid hsam
  have HL2 := Lib.hid (And.intro hr2 hm2)
  clear hsam hr2 hm2 hq2 hp2 hl2 hq2' hq1' hlen hg2
  rcases hf2 with ⟨rfl, hz, hz'⟩ | ⟨b2, rfl⟩
  · subst hz hz'
    obtain rfl : m1 = 0 := by omega
    clear hle
    go_wp2_with (first | (go_at_call 26; refine (HS.out _ rfl).mono ?_; rintro e w1 ⟨rfl, hb⟩; have Hb := Lib.hid hb; clear hb))
    refine MpPost.normal ?_
    have kz : Keeps L6 _ := k68.trans Hb.out
    refine ends_tail (A := A) (AX := AX) (p1 := p1) (c := c) (cl := cl) (l1 := l1) (c1 := c1) (E := E) (one := one) (log := log) ⟨rfl, rfl, rfl, rfl, rfl, rfl, rfl⟩ ((HR.out.1.kept (Nat.le_refl _) (k16.trans kz)).more (k16.trans kz).1) ((HR.out.2.1.kept (Nat.le_refl _) (k16.trans kz)).more (k16.trans kz).1) Hn.out Hm.out HR.out.2.2 ((HL.out.2.2.2.1.kept (Nat.le_refl _) kz).more kz.1) HL.out.2.1 HL.out.1 Hg.out.2.1 hE1 Hg.out.2.2 (show Try.f8.body = some (.seq _ (.seq _ (.seq _ (.seq _ (.seq _ (.seq _ _)))))) from rfl)
  · go_wp2_with (first | (go_at_call 26; refine (HS.out _ rfl).mono ?_; rintro e w1 ⟨rfl, hb⟩; have Hb := Lib.hid hb; clear hb))
    refine MpPost.normal ?_
    have kz : Keeps L6 _ := k68.trans Hb.out
    refine ends_tail (A := A) (AX := AX) (p1 := p1) (c := c) (cl := cl) (l1 := l1) (c1 := c1) (E := E) (one := one) (log := log) ⟨rfl, rfl, rfl, rfl, rfl, rfl, rfl⟩ ((HR.out.1.kept (Nat.le_refl _) (k16.trans kz)).more (k16.trans kz).1) ((HR.out.2.1.kept (Nat.le_refl _) (k16.trans kz)).more (k16.trans kz).1) Hn.out Hm.out HR.out.2.2 ((HL.out.2.2.2.1.kept (Nat.le_refl _) kz).more kz.1) HL.out.2.1 HL.out.1 Hg.out.2.1 hE1 Hg.out.2.2 (show Try.f8.body = some (.seq _ (.seq _ (.seq _ (.seq _ (.seq _ (.seq _ _)))))) from rfl)
end
end Go.Proofs.Yticdjkkcfdbdcaa

/- A call of stepkeep.ActorEnds, from every start: it ends well, and answers true. No conditions but that what is read is there. -/
namespace Go.Proofs.Yticdjkkcfdbdcaa
open Go.Conc Go.ConcN Go.RowKit Go.ChangeShapes Go.WideShapes Go.ChangeAt
theorem no_inits_8 : Try.prog.inits.idxOf? 8 = none := by kernel_rfl
set_option maxRecDepth 100000 in
theorem code_8 : ∃ code, Try.f8.body = some code := ⟨_, rfl⟩
/-- What the run leaves. -/
def LeftT (W : World) (v : Value) (w' : World) : Prop := v = .bool true ∧ W.heap.size ≤ w'.heap.size ∧ (∀ b, b < W.heap.size → w'.heap[b]? = W.heap[b]?) ∧ w'.os = W.os ∧ w'.output = W.output ∧ w'.tape = W.tape
theorem ends_run {W : World} {v u : Value} {E more one two : Int} (h : RulesArg W v) (h2 : LetsArg W u) :
    EndsWell Try.prog (LeftT W) (solo (G (Frame.enter Try.prog 8 #[v, u, .int .i64 E, .int .i64 more, .int .i64 one, .int .i64 two] .normal) []) W) #[] := by
  obtain ⟨code, hcode⟩ := code_8
  obtain ⟨A, AX, n, c, m, cl, R, ls, ρ, k, L, hmi, hv, hu, hR, hX, hn, hm, hfm, hk, hr⟩ := act_imp h h2
  refine win_runs (k := k) (mp_top Try.func8 hcode no_inits_8 (fun i r hr => ?_) (R := fun v => v = .bool true) (args := #[.slice A n c, .slice AX m cl, .int .i64 E, .int .i64 more, .int .i64 one, .int .i64 two]) hmi ⟨rfl, fun i v v' h1 h2 => ?_⟩ (ends_m hR hX hn hm hfm hcode) ?_) hk hr
  · obtain ⟨fn, h1, h2⟩ := res_8
    cases Option.some.inj (h1.symm.trans Try.func8)
    exact h2 i r hr
  · match i, h1, h2 with
    | 0, h1, h2 => simp at h1 h2; subst h1 h2; exact hv
    | 1, h1, h2 => simp at h1 h2; subst h1 h2; exact hu
    | 2, h1, h2 => simp at h1 h2; subst h1 h2; exact .int _ _
    | 3, h1, h2 => simp at h1 h2; subst h1 h2; exact .int _ _
    | 4, h1, h2 => simp at h1 h2; subst h1 h2; exact .int _ _
    | 5, h1, h2 => simp at h1 h2; subst h1 h2; exact .int _ _
    | i + 6, h1, _ => simp at h1
  · rintro v v' ρ1 k1 w rfl hv hO
    cases hv
    exact ⟨rfl, hO.size, hO.heap, hO.os, hO.output, hO.tape⟩
end Go.Proofs.Yticdjkkcfdbdcaa
