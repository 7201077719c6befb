/- The law GraphGraham, walked: true, whatever the jobs. No conditions but that what is read is there. -/
import Derived.Test.YtnepaaheiakimaaGraphPl
import Derived.Test.YtnepaaheiakimaaGraham
namespace Go.Proofs.Ytnepaaheiakimaa
open Go.ChangeShapes Go.WideShapes Go.ChangeAt Go.RowKit

theorem jobs_of_asked {J : List JobR} {wk : Int} (h : askedCode J wk = 0) : jobsCode J = 0 := by
  unfold askedCode at h
  split at h
  · rename_i h1; exact absurd h h1
  · rename_i h1; exact Classical.byContradiction h1
set_option maxRecDepth 100000 in
set_option maxHeartbeats 4000000 in
theorem graham_law (w : World) (A : Option Addr) (c n : Nat) (wk : Int) (J : List JobR) (hR : RdJobs w w.heap.size A J) (hn : J.length = n) :
    Calls Try.prog 5 #[.slice A n c, .int .i64 wk] w fun e w' => e = .returned (.bool true) ∧ Below w.heap.size w w' := by
  have HR := Lib.hid hR; clear hR
  have Hn := Lib.hid hn; clear hn
  by_cases h0 : askedCode J wk = 0
  · obtain ⟨hg, hw1, hw2⟩ := asked_zero h0
    have hjc := jobs_of_asked h0
    obtain ⟨W, rfl⟩ : ∃ W : Nat, wk = W := ⟨wk.toNat, by omega⟩
    obtain ⟨E, hE⟩ := exists_end hg.len hg.inR hg.can
    have hfew : n ≤ 200 := Hn.out ▸ hg.few
    have hwb := workTo_bound hg.len n (by rw [Hn.out]; exact Nat.le_refl _)
    have hsb := spanTo_bound hE n (by rw [Hn.out]; exact Nat.le_refl _)
    rw [Hn.out] at hsb
    have HG := Lib.hid (And.intro h0 (And.intro hjc (And.intro hg hE)))
    clear h0 hjc hg hE
    generalize hWK : workTo J n = WK at *
    generalize hSP : spanTo E n = SP at *
    have HWS := Lib.hid (And.intro hWK hSP); clear hWK hSP
    go_enter Try.func5, Try.ntmps5
    go_wp2_with (first
      | (go_at_call 8; (
         refine (plan_any w w.heap.size A c n W J HR.out (Nat.le_refl _) Hn.out).mono ?_
         rintro e w1 ⟨hb1, hp⟩
         obtain ⟨-, g, T, hall, hgz, rfl, hblk⟩ := hp.resolve_left fun x => x.1 HG.out.1
         rw [Int.toNat_natCast] at hall hblk ⊢
         have hgr := graham (fun i hi => (HG.out.2.2.1.len i hi).1) HG.out.2.2.1.inR HG.out.2.2.1.can (by omega) HG.out.2.2.2 hall
         generalize Rn J W T = S at *
         rw [Hn.out] at hblk ⊢
         have hfin0 := hgr.fin0
         have hg1 := hgr.span
         have hg2 := hgr.work
         have hg3 := hgr.grah
         rw [Hn.out, HWS.out.1] at hg2
         rw [Hn.out, HWS.out.2] at hg1
         rw [Hn.out, HWS.out.1, HWS.out.2] at hg3
         have hfw : S.fin ≤ S.fin * W := by have := Int.mul_le_mul_of_nonneg_left (show (1 : Int) ≤ W by omega) hfin0; omega
         have hws : ((W : Int) - 1) * SP ≤ 15 * SP := Int.mul_le_mul_of_nonneg_right (by omega) hsb.1
         have hws0 : 0 ≤ ((W : Int) - 1) * SP := Int.mul_nonneg (by omega) hsb.1
         have hw1z := hb1.size
         have H1 := Lib.hid (And.intro hb1 (And.intro hblk hgr)); clear hb1 hblk hgr hp hall))
      | (go_at_call 10; (
         refine (span_any w1 w.heap.size A c n J (HR.out.below H1.out.1) hw1z Hn.out).mono ?_
         rintro e w2 ⟨a, b, rfl, hlo2, -, h3⟩
         rw [HG.out.2.1]
         obtain ⟨rfl, hb⟩ := h3 HG.out.2.1
         obtain rfl := hb E HG.out.2.2.2
         rw [Hn.out, HWS.out.1, HWS.out.2]
         have hlo2' := H1.out.1.trans (hlo2.mono hw1z)
         have hblk2 := H1.out.2.1.below hlo2 H1.out.2.1.lt
         have H2 := Lib.hid (And.intro hlo2' hblk2); clear hlo2 hlo2' hblk2 h3 hb))
      | fail)
    all_goals first | (exfalso; omega) | skip
    have hwk : S.fin ≤ 4000000 := by omega
    have HF := Lib.hid (And.intro hg1 (And.intro hg2 (And.intro hg3 (And.intro hfw (And.intro hws hws0)))))
    clear hg1 hg2 hg3 hfw hws hws0
    have hfin1 := hfin0
    go_loopg [10, 73] n (fun gk last i wr => ∃ k : Nat, gk + k = n ∧ i = .int .i64 k ∧ last = .int .i64 (spanTo (endOf J S) k) ∧ Below w.heap.size w wr ∧ Blk wr g 33 (ints (fnI (n * 2) (slotF S))))
    case atStart => exact ⟨0, by omega, rfl, rfl, H2.out.1, H2.out.2⟩
    case round =>
      obtain ⟨k, hgk, rfl, rfl, hb, hblk⟩ := hrel
      by_cases hk : k < n
      · have hkJ : k < J.length := by have := Hn.out; omega
        have hRr := HR.out.below hb
        obtain ⟨jb, jo, rfl, hjb, c0, -, c2, -⟩ := hRr.at_ hkJ
        rw [← lenOf_eq hkJ] at c0
        obtain ⟨j, hj⟩ : ∃ j, J[k] = j := ⟨_, rfl⟩
        rw [hj] at c2
        obtain ⟨jl, ju, jn, sA, sc, af⟩ := j
        dsimp only at c2
        have haft : aft J k = af := by rw [aft_eq hkJ, hj]
        have hsh := HG.out.2.2.1.short k hkJ
        rw [hj] at hsh
        dsimp only at hsh
        have ca0 : wr.cell? ⟨g, k * 2, none⟩ = some (.int .i64 (S.beg k)) := by rw [hblk.cell, cellI (by omega), slotF_even]
        have ca1 : wr.cell? ⟨g, k * 2 + 1, none⟩ = some (.int .i64 (S.wkr k)) := by rw [hblk.cell, cellI (by omega), slotF_odd]
        have hlo := H1.out.2.2.lo k hkJ
        have hle := H1.out.2.2.le k hkJ
        have he : endOf J S k = S.beg k + lenOf J k := rfl
        have hll := HG.out.2.2.1.len k hkJ
        have hsp0 := spanTo_pos (endOf J S) k
        have hsp1 : spanTo (endOf J S) k ≤ S.fin := spanTo_le hfin1 fun i hi => H1.out.2.2.le i (by have := Hn.out; omega)
        have hspn : spanTo (endOf J S) (k + 1) = max (spanTo (endOf J S) k) (S.beg k + lenOf J k) := rfl
        rw [he] at hle
        have Hj := Lib.hid (And.intro hj (And.intro haft (And.intro hspn he))); clear hj haft hspn he
        have HB := Lib.hid (And.intro hb hblk)
        clear hb hblk hRr
        generalize spanTo (endOf J S) k = LK at *
        go_wp2
        go_quiet (fail)
        go_wp2
        all_goals
          clear c0 c2 ca0 ca1
          obtain ⟨wo, rfl⟩ : ∃ wo : World, wo = wr := ⟨_, rfl⟩
          obtain ⟨go, rfl⟩ : ∃ go : Nat, go = gk := ⟨_, rfl⟩
          go_loopg [119] af.length (fun gk i wr => ∃ q : Nat, gk + q = af.length ∧ i = .int .i64 q ∧ Below w.heap.size w wr ∧ Blk wr g 33 (ints (fnI (n * 2) (slotF S))))
          case atStart => exact ⟨0, by omega, rfl, below_drewN HB.out.1 _, HB.out.2⟩
          case round =>
            obtain ⟨q, hgq, rfl, hb, hblk⟩ := hrel
            have hRr := HR.out.below hb
            by_cases hq : q < af.length
            · obtain ⟨b2, o2, e2, -, d0, -, c2, -⟩ := hRr.at_ hkJ
              injection e2 with e2
              injection e2 with e3 e4
              subst e3 e4
              rw [Hj.out.1] at c2
              dsimp only at c2
              have hrd := hRr.after k hkJ
              rw [Hj.out.1] at hrd
              dsimp only at hrd
              obtain ⟨ab, ao, rfl, _, ca⟩ := hrd.atMap hq
              have hma : af[q] ∈ aft J k := by rw [Hj.out.2.1]; exact List.getElem_mem hq
              have hin := HG.out.2.2.1.inR k _ hma
              have hpr := H1.out.2.2.prec k hkJ _ hma
              generalize af[q] = x at *
              simp only [okIn] at hin
              obtain ⟨x, rfl⟩ := Int.eq_ofNat_of_zero_le hin.1
              rw [Int.toNat_natCast] at hpr
              have hxJ : x < J.length := by omega
              have hxn : x < n := by have := Hn.out; omega
              obtain ⟨b2, o2, e2, -, d0, -, -, -⟩ := hRr.at_ hxJ
              injection e2 with e2
              injection e2 with e3 e4
              subst e3 e4
              rw [← lenOf_eq hxJ] at d0
              have cx0 : wr.cell? ⟨g, x * 2, none⟩ = some (.int .i64 (S.beg x)) := by rw [hblk.cell, cellI (by omega), slotF_even]
              have ck0 : wr.cell? ⟨g, k * 2, none⟩ = some (.int .i64 (S.beg k)) := by rw [hblk.cell, cellI (by omega), slotF_even]
              have hxl := HG.out.2.2.1.len x hxJ
              have hxlo := (H1.out.2.2.lo x hxJ).1
              have hxe : S.beg x + lenOf J x ≤ S.beg k := hpr
              have HB2 := Lib.hid (And.intro hb hblk)
              clear hb hblk hRr hrd hma hin hpr
              go_wp2
              go_quiet (fail)
              go_wp2
              go_roundg (gk - 1)
              case measure => omega
              case rel => exact ⟨q + 1, by omega, by go_num, below_drewN HB2.out.1 _, HB2.out.2⟩
            · have HB2 := Lib.hid (And.intro hb hblk)
              clear hb hblk hRr
              go_wp2
              obtain ⟨wo2, rfl⟩ : ∃ wo : World, wo = wr := ⟨_, rfl⟩
              obtain ⟨go2, rfl⟩ : ∃ go : Nat, go = gk := ⟨_, rfl⟩
              go_loopg [149] k (fun gk i wr => ∃ q : Nat, gk + q = k ∧ i = .int .i64 q ∧ Below w.heap.size w wr ∧ Blk wr g 33 (ints (fnI (n * 2) (slotF S))))
              case atStart => exact ⟨0, by omega, rfl, HB2.out.1, HB2.out.2⟩
              case round =>
                obtain ⟨q, hgq, rfl, hb, hblk⟩ := hrel
                by_cases hq : q < k
                · have hRr := HR.out.below hb
                  have hqJ : q < J.length := by omega
                  obtain ⟨b2, o2, e2, -, d0, -, -, -⟩ := hRr.at_ hqJ
                  injection e2 with e2
                  injection e2 with e3 e4
                  subst e3 e4
                  rw [← lenOf_eq hqJ] at d0
                  have cq0 : wr.cell? ⟨g, q * 2, none⟩ = some (.int .i64 (S.beg q)) := by rw [hblk.cell, cellI (by omega), slotF_even]
                  have cq1 : wr.cell? ⟨g, q * 2 + 1, none⟩ = some (.int .i64 (S.wkr q)) := by rw [hblk.cell, cellI (by omega), slotF_odd]
                  have ck0 : wr.cell? ⟨g, k * 2, none⟩ = some (.int .i64 (S.beg k)) := by rw [hblk.cell, cellI (by omega), slotF_even]
                  have ck1 : wr.cell? ⟨g, k * 2 + 1, none⟩ = some (.int .i64 (S.wkr k)) := by rw [hblk.cell, cellI (by omega), slotF_odd]
                  have hql := HG.out.2.2.1.len q hqJ
                  have hqlo := (H1.out.2.2.lo q hqJ).1
                  have hqle : S.beg q + lenOf J q ≤ S.fin := H1.out.2.2.le q hqJ
                  have hap := H1.out.2.2.apart q k hqJ hkJ (by omega)
                  have HB3 := Lib.hid (And.intro hb hblk)
                  clear hb hblk hRr
                  by_cases hwk2 : S.wkr q = S.wkr k
                  · have hap2 : S.beg q + lenOf J q ≤ S.beg k ∨ S.beg k + lenOf J k ≤ S.beg q := hap hwk2
                    rw [hwk2] at cq1
                    clear hap hwk2
                    by_cases h1 : S.beg q < S.beg k + lenOf J k
                    · have h2 : ¬ S.beg k < S.beg q + lenOf J q := by omega
                      clear hap2
                      go_wp2
                      go_quiet (fail)
                      go_wp2
                      go_roundg (gk - 1)
                      case measure => omega
                      case rel => exact ⟨q + 1, by omega, by go_num, below_drewN HB3.out.1 _, HB3.out.2⟩
                    · have h1d : decide (S.beg q < S.beg k + lenOf J k) = false := decide_eq_false h1
                      have h1e : S.beg k + lenOf J k ≤ S.beg q := by omega
                      clear hap2
                      go_wp2
                      go_quiet (fail)
                      go_wp2
                      go_roundg (gk - 1)
                      case measure => omega
                      case rel => exact ⟨q + 1, by omega, by go_num, below_drewN HB3.out.1 _, HB3.out.2⟩
                  · have hwk3 : (S.wkr q == S.wkr k) = false := beq_eq_false_iff_ne.2 hwk2
                    clear hap
                    go_wp2
                    go_quiet (fail)
                    go_wp2
                    go_roundg (gk - 1)
                    case measure => omega
                    case rel => exact ⟨q + 1, by omega, by go_num, below_drewN HB3.out.1 _, HB3.out.2⟩
                · have HB3 := Lib.hid (And.intro hb hblk)
                  clear hb hblk
                  go_wp2
                  go_roundg (go - 1)
                  case measure => omega
                  case rel =>
                    refine ⟨k + 1, by omega, by go_num, ?_, HB3.out.1, HB3.out.2⟩
                    rw [Hj.out.2.2.1]
                    congr 1
                    omega
      · have hkn : k = J.length := by have := Hn.out; omega
        have hlast : spanTo (endOf J S) k = S.fin := by rw [hkn]; exact H1.out.2.2.last
        rw [hlast]
        have HB := Lib.hid hb
        clear hb hblk hkn hlast
        go_wp2
        go_ret
        exact ⟨rfl, HB.out⟩
  · obtain ⟨ac, hac⟩ : ∃ ac, askedCode J wk = ac := ⟨_, rfl⟩
    rw [hac] at h0
    have Hac := Lib.hid hac; clear hac
    have h0' : (ac == 0) = false := beq_eq_false_iff_ne.2 h0
    have h1' : (ac != 0) = true := bne_iff_ne.2 h0
    go_enter Try.func5, Try.ntmps5
    go_wp2_with (first
      | (go_at_call 8; (
         refine (plan_any w w.heap.size A c n wk J HR.out (Nat.le_refl _) Hn.out).mono ?_
         rintro e w1 ⟨hb1, hp⟩
         obtain ⟨-, rfl⟩ := hp.resolve_right fun x => h0 (Hac.out.symm.trans x.1)
         rw [Hac.out]
         have H1 := Lib.hid hb1; clear hb1 hp))
      | fail)
    go_ret
    exact ⟨rfl, H1.out⟩
end Go.Proofs.Ytnepaaheiakimaa
