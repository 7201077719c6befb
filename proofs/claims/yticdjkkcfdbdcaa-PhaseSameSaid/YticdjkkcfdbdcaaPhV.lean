/- The walk of the reference's Phases. No conditions but that what is read is there. -/
import Derived.Test.YticdjkkcfdbdcaaPhN
import Derived.Test.YticdjkkcfdbdcaaPhF
import Derived.Test.YticdjkkcfdbdcaaPhVd
import Derived.Deep.DeepCutAuto
import Derived.Deep.CutBlock
import Derived.Deep.CutRange
namespace Go.Proofs.Yticdjkkcfdbdcaa
open Go.ChangeShapes Go.WideShapes Go.ChangeAt Go.RowKit
def RefPost (w : World) (D : List DosR) (e : Ending) (w' : World) : Prop := ∃ (k : Nat) (ps : List ProcR) (g c : Nat), Phs (startP D) k ps ∧ e = .returned (.tuple #[.slice (some ⟨g, 0, none⟩) D.length c, .int .i64 k, .int .i64 0]) ∧ Blk w' g 2 (ints (ps.map (·.num))) ∧ RowKit.Below w.heap.size w w'
set_option maxRecDepth 100000 in
set_option maxHeartbeats 4000000 in
theorem phases_any (w : World) (B : Nat) (A : Option Addr) (c n : Nat) (wk : Int) (D : List DosR) (hR : RdAll w B A D) (hB : B ≤ w.heap.size) (hn : D.length = n) (hc : dosCode D = 0) (hw : wkOk wk) (h200 : n ≤ 200) :
    Calls Try.prog 16 #[.slice A n c, .int .i64 wk] w (RefPost w D) := by
  have hwk : decide (wkOk wk) = true := decide_eq_true hw
  obtain ⟨z1, z2, z3⟩ := dosCode_zero hc
  have Hds := Lib.hid (And.intro z1 z2)
  have Hok := Lib.hid z3
  clear z1 z2 z3
  have hd : ∀ W, RowKit.Below w.heap.size w W → Calls Try.prog 19 #[.slice A n c] W fun e w' => e = .returned (.int .i64 (dosCode D)) ∧ RowKit.Below W.heap.size W w' := fun W hb => dos_any W B A c n D (hR.below (hb.mono hB)) (Nat.le_trans hB hb.size) hn
  rw [hc] at hd
  have HD := Lib.hid hd; clear hd
  have Hwk := Lib.hid hwk; clear hwk
  have Hn := Lib.hid hn; clear hn
  have HR := Lib.hid hR; clear hR
  have hm1 := fun W => make_i64 n h200 W
  have hm2 := fun W => make_int n h200 W
  clear hc hw
  go_enter Try.func16, Try.ntmps16
  go_wp2_with (first | (go_at_call 19; refine (HD.out _ (RowKit.Below.refl _ _)).mono ?_; rintro e w2 ⟨rfl, hb2⟩; have hb3 := Lib.hid hb2; clear hb2) | (go_at_call 46; refine (workers_b _ true _ Hwk.out).mono ?_; rintro e w2 ⟨rfl, rfl⟩))
  have h0 := rf_start (A := A) (D := D) (HR.out.below ((hb3.out.mono hB))) (Nat.le_trans hB hb3.out.size)
  rw [Hn.out] at h0
  have hs0 := RS.start Hds.out.1 Hds.out.2
  have hr0 := RM.start D
  rw [Hn.out] at hr0
  have H0 := Lib.hid (And.intro h0 (And.intro hs0 hr0)); clear h0 hs0 hr0 hm1 hm2
  go_loopg [11, 12, 13] 200002 (fun gk mv ph mo wr => ∃ (p : Nat) (more : Bool), gk + p = 200002 ∧ ph = .int .i64 p ∧ mo = .bool more ∧ RInv w2 B A D w2.heap.size p more mv wr)
  case atStart => exact ⟨0, true, rfl, rfl, rfl, .inl ⟨rfl, _, _, _, _, _, H0.out.2.1, H0.out.2.2, H0.out.1⟩⟩
  case round =>
    clear H0
    obtain ⟨p, more, hgp, rfl, rfl, hI⟩ := hrel
    rcases hI with ⟨rfl, ps, ms, nums, ats, fol, hS, hM, hF⟩ | ⟨rfl, hp1, hp2, ps, nums, ats, fol, ms, hph, hnu, hF⟩
    · have H1 := Lib.hid (And.intro hS (And.intro hM hF)); clear hS hM hF
      go_wp2
      obtain ⟨gO, rfl⟩ : ∃ gO : Nat, gO = gk := ⟨_, rfl⟩
      obtain ⟨wO, rfl⟩ : ∃ wO : World, wO = wr := ⟨_, rfl⟩
      go_loopg [11, 13, 14] n (fun gk mv mo i wr => ∃ (k : Nat) (nums ats fol : List Int), gk + k = n ∧ i = .int .i64 k ∧ mo = .bool (busyTo ps k) ∧ RM D p ms (curI ps k) nums ats fol ∧ RfSt w2 wr B A D w2.heap.size nums ats fol mv (ms ++ mailsOf p (ltrI ps k)))
      case atStart => exact ⟨0, nums, ats, fol, by omega, rfl, rfl, by rw [curI_zero]; exact H1.out.2.1, by rw [ltrI_zero]; simpa [mailsOf] using H1.out.2.2⟩
      case round =>
        have HS := Lib.hid H1.out.1
        clear H1 nums ats fol
        obtain ⟨k, nums, ats, fol, hgk, rfl, rfl, hM, hF⟩ := hrel
        obtain ⟨go, rfl⟩ : ∃ go : Nat, go = gk := ⟨_, rfl⟩
        by_cases hk : k < n
        · have hkD : k < D.length := by have := Hn.out; omega
          have hpl : ps.length = D.length := by have := hM.len; rw [curI_length] at this; exact this
          have hkp : k < ps.length := by omega
          obtain ⟨a, f, hW⟩ := WhileI.start hM hkD HS.out.ns hpl
          obtain ⟨ob, oo, rfl, hob, c0⟩ := hF.rd.at_ hkD
          have hca : wr.cell? ⟨w2.heap.size + 1, k, none⟩ = some (.int .i64 a) := by
            rw [hF.b1.cell]; simp [ints, hW.ha]
          have hbs := busyTo_succ hkp
          have hbe : (!ps[k].todo.isEmpty) = decide ((a : Int) < (D[k].ds.length : Int)) := by
            rw [hW.ht, dec_castD]
            by_cases e : a < D[k].ds.length
            · rw [decide_eq_true e]; simp [List.isEmpty_iff, List.drop_eq_nil_iff]; omega
            · rw [decide_eq_false e]; simp [List.isEmpty_iff, List.drop_eq_nil_iff]; omega
          rw [hbe] at hbs
          have H2 := Lib.hid (And.intro hbs (And.intro hW hF)); clear hbs hbe hM hW hF
          generalize hjd : D[k].ds.length = jl at c0
          have Hjl := Lib.hid hjd; clear hjd
          generalize busyTo ps k = bt at *
          go_upto_block 4 with (fail)
          go_cut [13] (fun s13 wc => s13 = .bool (busyTo ps (k + 1)) ∧ ∃ m : Nat, wc = wr.drewN m)
          case first => as_aux_lemma =>
            -- [[
            have hb := H2.out.1
            rw [Hjl.out] at hb
            have Hb := Lib.hid hb; clear hb
            cases bt with
            | true =>
              go_quiet (fail)
              go_wp2
              go_meet
              case rel => exact ⟨by rw [Hb.out]; rfl, _, rfl⟩
            | false =>
              by_cases hlt : (a : Int) < (jl : Int)
              · go_quiet (fail)
                go_wp2
                go_meet
                case rel => exact ⟨by rw [Hb.out, decide_eq_true hlt]; rfl, _, rfl⟩
              · go_quiet (fail)
                go_wp2
                go_meet
                case rel => exact ⟨by rw [Hb.out, decide_eq_false (by omega)]; rfl, _, rfl⟩
            -- ]]
          case rest =>
            obtain ⟨rfl, m, rfl⟩ := hcut
            have HF := Lib.hid (H2.out.2.2.drewN m)
            have HW := Lib.hid H2.out.2.1
            generalize wr.drewN m = w4 at HF ⊢
            clear H2 hca c0
            obtain ⟨bt2, hbt2⟩ : ∃ bt2, busyTo ps (k + 1) = bt2 := ⟨_, rfl⟩
            rw [hbt2]
            have Hbt2 := Lib.hid hbt2; clear hbt2
            obtain ⟨x, hx⟩ : ∃ x, ps[k] = x := ⟨_, rfl⟩
            rw [hx] at HW
            have Hx := Lib.hid hx; clear hx
            go_wp2
            have hxs : x.sends = [] := HS.out.ns x (by rw [← Hx.out]; exact List.getElem_mem hkp)
            have Hxs := Lib.hid hxs; clear hxs
            go_loopg [11] (jl - a) (fun gk mv wr => ∃ (q : ProcR) (a f : Nat) (nums ats fol : List Int), gk + a = jl ∧ WhileI D p k ps ms x q a f nums ats fol ∧ RfSt w2 wr B (some ⟨ob, oo, none⟩) D w2.heap.size nums ats fol mv (ms ++ mailsOf p (ltrI ps k ++ q.sends)))
            case atStart =>
              have hal := HW.out.hal
              rw [Hjl.out] at hal
              exact ⟨x, a, f, nums, ats, fol, by omega, HW.out, by rw [Hxs.out, List.append_nil]; exact HF.out⟩
            case round =>
              clear HW HF w4 nums ats fol a f
              obtain ⟨q, a, f, nums, ats, fol, hga, hW, hF⟩ := hrel
              have hal : a ≤ jl := by have := hW.hal; rw [Hjl.out] at this; exact this
              have hca : wr.cell? ⟨w2.heap.size + 1, k, none⟩ = some (.int .i64 a) := by
                rw [hF.b1.cell]; simp [ints, hW.ha]
              obtain ⟨ob', oo', e, _, c0⟩ := hF.rd.at_ hkD
              cases e
              rw [Hjl.out] at c0
              by_cases ha : a < jl
              · have haD : a < D[k].ds.length := by rw [Hjl.out]; exact ha
                obtain ⟨db, dO, hdA, hdB, d0, d1, d2⟩ := (hF.rd.each k hkD).at_ haD
                have hz0 := hF.bound
                have hz1 := hF.low
                have hz2 : w2.heap.size + 1 < wr.heap.size := by omega
                have hz3 : w2.heap.size < wr.heap.size := by omega
                have hz4 : ob < wr.heap.size := by omega
                have hz5 : db < wr.heap.size := by omega
                clear hz0 hz1
                rw [hdA] at c0
                have hok := Hok.out _ (List.getElem_mem hkD) _ (List.getElem_mem haD)
                obtain ⟨d, hd⟩ : ∃ d, D[k].ds[a] = d := ⟨_, rfl⟩
                rw [hd] at d0 d1 d2 hok
                obtain ⟨kd, dst, nn⟩ := d
                dsimp only at d0 d1 d2
                have hfa := hF.b1.frozen k
                have Hd := Lib.hid (And.intro hd hok); clear hd hok hdA
                have H3 := Lib.hid (And.intro hW hF); clear hW hF
                generalize D[k].c = dc at c0
                go_wp2
                go_quiet (fail)
                go_wp2
                have hms : (ms ++ mailsOf p (ltrI ps k ++ q.sends)).length < 200000 := by
                  have h1 := H3.out.1.room' haD
                  have h2 := ltrI_room hkp
                  have h3 := HS.out.b1
                  rw [Hx.out] at h2
                  simp only [List.length_append, mailsOf_length]
                  omega
                have Hms := Lib.hid hms; clear hms
                refine r20_wp (by kernel_rfl) rfl rfl rfl rfl (H3.out.2.drewN _) (Nat.le_refl _) hk ha ⟨c0, hca, d0, d1, d2, hz4, hz2, hz5⟩ fun v1 nd w5 h5 h6 hv1 => ?_
                subst hv1
                clear c0 hca d0 d1 d2 hfa hz2 hz3 hz4 hz5 hdB
                rw [show List.range 11 = [0, 1, 2, 3, 4, 5, 6, 7, 8, 9, 10] from rfl]
                simp only [putsV, V20, VE, List.findIdx?_cons, List.findIdx?_nil, List.getElem?_toArray, List.getElem?_cons_succ, List.getElem?_cons_zero, Option.bind_some]
                have hca : w5.cell? ⟨w2.heap.size + 1, k, none⟩ = some (.int .i64 a) := by
                  rw [h5.b1.cell]; simp [ints, H3.out.1.ha]
                have hfa := h5.b1.frozen k
                have hcn : w5.cell? ⟨w2.heap.size, k, none⟩ = some (.int .i64 q.num) := by
                  rw [h5.b0.cell]; simp [ints, H3.out.1.hn]
                have hfn := h5.b0.frozen k
                have hnd1 : ¬ nd = w2.heap.size + 1 := fun e => by
                  have := h5.b1
                  unfold Blk at this
                  rw [← e, h6] at this
                  injection this with this
                  injection this with _ ht _
                  exact absurd ht (by decide)
                have hnd0 : ¬ nd = w2.heap.size := fun e => by
                  have := h5.b0
                  unfold Blk at this
                  rw [← e, h6] at this
                  injection this with this
                  injection this with _ ht _
                  exact absurd ht (by decide)
                have e0 : w5.cell? ⟨nd, 0, none⟩ = some (.int .i64 kd) := by simp [World.cell?, h6]
                have e1 : w5.cell? ⟨nd, 1, none⟩ = some (.int .i64 dst) := by simp [World.cell?, h6]
                have e2 : w5.cell? ⟨nd, 2, none⟩ = some (.int .i64 nn) := by simp [World.cell?, h6]
                have hjl : jl ≤ 1000 := by rw [← Hjl.out]; exact Hds.out.2 _ (List.getElem_mem hkD)
                have h7 := h5.setAt k ((a : Int) + 1)
                have h8 : (w5.setCell ⟨w2.heap.size + 1, k, none⟩ (.int .i64 ((a : Int) + 1))).heap[nd]? = some (.cells #[.int .i64 kd, .int .i64 dst, .int .i64 nn] 31 (0, 0)) := (Below.heap_setCell _ ⟨w2.heap.size + 1, k, none⟩ _ nd hnd1).trans h6
                have H7 := Lib.hid (And.intro h7 h8); clear h7 h8 h5 h6
                go_simp
                have hkc : kd = 1 ∨ kd = 2 ∨ kd = 3 ∨ kd = 4 := by have := Hd.out.2; unfold okDo at this; simp only at this; omega
                have Hca : Hid (((a + 1 : Nat) : Int) = (a : Int) + 1) := Lib.hid (by omega)
                rcases hkc with rfl | rfl | rfl | rfl
                · have hW2 := H3.out.1.add haD (by rw [Hd.out.1])
                  rw [Hd.out.1, Hca.out] at hW2
                  have HW2 := Lib.hid hW2; clear hW2
                  go_wp2
                  go_region
                  all_goals go_wp2
                  go_roundg (gk - 1)
                  case measure => omega
                  case rel => exact ⟨_, a + 1, f, _, _, _, by omega, HW2.out, (H7.out.1.setNum k (w64 (q.num + nn))).drew⟩
                · have hW2 := H3.out.1.send haD (by rw [Hd.out.1])
                  rw [Hd.out.1, Hca.out] at hW2
                  have HW2 := Lib.hid hW2; clear hW2
                  go_wp2
                  refine r27_wp (by kernel_rfl) rfl rfl rfl rfl rfl rfl H7.out.1 (Nat.le_refl _) hk H3.out.1.hn H7.out.2 Hms.out fun v1 v2 w6 h6 => ?_
                  rw [List.append_assoc, show mailsOf p (ltrI ps k ++ q.sends) ++ [⟨p, dst, w64 (q.num + nn)⟩] = mailsOf p (ltrI ps k ++ (q.sends ++ [(dst, w64 (q.num + nn))])) by simp [mailsOf]] at h6
                  have H6 := Lib.hid h6; clear h6
                  rw [show List.range 14 = [0, 1, 2, 3, 4, 5, 6, 7, 8, 9, 10, 11, 12, 13] from rfl]
                  simp only [putsV, V27, VE, List.findIdx?_cons, List.findIdx?_nil, List.getElem?_toArray, List.getElem?_cons_succ, List.getElem?_cons_zero, Option.bind_some]
                  go_simp
                  go_wp2
                  go_roundg (gk - 1)
                  case measure => omega
                  case rel => exact ⟨_, a + 1, f, _, _, _, by omega, HW2.out, H6.out⟩
                ·
                  -- [[
                  have hW2 := H3.out.1.fold haD (by rw [Hd.out.1])
                  rw [Hca.out] at hW2
                  have HW2 := Lib.hid hW2; clear hW2
                  obtain ⟨Am, cm, hmv, _, _⟩ := own_form H7.out.1.own
                  subst hmv
                  obtain ⟨msl, hmsl⟩ : ∃ msl, ms ++ mailsOf p (ltrI ps k ++ q.sends) = msl := ⟨_, rfl⟩
                  rw [hmsl] at H7 Hms ⊢
                  have hcs : comeM k f p msl = q.come := by rw [← hmsl, come_start, H3.out.1.hc]
                  have hn0 : nums.set k q.num = nums := set_self H3.out.1.hn
                  have hst : RfSt w2 (w5.setCell ⟨w2.heap.size + 1, k, none⟩ (.int .i64 ((a : Int) + 1))) B (some ⟨ob, oo, none⟩) D w2.heap.size (nums.set k q.num) (ats.set k ((a : Int) + 1)) fol (.slice Am msl.length cm) msl := by rw [hn0]; exact H7.out.1
                  obtain ⟨ln, hln⟩ : ∃ ln, msl.length = ln := ⟨_, rfl⟩
                  rw [hln] at hst H7 Hms ⊢
                  have Hcs := Lib.hid (And.intro hcs (And.intro hmsl (And.intro hln hst))); clear hcs hmsl hln hst hn0
                  obtain ⟨gW, rfl⟩ : ∃ gW : Nat, gW = gk := ⟨_, rfl⟩
                  obtain ⟨wW, rfl⟩ : ∃ wW : World, wW = wr := ⟨_, rfl⟩
                  go_wp2
                  go_loopg [16] ln (fun gk i wr => ∃ (m : Nat) (nu : Int), gk + m = ln ∧ i = .int .i64 m ∧ foldN nu (comeM k f p (msl.drop m)) = foldN q.num q.come ∧ RfSt w2 wr B (some ⟨ob, oo, none⟩) D w2.heap.size (nums.set k nu) (ats.set k ((a : Int) + 1)) fol (.slice Am ln cm) msl)
                  case atStart => exact ⟨0, q.num, by omega, rfl, by rw [List.drop_zero, Hcs.out.1], Hcs.out.2.2.2⟩
                  case round =>
                    clear hca hfa hcn hfn e0 e1 e2
                    obtain ⟨m, nu, hgm, rfl, hfo, hF⟩ := hrel
                    have hnk : k < nums.length := (List.getElem?_eq_some_iff.1 H3.out.1.hn).1
                    have hcn : wr.cell? ⟨w2.heap.size, k, none⟩ = some (.int .i64 nu) := by
                      rw [hF.b0.cell]; simp [ints, hnk]
                    have hfn := hF.b0.frozen k
                    have hcf : wr.cell? ⟨w2.heap.size + 1 + 1, k, none⟩ = some (.int .i64 f) := by
                      have := hF.b2.cell k
                      rw [show w2.heap.size + 2 = w2.heap.size + 1 + 1 from rfl] at this
                      rw [this]; simp [ints, H3.out.1.hf]
                    have hff : wr.frozen? ⟨w2.heap.size + 1 + 1, k, none⟩ = false := hF.b2.frozen k
                    by_cases hm : m < ln
                    · have hmM : m < msl.length := by rw [Hcs.out.2.2.1]; exact hm
                      have hown := hF.own
                      rw [Hcs.out.2.2.1] at hown
                      obtain ⟨gm, cm', he, hgm1, hgm2, hcell⟩ := own_cells hown (by omega)
                      cases he
                      obtain ⟨y0, y1, y2⟩ := cellsM_at msl m hmM
                      rw [← hcell _ (by omega)] at y0 y1 y2
                      obtain ⟨y, hy⟩ : ∃ y, msl[m] = y := ⟨_, rfl⟩
                      obtain ⟨yp, yd, yn⟩ := y
                      rw [hy] at y0 y1 y2
                      dsimp only at y0 y1 y2
                      have hml : ln ≤ 200000 := by have := Hms.out; omega
                      have H9 := Lib.hid hF; have Hfo := Lib.hid hfo; have Hown := Lib.hid hown; clear hfo hF hcell hown
                      go_upto_region 32 with (fail)
                      go_cut [148] (fun s wc => s = .bool (decide (yd = k ∧ yp < p ∧ (f : Int) ≤ yp)) ∧ ∃ d : Nat, wc = wr.drewN d)
                      case first => as_aux_lemma =>
                        clear Hfo H9 Hown
                        by_cases g1 : yd = k
                        · subst g1
                          by_cases g2 : yp < p
                          · by_cases g3 : (f : Int) ≤ yp
                            · go_quiet (fail)
                              go_wp2
                              go_meet
                              case rel => exact ⟨by congr 1; exact (decide_eq_true (by first | exact ⟨trivial, g2, g3⟩ | exact ⟨rfl, g2, g3⟩)).symm, _, rfl⟩
                            · go_quiet (fail)
                              go_wp2
                              go_meet
                              case rel => exact ⟨by rw [decide_eq_false (fun h => by omega)], _, rfl⟩
                          · go_quiet (fail)
                            go_wp2
                            go_meet
                            case rel => exact ⟨by rw [decide_eq_false (fun h => by omega)], _, rfl⟩
                        · have g1b : (yd == (k : Int)) = false := by simp [g1]
                          have g1d : decide (yd = (k : Int)) = false := decide_eq_false g1
                          go_quiet (fail)
                          go_wp2
                          go_meet
                          case rel => exact ⟨by rw [decide_eq_false (fun h => by omega)], _, rfl⟩
                      case rest =>
                        obtain ⟨rfl, d, rfl⟩ := hcut
                        by_cases hhit : yd = k ∧ yp < p ∧ (f : Int) ≤ yp
                        · have h1 := fold_hit (k := k) (f := f) (p := p) hmM (by rw [hy]; exact hhit) nu
                          rw [hy, Hfo.out] at h1
                          rw [decide_eq_true hhit]
                          have H8 := Lib.hid h1; clear h1 hhit hmM hy Hfo Hown
                          go_wp2
                          refine r33_wp (by kernel_rfl) rfl rfl rfl rfl rfl (H9.out.drewN _) hk hm hcn hfn y2 fun w6 h6 => ?_
                          have H10 := Lib.hid h6; clear h6
                          rw [show List.range 14 = [0, 1, 2, 3, 4, 5, 6, 7, 8, 9, 10, 11, 12, 13] from rfl]
                          simp only [putsV, V33, List.getElem?_toArray, List.getElem?_cons_succ, List.getElem?_cons_zero, Option.bind_some]
                          go_simp
                          go_wp2
                          go_roundg (gk - 1)
                          case measure => omega
                          case rel => exact ⟨m + 1, w64 (w64 (31 * nu) + yn), by omega, by go_num, H8.out.symm, by have := H10.out; rw [List.set_set] at this; exact this⟩
                        · have h1 := fold_miss (k := k) (f := f) (p := p) hmM (by rw [hy]; exact hhit)
                          have h2 := Hfo.out
                          rw [h1] at h2
                          rw [decide_eq_false hhit]
                          have H8 := Lib.hid h2; clear h1 h2 hhit hmM hy Hfo Hown
                          go_wp2
                          go_roundg (gk - 1)
                          case measure => omega
                          case rel => exact ⟨m + 1, nu, by omega, by go_num, H8.out, H9.out.drewN _⟩
                    · have hmn : msl.drop m = [] := List.drop_eq_nil_of_le (by rw [Hcs.out.2.2.1]; omega)
                      rw [hmn] at hfo
                      have hnu : nu = foldN q.num q.come := hfo
                      have h2 := hF.setFol k p
                      rw [hnu] at h2
                      have H8 := Lib.hid h2; clear hnu hfo hmn h2 hF
                      have hmi : ¬ (m : Int) < (ln : Int) := by omega
                      go_wp2
                      go_roundg (gW - 1)
                      case measure => omega
                      case rel => exact ⟨_, a + 1, p, _, _, _, by omega, HW2.out, by rw [Hcs.out.2.1]; exact H8.out⟩
                  -- ]]
                · have hW2 := H3.out.1.sync haD (by rw [Hd.out.1])
                  rw [Hca.out] at hW2
                  have HW2 := Lib.hid hW2; clear hW2
                  go_wp2
                  go_roundg (go - 1)
                  case measure => omega
                  case rel => exact ⟨k + 1, nums, _, fol, by omega, by go_num, by rw [Hbt2.out], HW2.out.1, by rw [HW2.out.2]; exact H7.out.1⟩
              · have hfin := hW.fin (hW.over (by rw [Hjl.out]; exact ha))
                have H3 := Lib.hid (And.intro hfin hF); clear hfin hW hF
                have hae : ¬ (a : Int) < (jl : Int) := by omega
                go_wp2
                go_quiet (fail)
                go_wp2
                go_roundg (go - 1)
                case measure => omega
                case rel => exact ⟨k + 1, nums, ats, fol, by omega, by go_num, by rw [Hbt2.out], H3.out.1.1, by rw [H3.out.1.2]; exact H3.out.2.drewN _⟩
        · have hke : k = D.length := by have := Hn.out; omega
          have hp2 : p ≤ 200000 := by have := HS.out.b2; omega
          have H2 := Lib.hid (phase_end HS.out hM hke hF); clear hM hF hke
          obtain ⟨bt, hbt⟩ : ∃ bt, busyTo ps k = bt := ⟨_, rfl⟩
          rw [hbt] at H2 ⊢
          clear hbt
          have hkn : ¬ (k : Int) < (n : Int) := by omega
          go_wp2
          go_roundg (gO - 1)
          case measure => omega
          case rel => exact ⟨p + 1, bt, by omega, by go_num, rfl, H2.out⟩
    · have H1 := Lib.hid (And.intro hph (And.intro hnu hF)); clear hph hnu hF
      go_wp2
      go_ret3
      obtain ⟨q, rfl⟩ : ∃ q, p = q + 1 := ⟨p - 1, by omega⟩
      have hlen : (ints nums).length = D.length := by have := H1.out.2.2.len.1; simpa [ints] using this
      refine ⟨q, ps, w2.heap.size, n, H1.out.1, ?_, ?_, ?_⟩
      · rw [Hn.out, show ((q + 1 : Nat) : Int) - 1 = (q : Int) by omega]
        rfl
      · rw [← H1.out.2.1]; exact H1.out.2.2.b0
      · have hb := H1.out.2.2.bel
        exact ⟨hb.os.trans hb3.out.os, hb.tape.trans hb3.out.tape, hb.output.trans hb3.out.output, Nat.le_trans hb3.out.size hb.size, fun k hk => (hb.block k (Nat.lt_of_lt_of_le hk hb3.out.size)).trans (hb3.out.block k hk)⟩
end Go.Proofs.Yticdjkkcfdbdcaa
