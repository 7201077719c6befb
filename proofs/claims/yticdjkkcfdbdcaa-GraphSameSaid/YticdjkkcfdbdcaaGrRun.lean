/- graph.Run in company, told of the lone world. No conditions but those named. -/
import Derived.Test.YticdjkkcfdbdcaaGrSt
import Derived.Test.YticdjkkcfdbdcaaGrRs
import Derived.Deep.DeepCutAuto
import Derived.Deep.LoopGhost
import Derived.BigQuiet
import Derived.BigRegion
import Derived.Deep.QuietTactic
import Derived.StillTailTactics
import Derived.WalkSmall
namespace Go.Proofs.Yticdjkkcfdbdcaa
open Go.Conc Go.ConcN Go.RowKit Go.ChangeShapes Go.WideShapes Go.ChangeAt
section
variable {Post : Value → World → Prop} {n0 : Nat} {W0 : World}
set_option maxRecDepth 100000 in
set_option maxHeartbeats 2000000 in
theorem run_m {A : Option Addr} {B c n : Nat} {J : List JobR} {wk : Int} {L : World} (hR : RdJobs L B A J) (hB : B ≤ L.heap.size) (hn : J.length = n) :
    MCalls (InV grL grV) Try.prog (fun k g w => Win Try.prog Post n0 W0 k g w) 20 #[.slice A n c, .int .i64 wk] false (RunPG J wk L) L := by
  have hJ : JOk Try.prog true _ (fun k g w => Win Try.prog Post n0 W0 k g w) := win_jok (P := Try.prog) (Post := Post) (n0 := n0) (W0 := W0)
  refine MCalls.body hJ Try.func20 (c := _) rfl (fun i r hr => ?_) ?_
  · obtain ⟨fn, h1, h2⟩ := res_20
    cases Option.some.inj (h1.symm.trans Try.func20)
    exact h2 i r hr
  simp only [Try.ntmps20, List.size_toArray, List.length_cons, List.length_nil, Nat.reduceAdd, Nat.reduceSub, Array.replicate_succ, Array.replicate_zero, List.push_toArray, List.append_toArray, List.nil_append, List.cons_append]
  have Hn := Lib.hid hn; clear hn
  have HR := Lib.hid (And.intro hR hB); clear hR hB
  refine Mp.piece' hJ gr_ok res_20 (by kernel_rfl) (fun L' => Hid (L'.heap = L.heap)) (fun L' e => Lib.hid e) fun LT Hs0 => ?_
  go_wp2
  refine MpPost.normal ?_
  have h1 : Blk (LT.alloc (.cells #[.slice A n c] 34)) LT.heap.size 34 [.slice A n c] ∧ KpG L.heap.size L (LT.alloc (.cells #[.slice A n c] 34)) ∧ (LT.alloc (.cells #[.slice A n c] 34)).heap.size = L.heap.size + 1 := ⟨Blk.new _ _ _, ((KpG.refl L).same Hs0.out).keep (by simp) fun b hb => Below.heap_alloc _ _ b (by rw [Hs0.out]; exact hb), by simp [Hs0.out]⟩
  generalize LT.alloc (.cells #[.slice A n c] 34) = L1 at h1 ⊢
  rw [show LT.heap.size = L.heap.size by rw [Hs0.out]] at h1 ⊢
  clear Hs0 LT
  have h2 : ∀ L' : World, L'.heap = L1.heap → Hid (Blk L' L.heap.size 34 [.slice A n c] ∧ KpG L.heap.size L L' ∧ L'.heap.size = L.heap.size + 1) := fun L' e => Lib.hid ⟨blk_same h1.1 e, h1.2.1.same e, by rw [e]; exact h1.2.2⟩
  clear h1
  refine Mp.piece' hJ gr_ok res_20 (by kernel_rfl) (fun L' => Hid (Blk L' L.heap.size 34 [.slice A n c] ∧ KpG L.heap.size L L' ∧ L'.heap.size = L.heap.size + 1)) h2 fun L2 H2 => ?_
  clear h2 L1
  have hck : Calls Try.prog 55 #[.slice A n c, .int .i64 wk] L2 fun e w' => e = .returned (.int .i64 (askedCode J wk)) ∧ RowKit.Below L2.heap.size L2 w' :=
    checkw_any L2 B A c n wk J (HR.out.1.keep fun p hp => World.cell?_of_block (H2.out.2.1.at_ _ (Nat.lt_of_lt_of_le hp HR.out.2))) (Nat.le_trans HR.out.2 (by rw [H2.out.2.2]; omega)) Hn.out
  have Hck := Lib.hid hck; clear hck
  obtain ⟨code, hcode⟩ : ∃ code, askedCode J wk = code := ⟨_, rfl⟩
  rw [hcode] at Hck
  have Hcode := Lib.hid hcode; clear hcode
  have hcb := H2.out.1.cell 0
  simp only [List.getElem?_cons_zero] at hcb
  have hz0 : L.heap.size < L2.heap.size := by rw [H2.out.2.2]; omega
  by_cases hc0 : code = 0
  case neg =>
    have hce : (code == 0) = false := by simpa using hc0
    go_wp2_with (first | (go_at_call 55; refine (Hck.out).mono ?_; rintro e w3 ⟨rfl, hb3⟩; have Hb3 := Lib.hid hb3; clear hb3))
    refine MpPost.ret ⟨.inr rfl, fun _ => ?_, fun h => absurd (Hcode.out.symm.trans h) hc0, ?_⟩
    · rw [pack_twoG results_20, Hcode.out]
      rfl
    · exact H2.out.2.1.keep Hb3.out.size fun b hb => Hb3.out.block b (by omega)
  subst hc0
  go_wp2_with (first | (go_at_call 55; refine (Hck.out).mono ?_; rintro e w3 ⟨rfl, hb3⟩; have Hb3 := Lib.hid hb3; clear hb3))
  refine MpPost.normal ?_
  have hjc : jobsCode J = 0 := Classical.byContradiction fun h => h ((askedCode_bad (n := wk) h).symm.trans Hcode.out)
  have hgood := good_of_zero hjc
  have hwk : workersOk wk := by
    have := Hcode.out
    unfold askedCode at this
    rw [if_neg (by rw [hjc]; simp)] at this
    exact Classical.byContradiction fun h => by rw [if_neg h] at this; cases this
  have hn2 : n ≤ 200 := Hn.out ▸ hgood.few
  have Hgood := Lib.hid (And.intro hgood hwk); clear hgood hwk hjc
  have hlay : LayG L w3 w3.heap.size L.heap.size A c n [] := ⟨(Hb3.out.block _ hz0).trans H2.out.1, fun i o h => by simp at h, by simp, H2.out.2.1.keep Hb3.out.size fun b hb => Hb3.out.block b (by omega), Nat.le_refl _, by have := Hb3.out.size; omega⟩
  clear Hb3 H2 Hck hcb hz0 L2
  generalize w3.heap.size = g at hlay
  have h4 : ∀ L' : World, L'.heap = w3.heap → Hid (LayG L L' g L.heap.size A c n []) := fun L' e => Lib.hid (hlay.same e)
  clear hlay
  -- the numbers
  refine Mp.piece' hJ gr_ok res_20 (by kernel_rfl) (fun L' => Hid (LayG L L' g L.heap.size A c n [])) h4 fun L4 H4 => ?_
  clear h4 w3
  have hmk := fun W => run_make_row' (P := Try.prog) 23 2 (.int .i64 0) 8 Try.underlying23 info_i64g rfl .i64 .i64 n (by omega) (by omega) W
  have hcb := H4.out.bj.cell 0
  have hz4 : L4.heap.size = g := H4.out.sz
  have hlt : L.heap.size < L4.heap.size := by have := H4.out.jlow; omega
  simp only [List.getElem?_cons_zero] at hcb
  go_wp2
  refine MpPost.normal ?_
  have hl5 := (H4.out.add (.cells (madeCells #[.int .i64 0] n) 2)).add (.cells #[.slice (some ⟨g, 0, none⟩) n n] 23)
  have h5 : ∀ L' : World, L'.heap = ((L4.alloc (.cells (madeCells #[.int .i64 0] n) 2)).alloc (.cells #[.slice (some ⟨g, 0, none⟩) n n] 23)).heap → Hid (LayG L L' g L.heap.size A c n ((objsG g n).take 2)) := fun L' e => Lib.hid (hl5.same e)
  clear hl5 hmk hcb hz4 hlt
  -- those that are waited for
  refine Mp.piece' hJ gr_ok res_20 (by kernel_rfl) (fun L' => Hid (LayG L L' g L.heap.size A c n ((objsG g n).take 2))) h5 fun L5 H5 => ?_
  clear h5 H4 L4
  have hmk := fun W => make_atG n hn2 W
  have hcb := H5.out.bj.cell 0
  have hz5 : L5.heap.size = g + 2 := H5.out.sz
  have hlt : L.heap.size < L5.heap.size := by have := H5.out.jlow; omega
  simp only [List.getElem?_cons_zero] at hcb
  go_wp2
  refine MpPost.normal ?_
  have hl6 := (H5.out.add (.cells (madeCells #[.int .i64 0] n) 128)).add (.cells #[.slice (some ⟨g + 2, 0, none⟩) n n] 124)
  have h6 : ∀ L' : World, L'.heap = ((L5.alloc (.cells (madeCells #[.int .i64 0] n) 128)).alloc (.cells #[.slice (some ⟨g + 2, 0, none⟩) n n] 124)).heap → Hid (LayG L L' g L.heap.size A c n ((objsG g n).take 4)) := fun L' e => Lib.hid (hl6.same e)
  clear hl6 hmk hcb hz5 hlt
  -- those that wait
  refine Mp.piece' hJ gr_ok res_20 (by kernel_rfl) (fun L' => Hid (LayG L L' g L.heap.size A c n ((objsG g n).take 4))) h6 fun L6 H6 => ?_
  clear h6 H5 L5
  have hmk := fun W => run_make_row' (P := Try.prog) 125 39 (.slice none 0 0) 24 Try.underlying125 info_ints rfl .i64 .i64 n (by omega) (by omega) W
  have hcb := H6.out.bj.cell 0
  have hz6 : L6.heap.size = g + 4 := H6.out.sz
  have hlt : L.heap.size < L6.heap.size := by have := H6.out.jlow; omega
  simp only [List.getElem?_cons_zero] at hcb
  go_wp2
  refine MpPost.normal ?_
  have hl7 := (H6.out.add (.cells (madeCells #[.slice none 0 0] n) 39)).add (.cells #[.slice (some ⟨g + 4, 0, none⟩) n n] 125)
  clear hmk hcb hz6 hlt
  generalize (L6.alloc (.cells (madeCells #[.slice none 0 0] n) 39)).alloc (.cells #[.slice (some ⟨g + 4, 0, none⟩) n n] 125) = L7 at hl7 ⊢
  have H7 : Hid (LayG L L7 g L.heap.size A c n ((objsG g n).take 6)) := Lib.hid hl7
  clear hl7 H6 L6
  -- the channel
  have hcb : ∀ w : World, w.heap = L7.heap → w.cell? ⟨L.heap.size, 0, none⟩ = some (.slice A n c) := fun w e => by
    have := (blk_same H7.out.bj e).cell 0
    simpa using this
  have hz7 : L7.heap.size = g + 6 := H7.out.sz
  refine Mp.seq hJ (Mp.region hJ ?_)
  refine MpOps.valH hJ gr_ok.bodies (v := .slice A n c) rfl (yld rfl _) (okOpB_ok (by kernel_rfl)) (fun w hw => ri_load rfl rfl (fun w => Try.isAgg34 w) (hcb w hw)) ?_
  refine MpOps.val hJ gr_ok.bodies rfl (yld rfl _) (okOpB_ok (by kernel_rfl)) (fun w => run_lenJ rfl rfl w) ?_
  refine MpOps.makeC hJ rfl (yld rfl _) (x := .tmp 33) (n := n) trivial rfl (fun e he w => run_makeCG e _ rfl he hn2 w) ?_
  refine MpOps.new hJ gr_ok.bodies (v := .pointer (some ⟨L7.heap.size + 1, 0, none⟩)) (x := .cells #[.chan none] 126) rfl (yld rfl _) (okOpB_ok (by kernel_rfl)) (fun w hw => by rw [run_allocCG _ _ rfl w, hw]; simp) ?_
  refine MpOps.set hJ gr_ok.bodies (p := ⟨L7.heap.size + 1, 0, none⟩) (v := .chan (some L7.heap.size)) rfl rfl (yld rfl _) (okOpB_ok (by kernel_rfl)) (fun w hw => ?_) ?_
  · exact run_storeCG _ _ rfl rfl rfl w (box_newG hw).1 (box_newG hw).2
  refine MpOps.nil hJ ?_
  show Mp _ _ _ _ _ _ _ _ _
  have hl8 := (H7.out.add (.chan n #[] false 0 0 false)).add (.cells #[.chan (some (g + 6))] 126)
  rw [hz7]
  go_simp
  have h8 : ∀ L' : World, L'.heap = ((L7.alloc (.chan n #[] false 0 0 false)).alloc (.cells #[.chan (some (g + 6))] 126)).heap → Hid (LayG L L' g L.heap.size A c n ((objsG g n).take 8)) := fun L' e => Lib.hid (hl8.same e)
  clear hl8
  refine Mp.piece' hJ gr_ok res_20 (by kernel_rfl) (fun L' => Hid (LayG L L' g L.heap.size A c n ((objsG g n).take 8))) h8 fun L8 H8 => ?_
  clear h8 hcb hz7 H7 L7
  have hz8 : L8.heap.size = g + 8 := H8.out.sz
  go_wp2
  refine MpPost.normal ?_
  have hl9 := FillS.start (J := J) (H8.out.add (.cells #[.int .i64 0] 128))
  have h9 : ∀ L' : World, L'.heap = (L8.alloc (.cells #[.int .i64 0] 128)).heap → Hid (FillS L L' g L.heap.size A c n J 0 ∧ Blk L' L.heap.size 34 [.slice A n c]) := fun L' e => Lib.hid ⟨hl9.same e, by obtain ⟨vs, h⟩ := hl9.same e; exact h.bj⟩
  clear hl9 hz8
  refine Mp.seq hJ (Mp.piece' hJ gr_ok res_20 (by kernel_rfl) (fun L' => Hid (FillS L L' g L.heap.size A c n J 0 ∧ Blk L' L.heap.size 34 [.slice A n c])) h9 fun L9 H9 => ?_)
  clear h9 H8 L8
  have hcb := H9.out.2.cell 0
  simp only [List.getElem?_cons_zero] at hcb
  go_wp2
  refine MpPost.normal ?_
  refine Mp.block hJ (Mp.loop hJ (FillG L g L.heap.size A c n wk J) (fun a _ => fillMeas n a) ?_ fun a L' hI => ?_)
  · exact ⟨0, Nat.zero_le _, ⟨rfl, rfl, rfl, rfl, rfl, rfl, rfl, rfl, rfl, rfl, rfl, rfl⟩, H9.out.1⟩
  clear H9 hcb L9
  obtain ⟨k, hkn, hA, hS⟩ := hI
  obtain ⟨f, hf, hfe⟩ := act_litG 86 hA.size
  have e1 := (hfe 1).trans hA.t1
  have e2 := (hfe 2).trans hA.t2
  have e7 := (hfe 7).trans hA.t7
  have e8 := (hfe 8).trans hA.t8
  have e9 := (hfe 9).trans hA.t9
  have e10 := (hfe 10).trans hA.t10
  have e11 := (hfe 11).trans hA.t11
  have e35 := (hfe 35).trans hA.t35
  have e36 := (hfe 36).trans hA.t36
  have e37 := (hfe 37).trans hA.t37
  obtain ⟨μ0, hμ0⟩ : ∃ μ0, fillMeas n a = μ0 := ⟨_, rfl⟩
  have Hmu0 : Hid (μ0 = ((n : Int) - (k : Int)).toNat) := Lib.hid (by rw [← hμ0]; unfold fillMeas; rw [hA.t37])
  rw [hμ0]
  clear hμ0
  obtain ⟨tm, df⟩ := a
  have hdf := hA.d
  simp only at hf hdf
  subst hf hdf
  rw [show List.range 86 = [0, 1, 2, 3, 4, 5, 6, 7, 8, 9, 10, 11, 12, 13, 14, 15, 16, 17, 18, 19, 20, 21, 22, 23, 24, 25, 26, 27, 28, 29, 30, 31, 32, 33, 34, 35, 36, 37, 38, 39, 40, 41, 42, 43, 44, 45, 46, 47, 48, 49, 50, 51, 52, 53, 54, 55, 56, 57, 58, 59, 60, 61, 62, 63, 64, 65, 66, 67, 68, 69, 70, 71, 72, 73, 74, 75, 76, 77, 78, 79, 80, 81, 82, 83, 84, 85] from rfl]
  simp only [List.map_cons, List.map_nil, e1, e2, e7, e8, e9, e10, e11, e35, e36, e37]
  clear hA hfe e1 e2 e7 e8 e9 e10 e11 e35 e36 e37
  have Hkn := Lib.hid hkn; clear hkn
  refine Mp.piece' hJ gr_ok res_20 (by kernel_rfl) (fun L1 => Hid (FillS L L1 g L.heap.size A c n J k)) (fun L1 e => Lib.hid (hS.same e)) fun L10 H10 => ?_
  clear hS L'
  go_wp2
  refine MpPost.normal ?_
  have hck : decide ((k : Int) < (n : Int)) = decide (k < n) := by simp
  refine Mp.seq hJ (Mp.cond hJ trivial (t := decide (k < n)) (by rw [← hck]; rfl) ?_)
  by_cases hk : k < n
  · rw [decide_eq_true hk, if_pos rfl]
    refine Mp.skip hJ ?_
    show Mp _ _ _ _ _ _ _ _ _
    clear hck
    refine Mp.seq hJ (Mp.block hJ ?_)
    have hkJ : k < J.length := by have := Hn.out; omega
    obtain ⟨vs, hst⟩ := H10.out
    have hRw := hst.jobs HR.out.1 HR.out.2
    obtain ⟨ob, oo, rfl, hob, -⟩ := hRw.at_ hkJ
    obtain ⟨jl, ju, jn, sA, sc, af, Hj⟩ : ∃ jl ju jn sA sc af, Hid (J[k] = ⟨jl, ju, jn, sA, sc, af⟩) := ⟨_, _, _, _, _, _, Lib.hid rfl⟩
    have haft : aft J k = af := by rw [aft_eq hkJ, Hj.out]
    have hrA := (HR.out.1.after k hkJ)
    have hin := (Hgood.out.1.ok k hkJ).2
    have hsh := Hgood.out.1.short k hkJ
    rw [Hj.out] at hrA hin hsh
    dsimp only at hrA hin hsh
    rw [Hn.out] at hin
    have Haft := Lib.hid (And.intro haft (And.intro hrA (And.intro hin hsh))); clear haft hrA hin hsh
    have h11 : ∀ L1 : World, L1.heap = L10.heap → Hid (RunSt L L1 g L.heap.size (some ⟨ob, oo, none⟩) c n (leftTo J k) (fun x => nxTo J x k) vs (rdyTo J k) false ∧ RdJobs L1 B (some ⟨ob, oo, none⟩) J) := fun L1 e => Lib.hid ⟨hst.same e, (hst.same e).jobs HR.out.1 HR.out.2⟩
    clear hRw hst H10
    refine Mp.piece' hJ gr_ok res_20 (by kernel_rfl) (fun L1 => Hid (RunSt L L1 g L.heap.size (some ⟨ob, oo, none⟩) c n (leftTo J k) (fun x => nxTo J x k) vs (rdyTo J k) false ∧ RdJobs L1 B (some ⟨ob, oo, none⟩) J)) h11 fun L11 H11 => ?_
    clear h11 L10
    obtain ⟨ob', oo', hoe, -, c0, c1, c2, c3⟩ := H11.out.2.at_ hkJ
    cases hoe
    rw [Hj.out] at c0 c1 c2 c3
    dsimp only at c0 c1 c2 c3
    have hob' : ob < L11.heap.size := by
      have := HR.out.2
      have := H11.out.1.kp.size
      omega
    go_wp2
    refine MpPost.normal ?_
    have h12 : JobSt L (L11.alloc (.cells #[.int .i64 jl, .int .i64 ju, .slice sA af.length sc, .int .i64 jn] 41)) g L.heap.size (some ⟨ob, oo, none⟩) c n (leftTo J k) (fun x => nxTo J x k) vs (rdyTo J k) L11.heap.size [.int .i64 jl, .int .i64 ju, .slice sA af.length sc, .int .i64 jn] := JobSt.start H11.out.1 _
    clear c0 c1 c2 c3 H11 hob hob'
    generalize L11.alloc (.cells #[.int .i64 jl, .int .i64 ju, .slice sA af.length sc, .int .i64 jn] 41) = L12 at h12 ⊢
    generalize L11.heap.size = jb at h12 ⊢
    clear L11
    have hbc := h12.box.cell 2
    simp only [List.getElem?_cons_succ, List.getElem?_cons_zero] at hbc
    refine Mp.seq hJ (m_r12 (by kernel_rfl) rfl rfl rfl rfl h12.run hk hbc ?_)
    replace h12 := h12.setLeft (left' := leftTo J (k + 1)) k (af.length : Int) (by simp [leftTo, Haft.out.1]) (fun j _ hj => by
      unfold leftTo
      by_cases e : j < k
      · rw [if_pos e, if_pos (by omega)]
      · rw [if_neg e, if_neg (by omega)])
    have h13 := h12.next (nxf' := fun x => nxAt J x k 0) (fun _ _ => rfl) (fun j _ => (nxAt_zero J j k).symm)
    clear h12 hbc
    generalize L12.setCell ⟨g + 2, k, none⟩ (.int .i64 (af.length : Int)) = L13 at h13 ⊢
    clear L12
    show Mp _ _ _ _ _ _ _ _ _
    rw [show List.range 6 = [0, 1, 2, 3, 4, 5] from rfl]
    simp only [putsV, V12r, List.getElem?_toArray, List.getElem?_cons_succ, List.getElem?_cons_zero, Option.bind_some]
    go_simp
    refine Mp.piece' hJ gr_ok res_20 (by kernel_rfl) (fun L1 => Hid (JobSt L L1 g L.heap.size (some ⟨ob, oo, none⟩) c n (leftTo J (k + 1)) (fun x => nxAt J x k 0) vs (rdyTo J k) jb [.int .i64 jl, .int .i64 ju, .slice sA af.length sc, .int .i64 jn])) (fun L1 e => Lib.hid (h13.same e)) fun L14 H14 => ?_
    clear h13 L13
    have hbc := H14.out.box.cell 2
    simp only [List.getElem?_cons_succ, List.getElem?_cons_zero] at hbc
    go_wp2
    go_loopg [52] af.length (fun gq iq wq => ∃ (q : Nat) (vs' : List Value), gq + q = af.length ∧ iq = .int .i64 q ∧ JobSt L wq g L.heap.size (some ⟨ob, oo, none⟩) c n (leftTo J (k + 1)) (fun x => nxAt J x k q) vs' (rdyTo J k) jb [.int .i64 jl, .int .i64 ju, .slice sA af.length sc, .int .i64 jn])
    case atStart => exact ⟨0, vs, by omega, rfl, H14.out⟩
    case round =>
      obtain ⟨q, vs', hgq, rfl, hst2⟩ := hrel
      clear hbc H14
      by_cases hq : q < af.length
      · have hrd2 := Haft.out.2.1.keep (w' := wr) fun p hp => World.cell?_of_block (hst2.run.kp.at_ _ (by have := HR.out.2; omega))
        obtain ⟨ab, ao, rfl, hab, ca⟩ := hrd2.atMap hq
        obtain ⟨x0, x1⟩ := Haft.out.2.2.1 _ (List.getElem_mem hq)
        generalize hx : af[q] = x at *
        obtain ⟨x, rfl⟩ := Int.eq_ofNat_of_zero_le x0
        have hxn : x < n := by omega
        have hlen := length_nxAt J (Valid.aft ⟨Hgood.out.1.ok, Hgood.out.1.few, Hgood.out.1.short⟩) x k q
        obtain ⟨v, hv, -⟩ := hst2.run.rows.get (k := x) (by rw [fnL_len]; exact hxn)
        have Hst2 := Lib.hid (And.intro hst2 (And.intro hlen (And.intro hx hv))); clear hst2 hlen hx hrd2 x0 x1 hv hab
        go_wp2
        refine r16_wp (L0 := L) (g := g) (n := n) (x := x) (k := k) (nxf' := fun y => nxAt J y k (q + 1)) (by kernel_rfl) rfl rfl rfl rfl Hst2.out.1.run hxn Hst2.out.2.2.2 (by have := Hst2.out.2.1; omega)
          (nxAt_succ_eq J x k q (by rw [Haft.out.1]; exact hq) (by rw [List.getElem_of_eq Haft.out.1]; exact Hst2.out.2.2.1))
          (fun y _ hy => nxAt_succ_ne J y k q (by rw [Haft.out.1]; exact hq) (by rw [List.getElem_of_eq Haft.out.1, Hst2.out.2.2.1]; omega)) fun v1 v2 w3 h1 hz h3 h4 => ?_
        have h5 := Lib.hid (Hst2.out.1.push Hst2.out.2.2.2 h1 h3 h4); clear h1 hz h3 h4 Hst2
        rw [show List.range 10 = [0, 1, 2, 3, 4, 5, 6, 7, 8, 9] from rfl]
        simp only [putsV, V16r, VE, List.findIdx?_cons, List.findIdx?_nil, List.getElem?_toArray, List.getElem?_cons_succ, List.getElem?_cons_zero, Option.bind_some]
        go_simp
        go_wp2
        go_roundg (gk - 1)
        case measure => omega
        case rel =>
          have hsh := Haft.out.2.2.2
          exact ⟨q + 1, _, by omega, by rw [IntWalk.wrap64_in _ ⟨by omega, by omega⟩]; rfl, h5.out⟩
      · obtain rfl : q = af.length := by omega
        have h6 := hst2.next (left' := leftTo J (k + 1)) (nxf' := fun x => nxTo J x (k + 1)) (fun _ _ => rfl) (fun j _ => nxAt_full J j k af.length (by rw [Haft.out.1]; exact Nat.le_refl _))
        have H6 := Lib.hid h6; clear h6 hst2
        go_wp2
        refine MpPost.normal ?_
        have h7 : ∀ L1 : World, L1.heap = wr.heap → Hid (JobSt L L1 g L.heap.size (some ⟨ob, oo, none⟩) c n (leftTo J (k + 1)) (fun x => nxTo J x (k + 1)) vs' (rdyTo J k) jb [.int .i64 jl, .int .i64 ju, .slice sA af.length sc, .int .i64 jn]) := fun L1 e => Lib.hid (H6.out.same e)
        refine Mp.piece' hJ gr_ok res_20 (by kernel_rfl) (fun L1 => Hid (JobSt L L1 g L.heap.size (some ⟨ob, oo, none⟩) c n (leftTo J (k + 1)) (fun x => nxTo J x (k + 1)) vs' (rdyTo J k) jb [.int .i64 jl, .int .i64 ju, .slice sA af.length sc, .int .i64 jn])) h7 fun L15 H15 => ?_
        clear h7 H6 wr
        have hbc := H15.out.box.cell 2
        simp only [List.getElem?_cons_succ, List.getElem?_cons_zero] at hbc
        go_wp2
        refine MpPost.normal ?_
        clear hbc
        refine Mp.cond hJ trivial (t := ((af.length : Int) == 0)) rfl ?_
        by_cases hz : af.length = 0
        · rw [show ((af.length : Int) == 0) = true by simp [hz], if_pos rfl]
          have hroom : (bufQ (rdyTo J k)).size < n := by have := rdyTo_le J k; simp [bufQ]; omega
          refine Mp.region hJ ?_
          refine MpOps.valH hJ gr_ok.bodies (v := .chan (some (g + 6))) rfl (yld rfl _) (okOpB_ok (by kernel_rfl)) (fun w hw => ri_load rfl rfl (fun w => Try.isAgg126 w) (by have := (blk_same H15.out.run.bc hw).cell 0; simpa using this)) ?_
          refine MpOps.val hJ gr_ok.bodies rfl (yld rfl _) (okOpB_ok (by kernel_rfl)) (fun w => run_mvG _ _ rfl w) ?_
          refine MpOps.send rfl (yld rfl _) rfl rfl trivial trivial (cL := g + 6) rfl H15.out.run.ch hroom ?_
          refine MpOps.nil hJ ?_
          show Mp _ _ _ _ _ _ _ _ _
          have hf : FillS L { L15 with heap := L15.heap.setIfInBounds (g + 6) (.chan n ((bufQ (rdyTo J k)).push (.int .i64 (k : Int))) false ((rdyTo J k).length + 1) 0 false) } g L.heap.size (some ⟨ob, oo, none⟩) c n J (k + 1) := by
            refine ⟨vs', ?_⟩
            have hr := H15.out.run.setChan (rdyTo J (k + 1)) false
            rw [rdyTo_yes (by rw [Haft.out.1]; exact List.eq_nil_of_length_eq_zero hz), ← bufQ_push, List.length_append] at hr
            rw [rdyTo_yes (by rw [Haft.out.1]; exact List.eq_nil_of_length_eq_zero hz)]
            exact hr
          show Mp _ _ _ _ _ _ _ _ ({ L15 with heap := L15.heap.setIfInBounds (g + 6) (.chan n ((bufQ (rdyTo J k)).push (.int .i64 (k : Int))) false ((rdyTo J k).length + 1) 0 false) } : World)
          generalize ({ L15 with heap := L15.heap.setIfInBounds (g + 6) (.chan n ((bufQ (rdyTo J k)).push (.int .i64 (k : Int))) false ((rdyTo J k).length + 1) 0 false) } : World) = L17 at hf ⊢
          go_simp
          clear H15 hroom
          refine Mp.last' hJ gr_ok res_20 (by kernel_rfl) (fun L1 => Hid (FillS L L1 g L.heap.size (some ⟨ob, oo, none⟩) c n J (k + 1))) (fun L1 e => Lib.hid (hf.same e)) fun L16 H16 => ?_
          clear hf
          go_wp2
          exact MpPost.end (fill_stepG Hmu0.out hk ⟨rfl, rfl, rfl, rfl, rfl, rfl, rfl, rfl, rfl, rfl, rfl, by go_num⟩ H16.out)
        · rw [show ((af.length : Int) == 0) = false by simpa using hz, if_neg (by decide)]
          refine Mp.skip hJ ?_
          show Mp _ _ _ _ _ _ _ _ _
          have hf : FillS L L15 g L.heap.size (some ⟨ob, oo, none⟩) c n J (k + 1) := ⟨vs', by rw [rdyTo_no (by rw [Haft.out.1]; exact fun e => hz (by rw [e]; rfl))]; exact H15.out.run⟩
          refine Mp.last' hJ gr_ok res_20 (by kernel_rfl) (fun L1 => Hid (FillS L L1 g L.heap.size (some ⟨ob, oo, none⟩) c n J (k + 1))) (fun L1 e => Lib.hid (hf.same e)) fun L16 H16 => ?_
          clear hf
          go_wp2
          exact MpPost.end (fill_stepG Hmu0.out hk ⟨rfl, rfl, rfl, rfl, rfl, rfl, rfl, rfl, rfl, rfl, rfl, by go_num⟩ H16.out)
  · obtain rfl : k = n := by have := Hkn.out; omega
    rw [decide_eq_false hk, if_neg (by decide)]
    clear hck
    refine Mp.exit hJ ?_
    show Mp _ _ _ _ _ _ _ _ _
    obtain ⟨vs, hst⟩ := H10.out
    replace hst : RunSt L L10 g L.heap.size A c k (leftTo J k) (nx J) vs (readyQ (parJ J)) false := by
      have hkJ := Hn.out
      subst hkJ
      rw [← rdyTo_all]
      exact hst
    clear H10
    have h11 : ∀ L1 : World, L1.heap = L10.heap → Hid (RunSt L L1 g L.heap.size A c k (leftTo J k) (nx J) vs (readyQ (parJ J)) false) := fun L1 e => Lib.hid (hst.same e)
    clear hst
    refine Mp.seq hJ ?_
    refine Mp.piece' hJ gr_ok res_20 (by kernel_rfl) (fun L1 => Hid (RunSt L L1 g L.heap.size A c k (leftTo J k) (nx J) vs (readyQ (parJ J)) false)) h11 fun L11 H11 => ?_
    clear h11 L10
    have hbc := H11.out.bj.cell 0
    simp only [List.getElem?_cons_zero] at hbc
    go_wp2
    refine MpPost.normal ?_
    clear hbc
    refine Mp.cond hJ trivial (t := ((k : Int) == 0)) rfl ?_
    by_cases hz : k = 0
    · rw [show ((k : Int) == 0) = true by simp [hz], if_pos rfl]
      refine Mp.region hJ ?_
      refine MpOps.valH hJ gr_ok.bodies (v := .chan (some (g + 6))) rfl (yld rfl _) (okOpB_ok (by kernel_rfl)) (fun w hw => ri_load rfl rfl (fun w => Try.isAgg126 w) (by have := (blk_same H11.out.bc hw).cell 0; simpa using this)) ?_
      refine MpOps.close rfl (yld rfl _) rfl trivial (cL := g + 6) rfl H11.out.ch ?_
      refine MpOps.nil hJ ?_
      have h12 := H11.out.setChan (readyQ (parJ J)) true
      show Mp _ _ _ _ _ _ _ _ ({ L11 with heap := L11.heap.setIfInBounds (g + 6) (.chan k (bufQ (readyQ (parJ J))) true (readyQ (parJ J)).length 0 false) } : World)
      generalize ({ L11 with heap := L11.heap.setIfInBounds (g + 6) (.chan k (bufQ (readyQ (parJ J))) true (readyQ (parJ J)).length 0 false) } : World) = L12 at h12 ⊢
      rw [show true = decide (k = 0) by simp [hz]] at h12
      go_simp
      have H12 := Lib.hid h12
      clear h12 H11 L11 hz
      obtain ⟨m, rfl, hm⟩ : ∃ m : Nat, wk = m ∧ 1 ≤ m ∧ m ≤ 16 := by have := Hgood.out.2; unfold workersOk at this; exact ⟨wk.toNat, by omega, by omega, by omega⟩
      refine m_forkG (L0 := L) (g := g) (bJ := L.heap.size) (B := B) (m := m) (J := J) rfl ⟨_, rfl, rfl, rfl, rfl⟩ rfl ⟨_, rfl, rfl, rfl, rfl⟩ ⟨_, rfl, rfl, rfl, rfl⟩ ⟨rfl, ⟨_, rfl, rfl, rfl, rfl⟩, rfl, ⟨_, rfl, rfl, rfl, rfl⟩, rfl, ⟨_, rfl, rfl, rfl, rfl⟩, ⟨_, rfl, rfl, rfl, rfl⟩, rfl, ⟨_, rfl, rfl, rfl, rfl⟩, ⟨_, rfl, rfl, rfl, rfl⟩, rfl, ⟨_, rfl, rfl, rfl, rfl⟩⟩ hm rfl rfl rfl rfl rfl rfl rfl rfl
        H12.out HR.out.1 HR.out.2 Hn.out (Good.toJ Hgood.out.1) ⟨Hgood.out.1.ok, Hgood.out.1.few, Hgood.out.1.short⟩ (fun j hj => by simp [leftTo, hj]) fun x L' hnum hbn hkp => ?_
      have hjl := H12.out.jlow
      clear H12 L12 hm
      simp only [putG, List.foldl_cons, List.foldl_nil]
      go_simp
      refine Mp.last' hJ gr_ok res_20 (by kernel_rfl) (fun L1 => Hid (Blk L1 g 2 (ints (fnI k (valJ J))) ∧ Blk L1 (g + 1) 23 [.slice (some ⟨g, 0, none⟩) k k] ∧ KpG L.heap.size L L1)) (fun L1 e => Lib.hid ⟨blk_same hnum e, blk_same hbn e, hkp.same e⟩) fun L13 H13 => ?_
      clear hnum hbn hkp L'
      have hcb := H13.out.2.1.cell 0
      simp only [List.getElem?_cons_zero] at hcb
      go_wp2
      refine MpPost.leave ⟨.inr rfl, fun h => absurd Hcode.out h, fun _ => ⟨g, ?_, by omega, ?_⟩, H13.out.2.2⟩
      · rw [pack_twoG results_20, Hn.out]
        rfl
      · have := H13.out.1
        rw [Hn.out]
        exact this
    · rw [show ((k : Int) == 0) = false by simpa using hz, if_neg (by decide)]
      refine Mp.skip hJ ?_
      show Mp _ _ _ _ _ _ _ _ _
      have h12 := H11.out
      rw [show false = decide (k = 0) by simp [hz]] at h12
      generalize L11 = L12 at h12 ⊢
      have H12 := Lib.hid h12
      clear h12 hz
      obtain ⟨m, rfl, hm⟩ : ∃ m : Nat, wk = m ∧ 1 ≤ m ∧ m ≤ 16 := by have := Hgood.out.2; unfold workersOk at this; exact ⟨wk.toNat, by omega, by omega, by omega⟩
      refine m_forkG (L0 := L) (g := g) (bJ := L.heap.size) (B := B) (m := m) (J := J) rfl ⟨_, rfl, rfl, rfl, rfl⟩ rfl ⟨_, rfl, rfl, rfl, rfl⟩ ⟨_, rfl, rfl, rfl, rfl⟩ ⟨rfl, ⟨_, rfl, rfl, rfl, rfl⟩, rfl, ⟨_, rfl, rfl, rfl, rfl⟩, rfl, ⟨_, rfl, rfl, rfl, rfl⟩, ⟨_, rfl, rfl, rfl, rfl⟩, rfl, ⟨_, rfl, rfl, rfl, rfl⟩, ⟨_, rfl, rfl, rfl, rfl⟩, rfl, ⟨_, rfl, rfl, rfl, rfl⟩⟩ hm rfl rfl rfl rfl rfl rfl rfl rfl
        H12.out HR.out.1 HR.out.2 Hn.out (Good.toJ Hgood.out.1) ⟨Hgood.out.1.ok, Hgood.out.1.few, Hgood.out.1.short⟩ (fun j hj => by simp [leftTo, hj]) fun x L' hnum hbn hkp => ?_
      have hjl := H12.out.jlow
      clear H12 L12 hm
      simp only [putG, List.foldl_cons, List.foldl_nil]
      go_simp
      refine Mp.last' hJ gr_ok res_20 (by kernel_rfl) (fun L1 => Hid (Blk L1 g 2 (ints (fnI k (valJ J))) ∧ Blk L1 (g + 1) 23 [.slice (some ⟨g, 0, none⟩) k k] ∧ KpG L.heap.size L L1)) (fun L1 e => Lib.hid ⟨blk_same hnum e, blk_same hbn e, hkp.same e⟩) fun L13 H13 => ?_
      clear hnum hbn hkp L'
      have hcb := H13.out.2.1.cell 0
      simp only [List.getElem?_cons_zero] at hcb
      go_wp2
      refine MpPost.leave ⟨.inr rfl, fun h => absurd Hcode.out h, fun _ => ⟨g, ?_, by omega, ?_⟩, H13.out.2.2⟩
      · rw [pack_twoG results_20, Hn.out]
        rfl
      · have := H13.out.1
        rw [Hn.out]
        exact this
end
end Go.Proofs.Yticdjkkcfdbdcaa
