/- scan.Scan in company, told of the lone world: what lies ahead of the first call of side. No conditions but those named. -/
import Derived.Test.YtnabgoljnfaebaaMCl2
import Derived.Test.YtnabgoljnfaebaaTop
import Derived.Test.YtnabgoljnfaebaaScL4
import Derived.Test.YtnabgoljnfaebaaMScanT
namespace Go.Proofs.Ytnabgoljnfaebaa
open Go.Conc Go.ConcN Go.RowKit Go.ChangeShapes Go.WideShapes Go.ChangeAt
section
variable {Post : Value → World → Prop} {n0 : Nat} {W0 : World}
set_option maxRecDepth 100000 in
set_option maxHeartbeats 8000000 in
theorem scan_m {A : Option Addr} {c : Nat} {xs : List Int} {op wk : Int} {L : World} {B : Nat} (hR : Rd L B A (ints xs)) (hB : B ≤ L.heap.size) (hx : ∀ x ∈ xs, I64 x) :
    MCalls (InL scanL) Try.prog (fun k g w => Win Try.prog Post n0 W0 k g w) 5 #[.slice A xs.length c, .int .i64 op, .int .i64 wk] false (ScanPM op wk xs L) L := by
  have hJ : JOk Try.prog true _ (fun k g w => Win Try.prog Post n0 W0 k g w) := win_jok (P := Try.prog) (Post := Post) (n0 := n0) (W0 := W0)
  refine MCalls.body hJ Try.func5 (c := _) rfl (fun i r hr => ?_) ?_
  · obtain ⟨fn, h1, h2⟩ := res_5
    cases Option.some.inj (h1.symm.trans Try.func5)
    exact h2 i r hr
  simp only [Try.ntmps5, List.size_toArray, List.length_cons, List.length_nil, Nat.reduceAdd, Nat.reduceSub, Array.replicate_succ, Array.replicate_zero, List.push_toArray, List.append_toArray, List.nil_append, List.cons_append]
  have HR := Lib.hid hR; clear hR
  have Hx := Lib.hid hx; clear hx
  refine Mp.piece' hJ scan_ok res_5 (by kernel_rfl) (fun L' => Hid (L'.heap = L.heap)) (fun L' e => Lib.hid e) fun LT Hs0 => ?_
  go_wp2
  refine MpPost.normal ?_
  refine Mp.piece' hJ scan_ok res_5 (by kernel_rfl) (fun L' => Hid (L'.heap = L.heap)) (fun L' e => Lib.hid (e.trans Hs0.out)) fun L2 Hs2 => ?_
  clear Hs0 LT
  by_cases h1 : 1 ≤ op ∧ op ≤ 4
  case neg =>
    have hst := run_store1 (w := L2.alloc (.cells #[.nilFunc] 31)) (p := ⟨L2.heap.size, 0, none⟩) (v := .nilFunc) (fun c h => by cases h) (fun c h => by cases h) ((Blk.new L2 31 [.nilFunc]).cell 0) ((Blk.new L2 31 [.nilFunc]).frozen 0)
    go_wp2_with (first | (go_at_call 11; refine (operator_no op _ h1).mono ?_; rintro e w' ⟨rfl, rfl⟩))
    refine MpPost.normal ?_
    refine Mp.piece' hJ scan_ok res_5 (by kernel_rfl) (fun L' => Hid (Keeps L L') ∧ L'.cell? ⟨L2.heap.size, 0, none⟩ = some .nilFunc) (fun L' e => ⟨Lib.hid (Keeps.alloc Hs2.out e), cell_of e ((Blk.new L2 31 [.nilFunc]).cell 0)⟩) fun L3 ⟨hk, hc0⟩ => ?_
    clear hst
    have hq := eq_nilF
    go_wp2
    refine MpPost.ret ⟨.inr rfl, fun h => absurd h.1 h1, fun _ => ?_, hk.out.2⟩
    rw [if_neg fun h => h1 h.1, pack_two results_5]
    rfl
  have hst := run_store1 (w := L2.alloc (.cells #[.nilFunc] 31)) (p := ⟨L2.heap.size, 0, none⟩) (v := .func (.func (opF op)) #[] #[]) (fun c h => by cases h) (fun c h => by cases h) ((Blk.new L2 31 [.nilFunc]).cell 0) ((Blk.new L2 31 [.nilFunc]).frozen 0)
  go_wp2_with (first | (go_at_call 11; refine (operator_s op _ h1).mono ?_; rintro e w' ⟨rfl, rfl⟩))
  refine MpPost.normal ?_
  refine Mp.piece' hJ scan_ok res_5 (by kernel_rfl) (fun L' => Hid (Keeps L L' ∧ L'.heap.size = L.heap.size + 1 ∧ Blk L' L.heap.size 31 [.func (.func (opF op)) #[] #[]]) ∧ L'.cell? ⟨L2.heap.size, 0, none⟩ = some (.func (.func (opF op)) #[] #[])) (fun L' e => ⟨Lib.hid ⟨Keeps.alloc Hs2.out e, by rw [e, World.size_alloc, Hs2.out], by
    have h := Blk.new L2 31 [.func (.func (opF op)) #[] #[]]
    unfold Blk at h ⊢
    rw [e]
    rw [Hs2.out] at h
    exact h⟩, cell_of e ((Blk.new L2 31 [.func (.func (opF op)) #[] #[]]).cell 0)⟩) fun L3 hL3 => ?_
  obtain ⟨H3, hc0⟩ := hL3
  clear hst
  have hq := eq_nilG (opF op)
  go_wp2
  refine MpPost.normal ?_
  rw [show L2.heap.size = L.heap.size by rw [Hs2.out]]
  clear hc0 hq Hs2 L2
  refine Mp.piece' hJ scan_ok res_5 (by kernel_rfl) (fun L' => Hid (L'.heap = L3.heap)) (fun L' e => Lib.hid e) fun L4 H4 => ?_
  by_cases h2 : (1 ≤ wk ∧ wk ≤ 16) ∧ xs.length ≤ 100000
  case neg =>
    have ha : ¬ askI xs.length wk = 0 := by unfold askI; split <;> (try split) <;> omega
    go_wp2_with (go_at_call 12; refine (ask_s _ _ _).mono ?_; rintro e w' ⟨rfl, rfl⟩)
    refine MpPost.ret ⟨.inr rfl, fun h => absurd h.2 h2, fun _ => ?_, (H3.out.1.same H4.out).2⟩
    rw [pack_two results_5]
    show Value.tuple #[.slice none 0 0, .int .i64 (askI xs.length wk)] = _
    congr 4
    by_cases h3 : 1 ≤ wk ∧ wk ≤ 16
    · rw [if_pos ⟨h1, h3⟩]; unfold askI; rw [if_neg (by omega), if_pos (by omega)]
    · rw [if_neg fun h => h3 h.2]; unfold askI; rw [if_pos (by omega)]
  have ha : askI xs.length wk = 0 := by unfold askI; rw [if_neg (by omega), if_neg (by omega)]
  go_wp2_with (go_at_call 12; refine (ask_s _ _ _).mono ?_; rintro e w' ⟨rfl, rfl⟩; rw [ha])
  refine MpPost.normal ?_
  refine Mp.piece' hJ scan_ok res_5 (by kernel_rfl) (fun L' => Hid (L'.heap = L3.heap)) (fun L' e => Lib.hid (e.trans H4.out)) fun L5 H5 => ?_
  clear ha H4 L4
  have hRw : Hid (Rd L5 B A (ints xs)) := Lib.hid (HR.out.keep fun q hq => by
    have h := (H3.out.1.same H5.out).2 q.block (by omega)
    simp only [World.cell?, h])
  have hB5 : B ≤ L5.heap.size := by rw [H5.out, H3.out.2.1]; omega
  go_wp2_with (first | (go_at_call 13; (
    refine (clone_s A c xs _ B hRw.out hB5 (by omega)).mono ?_
    rintro e w7 ⟨v, rfl, hown, hbel⟩
    obtain ⟨p, cc, rfl, _, _⟩ := own_form hown
    have hst : ∀ o : Value, (store ⟨w7.heap.size, 0, none⟩ (.slice p xs.length cc) : Sem Unit).run Try.prog (w7.alloc (.cells #[o] 22)) = .ok () ((w7.alloc (.cells #[o] 22)).setCell ⟨w7.heap.size, 0, none⟩ (.slice p xs.length cc)) := fun o => run_store_sl ((Blk.new w7 22 [o]).cell 0) ((Blk.new w7 22 [o]).frozen 0)
    have H7 := Lib.hid (And.intro hown hbel); clear hown hbel)))
  refine MpPost.normal ?_
  have h8 : Sc8 op xs L (w7.alloc (.cells #[.slice p xs.length cc] 22)) w7.heap.size p cc := by
    obtain ⟨q1, q2, q3⟩ := H3.out
    have e5 := H5.out
    have hs5 : L5.heap.size = L.heap.size + 1 := by rw [e5, q2]
    have k5 : Keeps L L5 := q1.same e5
    have k7 : Keeps L5 w7 := Keeps.below H7.out.2
    have k8 : Keeps w7 (w7.alloc (.cells #[.slice p xs.length cc] 22)) := Keeps.alloc rfl rfl
    refine ⟨(k5.trans k7).trans k8, ((q3.same e5).kept k7).kept k8, own_kept (by rw [← hs5]; exact H7.out.1) k8, Blk.new w7 22 [.slice p xs.length cc], by have := k7.1; omega, fun g hg => (H7.out.1.lt g hg).2⟩
  have hw7 : (w7.alloc (.cells #[.slice p xs.length cc] 22)).heap.size = w7.heap.size + 1 := World.size_alloc ..
  generalize w7.heap.size = xL at h8 hw7
  generalize w7.alloc (.cells #[.slice p xs.length cc] 22) = L6 at h8 hw7
  obtain ⟨kn, rfl⟩ : ∃ kn : Nat, wk = kn := ⟨wk.toNat, by omega⟩
  obtain ⟨k, hk⟩ : ∃ k, kOf xs.length kn = k := ⟨_, rfl⟩
  refine Mp.piece' hJ scan_ok res_5 (by kernel_rfl) (fun L' => Hid (Sc8 op xs L L' xL p cc ∧ L'.heap.size = xL + 1)) (fun L' e => Lib.hid ⟨h8.same e, by rw [e]; exact hw7⟩) fun L8 H8 => ?_
  clear h8 hw7 hst H7 H5 H3 hRw hB5
  have Hk := Lib.hid hk; clear hk
  go_wp2_with (first | (go_at_call 14; (
    refine (parts_s xs.length kn k (by omega) (by omega) Hk.out _).mono ?_
    rintro e w9 ⟨rfl, hcb, hbel⟩
    have H9 := Lib.hid (And.intro hcb hbel); clear hcb hbel)))
  refine MpPost.normal ?_
  have h9 : Sc9 op xs k L w9 xL L8.heap.size p cc := ⟨H8.out.1.kept (Keeps.below H9.out.2), H9.out.1, by rw [H8.out.2]; omega⟩
  generalize L8.heap.size = cL at h9
  clear H8 H9 L8
  refine Mp.seq hJ (Mp.region hJ ?_)
  refine MpOps.val hJ scan_ok.bodies rfl (yld rfl _) (okOpB_ok (by kernel_rfl)) (fun w => run_mv _ _ rfl w) ?_
  refine MpOps.val hJ scan_ok.bodies rfl (yld rfl _) (okOpB_ok (by kernel_rfl)) (fun w => run_mk2 _ _ rfl w) ?_
  obtain ⟨obL, t, rst, hrow⟩ := h9.row
  obtain ⟨hk0, hk16, hkn⟩ := k_bd Hk.out (by omega)
  have hyl := ys1_length op xs hk0
  refine m_side (obL := obL) (p := 31) (q := 32) (d := 33) (m := k) (cuts := cutAt xs.length k) (x1 := (ints (ys1 op xs k) ++ rst).toArray) (capL := #[.pointer (some ⟨L.heap.size, 0, none⟩), .pointer (some ⟨xL, 0, none⟩)]) (cf := 16) (crL := cL) (cc := k + 1)
    rfl rfl rfl rfl rfl rfl hk16 ⟨_, Try.func16, by kernel_rfl, by kernel_rfl⟩ (fun j _ => cut_mono _ _ j) (cut_zero _ _) h9.c info_int (fun j hj => ?_) hrow.b hrow.t (fun i _ => by simp) (by rw [cut_end _ hk0]; simp) hrow.nc (fun ρ k W a' hm ha => hrow.ren ρ k W hm ?_) (by simp [hyl]) (fun i hi => ints_get_out hyl (by rw [cut_end _ hk0] at hi; exact hi))
    (sideOk1 h1 Hx.out hrow.t (cut_end _ hk0).symm (by omega) (fun j _ => cut_mono _ _ j) h9.s.f h9.s.x hrow.p hrow.b (.inl hrow.nf) hrow.nx (fun j hj i h => ys1_get op xs hk0 j hj i h)) ?_
  · simp only [List.getElem?_toArray, ints, List.getElem?_map, cutRow_get (show j < k + 1 by omega), if_pos (show j < k + 1 by omega), Option.map_some]
  · have h10 := ha.eval.1 (.tmp 10) trivial
    obtain ⟨c, s, h11, _⟩ := ptr_ren h10
    exact ⟨_, h11⟩
  refine MpOps.nil hJ ?_
  have h10 := h9.rerow hrow hyl
  generalize reRow w9 obL _ t (0, 0) = L10 at h10
  show Mp _ _ _ _ _ _ _ _ _
  go_simp
  clear hrow h9
  have hys := ys1_i64 op xs k Hx.out
  have Hys := Lib.hid hys; clear hys
  refine Mp.piece' hJ scan_ok res_5 (by kernel_rfl) (fun L' => Hid (Sc9 op (ys1 op xs k) k L L' xL cL p cc)) (fun L' e => Lib.hid (h10.same e)) fun L11 H11 => ?_
  clear h10 L10
  have hmk := fun W => run_make_row' (P := Try.prog) 22 2 (.int .i64 0) 8 Try.underlying22 info_i64' rfl .i64 .i64 k (by omega) (by omega) W
  have hst : ∀ (w7 : World) (o : Value) (q : Option Addr) (n c : Nat), (store ⟨w7.heap.size, 0, none⟩ (.slice q n c) : Sem Unit).run Try.prog (w7.alloc (.cells #[o] 22)) = .ok () ((w7.alloc (.cells #[o] 22)).setCell ⟨w7.heap.size, 0, none⟩ (.slice q n c)) := fun w7 o q n c => run_store_sl ((Blk.new w7 22 [o]).cell 0) ((Blk.new w7 22 [o]).frozen 0)
  go_wp2
  refine MpPost.normal ?_
  have h12 := H11.out.ahead (ys := xs)
  generalize L11.heap.size + 1 = aL at h12
  generalize L11.heap.size = arL at h12
  clear hmk hst H11
  refine Mp.piece' hJ scan_ok res_5 (by kernel_rfl) (fun L' => Hid (Sc11 op (ys1 op xs k) k (aheadTo op xs k 1) L L' xL cL arL aL p cc)) (fun L' e => Lib.hid (h12.same e)) fun L12 H12 => ?_
  clear h12
  go_wp2
  go_loopg [13] k (fun gk i wr => ∃ m : Nat, gk + m = k + 1 ∧ 1 ≤ m ∧ m ≤ k ∧ i = .int .i64 m ∧ Sc11 op (ys1 op xs k) k (aheadTo op xs k m) L wr xL cL arL aL p cc)
  case atStart => exact ⟨1, by omega, by omega, by omega, rfl, H12.out⟩
  case round =>
    obtain ⟨m, hgk, hm1, hmk0, rfl, hS⟩ := hrel
    have ca := hS.a.cell 0
    simp only [List.getElem?_cons_zero] at ca
    by_cases hm : m < k
    · obtain ⟨g, q, lp, rfl, hga, hq, hqn, hlp, hlc, hxc, hcc, hah⟩ := hS.sees hk0 (fun h => by have := Hk.out; unfold kOf at this; omega) hm1 hm Hx.out
      have hm0 : wr.cell? ⟨arL, m, none⟩ = some (.int .i64 0) := by
        rw [hS.r.cell]
        simp only [ints, List.getElem?_map, aheadTo_get hm, if_neg (show ¬ (m < m ∧ m ≠ 0) by omega), Option.map_some]
      have hmf := hS.r.frozen m
      have hra : ¬ (aL = arL) := by have := hS.ra; omega
      have hga' : ¬ (g = arL) := hga
      have hfr : ¬ (L.heap.size = arL) := by have := hS.ra; have := hS.cr; have := hS.s.xc; have := hS.s.s.fx; omega
      have hwq : IntKind.i64.wrap ((q : Int) + 1 - 1) = (q : Int) := by rw [IntKind.wrap_i64]; omega
      have hwq2 : (q : Int) < (xs.length : Int) := by omega
      have hset := hS.set m lp
      have Hset := Lib.hid (And.intro hset (And.intro hlp (And.intro hah hS))); clear hset hlp hah hS
      have hmk : (m : Int) < (k : Int) := by omega
      by_cases hmo : m = 1
      · subst hmo
        go_wp2
        go_region
        all_goals go_wp2
        go_roundg (gk - 1)
        case measure => omega
        case rel =>
          refine ⟨2, by omega, by omega, by omega, by go_num, ?_⟩
          obtain ⟨q1, q2, q3, q4⟩ := Hset.out
          have q3' : aheadI op xs (cutAt xs.length k 1) = lp := by simpa using q3
          have := aheadTo_set (op := op) (xs := xs) hm (Nat.le_refl 1)
          rw [q3'] at this
          rw [this] at q1
          exact q1.same rfl
      · have hmo2 : (1 : Int) < (m : Int) := by omega
        have cf := Hset.out.2.2.2.s.s.f.cell 0
        simp only [List.getElem?_cons_zero] at cf
        have cz : wr.cell? ⟨arL, m - 1, none⟩ = some (.int .i64 (aheadI op xs (cutAt xs.length k (m - 1)))) := by
          rw [Hset.out.2.2.2.r.cell]
          simp only [ints, List.getElem?_map, aheadTo_get (show m - 1 < k by omega), if_pos (show m - 1 < m ∧ m - 1 ≠ 0 by omega), Option.map_some]
        have hzi := aheadI_i64 (op := op) Hx.out (cutAt xs.length k (m - 1))
        have hcall : ∀ W, Calls Try.prog (opF op) #[.int .i64 (aheadI op xs (cutAt xs.length k (m - 1))), .int .i64 lp] W fun e w' => e = .returned (.int .i64 (two op (aheadI op xs (cutAt xs.length k (m - 1))) lp)) ∧ W = w' := fun W => opF_s op _ _ W h1 hzi Hset.out.2.1
        have hsa : aheadI op xs (cutAt xs.length k m) = two op (aheadI op xs (cutAt xs.length k (m - 1))) lp := by
          have := Hset.out.2.2.1
          rw [if_neg hmo] at this; exact this
        have hset2 : ((aheadTo op xs k m).set m lp).set m (aheadI op xs (cutAt xs.length k m)) = aheadTo op xs k (m + 1) := by rw [List.set_set, aheadTo_set hm hm1]
        rw [hsa] at hset2
        generalize two op (aheadI op xs (cutAt xs.length k (m - 1))) lp = r at hcall hset2
        clear hsa
        generalize aheadI op xs (cutAt xs.length k (m - 1)) = za at cz hzi hcall
        have Hc := Lib.hid (And.intro hcall hset2); clear hcall hset2 hzi
        have hne : ¬ (m - 1 = m) := by omega
        have hwm : IntKind.i64.wrap ((m : Int) - 1) = ((m - 1 : Nat) : Int) := by rw [IntKind.wrap_i64]; omega
        have hwl : ((m - 1 : Nat) : Int) < (k : Int) := by omega
        have hsame : (wr.setCell ⟨arL, m, none⟩ (.int .i64 lp)).cell? ⟨arL, m, none⟩ = some (.int .i64 lp) := World.cell?_setCell_same (w := wr) (a := ⟨arL, m, none⟩) (v := .int .i64 lp) hm0
        have hfz2 : (wr.setCell ⟨arL, m, none⟩ (.int .i64 lp)).frozen? ⟨arL, m, none⟩ = false := (World.frozen?_setCell ..).trans hmf
        have hother : ∀ p : Addr, p ≠ ⟨arL, m, none⟩ → (wr.setCell ⟨arL, m, none⟩ (.int .i64 lp)).cell? p = wr.cell? p := fun p hp => World.cell?_setCell_other _ _ _ _ (fun e => hp e.symm)
        have ca2 := (hother ⟨aL, 0, none⟩ (fun e => hra (congrArg Addr.block e))).trans ca
        have cf2 := (hother ⟨L.heap.size, 0, none⟩ (fun e => hfr (congrArg Addr.block e))).trans cf
        have cz2 := (hother ⟨arL, m - 1, none⟩ (fun e => hne (congrArg Addr.off e))).trans cz
        have Hw := Lib.hid (And.intro hsame (And.intro hfz2 (And.intro ca2 (And.intro cf2 cz2)))); clear hsame hfz2 hother ca2 cf2 cz2 cf cz
        go_wp2
        go_region
        all_goals go_wp2
        have h1W := (Hset.out.1).same (L1 := (wr.setCell ⟨arL, m, none⟩ (.int .i64 lp)).drew) rfl
        have hW : (wr.setCell ⟨arL, m, none⟩ (.int .i64 lp)).drew.heap = (wr.setCell ⟨arL, m, none⟩ (.int .i64 lp)).heap := rfl
        generalize (wr.setCell ⟨arL, m, none⟩ (.int .i64 lp)).drew = W1 at h1W hW
        have c1 := cell_of hW Hw.out.1
        have c2 := cell_of hW Hw.out.2.2.1
        have c3 := cell_of hW Hw.out.2.2.2.1
        have c4 := cell_of hW Hw.out.2.2.2.2
        have f1 : W1.frozen? ⟨arL, m, none⟩ = false := by have := Hw.out.2.1; simp only [World.frozen?, hW] at this ⊢; exact this
        have hq1 := Hc.out.1
        have Hr := Lib.hid Hc.out.2
        have H1W := Lib.hid h1W
        clear Hc Hw hW h1W hlc hxc hcc hm0 hmf ca Hset
        refine r16_wp (aL := aL) (fL := L.heap.size) (arL := arL) (m := m) (k := k) (f := opF op) (za := za) (lp := lp) (r := r) (by kernel_rfl) rfl rfl rfl rfl hm1 hm hk16 c1 c2 c3 c4 f1 body_opF hq1 fun W2 hW2 => ?_
        have h2W := (H1W.out.same hW2).set m r
        rw [Hr.out] at h2W
        clear H1W
        have HS2 := Lib.hid h2W; clear h2W
        generalize W2.setCell ⟨arL, m, none⟩ (.int .i64 r) = W3 at HS2
        clear c1 c2 c3 c4 f1 hq1 Hr hW2
        rw [show List.range 14 = [0, 1, 2, 3, 4, 5, 6, 7, 8, 9, 10, 11, 12, 13] from rfl]
        simp only [putsV, V16, List.getElem?_toArray, List.getElem?_cons_succ, List.getElem?_cons_zero, Option.bind_some]
        go_simp
        go_wp2
        go_roundg (gk - 1)
        case measure => omega
        case rel => exact ⟨m + 1, by omega, by omega, by omega, by go_num, HS2.out⟩
    · obtain rfl : m = k := by omega
      have HS := Lib.hid hS; clear hS
      have hmk : ¬ (m : Int) < (m : Int) := by omega
      go_wp2
      refine MpPost.normal ?_
      exact scan_tail h1 (by omega) h2.2 Hk.out Hx.out (by kernel_rfl) (by kernel_rfl) rfl rfl rfl rfl rfl rfl HS.out
end
end Go.Proofs.Ytnabgoljnfaebaa
