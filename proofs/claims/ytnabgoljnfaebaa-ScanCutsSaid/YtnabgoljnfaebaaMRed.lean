/- scan.Reduce in company, told of the lone world. No conditions but those named. -/
import Derived.Test.YtnabgoljnfaebaaMScan1
import Derived.Test.YtnabgoljnfaebaaTop
namespace Go.Proofs.Ytnabgoljnfaebaa
open Go.Conc Go.ConcN Go.RowKit Go.ChangeShapes Go.WideShapes Go.ChangeAt
theorem keeps_of {L L1 : World} (h : ∀ b, b < L.heap.size → L1.heap[b]? = L.heap[b]?) : Keeps L L1 := by
  refine ⟨?_, h⟩
  rcases Nat.lt_or_ge L1.heap.size L.heap.size with h1 | h1
  · have := h _ h1
    rw [Array.getElem?_eq_none (Nat.le_refl _), Array.getElem?_eq_getElem h1] at this
    cases this
  · exact h1
theorem Rd.kept {L L1 : World} {B : Nat} {A : Option Addr} {vs : List Value} (h : Rd L B A vs) (hB : B ≤ L.heap.size) (k : Keeps L L1) : Rd L1 B A vs := h.keep fun p hp => by
  have := k.2 p.block (by omega)
  simp only [World.cell?, this]
set_option maxRecDepth 100000 in
theorem res_7 : ResFn Try.prog 7 := resB_ok Try.func7 (by kernel_rfl)
theorem results_7 : Try.f7.results = #[.tmp 6, .tmp 7] := by kernel_rfl
/-- What Reduce answers of right input. -/
def reduceI (op : Int) (xs : List Int) : Int := if xs = [] then noneI op else (scanI op xs).getLastD 0
section
variable {Post : Value → World → Prop} {n0 : Nat} {W0 : World}
def RedPM (op wk : Int) (xs : List Int) (L : World) (v : Value) (L1 : World) : Prop :=
  (ScanOk op xs wk → v = .tuple #[.int .i64 (reduceI op xs), .int .i64 0]) ∧
  (¬ ScanOk op xs wk → v = .tuple #[.int .i64 0, .int .i64 (if (1 ≤ op ∧ op ≤ 4) ∧ (1 ≤ wk ∧ wk ≤ 16) then 2 else 1)]) ∧ ∀ b, b < L.heap.size → L1.heap[b]? = L.heap[b]?
set_option maxRecDepth 100000 in
set_option maxHeartbeats 4000000 in
theorem reduce_m {A : Option Addr} {c : Nat} {xs : List Int} {op wk : Int} {L : World} {B : Nat} (hR : Rd L B A (ints xs)) (hB : B ≤ L.heap.size) (hx : ∀ x ∈ xs, I64 x) :
    MCalls (InL scanL) Try.prog (fun k g w => Win Try.prog Post n0 W0 k g w) 7 #[.slice A xs.length c, .int .i64 op, .int .i64 wk] false (RedPM op wk xs L) L := by
  have hJ : JOk Try.prog true _ (fun k g w => Win Try.prog Post n0 W0 k g w) := win_jok (P := Try.prog) (Post := Post) (n0 := n0) (W0 := W0)
  refine MCalls.body hJ Try.func7 (c := _) rfl (fun i r hr => ?_) ?_
  · obtain ⟨fn, h1, h2⟩ := res_7
    cases Option.some.inj (h1.symm.trans Try.func7)
    exact h2 i r hr
  simp only [Try.ntmps7, List.size_toArray, List.length_cons, List.length_nil, Nat.reduceAdd, Nat.reduceSub, Array.replicate_succ, Array.replicate_zero, List.push_toArray, List.append_toArray, List.nil_append, List.cons_append]
  have HR := Lib.hid hR; clear hR
  have Hx := Lib.hid hx; clear hx
  refine Mp.piece' hJ scan_ok res_7 (by kernel_rfl) (fun L' => Hid (L'.heap = L.heap)) (fun L' e => Lib.hid e) fun L2 Hs => ?_
  go_wp2
  refine MpPost.normal ?_
  have h2k : Keeps L L2 := keeps_of fun b _ => by rw [Hs.out]
  have hc := scan_m (Post := Post) (n0 := n0) (W0 := W0) (A := A) (c := c) (xs := xs) (op := op) (wk := wk) (L := L2) (B := B) (HR.out.kept hB h2k) (Nat.le_trans hB h2k.1) Hx.out
  refine Mp.seq hJ (Mp.region hJ ?_)
  ((refine MpOps.val hJ scan_ok.bodies rfl (yld rfl _) (okOpB_ok (by kernel_rfl)) (fun w => run_mv _ _ rfl w) ?_; refine MpOps.val hJ scan_ok.bodies rfl (yld rfl _) (okOpB_ok (by kernel_rfl)) (fun w => run_mv _ _ rfl w) ?_; refine MpOps.val hJ scan_ok.bodies rfl (yld rfl _) (okOpB_ok (by kernel_rfl)) (fun w => run_mv _ _ rfl w) ?_))
  refine MpOps.call' hJ rfl (yld rfl _) rfl (fun x hx => ?_) ⟨_, Try.func5, by kernel_rfl, by kernel_rfl⟩ (by simp only [List.map_toArray, List.map_cons, List.map_nil]; rfl) (MCalls.mono hc fun v L3 hv => ?_)
  · simp at hx
    rcases hx with rfl | rfl | rfl <;> trivial
  obtain ⟨hv1, hv2, hv3⟩ := hv
  have h3k : Keeps L L3 := h2k.trans (keeps_of hv3)
  by_cases hok : ScanOk op xs wk
  · obtain ⟨u, rfl, hown⟩ := hv1 hok
    obtain ⟨p, cc, rfl, _, _⟩ := own_form hown
    ((refine MpOps.val hJ scan_ok.bodies rfl (yld rfl _) (okOpB_ok (by kernel_rfl)) (fun w => run_mv _ _ rfl w) ?_; refine MpOps.val hJ scan_ok.bodies rfl (yld rfl _) (okOpB_ok (by kernel_rfl)) (fun w => run_ex _ _ rfl rfl rfl w) ?_; refine MpOps.val hJ scan_ok.bodies rfl (yld rfl _) (okOpB_ok (by kernel_rfl)) (fun w => run_ex _ _ rfl rfl rfl w) ?_; refine MpOps.val hJ scan_ok.bodies rfl (yld rfl _) (okOpB_ok (by kernel_rfl)) (fun w => run_as _ _ rfl w) ?_; refine MpOps.val hJ scan_ok.bodies rfl (yld rfl _) (okOpB_ok (by kernel_rfl)) (fun w => run_as _ _ rfl w) ?_; refine MpOps.nil hJ ?_))
    show Mp _ _ _ _ _ _ _ _ _
    go_simp
    refine Mp.piece' hJ scan_ok res_7 (by kernel_rfl) (fun L' => Hid (L'.heap = L3.heap)) (fun L' e => Lib.hid e) fun L4 H4 => ?_
    go_wp2
    refine MpPost.normal ?_
    have H3 := Lib.hid (And.intro hown (And.intro h3k hok)); clear hown h3k hv1 hv2 hv3 hc h2k hok
    refine Mp.piece' hJ scan_ok res_7 (by kernel_rfl) (fun L' => Hid (L'.heap = L3.heap)) (fun L' e => Lib.hid (e.trans H4.out)) fun L5 H5 => ?_
    clear H4 L4
    by_cases hn : xs = []
    · subst hn
      go_wp2_with (first | (go_at_call 21; refine (nothing_s op _).mono ?_; rintro e w' ⟨rfl, rfl⟩))
      refine MpPost.ret ⟨.inr rfl, fun _ => ?_, fun h => absurd H3.out.2.2 h, (H3.out.2.1.same H5.out).2⟩
      rw [pack_two results_7]
      rfl
    · have hln : 0 < xs.length := List.length_pos_iff.2 hn
      have hli : ((xs.length : Int) == 0) = false := by simp; exact hn
      go_wp2
      refine MpPost.normal ?_
      obtain ⟨g, hp⟩ : ∃ g, p = some ⟨g, 0, none⟩ := by
        rcases H3.out.1.2 with ⟨_, h0⟩ | ⟨g, cap, cur, hv, _⟩
        · omega
        · exact ⟨g, by cases hv; rfl⟩
      subst hp
      have hsl := scanI_length op xs
      have hne : scanI op xs ≠ [] := fun e => by rw [e] at hsl; simp at hsl; omega
      have hcell : L3.cell? ⟨g, xs.length - 1, none⟩ = some (.int .i64 ((scanI op xs).getLastD 0)) := by
        rw [H3.out.1.cellAt _ (by omega)]
        have e2 : (scanI op xs).getLastD 0 = (scanI op xs)[xs.length - 1]'(by omega) := by
          rw [List.getLastD_eq_getLast?, List.getLast?_eq_some_getLast hne, List.getLast_eq_getElem]
          simp only [Option.getD_some, hsl]
        rw [e2]
        simp only [ints, List.getElem?_map, List.getElem?_eq_getElem (show xs.length - 1 < (scanI op xs).length by omega), Option.map_some]
      refine Mp.last' hJ scan_ok res_7 (by kernel_rfl) (fun L' => Hid (L'.heap = L3.heap) ∧ L'.cell? ⟨g, xs.length - 1, none⟩ = some (.int .i64 ((scanI op xs).getLastD 0))) (fun L' e => ⟨Lib.hid (e.trans H5.out), cell_of (e.trans H5.out) hcell⟩) fun L6 hL6 => ?_
      obtain ⟨H6, hc6⟩ := hL6
      clear hcell H5 L5
      generalize hlast : (scanI op xs).getLastD 0 = la at hc6
      have hsub : ((xs.length : Int) - 1) = ((xs.length - 1 : Nat) : Int) := by omega
      have hbig : xs.length ≤ 100000 := H3.out.2.2.2.2
      have hwr : wrap64 ((xs.length - 1 : Nat) : Int) = ((xs.length - 1 : Nat) : Int) := w64 (by unfold I64; omega)
      have hlt : ((xs.length - 1 : Nat) : Int) < (xs.length : Int) := by omega
      go_wp2
      refine MpPost.leave ⟨.inr rfl, fun _ => ?_, fun h => absurd H3.out.2.2 h, (H3.out.2.1.same H6.out).2⟩
      rw [pack_two results_7]
      unfold reduceI
      rw [if_neg hn, hlast]
      rfl
  · obtain rfl := hv2 hok
    ((refine MpOps.val hJ scan_ok.bodies rfl (yld rfl _) (okOpB_ok (by kernel_rfl)) (fun w => run_mv _ _ rfl w) ?_; refine MpOps.val hJ scan_ok.bodies rfl (yld rfl _) (okOpB_ok (by kernel_rfl)) (fun w => run_ex _ _ rfl rfl rfl w) ?_; refine MpOps.val hJ scan_ok.bodies rfl (yld rfl _) (okOpB_ok (by kernel_rfl)) (fun w => run_ex _ _ rfl rfl rfl w) ?_; refine MpOps.val hJ scan_ok.bodies rfl (yld rfl _) (okOpB_ok (by kernel_rfl)) (fun w => run_as _ _ rfl w) ?_; refine MpOps.val hJ scan_ok.bodies rfl (yld rfl _) (okOpB_ok (by kernel_rfl)) (fun w => run_as _ _ rfl w) ?_; refine MpOps.nil hJ ?_))
    show Mp _ _ _ _ _ _ _ _ _
    go_simp
    have hce : ¬ ((if (1 ≤ op ∧ op ≤ 4) ∧ 1 ≤ wk ∧ wk ≤ 16 then 2 else 1 : Int) = 0) := by split <;> decide
    generalize hcode : (if (1 ≤ op ∧ op ≤ 4) ∧ 1 ≤ wk ∧ wk ≤ 16 then 2 else 1 : Int) = code at hce
    have H3 := Lib.hid (And.intro h3k (And.intro hok hcode)); clear h3k hv1 hv2 hv3 hc h2k hok hcode
    have hci : (code == 0) = false := by simpa using hce
    refine Mp.piece' hJ scan_ok res_7 (by kernel_rfl) (fun L' => Hid (L'.heap = L3.heap)) (fun L' e => Lib.hid e) fun L4 H4 => ?_
    go_wp2
    refine MpPost.ret ⟨.inr rfl, fun h => absurd h H3.out.2.1, fun _ => ?_, (H3.out.1.same H4.out).2⟩
    rw [pack_two results_7, H3.out.2.2]
    rfl
end
end Go.Proofs.Ytnabgoljnfaebaa
