/- stepkeep.ScanCuts in company, told of the lone world: it answers true. No conditions but those named. -/
import Derived.Test.YtnabgoljnfaebaaScC
namespace Go.Proofs.Ytnabgoljnfaebaa
open Go.Conc Go.ConcN Go.RowKit Go.ChangeShapes Go.WideShapes Go.ChangeAt
set_option maxRecDepth 100000 in
theorem res_4 : ResFn Try.prog 4 := resB_ok Try.func4 (by kernel_rfl)
theorem results_4 : Try.f4.results = #[.tmp 10] := by kernel_rfl
theorem Rd.takeI {w : World} {B : Nat} {A : Option Addr} {xs : List Int} (h : Rd w B A (ints xs)) (k : Nat) : Rd w B A (ints (xs.take k)) := by
  intro hne
  have hne' : ints xs ≠ [] := fun e => hne (by
    have : xs = [] := by simpa [ints] using e
    subst this; simp [ints])
  obtain ⟨g, o, e, hg, hc⟩ := h hne'
  refine ⟨g, o, e, hg, fun i v hv => hc i v ?_⟩
  simp only [ints, List.getElem?_map, List.getElem?_take] at hv ⊢
  split at hv
  · exact hv
  · cases hv
theorem Rd.dropI {w : World} {B g o : Nat} {xs : List Int} (h : Rd w B (some ⟨g, o, none⟩) (ints xs)) (k : Nat) : Rd w B (some ⟨g, o + k, none⟩) (ints (xs.drop k)) := by
  intro hne
  have hne' : ints xs ≠ [] := fun e => hne (by
    have : xs = [] := by simpa [ints] using e
    subst this; simp [ints])
  obtain ⟨g', o', e, hg, hc⟩ := h hne'
  cases e
  refine ⟨g, o + k, rfl, hg, fun i v hv => ?_⟩
  have := hc (k + i) v (by simpa only [ints, List.getElem?_map, List.getElem?_drop] using hv)
  rw [← Nat.add_assoc] at this
  exact this
section
variable {Post : Value → World → Prop} {n0 : Nat} {W0 : World}
/-- What is asked at the end. -/
def EndC (e : Exit) (a1 : Act) (_ : World) : Prop := (e = .normal ∨ e = .ret) ∧ pack (resVals Try.f4 a1.tmps) = .bool true
theorem endC_ret {T : Array Value} {L : World} (h : T.getD 10 undef = .bool true) : EndC .ret ⟨T, []⟩ L := ⟨.inr rfl, by rw [pack_one results_4]; exact h⟩
set_option maxRecDepth 100000 in
set_option maxHeartbeats 4000000 in
theorem cuts_tail {A : Option Addr} {c : Nat} {xs : List Int} {op cut one two : Int} {L : World} {B : Nat} (hR : Rd L B A (ints xs)) (hB : B ≤ L.heap.size) (hx : ∀ x ∈ xs, I64 x) (hl : xs.length ≤ 1000) (hlc : xs.length ≤ c) (hcut : I64 cut) {c0 c1 code : Code} (hcode : Try.f4.body = some (.seq c0 (.seq c1 code))) {u20 u21 u22 u23 u24 : Value} :
    Mp (InL scanL) Try.prog (fun k g w => Win Try.prog Post n0 W0 k g w) 4 code false EndC ⟨#[.slice A xs.length c, .int .i64 op, .int .i64 cut, .int .i64 one, .int .i64 two] ++ Array.replicate 5 undef ++ #[.bool false] ++ Array.replicate 9 undef ++ #[u20, u21, u22, u23, u24] ++ Array.replicate 102 undef, []⟩ L := by
  have hJ : JOk Try.prog true _ (fun k g w => Win Try.prog Post n0 W0 k g w) := win_jok (P := Try.prog) (Post := Post) (n0 := n0) (W0 := W0)
  have hcode' := (show Try.f4.body = some (.seq _ (.seq _ _)) from rfl).symm.trans hcode
  obtain ⟨-, hcode2⟩ := Code.seq.inj (Option.some.inj hcode')
  obtain ⟨-, rfl⟩ := Code.seq.inj hcode2
  clear hcode hcode' hcode2
  simp only [Array.replicate_succ, Array.replicate_zero, List.push_toArray, List.append_toArray, List.nil_append, List.cons_append]
  have HR := Lib.hid hR; clear hR
  have Hx := Lib.hid hx; clear hx
  have hc1 := scan_m (Post := Post) (n0 := n0) (W0 := W0) (A := A) (c := c) (xs := xs) (op := op) (wk := one) (L := L) (B := B) HR.out hB Hx.out
  refine Mp.seq hJ (Mp.region hJ ?_)
  (refine MpOps.val hJ scan_ok.bodies rfl (yld rfl _) (okOpB_ok (by kernel_rfl)) (fun w => run_mv _ _ rfl w) ?_; refine MpOps.val hJ scan_ok.bodies rfl (yld rfl _) (okOpB_ok (by kernel_rfl)) (fun w => run_mv _ _ rfl w) ?_; refine MpOps.val hJ scan_ok.bodies rfl (yld rfl _) (okOpB_ok (by kernel_rfl)) (fun w => run_mv _ _ rfl w) ?_)
  refine MpOps.call' hJ rfl (yld rfl _) rfl (fun x hx => ?_) ⟨_, Try.func5, by kernel_rfl, by kernel_rfl⟩ (by simp only [List.map_toArray, List.map_cons, List.map_nil]; rfl) (MCalls.mono hc1 fun v L3 hv => ?_)
  · simp at hx
    rcases hx with rfl | rfl | rfl <;> trivial
  obtain ⟨hv1, hv2, hv3⟩ := hv
  clear hc1
  have k3 : Keeps L L3 := keeps_of hv3
  clear hv3
  by_cases hok1 : ScanOk op xs one
  rotate_left
  · obtain rfl := hv2 hok1
    have hce : ¬ ((if (1 ≤ op ∧ op ≤ 4) ∧ 1 ≤ one ∧ one ≤ 16 then 2 else 1 : Int) = 0) := by split <;> decide
    clear hv1 hv2 hok1
    generalize (if (1 ≤ op ∧ op ≤ 4) ∧ 1 ≤ one ∧ one ≤ 16 then 2 else 1 : Int) = code at hce
    have hci : (code == 0) = false := by simpa using hce
    (refine MpOps.val hJ scan_ok.bodies rfl (yld rfl _) (okOpB_ok (by kernel_rfl)) (fun w => run_mv _ _ rfl w) ?_; go_simp; refine MpOps.val hJ scan_ok.bodies rfl (yld rfl _) (okOpB_ok (by kernel_rfl)) (fun w => run_ex _ _ rfl rfl rfl w) ?_; go_simp; refine MpOps.val hJ scan_ok.bodies rfl (yld rfl _) (okOpB_ok (by kernel_rfl)) (fun w => run_ex _ _ rfl rfl rfl w) ?_; refine MpOps.val hJ scan_ok.bodies rfl (yld rfl _) (okOpB_ok (by kernel_rfl)) (fun w => run_as _ _ rfl w) ?_; refine MpOps.val hJ scan_ok.bodies rfl (yld rfl _) (okOpB_ok (by kernel_rfl)) (fun w => run_as _ _ rfl w) ?_; refine MpOps.nil hJ ?_)
    show Mp _ _ _ _ _ _ _ _ _
    go_simp
    refine Mp.piece' hJ scan_ok res_4 (by kernel_rfl) (fun L' => Hid (L'.heap = L3.heap)) (fun L' e => Lib.hid e) fun L4 H4 => ?_
    clear k3
    go_wp2
    refine MpPost.ret (endC_ret ?_)
    rfl
  obtain ⟨u, rfl, hown⟩ := hv1 hok1
  obtain ⟨p1, cc1, rfl, _, _⟩ := own_form hown
  have r1 : Rd L3 L3.heap.size p1 (ints (scanI op xs)) := own_rd hown rfl
  have Hok1 := Lib.hid hok1
  clear hv1 hv2 hok1 hown
  (refine MpOps.val hJ scan_ok.bodies rfl (yld rfl _) (okOpB_ok (by kernel_rfl)) (fun w => run_mv _ _ rfl w) ?_; go_simp; refine MpOps.val hJ scan_ok.bodies rfl (yld rfl _) (okOpB_ok (by kernel_rfl)) (fun w => run_ex _ _ rfl rfl rfl w) ?_; go_simp; refine MpOps.val hJ scan_ok.bodies rfl (yld rfl _) (okOpB_ok (by kernel_rfl)) (fun w => run_ex _ _ rfl rfl rfl w) ?_; refine MpOps.val hJ scan_ok.bodies rfl (yld rfl _) (okOpB_ok (by kernel_rfl)) (fun w => run_as _ _ rfl w) ?_; refine MpOps.val hJ scan_ok.bodies rfl (yld rfl _) (okOpB_ok (by kernel_rfl)) (fun w => run_as _ _ rfl w) ?_; refine MpOps.nil hJ ?_)
  show Mp _ _ _ _ _ _ _ _ _
  go_simp
  refine Mp.piece' hJ scan_ok res_4 (by kernel_rfl) (fun L' => Hid (L'.heap = L3.heap)) (fun L' e => Lib.hid e) fun L4 H4 => ?_
  have K3 := Lib.hid k3; clear k3
  have R1 := Lib.hid r1; clear r1
  have HB := Lib.hid hB; clear hB
  go_wp2
  refine MpPost.normal ?_
  have k4 : Keeps L L4 := K3.out.trans (keeps_of fun b _ => by rw [H4.out])
  have r14 : Rd L4 L3.heap.size p1 (ints (scanI op xs)) := R1.out.kept (Nat.le_refl _) (keeps_of fun b _ => by rw [H4.out])
  have hz4 : L3.heap.size ≤ L4.heap.size := by rw [H4.out]; exact Nat.le_refl _
  clear H4
  have hc2 := scan_m (Post := Post) (n0 := n0) (W0 := W0) (A := A) (c := c) (xs := xs) (op := op) (wk := two) (L := L4) (B := B) (HR.out.kept HB.out k4) (Nat.le_trans HB.out k4.1) Hx.out
  refine Mp.seq hJ (Mp.region hJ ?_)
  (refine MpOps.val hJ scan_ok.bodies rfl (yld rfl _) (okOpB_ok (by kernel_rfl)) (fun w => run_mv _ _ rfl w) ?_; refine MpOps.val hJ scan_ok.bodies rfl (yld rfl _) (okOpB_ok (by kernel_rfl)) (fun w => run_mv _ _ rfl w) ?_; refine MpOps.val hJ scan_ok.bodies rfl (yld rfl _) (okOpB_ok (by kernel_rfl)) (fun w => run_mv _ _ rfl w) ?_)
  refine MpOps.call' hJ rfl (yld rfl _) rfl (fun x hx => ?_) ⟨_, Try.func5, by kernel_rfl, by kernel_rfl⟩ (by simp only [List.map_toArray, List.map_cons, List.map_nil]; rfl) (MCalls.mono hc2 fun v L5 hv => ?_)
  · simp at hx
    rcases hx with rfl | rfl | rfl <;> trivial
  obtain ⟨hv1, hv2, hv3⟩ := hv
  clear hc2
  have k45 : Keeps L4 L5 := keeps_of hv3
  clear hv3
  by_cases hok2 : ScanOk op xs two
  rotate_left
  · obtain rfl := hv2 hok2
    have hce : ¬ ((if (1 ≤ op ∧ op ≤ 4) ∧ 1 ≤ two ∧ two ≤ 16 then 2 else 1 : Int) = 0) := by split <;> decide
    clear hv1 hv2 hok2
    generalize (if (1 ≤ op ∧ op ≤ 4) ∧ 1 ≤ two ∧ two ≤ 16 then 2 else 1 : Int) = code at hce
    have hci : (code == 0) = false := by simpa using hce
    (refine MpOps.val hJ scan_ok.bodies rfl (yld rfl _) (okOpB_ok (by kernel_rfl)) (fun w => run_mv _ _ rfl w) ?_; go_simp; refine MpOps.val hJ scan_ok.bodies rfl (yld rfl _) (okOpB_ok (by kernel_rfl)) (fun w => run_ex _ _ rfl rfl rfl w) ?_; go_simp; refine MpOps.val hJ scan_ok.bodies rfl (yld rfl _) (okOpB_ok (by kernel_rfl)) (fun w => run_ex _ _ rfl rfl rfl w) ?_; refine MpOps.val hJ scan_ok.bodies rfl (yld rfl _) (okOpB_ok (by kernel_rfl)) (fun w => run_as _ _ rfl w) ?_; refine MpOps.val hJ scan_ok.bodies rfl (yld rfl _) (okOpB_ok (by kernel_rfl)) (fun w => run_as _ _ rfl w) ?_; refine MpOps.nil hJ ?_)
    show Mp _ _ _ _ _ _ _ _ _
    go_simp
    refine Mp.piece' hJ scan_ok res_4 (by kernel_rfl) (fun L' => Hid (L'.heap = L5.heap)) (fun L' e => Lib.hid e) fun L6 H6 => ?_
    clear k45 k4 r14 hz4
    go_wp2
    refine MpPost.ret (endC_ret ?_)
    rfl
  obtain ⟨u, rfl, hown⟩ := hv1 hok2
  obtain ⟨p2, cc2, rfl, _, _⟩ := own_form hown
  have r2 : Rd L5 L5.heap.size p2 (ints (scanI op xs)) := own_rd hown rfl
  have r15 : Rd L5 L3.heap.size p1 (ints (scanI op xs)) := r14.kept hz4 k45
  have k5 : Keeps L L5 := k4.trans k45
  have Hok2 := Lib.hid hok2
  have Z := Lib.hid (Nat.le_trans hz4 k45.1)
  clear hv1 hv2 hok2 hown k4 k45 r14 hz4
  have hlen : (scanI op xs).length = xs.length := scanI_length op xs
  have K5 := Lib.hid k5; clear k5
  have R15 := Lib.hid r15; clear r15
  have R2 := Lib.hid r2; clear r2
  have Hlen := Lib.hid hlen; clear hlen
  (refine MpOps.val hJ scan_ok.bodies rfl (yld rfl _) (okOpB_ok (by kernel_rfl)) (fun w => run_mv _ _ rfl w) ?_; go_simp; refine MpOps.val hJ scan_ok.bodies rfl (yld rfl _) (okOpB_ok (by kernel_rfl)) (fun w => run_ex _ _ rfl rfl rfl w) ?_; go_simp; refine MpOps.val hJ scan_ok.bodies rfl (yld rfl _) (okOpB_ok (by kernel_rfl)) (fun w => run_ex _ _ rfl rfl rfl w) ?_; refine MpOps.val hJ scan_ok.bodies rfl (yld rfl _) (okOpB_ok (by kernel_rfl)) (fun w => run_as _ _ rfl w) ?_; refine MpOps.val hJ scan_ok.bodies rfl (yld rfl _) (okOpB_ok (by kernel_rfl)) (fun w => run_as _ _ rfl w) ?_; refine MpOps.nil hJ ?_)
  show Mp _ _ _ _ _ _ _ _ _
  go_simp
  refine Mp.piece' hJ scan_ok res_4 (by kernel_rfl) (fun L' => Hid (L'.heap = L5.heap)) (fun L' e => Lib.hid e) fun L6 H6 => ?_
  go_wp2
  refine MpPost.normal ?_
  -- Same
  refine Mp.piece' hJ scan_ok res_4 (by kernel_rfl) (fun L' => Hid (L'.heap = L5.heap)) (fun L' e => Lib.hid (e.trans H6.out)) fun L7 H7 => ?_
  have HSm : Hid (∀ W : World, W.heap = L7.heap → Calls Try.prog 8 #[.slice p1 xs.length cc1, .slice p2 xs.length cc2] W fun e w' => e = .returned (.bool true) ∧ Keeps L5 w') := Lib.hid fun W e => by
    have e2 : W.heap = L5.heap := e.trans H7.out
    have h1 : Rd W W.heap.size p1 (ints (scanI op xs)) := (R15.out.kept Z.out (keeps_of fun b _ => by rw [e2])).more (by rw [e2]; exact Z.out)
    have h2 : Rd W W.heap.size p2 (ints (scanI op xs)) := (R2.out.kept (Nat.le_refl _) (keeps_of fun b _ => by rw [e2])).more (by rw [e2]; exact Nat.le_refl _)
    have h3 := same_s W W.heap.size p1 p2 cc1 cc2 (scanI op xs) h1 h2 (Nat.le_refl _) (by rw [Hlen.out]; omega)
    rw [Hlen.out] at h3
    refine h3.mono ?_
    rintro e' w' ⟨rfl, hb⟩
    exact ⟨rfl, (keeps_of fun b _ => by rw [e2]).trans (Keeps.below hb)⟩
  clear H6 L6
  go_wp2_with (first | (go_at_call 8; refine (HSm.out _ rfl).mono ?_; rintro e w' ⟨rfl, hb⟩; have Hb := Lib.hid hb; clear hb))
  refine MpPost.normal ?_
  clear HSm H7 L7
  rename_i L8
  -- Rest
  refine Mp.piece' hJ scan_ok res_4 (by kernel_rfl) (fun L' => Hid (Keeps L5 L')) (fun L' e => Lib.hid (Hb.out.trans (keeps_of fun b _ => by rw [e]))) fun L9 H9 => ?_
  clear Hb L8
  obtain ⟨k, hk, hkl⟩ : ∃ k : Nat, cut % ((xs.length : Int) + 1) = (k : Int) ∧ k ≤ xs.length := ⟨(cut % ((xs.length : Int) + 1)).toNat, by have := Int.emod_nonneg cut (show (xs.length : Int) + 1 ≠ 0 by omega); omega, by have := Int.emod_lt_of_pos cut (show 0 < (xs.length : Int) + 1 by omega); omega⟩
  have hrest : Hid (∀ W : World, Calls Try.prog 10 #[.int .i64 cut, .int .i64 ((xs.length : Int) + 1)] W fun e w' => e = .returned (.int .i64 (k : Int)) ∧ W = w') := Lib.hid fun W => by
    have := restR_s cut ((xs.length : Int) + 1) W hcut (by omega) (by unfold I64; omega)
    rw [hk] at this
    exact this
  clear hk
  have hw1 : wrap64 ((xs.length : Int) + 1) = (xs.length : Int) + 1 := w64 (by unfold I64; omega)
  go_wp2_with (first | (go_at_call 10; refine (hrest.out _).mono ?_; rintro e w' ⟨rfl, rfl⟩))
  refine MpPost.normal ?_
  clear hrest hw1
  refine Mp.piece' hJ scan_ok res_4 (by kernel_rfl) (fun L' => Hid (Keeps L5 L')) (fun L' e => Lib.hid (H9.out.trans (keeps_of fun b _ => by rw [e]))) fun L10 H10 => ?_
  clear H9 L9
  have Hcut := Lib.hid hcut; clear hcut
  by_cases hk0 : k = 0
  · subst hk0
    go_wp2
    refine MpPost.ret (endC_ret ?_)
    rfl
  by_cases hkn : k = xs.length
  · have hk0' : ((xs.length : Int) == 0) = false := by simp; intro e; exact hk0 (by rw [hkn, e]; rfl)
    subst hkn
    go_wp2
    refine MpPost.ret (endC_ret ?_)
    rfl
  have hk0' : ((k : Int) == 0) = false := by simp; omega
  have hkn' : ((k : Int) == (xs.length : Int)) = false := by simp; omega
  go_wp2
  refine MpPost.normal ?_
  have hkp : 0 < k := Nat.pos_of_ne_zero hk0
  have hkl' : k < xs.length := Nat.lt_of_le_of_ne hkl hkn
  clear hk0' hkn' hk0 hkn hkl
  have k10 : Keeps L L10 := K5.out.trans H10.out
  have htl : (xs.take k).length = k := by simp; omega
  have hokt : ∀ ys : List Int, ys.length ≤ 1000 → ScanOk op ys one ∧ ScanOk op ys two := fun ys h => ⟨⟨Hok1.out.1, Hok1.out.2.1, by omega⟩, ⟨Hok2.out.1, Hok2.out.2.1, by omega⟩⟩
  have hc3 := reduce_m (Post := Post) (n0 := n0) (W0 := W0) (A := A) (c := k) (xs := xs.take k) (op := op) (wk := one) (L := L10) (B := B) ((HR.out.kept HB.out k10).takeI k) (Nat.le_trans HB.out k10.1) (fun x hx => Hx.out x (List.mem_of_mem_take hx))
  rw [htl] at hc3
  refine Mp.seq hJ (Mp.region hJ ?_)
  (refine MpOps.val hJ scan_ok.bodies rfl (yld rfl _) (okOpB_ok (by kernel_rfl)) (fun w => run_mv _ _ rfl w) ?_; refine MpOps.val hJ scan_ok.bodies rfl (yld rfl _) (okOpB_ok (by kernel_rfl)) (fun w => run_mv _ _ rfl w) ?_; refine MpOps.val hJ scan_ok.bodies rfl (yld rfl _) (okOpB_ok (by kernel_rfl)) (fun w => run_mv _ _ rfl w) ?_)
  go_simp
  refine MpOps.val' hJ scan_ok.bodies rfl (yld rfl _) (okOpB_ok (by kernel_rfl)) (fun w => run_sl_hm elem_i64 size_i64 _ _ (k := k) rfl rfl rfl rfl (by omega) w) ?_
  go_simp
  (refine MpOps.val hJ scan_ok.bodies rfl (yld rfl _) (okOpB_ok (by kernel_rfl)) (fun w => run_mv _ _ rfl w) ?_; refine MpOps.val hJ scan_ok.bodies rfl (yld rfl _) (okOpB_ok (by kernel_rfl)) (fun w => run_mv _ _ rfl w) ?_)
  refine MpOps.call' hJ rfl (yld rfl _) rfl (fun x hx => ?_) ⟨_, Try.func7, by kernel_rfl, by kernel_rfl⟩ (by simp only [List.map_toArray, List.map_cons, List.map_nil]; rfl) (MCalls.mono hc3 fun v L11 hv => ?_)
  · simp at hx
    rcases hx with rfl | rfl | rfl <;> trivial
  obtain ⟨hv1, _, hv3⟩ := hv
  have k11 : Keeps L10 L11 := keeps_of hv3
  obtain rfl := hv1 (hokt _ (by rw [htl]; omega)).1
  clear hv1 hv3 hc3
  (refine MpOps.val hJ scan_ok.bodies rfl (yld rfl _) (okOpB_ok (by kernel_rfl)) (fun w => run_mv _ _ rfl w) ?_; go_simp; refine MpOps.val hJ scan_ok.bodies rfl (yld rfl _) (okOpB_ok (by kernel_rfl)) (fun w => run_ex _ _ rfl rfl rfl w) ?_; go_simp; refine MpOps.val hJ scan_ok.bodies rfl (yld rfl _) (okOpB_ok (by kernel_rfl)) (fun w => run_ex _ _ rfl rfl rfl w) ?_; refine MpOps.val hJ scan_ok.bodies rfl (yld rfl _) (okOpB_ok (by kernel_rfl)) (fun w => run_as _ _ rfl w) ?_; refine MpOps.val hJ scan_ok.bodies rfl (yld rfl _) (okOpB_ok (by kernel_rfl)) (fun w => run_as _ _ rfl w) ?_; refine MpOps.nil hJ ?_)
  show Mp _ _ _ _ _ _ _ _ _
  go_simp
  generalize hxv : reduceI op (xs.take k) = xv
  obtain ⟨g, o, rfl, hgB, _⟩ := HR.out (fun e => by have := congrArg List.length e; rw [length_ints] at this; simp at this; subst this; simp at hkl')
  have k11' : Keeps L L11 := k10.trans k11
  have hdl : (xs.drop k).length = xs.length - k := by simp
  have hc4 := reduce_m (Post := Post) (n0 := n0) (W0 := W0) (A := some ⟨g, o + k, none⟩) (c := c - k) (xs := xs.drop k) (op := op) (wk := two) (L := L11) (B := B) ((HR.out.kept HB.out k11').dropI k) (Nat.le_trans HB.out k11'.1) (fun x hx => Hx.out x (List.mem_of_mem_drop hx))
  rw [hdl] at hc4
  refine Mp.seq hJ (Mp.region hJ ?_)
  (refine MpOps.val hJ scan_ok.bodies rfl (yld rfl _) (okOpB_ok (by kernel_rfl)) (fun w => run_mv _ _ rfl w) ?_; refine MpOps.val hJ scan_ok.bodies rfl (yld rfl _) (okOpB_ok (by kernel_rfl)) (fun w => run_mv _ _ rfl w) ?_)
  go_simp
  refine MpOps.val' hJ scan_ok.bodies rfl (yld rfl _) (okOpB_ok (by kernel_rfl)) (fun w => run_sl_l elem_i64 size_i64 _ _ (k := k) rfl rfl rfl (Nat.le_of_lt hkl') (Nat.lt_of_lt_of_le hkl' hlc) w) ?_
  rw [Nat.mul_one]
  go_simp
  (refine MpOps.val hJ scan_ok.bodies rfl (yld rfl _) (okOpB_ok (by kernel_rfl)) (fun w => run_mv _ _ rfl w) ?_; refine MpOps.val hJ scan_ok.bodies rfl (yld rfl _) (okOpB_ok (by kernel_rfl)) (fun w => run_mv _ _ rfl w) ?_)
  refine MpOps.call' hJ rfl (yld rfl _) rfl (fun x hx => ?_) ⟨_, Try.func7, by kernel_rfl, by kernel_rfl⟩ (by simp only [List.map_toArray, List.map_cons, List.map_nil]; rfl) (MCalls.mono hc4 fun v L12 hv => ?_)
  · simp at hx
    rcases hx with rfl | rfl | rfl <;> trivial
  obtain ⟨hv1, _, hv3⟩ := hv
  have k12 : Keeps L11 L12 := keeps_of hv3
  obtain rfl := hv1 (hokt _ (by rw [hdl]; omega)).2
  clear hv1 hv3 hc4
  (refine MpOps.val hJ scan_ok.bodies rfl (yld rfl _) (okOpB_ok (by kernel_rfl)) (fun w => run_mv _ _ rfl w) ?_; go_simp; refine MpOps.val hJ scan_ok.bodies rfl (yld rfl _) (okOpB_ok (by kernel_rfl)) (fun w => run_ex _ _ rfl rfl rfl w) ?_; go_simp; refine MpOps.val hJ scan_ok.bodies rfl (yld rfl _) (okOpB_ok (by kernel_rfl)) (fun w => run_ex _ _ rfl rfl rfl w) ?_; refine MpOps.val hJ scan_ok.bodies rfl (yld rfl _) (okOpB_ok (by kernel_rfl)) (fun w => run_as _ _ rfl w) ?_; refine MpOps.val hJ scan_ok.bodies rfl (yld rfl _) (okOpB_ok (by kernel_rfl)) (fun w => run_as _ _ rfl w) ?_; refine MpOps.nil hJ ?_)
  show Mp _ _ _ _ _ _ _ _ _
  go_simp
  generalize hyv : reduceI op (xs.drop k) = yv
  -- the row of both
  refine Mp.seq hJ (Mp.region hJ ?_)
  (refine MpOps.val hJ scan_ok.bodies rfl (yld rfl _) (okOpB_ok (by kernel_rfl)) (fun w => run_mv _ _ rfl w) ?_; refine MpOps.val hJ scan_ok.bodies rfl (yld rfl _) (okOpB_ok (by kernel_rfl)) (fun w => run_mv _ _ rfl w) ?_)
  go_simp
  refine MpOps.new hJ scan_ok.bodies rfl (yld rfl _) (okOpB_ok (by kernel_rfl)) (x := .cells #[.int .i64 xv, .int .i64 yv] 2) (v := .slice (some ⟨L12.heap.size, 0, none⟩) 2 2) (fun w hw => (run_bs2 _ _ rfl rfl rfl w).trans (by rw [hw])) ?_
  go_simp
  (refine MpOps.val hJ scan_ok.bodies rfl (yld rfl _) (okOpB_ok (by kernel_rfl)) (fun w => run_mv _ _ rfl w) ?_; refine MpOps.val hJ scan_ok.bodies rfl (yld rfl _) (okOpB_ok (by kernel_rfl)) (fun w => run_mv _ _ rfl w) ?_)
  have hbx : I64 xv ∧ I64 yv := by
    have red : ∀ ys : List Int, ys ≠ [] → (∀ x ∈ ys, I64 x) → I64 (reduceI op ys) := fun ys h h2 => scanI_i64 op ys h2 _ (List.mem_of_getElem? (reduce_last h))
    refine ⟨hxv ▸ red _ (fun e => by rw [e] at htl; simp at htl; omega) fun x hx => Hx.out x (List.mem_of_mem_take hx), hyv ▸ red _ (fun e => by rw [e] at hdl; simp at hdl; omega) fun x hx => Hx.out x (List.mem_of_mem_drop hx)⟩
  have hrn : Rd (L12.alloc (.cells #[.int .i64 xv, .int .i64 yv] 2)) (L12.heap.size + 1) (some ⟨L12.heap.size, 0, none⟩) (ints [xv, yv]) := fun _ => ⟨L12.heap.size, 0, rfl, by omega, fun i v hv => by
    match i, hv with
    | 0, hv => simp [ints] at hv; subst hv; simp only [World.cell?, heap_alloc_new]; rfl
    | 1, hv => simp [ints] at hv; subst hv; simp only [World.cell?, heap_alloc_new]; rfl
    | i + 2, hv => simp [ints] at hv⟩
  have hc5 := reduce_m (Post := Post) (n0 := n0) (W0 := W0) (A := some ⟨L12.heap.size, 0, none⟩) (c := 2) (xs := [xv, yv]) (op := op) (wk := one) (L := L12.alloc (.cells #[.int .i64 xv, .int .i64 yv] 2)) (B := L12.heap.size + 1) hrn (by rw [World.size_alloc]; exact Nat.le_refl _) (fun x hx => by simp at hx; rcases hx with rfl | rfl; exact hbx.1; exact hbx.2)
  refine MpOps.call' hJ rfl (yld rfl _) rfl (fun x hx => ?_) ⟨_, Try.func7, by kernel_rfl, by kernel_rfl⟩ (by simp only [List.map_toArray, List.map_cons, List.map_nil]; rfl) (MCalls.mono hc5 fun v L13 hv => ?_)
  · simp at hx
    rcases hx with rfl | rfl | rfl <;> trivial
  obtain ⟨hv1, _, hv3⟩ := hv
  have k13 : Keeps L12 L13 := (Keeps.alloc (L := L12) rfl rfl).trans (keeps_of hv3)
  obtain rfl := hv1 (hokt _ (by simp)).1
  clear hv1 hv3 hc5 hrn
  (refine MpOps.val hJ scan_ok.bodies rfl (yld rfl _) (okOpB_ok (by kernel_rfl)) (fun w => run_mv _ _ rfl w) ?_; go_simp; refine MpOps.val hJ scan_ok.bodies rfl (yld rfl _) (okOpB_ok (by kernel_rfl)) (fun w => run_ex _ _ rfl rfl rfl w) ?_; go_simp; refine MpOps.val hJ scan_ok.bodies rfl (yld rfl _) (okOpB_ok (by kernel_rfl)) (fun w => run_ex _ _ rfl rfl rfl w) ?_; refine MpOps.val hJ scan_ok.bodies rfl (yld rfl _) (okOpB_ok (by kernel_rfl)) (fun w => run_as _ _ rfl w) ?_; refine MpOps.val hJ scan_ok.bodies rfl (yld rfl _) (okOpB_ok (by kernel_rfl)) (fun w => run_as _ _ rfl w) ?_; refine MpOps.nil hJ ?_)
  show Mp _ _ _ _ _ _ _ _ _
  go_simp
  have hfin : reduceI op [xv, yv] = reduceI op xs := by rw [reduce_two, ← hxv, ← hyv, reduce_cut hkp hkl']
  rw [hfin]
  have hlast : (scanI op xs)[xs.length - 1]? = some (reduceI op xs) := reduce_last (fun e => by subst e; simp at hkl')
  have hat : (scanI op xs)[k - 1]? = some xv := by rw [reduce_take hkp (Nat.le_of_lt hkl'), hxv]
  have kf : Keeps L5 L13 := ((H10.out.trans k11).trans k12).trans k13
  have rf : Rd L13 L3.heap.size p1 (ints (scanI op xs)) := R15.out.kept Z.out kf
  obtain ⟨g1, o1, rfl, _, hcells⟩ := rf (fun e => by have := congrArg List.length e; rw [length_ints, Hlen.out, List.length_nil] at this; omega)
  have hcl : L13.cell? ⟨g1, o1 + (xs.length - 1), none⟩ = some (.int .i64 (reduceI op xs)) := hcells _ _ (by simp only [ints, List.getElem?_map, hlast, Option.map_some])
  have hca : L13.cell? ⟨g1, o1 + (k - 1), none⟩ = some (.int .i64 xv) := hcells _ _ (by simp only [ints, List.getElem?_map, hat, Option.map_some])
  generalize reduceI op xs = r at hcl
  refine Mp.last' hJ scan_ok res_4 (by kernel_rfl) (fun L' => L'.cell? ⟨g1, o1 + (xs.length - 1), none⟩ = some (.int .i64 r) ∧ L'.cell? ⟨g1, o1 + (k - 1), none⟩ = some (.int .i64 xv)) (fun L' e => ⟨cell_of e hcl, cell_of e hca⟩) fun L14 hL14 => ?_
  obtain ⟨hd1, hd2⟩ := hL14
  clear hcl hca hcells rf kf hat hlast hfin k13 k12 k11 k10 k11' hokt htl hdl hxv hyv hbx HR Hx HB K3 R1 K5 R15 R2 Hlen Hok1 Hok2 Z H10
  have e1 : wrap64 ((xs.length : Int) - 1) = ((xs.length - 1 : Nat) : Int) := by rw [w64 (by unfold I64; omega)]; omega
  have e2 : wrap64 ((k : Int) - 1) = ((k - 1 : Nat) : Int) := by rw [w64 (by unfold I64; omega)]; omega
  have i1 : ((xs.length - 1 : Nat) : Int) < (xs.length : Int) := by omega
  have i2 : ((k - 1 : Nat) : Int) < (xs.length : Int) := by omega
  go_wp2
  refine MpPost.leave (endC_ret ?_)
  first
    | rfl
    | (show Value.bool _ = _; simp)
end
end Go.Proofs.Ytnabgoljnfaebaa
