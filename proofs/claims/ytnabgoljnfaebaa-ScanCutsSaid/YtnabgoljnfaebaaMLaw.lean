/- steplaw.ScanScans in company, told of the lone world: it answers true. No conditions but those named. -/
import Derived.Test.YtnabgoljnfaebaaMRed
namespace Go.Proofs.Ytnabgoljnfaebaa
open Go.Conc Go.ConcN Go.RowKit Go.ChangeShapes Go.WideShapes Go.ChangeAt
set_option maxRecDepth 100000 in
theorem res_3 : ResFn Try.prog 3 := resB_ok Try.func3 (by kernel_rfl)
theorem results_3 : Try.f3.results = #[.tmp 6] := by kernel_rfl
theorem pack_one {fn : Func} {i : Tmp} (h : fn.results = #[.tmp i]) (T : Array Value) : pack (resVals fn T) = T.getD i undef := by
  simp [resVals, h, pack]
theorem own_rd {w : World} {base n : Nat} {e : TypeId} {v : Value} {vs : List Value} {p : Option Addr} {cc : Nat} (h : w.ownsRow base e 1 v n vs) (hv : v = .slice p n cc) : Rd w w.heap.size p vs := by
  subst hv
  intro hne
  rcases h.2 with ⟨_, h0⟩ | ⟨g, cap, cur, hv, _, hg, _, _, _, ht⟩
  · exfalso
    have := h.1
    rw [h0] at this
    exact hne (List.eq_nil_of_length_eq_zero (by omega))
  · cases hv
    refine ⟨g, 0, rfl, (Array.getElem?_eq_some_iff.1 hg).1, fun i u hu => ?_⟩
    have hi : i < n * 1 := by rw [← h.1]; exact (List.getElem?_eq_some_iff.1 hu).1
    rw [Nat.zero_add, h.cellAt i hi]
    exact hu
/-- One form for right and for wrong input. -/
structure Said (op wk : Int) (xs ys : List Int) (code red : Int) : Prop where
  len : ys.length ≤ 100000
  ok : (code = 0 ∧ ys = scanI op xs ∧ red = reduceI op xs ∧ ys.length = xs.length) ∨ (code ≠ 0 ∧ ys = [] ∧ red = 0)
  scan : ∀ v L L1, ScanPM op wk xs L v L1 → ∃ p c, v = .tuple #[.slice p ys.length c, .int .i64 code] ∧ Rd L1 L1.heap.size p (ints ys) ∧ Keeps L L1
  reds : ∀ v L L1, RedPM op wk xs L v L1 → v = .tuple #[.int .i64 red, .int .i64 code] ∧ Keeps L L1
theorem said (op wk : Int) (xs : List Int) : ∃ ys code red, Said op wk xs ys code red := by
  by_cases hok : ScanOk op xs wk
  · refine ⟨scanI op xs, 0, reduceI op xs, by rw [scanI_length]; exact hok.2.2, .inl ⟨rfl, rfl, rfl, scanI_length ..⟩, fun v L L1 h => ?_, fun v L L1 h => ⟨h.1 hok, keeps_of h.2.2⟩⟩
    obtain ⟨u, rfl, hown⟩ := h.1 hok
    obtain ⟨p, cc, rfl, _, _⟩ := own_form hown
    exact ⟨p, cc, by rw [scanI_length], own_rd hown rfl, keeps_of h.2.2⟩
  · refine ⟨[], _, 0, by simp, .inr ⟨?_, rfl, rfl⟩, fun v L L1 h => ⟨none, 0, h.2.1 hok, .nil _ _ _, keeps_of h.2.2⟩, fun v L L1 h => ⟨h.2.1 hok, keeps_of h.2.2⟩⟩
    split <;> decide
theorem cell_of' {w w' : World} {g o : Nat} {v : Value} (h : w'.heap[g]? = w.heap[g]?) (hc : w.cell? ⟨g, o, none⟩ = some v) : w'.cell? ⟨g, o, none⟩ = some v := by rw [← hc]; simp only [World.cell?, h]
section
variable {Post : Value → World → Prop} {n0 : Nat} {W0 : World}
theorem scanned_m {A : Option Addr} {c : Nat} {xs : List Int} {op wk : Int} {L : World} {B : Nat} (hR : Rd L B A (ints xs)) (hB : B ≤ L.heap.size) (hx : ∀ x ∈ xs, I64 x) :
    MCalls (InL scanL) Try.prog (fun k g w => Win Try.prog Post n0 W0 k g w) 6 #[.slice A xs.length c, .int .i64 op, .int .i64 wk] false (ScanPM op wk xs L) L := by
  refine MCalls.lone (win_jok (P := Try.prog) (Post := Post) (n0 := n0) (W0 := W0)) scan_ok (by unfold InL; decide) fun T => ?_
  have h := scanned_s A c xs op wk { L with tape := T } B hR hB hx
  refine h.mono ?_
  rintro e w' ⟨h1, h2⟩
  by_cases hok : ScanOk op xs wk
  · obtain ⟨v, rfl, hown, hbel⟩ := h1 hok
    exact ⟨fun _ => ⟨v, rfl, hown⟩, fun h => absurd hok h, fun b hb => hbel.block b hb⟩
  · obtain ⟨rfl, hbel⟩ := h2 hok
    exact ⟨fun h => absurd h hok, fun _ => rfl, fun b hb => hbel.block b hb⟩
set_option maxRecDepth 100000 in
set_option maxHeartbeats 4000000 in
theorem law_m {A : Option Addr} {c : Nat} {xs : List Int} {op wk : Int} {L : World} {B : Nat} (hR : Rd L B A (ints xs)) (hB : B ≤ L.heap.size) (hx : ∀ x ∈ xs, I64 x) {code : Code} (hcode : Try.f3.body = some code) :
    Mp (InL scanL) Try.prog (fun k g w => Win Try.prog Post n0 W0 k g w) 3 code false (fun e a1 _ => (e = .normal ∨ e = .ret) ∧ pack (resVals Try.f3 a1.tmps) = .bool true) ⟨#[.slice A xs.length c, .int .i64 op, .int .i64 wk] ++ Array.replicate (Try.f3.ntmps - #[Value.slice A xs.length c, .int .i64 op, .int .i64 wk].size) undef, []⟩ L := by
  have hJ : JOk Try.prog true _ (fun k g w => Win Try.prog Post n0 W0 k g w) := win_jok (P := Try.prog) (Post := Post) (n0 := n0) (W0 := W0)
  have hcode' := (show Try.f3.body = some _ from rfl).symm.trans hcode
  obtain rfl := Option.some.inj hcode'
  clear hcode hcode'
  simp only [Try.ntmps3, List.size_toArray, List.length_cons, List.length_nil, Nat.reduceAdd, Nat.reduceSub, Array.replicate_succ, Array.replicate_zero, List.push_toArray, List.append_toArray, List.nil_append, List.cons_append]
  have HR := Lib.hid hR; clear hR
  have Hx := Lib.hid hx; clear hx
  refine Mp.piece' hJ scan_ok res_3 (by kernel_rfl) (fun L' => Hid (L'.heap = L.heap)) (fun L' e => Lib.hid e) fun L2 Hs => ?_
  go_wp2
  refine MpPost.normal ?_
  have k2 : Keeps L L2 := keeps_of fun b _ => by rw [Hs.out]
  obtain ⟨ys, code, red, hS⟩ := said op wk xs
  have hc1 := scan_m (Post := Post) (n0 := n0) (W0 := W0) (A := A) (c := c) (xs := xs) (op := op) (wk := wk) (L := L2) (B := B) (HR.out.kept hB k2) (Nat.le_trans hB k2.1) Hx.out
  refine Mp.seq hJ (Mp.region hJ ?_)
  ((refine MpOps.val hJ scan_ok.bodies rfl (yld rfl _) (okOpB_ok (by kernel_rfl)) (fun w => run_mv _ _ rfl w) ?_; refine MpOps.val hJ scan_ok.bodies rfl (yld rfl _) (okOpB_ok (by kernel_rfl)) (fun w => run_mv _ _ rfl w) ?_; refine MpOps.val hJ scan_ok.bodies rfl (yld rfl _) (okOpB_ok (by kernel_rfl)) (fun w => run_mv _ _ rfl w) ?_))
  refine MpOps.call' hJ rfl (yld rfl _) rfl (fun x hx => ?_) ⟨_, Try.func5, by kernel_rfl, by kernel_rfl⟩ (by simp only [List.map_toArray, List.map_cons, List.map_nil]; rfl) (MCalls.mono hc1 fun v L3 hv => ?_)
  · simp at hx
    rcases hx with rfl | rfl | rfl <;> trivial
  obtain ⟨p1, c1, rfl, r1, k3⟩ := hS.scan _ _ _ hv
  clear hc1 hv
  ((refine MpOps.val hJ scan_ok.bodies rfl (yld rfl _) (okOpB_ok (by kernel_rfl)) (fun w => run_mv _ _ rfl w) ?_; refine MpOps.val hJ scan_ok.bodies rfl (yld rfl _) (okOpB_ok (by kernel_rfl)) (fun w => run_ex _ _ rfl rfl rfl w) ?_; refine MpOps.val hJ scan_ok.bodies rfl (yld rfl _) (okOpB_ok (by kernel_rfl)) (fun w => run_ex _ _ rfl rfl rfl w) ?_; refine MpOps.val hJ scan_ok.bodies rfl (yld rfl _) (okOpB_ok (by kernel_rfl)) (fun w => run_as _ _ rfl w) ?_; refine MpOps.val hJ scan_ok.bodies rfl (yld rfl _) (okOpB_ok (by kernel_rfl)) (fun w => run_as _ _ rfl w) ?_; refine MpOps.nil hJ ?_))
  show Mp _ _ _ _ _ _ _ _ _
  go_simp
  have k13 := k2.trans k3
  have hc2 := scanned_m (Post := Post) (n0 := n0) (W0 := W0) (A := A) (c := c) (xs := xs) (op := op) (wk := wk) (L := L3) (B := B) (HR.out.kept hB k13) (Nat.le_trans hB k13.1) Hx.out
  refine Mp.seq hJ (Mp.region hJ ?_)
  ((refine MpOps.val hJ scan_ok.bodies rfl (yld rfl _) (okOpB_ok (by kernel_rfl)) (fun w => run_mv _ _ rfl w) ?_; refine MpOps.val hJ scan_ok.bodies rfl (yld rfl _) (okOpB_ok (by kernel_rfl)) (fun w => run_mv _ _ rfl w) ?_; refine MpOps.val hJ scan_ok.bodies rfl (yld rfl _) (okOpB_ok (by kernel_rfl)) (fun w => run_mv _ _ rfl w) ?_))
  refine MpOps.call' hJ rfl (yld rfl _) rfl (fun x hx => ?_) ⟨_, Try.func6, by kernel_rfl, by kernel_rfl⟩ (by simp only [List.map_toArray, List.map_cons, List.map_nil]; rfl) (MCalls.mono hc2 fun v L4 hv => ?_)
  · simp at hx
    rcases hx with rfl | rfl | rfl <;> trivial
  obtain ⟨p2, c2, rfl, r2, k4⟩ := hS.scan _ _ _ hv
  clear hc2 hv
  ((refine MpOps.val hJ scan_ok.bodies rfl (yld rfl _) (okOpB_ok (by kernel_rfl)) (fun w => run_mv _ _ rfl w) ?_; refine MpOps.val hJ scan_ok.bodies rfl (yld rfl _) (okOpB_ok (by kernel_rfl)) (fun w => run_ex _ _ rfl rfl rfl w) ?_; refine MpOps.val hJ scan_ok.bodies rfl (yld rfl _) (okOpB_ok (by kernel_rfl)) (fun w => run_ex _ _ rfl rfl rfl w) ?_; refine MpOps.val hJ scan_ok.bodies rfl (yld rfl _) (okOpB_ok (by kernel_rfl)) (fun w => run_as _ _ rfl w) ?_; refine MpOps.val hJ scan_ok.bodies rfl (yld rfl _) (okOpB_ok (by kernel_rfl)) (fun w => run_as _ _ rfl w) ?_; refine MpOps.nil hJ ?_))
  show Mp _ _ _ _ _ _ _ _ _
  go_simp
  have k14 := k13.trans k4
  have hc3 := reduce_m (Post := Post) (n0 := n0) (W0 := W0) (A := A) (c := c) (xs := xs) (op := op) (wk := wk) (L := L4) (B := B) (HR.out.kept hB k14) (Nat.le_trans hB k14.1) Hx.out
  refine Mp.seq hJ (Mp.region hJ ?_)
  ((refine MpOps.val hJ scan_ok.bodies rfl (yld rfl _) (okOpB_ok (by kernel_rfl)) (fun w => run_mv _ _ rfl w) ?_; refine MpOps.val hJ scan_ok.bodies rfl (yld rfl _) (okOpB_ok (by kernel_rfl)) (fun w => run_mv _ _ rfl w) ?_; refine MpOps.val hJ scan_ok.bodies rfl (yld rfl _) (okOpB_ok (by kernel_rfl)) (fun w => run_mv _ _ rfl w) ?_))
  refine MpOps.call' hJ rfl (yld rfl _) rfl (fun x hx => ?_) ⟨_, Try.func7, by kernel_rfl, by kernel_rfl⟩ (by simp only [List.map_toArray, List.map_cons, List.map_nil]; rfl) (MCalls.mono hc3 fun v L5 hv => ?_)
  · simp at hx
    rcases hx with rfl | rfl | rfl <;> trivial
  obtain ⟨rfl, k5⟩ := hS.reds _ _ _ hv
  clear hc3 hv
  ((refine MpOps.val hJ scan_ok.bodies rfl (yld rfl _) (okOpB_ok (by kernel_rfl)) (fun w => run_mv _ _ rfl w) ?_; refine MpOps.val hJ scan_ok.bodies rfl (yld rfl _) (okOpB_ok (by kernel_rfl)) (fun w => run_ex _ _ rfl rfl rfl w) ?_; refine MpOps.val hJ scan_ok.bodies rfl (yld rfl _) (okOpB_ok (by kernel_rfl)) (fun w => run_ex _ _ rfl rfl rfl w) ?_; refine MpOps.val hJ scan_ok.bodies rfl (yld rfl _) (okOpB_ok (by kernel_rfl)) (fun w => run_as _ _ rfl w) ?_; refine MpOps.val hJ scan_ok.bodies rfl (yld rfl _) (okOpB_ok (by kernel_rfl)) (fun w => run_as _ _ rfl w) ?_; refine MpOps.nil hJ ?_))
  show Mp _ _ _ _ _ _ _ _ _
  go_simp
  have q1 : Rd L5 L3.heap.size p1 (ints ys) := (r1.kept (Nat.le_refl _) k4).kept k4.1 k5
  have q2 : Rd L5 L4.heap.size p2 (ints ys) := r2.kept (Nat.le_refl _) k5
  refine Mp.last' hJ scan_ok res_3 (by kernel_rfl) (fun L' => Hid (Rd L' L'.heap.size p1 (ints ys) ∧ Rd L' L'.heap.size p2 (ints ys))) (fun L' e => Lib.hid ⟨(q1.kept (Nat.le_trans k4.1 k5.1) (keeps_of fun b _ => by rw [e])).more (by rw [e]; exact Nat.le_trans k4.1 k5.1), (q2.kept k5.1 (keeps_of fun b _ => by rw [e])).more (by rw [e]; exact k5.1)⟩) fun L6 H6 => ?_
  have hlen := hS.len
  have hok := hS.ok
  clear q1 q2 k5 r2 k4 k14 k13 k3 r1 hS k2 Hs HR Hx hB
  have hsame : ∀ W : World, W.heap = L6.heap → Calls Try.prog 8 #[.slice p1 ys.length c1, .slice p2 ys.length c2] W fun e w' => e = .returned (.bool true) ∧ Keeps L6 w' := fun W e => by
    have h1 : Rd W W.heap.size p1 (ints ys) := (H6.out.1.kept (Nat.le_refl _) (keeps_of fun b _ => by rw [e])).more (by rw [e]; exact Nat.le_refl _)
    have h2 : Rd W W.heap.size p2 (ints ys) := (H6.out.2.kept (Nat.le_refl _) (keeps_of fun b _ => by rw [e])).more (by rw [e]; exact Nat.le_refl _)
    refine (same_s W W.heap.size p1 p2 c1 c2 ys h1 h2 (Nat.le_refl _) (by omega)).mono ?_
    rintro e' w' ⟨rfl, hb⟩
    exact ⟨rfl, (keeps_of fun b _ => by rw [e]).trans (Keeps.below hb)⟩
  have HSm := Lib.hid hsame; clear hsame
  rcases hok with ⟨rfl, hy, hr, hl⟩ | ⟨hc, rfl, rfl⟩
  · by_cases hn : xs = []
    · subst hn
      have hy0 : ys = [] := hy
      subst hy0
      have hr0 : red = noneI op := hr
      subst hr0
      clear hy hr hl
      go_wp2_with (first | (go_at_call 8; refine (HSm.out _ rfl).mono ?_; rintro e w' ⟨rfl, hb⟩; have Hb := Lib.hid hb; clear hb) | (go_at_call 9; refine (nothingR_s op _).mono ?_; rintro e w' ⟨rfl, rfl⟩))
      refine MpPost.leave ⟨.inr rfl, ?_⟩
      rw [pack_one results_3]
      rfl
    · have hln : 0 < ys.length := by rw [hl]; exact List.length_pos_iff.2 hn
      have hred : ys[ys.length - 1]? = some red := by
        have hsn : ys ≠ [] := List.length_pos_iff.1 hln
        have e2 : ys.getLastD 0 = ys[ys.length - 1]'(by omega) := by
          rw [List.getLastD_eq_getLast?, List.getLast?_eq_some_getLast hsn, List.getLast_eq_getElem]
          rfl
        rw [List.getElem?_eq_getElem (by omega), ← e2, hr, hy]
        unfold reduceI
        rw [if_neg hn]
      obtain ⟨g, o, rfl, hg, hcell⟩ := H6.out.2.at_ (k := ys.length - 1) (by rw [length_ints]; omega)
      have hc0 : L6.cell? ⟨g, o + (ys.length - 1), none⟩ = some (.int .i64 red) := by
        rw [hcell]
        have := (List.getElem?_eq_some_iff.1 hred).2
        simp only [ints, List.getElem_map, this]
      clear hcell hy hr hred hl
      obtain ⟨n, hnn⟩ : ∃ n, ys.length = n + 1 := ⟨ys.length - 1, by omega⟩
      rw [hnn, Nat.add_sub_cancel] at hc0
      rw [hnn] at HSm hlen ⊢
      clear hnn hln H6
      have hli : (((n : Int) + 1) == 0) = false := by simp; omega
      have hwr : wrap64 (n : Int) = (n : Int) := w64 (by unfold I64; omega)
      go_wp2_with (first | (go_at_call 8; refine (HSm.out _ rfl).mono ?_; rintro e w' ⟨rfl, hb⟩; have hc1 : w'.cell? ⟨g, o + n, none⟩ = some (.int .i64 red) := cell_of' (hb.2 g hg) hc0; have Hb := Lib.hid hb; clear hb))
      refine MpPost.leave ⟨.inr rfl, ?_⟩
      rw [pack_one results_3]
      first
        | rfl
        | (show Value.bool _ = _; simp)
  · have hci : (code == 0) = false := by simpa using hc
    go_wp2_with (first | (go_at_call 8; refine (HSm.out _ rfl).mono ?_; rintro e w' ⟨rfl, hb⟩; have Hb := Lib.hid hb; clear hb))
    refine MpPost.leave ⟨.inr rfl, ?_⟩
    rw [pack_one results_3]
    rfl
end
end Go.Proofs.Ytnabgoljnfaebaa
