/- The walk of scan.Scan$1 in company: the loop, the call. No conditions but those named. -/
import Derived.Test.YtnabgoljnfaebaaScW2
namespace Go.Proofs.Ytnabgoljnfaebaa
open Go.Conc Go.ConcN Go.RowKit
theorem eval_put_ne (a : Act) {d t : Nat} (h : d ≠ t) (v : Value) : (a.put (some d) v).eval (.tmp t) = a.eval (.tmp t) := by
  show (a.tmps.setIfInBounds d v).getD t undef = a.tmps.getD t undef
  rw [Array.getD_eq_getD_getElem?, Array.getD_eq_getD_getElem?, Array.getElem?_setIfInBounds, if_neg h]
theorem eval_put_eq (a : Act) {d : Nat} (h : d < a.tmps.size) (v : Value) : (a.put (some d) v).eval (.tmp d) = v := by
  show (a.tmps.setIfInBounds d v).getD d undef = v
  rw [Array.getD_eq_getD_getElem?, Array.getElem?_setIfInBounds, if_pos rfl, if_pos h]
  rfl
theorem put_size (a : Act) (d : Nat) (v : Value) : (a.put (some d) v).tmps.size = a.tmps.size := by simp [Act.put]
theorem eval_args (args : Array Value) (n t : Nat) (ds : List Deferred) (h : t < args.size) : (⟨args ++ Array.replicate n undef, ds⟩ : Act).eval (.tmp t) = args[t] := by
  show (args ++ Array.replicate n undef).getD t undef = _
  rw [Array.getD_eq_getD_getElem?, Array.getElem?_append_left h, Array.getElem?_eq_getElem h]
  rfl
theorem drop_all (n : Nat) : (List.range n).drop n = [] := by simp
section
variable {J : LK → Goroutine → World → Prop} {main : Bool} {R : LK → World → World → Prop} (hJ : JOk Try.prog main R J)
include hJ
set_option maxRecDepth 100000 in
theorem s1_loop {op : Int} (ho : 1 ≤ op ∧ op ≤ 4) {fb xb ob from_ to n c : Nat} {xs : List Int} (hxs : ∀ x ∈ xs, I64 x) (hto : to = from_ + xs.length) (hn : to ≤ n) (hbig : n ≤ 1000000) {b : Frame} (hb : b.kind ≠ .early) {K : List Item} {cs : List Frame}
    (hdone : ∀ a k w, a.defers = [] → S1 op fb xb ob from_ to n c k w ∧ Seg w ob from_ (scanI op xs) → J k (G (b.at a K) cs) w) :
    ∀ (N d : Nat) (a : Act) (k : LK) (w : World), xs.length - d = N → 1 ≤ d → d ≤ xs.length + 1 → A1 fb xb to (from_ + d : Nat) a → S1 op fb xb ob from_ to n c k w ∧ Seg w ob from_ (mixed op xs d) → J k (G (b.at a (.code LB1 :: .inLoop LB1 :: .inBlock 0 :: K)) cs) w := by
  intro N
  induction N with
  | zero => ?_
  | succ N ih => ?_
  all_goals
    intro d a k w hN hd1 hdl ha h0
    have hlen : (mixed op xs d).length ≤ xs.length := by simp [mixed, scanI_length]; omega
    have hSR : ∀ k w w₁, S1 op fb xb ob from_ to n c k w ∧ Seg w ob from_ (mixed op xs d) → R k w w₁ → S1 op fb xb ob from_ to n c k w₁ ∧ Seg w₁ ob from_ (mixed op xs d) := fun k w w₁ hS hR => ⟨hS.1.rely (hJ.rel _ _ _ hR), hS.2.rely (by omega) hS.1 (hJ.rel _ _ _ hR)⟩
    let V : Nat → Value := fun i => match i with
      | 0 => .int .i64 (from_ + d : Nat)
      | 1 => .int .i64 (to : Nat)
      | 2 => .bool (decide (((from_ + d : Nat) : Int) < (to : Nat)))
      | _ => undef
    have hdd := textOk_d f1_r1
    have od : ∀ t, prodOf (opsOf Try.f16 1) t = none → (putsV (opsOf Try.f16 1) V (List.range 3) a).eval (.tmp t) = a.eval (.tmp t) := fun t h1 => puts_old hdd h1
    have e11 : (putsV (opsOf Try.f16 1) V (List.range 3) a).eval (.tmp 11) = .int .i64 (from_ + d : Nat) := puts_new hdd (j := 0) (by kernel_rfl) (by decide) (by rw [ha.size]; decide)
    have e12 : (putsV (opsOf Try.f16 1) V (List.range 3) a).eval (.tmp 12) = .int .i64 (to : Nat) := puts_new hdd (j := 1) (by kernel_rfl) (by decide) (by rw [ha.size]; decide)
    have e13 : (putsV (opsOf Try.f16 1) V (List.range 3) a).eval (.tmp 13) = .bool (decide (((from_ + d : Nat) : Int) < (to : Nat))) := puts_new hdd (j := 2) (by kernel_rfl) (by decide) (by rw [ha.size]; decide)
    have o8 := (od 8 (by kernel_rfl)).trans ha.t8
    have o4 := (od 4 (by kernel_rfl)).trans ha.t4
    have o3 := (od 3 (by kernel_rfl)).trans ha.t3
    have o2 := (od 2 (by kernel_rfl)).trans ha.t2
    have hA : A1 fb xb to (from_ + d : Nat) (putsV (opsOf Try.f16 1) V (List.range 3) a) := ⟨(puts_size hdd a).trans ha.size, (puts_defers hdd a).trans ha.d, o2, o3, o4, o8⟩
    refine js_seq hJ _ hSR (fun k w hS => js_seq hJ _ hSR (fun k w hS => j_text hJ f1_r1 _ hSR V hb (fun i o hio him k w hS => ?_) (fun k w hS => ?_) hS) hS) h0
    · obtain rfl | rfl | rfl : i = 0 ∨ i = 1 ∨ i = 2 := by omega
      · have := opv_move (P := Try.prog) (fn := b.fn) (e := (putsV (opsOf Try.f16 1) V (List.range 3) a).eval) (k := k) (w := w) (x := .tmp 8) (.inl (op_of (p := .move (.tmp 8)) (by kernel_rfl) hio))
        rw [o8] at this; exact this
      · have := opv_move (P := Try.prog) (fn := b.fn) (e := (putsV (opsOf Try.f16 1) V (List.range 3) a).eval) (k := k) (w := w) (x := .tmp 2) (.inl (op_of (p := .move (.tmp 2)) (by kernel_rfl) hio))
        rw [o2] at this; exact this
      · exact opv_lss (P := Try.prog) (fn := b.fn) (k := k) (w := w) (op_of (p := .binOp .lss 3 (.tmp 11) (.tmp 12) 3) (by kernel_rfl) hio) e11 e12 under_int
    · have hsz : (opsOf Try.f16 1).size = 3 := by kernel_rfl
      rw [hsz, drop_all]
      refine js_regend hJ _ hSR (fun k w hS => js_cond hJ _ hSR e13 (fun k w hS => ?_) hS) hS
      clear e11 e12 e13 o8 o4 o3 o2 od
      generalize putsV (opsOf Try.f16 1) V (List.range 3) a = a1 at hA
      first
        | (have hge : ¬ d < xs.length := by omega
           rw [decide_eq_false (by omega)]
           refine js_exit hJ _ hSR (K1 := K) rfl (fun k w hS => hdone a1 k w hA.d ⟨hS.1, ?_⟩) hS
           rw [mixed_ge op xs d (by omega)] at hS
           exact hS.2)
        | (have hlt : d < xs.length := by omega
           rw [decide_eq_true (by omega)]
           refine js_skip hJ _ hSR (fun k w hS => js_seq hJ _ hSR (fun k w hS => js_block hJ _ hSR (fun k w hS => s1_elem hJ ho hxs hto hn hbig hd1 hlt hA hb hS fun a2 k w hA2 hS => ?_) hS) hS) hS
           have hlen2 : (mixed op xs (d + 1)).length ≤ xs.length := by simp [mixed, scanI_length]; omega
           have hSR2 : ∀ k w w₁, S1 op fb xb ob from_ to n c k w ∧ Seg w ob from_ (mixed op xs (d + 1)) → R k w w₁ → S1 op fb xb ob from_ to n c k w₁ ∧ Seg w₁ ob from_ (mixed op xs (d + 1)) := fun k w w₁ hS hR => ⟨hS.1.rely (hJ.rel _ _ _ hR), hS.2.rely (by omega) hS.1 (hJ.rel _ _ _ hR)⟩
           refine js_inBlock hJ _ hSR2 (fun k w hS => ?_) hS
           let V2 : Nat → Value := fun i => match i with
             | 0 => .int .i64 (from_ + d : Nat)
             | 1 => .int .i64 (from_ + (d + 1) : Nat)
             | _ => undef
           have hd2 := textOk_d f1_r2
           have od : ∀ t, prodOf (opsOf Try.f16 2) t = none → (putsV (opsOf Try.f16 2) V2 (List.range 2) a2).eval (.tmp t) = a2.eval (.tmp t) := fun t h1 => puts_old hd2 h1
           have e14 : (putsV (opsOf Try.f16 2) V2 (List.range 2) a2).eval (.tmp 14) = .int .i64 (from_ + d : Nat) := puts_new hd2 (j := 0) (by kernel_rfl) (by decide) (by rw [hA2.size]; decide)
           have e15 : (putsV (opsOf Try.f16 2) V2 (List.range 2) a2).eval (.tmp 15) = .int .i64 (from_ + (d + 1) : Nat) := puts_new hd2 (j := 1) (by kernel_rfl) (by decide) (by rw [hA2.size]; decide)
           have o8 := (puts_late (V := V2) (m := 2) hd2 (a := a2) (t := 8) (j := 2) (by kernel_rfl) (by decide)).trans hA2.t8
           have o4 := (od 4 (by kernel_rfl)).trans hA2.t4
           have o3 := (od 3 (by kernel_rfl)).trans hA2.t3
           have o2 := (od 2 (by kernel_rfl)).trans hA2.t2
           have wadd : IntKind.i64.wrap (((from_ + d : Nat) : Int) + 1) = ((from_ + (d + 1) : Nat) : Int) := by rw [wrapI (by unfold I64; omega)]; omega
           refine j_text hJ f1_r2 _ hSR2 V2 hb (fun i o hio him k w hS => ?_) (fun k w hS => ?_) hS
           · obtain rfl | rfl : i = 0 ∨ i = 1 := by omega
             · have := opv_move (P := Try.prog) (fn := b.fn) (e := (putsV (opsOf Try.f16 2) V2 (List.range 2) a2).eval) (k := k) (w := w) (x := .tmp 8) (.inl (op_of (p := .move (.tmp 8)) (by kernel_rfl) hio))
               rw [o8] at this; exact this
             · have := opv_add (P := Try.prog) (fn := b.fn) (k := k) (w := w) (op_of (p := .binOp .add 3 (.tmp 14) (.const (.int .i64 1)) 3) (by kernel_rfl) hio) e14 rfl under_int
               rw [wadd] at this; exact this
           · have hsz2 : (List.range (opsOf Try.f16 2).size).drop 2 = [2] := by kernel_rfl
             rw [hsz2]
             obtain ⟨o, ho2, hop, hg, hdst⟩ := op_ex (ops := opsOf Try.f16 2) (i := 2) (p := .assign (.tmp 15)) (d := some 8) (by kernel_rfl)
             have hsz3 := (puts_size (V := V2) (m := 2) hd2 a2).trans hA2.size
             have hdf := (puts_defers (V := V2) (m := 2) hd2 a2).trans hA2.d
             clear e14
             generalize putsV (opsOf Try.f16 2) V2 (List.range 2) a2 = a3 at e15 o8 o4 o3 o2 hsz3 hdf
             refine j_val hJ _ hSR2 hb ho2 (by unfold Region.wanted; rw [hg]) (fun k w hS => opv_move (x := .tmp 15) (.inr hop)) (fun k w hS => ?_) hS
             rw [hdst, e15]
             refine js_regend hJ _ hSR2 (fun k w hS => js_inLoop hJ _ hSR2 (fun k w hS => ?_) hS) hS
             exact ih (d + 1) _ k w (by omega) (by omega) (by omega) ⟨(put_size _ _ _).trans hsz3, hdf, (eval_put_ne _ (by decide) _).trans o2, (eval_put_ne _ (by decide) _).trans o3, (eval_put_ne _ (by decide) _).trans o4, eval_put_eq _ (by rw [hsz3]; decide) _⟩ hS)
set_option maxRecDepth 100000 in
/-- ████ scan.Scan$1, in company ████: its part becomes its prefixes. -/
theorem scan1_j {op : Int} (ho : 1 ≤ op ∧ op ≤ 4) {fb xb ob from_ to n c : Nat} {xs : List Int} (hxs : ∀ x ∈ xs, I64 x) (hto : to = from_ + xs.length) (hn : to ≤ n) (hbig : n ≤ 1000000) {j : Int} {c' : Frame} {cs : List Frame} {k : LK} {w : World} (h0 : S1 op fb xb ob from_ to n c k w ∧ Seg w ob from_ xs)
    (hdone : ∀ k w, S1 op fb xb ob from_ to n c k w ∧ Seg w ob from_ (scanI op xs) → J k (G (c'.finish (.tuple #[])) cs) w) :
    J k (G (Frame.enter Try.prog 16 #[.int .i64 j, .int .i64 from_, .int .i64 to, .pointer (some ⟨fb, 0, none⟩), .pointer (some ⟨xb, 0, none⟩)] .normal) (c' :: cs)) w := by
  rw [enter_at _ Try.func16 body_s1, show (Try.f16).ntmps = 30 by kernel_rfl]
  have hSR : ∀ l : List Int, l.length ≤ xs.length → ∀ k w w₁, S1 op fb xb ob from_ to n c k w ∧ Seg w ob from_ l → R k w w₁ → S1 op fb xb ob from_ to n c k w₁ ∧ Seg w₁ ob from_ l := fun l hl k w w₁ hS hR => ⟨hS.1.rely (hJ.rel _ _ _ hR), hS.2.rely (by omega) hS.1 (hJ.rel _ _ _ hR)⟩
  have hb : (Go.Conc.base 16).kind ≠ .early := by decide
  generalize ha0 : (⟨#[.int .i64 j, .int .i64 from_, .int .i64 to, .pointer (some ⟨fb, 0, none⟩), .pointer (some ⟨xb, 0, none⟩)] ++ Array.replicate (30 - #[Value.int .i64 j, .int .i64 from_, .int .i64 to, .pointer (some ⟨fb, 0, none⟩), .pointer (some ⟨xb, 0, none⟩)].size) undef, []⟩ : Act) = a0
  have z0 : a0.tmps.size = 30 := by subst ha0; simp
  have zd : a0.defers = [] := by subst ha0; rfl
  have z1 : a0.eval (.tmp 1) = .int .i64 from_ := by subst ha0; exact eval_args _ _ 1 _ (by simp)
  have z2 : a0.eval (.tmp 2) = .int .i64 to := by subst ha0; exact eval_args _ _ 2 _ (by simp)
  have z3 : a0.eval (.tmp 3) = .pointer (some ⟨fb, 0, none⟩) := by subst ha0; exact eval_args _ _ 3 _ (by simp)
  have z4 : a0.eval (.tmp 4) = .pointer (some ⟨xb, 0, none⟩) := by subst ha0; exact eval_args _ _ 4 _ (by simp)
  clear ha0
  let V : Nat → Value := fun i => match i with
    | 0 => .int .i64 from_
    | 1 => .int .i64 (from_ + 1 : Nat)
    | 2 => .int .i64 (from_ + 1 : Nat)
    | _ => undef
  have hdd := textOk_d f1_r0
  have od : ∀ t, prodOf (opsOf Try.f16 0) t = none → (putsV (opsOf Try.f16 0) V (List.range 3) a0).eval (.tmp t) = a0.eval (.tmp t) := fun t h1 => puts_old hdd h1
  have e9 : (putsV (opsOf Try.f16 0) V (List.range 3) a0).eval (.tmp 9) = .int .i64 from_ := puts_new hdd (j := 0) (by kernel_rfl) (by decide) (by rw [z0]; decide)
  have e10 : (putsV (opsOf Try.f16 0) V (List.range 3) a0).eval (.tmp 10) = .int .i64 (from_ + 1 : Nat) := puts_new hdd (j := 1) (by kernel_rfl) (by decide) (by rw [z0]; decide)
  have e8 : (putsV (opsOf Try.f16 0) V (List.range 3) a0).eval (.tmp 8) = .int .i64 (from_ + 1 : Nat) := puts_new hdd (j := 2) (by kernel_rfl) (by decide) (by rw [z0]; decide)
  have o4 := (od 4 (by kernel_rfl)).trans z4
  have o3 := (od 3 (by kernel_rfl)).trans z3
  have o2 := (od 2 (by kernel_rfl)).trans z2
  have o1 := (od 1 (by kernel_rfl)).trans z1
  have wadd : IntKind.i64.wrap ((from_ : Int) + 1) = ((from_ + 1 : Nat) : Int) := by rw [wrapI (by unfold I64; omega)]; omega
  have hA : A1 fb xb to (from_ + 1 : Nat) (putsV (opsOf Try.f16 0) V (List.range 3) a0) := ⟨(puts_size hdd a0).trans z0, (puts_defers hdd a0).trans zd, o2, o3, o4, e8⟩
  refine js_seq hJ _ (hSR xs (Nat.le_refl _)) (fun k w hS => j_text hJ f1_r0 _ (hSR xs (Nat.le_refl _)) V hb (fun i o hio him k w hS => ?_) (fun k w hS => ?_) hS) h0
  · obtain rfl | rfl | rfl : i = 0 ∨ i = 1 ∨ i = 2 := by omega
    · have := opv_move (P := Try.prog) (fn := (Go.Conc.base 16).fn) (e := (putsV (opsOf Try.f16 0) V (List.range 3) a0).eval) (k := k) (w := w) (x := .tmp 1) (.inl (op_of (p := .move (.tmp 1)) (by kernel_rfl) hio))
      rw [o1] at this; exact this
    · have := opv_add (P := Try.prog) (fn := (Go.Conc.base 16).fn) (k := k) (w := w) (op_of (p := .binOp .add 3 (.tmp 9) (.const (.int .i64 1)) 3) (by kernel_rfl) hio) e9 rfl under_int
      rw [wadd] at this; exact this
    · have := opv_move (P := Try.prog) (fn := (Go.Conc.base 16).fn) (e := (putsV (opsOf Try.f16 0) V (List.range 3) a0).eval) (k := k) (w := w) (x := .tmp 10) (.inr (op_of (p := .assign (.tmp 10)) (by kernel_rfl) hio))
      rw [e10] at this; exact this
  · have hsz : (opsOf Try.f16 0).size = 3 := by kernel_rfl
    rw [hsz, drop_all]
    generalize putsV (opsOf Try.f16 0) V (List.range 3) a0 = a1 at hA
    refine js_regend hJ _ (hSR xs (Nat.le_refl _)) (fun k w hS => js_block hJ _ (hSR xs (Nat.le_refl _)) (fun k w hS => js_loop hJ _ (hSR xs (Nat.le_refl _)) (fun k w hS => ?_) hS) hS) hS
    refine s1_loop hJ ho hxs hto hn hbig hb (K := []) (fun a k w hd hS => ?_) _ 1 a1 k w rfl (Nat.le_refl _) (by omega) hA ⟨hS.1, by rw [mixed_one]; exact hS.2⟩
    have hl := scanI_length op xs
    exact js_end hJ _ (hSR _ (by omega)) (fun k w hS => js_leave0 hJ _ (hSR _ (by omega)) rfl hd Try.func16 rfl (fun k w hS => hdone k w hS) hS) hS
end
end Go.Proofs.Ytnabgoljnfaebaa
