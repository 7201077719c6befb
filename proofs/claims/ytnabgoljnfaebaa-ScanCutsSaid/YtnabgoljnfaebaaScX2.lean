/- The walk of scan.Scan$2 in company: the loop, the call. No conditions but those named. -/
import Derived.Test.YtnabgoljnfaebaaScX1
namespace Go.Proofs.Ytnabgoljnfaebaa
open Go.Conc Go.ConcN Go.RowKit
section
variable {J : LK → Goroutine → World → Prop} {main : Bool} {R : LK → World → World → Prop} (hJ : JOk Try.prog main R J)
include hJ
set_option maxRecDepth 100000 in
/-- The loop's test. -/
theorem s2_test {S : LK → World → Prop} (hSR : ∀ k w w₁, S k w → R k w w₁ → S k w₁) {fb ab xb j to : Nat} {kk : Nat} {a : Act} (ha : A2 fb ab xb j to (kk : Nat) a) {b : Frame} (hb : b.kind ≠ .early) {K : List Item} {cs : List Frame} {x y : Code} {k : LK} {w : World}
    (hn : ∀ a1 k1 w1, A2 fb ab xb j to (kk : Nat) a1 → S k1 w1 → J k1 (G (b.at a1 (.code (if decide (kk < to ∧ 0 < j) then x else y) :: K)) cs) w1) (h0 : S k w) : J k (G (b.at a (.code (.region 1 (opsOf Try.f17 1) false) :: .code (.cond (.tmp 17) x y) :: K)) cs) w := by
  let V : Nat → Value := fun i => match i with
    | 0 => .int .i64 (kk : Nat)
    | 1 => .int .i64 (to : Nat)
    | 2 => .bool (decide (((kk : Nat) : Int) < (to : Nat)))
    | 3 => .bool (decide (((kk : Nat) : Int) < (to : Nat)))
    | _ => undef
  have hdd := textOk_d f2_r1
  have od : ∀ t, prodOf (opsOf Try.f17 1) t = none → (putsV (opsOf Try.f17 1) V (List.range 4) a).eval (.tmp t) = a.eval (.tmp t) := fun t h1 => puts_old hdd h1
  have e11 : (putsV (opsOf Try.f17 1) V (List.range 4) a).eval (.tmp 11) = .int .i64 (kk : Nat) := puts_new hdd (j := 0) (by kernel_rfl) (by decide) (by rw [ha.size]; decide)
  have e12 : (putsV (opsOf Try.f17 1) V (List.range 4) a).eval (.tmp 12) = .int .i64 (to : Nat) := puts_new hdd (j := 1) (by kernel_rfl) (by decide) (by rw [ha.size]; decide)
  have e13 : (putsV (opsOf Try.f17 1) V (List.range 4) a).eval (.tmp 13) = .bool (decide (((kk : Nat) : Int) < (to : Nat))) := puts_new hdd (j := 2) (by kernel_rfl) (by decide) (by rw [ha.size]; decide)
  have e14 : (putsV (opsOf Try.f17 1) V (List.range 4) a).eval (.tmp 14) = .bool (decide (((kk : Nat) : Int) < (to : Nat))) := puts_new hdd (j := 3) (by kernel_rfl) (by decide) (by rw [ha.size]; decide)
  have o0 := (od 0 (by kernel_rfl)).trans ha.t0
  have o2 := (od 2 (by kernel_rfl)).trans ha.t2
  have o3 := (od 3 (by kernel_rfl)).trans ha.t3
  have o4 := (od 4 (by kernel_rfl)).trans ha.t4
  have o5 := (od 5 (by kernel_rfl)).trans ha.t5
  have o9 := (od 9 (by kernel_rfl)).trans ha.t9
  have q1 := puts_size (V := V) (m := 4) hdd a
  have q2 := puts_defers (V := V) (m := 4) hdd a
  refine j_text hJ f2_r1 _ hSR V hb (fun i o hio him k w hS => ?_) (fun k w hS => ?_) h0
  · obtain rfl | rfl | rfl | rfl : i = 0 ∨ i = 1 ∨ i = 2 ∨ i = 3 := by omega
    · have := opv_move (P := Try.prog) (fn := b.fn) (e := (putsV (opsOf Try.f17 1) V (List.range 4) a).eval) (k := k) (w := w) (x := .tmp 9) (.inl (op_of (p := .move (.tmp 9)) (by kernel_rfl) hio))
      rw [o9] at this; exact this
    · have := opv_move (P := Try.prog) (fn := b.fn) (e := (putsV (opsOf Try.f17 1) V (List.range 4) a).eval) (k := k) (w := w) (x := .tmp 2) (.inl (op_of (p := .move (.tmp 2)) (by kernel_rfl) hio))
      rw [o2] at this; exact this
    · exact opv_lss (P := Try.prog) (fn := b.fn) (k := k) (w := w) (op_of (p := .binOp .lss 3 (.tmp 11) (.tmp 12) 3) (by kernel_rfl) hio) e11 e12 under_int
    · have := opv_move (P := Try.prog) (fn := b.fn) (e := (putsV (opsOf Try.f17 1) V (List.range 4) a).eval) (k := k) (w := w) (x := .tmp 13) (.inl (op_of (p := .move (.tmp 13)) (by kernel_rfl) hio))
      rw [e13] at this; exact this
  · have hsz : (List.range (opsOf Try.f17 1).size).drop 4 = [4, 5, 6] := by kernel_rfl
    rw [hsz]
    clear od e11 e12 e13
    generalize putsV (opsOf Try.f17 1) V (List.range 4) a = a1 at e14 o0 o2 o3 o4 o5 o9 q1 q2
    have z1 : a1.tmps.size = 33 := q1.trans ha.size
    have hy : ∀ a2 : Act, a2.eval (.tmp 14) = .bool (decide (((kk : Nat) : Int) < (to : Nat))) → a2.tmps.size = 33 → yielded (opsOf Try.f17 1) a2.tmps 3 = some (decide (((kk : Nat) : Int) < (to : Nat))) := fun a2 h1 h2 => by
      have hd3 : ((opsOf Try.f17 1)[3]?).bind (·.dst) = some 14 := by kernel_rfl
      unfold yielded
      rw [hd3]
      have : a2.tmps.getD 14 undef = .bool (decide (((kk : Nat) : Int) < (to : Nat))) := h1
      rw [Array.getD_eq_getD_getElem?, Array.getElem?_eq_getElem (by rw [h2]; decide)] at this
      simp only [Option.bind_some, Array.getElem?_eq_getElem (show 14 < a2.tmps.size by rw [h2]; decide)]
      rw [show a2.tmps[14] = _ from this]
    cases hc : decide (((kk : Nat) : Int) < (to : Nat)) with
    | false =>
      rw [hc] at e14 hy
      have hn' : decide (kk < to ∧ 0 < j) = false := by simp only [decide_eq_false_iff_not] at hc ⊢; omega
      obtain ⟨o4', h4, g4, hd4⟩ : ∃ o, (opsOf Try.f17 1)[4]? = some o ∧ o.guard = some (3, true) ∧ o.dst = some 15 := by
        have : ((opsOf Try.f17 1)[4]?).map (fun o => (o.guard, o.dst)) = some (some (3, true), some 15) := by kernel_rfl
        obtain ⟨o, h1, h2⟩ := Option.map_eq_some_iff.1 this
        simp only [Prod.mk.injEq] at h2
        exact ⟨o, h1, h2⟩
      obtain ⟨o5', h5, g5, hd5⟩ : ∃ o, (opsOf Try.f17 1)[5]? = some o ∧ o.guard = some (3, true) ∧ o.dst = some 16 := by
        have : ((opsOf Try.f17 1)[5]?).map (fun o => (o.guard, o.dst)) = some (some (3, true), some 16) := by kernel_rfl
        obtain ⟨o, h1, h2⟩ := Option.map_eq_some_iff.1 this
        simp only [Prod.mk.injEq] at h2
        exact ⟨o, h1, h2⟩
      refine j_ctl hJ (fun w => stepG_unwanted h4 (by unfold Region.wanted; rw [g4]; simp only [hy a1 e14 z1]; rfl)) fun w₁ hR => ?_
      replace hS := hSR _ _ _ hS hR
      rw [hd4]
      have y14 : (a1.put (some 15) undef).eval (.tmp 14) = .bool false := (eval_put_ne _ (by decide) _).trans e14
      have z2 : (a1.put (some 15) undef).tmps.size = 33 := (put_size _ _ _).trans z1
      refine j_ctl hJ (fun w => stepG_unwanted h5 (by unfold Region.wanted; rw [g5]; simp only [hy _ y14 z2]; rfl)) fun w₂ hR => ?_
      replace hS := hSR _ _ _ hS hR
      rw [hd5]
      have x14 : ((a1.put (some 15) undef).put (some 16) undef).eval (.tmp 14) = .bool false := (eval_put_ne _ (by decide) _).trans y14
      have z3 : ((a1.put (some 15) undef).put (some 16) undef).tmps.size = 33 := (put_size _ _ _).trans z2
      obtain ⟨o6, h6, hop6, g6, hdst6⟩ := op_ex (ops := opsOf Try.f17 1) (i := 6) (p := .pick (.tmp 14) (.tmp 16) (.const (.bool false))) (d := some 17) (by kernel_rfl)
      refine j_val hJ _ hSR hb h6 (by unfold Region.wanted; rw [g6]) (fun k w hS => opv_pick (c := false) hop6 x14) (fun k w hS => ?_) hS
      rw [hdst6]
      refine js_regend hJ _ hSR (fun k w hS => js_cond hJ _ hSR (t := false) (eval_put_eq _ (by rw [z3]; decide) _) (fun k w hS => ?_) hS) hS
      have old : ∀ t, 15 ≠ t → 16 ≠ t → 17 ≠ t → (((a1.put (some 15) undef).put (some 16) undef).put (some 17) (.bool false)).eval (.tmp t) = a1.eval (.tmp t) := fun t h1 h2 h3 => (eval_put_ne _ h3 _).trans ((eval_put_ne _ h2 _).trans (eval_put_ne _ h1 _))
      have := hn (((a1.put (some 15) undef).put (some 16) undef).put (some 17) (.bool false)) k w ⟨(put_size _ _ _).trans z3, q2.trans ha.d, (old 0 (by decide) (by decide) (by decide)).trans o0, (old 2 (by decide) (by decide) (by decide)).trans o2, (old 3 (by decide) (by decide) (by decide)).trans o3, (old 4 (by decide) (by decide) (by decide)).trans o4, (old 5 (by decide) (by decide) (by decide)).trans o5, (old 9 (by decide) (by decide) (by decide)).trans o9⟩ hS
      rw [hn'] at this
      exact this
    | true =>
      rw [hc] at e14 hy
      have hlt : kk < to := by simp only [decide_eq_true_eq] at hc; omega
      obtain ⟨o4', h4, hop4, g4, hd4⟩ : ∃ o, (opsOf Try.f17 1)[4]? = some o ∧ o.op = .move (.tmp 0) ∧ o.guard = some (3, true) ∧ o.dst = some 15 := by
        have : ((opsOf Try.f17 1)[4]?).map (fun o => (o.op, o.guard, o.dst)) = some (.move (.tmp 0), some (3, true), some 15) := by kernel_rfl
        obtain ⟨o, h1, h2⟩ := Option.map_eq_some_iff.1 this
        simp only [Prod.mk.injEq] at h2
        exact ⟨o, h1, h2⟩
      obtain ⟨o5', h5, hop5, g5, hd5⟩ : ∃ o, (opsOf Try.f17 1)[5]? = some o ∧ o.op = .binOp .gtr 3 (.tmp 15) (.const (.int .i64 0)) 3 ∧ o.guard = some (3, true) ∧ o.dst = some 16 := by
        have : ((opsOf Try.f17 1)[5]?).map (fun o => (o.op, o.guard, o.dst)) = some (.binOp .gtr 3 (.tmp 15) (.const (.int .i64 0)) 3, some (3, true), some 16) := by kernel_rfl
        obtain ⟨o, h1, h2⟩ := Option.map_eq_some_iff.1 this
        simp only [Prod.mk.injEq] at h2
        exact ⟨o, h1, h2⟩
      refine j_val hJ _ hSR hb h4 (by unfold Region.wanted; rw [g4]; simp only [hy a1 e14 z1]; rfl) (fun k w hS => opv_move (x := .tmp 0) (.inl hop4)) (fun k w hS => ?_) hS
      rw [hd4, o0]
      have y14 : (a1.put (some 15) (.int .i64 j)).eval (.tmp 14) = .bool true := (eval_put_ne _ (by decide) _).trans e14
      have y15 : (a1.put (some 15) (.int .i64 j)).eval (.tmp 15) = .int .i64 j := eval_put_eq _ (by rw [z1]; decide) _
      have z2 : (a1.put (some 15) (.int .i64 j)).tmps.size = 33 := (put_size _ _ _).trans z1
      refine j_val hJ _ hSR hb h5 (by unfold Region.wanted; rw [g5]; simp only [hy _ y14 z2]; rfl) (fun k w hS => opv_gtr (b := 0) hop5 y15 rfl under_int) (fun k w hS => ?_) hS
      rw [hd5]
      have x14 := (eval_put_ne (a1.put (some 15) (.int .i64 j)) (d := 16) (t := 14) (by decide) (.bool (decide ((0 : Int) < j)))).trans y14
      have x16 : ((a1.put (some 15) (.int .i64 j)).put (some 16) (.bool (decide ((0 : Int) < j)))).eval (.tmp 16) = .bool (decide ((0 : Int) < j)) := eval_put_eq _ (by rw [z2]; decide) _
      have z3 : ((a1.put (some 15) (.int .i64 j)).put (some 16) (.bool (decide ((0 : Int) < j)))).tmps.size = 33 := (put_size _ _ _).trans z2
      obtain ⟨o6, h6, hop6, g6, hdst6⟩ := op_ex (ops := opsOf Try.f17 1) (i := 6) (p := .pick (.tmp 14) (.tmp 16) (.const (.bool false))) (d := some 17) (by kernel_rfl)
      refine j_val hJ _ hSR hb h6 (by unfold Region.wanted; rw [g6]) (fun k w hS => opv_pick (c := true) hop6 x14) (fun k w hS => ?_) hS
      rw [hdst6, if_pos rfl, x16]
      refine js_regend hJ _ hSR (fun k w hS => js_cond hJ _ hSR (t := decide ((0 : Int) < j)) (eval_put_eq _ (by rw [z3]; decide) _) (fun k w hS => ?_) hS) hS
      have he : decide (kk < to ∧ 0 < j) = decide ((0 : Int) < j) := by simp [hlt]
      have old : ∀ t, 15 ≠ t → 16 ≠ t → 17 ≠ t → (((a1.put (some 15) (.int .i64 j)).put (some 16) (.bool (decide ((0 : Int) < j)))).put (some 17) (.bool (decide ((0 : Int) < j)))).eval (.tmp t) = a1.eval (.tmp t) := fun t h1 h2 h3 => (eval_put_ne _ h3 _).trans ((eval_put_ne _ h2 _).trans (eval_put_ne _ h1 _))
      have := hn (((a1.put (some 15) (.int .i64 j)).put (some 16) (.bool (decide ((0 : Int) < j)))).put (some 17) (.bool (decide ((0 : Int) < j)))) k w ⟨(put_size _ _ _).trans z3, q2.trans ha.d, (old 0 (by decide) (by decide) (by decide)).trans o0, (old 2 (by decide) (by decide) (by decide)).trans o2, (old 3 (by decide) (by decide) (by decide)).trans o3, (old 4 (by decide) (by decide) (by decide)).trans o4, (old 5 (by decide) (by decide) (by decide)).trans o5, (old 9 (by decide) (by decide) (by decide)).trans o9⟩ hS
      rw [he] at this
      exact this
set_option maxRecDepth 100000 in
/-- The loop's last region: one more. -/
theorem s2_inc {S : LK → World → Prop} (hSR : ∀ k w w₁, S k w → R k w w₁ → S k w₁) {fb ab xb j to : Nat} {kk : Nat} (hk : kk < 1000000) {a : Act} (ha : A2 fb ab xb j to (kk : Nat) a) {b : Frame} (hb : b.kind ≠ .early) {K : List Item} {cs : List Frame} {k : LK} {w : World}
    (hn : ∀ a1 k1 w1, A2 fb ab xb j to (kk + 1 : Nat) a1 → S k1 w1 → J k1 (G (b.at a1 K) cs) w1) (h0 : S k w) : J k (G (b.at a (.code (.region 2 (opsOf Try.f17 2) false) :: K)) cs) w := by
  let V2 : Nat → Value := fun i => match i with
    | 0 => .int .i64 (kk : Nat)
    | 1 => .int .i64 (kk + 1 : Nat)
    | _ => undef
  have hd2 := textOk_d f2_r2
  have od : ∀ t, prodOf (opsOf Try.f17 2) t = none → (putsV (opsOf Try.f17 2) V2 (List.range 2) a).eval (.tmp t) = a.eval (.tmp t) := fun t h1 => puts_old hd2 h1
  have e14 : (putsV (opsOf Try.f17 2) V2 (List.range 2) a).eval (.tmp 18) = .int .i64 (kk : Nat) := puts_new hd2 (j := 0) (by kernel_rfl) (by decide) (by rw [ha.size]; decide)
  have e15 : (putsV (opsOf Try.f17 2) V2 (List.range 2) a).eval (.tmp 19) = .int .i64 (kk + 1 : Nat) := puts_new hd2 (j := 1) (by kernel_rfl) (by decide) (by rw [ha.size]; decide)
  have o9 := (puts_late (V := V2) (m := 2) hd2 (a := a) (t := 9) (j := 2) (by kernel_rfl) (by decide)).trans ha.t9
  have o5 := (od 5 (by kernel_rfl)).trans ha.t5
  have o4 := (od 4 (by kernel_rfl)).trans ha.t4
  have o3 := (od 3 (by kernel_rfl)).trans ha.t3
  have o2 := (od 2 (by kernel_rfl)).trans ha.t2
  have o0 := (od 0 (by kernel_rfl)).trans ha.t0
  have wadd : IntKind.i64.wrap ((kk : Int) + 1) = ((kk + 1 : Nat) : Int) := by rw [wrapI (by unfold I64; omega)]; omega
  refine j_text hJ f2_r2 _ hSR V2 hb (fun i o hio him k w hS => ?_) (fun k w hS => ?_) h0
  · obtain rfl | rfl : i = 0 ∨ i = 1 := by omega
    · have := opv_move (P := Try.prog) (fn := b.fn) (e := (putsV (opsOf Try.f17 2) V2 (List.range 2) a).eval) (k := k) (w := w) (x := .tmp 9) (.inl (op_of (p := .move (.tmp 9)) (by kernel_rfl) hio))
      rw [o9] at this; exact this
    · have := opv_add (P := Try.prog) (fn := b.fn) (k := k) (w := w) (op_of (p := .binOp .add 3 (.tmp 18) (.const (.int .i64 1)) 3) (by kernel_rfl) hio) e14 rfl under_int
      rw [wadd] at this; exact this
  · have hsz2 : (List.range (opsOf Try.f17 2).size).drop 2 = [2] := by kernel_rfl
    rw [hsz2]
    obtain ⟨o, ho2, hop, hg, hdst⟩ := op_ex (ops := opsOf Try.f17 2) (i := 2) (p := .assign (.tmp 19)) (d := some 9) (by kernel_rfl)
    have hsz3 := (puts_size (V := V2) (m := 2) hd2 a).trans ha.size
    have hdf := (puts_defers (V := V2) (m := 2) hd2 a).trans ha.d
    clear e14 od
    generalize putsV (opsOf Try.f17 2) V2 (List.range 2) a = a3 at e15 o9 o5 o4 o3 o2 o0 hsz3 hdf
    refine j_val hJ _ hSR hb ho2 (by unfold Region.wanted; rw [hg]) (fun k w hS => opv_move (x := .tmp 19) (.inr hop)) (fun k w hS => ?_) hS
    rw [hdst, e15]
    refine js_regend hJ _ hSR (fun k w hS => ?_) hS
    exact hn _ k w ⟨(put_size _ _ _).trans hsz3, hdf, (eval_put_ne _ (by decide) _).trans o0, (eval_put_ne _ (by decide) _).trans o2, (eval_put_ne _ (by decide) _).trans o3, (eval_put_ne _ (by decide) _).trans o4, (eval_put_ne _ (by decide) _).trans o5, eval_put_eq _ (by rw [hsz3]; decide) _⟩ hS
set_option maxRecDepth 100000 in
theorem s2_loop {op av : Int} (ho : 1 ≤ op ∧ op ≤ 4) (hav : I64 av) {fb ab xb ar j an ac ob from_ to n c : Nat} (hja : j < an) (hja2 : an ≤ 1000) {xs : List Int} (hxs : ∀ x ∈ xs, I64 x) (hto : to = from_ + xs.length) (hn : to ≤ n) (hbig : n < 1000000) {b : Frame} (hb : b.kind ≠ .early) {K : List Item} {cs : List Frame}
    (hdone : ∀ a k w, a.defers = [] → S2 op fb ab xb ar j av an ac ob from_ to n c k w ∧ Seg w ob from_ (if j = 0 then xs else xs.map (two op av)) → J k (G (b.at a K) cs) w) :
    ∀ (N d : Nat) (a : Act) (k : LK) (w : World), xs.length - d = N → d ≤ xs.length → (j = 0 → d = 0) → A2 fb ab xb j to (from_ + d : Nat) a → S2 op fb ab xb ar j av an ac ob from_ to n c k w ∧ Seg w ob from_ (mapd op av xs d) → J k (G (b.at a (.code LB2 :: .inLoop LB2 :: .inBlock 0 :: K)) cs) w := by
  intro N
  induction N with
  | zero => ?_
  | succ N ih => ?_
  all_goals
    intro d a k w hN hdl hj0 ha h0
    have hlen := mapd_length op av xs d hdl
    have hSR : ∀ k w w₁, S2 op fb ab xb ar j av an ac ob from_ to n c k w ∧ Seg w ob from_ (mapd op av xs d) → R k w w₁ → S2 op fb ab xb ar j av an ac ob from_ to n c k w₁ ∧ Seg w₁ ob from_ (mapd op av xs d) := fun k w w₁ hS hR => ⟨hS.1.rely (hJ.rel _ _ _ hR), hS.2.rely2 (by omega) hS.1 (hJ.rel _ _ _ hR)⟩
    refine js_seq hJ _ hSR (fun k w hS => js_seq hJ _ hSR (fun k w hS => s2_test hJ hSR ha hb (fun a1 k w hA hS => ?_) hS) hS) h0
    first
      | (have hge : ¬ (from_ + d < to ∧ 0 < j) := by omega
         rw [decide_eq_false hge]
         refine js_exit hJ _ hSR (K1 := K) rfl (fun k w hS => hdone a1 k w hA.d ⟨hS.1, ?_⟩) hS
         have h2 := hS.2
         split
         · rename_i hj; rw [hj0 hj, mapd_zero] at h2; exact h2
         · rw [mapd_ge op av xs d (by omega)] at h2; exact h2)
      | (by_cases hj : j = 0
         · have hge : ¬ (from_ + d < to ∧ 0 < j) := by omega
           rw [decide_eq_false hge]
           refine js_exit hJ _ hSR (K1 := K) rfl (fun k w hS => hdone a1 k w hA.d ⟨hS.1, ?_⟩) hS
           have h2 := hS.2
           rw [if_pos hj]
           rw [hj0 hj, mapd_zero] at h2; exact h2
         have hlt : d < xs.length := by omega
         have hlt' : from_ + d < to ∧ 0 < j := by omega
         rw [decide_eq_true hlt']
         have hlen2 := mapd_length op av xs (d + 1) (by omega)
         have hSR2 : ∀ k w w₁, S2 op fb ab xb ar j av an ac ob from_ to n c k w ∧ Seg w ob from_ (mapd op av xs (d + 1)) → R k w w₁ → S2 op fb ab xb ar j av an ac ob from_ to n c k w₁ ∧ Seg w₁ ob from_ (mapd op av xs (d + 1)) := fun k w w₁ hS hR => ⟨hS.1.rely (hJ.rel _ _ _ hR), hS.2.rely2 (by omega) hS.1 (hJ.rel _ _ _ hR)⟩
         refine js_skip hJ _ hSR (fun k w hS => js_seq hJ _ hSR (fun k w hS => js_block hJ _ hSR (fun k w hS => s2_elem hJ ho hav hja hja2 hxs hto hn (by omega) hlt hA hb hS fun a2 k w hA2 hS => ?_) hS) hS) hS
         refine js_inBlock hJ _ hSR2 (fun k w hS => s2_inc hJ hSR2 (by omega) hA2 hb (fun a3 k w hA3 hS => ?_) hS) hS
         exact js_inLoop hJ _ hSR2 (fun k w hS => ih (d + 1) _ k w (by omega) (by omega) (by omega) hA3 hS) hS)
set_option maxRecDepth 100000 in
/-- ████ scan.Scan$2, in company ████: its part, behind what is ahead of it. -/
theorem scan2_j {op av : Int} (ho : 1 ≤ op ∧ op ≤ 4) (hav : I64 av) {fb ab xb ar j an ac ob from_ to n c : Nat} (hja : j < an) (hja2 : an ≤ 1000) {xs : List Int} (hxs : ∀ x ∈ xs, I64 x) (hto : to = from_ + xs.length) (hn : to ≤ n) (hbig : n < 1000000) {c' : Frame} {cs : List Frame} {k : LK} {w : World} (h0 : S2 op fb ab xb ar j av an ac ob from_ to n c k w ∧ Seg w ob from_ xs)
    (hdone : ∀ k w, S2 op fb ab xb ar j av an ac ob from_ to n c k w ∧ Seg w ob from_ (if j = 0 then xs else xs.map (two op av)) → J k (G (c'.finish (.tuple #[])) cs) w) :
    J k (G (Frame.enter Try.prog 17 #[.int .i64 j, .int .i64 from_, .int .i64 to, .pointer (some ⟨fb, 0, none⟩), .pointer (some ⟨ab, 0, none⟩), .pointer (some ⟨xb, 0, none⟩)] .normal) (c' :: cs)) w := by
  rw [enter_at _ Try.func17 body_s2, show (Try.f17).ntmps = 33 by kernel_rfl]
  have hSR : ∀ l : List Int, l.length ≤ xs.length → ∀ k w w₁, S2 op fb ab xb ar j av an ac ob from_ to n c k w ∧ Seg w ob from_ l → R k w w₁ → S2 op fb ab xb ar j av an ac ob from_ to n c k w₁ ∧ Seg w₁ ob from_ l := fun l hl k w w₁ hS hR => ⟨hS.1.rely (hJ.rel _ _ _ hR), hS.2.rely2 (by omega) hS.1 (hJ.rel _ _ _ hR)⟩
  have hb : (Go.Conc.base 17).kind ≠ .early := by decide
  generalize ha0 : (⟨#[.int .i64 j, .int .i64 from_, .int .i64 to, .pointer (some ⟨fb, 0, none⟩), .pointer (some ⟨ab, 0, none⟩), .pointer (some ⟨xb, 0, none⟩)] ++ Array.replicate (33 - #[Value.int .i64 j, .int .i64 from_, .int .i64 to, .pointer (some ⟨fb, 0, none⟩), .pointer (some ⟨ab, 0, none⟩), .pointer (some ⟨xb, 0, none⟩)].size) undef, []⟩ : Act) = a0
  have z0 : a0.tmps.size = 33 := by subst ha0; simp
  have zd : a0.defers = [] := by subst ha0; rfl
  have y0 : a0.eval (.tmp 0) = .int .i64 j := by subst ha0; exact eval_args _ _ 0 _ (by simp)
  have z1 : a0.eval (.tmp 1) = .int .i64 from_ := by subst ha0; exact eval_args _ _ 1 _ (by simp)
  have z2 : a0.eval (.tmp 2) = .int .i64 to := by subst ha0; exact eval_args _ _ 2 _ (by simp)
  have z3 : a0.eval (.tmp 3) = .pointer (some ⟨fb, 0, none⟩) := by subst ha0; exact eval_args _ _ 3 _ (by simp)
  have z4 : a0.eval (.tmp 4) = .pointer (some ⟨ab, 0, none⟩) := by subst ha0; exact eval_args _ _ 4 _ (by simp)
  have z5 : a0.eval (.tmp 5) = .pointer (some ⟨xb, 0, none⟩) := by subst ha0; exact eval_args _ _ 5 _ (by simp)
  clear ha0
  let V : Nat → Value := fun i => match i with
    | 0 => .int .i64 from_
    | 1 => .int .i64 from_
    | _ => undef
  have hdd := textOk_d f2_r0
  have od : ∀ t, prodOf (opsOf Try.f17 0) t = none → (putsV (opsOf Try.f17 0) V (List.range 2) a0).eval (.tmp t) = a0.eval (.tmp t) := fun t h1 => puts_old hdd h1
  have e10 : (putsV (opsOf Try.f17 0) V (List.range 2) a0).eval (.tmp 10) = .int .i64 from_ := puts_new hdd (j := 0) (by kernel_rfl) (by decide) (by rw [z0]; decide)
  have e9 : (putsV (opsOf Try.f17 0) V (List.range 2) a0).eval (.tmp 9) = .int .i64 from_ := puts_new hdd (j := 1) (by kernel_rfl) (by decide) (by rw [z0]; decide)
  have o5 := (od 5 (by kernel_rfl)).trans z5
  have o4 := (od 4 (by kernel_rfl)).trans z4
  have o3 := (od 3 (by kernel_rfl)).trans z3
  have o2 := (od 2 (by kernel_rfl)).trans z2
  have o1 := (od 1 (by kernel_rfl)).trans z1
  have o0 := (od 0 (by kernel_rfl)).trans y0
  have hA : A2 fb ab xb j to (from_ + 0 : Nat) (putsV (opsOf Try.f17 0) V (List.range 2) a0) := ⟨(puts_size hdd a0).trans z0, (puts_defers hdd a0).trans zd, o0, o2, o3, o4, o5, e9⟩
  refine js_seq hJ _ (hSR xs (Nat.le_refl _)) (fun k w hS => j_text hJ f2_r0 _ (hSR xs (Nat.le_refl _)) V hb (fun i o hio him k w hS => ?_) (fun k w hS => ?_) hS) h0
  · obtain rfl | rfl : i = 0 ∨ i = 1 := by omega
    · have := opv_move (P := Try.prog) (fn := (Go.Conc.base 17).fn) (e := (putsV (opsOf Try.f17 0) V (List.range 2) a0).eval) (k := k) (w := w) (x := .tmp 1) (.inl (op_of (p := .move (.tmp 1)) (by kernel_rfl) hio))
      rw [o1] at this; exact this
    · have := opv_move (P := Try.prog) (fn := (Go.Conc.base 17).fn) (e := (putsV (opsOf Try.f17 0) V (List.range 2) a0).eval) (k := k) (w := w) (x := .tmp 10) (.inr (op_of (p := .assign (.tmp 10)) (by kernel_rfl) hio))
      rw [e10] at this; exact this
  · have hsz : (opsOf Try.f17 0).size = 2 := by kernel_rfl
    rw [hsz, drop_all]
    generalize putsV (opsOf Try.f17 0) V (List.range 2) a0 = a1 at hA
    refine js_regend hJ _ (hSR xs (Nat.le_refl _)) (fun k w hS => js_block hJ _ (hSR xs (Nat.le_refl _)) (fun k w hS => js_loop hJ _ (hSR xs (Nat.le_refl _)) (fun k w hS => ?_) hS) hS) hS
    refine s2_loop hJ ho hav hja hja2 hxs hto hn hbig hb (K := []) (fun a k w hd hS => ?_) _ 0 a1 k w rfl (Nat.zero_le _) (fun _ => rfl) hA ⟨hS.1, by rw [mapd_zero]; exact hS.2⟩
    have hl : (if j = 0 then xs else xs.map (two op av)).length ≤ xs.length := by split <;> simp
    exact js_end hJ _ (hSR _ hl) (fun k w hS => js_leave0 hJ _ (hSR _ hl) rfl hd Try.func17 rfl (fun k w hS => hdone k w hS) hS) hS
end
end Go.Proofs.Ytnabgoljnfaebaa
