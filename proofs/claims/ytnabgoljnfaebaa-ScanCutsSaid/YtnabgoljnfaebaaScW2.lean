/- The walk of scan.Scan$1 in company: the whole. No conditions but those named. -/
import Derived.Test.YtnabgoljnfaebaaScW1
namespace Go.Proofs.Ytnabgoljnfaebaa
open Go.Conc Go.ConcN Go.RowKit
theorem mixed_ge (op : Int) (xs : List Int) (d : Nat) (h : xs.length ≤ d) : mixed op xs d = scanI op xs := by
  unfold mixed
  rw [List.take_of_length_le (by rw [scanI_length]; exact h), List.drop_eq_nil_of_le h, List.append_nil]
theorem op_of {ops : Array Oper} {i : Nat} {o : Oper} {p : Op} (h : (ops[i]?).map (·.op) = some p) (ho : ops[i]? = some o) : o.op = p := by rw [ho] at h; simpa using h
theorem put_none (a : Act) (v : Value) : a.put none v = a := rfl
theorem op_ex {ops : Array Oper} {i : Nat} {p : Op} {d : Option Tmp} (h : (ops[i]?).map (fun o => (o.op, o.guard, o.dst)) = some (p, none, d)) : ∃ o, ops[i]? = some o ∧ o.op = p ∧ o.guard = none ∧ o.dst = d := by
  cases ho : ops[i]? with
  | none => rw [ho] at h; cases h
  | some o =>
    rw [ho] at h
    simp only [Option.map_some, Option.some.injEq, Prod.mk.injEq] at h
    exact ⟨o, rfl, h⟩
noncomputable def LB1 : Code := .seq (.seq (.region 1 (opsOf Try.f16 1) false) (.cond (.tmp 13) .skip (.exit 0))) (.seq (.block 1 (.region 3 (opsOf Try.f16 3) true)) (.region 2 (opsOf Try.f16 2) false))
structure A1 (fb xb to : Nat) (kk : Int) (a : Act) : Prop where
  size : a.tmps.size = 30
  d : a.defers = []
  t2 : a.eval (.tmp 2) = .int .i64 to
  t3 : a.eval (.tmp 3) = .pointer (some ⟨fb, 0, none⟩)
  t4 : a.eval (.tmp 4) = .pointer (some ⟨xb, 0, none⟩)
  t8 : a.eval (.tmp 8) = .int .i64 kk
theorem wrapI {n : Int} (h : I64 n) : IntKind.i64.wrap n = n := by unfold I64 at h; rw [IntKind.wrap_i64]; omega
set_option maxRecDepth 100000 in
theorem f1_r3 : drawOk (opsOf Try.f16 3) 14 = true := by kernel_rfl
set_option maxRecDepth 100000 in
theorem f1_r1 : textOk (opsOf Try.f16 1) 3 = true := by kernel_rfl
set_option maxRecDepth 100000 in
theorem f1_r2 : textOk (opsOf Try.f16 2) 2 = true := by kernel_rfl
set_option maxRecDepth 100000 in
theorem f1_r0 : textOk (opsOf Try.f16 0) 3 = true := by kernel_rfl
section
variable {J : LK → Goroutine → World → Prop} {main : Bool} {R : LK → World → World → Prop} (hJ : JOk Try.prog main R J)
include hJ
set_option maxRecDepth 100000 in
/-- One element. -/
theorem s1_elem {op : Int} (ho : 1 ≤ op ∧ op ≤ 4) {fb xb ob from_ to n c : Nat} {xs : List Int} (hxs : ∀ x ∈ xs, I64 x) (hto : to = from_ + xs.length) (hn : to ≤ n) (hbig : n ≤ 1000000) {d : Nat} (hd1 : 1 ≤ d) (hd : d < xs.length)
    {a : Act} (ha : A1 fb xb to (from_ + d : Nat) a) {b : Frame} (hb : b.kind ≠ .early) {K : List Item} {cs : List Frame} {k : LK} {w : World} (h0 : S1 op fb xb ob from_ to n c k w ∧ Seg w ob from_ (mixed op xs d))
    (hnext : ∀ a1 k1 w1, A1 fb xb to (from_ + d : Nat) a1 → S1 op fb xb ob from_ to n c k1 w1 ∧ Seg w1 ob from_ (mixed op xs (d + 1)) → J k1 (G (b.at a1 K) cs) w1) : J k (G (b.at a (.code (.region 3 (opsOf Try.f16 3) true) :: K)) cs) w := by
  have hml := mixed_length op xs d (by omega)
  have hft : from_ < to := by omega
  have hsl := scanI_length op xs
  let xa : Int := (scanI op xs)[d - 1]'(by rw [hsl]; omega)
  let xb' : Int := xs[d]
  have i1 : I64 xa := scanI_i64 op xs hxs _ (List.getElem_mem _)
  have i2 : I64 xb' := hxs _ (List.getElem_mem _)
  let V : Nat → Value := fun i => match i with
    | 0 => .slice (some ⟨ob, 0, none⟩) n c
    | 1 => .int .i64 (from_ + d : Nat)
    | 2 => .func (.func (opF op)) #[] #[]
    | 3 => .slice (some ⟨ob, 0, none⟩) n c
    | 4 => .int .i64 (from_ + d : Nat)
    | 5 => .int .i64 ((from_ + d : Nat) - 1)
    | 6 => .pointer (some ⟨ob, from_ + (d - 1), none⟩)
    | 7 => .int .i64 xa
    | 8 => .slice (some ⟨ob, 0, none⟩) n c
    | 9 => .int .i64 (from_ + d : Nat)
    | 10 => .pointer (some ⟨ob, from_ + d, none⟩)
    | 11 => .int .i64 xb'
    | 12 => .int .i64 (two op xa xb')
    | 13 => .pointer (some ⟨ob, from_ + d, none⟩)
    | _ => undef
  have hdd := drawOk_d f1_r3
  have nw : ∀ t j, prodOf (opsOf Try.f16 3) t = some j → j < 14 → t < 30 → (putsV (opsOf Try.f16 3) V (List.range 14) a).eval (.tmp t) = V j := fun t j h1 h2 h3 => puts_new hdd h1 h2 (by rw [ha.size]; exact h3)
  have od : ∀ t, prodOf (opsOf Try.f16 3) t = none → (putsV (opsOf Try.f16 3) V (List.range 14) a).eval (.tmp t) = a.eval (.tmp t) := fun t h1 => puts_old hdd h1
  have hsz : (opsOf Try.f16 3).size = 15 := by kernel_rfl
  have hadd : ∀ m : Nat, (⟨ob, 0, none⟩ : Addr).add m = ⟨ob, m, none⟩ := fun m => by unfold Addr.add; split <;> simp_all
  have isI64 : ∀ w, (isAgg 2).run Try.prog w = .ok false w := fun w => Try.isAgg2 w
  have e3 := (nw 19 3 (by kernel_rfl) (by decide) (by decide))
  have e0 := (nw 16 0 (by kernel_rfl) (by decide) (by decide))
  have e1 := (nw 17 1 (by kernel_rfl) (by decide) (by decide))
  have e2 := (nw 18 2 (by kernel_rfl) (by decide) (by decide))
  have e4 := (nw 20 4 (by kernel_rfl) (by decide) (by decide))
  have e5 := (nw 21 5 (by kernel_rfl) (by decide) (by decide))
  have e6 := (nw 22 6 (by kernel_rfl) (by decide) (by decide))
  have e7 : (putsV (opsOf Try.f16 3) V (List.range 14) a).eval (.tmp 23) = .int .i64 xa := (nw 23 7 (by kernel_rfl) (by decide) (by decide))
  have e8 := (nw 24 8 (by kernel_rfl) (by decide) (by decide))
  have e9 := (nw 25 9 (by kernel_rfl) (by decide) (by decide))
  have e10 := (nw 26 10 (by kernel_rfl) (by decide) (by decide))
  have e11 : (putsV (opsOf Try.f16 3) V (List.range 14) a).eval (.tmp 27) = .int .i64 xb' := (nw 27 11 (by kernel_rfl) (by decide) (by decide))
  have e12 := (nw 28 12 (by kernel_rfl) (by decide) (by decide))
  have e13 := (nw 29 13 (by kernel_rfl) (by decide) (by decide))
  have o8 := (od 8 (by kernel_rfl)).trans ha.t8
  have o4 := (od 4 (by kernel_rfl)).trans ha.t4
  have o3 := (od 3 (by kernel_rfl)).trans ha.t3
  have o2 := (od 2 (by kernel_rfl)).trans ha.t2
  have wsub : IntKind.i64.wrap (((from_ + d : Nat) : Int) - 1) = ((from_ + d : Nat) : Int) - 1 := wrapI (by unfold I64; omega)
  refine j_draw hJ mixed_orders f1_r3 (fun k w => S1 op fb xb ob from_ to n c k w ∧ Seg w ob from_ (mixed op xs d)) (fun k w w₁ hS hR => ⟨hS.1.rely (hJ.rel _ _ _ hR), hS.2.rely (by omega) hS.1 (hJ.rel _ _ _ hR)⟩)
    (fun k w dd hS => ⟨hS.1.rely (.at k w dd), hS.2.rely (by omega) hS.1 (.at k w dd)⟩) V hb (fun i o hio him => ?_) (fun k w hS => ?_) h0
  · have hi15 : i < 15 := by have := (Array.getElem?_eq_some_iff.1 hio).1; omega
    obtain rfl | rfl | rfl | rfl | rfl | rfl | rfl | rfl | rfl | rfl | rfl | rfl | rfl | rfl : i = 0 ∨ i = 1 ∨ i = 2 ∨ i = 3 ∨ i = 4 ∨ i = 5 ∨ i = 6 ∨ i = 7 ∨ i = 8 ∨ i = 9 ∨ i = 10 ∨ i = 11 ∨ i = 12 ∨ i = 13 := by omega
    · exact .inl fun k w hS => opv_load (op_of (p := .load 22 (.tmp 4)) (by kernel_rfl) hio) o4 (fun w => Try.isAgg22 w) (hS.1.oc hft).1 (hS.1.oc hft).2
    · refine .inl fun k w hS => ?_
      have := opv_move (P := Try.prog) (fn := b.fn) (e := (putsV (opsOf Try.f16 3) V (List.range 14) a).eval) (k := k) (w := w) (x := .tmp 8) (.inl (op_of (p := .move (.tmp 8)) (by kernel_rfl) hio))
      rw [o8] at this; exact this
    · exact .inl fun k w hS => opv_load (op_of (p := .load 31 (.tmp 3)) (by kernel_rfl) hio) o3 (fun w => Try.isAgg31 w) hS.1.fc.1 hS.1.fc.2
    · exact .inl fun k w hS => opv_load (op_of (p := .load 22 (.tmp 4)) (by kernel_rfl) hio) o4 (fun w => Try.isAgg22 w) (hS.1.oc hft).1 (hS.1.oc hft).2
    · refine .inl fun k w hS => ?_
      have := opv_move (P := Try.prog) (fn := b.fn) (e := (putsV (opsOf Try.f16 3) V (List.range 14) a).eval) (k := k) (w := w) (x := .tmp 8) (.inl (op_of (p := .move (.tmp 8)) (by kernel_rfl) hio))
      rw [o8] at this; exact this
    · refine .inl fun k w hS => ?_
      have := opv_sub (P := Try.prog) (fn := b.fn) (k := k) (w := w) (op_of (p := .binOp .sub 3 (.tmp 20) (.const (.int .i64 1)) 3) (by kernel_rfl) hio) e4 rfl under_int
      rw [wsub] at this; exact this
    · refine .inl fun k w hS => ?_
      have := opv_index (P := Try.prog) (fn := b.fn) (k := k) (w := w) (op_of (p := .indexAddr 22 (.tmp 19) (.tmp 21)) (by kernel_rfl) hio) e3 e5 (by omega) (by omega) under_ints (fun w => Try.sizeOf2 w)
      have e : (((from_ + d : Nat) : Int) - 1).toNat * 1 = from_ + (d - 1) := by omega
      rw [e, hadd] at this; exact this
    · refine .inl fun k w hS => opv_load (op_of (p := .load 2 (.tmp 22)) (by kernel_rfl) hio) e6 isI64 ?_ (.inl (hS.1.row _ (by omega) (by omega)).1)
      have := hS.2 (d - 1) (by rw [hml]; omega)
      rw [this, mixed_get _ _ _ (by omega) _ (by omega), if_pos (by omega)]
      rfl
    · exact .inl fun k w hS => opv_load (op_of (p := .load 22 (.tmp 4)) (by kernel_rfl) hio) o4 (fun w => Try.isAgg22 w) (hS.1.oc hft).1 (hS.1.oc hft).2
    · refine .inl fun k w hS => ?_
      have := opv_move (P := Try.prog) (fn := b.fn) (e := (putsV (opsOf Try.f16 3) V (List.range 14) a).eval) (k := k) (w := w) (x := .tmp 8) (.inl (op_of (p := .move (.tmp 8)) (by kernel_rfl) hio))
      rw [o8] at this; exact this
    · refine .inl fun k w hS => ?_
      have := opv_index (P := Try.prog) (fn := b.fn) (k := k) (w := w) (op_of (p := .indexAddr 22 (.tmp 24) (.tmp 25)) (by kernel_rfl) hio) e8 e9 (by omega) (by omega) under_ints (fun w => Try.sizeOf2 w)
      have e : ((from_ + d : Nat) : Int).toNat * 1 = from_ + d := by omega
      rw [e, hadd] at this; exact this
    · refine .inl fun k w hS => opv_load (op_of (p := .load 2 (.tmp 26)) (by kernel_rfl) hio) e10 isI64 ?_ (.inl (hS.1.row _ (by omega) (by omega)).1)
      have := hS.2 d (by rw [hml]; omega)
      rw [this, mixed_get _ _ _ (by omega) _ (by omega), if_neg (by omega)]
      rfl
    · refine .inr ⟨opF op, #[.int .i64 xa, .int .i64 xb'], fun w => ?_, fun k w c' cs' hS hn' => ?_⟩
      · have := op_call (P := Try.prog) (op_of (p := .call { callee := .value (.tmp 18), args := #[.tmp 23, .tmp 27], argTypes := #[2, 2] }) (by kernel_rfl) hio) e2 body_opF w
        simpa [e7, e11] using this
      · refine pure_call hJ scan_ok bad_ty (inL_opF op) (r := .int .i64 (two op xa xb')) (fun v hv => ?_) (plain_int _ _) (fun w => (opF_s op xa xb' w ho i1 i2).mono ?_) hS.1.glob hS.1.mem fun k1 W1 hr hu => hn' k1 W1 ⟨hS.1.up hr hu, hS.2.rely (by omega) hS.1 hr⟩
        · simp at hv
          rcases hv with rfl | rfl <;> exact .int _ _
        · rintro e w' ⟨rfl, _⟩; rfl
    · refine .inl fun k w hS => ?_
      have := opv_index (P := Try.prog) (fn := b.fn) (k := k) (w := w) (op_of (p := .indexAddr 22 (.tmp 16) (.tmp 17)) (by kernel_rfl) hio) e0 e1 (by omega) (by omega) under_ints (fun w => Try.sizeOf2 w)
      have e : ((from_ + d : Nat) : Int).toNat * 1 = from_ + d := by omega
      rw [e, hadd] at this; exact this
  · obtain ⟨o, ho14, hop, hg, hdst⟩ := op_ex (ops := opsOf Try.f16 3) (i := 14) (p := .store 2 (.tmp 29) (.tmp 28)) (d := none) (by kernel_rfl)
    refine hJ.own _ _ _ rfl rfl fun w₁ hR => ?_
    have hrel := hJ.rel _ _ _ hR
    have h1 := hS.1.rely hrel
    have h2 := hS.2.rely (by omega) hS.1 hrel
    have hcell := h2 d (by rw [hml]; omega)
    obtain ⟨hW, hz⟩ := h1.row (from_ + d) (by omega) (by omega)
    obtain ⟨g1, g2⟩ := op_store (P := Try.prog) (fn := b.fn) (k := k) (w := w₁) hop e13 e12 ⟨fun c h => (by cases h), fun c h => (by cases h)⟩ (fun w => Try.sizeOf2 w) hcell hz hW
    refine ⟨_, _, _, stepG_none ho14 (by unfold Region.wanted; rw [hg]) hb g1, g2, ?_⟩
    rw [setCell_size, grow_self, hdst, put_none]
    have hne : ∀ q : Addr, q ≠ ⟨ob, from_ + d, none⟩ → (w₁.setCell ⟨ob, from_ + d, none⟩ (V 12)).cell? q = w₁.cell? q := fun q hq => World.cell?_setCell_other w₁ _ q _ (fun e => hq e.symm)
    have hfz : ∀ q : Addr, (w₁.setCell ⟨ob, from_ + d, none⟩ (V 12)).frozen? q = w₁.frozen? q := fun q => World.frozen?_setCell ..
    have hA : A1 fb xb to (from_ + d : Nat) (putsV (opsOf Try.f16 3) V (List.range 14) a) := ⟨(puts_size hdd a).trans ha.size, (puts_defers hdd a).trans ha.d, o2, o3, o4, o8⟩
    refine js_regend hJ (fun k w => S1 op fb xb ob from_ to n c k w ∧ Seg w ob from_ (mixed op xs (d + 1))) (fun k w w₁ hS hR => ⟨hS.1.rely (hJ.rel _ _ _ hR), hS.2.rely (by rw [mixed_length op xs (d + 1) (by omega)]; omega) hS.1 (hJ.rel _ _ _ hR)⟩)
      (fun k w hS => hnext _ k w hA hS) ⟨⟨by rw [setCell_size]; exact h1.glob, by rw [setCell_size]; exact h1.mem, ⟨(hne _ (by intro e; have := congrArg Addr.off e; simp only at this; omega)).trans h1.fc.1, h1.fc.2⟩, fun hlt => ⟨(hne _ (by intro e; have := congrArg Addr.off e; simp only at this; omega)).trans (h1.oc hlt).1, (h1.oc hlt).2⟩, fun x hx1 hx2 => ⟨(h1.row x hx1 hx2).1, (hfz _).trans (h1.row x hx1 hx2).2⟩⟩, fun i hi => ?_⟩
    · have hi' := hi
      rw [mixed_length op xs (d + 1) (by omega)] at hi'
      by_cases e : i = d
      · subst e
        have := World.cell?_setCell_same (w := w₁) (a := ⟨ob, from_ + i, none⟩) (v := V 12) hcell
        obtain ⟨j, rfl⟩ : ∃ j, i = j + 1 := ⟨i - 1, by omega⟩
        rw [this, mixed_get op xs (j + 1 + 1) (by omega) (j + 1) hi', if_pos (by omega), scanI_succ op xs j hi']
        rfl
      · rw [hne _ (by intro e3; have := congrArg Addr.off e3; simp only at this; omega), h2 i (by rw [hml]; exact hi'), mixed_get op xs d (by omega) i hi', mixed_get op xs (d + 1) (by omega) i hi']
        by_cases e2 : i < d
        · rw [if_pos e2, if_pos (by omega)]
        · rw [if_neg e2, if_neg (by omega)]
end
end Go.Proofs.Ytnabgoljnfaebaa
