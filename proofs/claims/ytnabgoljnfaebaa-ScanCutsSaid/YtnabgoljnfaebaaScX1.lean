/- The walk of scan.Scan$2 in company: memory, one element. No conditions but those named. -/
import Derived.Test.YtnabgoljnfaebaaScW3
import Derived.Conc.Own5
namespace Go.Proofs.Ytnabgoljnfaebaa
open Go.Conc Go.ConcN Go.RowKit
/-- Done up to d: each from what is ahead. -/
def mapd (op av : Int) (xs : List Int) (d : Nat) : List Int := (xs.take d).map (two op av) ++ xs.drop d
theorem mapd_length (op av : Int) (xs : List Int) (d : Nat) (h : d ≤ xs.length) : (mapd op av xs d).length = xs.length := by simp [mapd]; omega
theorem mapd_get (op av : Int) (xs : List Int) (d : Nat) (h : d ≤ xs.length) (i : Nat) (hi : i < xs.length) : (mapd op av xs d)[i]'(by rw [mapd_length _ _ _ _ h]; exact hi) = if i < d then two op av xs[i] else xs[i] := by
  unfold mapd
  by_cases e : i < d
  · rw [List.getElem_append_left (by simp; omega)]
    simp [e]
  · rw [List.getElem_append_right (by simp; omega)]
    simp only [List.length_map, List.length_take, List.getElem_drop, if_neg e]
    congr 1
    omega
theorem mapd_zero (op av : Int) (xs : List Int) : mapd op av xs 0 = xs := by simp [mapd]
theorem mapd_ge (op av : Int) (xs : List Int) (d : Nat) (h : xs.length ≤ d) : mapd op av xs d = xs.map (two op av) := by
  simp [mapd, List.take_of_length_le h, List.drop_eq_nil_of_le h]
/-- What the walk of Scan$2 needs of memory. -/
structure S2 (op : Int) (fb ab xb ar j : Nat) (av : Int) (an ac ob from_ to n c : Nat) (k : LK) (w : World) : Prop where
  glob : Try.prog.globals.size ≤ w.heap.size
  mem : ∀ l, k.W l ∨ k.R l → MemLoc w.heap.size l
  fc : w.cell? ⟨fb, 0, none⟩ = some (.func (.func (opF op)) #[] #[]) ∧ Lik k ⟨fb, 0, none⟩
  ac : w.cell? ⟨ab, 0, none⟩ = some (.slice (some ⟨ar, 0, none⟩) an ac) ∧ Lik k ⟨ab, 0, none⟩
  av : w.cell? ⟨ar, j, none⟩ = some (.int .i64 av) ∧ Lik k ⟨ar, j, none⟩
  oc : from_ < to → w.cell? ⟨xb, 0, none⟩ = some (.slice (some ⟨ob, 0, none⟩) n c) ∧ Lik k ⟨xb, 0, none⟩
  row : ∀ x, from_ ≤ x → x < to → k.W (.cell ⟨ob, x, none⟩) ∧ w.frozen? ⟨ob, x, none⟩ = false
  ne : from_ < to → fb ≠ ob ∧ ab ≠ ob ∧ xb ≠ ob ∧ ar ≠ ob
section
variable {op av : Int} {fb ab xb ar j an ac ob from_ to n c : Nat} {k k1 : LK} {w w₁ : World}
theorem S2.up (h : S2 op fb ab xb ar j av an ac ob from_ to n c k w) (hr : Rely k w w₁) (hu : Up k w.heap.size k1 w₁.heap.size) : S2 op fb ab xb ar j av an ac ob from_ to n c k1 w₁ where
  glob := Nat.le_trans h.glob hr.size
  mem := mem_up hu h.mem
  fc := ⟨(hr.cell _ h.fc.2).trans h.fc.1, h.fc.2.up hu⟩
  ac := ⟨(hr.cell _ h.ac.2).trans h.ac.1, h.ac.2.up hu⟩
  av := ⟨(hr.cell _ h.av.2).trans h.av.1, h.av.2.up hu⟩
  oc := fun hlt => ⟨(hr.cell _ (h.oc hlt).2).trans (h.oc hlt).1, (h.oc hlt).2.up hu⟩
  row := fun x h1 h2 => ⟨hu.W _ (h.row x h1 h2).1, (frozen_rely hr (h.mem (.cell ⟨ob, x, none⟩) (.inl (h.row x h1 h2).1))).trans (h.row x h1 h2).2⟩
  ne := h.ne
theorem S2.rely (h : S2 op fb ab xb ar j av an ac ob from_ to n c k w) (hr : Rely k w w₁) : S2 op fb ab xb ar j av an ac ob from_ to n c k w₁ := h.up hr ((Up.refl _ _).wide hr.size)
theorem Seg.rely2 {l : List Int} (h : Seg w ob from_ l) (hl : from_ + l.length ≤ to) (hs : S2 op fb ab xb ar j av an ac ob from_ to n c k w) (hr : Rely k w w₁) : Seg w₁ ob from_ l := fun i hi => (hr.cell _ (.inl (hs.row (from_ + i) (by omega) (by omega)).1)).trans (h i hi)
end
set_option maxRecDepth 100000 in
theorem body_s2 : (Try.f17).body = some (.seq (.region 0 (opsOf Try.f17 0) false) (.block 0 (.loop (.seq (.seq (.region 1 (opsOf Try.f17 1) false) (.cond (.tmp 17) .skip (.exit 0))) (.seq (.block 1 (.region 3 (opsOf Try.f17 3) true)) (.region 2 (opsOf Try.f17 2) false)))))) := by kernel_rfl
noncomputable def LB2 : Code := .seq (.seq (.region 1 (opsOf Try.f17 1) false) (.cond (.tmp 17) .skip (.exit 0))) (.seq (.block 1 (.region 3 (opsOf Try.f17 3) true)) (.region 2 (opsOf Try.f17 2) false))
structure A2 (fb ab xb j to : Nat) (kk : Int) (a : Act) : Prop where
  size : a.tmps.size = 33
  d : a.defers = []
  t0 : a.eval (.tmp 0) = .int .i64 j
  t2 : a.eval (.tmp 2) = .int .i64 to
  t3 : a.eval (.tmp 3) = .pointer (some ⟨fb, 0, none⟩)
  t4 : a.eval (.tmp 4) = .pointer (some ⟨ab, 0, none⟩)
  t5 : a.eval (.tmp 5) = .pointer (some ⟨xb, 0, none⟩)
  t9 : a.eval (.tmp 9) = .int .i64 kk
set_option maxRecDepth 100000 in
theorem f2_r3 : drawOk (opsOf Try.f17 3) 13 = true := by kernel_rfl
set_option maxRecDepth 100000 in
theorem f2_r1 : textOk (opsOf Try.f17 1) 4 = true := by kernel_rfl
set_option maxRecDepth 100000 in
theorem f2_r2 : textOk (opsOf Try.f17 2) 2 = true := by kernel_rfl
set_option maxRecDepth 100000 in
theorem f2_r0 : textOk (opsOf Try.f17 0) 2 = true := by kernel_rfl
section
variable {J : LK → Goroutine → World → Prop} {main : Bool} {R : LK → World → World → Prop} (hJ : JOk Try.prog main R J)
include hJ
set_option maxRecDepth 100000 in
/-- One element. -/
theorem s2_elem {op av : Int} (ho : 1 ≤ op ∧ op ≤ 4) (hav : I64 av) {fb ab xb ar j an ac ob from_ to n c : Nat} (hja : j < an) (hja2 : an ≤ 1000) {xs : List Int} (hxs : ∀ x ∈ xs, I64 x) (hto : to = from_ + xs.length) (hn : to ≤ n) (hbig : n ≤ 1000000) {d : Nat} (hd : d < xs.length)
    {a : Act} (ha : A2 fb ab xb j to (from_ + d : Nat) a) {b : Frame} (hb : b.kind ≠ .early) {K : List Item} {cs : List Frame} {k : LK} {w : World} (h0 : S2 op fb ab xb ar j av an ac ob from_ to n c k w ∧ Seg w ob from_ (mapd op av xs d))
    (hnext : ∀ a1 k1 w1, A2 fb ab xb j to (from_ + d : Nat) a1 → S2 op fb ab xb ar j av an ac ob from_ to n c k1 w1 ∧ Seg w1 ob from_ (mapd op av xs (d + 1)) → J k1 (G (b.at a1 K) cs) w1) : J k (G (b.at a (.code (.region 3 (opsOf Try.f17 3) true) :: K)) cs) w := by
  have hml := mapd_length op av xs d (by omega)
  have hft : from_ < to := by omega
  let xb' : Int := xs[d]
  have i2 : I64 xb' := hxs _ (List.getElem_mem _)
  let V : Nat → Value := fun i => match i with
    | 0 => .slice (some ⟨ob, 0, none⟩) n c
    | 1 => .int .i64 (from_ + d : Nat)
    | 2 => .func (.func (opF op)) #[] #[]
    | 3 => .slice (some ⟨ar, 0, none⟩) an ac
    | 4 => .int .i64 j
    | 5 => .pointer (some ⟨ar, j, none⟩)
    | 6 => .int .i64 av
    | 7 => .slice (some ⟨ob, 0, none⟩) n c
    | 8 => .int .i64 (from_ + d : Nat)
    | 9 => .pointer (some ⟨ob, from_ + d, none⟩)
    | 10 => .int .i64 xb'
    | 11 => .int .i64 (two op av xb')
    | 12 => .pointer (some ⟨ob, from_ + d, none⟩)
    | _ => undef
  have hdd := drawOk_d f2_r3
  have nw : ∀ t j, prodOf (opsOf Try.f17 3) t = some j → j < 13 → t < 33 → (putsV (opsOf Try.f17 3) V (List.range 13) a).eval (.tmp t) = V j := fun t j h1 h2 h3 => puts_new hdd h1 h2 (by rw [ha.size]; exact h3)
  have od : ∀ t, prodOf (opsOf Try.f17 3) t = none → (putsV (opsOf Try.f17 3) V (List.range 13) a).eval (.tmp t) = a.eval (.tmp t) := fun t h1 => puts_old hdd h1
  have hsz : (opsOf Try.f17 3).size = 14 := by kernel_rfl
  have hadd : ∀ b m : Nat, (⟨b, 0, none⟩ : Addr).add m = ⟨b, m, none⟩ := fun b m => by unfold Addr.add; split <;> simp_all
  have isI64 : ∀ w, (isAgg 2).run Try.prog w = .ok false w := fun w => Try.isAgg2 w
  have e0 : (putsV (opsOf Try.f17 3) V (List.range 13) a).eval (.tmp 20) = .slice (some ⟨ob, 0, none⟩) n c := (nw 20 0 (by kernel_rfl) (by decide) (by decide))
  have e1 : (putsV (opsOf Try.f17 3) V (List.range 13) a).eval (.tmp 21) = .int .i64 (from_ + d : Nat) := (nw 21 1 (by kernel_rfl) (by decide) (by decide))
  have e2 : (putsV (opsOf Try.f17 3) V (List.range 13) a).eval (.tmp 22) = .func (.func (opF op)) #[] #[] := (nw 22 2 (by kernel_rfl) (by decide) (by decide))
  have e3 : (putsV (opsOf Try.f17 3) V (List.range 13) a).eval (.tmp 23) = .slice (some ⟨ar, 0, none⟩) an ac := (nw 23 3 (by kernel_rfl) (by decide) (by decide))
  have e4 : (putsV (opsOf Try.f17 3) V (List.range 13) a).eval (.tmp 24) = .int .i64 j := (nw 24 4 (by kernel_rfl) (by decide) (by decide))
  have e5 : (putsV (opsOf Try.f17 3) V (List.range 13) a).eval (.tmp 25) = .pointer (some ⟨ar, j, none⟩) := (nw 25 5 (by kernel_rfl) (by decide) (by decide))
  have e6 : (putsV (opsOf Try.f17 3) V (List.range 13) a).eval (.tmp 26) = .int .i64 av := (nw 26 6 (by kernel_rfl) (by decide) (by decide))
  have e7 : (putsV (opsOf Try.f17 3) V (List.range 13) a).eval (.tmp 27) = .slice (some ⟨ob, 0, none⟩) n c := (nw 27 7 (by kernel_rfl) (by decide) (by decide))
  have e8 : (putsV (opsOf Try.f17 3) V (List.range 13) a).eval (.tmp 28) = .int .i64 (from_ + d : Nat) := (nw 28 8 (by kernel_rfl) (by decide) (by decide))
  have e9 : (putsV (opsOf Try.f17 3) V (List.range 13) a).eval (.tmp 29) = .pointer (some ⟨ob, from_ + d, none⟩) := (nw 29 9 (by kernel_rfl) (by decide) (by decide))
  have e10 : (putsV (opsOf Try.f17 3) V (List.range 13) a).eval (.tmp 30) = .int .i64 xb' := (nw 30 10 (by kernel_rfl) (by decide) (by decide))
  have e11 : (putsV (opsOf Try.f17 3) V (List.range 13) a).eval (.tmp 31) = .int .i64 (two op av xb') := (nw 31 11 (by kernel_rfl) (by decide) (by decide))
  have e12 : (putsV (opsOf Try.f17 3) V (List.range 13) a).eval (.tmp 32) = .pointer (some ⟨ob, from_ + d, none⟩) := (nw 32 12 (by kernel_rfl) (by decide) (by decide))
  have o9 := (od 9 (by kernel_rfl)).trans ha.t9
  have o5 := (od 5 (by kernel_rfl)).trans ha.t5
  have o4 := (od 4 (by kernel_rfl)).trans ha.t4
  have o3 := (od 3 (by kernel_rfl)).trans ha.t3
  have o2 := (od 2 (by kernel_rfl)).trans ha.t2
  have o0 := (od 0 (by kernel_rfl)).trans ha.t0
  refine j_draw hJ mixed_orders f2_r3 (fun k w => S2 op fb ab xb ar j av an ac ob from_ to n c k w ∧ Seg w ob from_ (mapd op av xs d)) (fun k w w₁ hS hR => ⟨hS.1.rely (hJ.rel _ _ _ hR), hS.2.rely2 (by omega) hS.1 (hJ.rel _ _ _ hR)⟩)
    (fun k w dd hS => ⟨hS.1.rely (.at k w dd), hS.2.rely2 (by omega) hS.1 (.at k w dd)⟩) V hb (fun i o hio him => ?_) (fun k w hS => ?_) h0
  · have hi15 : i < 14 := by have := (Array.getElem?_eq_some_iff.1 hio).1; omega
    obtain rfl | rfl | rfl | rfl | rfl | rfl | rfl | rfl | rfl | rfl | rfl | rfl | rfl : i = 0 ∨ i = 1 ∨ i = 2 ∨ i = 3 ∨ i = 4 ∨ i = 5 ∨ i = 6 ∨ i = 7 ∨ i = 8 ∨ i = 9 ∨ i = 10 ∨ i = 11 ∨ i = 12 := by omega
    · exact .inl fun k w hS => opv_load (op_of (p := .load 22 (.tmp 5)) (by kernel_rfl) hio) o5 (fun w => Try.isAgg22 w) (hS.1.oc hft).1 (hS.1.oc hft).2
    · refine .inl fun k w hS => ?_
      have := opv_move (P := Try.prog) (fn := b.fn) (e := (putsV (opsOf Try.f17 3) V (List.range 13) a).eval) (k := k) (w := w) (x := .tmp 9) (.inl (op_of (p := .move (.tmp 9)) (by kernel_rfl) hio))
      rw [o9] at this; exact this
    · exact .inl fun k w hS => opv_load (op_of (p := .load 31 (.tmp 3)) (by kernel_rfl) hio) o3 (fun w => Try.isAgg31 w) hS.1.fc.1 hS.1.fc.2
    · exact .inl fun k w hS => opv_load (op_of (p := .load 22 (.tmp 4)) (by kernel_rfl) hio) o4 (fun w => Try.isAgg22 w) hS.1.ac.1 hS.1.ac.2
    · refine .inl fun k w hS => ?_
      have := opv_move (P := Try.prog) (fn := b.fn) (e := (putsV (opsOf Try.f17 3) V (List.range 13) a).eval) (k := k) (w := w) (x := .tmp 0) (.inl (op_of (p := .move (.tmp 0)) (by kernel_rfl) hio))
      rw [o0] at this; exact this
    · refine .inl fun k w hS => ?_
      have := opv_index (P := Try.prog) (fn := b.fn) (k := k) (w := w) (op_of (p := .indexAddr 22 (.tmp 23) (.tmp 24)) (by kernel_rfl) hio) e3 e4 (by omega) (by omega) under_ints (fun w => Try.sizeOf2 w)
      have e : ((j : Nat) : Int).toNat * 1 = j := by omega
      rw [e, hadd] at this; exact this
    · exact .inl fun k w hS => opv_load (op_of (p := .load 2 (.tmp 25)) (by kernel_rfl) hio) e5 isI64 hS.1.av.1 hS.1.av.2
    · exact .inl fun k w hS => opv_load (op_of (p := .load 22 (.tmp 5)) (by kernel_rfl) hio) o5 (fun w => Try.isAgg22 w) (hS.1.oc hft).1 (hS.1.oc hft).2
    · refine .inl fun k w hS => ?_
      have := opv_move (P := Try.prog) (fn := b.fn) (e := (putsV (opsOf Try.f17 3) V (List.range 13) a).eval) (k := k) (w := w) (x := .tmp 9) (.inl (op_of (p := .move (.tmp 9)) (by kernel_rfl) hio))
      rw [o9] at this; exact this
    · refine .inl fun k w hS => ?_
      have := opv_index (P := Try.prog) (fn := b.fn) (k := k) (w := w) (op_of (p := .indexAddr 22 (.tmp 27) (.tmp 28)) (by kernel_rfl) hio) e7 e8 (by omega) (by omega) under_ints (fun w => Try.sizeOf2 w)
      have e : ((from_ + d : Nat) : Int).toNat * 1 = from_ + d := by omega
      rw [e, hadd] at this; exact this
    · refine .inl fun k w hS => opv_load (op_of (p := .load 2 (.tmp 29)) (by kernel_rfl) hio) e9 isI64 ?_ (.inl (hS.1.row _ (by omega) (by omega)).1)
      have := hS.2 d (by rw [hml]; omega)
      rw [this, mapd_get _ _ _ _ (by omega) _ (by omega), if_neg (by omega)]
      rfl
    · refine .inr ⟨opF op, #[.int .i64 av, .int .i64 xb'], fun w => ?_, fun k w c' cs' hS hn' => ?_⟩
      · have := op_call (P := Try.prog) (op_of (p := .call { callee := .value (.tmp 22), args := #[.tmp 26, .tmp 30], argTypes := #[2, 2] }) (by kernel_rfl) hio) e2 body_opF w
        simpa [e6, e10] using this
      · refine pure_call hJ scan_ok bad_ty (inL_opF op) (r := .int .i64 (two op av xb')) (fun v hv => ?_) (plain_int _ _) (fun w => (opF_s op av xb' w ho hav i2).mono ?_) hS.1.glob hS.1.mem fun k1 W1 hr hu => hn' k1 W1 ⟨hS.1.up hr hu, hS.2.rely2 (by omega) hS.1 hr⟩
        · simp at hv
          rcases hv with rfl | rfl <;> exact .int _ _
        · rintro e w' ⟨rfl, _⟩; rfl
    · refine .inl fun k w hS => ?_
      have := opv_index (P := Try.prog) (fn := b.fn) (k := k) (w := w) (op_of (p := .indexAddr 22 (.tmp 20) (.tmp 21)) (by kernel_rfl) hio) e0 e1 (by omega) (by omega) under_ints (fun w => Try.sizeOf2 w)
      have e : ((from_ + d : Nat) : Int).toNat * 1 = from_ + d := by omega
      rw [e, hadd] at this; exact this
  · obtain ⟨o, ho14, hop, hg, hdst⟩ := op_ex (ops := opsOf Try.f17 3) (i := 13) (p := .store 2 (.tmp 32) (.tmp 31)) (d := none) (by kernel_rfl)
    refine hJ.own _ _ _ rfl rfl fun w₁ hR => ?_
    have hrel := hJ.rel _ _ _ hR
    have h1 := hS.1.rely hrel
    have h2 := hS.2.rely2 (by omega) hS.1 hrel
    have hcell := h2 d (by rw [hml]; omega)
    obtain ⟨hW, hz⟩ := h1.row (from_ + d) (by omega) (by omega)
    obtain ⟨g1, g2⟩ := op_store (P := Try.prog) (fn := b.fn) (k := k) (w := w₁) hop e12 e11 ⟨fun c h => (by cases h), fun c h => (by cases h)⟩ (fun w => Try.sizeOf2 w) hcell hz hW
    refine ⟨_, _, _, stepG_none ho14 (by unfold Region.wanted; rw [hg]) hb g1, g2, ?_⟩
    rw [setCell_size, grow_self, hdst, put_none]
    have hne : ∀ q : Addr, q ≠ ⟨ob, from_ + d, none⟩ → (w₁.setCell ⟨ob, from_ + d, none⟩ (V 11)).cell? q = w₁.cell? q := fun q hq => World.cell?_setCell_other w₁ _ q _ (fun e => hq e.symm)
    have hnb : ∀ (b o : Nat), b ≠ ob → (w₁.setCell ⟨ob, from_ + d, none⟩ (V 11)).cell? ⟨b, o, none⟩ = w₁.cell? ⟨b, o, none⟩ := fun b o hbb => hne _ fun e => hbb (congrArg Addr.block e)
    have hfz : ∀ q : Addr, (w₁.setCell ⟨ob, from_ + d, none⟩ (V 11)).frozen? q = w₁.frozen? q := fun q => World.frozen?_setCell ..
    have hA : A2 fb ab xb j to (from_ + d : Nat) (putsV (opsOf Try.f17 3) V (List.range 13) a) := ⟨(puts_size hdd a).trans ha.size, (puts_defers hdd a).trans ha.d, o0, o2, o3, o4, o5, o9⟩
    obtain ⟨n1, n2, n3, n4⟩ := h1.ne hft
    refine js_regend hJ (fun k w => S2 op fb ab xb ar j av an ac ob from_ to n c k w ∧ Seg w ob from_ (mapd op av xs (d + 1))) (fun k w w₁ hS hR => ⟨hS.1.rely (hJ.rel _ _ _ hR), hS.2.rely2 (by rw [mapd_length op av xs (d + 1) (by omega)]; omega) hS.1 (hJ.rel _ _ _ hR)⟩)
      (fun k w hS => hnext _ k w hA hS) ⟨⟨by rw [setCell_size]; exact h1.glob, by rw [setCell_size]; exact h1.mem, ⟨(hnb _ _ n1).trans h1.fc.1, h1.fc.2⟩, ⟨(hnb _ _ n2).trans h1.ac.1, h1.ac.2⟩, ⟨(hnb _ _ n4).trans h1.av.1, h1.av.2⟩, fun hlt => ⟨(hnb _ _ n3).trans (h1.oc hlt).1, (h1.oc hlt).2⟩, fun x hx1 hx2 => ⟨(h1.row x hx1 hx2).1, (hfz _).trans (h1.row x hx1 hx2).2⟩, h1.ne⟩, fun i hi => ?_⟩
    · have hi' := hi
      rw [mapd_length op av xs (d + 1) (by omega)] at hi'
      by_cases e : i = d
      · subst e
        have := World.cell?_setCell_same (w := w₁) (a := ⟨ob, from_ + i, none⟩) (v := V 11) hcell
        refine Eq.trans this ?_
        rw [mapd_get op av xs (i + 1) (by omega) i hi', if_pos (by omega)]
        rfl
      · refine (hne ⟨ob, from_ + i, none⟩ (by intro e3; have := congrArg Addr.off e3; simp only at this; omega)).trans ?_
        rw [h2 i (by rw [hml]; exact hi'), mapd_get op av xs d (by omega) i hi', mapd_get op av xs (d + 1) (by omega) i hi']
        by_cases e2 : i < d
        · rw [if_pos e2, if_pos (by omega)]
        · rw [if_neg e2, if_neg (by omega)]
end
end Go.Proofs.Ytnabgoljnfaebaa
