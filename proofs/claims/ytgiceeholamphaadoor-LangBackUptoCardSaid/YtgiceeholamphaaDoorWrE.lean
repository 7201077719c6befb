/- The contract of (*lang.writer).expr: it writes an expression's text behind what the writer holds. No conditions but that what is read is there, and is an expression, and the table of powers of ten is as it was laid. -/
import Derived.Test.YtgiceeholamphaaDoorBuild
import Derived.Test.YtgiceeholamphaaDoorTextE
namespace Go.Proofs.YtgiceeholamphaaDoor
open Go.ChangeShapes Go.WideShapes Go.ChangeAt Go.RowKit Go.Maps

/-- The writer in block b holds the text l. -/
abbrev W8 (B b : Nat) (l : List UInt8) (w : World) : Prop := IsW B b (Lib.byteCells l) w
/-- What stood below B stands; so do all blocks but b and the rows of bytes. -/
structure Kp (B b : Nat) (w w' : World) : Prop where
  below : Below B w w'
  others : Lib.OthersKept 5 (some b) w w'
theorem Kp.refl (B b : Nat) (w : World) : Kp B b w w := ⟨Below.refl _ _, Lib.OthersKept.refl _ _ _⟩
theorem Kp.trans {B b : Nat} {w w1 w2 : World} (h : Kp B b w w1) (k : Kp B b w1 w2) : Kp B b w w2 := ⟨h.below.trans k.below, h.others.trans k.others⟩
theorem Kp.size {B b : Nat} {w w' : World} (h : Kp B b w w') : w.heap.size ≤ w'.heap.size := h.below.size
theorem Kp.of {B b : Nat} {w w' : World} (h : Below w.heap.size w w') (hB : B ≤ w.heap.size) : Kp B b w w' :=
  ⟨h.mono hB, fun k _ hk _ _ => (h.block k (Array.getElem?_eq_some_iff.1 hk).1).trans hk⟩
theorem Kp.blk {B b n : Nat} {t : TypeId} {vs : List Value} {w w' : World} (h : Kp B b w w') (k : Blk w n t vs) (hn : n ≠ b) (ht : t ≠ 5) : Blk w' n t vs :=
  h.others n _ k (fun e => hn (Option.some.inj e)) fun c fz e => by injection e with _ e2 _; exact ht e2
theorem W8.below {B b : Nat} {l : List UInt8} {w w' : World} (h : W8 B b l w) (hb : Below w.heap.size w w') : W8 B b l w' := by
  have key : ∀ p, WAt B b p (Lib.byteCells l) w → WAt B b p (Lib.byteCells l) w' := by
    intro p h
    have hlt := h.lt
    obtain ⟨hB, v, hbk, hown, hne⟩ := h
    refine ⟨hB, v, (hb.block b hlt).trans hbk, ⟨hown.1, ?_⟩, hne⟩
    rcases hown.2 with hn | ⟨g, cap, cur, fz, hv, hbg, hg, rest⟩
    · exact .inl hn
    · exact .inr ⟨g, cap, cur, fz, hv, hbg, (hb.block g (Array.getElem?_eq_some_iff.1 hg).1).trans hg, rest⟩
  exact h.elim (fun x => .inl (key _ x)) fun x => .inr (key _ x)
theorem W8.lt {B b : Nat} {l : List UInt8} {w : World} (h : W8 B b l w) : b < w.heap.size := h.elim (fun x => x.lt) fun x => x.lt
theorem W8.le {B b : Nat} {l : List UInt8} {w : World} (h : W8 B b l w) : B ≤ b := h.elim (fun x => x.1) fun x => x.1
/-- Behind a call the writer in block b holds l. -/
def WP (B b : Nat) (l : List UInt8) (v : Value) (w : World) (E : Ending) (w' : World) : Prop := E = .returned v ∧ W8 B b l w' ∧ Kp B b w w'
theorem ws_any (B b : Nat) (l s : List UInt8) (w : World) (h : W8 B b l w) (hlen : l.length + s.length ≤ 140737488355328) (hBw : B ≤ w.heap.size) :
    Calls Tryd.prog 34 #[.pointer (some ⟨b, 0, none⟩), .string ⟨s.toArray⟩] w (WP B b (l ++ s) (.tuple #[.int .i64 s.length, .nilIface]) w) := by
  refine (writeString_any B b (Lib.byteCells l) ⟨s.toArray⟩ w h (by rw [Lib.byteCells_length]; exact hlen) hBw).mono ?_
  rintro E w' ⟨rfl, h1, h2, h3⟩
  exact ⟨rfl, .inr (by rw [Lib.byteCells_append]; exact h1), ⟨h2, h3⟩⟩
theorem wb_any (B b : Nat) (l : List UInt8) (c : UInt8) (w : World) (h : W8 B b l w) (hlen : l.length + 1 ≤ 140737488355328) (hBw : B ≤ w.heap.size) :
    Calls Tryd.prog 56 #[.pointer (some ⟨b, 0, none⟩), .int .u8 (c.toNat : Int)] w (WP B b (l ++ [c]) .nilIface w) := by
  refine (writeByte_any B b (Lib.byteCells l) c.toNat w h (by rw [Lib.byteCells_length]; exact hlen) hBw).mono ?_
  rintro E w' ⟨rfl, h1, h2, h3⟩
  exact ⟨rfl, .inr (by rw [Lib.byteCells_append]; exact h1), ⟨h2, h3⟩⟩
/-- The table of powers of ten stands as long as what lies below B stands. -/
abbrev TensB (B : Nat) (w : World) : Prop := Lib.TabBelow Tryd.prog B w "internal/strconv.uint64pow10" .u64 Lib.pow10Tab
/-- A sum or a difference. -/
def softB (k : Int) : Bool := k == 3 || k == 4
set_option maxRecDepth 100000 in
/-- Is an expression a sum or a difference? -/
theorem soft_any (k : ExprR) (w : World) :
    Calls Tryd.prog 80 #[k.val] w fun E w' => E = .returned (.bool (softB k.kind)) ∧ Below w.heap.size w w' := by
  obtain ⟨kk, kn, ks, kA, kc, kl⟩ := k
  show Calls Tryd.prog 80 #[.agg #[.int .i64 kk, .int .i64 kn, .string ks, .slice kA kl.length kc]] w (fun E w' => E = .returned (.bool (softB kk)) ∧ Below w.heap.size w w')
  by_cases h3 : kk = 3
  · subst h3
    go_enter Tryd.func80, Tryd.ntmps80
    go_wp2_with fail
    go_ret
    exact ⟨rfl, (Below.refl _ _).alloc (Nat.le_refl _) _⟩
  · by_cases h4 : kk = 4
    · subst h4
      go_enter Tryd.func80, Tryd.ntmps80
      go_wp2_with fail
      go_ret
      exact ⟨rfl, (Below.refl _ _).alloc (Nat.le_refl _) _⟩
    · have e3 : (kk == 3) = false := beq_eq_false_iff_ne.2 h3
      have e4 : (kk == 4) = false := beq_eq_false_iff_ne.2 h4
      have e5 : softB kk = false := by simp [softB, e3, e4]
      rw [e5]
      clear e5
      go_enter Tryd.func80, Tryd.ntmps80
      go_wp2_with fail
      go_ret
      exact ⟨rfl, (Below.refl _ _).alloc (Nat.le_refl _) _⟩
/-- How tight a side stands. -/
def tightOf (ek : Int) (second : Bool) : Nat := if ek = 5 then (if second then 2 else 1) else (if second then 1 else 0)
/-- Does a side want parentheses? As the code asks it. -/
def parenB (kk ek : Int) (second : Bool) : Bool := (softB kk && (ek == 5 || second)) || (kk == 5 && ek == 5 && second)
theorem ExprR.txt_side {k : ExprR} (h : AllE k) (ek : Int) (second : Bool) : k.txt (tightOf ek second) = if parenB k.kind ek second then 40 :: (k.txt 0 ++ [41]) else k.txt 0 := by
  rcases h.ok with ⟨h1, _⟩ | ⟨h1, _⟩ | ⟨h1, h2, _, _, h5⟩
  · rw [k.txt_num h1, k.txt_num h1, h1]; simp [parenB, softB]
  · rw [k.txt_name h1, k.txt_name h1, h1]; simp [parenB, softB]
  · obtain ⟨a, b, hab⟩ := kids2 h5
    rw [k.txt_op h1 hab, k.txt_op h1 hab]
    have hk : k.kind = 3 ∨ k.kind = 4 ∨ k.kind = 5 := by omega
    by_cases e5 : ek = 5
    · subst e5
      rcases hk with hk | hk | hk <;> cases second <;> simp [parenB, softB, tightOf, hk]
    · rcases hk with hk | hk | hk <;> cases second <;> simp [parenB, softB, tightOf, hk, e5]
/-- What the writer writes of an expression, at every world. -/
def ExprW (e : ExprR) : Prop := ∀ (w : World) (B b : Nat) (l : List UInt8), RdE w B e → W8 B b l w → l.length + 26 * e.nodes ≤ 8000000 → B ≤ w.heap.size → TensB B w →
  Calls Tryd.prog 55 #[.pointer (some ⟨b, 0, none⟩), e.val] w (WP B b (l ++ e.txt 0) (.tuple #[]) w)
theorem box_facts2 {w W : World} {c : List Value} {t : TypeId} (h : w.alloc (.cells c.toArray t) = W) : Below w.heap.size w W ∧ W.heap.size = w.heap.size + 1 ∧ Blk W w.heap.size t c := by
  subst h
  exact ⟨(Below.refl _ _).alloc (Nat.le_refl _) _, by simp, Blk.new _ _ _⟩
set_option maxRecDepth 100000 in
set_option maxHeartbeats 4000000 in
theorem side_any (k : ExprR) (hk : AllE k) (ih : ExprW k) (w : World) (B b n2 n3 n4 : Nat) (l : List UInt8) (ek em : Int) (es : ByteArray) (eA : Option Addr) (en ec : Nat) (second : Bool)
    (hR : RdE w B k) (hW : W8 B b l w) (hl : l.length + 2 + 26 * k.nodes ≤ 8000000) (hB : B ≤ w.heap.size) (hT : TensB B w)
    (h2 : Blk w n2 74 [.pointer (some ⟨b, 0, none⟩)]) (h3 : Blk w n3 46 [.int .i64 ek, .int .i64 em, .string es, .slice eA en ec])
    (h4 : Blk w n4 52 [.func (.func 80) #[] #[]]) (d2 : n2 ≠ b) :
    Calls Tryd.prog 81 #[k.val, .bool second, .pointer (some ⟨n4, 0, none⟩), .pointer (some ⟨n3, 0, none⟩), .pointer (some ⟨n2, 0, none⟩)] w (WP B b (l ++ k.txt (tightOf ek second)) (.tuple #[]) w) := by
  have hs := k.txt_side hk ek second
  have hso := fun w => soft_any k w
  have htl := txt_len k hk 0
  obtain ⟨kk, kn, ks, kA, kc, kl⟩ := k
  simp only [ExprR.kind] at hs hso
  have hso := fun w => (show Calls Tryd.prog 80 #[.agg #[.int .i64 kk, .int .i64 kn, .string ks, .slice kA kl.length kc]] w _ from hso w)
  -- behind the box
  have hbx := fun (W : World) (hW0 : w.alloc (.cells #[.int .i64 kk, .int .i64 kn, .string ks, .slice kA kl.length kc] 46) = W) => box_facts2 (c := [.int .i64 kk, .int .i64 kn, .string ks, .slice kA kl.length kc]) hW0
  have hfin : ∀ W, w.alloc (.cells #[.int .i64 kk, .int .i64 kn, .string ks, .slice kA kl.length kc] 46) = W → ∀ w1, Below W.heap.size W w1 →
      Blk w1 n2 74 [.pointer (some ⟨b, 0, none⟩)] ∧ Blk w1 w.heap.size 46 [.int .i64 kk, .int .i64 kn, .string ks, .slice kA kl.length kc] ∧ w1.cell? ⟨n3, 0, none⟩ = some (.int .i64 ek) ∧ W8 B b l w1 ∧ Kp B b w w1 := by
    intro W hW0 w1 hb1
    obtain ⟨g1, g2, g3⟩ := hbx W hW0
    have hb : Below w.heap.size w w1 := g1.trans (hb1.mono (by omega))
    exact ⟨h2.below hb h2.lt, g3.below hb1 (by omega), (hb.cell (p := ⟨n3, 0, none⟩) h3.lt).trans (h3.cell 0), hW.below hb, Kp.of hb hB⟩
  have c4 : ∀ W, w.alloc (.cells #[.int .i64 kk, .int .i64 kn, .string ks, .slice kA kl.length kc] 46) = W → W.cell? ⟨n4, 0, none⟩ = some (.func (.func 80) #[] #[]) := fun W hW0 =>
    ((hbx W hW0).1.cell (p := ⟨n4, 0, none⟩) h4.lt).trans (h4.cell 0)
  have H := Lib.hid (And.intro hs (And.intro hso (And.intro htl (And.intro hbx (And.intro hfin (And.intro ih (And.intro hR (And.intro hT (And.intro hl (And.intro hB hW.lt)))))))))); clear hs hso htl hbx hfin ih hR hT h2 h3 h4 hk hl hB hW
  show Calls Tryd.prog 81 #[.agg #[.int .i64 kk, .int .i64 kn, .string ks, .slice kA kl.length kc], .bool second, .pointer (some ⟨n4, 0, none⟩), .pointer (some ⟨n3, 0, none⟩), .pointer (some ⟨n2, 0, none⟩)] w _
  go_enter Tryd.func81, Tryd.ntmps81
  go_upto_region 1 with (fail)
  generalize hW0 : w.alloc (.cells #[.int .i64 kk, .int .i64 kn, .string ks, .slice kA kl.length kc] 46) = W0
  have hx := (H.out.2.2.2.1 W0 hW0).2.2
  have x0 : W0.cell? ⟨w.heap.size, 0, none⟩ = some (.int .i64 kk) := hx.cell 0
  have x1 : W0.cell? ⟨w.heap.size, 1, none⟩ = some (.int .i64 kn) := hx.cell 1
  have x2 : W0.cell? ⟨w.heap.size, 2, none⟩ = some (.string ks) := hx.cell 2
  have x3 : W0.cell? ⟨w.heap.size, 3, none⟩ = some (.slice kA kl.length kc) := hx.cell 3
  have c4' := c4 W0 hW0
  have h25 : w.heap.size ≠ b := by have := H.out.2.2.2.2.2.2.2.2.2.2; omega
  clear hx c4
  go_cut [30] (fun s30 wc => s30 = .bool (parenB kk ek second) ∧ Blk wc n2 74 [.pointer (some ⟨b, 0, none⟩)] ∧ Blk wc w.heap.size 46 [.int .i64 kk, .int .i64 kn, .string ks, .slice kA kl.length kc] ∧ W8 B b l wc ∧ Kp B b w wc)
  case first => as_aux_lemma =>
    generalize hsb : softB kk = sb at H
    cases sb <;> cases second <;> by_cases e5 : ek = 5 <;> by_cases k5 : kk = 5
    · subst k5
      subst e5
      have HE := Lib.hid hsb; clear hsb
      go_wp2_with (go_at_call 80; (
        refine (show Calls _ _ _ _ _ from H.out.2.1 W0).mono ?_
        rintro E w1 ⟨rfl, hb1⟩
        obtain ⟨s2, s5, s3, hw1, hk1⟩ := H.out.2.2.2.2.1 W0 hW0 w1 hb1
        have y0 : w1.cell? ⟨w.heap.size, 0, none⟩ = some (.int .i64 5) := s5.cell 0
        have HS := Lib.hid (And.intro s2 (And.intro s5 (And.intro hw1 hk1))); clear s2 s5 hw1 hk1 hb1))
      go_meet
      case rel => exact ⟨by simp [parenB, HE.out], HS.out.1, HS.out.2.1, HS.out.2.2.1, HS.out.2.2.2⟩
    · have k5' : (kk == 5) = false := by simp [k5]
      subst e5
      have HE := Lib.hid (And.intro hsb k5'); clear hsb k5
      go_wp2_with (go_at_call 80; (
        refine (show Calls _ _ _ _ _ from H.out.2.1 W0).mono ?_
        rintro E w1 ⟨rfl, hb1⟩
        obtain ⟨s2, s5, s3, hw1, hk1⟩ := H.out.2.2.2.2.1 W0 hW0 w1 hb1
        have y0 : w1.cell? ⟨w.heap.size, 0, none⟩ = some (.int .i64 kk) := s5.cell 0
        have HS := Lib.hid (And.intro s2 (And.intro s5 (And.intro hw1 hk1))); clear s2 s5 hw1 hk1 hb1))
      go_meet
      case rel => exact ⟨by simp [parenB, HE.out], HS.out.1, HS.out.2.1, HS.out.2.2.1, HS.out.2.2.2⟩
    · subst k5
      have e5' : (ek == 5) = false := by simp [e5]
      have HE := Lib.hid (And.intro hsb e5'); clear hsb e5
      go_wp2_with (go_at_call 80; (
        refine (show Calls _ _ _ _ _ from H.out.2.1 W0).mono ?_
        rintro E w1 ⟨rfl, hb1⟩
        obtain ⟨s2, s5, s3, hw1, hk1⟩ := H.out.2.2.2.2.1 W0 hW0 w1 hb1
        have y0 : w1.cell? ⟨w.heap.size, 0, none⟩ = some (.int .i64 5) := s5.cell 0
        have HS := Lib.hid (And.intro s2 (And.intro s5 (And.intro hw1 hk1))); clear s2 s5 hw1 hk1 hb1))
      go_meet
      case rel => exact ⟨by simp [parenB, HE.out], HS.out.1, HS.out.2.1, HS.out.2.2.1, HS.out.2.2.2⟩
    · have k5' : (kk == 5) = false := by simp [k5]
      have e5' : (ek == 5) = false := by simp [e5]
      have HE := Lib.hid (And.intro hsb (And.intro k5' e5')); clear hsb k5 e5
      go_wp2_with (go_at_call 80; (
        refine (show Calls _ _ _ _ _ from H.out.2.1 W0).mono ?_
        rintro E w1 ⟨rfl, hb1⟩
        obtain ⟨s2, s5, s3, hw1, hk1⟩ := H.out.2.2.2.2.1 W0 hW0 w1 hb1
        have y0 : w1.cell? ⟨w.heap.size, 0, none⟩ = some (.int .i64 kk) := s5.cell 0
        have HS := Lib.hid (And.intro s2 (And.intro s5 (And.intro hw1 hk1))); clear s2 s5 hw1 hk1 hb1))
      go_meet
      case rel => exact ⟨by simp [parenB, HE.out], HS.out.1, HS.out.2.1, HS.out.2.2.1, HS.out.2.2.2⟩
    · subst k5
      subst e5
      have HE := Lib.hid hsb; clear hsb
      go_wp2_with (go_at_call 80; (
        refine (show Calls _ _ _ _ _ from H.out.2.1 W0).mono ?_
        rintro E w1 ⟨rfl, hb1⟩
        obtain ⟨s2, s5, s3, hw1, hk1⟩ := H.out.2.2.2.2.1 W0 hW0 w1 hb1
        have y0 : w1.cell? ⟨w.heap.size, 0, none⟩ = some (.int .i64 5) := s5.cell 0
        have HS := Lib.hid (And.intro s2 (And.intro s5 (And.intro hw1 hk1))); clear s2 s5 hw1 hk1 hb1))
      go_meet
      case rel => exact ⟨by simp [parenB, HE.out], HS.out.1, HS.out.2.1, HS.out.2.2.1, HS.out.2.2.2⟩
    · have k5' : (kk == 5) = false := by simp [k5]
      subst e5
      have HE := Lib.hid (And.intro hsb k5'); clear hsb k5
      go_wp2_with (go_at_call 80; (
        refine (show Calls _ _ _ _ _ from H.out.2.1 W0).mono ?_
        rintro E w1 ⟨rfl, hb1⟩
        obtain ⟨s2, s5, s3, hw1, hk1⟩ := H.out.2.2.2.2.1 W0 hW0 w1 hb1
        have y0 : w1.cell? ⟨w.heap.size, 0, none⟩ = some (.int .i64 kk) := s5.cell 0
        have HS := Lib.hid (And.intro s2 (And.intro s5 (And.intro hw1 hk1))); clear s2 s5 hw1 hk1 hb1))
      go_meet
      case rel => exact ⟨by simp [parenB, HE.out], HS.out.1, HS.out.2.1, HS.out.2.2.1, HS.out.2.2.2⟩
    · subst k5
      have e5' : (ek == 5) = false := by simp [e5]
      have HE := Lib.hid (And.intro hsb e5'); clear hsb e5
      go_wp2_with (go_at_call 80; (
        refine (show Calls _ _ _ _ _ from H.out.2.1 W0).mono ?_
        rintro E w1 ⟨rfl, hb1⟩
        obtain ⟨s2, s5, s3, hw1, hk1⟩ := H.out.2.2.2.2.1 W0 hW0 w1 hb1
        have y0 : w1.cell? ⟨w.heap.size, 0, none⟩ = some (.int .i64 5) := s5.cell 0
        have HS := Lib.hid (And.intro s2 (And.intro s5 (And.intro hw1 hk1))); clear s2 s5 hw1 hk1 hb1))
      go_meet
      case rel => exact ⟨by simp [parenB, HE.out], HS.out.1, HS.out.2.1, HS.out.2.2.1, HS.out.2.2.2⟩
    · have k5' : (kk == 5) = false := by simp [k5]
      have e5' : (ek == 5) = false := by simp [e5]
      have HE := Lib.hid (And.intro hsb (And.intro k5' e5')); clear hsb k5 e5
      go_wp2_with (go_at_call 80; (
        refine (show Calls _ _ _ _ _ from H.out.2.1 W0).mono ?_
        rintro E w1 ⟨rfl, hb1⟩
        obtain ⟨s2, s5, s3, hw1, hk1⟩ := H.out.2.2.2.2.1 W0 hW0 w1 hb1
        have y0 : w1.cell? ⟨w.heap.size, 0, none⟩ = some (.int .i64 kk) := s5.cell 0
        have HS := Lib.hid (And.intro s2 (And.intro s5 (And.intro hw1 hk1))); clear s2 s5 hw1 hk1 hb1))
      go_meet
      case rel => exact ⟨by simp [parenB, HE.out], HS.out.1, HS.out.2.1, HS.out.2.2.1, HS.out.2.2.2⟩
    · subst k5; simp [softB] at hsb
    · have k5' : (kk == 5) = false := by simp [k5]
      subst e5
      have HE := Lib.hid (And.intro hsb k5'); clear hsb k5
      go_wp2_with (go_at_call 80; (
        refine (show Calls _ _ _ _ _ from H.out.2.1 W0).mono ?_
        rintro E w1 ⟨rfl, hb1⟩
        obtain ⟨s2, s5, s3, hw1, hk1⟩ := H.out.2.2.2.2.1 W0 hW0 w1 hb1
        have y0 : w1.cell? ⟨w.heap.size, 0, none⟩ = some (.int .i64 kk) := s5.cell 0
        have HS := Lib.hid (And.intro s2 (And.intro s5 (And.intro hw1 hk1))); clear s2 s5 hw1 hk1 hb1))
      go_meet
      case rel => exact ⟨by simp [parenB, HE.out], HS.out.1, HS.out.2.1, HS.out.2.2.1, HS.out.2.2.2⟩
    · subst k5; simp [softB] at hsb
    · have k5' : (kk == 5) = false := by simp [k5]
      have e5' : (ek == 5) = false := by simp [e5]
      have HE := Lib.hid (And.intro hsb (And.intro k5' e5')); clear hsb k5 e5
      go_wp2_with (go_at_call 80; (
        refine (show Calls _ _ _ _ _ from H.out.2.1 W0).mono ?_
        rintro E w1 ⟨rfl, hb1⟩
        obtain ⟨s2, s5, s3, hw1, hk1⟩ := H.out.2.2.2.2.1 W0 hW0 w1 hb1
        have y0 : w1.cell? ⟨w.heap.size, 0, none⟩ = some (.int .i64 kk) := s5.cell 0
        have HS := Lib.hid (And.intro s2 (And.intro s5 (And.intro hw1 hk1))); clear s2 s5 hw1 hk1 hb1))
      go_meet
      case rel => exact ⟨by simp [parenB, HE.out], HS.out.1, HS.out.2.1, HS.out.2.2.1, HS.out.2.2.2⟩
    · subst k5; simp [softB] at hsb
    · have k5' : (kk == 5) = false := by simp [k5]
      subst e5
      have HE := Lib.hid (And.intro hsb k5'); clear hsb k5
      go_wp2_with (go_at_call 80; (
        refine (show Calls _ _ _ _ _ from H.out.2.1 W0).mono ?_
        rintro E w1 ⟨rfl, hb1⟩
        obtain ⟨s2, s5, s3, hw1, hk1⟩ := H.out.2.2.2.2.1 W0 hW0 w1 hb1
        have y0 : w1.cell? ⟨w.heap.size, 0, none⟩ = some (.int .i64 kk) := s5.cell 0
        have HS := Lib.hid (And.intro s2 (And.intro s5 (And.intro hw1 hk1))); clear s2 s5 hw1 hk1 hb1))
      go_meet
      case rel => exact ⟨by simp [parenB, HE.out], HS.out.1, HS.out.2.1, HS.out.2.2.1, HS.out.2.2.2⟩
    · subst k5; simp [softB] at hsb
    · have k5' : (kk == 5) = false := by simp [k5]
      have e5' : (ek == 5) = false := by simp [e5]
      have HE := Lib.hid (And.intro hsb (And.intro k5' e5')); clear hsb k5 e5
      go_wp2_with (go_at_call 80; (
        refine (show Calls _ _ _ _ _ from H.out.2.1 W0).mono ?_
        rintro E w1 ⟨rfl, hb1⟩
        obtain ⟨s2, s5, s3, hw1, hk1⟩ := H.out.2.2.2.2.1 W0 hW0 w1 hb1
        have y0 : w1.cell? ⟨w.heap.size, 0, none⟩ = some (.int .i64 kk) := s5.cell 0
        have HS := Lib.hid (And.intro s2 (And.intro s5 (And.intro hw1 hk1))); clear s2 s5 hw1 hk1 hb1))
      go_meet
      case rel => exact ⟨by simp [parenB, HE.out], HS.out.1, HS.out.2.1, HS.out.2.2.1, HS.out.2.2.2⟩
  case rest =>
    obtain ⟨rfl, s2, s5, hw1, hk1⟩ := hcut
    have hR1 := H.out.2.2.2.2.2.2.1.under hk1.below
    have hT1 := H.out.2.2.2.2.2.2.2.1.on hk1.below
    have hl := H.out.2.2.2.2.2.2.2.2.1
    have hB := H.out.2.2.2.2.2.2.2.2.2.1
    have hz1 := hk1.size
    have htx := H.out.1
    have htl := H.out.2.2.1
    have hlt : ∀ t : List UInt8, l ++ (40 :: (t ++ [41])) = l ++ [40] ++ t ++ [41] := fun t => by simp
    clear x0 x1 x2 x3 c4'
    have z2 : wc.cell? ⟨n2, 0, none⟩ = some (.pointer (some ⟨b, 0, none⟩)) := s2.cell 0
    have y0 : wc.cell? ⟨w.heap.size, 0, none⟩ = some (.int .i64 kk) := s5.cell 0
    have y1 : wc.cell? ⟨w.heap.size, 1, none⟩ = some (.int .i64 kn) := s5.cell 1
    have y2 : wc.cell? ⟨w.heap.size, 2, none⟩ = some (.string ks) := s5.cell 2
    have y3 : wc.cell? ⟨w.heap.size, 3, none⟩ = some (.slice kA kl.length kc) := s5.cell 3
    cases hpb : parenB kk ek second
    · have htx := htx.trans (if_neg (show ¬ (parenB kk ek second = true) by rw [hpb]; decide))
      have hc := H.out.2.2.2.2.2.1 wc B b l hR1 hw1 (by omega) (by omega) hT1
      have HF := Lib.hid (And.intro hc (And.intro htx hk1)); clear hc htx hk1 hw1 s2 s5 hR1 hT1 hpb hlt
      go_wp2_with (go_at_call 55; (
        refine (show Calls _ _ _ _ _ from HF.out.1).mono ?_
        rintro E w2 ⟨rfl, hw2, hk2⟩
        have HG := Lib.hid (And.intro hw2 hk2); clear hw2 hk2))
      go_end0
      exact ⟨rfl, by rw [HF.out.2.1]; exact HG.out.1, HF.out.2.2.trans HG.out.2⟩
    · have htx := htx.trans (if_pos hpb)
      have hb1 := wb_any B b l 40 wc hw1 (by omega) (by omega)
      have HF := Lib.hid (And.intro hb1 (And.intro htx (And.intro hk1 (And.intro s2 (And.intro s5 (And.intro hR1 (And.intro hT1 hlt))))))); clear hb1 htx hk1 hw1 s2 s5 hR1 hT1 hpb hlt
      have mk1 : Nat := 0
      go_wp2_with (first
        | (clear mk1; go_at_call 56; (
            refine (show Calls _ _ _ _ _ from HF.out.1).mono ?_
            rintro E w2 ⟨rfl, hw2, hk2⟩
            have hz2 := hk2.size
            have t2 := hk2.blk HF.out.2.2.2.1 d2 (by decide)
            have t5 := hk2.blk HF.out.2.2.2.2.1 h25 (by decide)
            have z2' : w2.cell? ⟨n2, 0, none⟩ = some (.pointer (some ⟨b, 0, none⟩)) := t2.cell 0
            have y0' : w2.cell? ⟨w.heap.size, 0, none⟩ = some (.int .i64 kk) := t5.cell 0
            have y1' : w2.cell? ⟨w.heap.size, 1, none⟩ = some (.int .i64 kn) := t5.cell 1
            have y2' : w2.cell? ⟨w.heap.size, 2, none⟩ = some (.string ks) := t5.cell 2
            have y3' : w2.cell? ⟨w.heap.size, 3, none⟩ = some (.slice kA kl.length kc) := t5.cell 3
            have hc := H.out.2.2.2.2.2.1 w2 B b (l ++ [40]) (HF.out.2.2.2.2.2.1.under hk2.below) hw2 (by simp; omega) (by omega) (HF.out.2.2.2.2.2.2.1.on hk2.below)
            have HG := Lib.hid (And.intro hc (And.intro hk2 t2)); clear hw2 hk2 t2 t5 hc))
        | (go_at_call 55; (
            refine (show Calls _ _ _ _ _ from HG.out.1).mono ?_
            rintro E w3 ⟨rfl, hw3, hk3⟩
            have hz3 := hk3.size
            have t3 := hk3.blk HG.out.2.2 d2 (by decide)
            have z3 : w3.cell? ⟨n2, 0, none⟩ = some (.pointer (some ⟨b, 0, none⟩)) := t3.cell 0
            have hb3 := wb_any B b _ 41 w3 hw3 (by simp; omega) (by omega)
            have HH := Lib.hid (And.intro hb3 hk3); clear hw3 hk3 t3 hb3))
        | (go_at_call 56; (
            refine (show Calls _ _ _ _ _ from HH.out.1).mono ?_
            rintro E w4 ⟨rfl, hw4, hk4⟩
            have HI := Lib.hid (And.intro hw4 hk4); clear hw4 hk4)))
      go_end0
      exact ⟨rfl, by rw [HF.out.2.1, HF.out.2.2.2.2.2.2.2]; exact HI.out.1, HF.out.2.2.1.trans (HG.out.2.1.trans (HH.out.2.trans HI.out.2))⟩
end Go.Proofs.YtgiceeholamphaaDoor
