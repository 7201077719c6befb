/- stepref's parser: sums and products (made by mkpf.py). No conditions but that the parser is one. -/
import Derived.Test.YtgiceeholamphaaDoorPe
import Derived.Test.YtgiceeholamphaaDoorParN
namespace Go.Proofs.YtgiceeholamphaaDoor
open Go.ChangeShapes Go.WideShapes Go.ChangeAt Go.RowKit Go.Maps

/-- The state of a loop of expr. -/
structure PLoop (w : World) (n8 g : Nat) (s : ByteArray) (wr : World) (st : PSt) (e : ExprR) : Prop where
  at_ : PAt wr g s st
  grown : w.grownBy wr (some g)
  box : Blk wr w.heap.size 46 [.int .i64 0, .int .i64 0, .string ⟨#[]⟩, .slice none 0 0]
  val : Blk wr n8 46 e.cells
  ld : LdE (aside (w.heap.size + 1) n8) wr e
  low : w.heap.size < n8
theorem PLoop.moved {w wr w' : World} {n8 g : Nat} {s : ByteArray} {st st' : PSt} {e : ExprR} (h : PLoop w n8 g s wr st e) (hg : wr.grownBy w' (some g)) (hA : PAt w' g s st') (hgl : g < w.heap.size) : PLoop w n8 g s w' st' e := by
  have hl := h.low
  exact ⟨hA, h.grown.trans hg, h.box.grown hg (by intro e; cases e; omega), h.val.grown hg (by intro e; cases e; omega), h.ld.go (Stays.of_grown hg (by intro k e; cases e; simp; omega)), hl⟩
theorem PLoop.op {w w6 : World} {n8 g lo : Nat} {s : ByteArray} {st : PSt} {e e2 : ExprR} (h : PLoop w n8 g s w6 st e) (h2 : LdE (under lo) w6 e2) (hlo : n8 < lo) (hgl : g < w.heap.size) (k : Int) :
    PLoop w n8 g s ((World.put4 w6 n8 (.int .i64 k) (.int .i64 0) (.string ⟨#[]⟩) (.slice (some ⟨w6.heap.size, 0, none⟩) 2 2)).alloc (.cells #[.int .i64 e.kind, .int .i64 e.n, .string e.name, .slice e.sA e.kids.length e.sc, .int .i64 e2.kind, .int .i64 e2.n, .string e2.name, .slice e2.sA e2.kids.length e2.sc] 46)) st
      (.mk k 0 ⟨#[]⟩ (some ⟨w6.heap.size, 0, none⟩) 2 [e, e2]) := by
  have hlt := h.val.lt
  have hl := h.low
  have hnew := Blk.newArr (World.put4 w6 n8 (.int .i64 k) (.int .i64 0) (.string ⟨#[]⟩) (.slice (some ⟨w6.heap.size, 0, none⟩) 2 2)) 46 (cs := #[.int .i64 e.kind, .int .i64 e.n, .string e.name, .slice e.sA e.kids.length e.sc, .int .i64 e2.kind, .int .i64 e2.n, .string e2.name, .slice e2.sA e2.kids.length e2.sc]) (vs := e.cells ++ e2.cells) rfl
  rw [put4_size] at hnew
  refine ⟨(h.at_.put4 (by omega)).kept (World.grownBy_alloc _ _ _), grown_alloc (grown_put4 h.grown (by omega)) _, (h.box.far4 (by omega)).alloc _, ((h.val : Blk w6 n8 _ [_, _, _, _]).put4).alloc _, ?_, hl⟩
  refine LdE.two ?_ ?_ ?_ hnew
  · exact (h.ld.go (Stays.put4 (by simp))).go (Stays.alloc _)
  · exact ((h2.go (Stays.put4 (by simp; omega))).go (Stays.alloc _)).go (Stays.sub (by intro b _ hb; simp at hb ⊢; omega))
  · simp; omega
theorem PLoop.alloc {w wr : World} {n8 g : Nat} {s : ByteArray} {st : PSt} {e : ExprR} (h : PLoop w n8 g s wr st e) (o : Obj) : PLoop w n8 g s (wr.alloc o) st e :=
  ⟨h.at_.kept (World.grownBy_alloc _ _ _), grown_alloc h.grown o, h.box.alloc o, h.val.alloc o, h.ld.go (Stays.alloc o), h.low⟩
/-- What is to come of a loop. -/
def LR (f t : Nat) (e : ExprR) (r : PR ExprR) : PSt → Prop
  | .no n => r = .no n
  | .go ts => ∃ f', f' ≤ f ∧ (gram f').loop t e.plain ts = some r
def mS : PSt → Nat
  | .no _ => 0
  | .go ts => ts.length + 1
theorem stOf_pr {α β : Type} {r1 : PR α} {r : PR β} {k : α → List Tok → Option (PR β)} (h : thenR (some r1) k = some r) : (∃ n, r1 = .no n ∧ r = .no n) ∨ ∃ a ts, r1 = .ok a ts ∧ k a ts = some r := by
  cases r1 with
  | no n => cases h; exact .inl ⟨n, rfl, rfl⟩
  | ok a ts => exact .inr ⟨a, ts, rfl, h⟩
set_option maxRecDepth 100000 in
set_option maxHeartbeats 8000000 in
theorem pproduct (f : Nat) (ih : PE f) (w : World) (g : Nat) (s : ByteArray) (ts : List Tok) (r : PR ExprR) (h : PAt w g s (.go ts)) (hr : (gram (f + 1)).expr 1 ts = some r) :
    Calls Tryd.prog 73 #[.pointer (some ⟨g, 0, none⟩), .int .i64 1] w (PPost (QPe w.heap.size) w g s r) := by
  have hr := exprT (by decide) hr
  obtain ⟨W1, hW1⟩ : ∃ W1, w.alloc (.cells #[.int .i64 0, .int .i64 0, .string ⟨#[]⟩, .slice none 0 0] 46) = W1 := ⟨_, rfl⟩
  obtain ⟨hb1, hz1, hx1⟩ := box_facts (c := [.int .i64 0, .int .i64 0, .string ⟨#[]⟩, .slice none 0 0]) hW1
  have hgr1 : w.grownBy W1 none := grown_of_below hb1 none
  have h1 := h.kept hgr1
  have hgl := h.lt
  have k2 := h1.flag
  simp only [failed] at k2
  cases hr1 : (gram f).expr 2 ts with
  | none => rw [hr1] at hr; cases hr
  | some r1 =>
  rw [hr1] at hr
  have hc1 := ih 2 W1 g s (.go ts) r1 (by omega) h1 hr1
  have HH := Lib.hid (And.intro hc1 (And.intro hgr1 ih)); clear hc1 hgr1 h1 h ih hr1
  go_enter Tryd.func73, Tryd.ntmps73
  go_upto_block 1 with (go_at_call 73; (
    refine (show Calls _ _ _ _ _ from HH.out.1).mono ?_
    rintro E w3 ⟨hg3, h3, v, rfl, e, rfl, hle, hev⟩
    have H3 := Lib.hid (And.intro hg3 (And.intro h3 (And.intro hle hev))); clear hg3 h3 hle hev
    simp only [ExprR.val]))
  generalize hW4 : w3.alloc (.cells #[.int .i64 e.kind, .int .i64 e.n, .string e.name, .slice e.sA e.kids.length e.sc] 46) = W4
  obtain ⟨hb4, hz4, hx4⟩ := box_facts (c := e.cells) hW4
  clear hW4
  obtain ⟨hg3, h3, hle, hev⟩ := H3.out
  have hg34 := grown_of_below hb4 none
  have hx3 := hx1.grown hg3 (by intro e; cases e; omega)
  have hn3 : w.heap.size < w3.heap.size := hx3.lt
  have hL : PLoop w w3.heap.size g s W4 (stOf r1) e := ⟨h3.kept hg34, ((HH.out.2.1.but _).trans hg3).trans (hg34.but _), hx3.grown hg34 (by simp), hx4, (hle.go (Stays.sub (S' := aside (w.heap.size + 1) w3.heap.size) (by
    intro b hb hS
    simp [under, aside] at hS ⊢
    omega))).go (Stays.of_grown hg34 (by simp)), hn3⟩
  have hR : LR f 1 e r (stOf r1) := by
    rcases stOf_pr hr with ⟨n, rfl, rfl⟩ | ⟨a2, ts2, rfl, hk2⟩
    · rfl
    · exact ⟨f, Nat.le_refl _, by rw [hev a2 rfl]; exact hk2⟩
  have HL := Lib.hid (And.intro hW1 HH.out.2.2)
  clear hx1 hb1 h3 hg34 hx3 hx4 hb4 hg3 hle hev H3 HH hr hW1 hz1
  generalize w3.heap.size = n8 at *
  go_wp2_with fail
  go_loopg [9, 10] (mS (stOf r1)) (fun gk _ _ wr => ∃ (st : PSt) (e : ExprR), gk = mS st ∧ LR f 1 e r st ∧ PLoop w n8 g s wr st e)
  case atStart => exact ⟨_, e, rfl, hR, hL⟩
  case round =>
    clear hR hL
    obtain ⟨st, e, hgk, hR, hL⟩ := hrel
    have k2 := hL.at_.flag
    have hlow := hL.low
    cases st with
    | no n =>
      simp only [failed] at k2
      obtain rfl : r = .no n := hR
      obtain ⟨⟨c0, c1, c2, c3⟩, _⟩ := box4 hL.val
      obtain ⟨_, q0, q1, q2, q3⟩ := box4 hL.box
      have HX := Lib.hid hL; clear hL
      go_wp2_with fail
      have hx6 := HX.out.box.put4 (a' := .int .i64 e.kind) (b' := .int .i64 e.n) (c' := .string e.name) (d' := .slice e.sA e.kids.length e.sc)
      have hl6 := (HX.out.ld.go (Stays.put4 (n := w.heap.size) (a := .int .i64 e.kind) (b := .int .i64 e.n) (c := .string e.name) (d := .slice e.sA e.kids.length e.sc) (by simp [aside]))).go (Stays.sub (S' := under w.heap.size) (by intro b _ hb; simp [under, aside] at hb ⊢; omega))
      exact ret4 Tryd.results73 rfl rfl hx6 ⟨grown_put4 HX.out.grown (Nat.le_refl _), HX.out.at_.put4 hgl, _, rfl, e, rfl, hl6, fun a ha => by cases ha⟩
    | go ts =>
      simp only [failed] at k2
      obtain ⟨f1, hf1, hr0⟩ := hR
      obtain ⟨f2, hff, hr⟩ := loop_more hr0
      clear hr0
      subst hff
      rw [opK1] at hr
      have hgr := fun (x : List Tok) (r : PR ExprR) (hx : (gram f2).expr 2 x = some r) => by
        have := (gram_add f2 (f - f2)).expr 2 x r hx
        rwa [show f2 + (f - f2) = f by omega] at this
      have HGK := Lib.hid hgk; clear hgk
      have HX := Lib.hid hL; clear hL
      cases hk : isTok [42] ts with
      | true =>
        rw [hk] at hr
        simp only [if_true] at hr
        have hl1 : ts.tail.length + 1 = ts.length := tail_lt (by simp) hk
        cases hr2 : (gram f2).expr 2 ts.tail with
        | none => rw [hr2] at hr; cases hr
        | some r2 =>
        rw [hr2] at hr
        have hfew := (gram_few f2).expr _ _ _ hr2
        have hr2 := hgr _ _ hr2
        have mk1 : Nat := 0
        have mk2 : Nat := 0
        go_upto_region 23 with (first
          | (clear mk1; go_at_call 47; (
            refine (show Calls _ _ _ _ _ from is_any _ g s _ HX.out.at_ [42] (by simp)).mono ?_
            rintro E w5 ⟨hg, hA, rfl⟩
            simp only [isS, tailS] at hA ⊢
            rw [hk] at hA
            rw [hk]
            simp only [if_true, Bool.false_eq_true, if_false] at hA
            have hLn := HX.out.moved hg hA hgl
            have HP5 := Lib.hid hLn; clear hLn hg hA))
          | (clear mk2; go_at_call 73; (
            refine (show Calls _ _ _ _ _ from HL.out.2 2 _ g s _ r2 (by omega) HP5.out.at_ hr2).mono ?_
            rintro E w6 ⟨hg6, h6, v, rfl, e2, rfl, hle, hev⟩
            have hL6 := HP5.out.moved hg6 h6 hgl
            have H6 := Lib.hid (And.intro hL6 (And.intro hle (And.intro hev HP5.out.val.lt))); clear hL6 hle hev hg6 h6
            simp only [ExprR.val])))
        have hL7 := H6.out.1.alloc (.cells #[.int .i64 e2.kind, .int .i64 e2.n, .string e2.name, .slice e2.sA e2.kids.length e2.sc] 46)
        have hle7 := H6.out.2.1.go (Stays.alloc (.cells #[.int .i64 e2.kind, .int .i64 e2.n, .string e2.name, .slice e2.sA e2.kids.length e2.sc] 46))
        have hx10 := (box_facts (w := w6) (t := 46) (c := e2.cells) rfl).2.2
        have hev := H6.out.2.2.1
        have hlo := H6.out.2.2.2
        change Blk (w6.alloc (.cells #[.int .i64 e2.kind, .int .i64 e2.n, .string e2.name, .slice e2.sA e2.kids.length e2.sc] 46)) _ _ _ at hx10
        generalize w6.alloc (.cells #[.int .i64 e2.kind, .int .i64 e2.n, .string e2.name, .slice e2.sA e2.kids.length e2.sc] 46) = W7 at *
        generalize w6.heap.size = n10 at *
        obtain ⟨⟨d0, d1, d2, d3⟩, _⟩ := box4 hx10
        obtain ⟨⟨c0, c1, c2, c3⟩, q0, q1, q2, q3⟩ := box4 hL7.val
        have hn7 := hL7.val.lt
        have hX := Lib.hid (And.intro hL7 (And.intro hle7 (And.intro hr (And.intro hev (And.intro hfew hlo))))); clear hL7 hle7 hr hev hx10 hfew hlo
        go_wp2_with fail
        go_roundg (mS (stOf r2))
        case measure =>
          have hfew := hX.out.2.2.2.2.1
          rw [HGK.out]
          cases r2 with
          | no n => simp [stOf, mS]
          | ok a ts2 => simp only [Cost] at hfew; simp only [stOf, mS]; omega
        case rel =>
          obtain ⟨hL7, hle7, hr, hev, _, hlo⟩ := hX.out
          refine ⟨stOf r2, _, rfl, ?_, hL7.op hle7 hlo hgl 5⟩
          rcases stOf_pr hr with ⟨n, rfl, rfl⟩ | ⟨a2, ts2, rfl, hk2⟩
          · rfl
          · refine ⟨f2, by omega, ?_⟩
            rw [ExprR.plain_op, hev a2 rfl]
            exact hk2
      | false =>
        rw [hk] at hr
        simp only [Bool.false_eq_true, if_false] at hr
        obtain rfl := Option.some.inj hr
        have mk1 : Nat := 0
        go_wp2_with (first
          | (clear mk1; go_at_call 47; (
            refine (show Calls _ _ _ _ _ from is_any _ g s _ HX.out.at_ [42] (by simp)).mono ?_
            rintro E w5 ⟨hg, hA, rfl⟩
            simp only [isS, tailS] at hA ⊢
            rw [hk] at hA
            rw [hk]
            simp only [if_true, Bool.false_eq_true, if_false] at hA
            have hLn := HX.out.moved hg hA hgl
            have HP5 := Lib.hid hLn; clear hLn hg hA
            obtain ⟨⟨c0, c1, c2, c3⟩, _⟩ := box4 HP5.out.val
            obtain ⟨_, q0, q1, q2, q3⟩ := box4 HP5.out.box)))
        have hx6 := HP5.out.box.put4 (a' := .int .i64 e.kind) (b' := .int .i64 e.n) (c' := .string e.name) (d' := .slice e.sA e.kids.length e.sc)
        have hl6 := (HP5.out.ld.go (Stays.put4 (n := w.heap.size) (a := .int .i64 e.kind) (b := .int .i64 e.n) (c := .string e.name) (d := .slice e.sA e.kids.length e.sc) (by simp [aside]))).go (Stays.sub (S' := under w.heap.size) (by intro b _ hb; simp [under, aside] at hb ⊢; omega))
        exact ret4 Tryd.results73 rfl rfl hx6 ⟨grown_put4 HP5.out.grown (Nat.le_refl _), HP5.out.at_.put4 hgl, _, rfl, e, rfl, hl6, fun a ha => by cases ha; rfl⟩
set_option maxRecDepth 100000 in
set_option maxHeartbeats 8000000 in
theorem psum (f : Nat) (ih : PE f) (w : World) (g : Nat) (s : ByteArray) (ts : List Tok) (r : PR ExprR) (h : PAt w g s (.go ts)) (hr : (gram (f + 1)).expr 0 ts = some r) :
    Calls Tryd.prog 73 #[.pointer (some ⟨g, 0, none⟩), .int .i64 0] w (PPost (QPe w.heap.size) w g s r) := by
  have hr := exprT (by decide) hr
  obtain ⟨W1, hW1⟩ : ∃ W1, w.alloc (.cells #[.int .i64 0, .int .i64 0, .string ⟨#[]⟩, .slice none 0 0] 46) = W1 := ⟨_, rfl⟩
  obtain ⟨hb1, hz1, hx1⟩ := box_facts (c := [.int .i64 0, .int .i64 0, .string ⟨#[]⟩, .slice none 0 0]) hW1
  have hgr1 : w.grownBy W1 none := grown_of_below hb1 none
  have h1 := h.kept hgr1
  have hgl := h.lt
  have k2 := h1.flag
  simp only [failed] at k2
  cases hr1 : (gram f).expr 1 ts with
  | none => rw [hr1] at hr; cases hr
  | some r1 =>
  rw [hr1] at hr
  have hc1 := ih 1 W1 g s (.go ts) r1 (by omega) h1 hr1
  have HH := Lib.hid (And.intro hc1 (And.intro hgr1 ih)); clear hc1 hgr1 h1 h ih hr1
  go_enter Tryd.func73, Tryd.ntmps73
  go_upto_block 1 with (go_at_call 73; (
    refine (show Calls _ _ _ _ _ from HH.out.1).mono ?_
    rintro E w3 ⟨hg3, h3, v, rfl, e, rfl, hle, hev⟩
    have H3 := Lib.hid (And.intro hg3 (And.intro h3 (And.intro hle hev))); clear hg3 h3 hle hev
    simp only [ExprR.val]))
  generalize hW4 : w3.alloc (.cells #[.int .i64 e.kind, .int .i64 e.n, .string e.name, .slice e.sA e.kids.length e.sc] 46) = W4
  obtain ⟨hb4, hz4, hx4⟩ := box_facts (c := e.cells) hW4
  clear hW4
  obtain ⟨hg3, h3, hle, hev⟩ := H3.out
  have hg34 := grown_of_below hb4 none
  have hx3 := hx1.grown hg3 (by intro e; cases e; omega)
  have hn3 : w.heap.size < w3.heap.size := hx3.lt
  have hL : PLoop w w3.heap.size g s W4 (stOf r1) e := ⟨h3.kept hg34, ((HH.out.2.1.but _).trans hg3).trans (hg34.but _), hx3.grown hg34 (by simp), hx4, (hle.go (Stays.sub (S' := aside (w.heap.size + 1) w3.heap.size) (by
    intro b hb hS
    simp [under, aside] at hS ⊢
    omega))).go (Stays.of_grown hg34 (by simp)), hn3⟩
  have hR : LR f 0 e r (stOf r1) := by
    rcases stOf_pr hr with ⟨n, rfl, rfl⟩ | ⟨a2, ts2, rfl, hk2⟩
    · rfl
    · exact ⟨f, Nat.le_refl _, by rw [hev a2 rfl]; exact hk2⟩
  have HL := Lib.hid (And.intro hW1 HH.out.2.2)
  clear hx1 hb1 h3 hg34 hx3 hx4 hb4 hg3 hle hev H3 HH hr hW1 hz1
  generalize w3.heap.size = n8 at *
  go_wp2_with fail
  go_loopg [9, 10] (mS (stOf r1)) (fun gk _ _ wr => ∃ (st : PSt) (e : ExprR), gk = mS st ∧ LR f 0 e r st ∧ PLoop w n8 g s wr st e)
  case atStart => exact ⟨_, e, rfl, hR, hL⟩
  case round =>
    clear hR hL
    obtain ⟨st, e, hgk, hR, hL⟩ := hrel
    have k2 := hL.at_.flag
    have hlow := hL.low
    cases st with
    | no n =>
      simp only [failed] at k2
      obtain rfl : r = .no n := hR
      obtain ⟨⟨c0, c1, c2, c3⟩, _⟩ := box4 hL.val
      obtain ⟨_, q0, q1, q2, q3⟩ := box4 hL.box
      have HX := Lib.hid hL; clear hL
      go_wp2_with fail
      have hx6 := HX.out.box.put4 (a' := .int .i64 e.kind) (b' := .int .i64 e.n) (c' := .string e.name) (d' := .slice e.sA e.kids.length e.sc)
      have hl6 := (HX.out.ld.go (Stays.put4 (n := w.heap.size) (a := .int .i64 e.kind) (b := .int .i64 e.n) (c := .string e.name) (d := .slice e.sA e.kids.length e.sc) (by simp [aside]))).go (Stays.sub (S' := under w.heap.size) (by intro b _ hb; simp [under, aside] at hb ⊢; omega))
      exact ret4 Tryd.results73 rfl rfl hx6 ⟨grown_put4 HX.out.grown (Nat.le_refl _), HX.out.at_.put4 hgl, _, rfl, e, rfl, hl6, fun a ha => by cases ha⟩
    | go ts =>
      simp only [failed] at k2
      obtain ⟨f1, hf1, hr0⟩ := hR
      obtain ⟨f2, hff, hr⟩ := loop_more hr0
      clear hr0
      subst hff
      rw [opK0] at hr
      have hgr := fun (x : List Tok) (r : PR ExprR) (hx : (gram f2).expr 1 x = some r) => by
        have := (gram_add f2 (f - f2)).expr 1 x r hx
        rwa [show f2 + (f - f2) = f by omega] at this
      have HGK := Lib.hid hgk; clear hgk
      have HX := Lib.hid hL; clear hL
      cases hk : isTok [43] ts with
      | true =>
        rw [hk] at hr
        simp only [if_true] at hr
        have hl1 : ts.tail.length + 1 = ts.length := tail_lt (by simp) hk
        cases hr2 : (gram f2).expr 1 ts.tail with
        | none => rw [hr2] at hr; cases hr
        | some r2 =>
        rw [hr2] at hr
        have hfew := (gram_few f2).expr _ _ _ hr2
        have hr2 := hgr _ _ hr2
        have mk1 : Nat := 0
        have mk2 : Nat := 0
        go_upto_region 23 with (first
          | (clear mk1; go_at_call 47; (
            refine (show Calls _ _ _ _ _ from is_any _ g s _ HX.out.at_ [43] (by simp)).mono ?_
            rintro E w5 ⟨hg, hA, rfl⟩
            simp only [isS, tailS] at hA ⊢
            rw [hk] at hA
            rw [hk]
            simp only [if_true, Bool.false_eq_true, if_false] at hA
            have hLn := HX.out.moved hg hA hgl
            have HP5 := Lib.hid hLn; clear hLn hg hA))
          | (clear mk2; go_at_call 73; (
            refine (show Calls _ _ _ _ _ from HL.out.2 1 _ g s _ r2 (by omega) HP5.out.at_ hr2).mono ?_
            rintro E w6 ⟨hg6, h6, v, rfl, e2, rfl, hle, hev⟩
            have hL6 := HP5.out.moved hg6 h6 hgl
            have H6 := Lib.hid (And.intro hL6 (And.intro hle (And.intro hev HP5.out.val.lt))); clear hL6 hle hev hg6 h6
            simp only [ExprR.val])))
        have hL7 := H6.out.1.alloc (.cells #[.int .i64 e2.kind, .int .i64 e2.n, .string e2.name, .slice e2.sA e2.kids.length e2.sc] 46)
        have hle7 := H6.out.2.1.go (Stays.alloc (.cells #[.int .i64 e2.kind, .int .i64 e2.n, .string e2.name, .slice e2.sA e2.kids.length e2.sc] 46))
        have hx10 := (box_facts (w := w6) (t := 46) (c := e2.cells) rfl).2.2
        have hev := H6.out.2.2.1
        have hlo := H6.out.2.2.2
        change Blk (w6.alloc (.cells #[.int .i64 e2.kind, .int .i64 e2.n, .string e2.name, .slice e2.sA e2.kids.length e2.sc] 46)) _ _ _ at hx10
        generalize w6.alloc (.cells #[.int .i64 e2.kind, .int .i64 e2.n, .string e2.name, .slice e2.sA e2.kids.length e2.sc] 46) = W7 at *
        generalize w6.heap.size = n10 at *
        obtain ⟨⟨d0, d1, d2, d3⟩, _⟩ := box4 hx10
        obtain ⟨⟨c0, c1, c2, c3⟩, q0, q1, q2, q3⟩ := box4 hL7.val
        have hn7 := hL7.val.lt
        have hX := Lib.hid (And.intro hL7 (And.intro hle7 (And.intro hr (And.intro hev (And.intro hfew hlo))))); clear hL7 hle7 hr hev hx10 hfew hlo
        go_wp2_with fail
        go_roundg (mS (stOf r2))
        case measure =>
          have hfew := hX.out.2.2.2.2.1
          rw [HGK.out]
          cases r2 with
          | no n => simp [stOf, mS]
          | ok a ts2 => simp only [Cost] at hfew; simp only [stOf, mS]; omega
        case rel =>
          obtain ⟨hL7, hle7, hr, hev, _, hlo⟩ := hX.out
          refine ⟨stOf r2, _, rfl, ?_, hL7.op hle7 hlo hgl 3⟩
          rcases stOf_pr hr with ⟨n, rfl, rfl⟩ | ⟨a2, ts2, rfl, hk2⟩
          · rfl
          · refine ⟨f2, by omega, ?_⟩
            rw [ExprR.plain_op, hev a2 rfl]
            exact hk2
      | false =>
        rw [hk] at hr
        simp only [Bool.false_eq_true, if_false] at hr
        cases hk2 : isTok [45] ts with
        | true =>
          rw [hk2] at hr
          simp only [if_true] at hr
          have hl1 : ts.tail.length + 1 = ts.length := tail_lt (by simp) hk2
          cases hr2 : (gram f2).expr 1 ts.tail with
          | none => rw [hr2] at hr; cases hr
          | some r2 =>
          rw [hr2] at hr
          have hfew := (gram_few f2).expr _ _ _ hr2
          have hr2 := hgr _ _ hr2
          have mk1 : Nat := 0
          have mk2 : Nat := 0
          have mk3 : Nat := 0
          go_upto_region 23 with (first
            | (clear mk1; go_at_call 47; (
              refine (show Calls _ _ _ _ _ from is_any _ g s _ HX.out.at_ [43] (by simp)).mono ?_
              rintro E w4 ⟨hg, hA, rfl⟩
              simp only [isS, tailS] at hA ⊢
              rw [hk] at hA
              rw [hk]
              simp only [if_true, Bool.false_eq_true, if_false] at hA
              have hLn := HX.out.moved hg hA hgl
              have HP4 := Lib.hid hLn; clear hLn hg hA))
            | (clear mk2; go_at_call 47; (
              refine (show Calls _ _ _ _ _ from is_any _ g s _ HP4.out.at_ [45] (by simp)).mono ?_
              rintro E w5 ⟨hg, hA, rfl⟩
              simp only [isS, tailS] at hA ⊢
              rw [hk2] at hA
              rw [hk2]
              simp only [if_true, Bool.false_eq_true, if_false] at hA
              have hLn := HP4.out.moved hg hA hgl
              have HP5 := Lib.hid hLn; clear hLn hg hA))
            | (clear mk3; go_at_call 73; (
              refine (show Calls _ _ _ _ _ from HL.out.2 1 _ g s _ r2 (by omega) HP5.out.at_ hr2).mono ?_
              rintro E w6 ⟨hg6, h6, v, rfl, e2, rfl, hle, hev⟩
              have hL6 := HP5.out.moved hg6 h6 hgl
              have H6 := Lib.hid (And.intro hL6 (And.intro hle (And.intro hev HP5.out.val.lt))); clear hL6 hle hev hg6 h6
              simp only [ExprR.val])))
          have hL7 := H6.out.1.alloc (.cells #[.int .i64 e2.kind, .int .i64 e2.n, .string e2.name, .slice e2.sA e2.kids.length e2.sc] 46)
          have hle7 := H6.out.2.1.go (Stays.alloc (.cells #[.int .i64 e2.kind, .int .i64 e2.n, .string e2.name, .slice e2.sA e2.kids.length e2.sc] 46))
          have hx10 := (box_facts (w := w6) (t := 46) (c := e2.cells) rfl).2.2
          have hev := H6.out.2.2.1
          have hlo := H6.out.2.2.2
          change Blk (w6.alloc (.cells #[.int .i64 e2.kind, .int .i64 e2.n, .string e2.name, .slice e2.sA e2.kids.length e2.sc] 46)) _ _ _ at hx10
          generalize w6.alloc (.cells #[.int .i64 e2.kind, .int .i64 e2.n, .string e2.name, .slice e2.sA e2.kids.length e2.sc] 46) = W7 at *
          generalize w6.heap.size = n10 at *
          obtain ⟨⟨d0, d1, d2, d3⟩, _⟩ := box4 hx10
          obtain ⟨⟨c0, c1, c2, c3⟩, q0, q1, q2, q3⟩ := box4 hL7.val
          have hn7 := hL7.val.lt
          have hX := Lib.hid (And.intro hL7 (And.intro hle7 (And.intro hr (And.intro hev (And.intro hfew hlo))))); clear hL7 hle7 hr hev hx10 hfew hlo
          go_wp2_with fail
          go_roundg (mS (stOf r2))
          case measure =>
            have hfew := hX.out.2.2.2.2.1
            rw [HGK.out]
            cases r2 with
            | no n => simp [stOf, mS]
            | ok a ts2 => simp only [Cost] at hfew; simp only [stOf, mS]; omega
          case rel =>
            obtain ⟨hL7, hle7, hr, hev, _, hlo⟩ := hX.out
            refine ⟨stOf r2, _, rfl, ?_, hL7.op hle7 hlo hgl 4⟩
            rcases stOf_pr hr with ⟨n, rfl, rfl⟩ | ⟨a2, ts2, rfl, hk2⟩
            · rfl
            · refine ⟨f2, by omega, ?_⟩
              rw [ExprR.plain_op, hev a2 rfl]
              exact hk2
        | false =>
          rw [hk2] at hr
          simp only [Bool.false_eq_true, if_false] at hr
          obtain rfl := Option.some.inj hr
          have mk1 : Nat := 0
          have mk2 : Nat := 0
          go_wp2_with (first
            | (clear mk1; go_at_call 47; (
              refine (show Calls _ _ _ _ _ from is_any _ g s _ HX.out.at_ [43] (by simp)).mono ?_
              rintro E w4 ⟨hg, hA, rfl⟩
              simp only [isS, tailS] at hA ⊢
              rw [hk] at hA
              rw [hk]
              simp only [if_true, Bool.false_eq_true, if_false] at hA
              have hLn := HX.out.moved hg hA hgl
              have HP4 := Lib.hid hLn; clear hLn hg hA))
            | (clear mk2; go_at_call 47; (
              refine (show Calls _ _ _ _ _ from is_any _ g s _ HP4.out.at_ [45] (by simp)).mono ?_
              rintro E w5 ⟨hg, hA, rfl⟩
              simp only [isS, tailS] at hA ⊢
              rw [hk2] at hA
              rw [hk2]
              simp only [if_true, Bool.false_eq_true, if_false] at hA
              have hLn := HP4.out.moved hg hA hgl
              have HP5 := Lib.hid hLn; clear hLn hg hA
              obtain ⟨⟨c0, c1, c2, c3⟩, _⟩ := box4 HP5.out.val
              obtain ⟨_, q0, q1, q2, q3⟩ := box4 HP5.out.box)))
          have hx6 := HP5.out.box.put4 (a' := .int .i64 e.kind) (b' := .int .i64 e.n) (c' := .string e.name) (d' := .slice e.sA e.kids.length e.sc)
          have hl6 := (HP5.out.ld.go (Stays.put4 (n := w.heap.size) (a := .int .i64 e.kind) (b := .int .i64 e.n) (c := .string e.name) (d := .slice e.sA e.kids.length e.sc) (by simp [aside]))).go (Stays.sub (S' := under w.heap.size) (by intro b _ hb; simp [under, aside] at hb ⊢; omega))
          exact ret4 Tryd.results73 rfl rfl hx6 ⟨grown_put4 HP5.out.grown (Nat.le_refl _), HP5.out.at_.put4 hgl, _, rfl, e, rfl, hl6, fun a ha => by cases ha; rfl⟩
theorem PE_all : ∀ f, PE f
  | 0 => fun t w g s st r ht h hr => by
    cases st with
    | no n => cases hr; exact pexpr_fail t w g s n h
    | go ts => cases hr
  | f + 1 => fun t w g s st r ht h hr => by
    cases st with
    | no n => cases hr; exact pexpr_fail t w g s n h
    | go ts =>
      have hm : t = 0 ∨ t = 1 ∨ t = 2 := by omega
      rcases hm with rfl | rfl | rfl
      · exact psum f (PE_all f) w g s ts r h hr
      · exact pproduct f (PE_all f) w g s ts r h hr
      · exact psingle f (PE_all f) w g s ts r h hr
end Go.Proofs.YtgiceeholamphaaDoor
