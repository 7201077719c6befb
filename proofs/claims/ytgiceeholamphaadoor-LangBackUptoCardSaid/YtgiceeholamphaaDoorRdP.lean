/- The reader's methods that read products and sums. No conditions but that the reader is one. -/
import Derived.Test.YtgiceeholamphaaDoorRdE
import Derived.Test.YtgiceeholamphaaDoorParN
import Derived.Deep.RegionWith
namespace Go.Proofs.YtgiceeholamphaaDoor
open Go.ChangeShapes Go.WideShapes Go.ChangeAt Go.RowKit Go.Maps

theorem exprT {f t : Nat} {ts : List Tok} {r : PR ExprR} (ht : t ≠ 2) (h : (gram (f + 1)).expr t ts = some r) : thenR ((gram f).expr (t + 1) ts) (fun e ts => (gram f).loop t e ts) = some r := by
  rw [gram_succ] at h
  simp only at h
  rwa [if_neg ht] at h
theorem loop_more {f t : Nat} {e : ExprR} {ts : List Tok} {r : PR ExprR} (h : (gram f).loop t e ts = some r) :
    ∃ f', f = f' + 1 ∧ (match opK t ts with | none => some (.ok e ts) | some k => thenR ((gram f').expr (t + 1) ts.tail) fun e2 ts => (gram f').loop t (mkOp k e e2) ts) = some r := by
  cases f with
  | zero => cases h
  | succ f => exact ⟨f, rfl, by rw [gram_succ] at h; exact h⟩
theorem opK1 (ts : List Tok) : opK 1 ts = if isTok [42] ts then some 5 else none := by unfold opK; rw [if_neg (by decide)]
theorem opK0 (ts : List Tok) : opK 0 ts = if isTok [43] ts then some 3 else if isTok [45] ts then some 4 else none := by unfold opK; rw [if_pos rfl]
/-- The blocks that an expression in the making is not in. -/
abbrev aside (lo n : Nat) : Nat → Bool := fun b => decide (b < lo) || b == n
theorem ExprR.plain_op (k : Int) (A : Option Addr) (c : Nat) (x y : ExprR) : (ExprR.mk k 0 ⟨#[]⟩ A c [x, y]).plain = mkOp k x.plain y.plain := rfl
/-- The state of a loop of product, sum: the reader, the result's box, the box of what is read so far. -/
structure RLoop (w : World) (n3 g tb c : Nat) (T : List Tok) (wr : World) (i : Nat) (e : ExprR) : Prop where
  at_ : RAt wr g tb c T i
  grown : w.grownBy wr (some g)
  box : Blk wr w.heap.size 46 [.int .i64 0, .int .i64 0, .string ⟨#[]⟩, .slice none 0 0]
  val : Blk wr n3 46 e.cells
  ld : LdE (aside (w.heap.size + 1) n3) wr e
theorem RLoop.moved {w wr w' : World} {n3 g tb c i j : Nat} {T : List Tok} {e : ExprR} (h : RLoop w n3 g tb c T wr i e) (hg : wr.grownBy w' (some g)) (hA : RAt w' g tb c T j) (hgl : g < w.heap.size) (hn : w.heap.size < n3) : RLoop w n3 g tb c T w' j e :=
  ⟨hA, h.grown.trans hg, h.box.grown hg (by intro e; cases e; omega), h.val.grown hg (by intro e; cases e; omega), h.ld.go (Stays.of_grown hg (by intro k e; cases e; simp; omega))⟩
theorem Blk.far4 {w : World} {b n : Nat} {t : TypeId} {vs : List Value} {x0 x1 x2 x3 : Value} (h : Blk w b t vs) (hn : b ≠ n) : Blk (World.put4 w n x0 x1 x2 x3) b t vs := (((h.far (p := ⟨n, 0, none⟩) hn x0).far (p := ⟨n, 1, none⟩) hn x1).far (p := ⟨n, 2, none⟩) hn x2).far (p := ⟨n, 3, none⟩) hn x3
theorem put4_size {w : World} {n : Nat} {x0 x1 x2 x3 : Value} : (World.put4 w n x0 x1 x2 x3).heap.size = w.heap.size := by simp [World.setCell]
/-- One operator more. -/
theorem RLoop.op {w w6 : World} {n3 g tb c i2 lo : Nat} {T : List Tok} {e e2 : ExprR} (h : RLoop w n3 g tb c T w6 i2 e) (h2 : LdE (under lo) w6 e2) (hlo : n3 < lo) (hn : w.heap.size < n3) (hgl : g < w.heap.size) (htl : tb < w.heap.size) (k : Int) :
    RLoop w n3 g tb c T ((World.put4 w6 n3 (.int .i64 k) (.int .i64 0) (.string ⟨#[]⟩) (.slice (some ⟨w6.heap.size, 0, none⟩) 2 2)).alloc (.cells #[.int .i64 e.kind, .int .i64 e.n, .string e.name, .slice e.sA e.kids.length e.sc, .int .i64 e2.kind, .int .i64 e2.n, .string e2.name, .slice e2.sA e2.kids.length e2.sc] 46)) i2
      (.mk k 0 ⟨#[]⟩ (some ⟨w6.heap.size, 0, none⟩) 2 [e, e2]) := by
  have hlt := h.val.lt
  have hnew := Blk.newArr (World.put4 w6 n3 (.int .i64 k) (.int .i64 0) (.string ⟨#[]⟩) (.slice (some ⟨w6.heap.size, 0, none⟩) 2 2)) 46 (cs := #[.int .i64 e.kind, .int .i64 e.n, .string e.name, .slice e.sA e.kids.length e.sc, .int .i64 e2.kind, .int .i64 e2.n, .string e2.name, .slice e2.sA e2.kids.length e2.sc]) (vs := e.cells ++ e2.cells) rfl
  rw [put4_size] at hnew
  refine ⟨(h.at_.put4 (by omega) (by omega)).kept (World.grownBy_alloc _ _ _), grown_alloc (grown_put4 h.grown (by omega)) _, (h.box.far4 (by omega)).alloc _, ((h.val : Blk w6 n3 _ [_, _, _, _]).put4).alloc _, ?_⟩
  refine LdE.two ?_ ?_ ?_ hnew
  · exact (h.ld.go (Stays.put4 (by simp))).go (Stays.alloc _)
  · exact ((h2.go (Stays.put4 (by simp; omega))).go (Stays.alloc _)).go (Stays.sub (by intro b _ hb; simp at hb ⊢; omega))
  · simp; omega
set_option maxRecDepth 100000 in
set_option maxHeartbeats 4000000 in
theorem product_any (f : Nat) (ih : CE f) (w : World) (g tb c i : Nat) (T : List Tok) (r : PR ExprR) (h : RAt w g tb c T i) (hT : TokOk T) (hr : (gram (f + 1)).expr 1 (T.drop i) = some r) :
    Calls Tryd.prog 88 #[.pointer (some ⟨g, 0, none⟩)] w (RPost (QE w.heap.size) w g tb c T r) := by
  have hr := exprT (by decide) hr
  have hgl := h.lt
  have htl := h.tlt
  obtain ⟨W1, hW1⟩ : ∃ W1, w.alloc (.cells #[.int .i64 0, .int .i64 0, .string ⟨#[]⟩, .slice none 0 0] 46) = W1 := ⟨_, rfl⟩
  obtain ⟨hb1, hz1, hx1⟩ := box_facts (c := [.int .i64 0, .int .i64 0, .string ⟨#[]⟩, .slice none 0 0]) hW1
  have hgr1 : w.grownBy W1 none := grown_of_below hb1 none
  have hA1 := h.kept hgr1
  cases hr1 : (gram f).expr 2 (T.drop i) with
  | none => rw [hr1] at hr; cases hr
  | some r1 =>
  rw [hr1] at hr
  have hc1 := ih 2 W1 g tb c i T r1 (by omega) hA1 hT hr1
  cases r1 with
  | no n =>
    obtain rfl := Option.some.inj hr
    have HH := Lib.hid (And.intro hc1 hgr1); clear hc1 hgr1 hA1 h hT ih hr1
    go_enter Tryd.func88, Tryd.ntmps88
    go_wp2_with (go_at_call 93; (
      refine (show Calls _ _ _ _ _ from HH.out.1).mono ?_
      rintro E w3 ⟨hg3, rfl⟩
      have H3 := Lib.hid hg3; clear hg3))
    exact ⟨rfl, (HH.out.2.but _).trans H3.out, rfl⟩
  | ok a1 ts1 =>
    simp only [thenR] at hr
    have HH := Lib.hid (And.intro hc1 (And.intro hgr1 (And.intro hT ih))); clear hc1 hgr1 hA1 h hT ih hr1
    go_enter Tryd.func88, Tryd.ntmps88
    go_upto_block 0 with (go_at_call 93; (
      refine (show Calls _ _ _ _ _ from HH.out.1).mono ?_
      rintro E w3 ⟨hg3, v, i', rfl, ⟨e, rfl, he, hle⟩, hd3, hA3⟩
      have H3 := Lib.hid (And.intro hg3 (And.intro hA3 (And.intro hd3 (And.intro he hle)))); clear hg3 hA3 hd3 he hle
      simp only [ExprR.val]))
    generalize hW4 : w3.alloc (.cells #[.int .i64 e.kind, .int .i64 e.n, .string e.name, .slice e.sA e.kids.length e.sc] 46) = W4
    obtain ⟨hb4, hz4, hx4⟩ := box_facts (c := e.cells) hW4
    clear hW4
    obtain ⟨hg3, hA3, hd3, he, hle⟩ := H3.out
    have hg34 := grown_of_below hb4 none
    have hx3 := hx1.grown hg3 (by intro e; cases e; omega)
    have hn3 : w.heap.size < w3.heap.size := hx3.lt
    have hL : RLoop w w3.heap.size g tb c T W4 i' e := ⟨hA3.kept hg34, ((HH.out.2.1.but _).trans hg3).trans (hg34.but _), hx3.grown hg34 (by simp), hx4, (hle.go (Stays.sub (S' := aside (w.heap.size + 1) w3.heap.size) (by
      intro b hb hS
      simp [under, aside] at hS ⊢
      omega))).go (Stays.of_grown hg34 (by simp))⟩
    rw [← hd3, ← he] at hr
    have hIH := HH.out.2.2.2
    have hTT := HH.out.2.2.1
    clear hx1 hb1 hA3 hg34 hx3 hx4 hb4 hg3 hle hd3 he H3 HH
    generalize w3.heap.size = n3 at *
    go_wp2_with fail
    go_loopg [7] (T.length - i') (fun gk _ wr => ∃ (f' : Nat) (e : ExprR) (i' : Nat), gk = T.length - i' ∧ f' ≤ f ∧ (gram f').loop 1 e.plain (T.drop i') = some r ∧ RLoop w n3 g tb c T wr i' e)
    case atStart => exact ⟨f, e, i', rfl, Nat.le_refl _, hr, hL⟩
    case round =>
      obtain ⟨f1, e, i1, hgk, hf1, hr0, hL⟩ := hrel
      clear hr
      obtain ⟨f2, hff, hr⟩ := loop_more hr0
      clear hr0
      subst hff
      rw [opK1] at hr
      have hhv := have_any wr g tb c i1 T hL.at_ hTT [42] (by simp)
      cases hk : isTok [42] (T.drop i1) with
      | false =>
        rw [hk] at hr
        simp only [Bool.false_eq_true, if_false] at hr
        obtain rfl := Option.some.inj hr
        have HL := Lib.hid (And.intro hL (And.intro hhv hgk)); clear hL hhv hgk
        go_wp2_with (go_at_call 45; (
          refine (show Calls _ _ _ _ _ from HL.out.2.1).mono ?_
          rintro E w5 ⟨rfl, hg5, hA5⟩
          rw [if_neg (by rw [hk]; decide)] at hA5
          rw [hk]
          have hL5 := HL.out.1.moved hg5 hA5 hgl hn3
          obtain ⟨⟨c0, c1, c2, c3⟩, _⟩ := box4 hL5.val
          obtain ⟨⟨d0, d1, d2, d3⟩, f0, f1, f2, f3⟩ := box4 hL5.box
          have H5 := Lib.hid hL5; clear hL5 hA5 hg5))
        have hx6 := H5.out.box.put4 (a' := .int .i64 e.kind) (b' := .int .i64 e.n) (c' := .string e.name) (d' := .slice e.sA e.kids.length e.sc)
        have hg6 := grown_put4 (a := .int .i64 e.kind) (b := .int .i64 e.n) (c := .string e.name) (d := .slice e.sA e.kids.length e.sc) H5.out.grown (Nat.le_refl _)
        have hA6 := H5.out.at_.put4 (n := w.heap.size) (a := .int .i64 e.kind) (b := .int .i64 e.n) (k := .string e.name) (d := .slice e.sA e.kids.length e.sc) (by omega) (by omega)
        have hl6 := (H5.out.ld.go (Stays.put4 (n := w.heap.size) (a := .int .i64 e.kind) (b := .int .i64 e.n) (c := .string e.name) (d := .slice e.sA e.kids.length e.sc) (by simp [aside]))).go (Stays.sub (S' := under w.heap.size) (by intro b _ hb; simp [under, aside] at hb ⊢; omega))
        exact ret4 Tryd.results88 rfl rfl hx6 ⟨hg6, _, i1, rfl, ⟨e, rfl, rfl, hl6⟩, rfl, hA6⟩
      | true =>
        rw [hk] at hr
        simp only [if_true] at hr
        rw [tail_drop] at hr
        have hgr := fun (x : List Tok) (r : PR ExprR) (hx : (gram f2).expr 2 x = some r) => by
          have := (gram_add f2 (f - f2)).expr 2 x r hx
          rwa [show f2 + (f - f2) = f by omega] at this
        cases hr2 : (gram f2).expr 2 (T.drop (i1 + 1)) with
        | none => rw [hr2] at hr; cases hr
        | some r2 =>
        rw [hr2] at hr
        have hr2 := hgr _ _ hr2
        clear hgr
        cases r2 with
        | no n =>
          obtain rfl := Option.some.inj hr
          have HL := Lib.hid (And.intro hL (And.intro hhv (And.intro hgk hr2))); clear hL hhv hgk hr2
          go_wp2_with (go_at_call 45; (
            refine (show Calls _ _ _ _ _ from HL.out.2.1).mono ?_
            rintro E w5 ⟨rfl, hg5, hA5⟩
            rw [if_pos hk] at hA5
            rw [hk]
            have hL5 := HL.out.1.moved hg5 hA5 hgl hn3
            obtain ⟨⟨c0, c1, c2, c3⟩, q0, q1, q2, q3⟩ := box4 hL5.val
            have H5 := Lib.hid hL5; clear hL5 hA5 hg5))
          go_region_dies
          all_goals (
            refine (show Calls _ _ _ _ _ from hIH 2 w5.drew g tb c (i1 + 1) T _ (by omega) H5.out.at_.drew hTT HL.out.2.2.2).mono ?_
            rintro E w6 ⟨hg6, rfl⟩
            exact ⟨rfl, H5.out.grown.trans ((grown_drew w5 _).trans hg6), rfl⟩)
        | ok a2 ts2 =>
          simp only [thenR] at hr
          have HL := Lib.hid (And.intro hL (And.intro hhv (And.intro hgk (And.intro hr2 hr)))); clear hL hhv hgk hr2 hr
          go_wp2_with (go_at_call 45; (
            refine (show Calls _ _ _ _ _ from HL.out.2.1).mono ?_
            rintro E w5 ⟨rfl, hg5, hA5⟩
            rw [if_pos hk] at hA5
            rw [hk]
            have hL5 := HL.out.1.moved hg5 hA5 hgl hn3
            obtain ⟨⟨c0, c1, c2, c3⟩, q0, q1, q2, q3⟩ := box4 hL5.val
            have H5 := Lib.hid hL5; clear hL5 hA5 hg5))
          go_region_with (first
            | (go_at_call 93; (
                refine (show Calls _ _ _ _ _ from hIH 2 w5.drew g tb c (i1 + 1) T _ (by omega) H5.out.at_.drew hTT HL.out.2.2.2.1).mono ?_
                rintro E w6 ⟨hg6, v, i2, rfl, ⟨e2, rfl, he2, hle2⟩, hd6, hA6⟩
                have hL6 := H5.out.moved ((grown_drew w5 _).trans hg6) hA6 hgl hn3
                obtain ⟨⟨k0, k1, k2, k3⟩, g0, g1, g2, g3⟩ := box4 hL6.val
                have hn6 := hL6.val.lt
                have H6 := Lib.hid (And.intro hL6 (And.intro he2 (And.intro hle2 (And.intro hd6 hg6)))); clear hg6 he2 hle2 hd6 hA6 hL6
                simp only [ExprR.val])))
          all_goals (
            have hfew := (gram_few f).expr _ _ _ HL.out.2.2.2.1
            simp only [Cost, List.length_drop] at hfew
            obtain ⟨hL6, he2, hle2, hd6, hg6⟩ := H6.out
            have hil2 : T.length - i2 < T.length - i1 := by
              have h1 := congrArg List.length hd6
              rw [List.length_drop] at h1
              have := hL6.at_.hi
              have := H5.out.at_.hi
              omega
            go_wp2_with fail
            go_roundg (T.length - i2)
            case measure => have := HL.out.2.2.1; omega
            case rel =>
              refine ⟨f2, _, i2, rfl, by omega, ?_, hL6.op hle2 (by have := H5.out.val.lt; exact this) hn3 hgl htl 5⟩
              rw [ExprR.plain_op, he2, hd6]; exact HL.out.2.2.2.2)
end Go.Proofs.YtgiceeholamphaaDoor
