/- The reader's methods that read expressions. No conditions but that the reader is one. -/
import Derived.Test.YtgiceeholamphaaDoorRdN
import Derived.Test.YtgiceeholamphaaDoorApt
import Derived.Deep.DeepCutAuto
import Derived.Deep.CutBlock
namespace Go.Proofs.YtgiceeholamphaaDoor
open Go.ChangeShapes Go.WideShapes Go.ChangeAt Go.RowKit Go.Maps

/-- An expression that was read: in blocks from lo on. -/
def QE (lo : Nat) (a : ExprR) (v : Value) (w' : World) : Prop := ∃ e : ExprR, v = e.val ∧ e.plain = a ∧ LdE (under lo) w' e
def fE : Nat → Nat
  | 0 => 68
  | 1 => 88
  | _ => 93
/-- The three read as the grammar of fuel f says. -/
def CE (f : Nat) : Prop := ∀ (t : Nat) (w : World) (g tb c i : Nat) (T : List Tok) (r : PR ExprR), t ≤ 2 → RAt w g tb c T i → TokOk T → (gram f).expr t (T.drop i) = some r →
  Calls Tryd.prog (fE t) #[.pointer (some ⟨g, 0, none⟩)] w (RPost (QE w.heap.size) w g tb c T r)
theorem RAt.lt {w : World} {g tb c i : Nat} {T : List Tok} (h : RAt w g tb c T i) : g < w.heap.size := h.blk.lt
theorem QE.leaf {lo : Nat} {k n : Int} {s : ByteArray} {w : World} : QE lo (.mk k n s none 0 []) (.agg #[.int .i64 k, .int .i64 n, .string s, .slice none 0 0]) w := ⟨.mk k n s none 0 [], rfl, rfl, LdE.leaf⟩
theorem grown_new {w w1 : World} {row : Option Nat} {b o : Nat} {v : Value} (h : w.grownBy w1 row) (hb : w.heap.size ≤ b) : w.grownBy (w1.setCell ⟨b, o, none⟩ v) row :=
  ⟨h.os, h.tape, h.output, by simp [World.setCell]; exact h.size, fun k hk hne => by
    simp only [World.setCell, Array.getElem?_modify]
    rw [if_neg (fun e => by have : b = k := e; omega)]
    exact h.block k hk hne⟩
theorem RAt.tlt {w : World} {g tb c i : Nat} {T : List Tok} (h : RAt w g tb c T i) : tb < w.heap.size := World.block_lt_of_cell? w _ (h.row i h.hi).1
theorem RAt.far {w : World} {g tb c i n o : Nat} {T : List Tok} {v : Value} (h : RAt w g tb c T i) (hn : n ≠ g) (hn2 : n ≠ tb) : RAt (w.setCell ⟨n, o, none⟩ v) g tb c T i :=
  ⟨h.hi, h.ne, h.blk.far (fun e => hn e.symm) _, fun k hk => by
    have h1 := h.row k hk
    rw [World.cell?_setCell_other _ _ _ _ (fun e => hn2 (congrArg Addr.block e)), World.cell?_setCell_other _ _ _ _ (fun e => hn2 (congrArg Addr.block e))]
    exact h1⟩
/-- A struct of four cells is stored. -/
abbrev World.put4 (w : World) (n : Nat) (a b c d : Value) : World := (((w.setCell ⟨n, 0, none⟩ a).setCell ⟨n, 1, none⟩ b).setCell ⟨n, 2, none⟩ c).setCell ⟨n, 3, none⟩ d
theorem Blk.put4 {w : World} {n : Nat} {t : TypeId} {a b c d a' b' c' d' : Value} (h : Blk w n t [a, b, c, d]) : Blk (World.put4 w n a' b' c' d') n t [a', b', c', d'] := by
  simpa using (((h.set_ 0 a').set_ 1 b').set_ 2 c').set_ 3 d'
theorem RAt.put4 {w : World} {g tb c i n : Nat} {T : List Tok} {a b k d : Value} (h : RAt w g tb c T i) (hn : n ≠ g) (hn2 : n ≠ tb) : RAt (World.put4 w n a b k d) g tb c T i :=
  (((h.far hn hn2).far hn hn2).far hn hn2).far hn hn2
theorem grown_put4 {w w1 : World} {row : Option Nat} {n : Nat} {a b c d : Value} (h : w.grownBy w1 row) (hb : w.heap.size ≤ n) : w.grownBy (World.put4 w1 n a b c d) row :=
  grown_new (grown_new (grown_new (grown_new h hb) hb) hb) hb
theorem Stays.put4 {S : Nat → Bool} {w : World} {n : Nat} {a b c d : Value} (h : S n = true) : Stays S S w (World.put4 w n a b c d) :=
  (((Stays.set_ h).trans (Stays.set_ h)).trans (Stays.set_ h)).trans (Stays.set_ h)
theorem grown_alloc {w w1 : World} {row : Option Nat} (h : w.grownBy w1 row) (o : Obj) : w.grownBy (w1.alloc o) row := h.trans (World.grownBy_alloc w1 o row)
theorem expr2 {f : Nat} {ts : List Tok} {r : PR ExprR} (h : (gram (f + 1)).expr 2 ts = some r) :
    (if isTok [40] ts then thenR ((gram f).expr 0 ts.tail) fun e ts => needT [41] ts fun ts => some (.ok e ts) else if digitFirst ts then some ((numR 1000000000 ts).map mkNum) else some ((nameR ts).map mkName)) = some r := by
  rw [gram_succ] at h
  simpa using h
theorem box4 {w : World} {n : Nat} {t : TypeId} {a b c d : Value} (h : Blk w n t [a, b, c, d]) : (w.cell? ⟨n, 0, none⟩ = some a ∧ w.cell? ⟨n, 1, none⟩ = some b ∧ w.cell? ⟨n, 2, none⟩ = some c ∧ w.cell? ⟨n, 3, none⟩ = some d) ∧
    (w.frozen? ⟨n, 0, none⟩ = false ∧ w.frozen? ⟨n, 1, none⟩ = false ∧ w.frozen? ⟨n, 2, none⟩ = false ∧ w.frozen? ⟨n, 3, none⟩ = false) :=
  ⟨⟨h.cell 0, h.cell 1, h.cell 2, h.cell 3⟩, h.frozen 0, h.frozen 1, h.frozen 2, h.frozen 3⟩
/-- A call that hands back an expression that lies in a cell of its own. -/
theorem ret4 {fn : Func} {R : Ending → World → Prop} {a : Act} {W : World} {n k : Nat} {ty : TypeId} {x0 x1 x2 x3 : Value} (hf : fn.results = #[.cell k 46]) (ht : a.tmps[k]?.getD undef = .pointer (some ⟨n, 0, none⟩)) (hd : a.defers = [])
    (hx : Blk W n ty [x0, x1, x2, x3]) (hR : R (.returned (.agg #[x0, x1, x2, x3])) W) : bodyPost Tryd.prog fn R .ret a W := by
  obtain ⟨⟨k0, k1, k2, k3⟩, _⟩ := box4 hx
  exact bodyPost_ret (v := .agg #[x0, x1, x2, x3]) (by simp [results, hf, ht, go_sem, k0, k1, k2, k3]) hd hR
set_option maxRecDepth 100000 in
set_option maxHeartbeats 4000000 in
theorem single_any (f : Nat) (ih : CE f) (w : World) (g tb c i : Nat) (T : List Tok) (r : PR ExprR) (h : RAt w g tb c T i) (hT : TokOk T) (hr : (gram (f + 1)).expr 2 (T.drop i) = some r) :
    Calls Tryd.prog 93 #[.pointer (some ⟨g, 0, none⟩)] w (RPost (QE w.heap.size) w g tb c T r) := by
  have hr := expr2 hr
  have hgl := h.lt
  obtain ⟨W1, hW1⟩ : ∃ W1, w.alloc (.cells #[.int .i64 0, .int .i64 0, .string ⟨#[]⟩, .slice none 0 0] 46) = W1 := ⟨_, rfl⟩
  obtain ⟨hb1, hz1, hx1⟩ := box_facts (c := [.int .i64 0, .int .i64 0, .string ⟨#[]⟩, .slice none 0 0]) hW1
  have hgr1 : w.grownBy W1 none := grown_of_below hb1 none
  have hA1 := h.kept hgr1
  obtain ⟨t, hd', ht, h0, h1, hf1, h2, hil, hl⟩ := hA1.facts hT
  have hne := h.ne
  by_cases h40 : isTok [40] (T.drop i) = true
  · rw [if_pos h40] at hr
    have HH := Lib.hid (And.intro hA1 (And.intro hT (And.intro hgr1 (And.intro hd' (And.intro h.tlt ih))))); clear hA1 hT h hgr1 hd' hb1 ih
    have e1 : T.drop (i + 1) = (T.drop i).tail := tail_drop.symm
    cases hr1 : (gram f).expr 0 (T.drop i).tail with
    | none => rw [hr1] at hr; cases hr
    | some r1 =>
    rw [hr1] at hr
    rw [← e1] at hr1
    have have40 := fun (w2 : World) (h2 : RAt w2 g tb c T i) => have_any w2 g tb c i T h2 HH.out.2.1 [40] (by simp)
    cases r1 with
    | no n =>
      obtain rfl := Option.some.inj hr
      go_enter Tryd.func93, Tryd.ntmps93
      go_wp2_with fail
      go_quiet (fail)
      obtain ⟨W2, hW2⟩ : ∃ W2, W1.drewN nq = W2 := ⟨_, rfl⟩
      have hA2 : RAt W2 g tb c T i := by rw [← hW2]; exact HH.out.1.kept (grown_drewN W1 nq none)
      have hg2 : w.grownBy W2 none := by rw [← hW2]; exact HH.out.2.2.1.trans (grown_drewN W1 nq none)
      have hx2 : Blk W2 w.heap.size 46 [.int .i64 0, .int .i64 0, .string ⟨#[]⟩, .slice none 0 0] := by rw [← hW2]; exact hx1.drewN nq
      rw [hW2]
      have hhv := have_any W2 g tb c i T hA2 HH.out.2.1 [40] (by simp)
      have H2 := Lib.hid (And.intro hg2 (And.intro hhv hx2)); clear hg2 hhv hx2 hA2 hW2 h0 h1 h2 hf1 hx1 have40
      go_wp2_with (first
        | (go_at_call 45; (
          refine H2.out.2.1.mono ?_
          rintro E w3 ⟨rfl, hg3, hA3⟩
          rw [if_pos h40] at hA3
          rw [h40]
          have hx3 := H2.out.2.2.grown hg3 (by intro e; cases e; omega)
          have hnm := HH.out.2.2.2.2.2 0 w3 g tb c (i + 1) T _ (by omega) hA3 HH.out.2.1 hr1
          have H3 := Lib.hid (And.intro hg3 (And.intro hnm hx3)); clear hg3 hx3 hnm hA3))
        | (go_at_call 68; (
          refine (show Calls _ _ _ _ _ from H3.out.2.1).mono ?_
          rintro E w5 ⟨hg5, rfl⟩
          have H5 := Lib.hid hg5; clear hg5)))
      exact ⟨rfl, ((H2.out.1.but _).trans H3.out.1).trans H5.out, rfl⟩
    | ok a1 ts1 =>
      simp only [thenR, needT] at hr
      go_enter Tryd.func93, Tryd.ntmps93
      go_wp2_with fail
      go_quiet (fail)
      obtain ⟨W2, hW2⟩ : ∃ W2, W1.drewN nq = W2 := ⟨_, rfl⟩
      have hA2 : RAt W2 g tb c T i := by rw [← hW2]; exact HH.out.1.kept (grown_drewN W1 nq none)
      have hg2 : w.grownBy W2 none := by rw [← hW2]; exact HH.out.2.2.1.trans (grown_drewN W1 nq none)
      have hx2 : Blk W2 w.heap.size 46 [.int .i64 0, .int .i64 0, .string ⟨#[]⟩, .slice none 0 0] := by rw [← hW2]; exact hx1.drewN nq
      rw [hW2]
      have hhv := have_any W2 g tb c i T hA2 HH.out.2.1 [40] (by simp)
      have H2 := Lib.hid (And.intro hg2 (And.intro hhv hx2)); clear hg2 hhv hx2 hA2 hW2 h0 h1 h2 hf1 hx1 have40
      go_upto_region 4 with (first
        | (go_at_call 45; (
          refine H2.out.2.1.mono ?_
          rintro E w3 ⟨rfl, hg3, hA3⟩
          rw [if_pos h40] at hA3
          rw [h40]
          have hx3 := H2.out.2.2.grown hg3 (by intro e; cases e; omega)
          have hnm := HH.out.2.2.2.2.2 0 w3 g tb c (i + 1) T _ (by omega) hA3 HH.out.2.1 hr1
          have H3 := Lib.hid (And.intro hg3 (And.intro hnm hx3)); clear hg3 hx3 hnm hA3))
        | (go_at_call 68; (
          refine (show Calls _ _ _ _ _ from H3.out.2.1).mono ?_
          rintro E w5 ⟨hg5, v, i', rfl, ⟨e, rfl, he, hle⟩, hd5, hA5⟩
          have hx5 := H3.out.2.2.grown hg5 (by intro e; cases e; omega)
          have hz3 : w.heap.size < w3.heap.size := H3.out.2.2.lt
          obtain ⟨ek, en, es, eA, ec, el⟩ := e
          have H5 := Lib.hid (And.intro hg5 (And.intro hA5 (And.intro hd5 (And.intro hx5 (And.intro he (And.intro hle hz3)))))); clear hg5 hA5 hd5 hx5 he hle hz3
          simp only [ExprR.val, ExprR.kind, ExprR.n, ExprR.name, ExprR.sA, ExprR.sc, ExprR.kids])))
      generalize hW6 : w5.alloc (.cells #[.int .i64 ek, .int .i64 en, .string es, .slice eA el.length ec] 46) = W6
      obtain ⟨hb6, hz6, hx6⟩ := box_facts (c := [.int .i64 ek, .int .i64 en, .string es, .slice eA el.length ec]) hW6
      have hst6 : Stays (under w3.heap.size) (under w3.heap.size) w5 W6 := by rw [← hW6]; exact Stays.alloc _
      clear hW6
      obtain ⟨hg5, hA5, hd5, hx5, he, hle, hz3⟩ := H5.out
      have hg56 := grown_of_below hb6 none
      have hA6 := hA5.kept hg56
      have hy6 := hx5.grown hg56 (by simp)
      have hnd := need_any W6 g tb c i' T hA6 HH.out.2.1 [41] (by simp)
      have hg6 := ((((H2.out.1.but _).trans H3.out.1).trans hg5).trans (hg56.but _))
      unfold NeedPost at hnd
      have hlt5 := hA5.lt
      cases h41 : isTok [41] ts1 with
      | true =>
        rw [if_pos h41] at hr
        obtain rfl := Option.some.inj hr
        rw [hd5, h41] at hnd
        have HN := Lib.hid (And.intro hnd (And.intro hg6 (And.intro (hle.go hst6) (And.intro hx6 (And.intro hy6 (And.intro he hd5)))))); clear hnd hg6 hst6 hx6 hy6 hg5 hA5 hA6 hx5 he hle hg56 hb6 hd5
        go_wp2_with (go_at_call 72; (
          refine (show Calls _ _ _ _ _ from HN.out.1).mono ?_
          rintro E w7 ⟨hg7, hq⟩
          obtain ⟨rfl, hA7⟩ := hq
          have hx7 := HN.out.2.2.2.1.grown hg7 (by intro e; cases e; omega)
          have hy7 := HN.out.2.2.2.2.1.grown hg7 (by intro e; cases e; omega)
          obtain ⟨⟨c0, c1, c2, c3⟩, _⟩ := box4 hx7
          obtain ⟨⟨d0, d1, d2, d3⟩, f0, f1, f2, f3⟩ := box4 hy7
          have H7 := Lib.hid (And.intro hg7 (And.intro hA7 hy7)); clear hg7 hA7 hx7 hy7))
        obtain ⟨_, hg6, hle6, _, _, he, hd5⟩ := HN.out
        have hx8 := H7.out.2.2.put4 (a' := .int .i64 ek) (b' := .int .i64 en) (c' := .string es) (d' := .slice eA el.length ec)
        have hg8 := grown_put4 (a := .int .i64 ek) (b := .int .i64 en) (c := .string es) (d := .slice eA el.length ec) (hg6.trans H7.out.1) (Nat.le_refl _)
        have htl := HH.out.2.2.2.2.1
        have hA8 := H7.out.2.1.put4 (n := w.heap.size) (a := .int .i64 ek) (b := .int .i64 en) (k := .string es) (d := .slice eA el.length ec) (by omega) (by omega)
        have hst := (Stays.of_grown (S := under w3.heap.size) H7.out.1 (by intro k e; cases e; simp [under]; omega)).trans (Stays.put4 (n := w.heap.size) (a := .int .i64 ek) (b := .int .i64 en) (c := .string es) (d := .slice eA el.length ec) (by simp [under]; omega))
        have hle8 := (hle6.go hst).go (Stays.sub (S' := under w.heap.size) (by intro b _ hb; simp [under] at hb ⊢; omega))
        exact ret4 Tryd.results93 rfl rfl hx8 ⟨hg8, _, i' + 1, rfl, ⟨.mk ek en es eA ec el, rfl, he, hle8⟩, by rw [← tail_drop, hd5], hA8⟩
      | false =>
        rw [if_neg (by rw [h41]; decide)] at hr
        obtain rfl := Option.some.inj hr
        rw [hd5, h41] at hnd
        have HN := Lib.hid (And.intro hnd (And.intro hg6 hd5)); clear hnd hg6 hst6 hx6 hy6 hg5 hA5 hA6 hx5 he hle hg56 hb6 hd5
        go_wp2_with (go_at_call 72; (
          refine (show Calls _ _ _ _ _ from HN.out.1).mono ?_
          rintro E w7 ⟨hg7, rfl⟩
          have H7 := Lib.hid hg7; clear hg7))
        exact ⟨rfl, HN.out.2.1.trans H7.out, rfl⟩
  · rw [if_neg h40] at hr
    have hk40 : isTok [40] (T.drop i) = false := by simpa using h40
    obtain ⟨tx, tn⟩ := t
    cases hdf : digitFirst (T.drop i) with
    | true =>
      rw [if_pos hdf] at hr
      obtain rfl := Option.some.inj hr
      obtain ⟨x, l, rfl, hdx⟩ : ∃ x l, tx = x :: l ∧ dig x = true := by
        unfold digitFirst at hdf
        rw [hd'] at hdf
        cases tx with
        | nil => cases hdf
        | cons x l => exact ⟨x, l, rfl, hdf⟩
      cases hnr : numR 1000000000 (T.drop i) with
      | ok nm ts' =>
        have HH := Lib.hid (And.intro hA1 (And.intro hT (And.intro hgr1 (And.intro hd' (And.intro h.tlt hnr))))); clear hA1 hT h hgr1 hd' hb1 hnr hdf
        obtain ⟨s, hs⟩ : ∃ s : ByteArray, (⟨(x :: l).toArray⟩ : ByteArray) = s := ⟨_, rfl⟩
        have hs0 : ∀ h : 0 < s.size, s[0] = x := by subst hs; intro _; rfl
        have hpos : 0 < s.size := by subst hs; simp [ByteArray.size]
        have hse : ¬ s.toList = [] := by subst hs; rw [ByteArray.toList_eq]; simp
        have hse2 : s.toList.isEmpty = false := by subst hs; rw [ByteArray.toList_eq]; rfl
        have hs0 := hs0 hpos
        simp only at h2
        rw [hs] at h2
        clear hs
        go_enter Tryd.func93, Tryd.ntmps93
        go_wp2_with fail
        go_quiet (fail)
        obtain ⟨W2, hW2⟩ : ∃ W2, W1.drewN nq = W2 := ⟨_, rfl⟩
        have hA2 : RAt W2 g tb c T i := by rw [← hW2]; exact HH.out.1.kept (grown_drewN W1 nq none)
        have hg2 : w.grownBy W2 none := by rw [← hW2]; exact HH.out.2.2.1.trans (grown_drewN W1 nq none)
        have hx2 : Blk W2 w.heap.size 46 [.int .i64 0, .int .i64 0, .string ⟨#[]⟩, .slice none 0 0] := by rw [← hW2]; exact hx1.drewN nq
        rw [hW2]
        have hhv := have_any W2 g tb c i T hA2 HH.out.2.1 [40] (by simp)
        have H2 := Lib.hid (And.intro hg2 (And.intro hhv hx2)); clear hg2 hhv hx2 hA2 hW2 h0 h1 h2 hf1 hx1
        go_wp2_with (first
          | (go_at_call 45; (
            refine H2.out.2.1.mono ?_
            rintro E w3 ⟨rfl, hg3, hA3⟩
            rw [if_neg h40] at hA3
            rw [hk40]
            have hx3 := H2.out.2.2.grown hg3 (by intro e; cases e; omega)
            have hnm := number_any w3 g tb c i T hA3 HH.out.2.1 1000000000
            rw [HH.out.2.2.2.2.2] at hnm
            have H3 := Lib.hid (And.intro hg3 (And.intro hnm hx3)); clear hg3 hx3 hnm hA3))
          | (go_at_call 43; (
            refine (digit_any x _).mono ?_
            rintro E w4 ⟨rfl, rfl⟩
            rw [hdx]))
          | (go_at_call 70; (
            refine H3.out.2.1.mono ?_
            rintro E w5 ⟨hg5, v, i', rfl, rfl, hd5, hA5⟩
            have hx5 := H3.out.2.2.grown hg5 (by intro e; cases e; omega)
            obtain ⟨⟨c0, c1, c2, c3⟩, f0, f1, f2, f3⟩ := box4 hx5
            have H5 := Lib.hid (And.intro hg5 (And.intro hA5 (And.intro hd5 hx5))); clear hg5 hA5 hd5 hx5)))
        have hx6 := H5.out.2.2.2.put4 (a' := .int .i64 1) (b' := .int .i64 nm) (c' := .string ⟨#[]⟩) (d' := .slice none 0 0)
        have hg6 := grown_put4 (a := .int .i64 1) (b := .int .i64 nm) (c := .string ⟨#[]⟩) (d := .slice none 0 0) (((H2.out.1.but _).trans H3.out.1).trans H5.out.1) (Nat.le_refl _)
        have htl := HH.out.2.2.2.2.1
        have hA6 := H5.out.2.1.put4 (n := w.heap.size) (a := .int .i64 1) (b := .int .i64 nm) (k := .string ⟨#[]⟩) (d := .slice none 0 0) (by omega) (by omega)
        exact ret4 Tryd.results93 rfl rfl hx6 ⟨hg6, _, i', rfl, QE.leaf, H5.out.2.2.1, hA6⟩
      | no n =>
        have HH := Lib.hid (And.intro hA1 (And.intro hT (And.intro hgr1 (And.intro hd' (And.intro h.tlt hnr))))); clear hA1 hT h hgr1 hd' hb1 hnr hdf
        obtain ⟨s, hs⟩ : ∃ s : ByteArray, (⟨(x :: l).toArray⟩ : ByteArray) = s := ⟨_, rfl⟩
        have hs0 : ∀ h : 0 < s.size, s[0] = x := by subst hs; intro _; rfl
        have hpos : 0 < s.size := by subst hs; simp [ByteArray.size]
        have hse : ¬ s.toList = [] := by subst hs; rw [ByteArray.toList_eq]; simp
        have hse2 : s.toList.isEmpty = false := by subst hs; rw [ByteArray.toList_eq]; rfl
        have hs0 := hs0 hpos
        simp only at h2
        rw [hs] at h2
        clear hs
        go_enter Tryd.func93, Tryd.ntmps93
        go_wp2_with fail
        go_quiet (fail)
        obtain ⟨W2, hW2⟩ : ∃ W2, W1.drewN nq = W2 := ⟨_, rfl⟩
        have hA2 : RAt W2 g tb c T i := by rw [← hW2]; exact HH.out.1.kept (grown_drewN W1 nq none)
        have hg2 : w.grownBy W2 none := by rw [← hW2]; exact HH.out.2.2.1.trans (grown_drewN W1 nq none)
        have hx2 : Blk W2 w.heap.size 46 [.int .i64 0, .int .i64 0, .string ⟨#[]⟩, .slice none 0 0] := by rw [← hW2]; exact hx1.drewN nq
        rw [hW2]
        have hhv := have_any W2 g tb c i T hA2 HH.out.2.1 [40] (by simp)
        have H2 := Lib.hid (And.intro hg2 (And.intro hhv hx2)); clear hg2 hhv hx2 hA2 hW2 h0 h1 h2 hf1 hx1
        go_wp2_with (first
          | (go_at_call 45; (
            refine H2.out.2.1.mono ?_
            rintro E w3 ⟨rfl, hg3, hA3⟩
            rw [if_neg h40] at hA3
            rw [hk40]
            have hx3 := H2.out.2.2.grown hg3 (by intro e; cases e; omega)
            have hnm := number_any w3 g tb c i T hA3 HH.out.2.1 1000000000
            rw [HH.out.2.2.2.2.2] at hnm
            have H3 := Lib.hid (And.intro hg3 (And.intro hnm hx3)); clear hg3 hx3 hnm hA3))
          | (go_at_call 43; (
            refine (digit_any x _).mono ?_
            rintro E w4 ⟨rfl, rfl⟩
            rw [hdx]))
          | (go_at_call 70; (
            refine H3.out.2.1.mono ?_
            rintro E w5 ⟨hg5, rfl⟩
            have H5 := Lib.hid hg5; clear hg5)))
        exact ⟨rfl, ((H2.out.1.but _).trans H3.out.1).trans H5.out, rfl⟩
    | false =>
      rw [if_neg (by rw [hdf]; decide)] at hr
      obtain rfl := Option.some.inj hr
      have hdx : ∀ x l, tx = x :: l → dig x = false := by
        intro x l e
        unfold digitFirst at hdf
        rw [hd', e] at hdf
        exact hdf
      have hnil : tx = [] → nameR (T.drop i) = .no tn := by
        intro e
        unfold nameR
        rw [hd', e, if_neg (fun h => absurd h.1 (by simp [ByteArray.size]))]
      cases hnr : nameR (T.drop i) with
      | ok nm ts' =>
        cases tx with
        | nil => rw [hnil rfl] at hnr; cases hnr
        | cons x l =>
          have hdx := hdx x l rfl
          clear hnil
          have HH := Lib.hid (And.intro hA1 (And.intro hT (And.intro hgr1 (And.intro hd' (And.intro h.tlt hnr))))); clear hA1 hT h hgr1 hd' hb1 hnr hdf
          obtain ⟨s, hs⟩ : ∃ s : ByteArray, (⟨(x :: l).toArray⟩ : ByteArray) = s := ⟨_, rfl⟩
          have hs0 : ∀ h : 0 < s.size, s[0] = x := by subst hs; intro _; rfl
          have hpos : 0 < s.size := by subst hs; simp [ByteArray.size]
          have hse : ¬ s.toList = [] := by subst hs; rw [ByteArray.toList_eq]; simp
          have hse2 : s.toList.isEmpty = false := by subst hs; rw [ByteArray.toList_eq]; rfl
          have hs0 := hs0 hpos
          simp only at h2
          rw [hs] at h2
          clear hs
          go_enter Tryd.func93, Tryd.ntmps93
          go_wp2_with fail
          go_quiet (fail)
          obtain ⟨W2, hW2⟩ : ∃ W2, W1.drewN nq = W2 := ⟨_, rfl⟩
          have hA2 : RAt W2 g tb c T i := by rw [← hW2]; exact HH.out.1.kept (grown_drewN W1 nq none)
          have hg2 : w.grownBy W2 none := by rw [← hW2]; exact HH.out.2.2.1.trans (grown_drewN W1 nq none)
          have hx2 : Blk W2 w.heap.size 46 [.int .i64 0, .int .i64 0, .string ⟨#[]⟩, .slice none 0 0] := by rw [← hW2]; exact hx1.drewN nq
          rw [hW2]
          have hhv := have_any W2 g tb c i T hA2 HH.out.2.1 [40] (by simp)
          have H2 := Lib.hid (And.intro hg2 (And.intro hhv hx2)); clear hg2 hhv hx2 hA2 hW2 h0 h1 h2 hf1 hx1
          go_wp2_with (first
            | (go_at_call 45; (
              refine H2.out.2.1.mono ?_
              rintro E w3 ⟨rfl, hg3, hA3⟩
              rw [if_neg h40] at hA3
              rw [hk40]
              have hx3 := H2.out.2.2.grown hg3 (by intro e; cases e; omega)
              have hnm := name_any w3 g tb c i T hA3 HH.out.2.1
              rw [HH.out.2.2.2.2.2] at hnm
              have H3 := Lib.hid (And.intro hg3 (And.intro hnm hx3)); clear hg3 hx3 hnm hA3))
            | (go_at_call 43; (
              refine (digit_any x _).mono ?_
              rintro E w4 ⟨rfl, rfl⟩
              rw [hdx]))
            | (go_at_call 71; (
              refine H3.out.2.1.mono ?_
              rintro E w5 ⟨hg5, v, i', rfl, rfl, hd5, hA5⟩
              have hx5 := H3.out.2.2.grown hg5 (by intro e; cases e; omega)
              obtain ⟨⟨c0, c1, c2, c3⟩, f0, f1, f2, f3⟩ := box4 hx5
              have H5 := Lib.hid (And.intro hg5 (And.intro hA5 (And.intro hd5 hx5))); clear hg5 hA5 hd5 hx5)))
          have hx6 := H5.out.2.2.2.put4 (a' := .int .i64 2) (b' := .int .i64 0) (c' := .string nm) (d' := .slice none 0 0)
          have hg6 := grown_put4 (a := .int .i64 2) (b := .int .i64 0) (c := .string nm) (d := .slice none 0 0) (((H2.out.1.but _).trans H3.out.1).trans H5.out.1) (Nat.le_refl _)
          have htl := HH.out.2.2.2.2.1
          have hA6 := H5.out.2.1.put4 (n := w.heap.size) (a := .int .i64 2) (b := .int .i64 0) (k := .string nm) (d := .slice none 0 0) (by omega) (by omega)
          exact ret4 Tryd.results93 rfl rfl hx6 ⟨hg6, _, i', rfl, QE.leaf, H5.out.2.2.1, hA6⟩
      | no n =>
        cases tx with
        | nil =>
          clear hnil hdx
          have HH := Lib.hid (And.intro hA1 (And.intro hT (And.intro hgr1 (And.intro hd' (And.intro h.tlt hnr))))); clear hA1 hT h hgr1 hd' hb1 hnr hdf
          go_enter Tryd.func93, Tryd.ntmps93
          go_wp2_with fail
          go_quiet (fail)
          obtain ⟨W2, hW2⟩ : ∃ W2, W1.drewN nq = W2 := ⟨_, rfl⟩
          have hA2 : RAt W2 g tb c T i := by rw [← hW2]; exact HH.out.1.kept (grown_drewN W1 nq none)
          have hg2 : w.grownBy W2 none := by rw [← hW2]; exact HH.out.2.2.1.trans (grown_drewN W1 nq none)
          have hx2 : Blk W2 w.heap.size 46 [.int .i64 0, .int .i64 0, .string ⟨#[]⟩, .slice none 0 0] := by rw [← hW2]; exact hx1.drewN nq
          rw [hW2]
          have hhv := have_any W2 g tb c i T hA2 HH.out.2.1 [40] (by simp)
          have H2 := Lib.hid (And.intro hg2 (And.intro hhv hx2)); clear hg2 hhv hx2 hA2 hW2 h0 h1 h2 hf1 hx1
          go_wp2_with (first
            | (go_at_call 45; (
              refine H2.out.2.1.mono ?_
              rintro E w3 ⟨rfl, hg3, hA3⟩
              rw [if_neg h40] at hA3
              rw [hk40]
              have hx3 := H2.out.2.2.grown hg3 (by intro e; cases e; omega)
              have hnm := name_any w3 g tb c i T hA3 HH.out.2.1
              rw [HH.out.2.2.2.2.2] at hnm
              have H3 := Lib.hid (And.intro hg3 (And.intro hnm hx3)); clear hg3 hx3 hnm hA3))
            | (go_at_call 71; (
              refine H3.out.2.1.mono ?_
              rintro E w5 ⟨hg5, rfl⟩
              have H5 := Lib.hid hg5; clear hg5)))
          exact ⟨rfl, ((H2.out.1.but _).trans H3.out.1).trans H5.out, rfl⟩
        | cons x l =>
          have hdx := hdx x l rfl
          clear hnil
          have HH := Lib.hid (And.intro hA1 (And.intro hT (And.intro hgr1 (And.intro hd' (And.intro h.tlt hnr))))); clear hA1 hT h hgr1 hd' hb1 hnr hdf
          obtain ⟨s, hs⟩ : ∃ s : ByteArray, (⟨(x :: l).toArray⟩ : ByteArray) = s := ⟨_, rfl⟩
          have hs0 : ∀ h : 0 < s.size, s[0] = x := by subst hs; intro _; rfl
          have hpos : 0 < s.size := by subst hs; simp [ByteArray.size]
          have hse : ¬ s.toList = [] := by subst hs; rw [ByteArray.toList_eq]; simp
          have hse2 : s.toList.isEmpty = false := by subst hs; rw [ByteArray.toList_eq]; rfl
          have hs0 := hs0 hpos
          simp only at h2
          rw [hs] at h2
          clear hs
          go_enter Tryd.func93, Tryd.ntmps93
          go_wp2_with fail
          go_quiet (fail)
          obtain ⟨W2, hW2⟩ : ∃ W2, W1.drewN nq = W2 := ⟨_, rfl⟩
          have hA2 : RAt W2 g tb c T i := by rw [← hW2]; exact HH.out.1.kept (grown_drewN W1 nq none)
          have hg2 : w.grownBy W2 none := by rw [← hW2]; exact HH.out.2.2.1.trans (grown_drewN W1 nq none)
          have hx2 : Blk W2 w.heap.size 46 [.int .i64 0, .int .i64 0, .string ⟨#[]⟩, .slice none 0 0] := by rw [← hW2]; exact hx1.drewN nq
          rw [hW2]
          have hhv := have_any W2 g tb c i T hA2 HH.out.2.1 [40] (by simp)
          have H2 := Lib.hid (And.intro hg2 (And.intro hhv hx2)); clear hg2 hhv hx2 hA2 hW2 h0 h1 h2 hf1 hx1
          go_wp2_with (first
            | (go_at_call 45; (
              refine H2.out.2.1.mono ?_
              rintro E w3 ⟨rfl, hg3, hA3⟩
              rw [if_neg h40] at hA3
              rw [hk40]
              have hx3 := H2.out.2.2.grown hg3 (by intro e; cases e; omega)
              have hnm := name_any w3 g tb c i T hA3 HH.out.2.1
              rw [HH.out.2.2.2.2.2] at hnm
              have H3 := Lib.hid (And.intro hg3 (And.intro hnm hx3)); clear hg3 hx3 hnm hA3))
            | (go_at_call 43; (
              refine (digit_any x _).mono ?_
              rintro E w4 ⟨rfl, rfl⟩
              rw [hdx]))
            | (go_at_call 71; (
              refine H3.out.2.1.mono ?_
              rintro E w5 ⟨hg5, rfl⟩
              have H5 := Lib.hid hg5; clear hg5)))
          exact ⟨rfl, ((H2.out.1.but _).trans H3.out.1).trans H5.out, rfl⟩
/- end of single -/
end Go.Proofs.YtgiceeholamphaaDoor
