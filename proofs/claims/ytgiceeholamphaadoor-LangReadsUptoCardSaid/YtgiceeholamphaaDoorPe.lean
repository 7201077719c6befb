/- stepref's parser: expressions: the words; single ones. No conditions but that the parser is one. -/
import Derived.Test.YtgiceeholamphaaDoorPc
import Derived.Test.YtgiceeholamphaaDoorRdP
import Derived.Test.YtgiceeholamphaaDoorApt
namespace Go.Proofs.YtgiceeholamphaaDoor
open Go.ChangeShapes Go.WideShapes Go.ChangeAt Go.RowKit Go.Maps

/-- An expression that the parser hands back: in blocks from lo on; the grammar's where it could go on. -/
def QPe (lo : Nat) (o : Option ExprR) (v : Value) (w' : World) : Prop := ∃ e : ExprR, v = e.val ∧ LdE (under lo) w' e ∧ ∀ a, o = some a → e.plain = a
def PE (f : Nat) : Prop := ∀ (t : Nat) (w : World) (g : Nat) (s : ByteArray) (st : PSt) (r : PR ExprR), t ≤ 2 → PAt w g s st → fromS st ((gram f).expr t) = some r →
  Calls Tryd.prog 73 #[.pointer (some ⟨g, 0, none⟩), .int .i64 (t : Int)] w (PPost (QPe w.heap.size) w g s r)
def failed : PSt → Bool
  | .go _ => false
  | .no _ => true
theorem PAt.flag {w : World} {g : Nat} {s : ByteArray} {st : PSt} (h : PAt w g s st) : w.cell? ⟨g, 2, none⟩ = some (.bool (failed st)) := by
  obtain ⟨a, b, ha, hb, hst⟩ := h.raw
  rcases hst with ⟨rfl, rfl⟩ | ⟨rfl, rfl⟩ <;> exact hb.cell 2
theorem QPe.leaf {lo : Nat} {k n : Int} {x : ByteArray} {w : World} {o : Option ExprR} (ho : ∀ a, o = some a → .mk k n x none 0 [] = a) : QPe lo o (.agg #[.int .i64 k, .int .i64 n, .string x, .slice none 0 0]) w := ⟨.mk k n x none 0 [], rfl, LdE.leaf, ho⟩
theorem stOf_map {α β : Type} (f : α → β) (r : PR α) : stOf (r.map f) = stOf r := by cases r <;> rfl
theorem valOf_map {α β : Type} (f : α → β) (r : PR α) : valOf (r.map f) = (valOf r).map f := by cases r <;> rfl
theorem paren_of {r1 r : PR ExprR} (h : thenR (some r1) (fun e ts => needT [41] ts fun ts => some (.ok e ts)) = some r) : stOf r = mustS [41] (stOf r1) ∧ ∀ a, valOf r = some a → valOf r1 = some a := by
  cases r1 with
  | no n => cases h; exact ⟨rfl, fun a e => by cases e⟩
  | ok e ts =>
    simp only [thenR, needT] at h
    cases hk : isTok [41] ts with
    | true => rw [hk] at h; cases h; simp [stOf, mustS, hk, valOf]
    | false => rw [hk] at h; cases h; simp [stOf, mustS, hk, valOf]
theorem nameP_go (ts : List Tok) : nameP (.go ts) = nameR ts := rfl
theorem numP_go (b : Int) (ts : List Tok) : numP b (.go ts) = numR b ts := rfl
theorem grown0 {w : World} (c : List Value) (t : TypeId) {W : World} (h : w.alloc (.cells c.toArray t) = W) : w.grownBy W none := by subst h; exact World.grownBy_alloc _ _ _
set_option maxRecDepth 100000 in
set_option maxHeartbeats 4000000 in
theorem pexpr_fail (t : Nat) (w : World) (g : Nat) (s : ByteArray) (n : Nat) (h : PAt w g s (.no n)) : Calls Tryd.prog 73 #[.pointer (some ⟨g, 0, none⟩), .int .i64 (t : Int)] w (PPost (QPe w.heap.size) w g s (.no n)) := by
  obtain ⟨W1, hW1⟩ : ∃ W1, w.alloc (.cells #[.int .i64 0, .int .i64 0, .string ⟨#[]⟩, .slice none 0 0] 46) = W1 := ⟨_, rfl⟩
  obtain ⟨hb1, hz1, hx1⟩ := box_facts (c := [.int .i64 0, .int .i64 0, .string ⟨#[]⟩, .slice none 0 0]) hW1
  have hgr1 : w.grownBy W1 none := grown_of_below hb1 none
  have h1 := h.kept hgr1
  have hgl := h.lt
  have k2 := h1.flag
  simp only [failed] at k2
  obtain ⟨⟨c0, c1, c2, c3⟩, q0, q1, q2, q3⟩ := box4 hx1
  have H := Lib.hid (And.intro hgr1 (And.intro h1 hx1)); clear h h1 hb1 hgr1 hx1
  go_enter Tryd.func73, Tryd.ntmps73
  go_wp2_with fail
  exact ret4 Tryd.results73 rfl rfl H.out.2.2.put4 ⟨grown_put4 (H.out.1.but _) (Nat.le_refl _), H.out.2.1.put4 hgl, _, rfl, QPe.leaf (fun a e => by cases e)⟩
set_option maxRecDepth 100000 in
set_option maxHeartbeats 8000000 in
theorem psingle (f : Nat) (ih : PE f) (w : World) (g : Nat) (s : ByteArray) (ts : List Tok) (r : PR ExprR) (h : PAt w g s (.go ts)) (hr : (gram (f + 1)).expr 2 ts = some r) :
    Calls Tryd.prog 73 #[.pointer (some ⟨g, 0, none⟩), .int .i64 2] w (PPost (QPe w.heap.size) w g s r) := by
  have hr := expr2 hr
  obtain ⟨W1, hW1⟩ : ∃ W1, w.alloc (.cells #[.int .i64 0, .int .i64 0, .string ⟨#[]⟩, .slice none 0 0] 46) = W1 := ⟨_, rfl⟩
  obtain ⟨hb1, hz1, hx1⟩ := box_facts (c := [.int .i64 0, .int .i64 0, .string ⟨#[]⟩, .slice none 0 0]) hW1
  have hgr1 : w.grownBy W1 none := grown_of_below hb1 none
  have h1 := h.kept hgr1
  have hgl := h.lt
  have k2 := h1.flag
  simp only [failed] at k2
  obtain ⟨a, b, ha, hb, hst⟩ := h1.raw
  have hnx := next_any W1 g s a b hb ha h1.len
  have his := is_any W1 g s _ h1 [40] (by simp)
  have htt : hd ts = tokAt s a := by
    rcases hst with ⟨e, _⟩ | ⟨e, _⟩
    · cases e
    · cases e; rfl
  cases hk : isTok [40] ts with
  | true =>
    rw [if_pos hk] at hr
    cases hr1 : (gram f).expr 0 ts.tail with
    | none => rw [hr1] at hr; cases hr
    | some r1 =>
    rw [hr1] at hr
    obtain ⟨hs, hv⟩ := paren_of hr
    have hi1 : isS [40] (.go ts) = true := hk
    have ht1 : tailS [40] (.go ts) = .go ts.tail := by simp only [tailS]; rw [if_pos hk]
    rw [ht1] at his
    rw [hi1] at his
    have H := Lib.hid (And.intro hgr1 (And.intro hnx (And.intro his (And.intro ih (And.intro hr1 (And.intro hs hv)))))); clear h h1 hb1 hgr1 hnx his ih hr1 hs hv hr hst hb hi1 ht1
    go_enter Tryd.func73, Tryd.ntmps73
    go_upto_region 7 with (first
      | (go_at_call 29; (
        refine (show Calls _ _ _ _ _ from H.out.2.1).mono ?_
        rintro E w2 ⟨rfl, rfl⟩))
      | (go_at_call 47; (
        refine (show Calls _ _ _ _ _ from H.out.2.2.1).mono ?_
        rintro E w3 ⟨hg3, h3, rfl⟩
        have hx3 := hx1.grown hg3 (by intro e; cases e; omega)
        have hz3 := hx3.lt
        have H3 := Lib.hid (And.intro hg3 (And.intro h3 hx3)); clear hg3 h3 hx3))
      | (go_at_call 73; (
        refine (show Calls _ _ _ _ _ from H.out.2.2.2.1 0 w3 g s (.go ts.tail) r1 (by omega) H3.out.2.1 H.out.2.2.2.2.1).mono ?_
        rintro E w5 ⟨hg5, h5, v, rfl, e, rfl, hle, hev⟩
        have hx5 := H3.out.2.2.grown hg5 (by intro e; cases e; omega)
        have H5 := Lib.hid (And.intro hg5 (And.intro h5 (And.intro hle (And.intro hev hx5)))); clear hg5 h5 hle hev hx5
        simp only [ExprR.val])))
    generalize hW6 : w5.alloc (.cells #[.int .i64 e.kind, .int .i64 e.n, .string e.name, .slice e.sA e.kids.length e.sc] 46) = W6
    obtain ⟨hb6, hz6, hx6⟩ := box_facts (c := e.cells) hW6
    clear hW6
    obtain ⟨hg5, h5, hle, hev, hx5⟩ := H5.out
    have hg56 := grown_of_below hb6 none
    have h6 := h5.kept hg56
    have hy6 := hx5.grown hg56 (by simp)
    have hlt5 := h5.lt
    have hms := must_any W6 g s _ h6 [41] (by simp)
    have hle6 := hle.go (Stays.of_grown hg56 (by simp))
    have hg6 := (((H.out.1.but (some g)).trans H3.out.1).trans hg5).trans (hg56.but _)
    have HN := Lib.hid (And.intro hms (And.intro hg6 (And.intro hle6 (And.intro hx6 (And.intro hy6 hev))))); clear hms hg6 hle6 hx6 hy6 hev hg5 h5 hle hx5 hg56 h6 hb6
    go_wp2_with (go_at_call 77; (
      refine (show Calls _ _ _ _ _ from HN.out.1).mono ?_
      rintro E w7 ⟨hg7, h7, rfl⟩
      have hx7 := HN.out.2.2.2.1.grown hg7 (by intro e; cases e; omega)
      have hy7 := HN.out.2.2.2.2.1.grown hg7 (by intro e; cases e; omega)
      obtain ⟨⟨z0, z1, z2, z3⟩, _⟩ := box4 hx7
      obtain ⟨_, q0, q1, q2, q3⟩ := box4 hy7
      have H7 := Lib.hid (And.intro hg7 (And.intro h7 hy7)); clear hg7 h7 hx7 hy7))
    have hst := (Stays.of_grown (S := under w3.heap.size) H7.out.1 (by intro k e; cases e; simp [under]; omega)).trans (Stays.put4 (n := w.heap.size) (a := .int .i64 e.kind) (b := .int .i64 e.n) (c := .string e.name) (d := .slice e.sA e.kids.length e.sc) (by simp [under]; omega))
    have hle8 := (HN.out.2.2.1.go hst).go (Stays.sub (S' := under w.heap.size) (by intro b _ hb; simp [under] at hb ⊢; omega))
    exact ret4 Tryd.results73 rfl rfl H7.out.2.2.put4 ⟨grown_put4 (HN.out.2.1.trans H7.out.1) (Nat.le_refl _), by rw [H.out.2.2.2.2.2.1]; exact H7.out.2.1.put4 hgl, _, rfl, e, rfl, hle8, fun a ha => HN.out.2.2.2.2.2 a (H.out.2.2.2.2.2.2 a ha)⟩
  | false =>
    rw [if_neg (by rw [hk]; decide)] at hr
    have hi1 : isS [40] (.go ts) = false := hk
    have ht1 : tailS [40] (.go ts) = .go ts := by simp only [tailS]; rw [if_neg (by rw [hk]; decide)]
    rw [ht1, hi1] at his
    obtain ⟨x, hx⟩ : ∃ x : ByteArray, (⟨(tokAt s a).1.toArray⟩ : ByteArray) = x := ⟨_, rfl⟩
    have hxd : x.data.toList = (tokAt s a).1 := by rw [← hx]
    have hxs : x.size = (tokAt s a).1.length := by rw [← hx]; simp [ByteArray.size]
    rw [hx] at hnx
    rw [← htt] at hxd hxs
    cases htx : (hd ts).1 with
    | nil =>
      have hdf : digitFirst ts = false := by unfold digitFirst; rw [htx]
      rw [if_neg (by rw [hdf]; decide)] at hr
      obtain rfl := Option.some.inj hr
      have k0 : ¬ (0 : Int) < (x.size : Int) := by rw [hxs, htx]; simp
      have H := Lib.hid (And.intro hgr1 (And.intro hnx his)); clear h h1 hb1 hgr1 hnx his ih hr hst hb hi1 ht1 hdf htt
      clear hx hxd hxs htx
      go_enter Tryd.func73, Tryd.ntmps73
      go_wp2_with (first
        | (go_at_call 29; (
          refine (show Calls _ _ _ _ _ from H.out.2.1).mono ?_
          rintro E w2 ⟨rfl, rfl⟩))
        | (go_at_call 47; (
          refine (show Calls _ _ _ _ _ from H.out.2.2).mono ?_
          rintro E w3 ⟨hg3, h3, rfl⟩
          have hx3 := hx1.grown hg3 (by intro e; cases e; omega)
          have hr3 := pname_any w3 g s _ h3
          have H3 := Lib.hid (And.intro hg3 (And.intro hr3 hx3)); clear hg3 h3 hx3 hr3))
        | (go_at_call 76; (
          refine (show Calls _ _ _ _ _ from H3.out.2.1).mono ?_
          rintro E w5 ⟨hg5, h5, v, rfl, m, rfl, hm⟩
          have hx5 := H3.out.2.2.grown hg5 (by intro e; cases e; omega)
          obtain ⟨⟨c0, c1, c2, c3⟩, q0, q1, q2, q3⟩ := box4 hx5
          have H5 := Lib.hid (And.intro hg5 (And.intro h5 (And.intro hm hx5))); clear hg5 h5 hm hx5)))
      exact ret4 Tryd.results73 rfl rfl H5.out.2.2.2.put4 ⟨grown_put4 (((H.out.1.but _).trans H3.out.1).trans H5.out.1) (Nat.le_refl _), by rw [stOf_map]; exact H5.out.2.1.put4 hgl, _, rfl, QPe.leaf (fun a ha => by
        rw [valOf_map] at ha
        obtain ⟨x, hx, rfl⟩ := Option.map_eq_some_iff.1 ha
        rw [H5.out.2.2.1 x hx]; rfl)⟩
    | cons c l =>
      have k0 : (0 : Int) < (x.size : Int) := by rw [hxs, htx]; simp
      have hpos : 0 < x.size := by omega
      have hx0 : x[0] = c := by
        have h1 : x.data.toList[0]? = some c := by rw [hxd, htx]; rfl
        have h2 : x.data.toList[0]? = some x[0] := by simp [hpos]; rfl
        exact Option.some.inj (h2.symm.trans h1)
      have hdc : (dig c = true) ↔ 48 ≤ c.toNat ∧ c.toNat ≤ 57 := by simp [dig, UInt8.le_iff_toNat_le]
      have htk : digitFirst ts = dig c := by unfold digitFirst; rw [htx]
      by_cases h48 : 48 ≤ c.toNat
      · have e1 : decide ((48 : Int) ≤ (c.toNat : Int)) = true := by simp; omega
        by_cases h57 : c.toNat ≤ 57
        · have e2 : decide ((c.toNat : Int) ≤ 57) = true := by simp; omega
          have hdf : digitFirst ts = true := by rw [htk]; exact hdc.2 ⟨h48, h57⟩
          rw [if_pos hdf] at hr
          obtain rfl := Option.some.inj hr
          have H := Lib.hid (And.intro hgr1 (And.intro hnx his)); clear h h1 hb1 hgr1 hnx his ih hr hst hb hi1 ht1 hdf htt
          clear hx hxd hxs htx hdc
          go_enter Tryd.func73, Tryd.ntmps73
          go_wp2_with (first
            | (go_at_call 29; (
              refine (show Calls _ _ _ _ _ from H.out.2.1).mono ?_
              rintro E w2 ⟨rfl, rfl⟩))
            | (go_at_call 47; (
              refine (show Calls _ _ _ _ _ from H.out.2.2).mono ?_
              rintro E w3 ⟨hg3, h3, rfl⟩
              have hx3 := hx1.grown hg3 (by intro e; cases e; omega)
              have hr3 := pnumber_any w3 g s _ h3 1000000000 (by decide)
              have H3 := Lib.hid (And.intro hg3 (And.intro hr3 hx3)); clear hg3 h3 hx3 hr3))
            | (go_at_call 75; (
              refine (show Calls _ _ _ _ _ from H3.out.2.1).mono ?_
              rintro E w5 ⟨hg5, h5, v, rfl, m, rfl, hm⟩
              have hx5 := H3.out.2.2.grown hg5 (by intro e; cases e; omega)
              obtain ⟨⟨c0, c1, c2, c3⟩, q0, q1, q2, q3⟩ := box4 hx5
              have H5 := Lib.hid (And.intro hg5 (And.intro h5 (And.intro hm hx5))); clear hg5 h5 hm hx5)))
          exact ret4 Tryd.results73 rfl rfl H5.out.2.2.2.put4 ⟨grown_put4 (((H.out.1.but _).trans H3.out.1).trans H5.out.1) (Nat.le_refl _), by rw [stOf_map]; exact H5.out.2.1.put4 hgl, _, rfl, QPe.leaf (fun a ha => by
            rw [valOf_map] at ha
            obtain ⟨x, hx, rfl⟩ := Option.map_eq_some_iff.1 ha
            rw [H5.out.2.2.1 x hx]; rfl)⟩
        · have e2 : decide ((c.toNat : Int) ≤ 57) = false := by simp; omega
          have hdf : digitFirst ts = false := by
            rw [htk]
            cases hd : dig c with
            | false => rfl
            | true => exact absurd (hdc.1 hd).2 h57
          rw [if_neg (by rw [hdf]; decide)] at hr
          obtain rfl := Option.some.inj hr
          have H := Lib.hid (And.intro hgr1 (And.intro hnx his)); clear h h1 hb1 hgr1 hnx his ih hr hst hb hi1 ht1 hdf htt
          clear hx hxd hxs htx hdc
          go_enter Tryd.func73, Tryd.ntmps73
          go_wp2_with (first
            | (go_at_call 29; (
              refine (show Calls _ _ _ _ _ from H.out.2.1).mono ?_
              rintro E w2 ⟨rfl, rfl⟩))
            | (go_at_call 47; (
              refine (show Calls _ _ _ _ _ from H.out.2.2).mono ?_
              rintro E w3 ⟨hg3, h3, rfl⟩
              have hx3 := hx1.grown hg3 (by intro e; cases e; omega)
              have hr3 := pname_any w3 g s _ h3
              have H3 := Lib.hid (And.intro hg3 (And.intro hr3 hx3)); clear hg3 h3 hx3 hr3))
            | (go_at_call 76; (
              refine (show Calls _ _ _ _ _ from H3.out.2.1).mono ?_
              rintro E w5 ⟨hg5, h5, v, rfl, m, rfl, hm⟩
              have hx5 := H3.out.2.2.grown hg5 (by intro e; cases e; omega)
              obtain ⟨⟨c0, c1, c2, c3⟩, q0, q1, q2, q3⟩ := box4 hx5
              have H5 := Lib.hid (And.intro hg5 (And.intro h5 (And.intro hm hx5))); clear hg5 h5 hm hx5)))
          exact ret4 Tryd.results73 rfl rfl H5.out.2.2.2.put4 ⟨grown_put4 (((H.out.1.but _).trans H3.out.1).trans H5.out.1) (Nat.le_refl _), by rw [stOf_map]; exact H5.out.2.1.put4 hgl, _, rfl, QPe.leaf (fun a ha => by
            rw [valOf_map] at ha
            obtain ⟨x, hx, rfl⟩ := Option.map_eq_some_iff.1 ha
            rw [H5.out.2.2.1 x hx]; rfl)⟩
      · have e1 : decide ((48 : Int) ≤ (c.toNat : Int)) = false := by simp; omega
        have hdf : digitFirst ts = false := by
          rw [htk]
          cases hd : dig c with
          | false => rfl
          | true => exact absurd (hdc.1 hd).1 h48
        rw [if_neg (by rw [hdf]; decide)] at hr
        obtain rfl := Option.some.inj hr
        have H := Lib.hid (And.intro hgr1 (And.intro hnx his)); clear h h1 hb1 hgr1 hnx his ih hr hst hb hi1 ht1 hdf htt
        clear hx hxd hxs htx hdc
        go_enter Tryd.func73, Tryd.ntmps73
        go_wp2_with (first
          | (go_at_call 29; (
            refine (show Calls _ _ _ _ _ from H.out.2.1).mono ?_
            rintro E w2 ⟨rfl, rfl⟩))
          | (go_at_call 47; (
            refine (show Calls _ _ _ _ _ from H.out.2.2).mono ?_
            rintro E w3 ⟨hg3, h3, rfl⟩
            have hx3 := hx1.grown hg3 (by intro e; cases e; omega)
            have hr3 := pname_any w3 g s _ h3
            have H3 := Lib.hid (And.intro hg3 (And.intro hr3 hx3)); clear hg3 h3 hx3 hr3))
          | (go_at_call 76; (
            refine (show Calls _ _ _ _ _ from H3.out.2.1).mono ?_
            rintro E w5 ⟨hg5, h5, v, rfl, m, rfl, hm⟩
            have hx5 := H3.out.2.2.grown hg5 (by intro e; cases e; omega)
            obtain ⟨⟨c0, c1, c2, c3⟩, q0, q1, q2, q3⟩ := box4 hx5
            have H5 := Lib.hid (And.intro hg5 (And.intro h5 (And.intro hm hx5))); clear hg5 h5 hm hx5)))
        exact ret4 Tryd.results73 rfl rfl H5.out.2.2.2.put4 ⟨grown_put4 (((H.out.1.but _).trans H3.out.1).trans H5.out.1) (Nat.le_refl _), by rw [stOf_map]; exact H5.out.2.1.put4 hgl, _, rfl, QPe.leaf (fun a ha => by
          rw [valOf_map] at ha
          obtain ⟨x, hx, rfl⟩ := Option.map_eq_some_iff.1 ha
          rw [H5.out.2.2.1 x hx]; rfl)⟩
end Go.Proofs.YtgiceeholamphaaDoor
