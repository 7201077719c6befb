/- What statements, and lists of them, are read as: the words of it; the reader's method that reads a block. No conditions but that the reader is one. -/
import Derived.Test.YtgiceeholamphaaDoorRdQ
namespace Go.Proofs.YtgiceeholamphaaDoor
open Go.ChangeShapes Go.WideShapes Go.ChangeAt Go.RowKit Go.Maps

theorem CE_all : ∀ f, CE f
  | 0 => fun t w g tb c i T r _ _ _ h => by cases h
  | f + 1 => fun t w g tb c i T r ht hA hT h => by
    have hm : t = 0 ∨ t = 1 ∨ t = 2 := by omega
    rcases hm with rfl | rfl | rfl
    · exact sum_any f (CE_all f) w g tb c i T r hA hT h
    · exact product_any f (CE_all f) w g tb c i T r hA hT h
    · exact single_any f (CE_all f) w g tb c i T r hA hT h
theorem sum_all (f : Nat) (w : World) (g tb c i : Nat) (T : List Tok) (r : PR ExprR) (hA : RAt w g tb c T i) (hT : TokOk T) (h : (gram f).expr 0 (T.drop i) = some r) :
    Calls Tryd.prog 68 #[.pointer (some ⟨g, 0, none⟩)] w (RPost (QE w.heap.size) w g tb c T r) := CE_all f 0 w g tb c i T r (by omega) hA hT h
/-- A statement that was read: in blocks from lo on. -/
def QS (lo : Nat) (a : StatR) (v : Value) (w' : World) : Prop := ∃ x : StatR, v = x.val ∧ x.plain = a ∧ LdS (under lo) w' x
/-- Statements that were read. -/
def QB (lo : Nat) (a : List StatR) (v : Value) (w' : World) : Prop := ∃ k : BlockR, v = k.val ∧ plainS k.l = a ∧ LdB (under lo) w' k
structure CS (f : Nat) : Prop where
  stat : ∀ (w : World) (g tb c i : Nat) (T : List Tok) (r : PR StatR), RAt w g tb c T i → TokOk T → (gram f).stat (T.drop i) = some r →
    Calls Tryd.prog 44 #[.pointer (some ⟨g, 0, none⟩)] w (RPost (QS w.heap.size) w g tb c T r)
  braced : ∀ (w : World) (g tb c i : Nat) (T : List Tok) (r : PR (List StatR)), RAt w g tb c T i → TokOk T → (gram f).braced (T.drop i) = some r →
    Calls Tryd.prog 69 #[.pointer (some ⟨g, 0, none⟩)] w (RPost (QB w.heap.size) w g tb c T r)
  list : ∀ (w : World) (g tb c i : Nat) (T : List Tok) (r : PR (List StatR)), RAt w g tb c T i → TokOk T → (gram f).list [] (T.drop i) = some r →
    Calls Tryd.prog 26 #[.pointer (some ⟨g, 0, none⟩)] w (RPost (QB w.heap.size) w g tb c T r)
/-- The blocks that the elements of a row of the call's own are not in. -/
abbrev ownS (lo : Nat) (v : Value) : Nat → Bool := fun b => decide (b < lo) || decide (v.ownBlock = some b)
theorem Stays.push {lo : Nat} {v v' : Value} {w7 w8 : World} (hg : w7.grownBy w8 v.ownBlock) (hl : v'.ownBlock = v.ownBlock ∨ v'.ownBlock = some w7.heap.size) : Stays (ownS lo v) (ownS lo v') w7 w8 :=
  ⟨hg.size, fun b hb hS => by
    simp at hS ⊢
    refine ⟨hg.block b hb (fun e => hS.2 e.symm), hS.1, ?_⟩
    rcases hl with e | e
    · rw [e]; exact hS.2
    · rw [e]; intro e; cases e; omega⟩
theorem box_row {w : World} (x : StatR) (t : TypeId) : SrcAt (w.alloc (.cells x.cells.toArray t)) (some ⟨w.heap.size, 0, none⟩) (cellsS [x]) := fun _ =>
  ⟨w.heap.size, 0, rfl, fun j u hu => ((Blk.new w t x.cells).cellAdd j).trans (by simpa [cellsS] using hu)⟩
set_option maxRecDepth 100000 in
set_option maxHeartbeats 4000000 in
theorem braced_any (f : Nat) (ih : CS f) (w : World) (g tb c i : Nat) (T : List Tok) (r : PR (List StatR)) (hA : RAt w g tb c T i) (hT : TokOk T) (hr : (gram (f + 1)).braced (T.drop i) = some r) :
    Calls Tryd.prog 69 #[.pointer (some ⟨g, 0, none⟩)] w (RPost (QB w.heap.size) w g tb c T r) := by
  rw [gram_succ] at hr
  simp only [needT] at hr
  have hnd := need_any w g tb c i T hA hT [123] (by simp)
  unfold NeedPost at hnd
  have hgl := hA.lt
  cases hk : isTok [123] (T.drop i) with
  | false =>
    rw [hk] at hr hnd
    simp only [Bool.false_eq_true, if_false] at hr hnd
    obtain rfl := Option.some.inj hr
    have HH := Lib.hid hnd; clear hnd hA hT ih
    go_enter Tryd.func69, Tryd.ntmps69
    go_wp2_with (go_at_call 72; (
      refine (show Calls _ _ _ _ _ from HH.out).mono ?_
      rintro E w3 ⟨hg3, rfl⟩
      have H3 := Lib.hid hg3; clear hg3))
    exact ⟨rfl, H3.out, rfl⟩
  | true =>
    rw [hk] at hr hnd
    simp only [if_true] at hr hnd
    rw [tail_drop] at hr
    cases hr1 : (gram f).list [] (T.drop (i + 1)) with
    | none => rw [hr1] at hr; cases hr
    | some r1 =>
    rw [hr1] at hr
    cases r1 with
    | no n =>
      obtain rfl := Option.some.inj hr
      have HH := Lib.hid (And.intro hnd (And.intro hT (And.intro ih hr1))); clear hnd hA hT ih hr1
      go_enter Tryd.func69, Tryd.ntmps69
      go_wp2_with (first
        | (go_at_call 72; (
          refine (show Calls _ _ _ _ _ from HH.out.1).mono ?_
          rintro E w3 ⟨hg3, rfl, hA3⟩
          have hc := HH.out.2.2.1.list w3 g tb c (i + 1) T _ hA3 HH.out.2.1 HH.out.2.2.2
          have H3 := Lib.hid (And.intro hg3 hc); clear hg3 hc hA3))
        | (go_at_call 26; (
          refine (show Calls _ _ _ _ _ from H3.out.2).mono ?_
          rintro E w5 ⟨hg5, rfl⟩
          have H5 := Lib.hid hg5; clear hg5)))
      exact ⟨rfl, H3.out.1.trans H5.out, rfl⟩
    | ok a1 ts1 =>
      simp only [thenR] at hr
      have H0 := Lib.hid (And.intro hnd (And.intro hT (And.intro ih hr1))); clear hnd hA hT ih hr1
      cases hk2 : isTok [125] ts1 with
      | false =>
        rw [hk2] at hr
        simp only [Bool.false_eq_true, if_false] at hr
        obtain rfl := Option.some.inj hr
        go_enter Tryd.func69, Tryd.ntmps69
        have mk1 : Nat := 0
        go_wp2_with (first
          | (clear mk1; go_at_call 72; (
            refine (show Calls _ _ _ _ _ from H0.out.1).mono ?_
            rintro E w3 ⟨hg3, rfl, hA3⟩
            have hc := H0.out.2.2.1.list w3 g tb c (i + 1) T _ hA3 H0.out.2.1 H0.out.2.2.2
            have H3 := Lib.hid (And.intro hg3 hc); clear hg3 hc hA3))
          | (go_at_call 26; (
            refine (show Calls _ _ _ _ _ from H3.out.2).mono ?_
            rintro E w5 ⟨hg5, v, i', rfl, ⟨k, rfl, he, hle⟩, hd5, hA5⟩
            have hnd := need_any w5 g tb c i' T hA5 H0.out.2.1 [125] (by simp)
            unfold NeedPost at hnd
            rw [hd5, hk2] at hnd
            simp only [Bool.false_eq_true, if_false] at hnd
            have H5 := Lib.hid (And.intro hg5 hnd); clear hg5 hnd hd5 hA5 hle he
            simp only [BlockR.val]))
          | (go_at_call 72; (
            refine (show Calls _ _ _ _ _ from H5.out.2).mono ?_
            rintro E w6 ⟨hg6, rfl⟩
            have H6 := Lib.hid hg6; clear hg6)))
        exact ⟨rfl, (H3.out.1.trans H5.out.1).trans H6.out, rfl⟩
      | true =>
        rw [hk2] at hr
        simp only [if_true] at hr
        obtain rfl := Option.some.inj hr
        go_enter Tryd.func69, Tryd.ntmps69
        have mk1 : Nat := 0
        go_wp2_with (first
          | (clear mk1; go_at_call 72; (
            refine (show Calls _ _ _ _ _ from H0.out.1).mono ?_
            rintro E w3 ⟨hg3, rfl, hA3⟩
            have hc := H0.out.2.2.1.list w3 g tb c (i + 1) T _ hA3 H0.out.2.1 H0.out.2.2.2
            have hz3 := hg3.size
            have H3 := Lib.hid (And.intro hg3 hc); clear hg3 hc hA3))
          | (go_at_call 26; (
            refine (show Calls _ _ _ _ _ from H3.out.2).mono ?_
            rintro E w5 ⟨hg5, v, i', rfl, ⟨k, rfl, he, hle⟩, hd5, hA5⟩
            have hnd := need_any w5 g tb c i' T hA5 H0.out.2.1 [125] (by simp)
            unfold NeedPost at hnd
            rw [hd5, hk2] at hnd
            simp only [if_true] at hnd
            have H5 := Lib.hid (And.intro hg5 (And.intro hnd (And.intro hd5 (And.intro he hle)))); clear hg5 hnd hd5 hA5 hle he
            simp only [BlockR.val]))
          | (go_at_call 72; (
            refine (show Calls _ _ _ _ _ from H5.out.2.1).mono ?_
            rintro E w6 ⟨hg6, rfl, hA6⟩
            have H6 := Lib.hid (And.intro hg6 hA6); clear hg6 hA6)))
        go_ret
        obtain ⟨hg5, _, hd5, he, hle⟩ := H5.out
        refine ⟨(H3.out.1.trans hg5).trans H6.out.1, _, i' + 1, rfl, ⟨k, rfl, he, ?_⟩, by rw [← tail_drop, hd5], H6.out.2⟩
        exact (hle.go (Stays.of_grown H6.out.1 (by intro k e; cases e; simp [under]; omega))).go (Stays.sub (by intro b _ hb; simp [under] at hb ⊢; omega))
end Go.Proofs.YtgiceeholamphaaDoor

/- The reader's method that reads a list of statements. No conditions but that the reader is one. -/
namespace Go.Proofs.YtgiceeholamphaaDoor
open Go.ChangeShapes Go.WideShapes Go.ChangeAt Go.RowKit Go.Maps

theorem list_more {f : Nat} {a : List StatR} {ts : List Tok} {r : PR (List StatR)} (h : (gram f).list a ts = some r) :
    ∃ f', f = f' + 1 ∧ (if isTok [125] ts || isTok [] ts then some (.ok a ts) else thenR ((gram f').stat ts) fun x ts => if isTok [59] ts then (gram f').list (a ++ [x]) ts.tail else some (.ok (a ++ [x]) ts)) = some r := by
  cases f with
  | zero => cases h
  | succ f => exact ⟨f, rfl, by rw [gram_succ] at h; exact h⟩
/-- Statements that were read so far lie in a row of the call's own. -/
structure Got (lo : Nat) (w : World) (v : Value) (L : List StatR) : Prop where
  own : w.ownsRow lo 49 8 v L.length (cellsS L)
  each : ∀ x ∈ L, LdS (ownS lo v) w x
theorem Got.lt {lo : Nat} {w : World} {v : Value} {L : List StatR} (h : Got lo w v L) {b : Nat} (hb : v.ownBlock = some b) : lo ≤ b ∧ b < w.heap.size := h.own.lt b hb
theorem Got.kept {lo g : Nat} {w w' : World} {v : Value} {L : List StatR} (h : Got lo w v L) (hk : w.grownBy w' (some g)) (hg : g < lo) : Got lo w' v L :=
  ⟨own_grown h.own hk (fun k e e2 => by cases e2; have := (h.lt e).1; omega), fun x hx => (h.each x hx).go (Stays.of_grown hk (by intro k e; cases e; simp; omega))⟩
theorem Got.alloc {lo : Nat} {w : World} {v : Value} {L : List StatR} (h : Got lo w v L) (o : Obj) : Got lo (w.alloc o) v L := ⟨h.own.alloc o, fun x hx => (h.each x hx).go (Stays.alloc o)⟩
/-- One more. -/
theorem Got.push {lo lo5 : Nat} {w7 w8 : World} {v v' : Value} {L : List StatR} {x : StatR} (h : Got lo w7 v L) (hx : LdS (under lo5) w7 x) (h5 : lo ≤ lo5) (hv : ∀ b, v.ownBlock = some b → b < lo5)
    (hown : w8.ownsRow lo 49 8 v' (L.length + 1) (cellsS L ++ cellsS [x])) (hg : w7.grownBy w8 v.ownBlock) (hl : v'.ownBlock = v.ownBlock ∨ v'.ownBlock = some w7.heap.size) : Got lo w8 v' (L ++ [x]) := by
  refine ⟨by rw [cellsS_append, List.length_append]; exact hown, fun y hy => ?_⟩
  rcases List.mem_append.1 hy with hy | hy
  · exact (h.each y hy).go (Stays.push hg hl)
  · obtain rfl := List.mem_singleton.1 hy
    refine (hx.go (Stays.sub (S' := ownS lo v) ?_)).go (Stays.push hg hl)
    intro b _ hb
    simp at hb ⊢
    exact ⟨by omega, fun e => by have := hv b e; omega⟩
theorem RAt.stay {w w' : World} {g tb c i : Nat} {T : List Tok} {row : Option Nat} (h : RAt w g tb c T i) (hg : w.grownBy w' row) (h1 : ∀ b, row = some b → b ≠ g) (h2 : ∀ b, row = some b → b ≠ tb) : RAt w' g tb c T i :=
  ⟨h.hi, h.ne, h.blk.grown hg (fun e => h1 _ e.symm rfl), fun k hk => ⟨hg.cell (h.row k hk).1 (fun e => h2 _ e.symm rfl), hg.cell (h.row k hk).2 (fun e => h2 _ e.symm rfl)⟩⟩
/-- What they are as a block. -/
theorem Got.block {lo : Nat} {w : World} {A : Option Addr} {c : Nat} {L : List StatR} (h : Got lo w (.slice A L.length c) L) (hf : Fits L.length) : LdB (under lo) w (.mk A c L) :=
  ⟨RowS.owned h.own rfl (fun b hb => by simp [under]; exact (h.lt hb).1), fun y hy => (h.each y hy).go (Stays.sub (by intro b _ hb; simp at hb ⊢; omega)), hf⟩
theorem stop_test {t : Tok} {ts : List Tok} (h : hd ts = t) : ((isTok [125] ts || isTok [] ts) = true) ↔ (t.1 = [125] ∨ t.1 = []) := by simp [isTok, h]
set_option maxRecDepth 100000 in
set_option maxHeartbeats 4000000 in
theorem list_any (f : Nat) (ih : CS f) (w : World) (g tb c i : Nat) (T : List Tok) (r : PR (List StatR)) (hA : RAt w g tb c T i) (hT : TokOk T) (hr : (gram (f + 1)).list [] (T.drop i) = some r) :
    Calls Tryd.prog 26 #[.pointer (some ⟨g, 0, none⟩)] w (RPost (QB w.heap.size) w g tb c T r) := by
  obtain ⟨iS, hi, hz⟩ := Option.map_eq_some_iff.1 info_stat
  simp only [Prod.mk.injEq] at hz
  obtain ⟨hz0, hz1, hz2⟩ := hz
  have HI := Lib.hid (And.intro hi (And.intro hz0 (And.intro hz1 hz2))); clear hi hz0 hz1 hz2
  have hgl := hA.lt
  have htl := hA.tlt
  have hlen := hT.len
  have hcost := (gram_few (f + 1)).list [] (T.drop i) r hr
  have HC := Lib.hid hcost; clear hcost
  go_enter Tryd.func26, Tryd.ntmps26
  go_wp2_with fail
  go_loopg [3] (T.length - i) (fun gk v wr => ∃ (f' i' : Nat) (L : List StatR), gk = T.length - i' ∧ f' ≤ f + 1 ∧ (gram f').list (plainS L) (T.drop i') = some r ∧ RAt wr g tb c T i' ∧ w.grownBy wr (some g) ∧ Got w.heap.size wr v L ∧ L.length + (T.length - i') ≤ T.length)
  case atStart => exact ⟨f + 1, i, [], rfl, Nat.le_refl _, hr, hA, World.grownBy.refl _ _, ⟨World.ownsRow_nil _ _ _ _, by simp⟩, by simp⟩
  case round =>
    obtain ⟨f1, i1, L, hgk, hf1, hr0, hA1, hg1, hG, hLl⟩ := hrel
    clear hr
    obtain ⟨f2, hff, hr⟩ := list_more hr0
    clear hr0
    subst hff
    obtain ⟨t, hd', ht, h0, h1, hf0, h2, hil, _⟩ := hA1.facts hT
    have hne := hA1.ne
    have hst := stop_test hd'
    obtain ⟨A, cL, rfl, hLc, hcm⟩ := own_form hG.own
    obtain ⟨s, hs⟩ : ∃ s : ByteArray, (⟨t.1.toArray⟩ : ByteArray) = s := ⟨_, rfl⟩
    rw [hs] at h2
    by_cases hstop : t.1 = [125] ∨ t.1 = []
    · rw [if_pos (hst.2 hstop)] at hr
      obtain rfl := Option.some.inj hr
      have hLf : Fits L.length := by have := hA1.hi; unfold Fits; omega
      have HL := Lib.hid (And.intro hA1 (And.intro hg1 (And.intro hG hLf))); clear hA1 hg1 hG hLf hst hr hd'
      rcases hstop with e | e
      · rw [e] at hs
        subst hs
        go_wp2_with fail
        go_quiet (fail)
        go_wp2_with fail
        go_ret
        exact ⟨HL.out.2.1.trans (grown_drewN wr nq _), _, i1, rfl, ⟨.mk A cL L, rfl, rfl, HL.out.2.2.1.kept (grown_drewN wr nq (some g)) hgl |>.block HL.out.2.2.2⟩, rfl, HL.out.1.kept (grown_drewN wr nq none)⟩
      · rw [e] at hs
        subst hs
        go_wp2_with fail
        go_quiet (fail)
        go_wp2_with fail
        go_ret
        exact ⟨HL.out.2.1.trans (grown_drewN wr nq _), _, i1, rfl, ⟨.mk A cL L, rfl, rfl, HL.out.2.2.1.kept (grown_drewN wr nq (some g)) hgl |>.block HL.out.2.2.2⟩, rfl, HL.out.1.kept (grown_drewN wr nq none)⟩
    · rw [if_neg (fun h => hstop (hst.1 h))] at hr
      have hse1 : ¬ s.toList = [125] := by subst hs; rw [ByteArray.toList_eq]; exact fun e => hstop (.inl e)
      have hse2 : ¬ s.toList = [] := by subst hs; rw [ByteArray.toList_eq]; exact fun e => hstop (.inr e)
      have hse3 : (s.toList == [125]) = false := by simpa using hse1
      have hse4 : (s.toList == []) = false := by simpa using hse2
      have hse5 : s.toList.isEmpty = false := by simpa using hse2
      clear hst hstop hs hd'
      have hgr := fun (x : List Tok) (r : PR StatR) (hx : (gram f2).stat x = some r) => by
        have := (gram_add f2 (f - f2)).stat x r hx
        rwa [show f2 + (f - f2) = f by omega] at this
      cases hr2 : (gram f2).stat (T.drop i1) with
      | none => rw [hr2] at hr; cases hr
      | some r2 =>
      rw [hr2] at hr
      have hr2 := hgr _ _ hr2
      clear hgr
      cases r2 with
      | no n =>
        obtain rfl := Option.some.inj hr
        have HL := Lib.hid (And.intro hA1 (And.intro hg1 hr2)); clear hA1 hg1 hG hr2 hr
        go_wp2_with fail
        go_quiet (fail)
        obtain ⟨w2, hw2⟩ : ∃ w2, wr.drewN nq = w2 := ⟨_, rfl⟩
        have hA2 : RAt w2 g tb c T i1 := by rw [← hw2]; exact HL.out.1.kept (grown_drewN wr nq none)
        have hg2 : w.grownBy w2 (some g) := by rw [← hw2]; exact HL.out.2.1.trans (grown_drewN wr nq _)
        rw [hw2]
        have hc := ih.stat w2 g tb c i1 T _ hA2 hT HL.out.2.2
        have H2 := Lib.hid (And.intro hc hg2); clear hc hg2 hA2 hw2 h0 h1 h2 hf0
        go_wp2_with (go_at_call 44; (
          refine (show Calls _ _ _ _ _ from H2.out.1).mono ?_
          rintro E w3 ⟨hg3, rfl⟩
          have H3 := Lib.hid hg3; clear hg3))
        exact ⟨rfl, H2.out.2.trans H3.out, rfl⟩
      | ok a2 ts2 =>
        simp only [thenR] at hr
        have HL := Lib.hid (And.intro hA1 (And.intro hg1 (And.intro hr2 (And.intro hG (And.intro hLl hr))))); clear hA1 hg1 hG hr2 hr hLl
        go_wp2_with fail
        go_quiet (fail)
        obtain ⟨w2, hw2⟩ : ∃ w2, wr.drewN nq = w2 := ⟨_, rfl⟩
        have hA2 : RAt w2 g tb c T i1 := by rw [← hw2]; exact HL.out.1.kept (grown_drewN wr nq none)
        have hg2 : w.grownBy w2 (some g) := by rw [← hw2]; exact HL.out.2.1.trans (grown_drewN wr nq _)
        have hG2 : Got w.heap.size w2 (.slice A L.length cL) L := by rw [← hw2]; exact HL.out.2.2.2.1.kept (grown_drewN wr nq (some g)) hgl
        rw [hw2]
        have hc := ih.stat w2 g tb c i1 T _ hA2 hT HL.out.2.2.1
        have hLs : L.length ≤ 1048577 := by have := HL.out.2.2.2.2.1; omega
        have H2 := Lib.hid (And.intro hc (And.intro hg2 hG2)); clear hc hg2 hA2 hG2 hw2 h0 h1 h2 hf0
        have hfew := (gram_few f).stat _ _ HL.out.2.2.1
        simp only [Cost, List.length_drop] at hfew
        have HF := Lib.hid hfew; clear hfew
        cases hk : isTok [59] ts2 with
        | true =>
          go_wp2_with (first
            | (go_at_call 44; (
              refine (show Calls _ _ _ _ _ from H2.out.1).mono ?_
              rintro E w3 ⟨hg3, v, i2, rfl, ⟨x, rfl, he, hle⟩, hd3, hA3⟩
              have hG3 := H2.out.2.2.kept hg3 hgl
              have H3 := Lib.hid (And.intro hg3 (And.intro hA3 (And.intro hd3 (And.intro he (And.intro hle hG3))))); clear hg3 hA3 hd3 he hle hG3
              simp only [StatR.val]))
            | (at_builtin; (
              refine wpList_append_src rfl (.tmp 30) (.tmp 33) _ rfl w.heap.size 49 iS _ 8 112 Tryd.underlying22 HI.out.1 HI.out.2.1 HI.out.2.2.1 HI.out.2.2.2 rfl (by decide) _ _ _ rfl (H3.out.2.2.2.2.2.own.alloc _) (some ⟨w3.heap.size, 0, none⟩) 1 1 (cellsS [x]) rfl (cellsS_length _) (box_row x _) (cellsS_one _) (by unfold maxLen; omega) (by omega) (by have := H2.out.2.1.size; have := H3.out.1.size; simp; omega) ?_
              intro v9 w9 hown9 hg9 hloc
              obtain ⟨A9, c9, rfl, hLc9, hcm9⟩ := own_form hown9
              have hG9 := (H3.out.2.2.2.2.2.alloc (.cells x.cells.toArray 49)).push (lo5 := w2.heap.size) (H3.out.2.2.2.2.1.go (Stays.alloc _)) H2.out.2.1.size (fun b hb => (H2.out.2.2.lt hb).2) hown9 hg9 hloc
              have hg9' : (w3.alloc (.cells x.cells.toArray 49)).grownBy w9 (Value.slice A L.length cL).ownBlock := hg9
              have hA9 : RAt w9 g tb c T i2 := (H3.out.2.1.kept (World.grownBy_alloc w3 _ none)).stay hg9' (fun b hb => by have := (H3.out.2.2.2.2.2.lt hb).1; omega) (fun b hb => by have := (H3.out.2.2.2.2.2.lt hb).1; omega)
              have hgw9 : w.grownBy w9 (some g) := (grown_alloc (H2.out.2.1.trans H3.out.1) _).andThen hg9' (fun b hb => .inl (H3.out.2.2.2.2.2.lt hb).1)
              have hhv := have_any w9 g tb c i2 T hA9 hT [59] (by simp)
              have H9 := Lib.hid (And.intro hG9 (And.intro hhv hgw9)); clear hG9 hhv hgw9 hA9 hg9' hown9 hg9 hloc))
            | (go_at_call 45; (
              refine (show Calls _ _ _ _ _ from H9.out.2.1).mono ?_
              rintro E w10 ⟨rfl, hg10, hA10⟩
              rw [H3.out.2.2.1, hk] at hA10
              rw [H3.out.2.2.1, hk]
              simp only [if_true, Bool.false_eq_true, if_false] at hA10
              have hG10 := H9.out.1.kept hg10 hgl
              have H10 := Lib.hid (And.intro hg10 (And.intro hA10 hG10)); clear hg10 hA10 hG10)))
          go_roundg (T.length - (i2 + 1))
          case measure =>
            have h1 := congrArg List.length H3.out.2.2.1
            rw [List.length_drop] at h1
            have := H10.out.2.1.hi
            have := HF.out
            omega
          case rel =>
            have hr := HL.out.2.2.2.2.2
            rw [if_pos hk] at hr
            refine ⟨f2, i2 + 1, L ++ [x], rfl, by omega, ?_, H10.out.2.1, H9.out.2.2.trans H10.out.1, by simpa using H10.out.2.2, ?_⟩
            · rw [plainS_append, ← tail_drop, H3.out.2.2.1]
              show (gram f2).list (plainS L ++ [x.plain]) ts2.tail = some r
              rw [H3.out.2.2.2.1]
              exact hr
            · have h1 := congrArg List.length H3.out.2.2.1
              rw [List.length_drop] at h1
              have := H10.out.2.1.hi
              have := HF.out
              have := HL.out.2.2.2.2.1
              have := nodes_pos a2
              simp
              omega
        | false =>
          go_wp2_with (first
            | (go_at_call 44; (
              refine (show Calls _ _ _ _ _ from H2.out.1).mono ?_
              rintro E w3 ⟨hg3, v, i2, rfl, ⟨x, rfl, he, hle⟩, hd3, hA3⟩
              have hG3 := H2.out.2.2.kept hg3 hgl
              have H3 := Lib.hid (And.intro hg3 (And.intro hA3 (And.intro hd3 (And.intro he (And.intro hle hG3))))); clear hg3 hA3 hd3 he hle hG3
              simp only [StatR.val]))
            | (at_builtin; (
              refine wpList_append_src rfl (.tmp 30) (.tmp 33) _ rfl w.heap.size 49 iS _ 8 112 Tryd.underlying22 HI.out.1 HI.out.2.1 HI.out.2.2.1 HI.out.2.2.2 rfl (by decide) _ _ _ rfl (H3.out.2.2.2.2.2.own.alloc _) (some ⟨w3.heap.size, 0, none⟩) 1 1 (cellsS [x]) rfl (cellsS_length _) (box_row x _) (cellsS_one _) (by unfold maxLen; omega) (by omega) (by have := H2.out.2.1.size; have := H3.out.1.size; simp; omega) ?_
              intro v9 w9 hown9 hg9 hloc
              obtain ⟨A9, c9, rfl, hLc9, hcm9⟩ := own_form hown9
              have hG9 := (H3.out.2.2.2.2.2.alloc (.cells x.cells.toArray 49)).push (lo5 := w2.heap.size) (H3.out.2.2.2.2.1.go (Stays.alloc _)) H2.out.2.1.size (fun b hb => (H2.out.2.2.lt hb).2) hown9 hg9 hloc
              have hg9' : (w3.alloc (.cells x.cells.toArray 49)).grownBy w9 (Value.slice A L.length cL).ownBlock := hg9
              have hA9 : RAt w9 g tb c T i2 := (H3.out.2.1.kept (World.grownBy_alloc w3 _ none)).stay hg9' (fun b hb => by have := (H3.out.2.2.2.2.2.lt hb).1; omega) (fun b hb => by have := (H3.out.2.2.2.2.2.lt hb).1; omega)
              have hgw9 : w.grownBy w9 (some g) := (grown_alloc (H2.out.2.1.trans H3.out.1) _).andThen hg9' (fun b hb => .inl (H3.out.2.2.2.2.2.lt hb).1)
              have hhv := have_any w9 g tb c i2 T hA9 hT [59] (by simp)
              have H9 := Lib.hid (And.intro hG9 (And.intro hhv hgw9)); clear hG9 hhv hgw9 hA9 hg9' hown9 hg9 hloc))
            | (go_at_call 45; (
              refine (show Calls _ _ _ _ _ from H9.out.2.1).mono ?_
              rintro E w10 ⟨rfl, hg10, hA10⟩
              rw [H3.out.2.2.1, hk] at hA10
              rw [H3.out.2.2.1, hk]
              simp only [if_true, Bool.false_eq_true, if_false] at hA10
              have hG10 := H9.out.1.kept hg10 hgl
              have H10 := Lib.hid (And.intro hg10 (And.intro hA10 hG10)); clear hg10 hA10 hG10)))
          have hr := HL.out.2.2.2.2.2
          rw [if_neg (by rw [hk]; decide)] at hr
          obtain rfl := Option.some.inj hr
          go_ret
          refine ⟨H9.out.2.2.trans H10.out.1, _, i2, rfl, ⟨.mk A9 c9 (L ++ [x]), by simp [BlockR.val, BlockR.A, BlockR.c, BlockR.l], ?_, ?_⟩, H3.out.2.2.1, H10.out.2.1⟩
          · show plainS (L ++ [x]) = plainS L ++ [a2]
            rw [plainS_append, ← H3.out.2.2.2.1]; rfl
          · refine Got.block (by simpa using H10.out.2.2) ?_
            have h1 := congrArg List.length H3.out.2.2.1
            rw [List.length_drop] at h1
            have := H10.out.2.1.hi
            have := HF.out
            have := HL.out.2.2.2.2.1
            have := nodes_pos a2
            unfold Fits
            simp
            omega
end Go.Proofs.YtgiceeholamphaaDoor
