/- stepref's parser: statements in the making; blocks. No conditions but that the parser is one. -/
import Derived.Test.YtgiceeholamphaaDoorPf
import Derived.Test.YtgiceeholamphaaDoorRdY
namespace Go.Proofs.YtgiceeholamphaaDoor
open Go.ChangeShapes Go.WideShapes Go.ChangeAt Go.RowKit Go.Maps

def QPs (lo : Nat) (o : Option StatR) (v : Value) (w' : World) : Prop := ∃ x : StatR, v = x.val ∧ LdS (under lo) w' x ∧ ∀ a, o = some a → x.plain = a
def QPb (lo : Nat) (o : Option (List StatR)) (v : Value) (w' : World) : Prop := ∃ k : BlockR, v = k.val ∧ LdB (under lo) w' k ∧ ∀ a, o = some a → plainS k.l = a
structure CP (f : Nat) : Prop where
  stat : ∀ (w : World) (g : Nat) (s : ByteArray) (ts : List Tok) (r : PR StatR), PAt w g s (.go ts) → (gram f).stat ts = some r →
    Calls Tryd.prog 46 #[.pointer (some ⟨g, 0, none⟩)] w (PPost (QPs w.heap.size) w g s r)
  block : ∀ (w : World) (g : Nat) (s : ByteArray) (st : PSt) (r : PR (List StatR)), PAt w g s st → fromS st (gram f).braced = some r →
    Calls Tryd.prog 74 #[.pointer (some ⟨g, 0, none⟩)] w (PPost (QPb w.heap.size) w g s r)
  list : ∀ (w : World) (g : Nat) (s : ByteArray) (st : PSt) (r : PR (List StatR)), PAt w g s st → fromS st ((gram f).list []) = some r →
    Calls Tryd.prog 28 #[.pointer (some ⟨g, 0, none⟩)] w (PPost (QPb w.heap.size) w g s r)
theorem QPb.go {lo lo' : Nat} {o : Option (List StatR)} {v : Value} {w w' : World} (h : QPb lo o v w) (hs : Stays (under lo) (under lo') w w') : QPb lo' o v w' := by
  obtain ⟨k, e, hk, ho⟩ := h
  exact ⟨k, e, hk.go hs, ho⟩
/-- The statement in the making in the second block of the call's own. -/
structure PX (w : World) (g : Nat) (s : ByteArray) (wr : World) (st : PSt) (k : Int) (name : ByteArray) (e : ExprR) (n : Int) (vb : Value) (bs : List BlockR) : Prop where
  at_ : PAt wr g s st
  grown : w.grownBy wr (some g)
  box : Blk wr w.heap.size 49 zeros8
  val : Blk wr (w.heap.size + 1) 49 [.int .i64 k, .string name, .int .i64 e.kind, .int .i64 e.n, .string e.name, .slice e.sA e.kids.length e.sc, .int .i64 n, vb]
  lde : LdE (ownS (w.heap.size + 2) vb) wr e
  own : wr.ownsRow (w.heap.size + 2) 22 1 vb bs.length (blockC bs)
  each : ∀ b ∈ bs, LdB (ownS (w.heap.size + 2) vb) wr b
section
variable {w wr w' w6 : World} {g : Nat} {s : ByteArray} {st st' : PSt} {k n : Int} {name : ByteArray} {e : ExprR} {vb : Value} {bs : List BlockR}
theorem PX.moved (h : PX w g s wr st k name e n vb bs) (hg : wr.grownBy w' (some g)) (hA : PAt w' g s st') (hgl : g < w.heap.size) : PX w g s w' st' k name e n vb bs := by
  have hst : Stays (ownS (w.heap.size + 2) vb) (ownS (w.heap.size + 2) vb) wr w' := Stays.of_grown hg (by intro b e; cases e; simp; omega)
  exact ⟨hA, h.grown.trans hg, h.box.grown hg (by intro e; cases e; omega), h.val.grown hg (by intro e; cases e; omega), h.lde.go hst, own_grown h.own hg (fun b e e2 => by cases e2; have := (h.own.lt _ e).1; omega), fun b hb => (h.each b hb).go hst⟩
theorem PX.start {W2 : World} (h : PAt w g s st) (hW : ((w.alloc (.cells #[.int .i64 0, .string ⟨#[]⟩, .int .i64 0, .int .i64 0, .string ⟨#[]⟩, .slice none 0 0, .int .i64 0, .slice none 0 0] 49)).alloc (.cells #[.int .i64 0, .string ⟨#[]⟩, .int .i64 0, .int .i64 0, .string ⟨#[]⟩, .slice none 0 0, .int .i64 0, .slice none 0 0] 49)) = W2) :
    PX w g s W2 st 0 ⟨#[]⟩ noE 0 (.slice none 0 0) [] := by
  subst hW
  have h1 := Blk.newArr w 49 (cs := #[.int .i64 0, .string ⟨#[]⟩, .int .i64 0, .int .i64 0, .string ⟨#[]⟩, .slice none 0 0, .int .i64 0, .slice none 0 0]) (vs := zeros8) rfl
  have h2 := Blk.newArr (w.alloc (.cells #[.int .i64 0, .string ⟨#[]⟩, .int .i64 0, .int .i64 0, .string ⟨#[]⟩, .slice none 0 0, .int .i64 0, .slice none 0 0] 49)) 49 (cs := #[.int .i64 0, .string ⟨#[]⟩, .int .i64 0, .int .i64 0, .string ⟨#[]⟩, .slice none 0 0, .int .i64 0, .slice none 0 0]) (vs := zeros8) rfl
  rw [show (w.alloc (.cells #[.int .i64 0, .string ⟨#[]⟩, .int .i64 0, .int .i64 0, .string ⟨#[]⟩, .slice none 0 0, .int .i64 0, .slice none 0 0] 49)).heap.size = w.heap.size + 1 by simp] at h2
  have h2' := h2
  exact ⟨(h.kept (World.grownBy_alloc _ _ _)).kept (World.grownBy_alloc _ _ _), grown_alloc (World.grownBy_alloc _ _ _) _, h1.alloc _, h2', LdE.leaf, World.ownsRow_nil _ _ _ _, by simp⟩
/-- A cell of the statement is set, its blocks and its expression as they are. -/
theorem PX.cell (h : PX w g s w6 st k name e n vb bs) (hgl : g < w.heap.size) (i : Nat) (v : Value) {k2 n2 : Int} {name2 : ByteArray}
    (hv : [Value.int .i64 k, .string name, .int .i64 e.kind, .int .i64 e.n, .string e.name, .slice e.sA e.kids.length e.sc, .int .i64 n, vb].set i v = [.int .i64 k2, .string name2, .int .i64 e.kind, .int .i64 e.n, .string e.name, .slice e.sA e.kids.length e.sc, .int .i64 n2, vb]) :
    PX w g s (w6.setCell ⟨w.heap.size + 1, i, none⟩ v) st k2 name2 e n2 vb bs := by
  have hst : Stays (ownS (w.heap.size + 2) vb) (ownS (w.heap.size + 2) vb) w6 (w6.setCell ⟨w.heap.size + 1, i, none⟩ v) := Stays.set_ (by simp)
  refine ⟨h.at_.far_ (by omega), grown_new h.grown (by omega), h.box.far (by show w.heap.size ≠ w.heap.size + 1; omega) _, ?_, h.lde.go hst, own_own h.own fun b hb => ?_, fun b hb => (h.each b hb).go hst⟩
  · have := h.val.set_ i v
    rw [hv] at this
    exact this
  · have := (h.own.lt b hb).1
    simp only [World.setCell, Array.getElem?_modify]
    rw [if_neg (by show ¬ w.heap.size + 1 = b; omega)]
/-- The expression is set. -/
theorem PX.setE {e2 : ExprR} {lo5 : Nat} (h : PX w g s w6 st k name e n (.slice none 0 0) []) (hgl : g < w.heap.size) (he : LdE (under lo5) w6 e2) (h5 : w.heap.size + 1 < lo5) :
    PX w g s ((((w6.setCell ⟨w.heap.size + 1, 2, none⟩ (.int .i64 e2.kind)).setCell ⟨w.heap.size + 1, 3, none⟩ (.int .i64 e2.n)).setCell ⟨w.heap.size + 1, 4, none⟩ (.string e2.name)).setCell ⟨w.heap.size + 1, 5, none⟩ (.slice e2.sA e2.kids.length e2.sc)) st k name e2 n (.slice none 0 0) [] := by
  have hS : ownS (w.heap.size + 2) (.slice none 0 0) (w.heap.size + 1) = true := by simp
  have hst : Stays (ownS (w.heap.size + 2) (.slice none 0 0)) (ownS (w.heap.size + 2) (.slice none 0 0)) w6 ((((w6.setCell ⟨w.heap.size + 1, 2, none⟩ (.int .i64 e2.kind)).setCell ⟨w.heap.size + 1, 3, none⟩ (.int .i64 e2.n)).setCell ⟨w.heap.size + 1, 4, none⟩ (.string e2.name)).setCell ⟨w.heap.size + 1, 5, none⟩ (.slice e2.sA e2.kids.length e2.sc)) :=
    (((Stays.set_ hS).trans (Stays.set_ hS)).trans (Stays.set_ hS)).trans (Stays.set_ hS)
  have hne : w.heap.size ≠ w.heap.size + 1 := by omega
  have hg1 : g < w.heap.size + 1 := by omega
  refine ⟨(((h.at_.far_ hg1).far_ hg1).far_ hg1).far_ hg1, grown_new (grown_new (grown_new (grown_new h.grown (by omega)) (by omega)) (by omega)) (by omega), (((h.box.far (p := ⟨w.heap.size + 1, 2, none⟩) hne _).far (p := ⟨w.heap.size + 1, 3, none⟩) hne _).far (p := ⟨w.heap.size + 1, 4, none⟩) hne _).far (p := ⟨w.heap.size + 1, 5, none⟩) hne _, ?_, ?_, World.ownsRow_nil _ _ _ _, by simp⟩
  · simpa using (((h.val.set_ 2 (.int .i64 e2.kind)).set_ 3 (.int .i64 e2.n)).set_ 4 (.string e2.name)).set_ 5 (.slice e2.sA e2.kids.length e2.sc)
  · refine (he.go (Stays.sub (S' := ownS (w.heap.size + 2) (.slice none 0 0)) ?_)).go hst
    intro b _ hb
    simp [Value.ownBlock] at hb ⊢
    omega
/-- One block more, by append. -/
theorem PX.push {w8 : World} {v' : Value} {kb : BlockR} {lo5 : Nat} (h : PX w g s w6 st k name e n vb bs) (hgl : g < w.heap.size) (hk : LdB (under lo5) w6 kb) (h5 : w.heap.size + 1 < lo5) (hv : ∀ b, vb.ownBlock = some b → b < lo5)
    (hown : w8.ownsRow (w.heap.size + 2) 22 1 v' (bs.length + 1) (blockC bs ++ blockC [kb])) (hg : (w6.alloc (.cells #[kb.val] 22)).grownBy w8 vb.ownBlock) (hl : v'.ownBlock = vb.ownBlock ∨ v'.ownBlock = some (w6.alloc (.cells #[kb.val] 22)).heap.size) :
    PX w g s (w8.setCell ⟨w.heap.size + 1, 7, none⟩ v') st k name e n v' (bs ++ [kb]) := by
  have hn3 := h.val.lt
  have hblo : ∀ b, vb.ownBlock = some b → w.heap.size + 2 ≤ b := fun b e => (h.own.lt b e).1
  have hblo' : ∀ b, v'.ownBlock = some b → w.heap.size + 2 ≤ b := by
    intro b e
    rcases hl with e2 | e2
    · exact hblo b (e2 ▸ e)
    · rw [e2] at e; simp at e; omega
  have hst : Stays (ownS (w.heap.size + 2) vb) (ownS (w.heap.size + 2) v') w6 (w8.setCell ⟨w.heap.size + 1, 7, none⟩ v') :=
    ((Stays.alloc _).trans (Stays.push hg hl)).trans (Stays.set_ (by simp))
  refine ⟨((h.at_.kept (World.grownBy_alloc w6 _ none)).stay hg (fun b e => by have := hblo b e; omega)).far_ (by omega), grown_new ((grown_alloc h.grown _).andThen hg (fun b hb => .inl (by have := hblo b hb; omega))) (by omega), ((h.box.alloc _).grown hg (fun e => by have := hblo _ e.symm; omega)).far (by show w.heap.size ≠ w.heap.size + 1; omega) _, ?_, h.lde.go hst, ?_, ?_⟩
  · have := ((h.val.alloc (.cells #[kb.val] 22)).grown hg (fun e => by have := hblo _ e.symm; omega)).set_ 7 v'
    simpa using this
  · rw [blockC_append, List.length_append]
    exact own_own hown fun b hb => by
      have := hblo' b hb
      simp only [World.setCell, Array.getElem?_modify]
      rw [if_neg (by show ¬ w.heap.size + 1 = b; omega)]
  · intro b hb
    rcases List.mem_append.1 hb with hb | hb
    · exact (h.each b hb).go hst
    · obtain rfl := List.mem_singleton.1 hb
      refine (hk.go (Stays.sub (S' := ownS (w.heap.size + 2) vb) ?_)).go hst
      intro b _ hb
      simp at hb ⊢
      exact ⟨by omega, fun e => by have := hv b e; omega⟩
/-- The statement is done. -/
theorem PX.done {o : Option StatR} (h : PX w g s wr st k name e n vb bs) (hf : Fits bs.length) (ho : ∀ a, o = some a → StatR.mk k name e.plain n none 0 (plainB bs) = a) : QPs w.heap.size o (.agg #[.int .i64 k, .string name, .int .i64 e.kind, .int .i64 e.n, .string e.name, .slice e.sA e.kids.length e.sc, .int .i64 n, vb])
    (World.put8 wr w.heap.size (.int .i64 k) (.string name) (.int .i64 e.kind) (.int .i64 e.n) (.string e.name) (.slice e.sA e.kids.length e.sc) (.int .i64 n) vb) := by
  obtain ⟨A, cc, rfl, _, _⟩ := own_form h.own
  refine ⟨.mk k name e n A cc bs, rfl, ?_, fun a ha => ho a ha⟩
  have hst : Stays (ownS (w.heap.size + 2) (.slice A bs.length cc)) (under w.heap.size) wr (World.put8 wr w.heap.size (.int .i64 k) (.string name) (.int .i64 e.kind) (.int .i64 e.n) (.string e.name) (.slice e.sA e.kids.length e.sc) (.int .i64 n) (.slice A bs.length cc)) :=
    (Stays.put8 (by simp)).trans (Stays.sub (by intro b _ hb; simp at hb ⊢; omega))
  have hbl : ∀ b, (Value.slice A bs.length cc).ownBlock = some b → w.heap.size + 2 ≤ b := fun b e => (h.own.lt b e).1
  refine ⟨_, h.lde.go hst, ?_, fun b hb => ?_, fun b hb y hy => ?_, hf⟩
  · refine RowB.owned (base := w.heap.size + 2) (v := .slice A bs.length cc) (own_blocks h.own fun b hb hlt => ?_) rfl (fun b e => by have := hbl b e; simp [under]; omega)
    simp only [World.setCell, Array.getElem?_modify]
    repeat rw [if_neg (by show ¬ w.heap.size = b; omega)]
  · have k := (h.each b hb).go hst
    exact ⟨k.row, k.fits⟩
  · exact ((h.each b hb).go hst).each y hy
end
theorem PAt.put8 {w : World} {g n : Nat} {s : ByteArray} {st : PSt} {x0 x1 x2 x3 x4 x5 x6 x7 : Value} (h : PAt w g s st) (hn : g < n) : PAt (World.put8 w n x0 x1 x2 x3 x4 x5 x6 x7) g s st :=
  (((((((h.far_ hn).far_ hn).far_ hn).far_ hn).far_ hn).far_ hn).far_ hn).far_ hn
theorem PAt.drew {w : World} {g : Nat} {s : ByteArray} {st : PSt} (h : PAt w g s st) : PAt w.drew g s st := h.kept (grown_drew w none)
theorem braced_of {f : Nat} {st : PSt} {r : PR (List StatR)} (h : fromS st (gram (f + 1)).braced = some r) :
    ∃ r1, fromS (mustS [123] st) ((gram f).list []) = some r1 ∧ stOf r = mustS [125] (stOf r1) ∧ ∀ a, valOf r = some a → valOf r1 = some a := by
  cases st with
  | no n => cases h; exact ⟨.no n, rfl, rfl, fun a e => by cases e⟩
  | go ts =>
    rw [gram_succ] at h
    simp only [fromS, needT] at h
    cases hk : isTok [123] ts with
    | false => rw [hk] at h; cases h; exact ⟨.no (hd ts).2, by simp [mustS, hk, fromS], rfl, fun a e => by cases e⟩
    | true =>
      rw [hk] at h
      simp only [if_true] at h
      have hm : mustS [123] (.go ts) = .go ts.tail := by simp [mustS, hk]
      rw [hm]
      cases hr1 : (gram f).list [] ts.tail with
      | none => rw [hr1] at h; cases h
      | some r1 =>
        rw [hr1] at h
        refine ⟨r1, hr1, ?_⟩
        cases r1 with
        | no n => cases h; exact ⟨rfl, fun a e => by cases e⟩
        | ok l ts2 =>
          simp only [thenR] at h
          cases hk2 : isTok [125] ts2 with
          | true => rw [hk2] at h; cases h; simp [stOf, mustS, hk2, valOf]
          | false => rw [hk2] at h; cases h; simp [stOf, mustS, hk2, valOf]
set_option maxRecDepth 100000 in
set_option maxHeartbeats 4000000 in
theorem pblock_any (f : Nat) (ih : CP f) (w : World) (g : Nat) (s : ByteArray) (st : PSt) (r : PR (List StatR)) (h : PAt w g s st) (hr : fromS st (gram (f + 1)).braced = some r) :
    Calls Tryd.prog 74 #[.pointer (some ⟨g, 0, none⟩)] w (PPost (QPb w.heap.size) w g s r) := by
  obtain ⟨r1, hr1, hs, hv⟩ := braced_of hr
  have hm := must_any w g s st h [123] (by simp)
  have hgl := h.lt
  have H := Lib.hid (And.intro hm (And.intro ih (And.intro hr1 (And.intro hs hv)))); clear hm ih hr1 hs hv hr h
  go_enter Tryd.func74, Tryd.ntmps74
  have mk1 : Nat := 0
  go_wp2_with (first
    | (clear mk1; go_at_call 77; (
      refine (show Calls _ _ _ _ _ from H.out.1).mono ?_
      rintro E w2 ⟨hg2, h2, rfl⟩
      have hl := H.out.2.1.list w2 g s _ r1 h2 H.out.2.2.1
      have hz2 := hg2.size
      have H2 := Lib.hid (And.intro hg2 hl); clear hg2 h2 hl))
    | (go_at_call 28; (
      refine (show Calls _ _ _ _ _ from H2.out.2).mono ?_
      rintro E w3 ⟨hg3, h3, v, rfl, k, rfl, hkl, hke⟩
      have hm3 := must_any w3 g s _ h3 [125] (by simp)
      have H3 := Lib.hid (And.intro hg3 (And.intro hm3 (And.intro hkl hke))); clear hg3 h3 hm3 hkl hke
      simp only [BlockR.val]))
    | (go_at_call 77; (
      refine (show Calls _ _ _ _ _ from H3.out.2.1).mono ?_
      rintro E w4 ⟨hg4, h4, rfl⟩
      have H4 := Lib.hid (And.intro hg4 h4); clear hg4 h4)))
  go_ret
  refine ⟨(H2.out.1.trans H3.out.1).trans H4.out.1, by rw [H.out.2.2.2.1]; exact H4.out.2, _, rfl, k, rfl, ?_, fun a ha => H3.out.2.2.2 a (H.out.2.2.2.2 a ha)⟩
  exact (H3.out.2.2.1.go (Stays.of_grown (S := under w2.heap.size) H4.out.1 (by intro k e; cases e; simp [under]; omega))).go (Stays.sub (by intro b _ hb; simp [under] at hb ⊢; omega))
end Go.Proofs.YtgiceeholamphaaDoor

/- stepref's parser: lists of statements. No conditions but that the parser is one. -/
namespace Go.Proofs.YtgiceeholamphaaDoor
open Go.ChangeShapes Go.WideShapes Go.ChangeAt Go.RowKit Go.Maps

/-- What is to come of a list. -/
def LL (f : Nat) (L : List StatR) (r : PR (List StatR)) : PSt → Prop
  | .no n => r = .no n
  | .go ts => ∃ f', f' ≤ f ∧ (gram f').list (plainS L) ts = some r
theorem toks_two {l : List UInt8} {i : Nat} (h : (hd (toksAt l i)).1 ≠ []) : 2 ≤ (toksAt l i).length := by
  obtain ⟨P, n, e⟩ := toksAt_fin l i
  rw [e] at h ⊢
  cases P with
  | nil => exact absurd rfl h
  | cons x P => simp
theorem PAt.hd_ {w : World} {g : Nat} {s : ByteArray} {ts : List Tok} (h : PAt w g s (.go ts)) : ∃ a, a ≤ s.size ∧ Blk w g 67 [.string s, .int .i64 (a : Int), .bool false] ∧ hd ts = tokAt s a ∧ ((hd ts).1 ≠ [] → 2 ≤ ts.length) := by
  obtain ⟨a, h1, h2, h3⟩ := h.st_
  exact ⟨a, h1, h3, by rw [← h2]; rfl, by rw [← h2]; exact toks_two⟩
theorem PAt.count {w : World} {g : Nat} {s : ByteArray} {ts : List Tok} (h : PAt w g s (.go ts)) : ts.length ≤ 1048577 ∧ ts ≠ [] := by
  obtain ⟨a, h1, h2, h3⟩ := h.st_
  have := toksAt_len (s.data.toList.drop a) a
  rw [h2] at this
  have hl := h.len
  refine ⟨?_, by rw [← h2]; exact toksAt_ne _ _⟩
  simp at this
  omega
set_option maxRecDepth 100000 in
set_option maxHeartbeats 8000000 in
theorem plist_any (f : Nat) (ih : CP f) (w : World) (g : Nat) (s : ByteArray) (st : PSt) (r : PR (List StatR)) (h : PAt w g s st) (hr : fromS st ((gram (f + 1)).list []) = some r) :
    Calls Tryd.prog 28 #[.pointer (some ⟨g, 0, none⟩)] w (PPost (QPb w.heap.size) w g s r) := by
  obtain ⟨iS, hi, hz⟩ := Option.map_eq_some_iff.1 info_stat
  simp only [Prod.mk.injEq] at hz
  obtain ⟨hz0, hz1, hz2⟩ := hz
  have HI := Lib.hid (And.intro hi (And.intro hz0 (And.intro hz1 hz2))); clear hi hz0 hz1 hz2
  have hgl := h.lt
  have hLL : LL (f + 1) [] r st := by
    cases st with
    | no n => cases hr; rfl
    | go ts => exact ⟨f + 1, Nat.le_refl _, hr⟩
  have hcnt : mS st ≤ 1048578 := by
    cases st with
    | no n => simp [mS]
    | go ts => have := h.count.1; simp only [mS]; omega
  have H0 := Lib.hid (And.intro h (And.intro hLL hcnt)); clear h hLL hcnt hr
  go_enter Tryd.func28, Tryd.ntmps28
  go_wp2_with fail
  go_loopg [3, 4, 5] (mS st) (fun gk v _ _ wr => ∃ (st' : PSt) (L : List StatR), gk = mS st' ∧ LL (f + 1) L r st' ∧ PAt wr g s st' ∧ w.grownBy wr (some g) ∧ Got w.heap.size wr v L ∧ (match st' with | .go ts => L.length + ts.length ≤ 1048577 | .no _ => L.length ≤ 1048576))
  case atStart =>
    refine ⟨st, [], rfl, H0.out.2.1, H0.out.1, World.grownBy.refl _ _, ⟨World.ownsRow_nil _ _ _ _, by simp⟩, ?_⟩
    have := H0.out.2.2
    cases st with
    | no n => simp
    | go ts => simp only [mS] at this; simp; omega
  case round =>
    obtain ⟨st', L, hgk, hLR, hA, hgr, hG, hLn⟩ := hrel
    clear H0
    have k2 := hA.flag
    obtain ⟨A, cL, rfl, hLc, hcm⟩ := own_form hG.own
    cases st' with
    | no n =>
      simp only [failed] at k2
      obtain rfl : r = .no n := hLR
      have HX := Lib.hid (And.intro hA (And.intro hgr (And.intro hG hLn))); clear hA hgr hG hLn
      go_wp2_with fail
      go_ret
      exact ⟨HX.out.2.1, HX.out.1, _, rfl, .mk A cL L, rfl, HX.out.2.2.1.block HX.out.2.2.2, fun a e => by cases e⟩
    | go ts =>
      simp only [failed] at k2
      simp only at hLn
      obtain ⟨f1, hf1, hr0⟩ := hLR
      obtain ⟨f2, hff, hr⟩ := list_more hr0
      clear hr0
      subst hff
      obtain ⟨a, ha, hb, hta, h2⟩ := hA.hd_
      have hnx := next_any wr g s a false hb ha hA.len
      rw [← hta] at hnx
      have hst := stop_test (ts := ts) rfl
      have hne := hA.count.2
      have hpos : 1 ≤ ts.length := by cases ts with | nil => exact absurd rfl hne | cons _ _ => simp
      by_cases hstop : (hd ts).1 = [125] ∨ (hd ts).1 = []
      · rw [if_pos (hst.2 hstop)] at hr
        obtain rfl := Option.some.inj hr
        have HX := Lib.hid (And.intro hA (And.intro hgr (And.intro hG (And.intro hnx (show Fits L.length by unfold Fits; omega))))); clear hA hgr hG hLn hb hst h2 hgk hr
        rcases hstop with e | e
        · rw [e] at HX
          go_wp2_with (go_at_call 29; (
            refine (show Calls _ _ _ _ _ from HX.out.2.2.2.1).mono ?_
            rintro E w2 ⟨rfl, rfl⟩))
          go_ret
          exact ⟨HX.out.2.1, HX.out.1, _, rfl, .mk A cL L, rfl, HX.out.2.2.1.block HX.out.2.2.2.2, fun a e => by cases e; rfl⟩
        · rw [e] at HX
          go_wp2_with (go_at_call 29; (
            refine (show Calls _ _ _ _ _ from HX.out.2.2.2.1).mono ?_
            rintro E w2 ⟨rfl, rfl⟩))
          go_ret
          exact ⟨HX.out.2.1, HX.out.1, _, rfl, .mk A cL L, rfl, HX.out.2.2.1.block HX.out.2.2.2.2, fun a e => by cases e; rfl⟩
      · rw [if_neg (fun h => hstop (hst.1 h))] at hr
        have h2 := h2 (fun e => hstop (.inr e))
        obtain ⟨x, hx⟩ : ∃ x : ByteArray, (⟨(hd ts).1.toArray⟩ : ByteArray) = x := ⟨_, rfl⟩
        rw [hx] at hnx
        have hse1 : ¬ x.toList = [125] := by subst hx; rw [ByteArray.toList_eq]; exact fun e => hstop (.inl e)
        have hse2 : ¬ x.toList = [] := by subst hx; rw [ByteArray.toList_eq]; exact fun e => hstop (.inr e)
        have hse3 : (x.toList == [125]) = false := by simpa using hse1
        have hse4 : (x.toList == []) = false := by simpa using hse2
        have hse5 : x.toList.isEmpty = false := by simpa using hse2
        clear hst hstop hx
        cases hr2 : (gram f2).stat ts with
        | none => rw [hr2] at hr; cases hr
        | some r2 =>
        rw [hr2] at hr
        have hfew := (gram_few f2).stat _ _ hr2
        have hr2 : (gram f).stat ts = some r2 := by
          have := (gram_add f2 (f - f2)).stat ts r2 hr2
          rwa [show f2 + (f - f2) = f by omega] at this
        have hc := ih.stat wr g s ts r2 hA hr2
        have HX := Lib.hid (And.intro hA (And.intro hgr (And.intro hG (And.intro hnx (And.intro hc (And.intro hr (And.intro hfew (And.intro hLn h2)))))))); clear hA hgr hG hLn hb h2 hc hr hfew hnx
        have hLs : L.length ≤ 1048577 := by have := HX.out.2.2.2.2.2.2.2.1; omega
        have HGK := Lib.hid hgk; clear hgk
        cases hk : isS [59] (stOf r2) with
        | true =>
          go_wp2_with (first
            | (go_at_call 29; (
              refine (show Calls _ _ _ _ _ from HX.out.2.2.2.1).mono ?_
              rintro E w2 ⟨rfl, rfl⟩))
            | (go_at_call 46; (
              refine (show Calls _ _ _ _ _ from HX.out.2.2.2.2.1).mono ?_
              rintro E w3 ⟨hg3, h3, v, rfl, y, rfl, hle, hev⟩
              have hG3 := HX.out.2.2.1.kept hg3 hgl
              have H3 := Lib.hid (And.intro hg3 (And.intro h3 (And.intro hev (And.intro hle hG3)))); clear hg3 h3 hev hle hG3
              simp only [StatR.val]))
            | (at_builtin; (
              refine wpList_append_src rfl (.tmp 22) (.tmp 25) _ rfl w.heap.size 49 iS _ 8 112 Tryd.underlying22 HI.out.1 HI.out.2.1 HI.out.2.2.1 HI.out.2.2.2 rfl (by decide) _ _ _ rfl (H3.out.2.2.2.2.own.alloc _) (some ⟨w3.heap.size, 0, none⟩) 1 1 (cellsS [y]) rfl (cellsS_length _) (box_row y _) (cellsS_one _) (by unfold maxLen; omega) (by omega) (by have := HX.out.2.1.size; have := H3.out.1.size; simp; omega) ?_
              intro v9 w9 hown9 hg9 hloc
              obtain ⟨A9, c9, rfl, hLc9, hcm9⟩ := own_form hown9
              have hG9 := (H3.out.2.2.2.2.alloc (.cells y.cells.toArray 49)).push (lo5 := wr.heap.size) (H3.out.2.2.2.1.go (Stays.alloc _)) HX.out.2.1.size (fun b hb => (HX.out.2.2.1.lt hb).2) hown9 hg9 hloc
              have hg9' : (w3.alloc (.cells y.cells.toArray 49)).grownBy w9 (Value.slice A L.length cL).ownBlock := hg9
              have hA9 : PAt w9 g s (stOf r2) := (H3.out.2.1.kept (World.grownBy_alloc w3 _ none)).stay hg9' (fun b hb => by have := (H3.out.2.2.2.2.lt hb).1; omega)
              have hgw9 : w.grownBy w9 (some g) := (grown_alloc (HX.out.2.1.trans H3.out.1) _).andThen hg9' (fun b hb => .inl (H3.out.2.2.2.2.lt hb).1)
              have hhv := is_any w9 g s _ hA9 [59] (by simp)
              have H9 := Lib.hid (And.intro hG9 (And.intro hhv hgw9)); clear hG9 hhv hgw9 hA9 hg9' hown9 hg9 hloc))
            | (go_at_call 47; (
              refine (show Calls _ _ _ _ _ from H9.out.2.1).mono ?_
              rintro E w10 ⟨hg10, hA10, rfl⟩
              rw [hk]
              have hG10 := H9.out.1.kept hg10 hgl
              have H10 := Lib.hid (And.intro hg10 (And.intro hA10 hG10)); clear hg10 hA10 hG10)))
          go_roundg (mS (tailS [59] (stOf r2)))
          case measure =>
            rw [HGK.out]
            have hfew := HX.out.2.2.2.2.2.2.1
            cases r2 with
            | no n => cases hk
            | ok a2 ts2 =>
              simp only [Cost] at hfew
              have hk' : isTok [59] ts2 = true := hk
              have := tail_lt (by simp) hk'
              have := nodes_pos a2
              simp only [stOf, tailS, hk', if_true, mS]
              omega
          case rel =>
            have hr := HX.out.2.2.2.2.2.1
            have hfew := HX.out.2.2.2.2.2.2.1
            have hLn := HX.out.2.2.2.2.2.2.2.1
            have hG := H10.out.2.2
            have hev := H3.out.2.2.1
            refine ⟨_, L ++ [y], rfl, ?_, H10.out.2.1, H9.out.2.2.trans H10.out.1, by simpa using hG, ?_⟩
            · cases r2 with
              | no n => cases hk
              | ok a2 ts2 =>
                have hk' : isTok [59] ts2 = true := hk
                simp only [thenR] at hr
                rw [if_pos hk'] at hr
                simp only [stOf, tailS, hk', if_true]
                refine ⟨f2, by omega, ?_⟩
                rw [plainS_append]
                show (gram f2).list (plainS L ++ [y.plain]) ts2.tail = some r
                rw [hev a2 rfl]
                exact hr
            · cases r2 with
              | no n => cases hk
              | ok a2 ts2 =>
                have hk' : isTok [59] ts2 = true := hk
                simp only [Cost] at hfew
                have := tail_lt (by simp) hk'
                have := nodes_pos a2
                simp only [stOf, tailS, hk', if_true]
                simp
                omega
        | false =>
          go_wp2_with (first
            | (go_at_call 29; (
              refine (show Calls _ _ _ _ _ from HX.out.2.2.2.1).mono ?_
              rintro E w2 ⟨rfl, rfl⟩))
            | (go_at_call 46; (
              refine (show Calls _ _ _ _ _ from HX.out.2.2.2.2.1).mono ?_
              rintro E w3 ⟨hg3, h3, v, rfl, y, rfl, hle, hev⟩
              have hG3 := HX.out.2.2.1.kept hg3 hgl
              have H3 := Lib.hid (And.intro hg3 (And.intro h3 (And.intro hev (And.intro hle hG3)))); clear hg3 h3 hev hle hG3
              simp only [StatR.val]))
            | (at_builtin; (
              refine wpList_append_src rfl (.tmp 22) (.tmp 25) _ rfl w.heap.size 49 iS _ 8 112 Tryd.underlying22 HI.out.1 HI.out.2.1 HI.out.2.2.1 HI.out.2.2.2 rfl (by decide) _ _ _ rfl (H3.out.2.2.2.2.own.alloc _) (some ⟨w3.heap.size, 0, none⟩) 1 1 (cellsS [y]) rfl (cellsS_length _) (box_row y _) (cellsS_one _) (by unfold maxLen; omega) (by omega) (by have := HX.out.2.1.size; have := H3.out.1.size; simp; omega) ?_
              intro v9 w9 hown9 hg9 hloc
              obtain ⟨A9, c9, rfl, hLc9, hcm9⟩ := own_form hown9
              have hG9 := (H3.out.2.2.2.2.alloc (.cells y.cells.toArray 49)).push (lo5 := wr.heap.size) (H3.out.2.2.2.1.go (Stays.alloc _)) HX.out.2.1.size (fun b hb => (HX.out.2.2.1.lt hb).2) hown9 hg9 hloc
              have hg9' : (w3.alloc (.cells y.cells.toArray 49)).grownBy w9 (Value.slice A L.length cL).ownBlock := hg9
              have hA9 : PAt w9 g s (stOf r2) := (H3.out.2.1.kept (World.grownBy_alloc w3 _ none)).stay hg9' (fun b hb => by have := (H3.out.2.2.2.2.lt hb).1; omega)
              have hgw9 : w.grownBy w9 (some g) := (grown_alloc (HX.out.2.1.trans H3.out.1) _).andThen hg9' (fun b hb => .inl (H3.out.2.2.2.2.lt hb).1)
              have hhv := is_any w9 g s _ hA9 [59] (by simp)
              have H9 := Lib.hid (And.intro hG9 (And.intro hhv hgw9)); clear hG9 hhv hgw9 hA9 hg9' hown9 hg9 hloc))
            | (go_at_call 47; (
              refine (show Calls _ _ _ _ _ from H9.out.2.1).mono ?_
              rintro E w10 ⟨hg10, hA10, rfl⟩
              rw [hk]
              have hG10 := H9.out.1.kept hg10 hgl
              have H10 := Lib.hid (And.intro hg10 (And.intro hA10 hG10)); clear hg10 hA10 hG10)))
          go_ret
          have hts : tailS [59] (stOf r2) = stOf r2 := by
            cases r2 with
            | no n => rfl
            | ok a2 ts2 =>
              have hk' : isTok [59] ts2 = false := hk
              simp [stOf, tailS, hk']
          have hr := HX.out.2.2.2.2.2.1
          have hfew := HX.out.2.2.2.2.2.2.1
          have hLn := HX.out.2.2.2.2.2.2.2
          have hA10 := H10.out.2.1
          rw [hts] at hA10
          have hev := H3.out.2.2.1
          have hrr : stOf r = stOf r2 ∧ ∀ a, valOf r = some a → plainS (L ++ [y]) = a := by
            rcases stOf_pr hr with ⟨n, rfl, rfl⟩ | ⟨a2, ts2, rfl, hk2⟩
            · exact ⟨rfl, fun a e => by cases e⟩
            · have hk' : isTok [59] ts2 = false := hk
              rw [if_neg (by rw [hk']; decide)] at hk2
              cases hk2
              refine ⟨rfl, fun a e => ?_⟩
              cases e
              rw [plainS_append]
              show plainS L ++ [y.plain] = _
              rw [hev a2 rfl]
          refine ⟨H9.out.2.2.trans H10.out.1, by rw [hrr.1]; exact hA10, _, rfl, .mk A9 c9 (L ++ [y]), by simp [BlockR.val, BlockR.A, BlockR.c, BlockR.l], Got.block (by simpa using H10.out.2.2) ?_, hrr.2⟩
          unfold Fits
          simp
          omega
end Go.Proofs.YtgiceeholamphaaDoor
