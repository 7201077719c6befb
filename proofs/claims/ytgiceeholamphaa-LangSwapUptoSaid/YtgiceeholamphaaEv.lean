/- What expressions are worth; the contracts of doer.get, lang.Value. No conditions but that what is read is there. -/
import Derived.Test.YtgiceeholamphaaBeginW
import Derived.Deep.RegionHeld3
import Derived.BigRegion
import Derived.Deep.RegionLaw
namespace Go.Proofs.Ytgiceeholamphaa
open Go.ChangeShapes Go.WideShapes Go.ChangeAt Go.RowKit Go.Maps

def opE (k : Int) : List Int → Int
  | a :: b :: _ => if k = 3 then wrap64 (a + b) else if k = 4 then wrap64 (a - b) else wrap64 (a * b)
  | _ => 0
mutual
/-- The number of an expression. -/
def ExprR.ev (f : ByteArray → Option Int) : ExprR → Int | .mk k n s _ _ l => if k = 1 then n else if k = 2 then (f s).getD 0 else opE k (evs f l)
def evs (f : ByteArray → Option Int) : List ExprR → List Int
  | [] => []
  | e :: l => e.ev f :: evs f l
end
theorem ExprR.ev_eq (f : ByteArray → Option Int) (e : ExprR) : e.ev f = if e.kind = 1 then e.n else if e.kind = 2 then (f e.name).getD 0 else opE e.kind (evs f e.kids) := by cases e; rw [ExprR.ev]; rfl
/-- The doer in block gd: its map in block bm, its steps, the most of them. -/
def DoAt (w : World) (gd bm : Nat) (steps most : Int) : Prop := Blk w gd 45 [.map (some bm), .int .i64 steps, .int .i64 most]
theorem bcell {W w1 : World} (hb : Below W.heap.size W w1) : ∀ b o, b < W.heap.size → w1.cell? ⟨b, o, none⟩ = W.cell? ⟨b, o, none⟩ := fun b o h => hb.cell (p := ⟨b, o, none⟩) h
theorem get_any (w : World) (gd bm N : Nat) (st mo : Int) (f : ByteArray → Option Int) (s : ByteArray) (hd : DoAt w gd bm st mo) (hm : MapAt w 2 bm N f) (hs : s.size ≤ maxLen) :
    Calls Try.prog 23 #[.pointer (some ⟨gd, 0, none⟩), .string s] w fun E w' => E = .returned (.int .i64 ((f s).getD 0)) ∧ w = w' := by
  have c0 := hd.cell 0
  simp at c0
  have HM := Lib.hid hm; clear hm hd
  go_enter Try.func23, Try.ntmps23
  go_wp2_with (at_lookup; refine wpList_map_get rfl _ _ 40 rfl Try.underlying2 (zero_int64 _) Try.underlying40 rfl HM.out s hs rfl ?_)
  go_ret
  exact ⟨rfl, rfl⟩
def getter (gd : Nat) : Value := .func (.func 23) #[.pointer (some ⟨gd, 0, none⟩)] #[]
def EvPost (e : ExprR) (f : ByteArray → Option Int) (w : World) (E : Ending) (w' : World) : Prop := E = .returned (.int .i64 (e.ev f)) ∧ Below w.heap.size w w'
set_option maxRecDepth 100000 in
set_option maxHeartbeats 2000000 in
theorem value_any : ∀ (e : ExprR) (w : World) (B gd bm N : Nat) (st mo : Int) (f : ByteArray → Option Int), RdE w B e → AllE e → B ≤ w.heap.size → DoAt w gd bm st mo → MapAt w 2 bm N f →
    Calls Try.prog 22 #[e.val, getter gd] w (EvPost e f w) := by
  refine ExprR.ind fun e ih => ?_
  intro w B gd bm N st mo f hR hA hB hD hM
  have hev := e.ev_eq f
  have hrow := hR.row
  have hkR := fun k (hk : k ∈ e.kids) => hR.kid hk
  have hkA := fun k (hk : k ∈ e.kids) => hA.kid hk
  have hnm := hA.name
  have hok := hA.ok
  obtain ⟨kind, m, name, sA, sc, kids⟩ := e
  simp only [ExprR.kind, ExprR.n, ExprR.name, ExprR.kids, ExprR.sA] at hev ih hrow hkR hkA hnm
  have hdl := hD.lt
  have hml := hM.lt
  have H := Lib.hid (And.intro ih (And.intro hkR (And.intro hkA (And.intro hD hM)))); clear ih hkR hkA hD hM hR hA
  by_cases k1 : kind = 1
  · subst k1
    have Hev := Lib.hid hev; clear hev hok hnm hrow
    show Calls Try.prog 22 #[.agg #[.int .i64 1, .int .i64 m, .string name, .slice sA kids.length sc], .func (.func 23) #[.pointer (some ⟨gd, 0, none⟩)] #[]] w _
    go_enter Try.func22, Try.ntmps22
    go_wp2_with fail
    go_ret
    exact ⟨by rw [Hev.out]; rfl, (Below.refl _ _).alloc (Nat.le_refl _) _⟩
  by_cases k2 : kind = 2
  · subst k2
    have hs := named_small (hnm rfl)
    have Hev := Lib.hid hev; clear hev hok hnm hrow
    show Calls Try.prog 22 #[.agg #[.int .i64 2, .int .i64 m, .string name, .slice sA kids.length sc], .func (.func 23) #[.pointer (some ⟨gd, 0, none⟩)] #[]] w _
    go_enter Try.func22, Try.ntmps22
    go_wp2_with (go_at_call 23; (refine (get_any _ gd bm N st mo f name (H.out.2.2.2.1.alloc _) (H.out.2.2.2.2.alloc _) hs).mono ?_; rintro E w2 ⟨rfl, rfl⟩))
    go_ret
    exact ⟨by rw [Hev.out]; rfl, (Below.refl _ _).alloc (Nat.le_refl _) _⟩
  have hk : 3 ≤ kind ∧ kind ≤ 5 ∧ kids.length = 2 := by
    rcases hok with h | h | h
    · exact absurd h.1 k1
    · exact absurd h.1 k2
    · exact ⟨h.1, h.2.1, h.2.2.2.2⟩
  clear hok hnm
  obtain ⟨hk3, hk5, hkl⟩ := hk
  obtain ⟨x, y, rfl⟩ : ∃ x y, kids = [x, y] := by
    match kids, hkl with
    | [x, y], _ => exact ⟨x, y, rfl⟩
  clear hkl
  obtain ⟨b, o, rfl, hbB, hx⟩ := hrow.at_ (i := 0) (by simp)
  obtain ⟨b', o', eq, _, hy⟩ := hrow.at_ (i := 1) (by simp)
  injection eq with eq
  injection eq with eq1 eq2
  subst eq1 eq2
  clear hrow
  simp only [Nat.zero_mul, Nat.add_zero, Nat.one_mul, List.getElem_cons_zero, List.getElem_cons_succ] at hx hy
  obtain ⟨x0, x1, x2, x3⟩ := hx
  obtain ⟨y0, y1, y2, y3⟩ := hy
  have hev := hev.trans ((if_neg k1).trans (if_neg k2))
  have hbl : b < w.heap.size := by omega
  have hbn : ¬ (b = w.heap.size) := by omega
  have hop : opE kind (evs f [x, y]) = opE kind [x.ev f, y.ev f] := rfl
  rw [hop] at hev
  have Hev := Lib.hid hev; clear hev hop
  have e1 : (kind == 1) = false := beq_eq_false_iff_ne.2 k1
  have e2 : (kind == 2) = false := beq_eq_false_iff_ne.2 k2
  clear k1 k2
  have hcx := fun (W : World) (h : Below w.heap.size w W) => H.out.1 x (by simp) W B gd bm N st mo f ((H.out.2.1 x (by simp)).under (h.mono hB)) (H.out.2.2.1 x (by simp)) (by have := h.size; omega) (H.out.2.2.2.1.below h hdl) (H.out.2.2.2.2.below h hml)
  have hcy := fun (W : World) (h : Below w.heap.size w W) => H.out.1 y (by simp) W B gd bm N st mo f ((H.out.2.1 y (by simp)).under (h.mono hB)) (H.out.2.2.1 y (by simp)) (by have := h.size; omega) (H.out.2.2.2.1.below h hdl) (H.out.2.2.2.2.below h hml)
  have HC := Lib.hid (And.intro hcx hcy); clear hcx hcy
  generalize hxv : x.ev f = xv at *
  generalize hyv : y.ev f = yv at *
  have Hv := Lib.hid (And.intro hxv hyv); clear hxv hyv
  have mk1 : Nat := 0
  have hbl1 : b < w.heap.size + 1 := by omega
  show Calls Try.prog 22 #[.agg #[.int .i64 kind, .int .i64 m, .string name, .slice (some ⟨b, o, none⟩) 2 sc], .func (.func 23) #[.pointer (some ⟨gd, 0, none⟩)] #[]] w _
  go_enter Try.func22, Try.ntmps22
  go_wp2_with fail
  go_region_held3 (fun w' => w'.cell? ⟨w.heap.size, 3, none⟩ = some (.slice (some ⟨b, o, none⟩) 2 sc) ∧ w'.cell? ⟨b, o, none⟩ = some (.int .i64 x.kind) ∧ w'.cell? ⟨b, o + 1, none⟩ = some (.int .i64 x.n) ∧ w'.cell? ⟨b, o + 2, none⟩ = some (.string x.name) ∧ w'.cell? ⟨b, o + 3, none⟩ = some (.slice x.sA x.kids.length x.sc) ∧ w'.cell? ⟨b, o + 4, none⟩ = some (.int .i64 y.kind) ∧ w'.cell? ⟨b, o + 4 + 1, none⟩ = some (.int .i64 y.n) ∧ w'.cell? ⟨b, o + 4 + 2, none⟩ = some (.string y.name) ∧ w'.cell? ⟨b, o + 4 + 3, none⟩ = some (.slice y.sA y.kids.length y.sc)) (go_keep) (first
    | (clear mk1; go_at_call 22; (
        refine (show Calls _ _ _ _ _ from HC.out.1 _ (((Below.refl w.heap.size w).alloc (Nat.le_refl _) (.cells #[.int .i64 kind, .int .i64 m, .string name, .slice (some ⟨b, o, none⟩) 2 sc] 31)).drew)).mono ?_
        rintro E w2 ⟨rfl, hb2⟩
        have hc2 := bcell hb2
        have hs2 : w.heap.size < w2.heap.size := by have := hb2.size; simp at this; omega
        have hs2' : b < w2.heap.size := by omega
        rw [Hv.out.1]
        have HB2 := Lib.hid hb2; clear hb2))
    | (go_at_call 22; (
        refine (show Calls _ _ _ _ _ from HC.out.2 _ ((((Below.refl w.heap.size w).alloc (Nat.le_refl _) (.cells #[.int .i64 kind, .int .i64 m, .string name, .slice (some ⟨b, o, none⟩) 2 sc] 31)).drew).trans (HB2.out.mono (by simp)))).mono ?_
        rintro E w3 ⟨rfl, hb3⟩
        have hc3 := bcell hb3
        rw [Hv.out.2]
        have HB3 := Lib.hid hb3; clear hb3)))
  have hk : kind = 3 ∨ kind = 4 ∨ kind = 5 := by omega
  have hfin := ((((Below.refl w.heap.size w).alloc (Nat.le_refl _) (.cells #[.int .i64 kind, .int .i64 m, .string name, .slice (some ⟨b, o, none⟩) 2 sc] 31)).drew).trans (HB2.out.mono (by simp))).trans (HB3.out.mono (by omega))
  have HF := Lib.hid hfin; clear hfin e1 e2
  rcases hk with rfl | rfl | rfl
  all_goals
    go_wp2_with fail
    go_ret
    exact ⟨by rw [Hev.out]; rfl, HF.out⟩
end Go.Proofs.Ytgiceeholamphaa
