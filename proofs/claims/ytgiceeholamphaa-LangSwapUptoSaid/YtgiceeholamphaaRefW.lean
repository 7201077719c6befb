/- The contracts of stepref.Worth, Stepped. No conditions but that what is read is there. -/
import Derived.Test.YtgiceeholamphaaRefN
namespace Go.Proofs.Ytgiceeholamphaa
open Go.ChangeShapes Go.WideShapes Go.ChangeAt Go.RowKit Go.Maps

theorem varsF_getElem (N : List ByteArray) (f : ByteArray → Option Int) {q : Nat} (h : q < (varsF N f).length) : (varsF N f)[q] = vOf f (N[q]'(by simpa [varsF] using h)) := by simp [varsF]
theorem row_at {w : World} {B : Nat} {A : Option Addr} {N : List ByteArray} {f : ByteArray → Option Int} (h : RowV w B A (varsF N f)) {q : Nat} (hq : q < N.length) :
    ∃ b o, A = some ⟨b, o, none⟩ ∧ b < B ∧ w.cell? ⟨b, o + q * 2, none⟩ = some (.string N[q]) ∧ w.cell? ⟨b, o + q * 2 + 1, none⟩ = some (.int .i64 ((f N[q]).getD 0)) := by
  obtain ⟨b, o, e, hb, h1, h2⟩ := h.at_ (i := q) (by rw [varsF_length]; exact hq)
  rw [varsF_getElem] at h1 h2
  exact ⟨b, o, e, hb, h1, h2⟩
theorem RowV.under {w w' : World} {B : Nat} {A : Option Addr} {l : List VarR} (h : RowV w B A l) (hb : Below B w w') : RowV w' B A l := h.keep fun _ hp => hb.cell hp
theorem RowV.more {w : World} {B B' : Nat} {A : Option Addr} {l : List VarR} (h : RowV w B A l) (hB : B ≤ B') : RowV w B' A l := fun hn => by
  obtain ⟨b, o, e, hb, hc⟩ := h hn
  exact ⟨b, o, e, by omega, hc⟩
theorem RowV.step {w w' : World} {A : Option Addr} {l : List VarR} (h : RowV w w.heap.size A l) (hb : Below w.heap.size w w') : RowV w' w'.heap.size A l := (h.under hb).more hb.size
set_option maxRecDepth 100000 in
set_option maxHeartbeats 2000000 in
theorem worth_any : ∀ (e : ExprR) (w : World) (B : Nat) (A : Option Addr) (c : Nat) (N : List ByteArray) (f : ByteArray → Option Int), RdE w B e → (AllE e ∨ noneE e) → B ≤ w.heap.size → RowV w w.heap.size A (varsF N f) → Has N f → N.length ≤ 8388608 →
    Calls Try.prog 30 #[e.val, .slice A N.length c] w (EvPost e f w) := by
  refine ExprR.ind fun e ih => ?_
  intro w B A c N f hR hA hB hV hF hn
  have hev := e.ev_eq f
  have hrow := hR.row
  have hkR := fun k (hk : k ∈ e.kids) => hR.kid hk
  have hok : okE e ∨ noneE e := hA.imp (·.ok) id
  have hkA : 3 ≤ e.kind → ∀ k ∈ e.kids, AllE k := fun h3 k hk => by
    rcases hA with h | h
    · exact h.kid hk
    · have := h.1; omega
  obtain ⟨kind, m, name, sA, sc, kids⟩ := e
  simp only [ExprR.kind, ExprR.n, ExprR.name, ExprR.kids, ExprR.sA] at hev ih hrow hkR hkA
  have H := Lib.hid (And.intro ih (And.intro hkR (And.intro hkA (And.intro hV hF)))); clear ih hkR hkA hV hF hR hA
  by_cases k1 : kind = 1
  · subst k1
    have Hev := Lib.hid hev; clear hev hok hrow
    show Calls Try.prog 30 #[.agg #[.int .i64 1, .int .i64 m, .string name, .slice sA kids.length sc], .slice A N.length c] w _
    go_enter Try.func30, Try.ntmps30
    go_wp2_with fail
    go_ret
    exact ⟨by rw [Hev.out]; rfl, (Below.refl _ _).alloc (Nat.le_refl _) _⟩
  by_cases k2 : kind = 2
  · subst k2
    have hev : (ExprR.mk 2 m name sA sc kids).ev f = (f name).getD 0 := hev
    have Hev := Lib.hid hev; clear hev hok hrow
    show Calls Try.prog 30 #[.agg #[.int .i64 2, .int .i64 m, .string name, .slice sA kids.length sc], .slice A N.length c] w _
    go_enter Try.func30, Try.ntmps30
    go_upto_region 5 with (fail)
    generalize hW : w.alloc (.cells #[.int .i64 2, .int .i64 m, .string name, .slice sA kids.length sc] 31) = W
    obtain ⟨hbw, hzw, hxw⟩ := box_facts (c := [.int .i64 2, .int .i64 m, .string name, .slice sA kids.length sc]) hW
    clear hW
    have y2 := hxw.cell 2
    simp at y2
    have H3 := Lib.hid hbw; clear hbw hxw
    go_wp2_with fail
    go_loopg [5] (N.length + 1) (fun gk i wr => ∃ q : Nat, gk + q = N.length + 1 ∧ q ≤ N.length ∧ i = .int .i64 q ∧ (∀ j (h : j < N.length), j < q → N[j] ≠ name) ∧ Below (w.heap.size + 1) W wr)
    case atStart => exact ⟨0, by omega, by omega, rfl, fun j _ h => by omega, Below.refl _ _⟩
    case round =>
      obtain ⟨q, hgq, hql, rfl, hno, hb⟩ := hrel
      have z2 : wr.cell? ⟨w.heap.size, 2, none⟩ = some (.string name) := (hb.cell (p := ⟨w.heap.size, 2, none⟩) (Nat.lt_succ_self _)).trans y2
      clear y2
      by_cases hq : q < N.length
      · obtain ⟨b, o, rfl, hbB, g0, g1⟩ := row_at H.out.2.2.2.1 hq
        have g0 := (hb.cell (p := ⟨b, o + q * 2, none⟩) (Nat.lt_succ_of_lt hbB)).trans ((H3.out.cell (p := ⟨b, o + q * 2, none⟩) hbB).trans g0)
        have g1 := (hb.cell (p := ⟨b, o + q * 2 + 1, none⟩) (Nat.lt_succ_of_lt hbB)).trans ((H3.out.cell (p := ⟨b, o + q * 2 + 1, none⟩) hbB).trans g1)
        have hsame := same_name N[q] name
        obtain ⟨x, hxe⟩ : ∃ x, N[q] = x := ⟨_, rfl⟩
        rw [hxe] at g0 g1 hsame
        have Hx := Lib.hid (And.intro hxe (And.intro hno hb)); clear hxe hno hb
        go_wp2_with fail
        by_cases hs : x = name
        · rw [decide_eq_true hs] at hsame
          have Hs := Lib.hid hs; clear hs
          go_region_held3 (fun w' => w'.cell? ⟨b, o + q * 2, none⟩ = some (.string x) ∧ w'.cell? ⟨w.heap.size, 2, none⟩ = some (.string name)) (go_keep) (fail)
          go_wp2_with fail
          go_ret
          exact ⟨by rw [Hev.out, ← Hs.out]; rfl, H3.out.trans (Hx.out.2.2.drew.mono (by omega))⟩
        · rw [decide_eq_false hs] at hsame
          have Hs := Lib.hid hs; clear hs
          go_region_held3 (fun w' => w'.cell? ⟨b, o + q * 2, none⟩ = some (.string x) ∧ w'.cell? ⟨w.heap.size, 2, none⟩ = some (.string name)) (go_keep) (fail)
          go_wp2_with fail
          go_roundg (gk - 1)
          case measure => omega
          case rel => exact ⟨q + 1, by omega, by omega, by go_num, fun j hj hjq => by
            by_cases e : j = q
            · subst e; rw [Hx.out.1]; exact Hs.out
            · exact Hx.out.2.1 j hj (by omega), Hx.out.2.2.drew⟩
      · obtain rfl : q = N.length := by omega
        have Hx := Lib.hid (And.intro hno hb); clear hno hb
        go_wp2_with fail
        go_ret
        refine ⟨?_, H3.out.trans (Hx.out.2.mono (by omega))⟩
        rw [Hev.out]
        have h0 : name ∉ N := fun hm => by
          obtain ⟨j, hj, e⟩ := List.getElem_of_mem hm
          exact Hx.out.1 j hj hj e
        have h1 : f name = none := by
          have := mt (H.out.2.2.2.2 name).2 h0
          simpa using this
        rw [h1]; rfl
  by_cases k0 : noneE (.mk kind m name sA sc kids)
  · obtain ⟨h1, _, _, h4⟩ := k0
    simp only [ExprR.kind, ExprR.kids] at h1 h4
    obtain rfl : kids = [] := List.length_eq_zero_iff.1 h4
    subst h1
    have Hev := Lib.hid hev; clear hev hok hrow h4
    show Calls Try.prog 30 #[.agg #[.int .i64 0, .int .i64 m, .string name, .slice sA 0 sc], .slice A N.length c] w _
    go_enter Try.func30, Try.ntmps30
    go_wp2_with fail
    go_ret
    exact ⟨by rw [Hev.out]; rfl, (Below.refl _ _).alloc (Nat.le_refl _) _⟩
  have hk : 3 ≤ kind ∧ kind ≤ 5 ∧ kids.length = 2 := by
    rcases hok with (h | h | h) | h
    · exact absurd h.1 k1
    · exact absurd h.1 k2
    · exact ⟨h.1, h.2.1, h.2.2.2.2⟩
    · exact absurd h k0
  clear hok k0
  obtain ⟨hk3, hk5, hkl⟩ := hk
  obtain ⟨x, y, rfl⟩ : ∃ x y, kids = [x, y] := by
    match kids, hkl with
    | [x, y], _ => exact ⟨x, y, rfl⟩
  clear hkl
  obtain ⟨b, o, rfl, hbB, hx⟩ := hrow.at_ (i := 0) (by simp)
  obtain ⟨b', o', eq, _, hy⟩ := hrow.at_ (i := 1) (by simp)
  injection eq with eq
  injection eq with eq1 eq2
  subst eq1 eq2
  clear hrow
  simp only [Nat.zero_mul, Nat.add_zero, Nat.one_mul, List.getElem_cons_zero, List.getElem_cons_succ] at hx hy
  obtain ⟨x0, x1, x2, x3⟩ := hx
  obtain ⟨y0, y1, y2, y3⟩ := hy
  have hev := hev.trans ((if_neg k1).trans (if_neg k2))
  have hbl : b < w.heap.size := by omega
  have hbn : ¬ (b = w.heap.size) := by omega
  have hop : opE kind (evs f [x, y]) = opE kind [x.ev f, y.ev f] := rfl
  rw [hop] at hev
  have Hev := Lib.hid hev; clear hev hop
  have e1 : (kind == 1) = false := beq_eq_false_iff_ne.2 k1
  have e2 : (kind == 2) = false := beq_eq_false_iff_ne.2 k2
  clear k1 k2
  have hcx := fun (W : World) (h : Below w.heap.size w W) => H.out.1 x (by simp) W B A c N f ((H.out.2.1 x (by simp)).under (h.mono hB)) (.inl (H.out.2.2.1 hk3 x (by simp))) (by have := h.size; omega) (H.out.2.2.2.1.step h) H.out.2.2.2.2 hn
  have hcy := fun (W : World) (h : Below w.heap.size w W) => H.out.1 y (by simp) W B A c N f ((H.out.2.1 y (by simp)).under (h.mono hB)) (.inl (H.out.2.2.1 hk3 y (by simp))) (by have := h.size; omega) (H.out.2.2.2.1.step h) H.out.2.2.2.2 hn
  have HC := Lib.hid (And.intro hcx hcy); clear hcx hcy
  generalize hxv : x.ev f = xv at *
  generalize hyv : y.ev f = yv at *
  have Hv := Lib.hid (And.intro hxv hyv); clear hxv hyv
  have mk1 : Nat := 0
  have hbl1 : b < w.heap.size + 1 := by omega
  show Calls Try.prog 30 #[.agg #[.int .i64 kind, .int .i64 m, .string name, .slice (some ⟨b, o, none⟩) 2 sc], .slice A N.length c] w _
  go_enter Try.func30, Try.ntmps30
  go_wp2_with fail
  go_region_held3 (fun w' => w'.cell? ⟨w.heap.size, 0, none⟩ = some (.int .i64 kind) ∧ w'.cell? ⟨w.heap.size, 3, none⟩ = some (.slice (some ⟨b, o, none⟩) 2 sc) ∧ w'.cell? ⟨b, o, none⟩ = some (.int .i64 x.kind) ∧ w'.cell? ⟨b, o + 1, none⟩ = some (.int .i64 x.n) ∧ w'.cell? ⟨b, o + 2, none⟩ = some (.string x.name) ∧ w'.cell? ⟨b, o + 3, none⟩ = some (.slice x.sA x.kids.length x.sc) ∧ w'.cell? ⟨b, o + 4, none⟩ = some (.int .i64 y.kind) ∧ w'.cell? ⟨b, o + 4 + 1, none⟩ = some (.int .i64 y.n) ∧ w'.cell? ⟨b, o + 4 + 2, none⟩ = some (.string y.name) ∧ w'.cell? ⟨b, o + 4 + 3, none⟩ = some (.slice y.sA y.kids.length y.sc)) (go_keep) (first
    | (clear mk1; go_at_call 30; (
        refine (show Calls _ _ _ _ _ from HC.out.1 _ (((Below.refl w.heap.size w).alloc (Nat.le_refl _) (.cells #[.int .i64 kind, .int .i64 m, .string name, .slice (some ⟨b, o, none⟩) 2 sc] 31)).drew)).mono ?_
        rintro E w2 ⟨rfl, hb2⟩
        have hc2 := bcell hb2
        have hs2 : w.heap.size < w2.heap.size := by have := hb2.size; simp at this; omega
        have hs2' : b < w2.heap.size := by omega
        rw [Hv.out.1]
        have HB2 := Lib.hid hb2; clear hb2))
    | (go_at_call 30; (
        refine (show Calls _ _ _ _ _ from HC.out.2 _ ((((Below.refl w.heap.size w).alloc (Nat.le_refl _) (.cells #[.int .i64 kind, .int .i64 m, .string name, .slice (some ⟨b, o, none⟩) 2 sc] 31)).drew).trans (HB2.out.mono (by simp)))).mono ?_
        rintro E w3 ⟨rfl, hb3⟩
        have hc3 := bcell hb3
        rw [Hv.out.2]
        have HB3 := Lib.hid hb3; clear hb3)))
  have hk : kind = 3 ∨ kind = 4 ∨ kind = 5 := by omega
  have hfin := ((((Below.refl w.heap.size w).alloc (Nat.le_refl _) (.cells #[.int .i64 kind, .int .i64 m, .string name, .slice (some ⟨b, o, none⟩) 2 sc] 31)).drew).trans (HB2.out.mono (by simp))).trans (HB3.out.mono (by omega))
  have HF := Lib.hid hfin; clear hfin e1 e2
  rcases hk with rfl | rfl | rfl
  all_goals
    go_wp2_with fail
    go_ret
    exact ⟨by rw [Hev.out]; rfl, HF.out⟩
end Go.Proofs.Ytgiceeholamphaa
