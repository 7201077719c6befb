/- The contract of stepref.SameVars. No conditions but that what is read is there. -/
import Derived.Test.YtgiceeholamphaaRefW
import Derived.Laws.StructEq
namespace Go.Proofs.Ytgiceeholamphaa
open Go.ChangeShapes Go.WideShapes Go.ChangeAt Go.RowKit Go.Maps

theorem varR_ext {a b : VarR} (h1 : a.name = b.name) (h2 : a.n = b.n) : a = b := by cases a; cases b; simp_all
def SamePost (a b : List VarR) (w : World) (E : Ending) (w' : World) : Prop := ∃ t : Bool, E = .returned (.bool t) ∧ (t = true ↔ a = b) ∧ Below w.heap.size w w'
set_option maxRecDepth 100000 in
set_option maxHeartbeats 2000000 in
theorem sameVars_any (a b : List VarR) (w : World) (A B : Option Addr) (c d : Nat) (hA : RowV w w.heap.size A a) (hB : RowV w w.heap.size B b) (hn : a.length ≤ 8388608) :
    Calls Try.prog 7 #[.slice A a.length c, .slice B b.length d] w (SamePost a b w) := by
  have H := Lib.hid (And.intro hA hB); clear hA hB
  by_cases hl : a.length = b.length
  rotate_left
  · have hne : ¬ a = b := fun e => hl (by rw [e])
    have hl' : ¬ ((a.length : Int) = (b.length : Int)) := by omega
    have Hn := Lib.hid hne; clear hne hl
    go_enter Try.func7, Try.ntmps7
    go_wp2_with fail
    go_ret
    exact ⟨false, rfl, by simpa using Hn.out, Below.refl _ _⟩
  rw [← hl]
  go_enter Try.func7, Try.ntmps7
  go_wp2_with fail
  go_loopg [5] a.length (fun gk i wr => ∃ q : Nat, gk + q = a.length ∧ i = .int .i64 q ∧ (∀ j (h : j < a.length), j < q → a[j] = b[j]'(by omega)) ∧ Below w.heap.size w wr)
  case atStart => exact ⟨0, by omega, rfl, fun j _ h => by omega, Below.refl _ _⟩
  case round =>
    obtain ⟨q, hgq, rfl, hsm, hb⟩ := hrel
    by_cases hq : q < a.length
    · obtain ⟨b1, o1, rfl, hb1, g0, g1⟩ := H.out.1.at_ (i := q) hq
      obtain ⟨b2, o2, rfl, hb2, k0, k1⟩ := H.out.2.at_ (i := q) (by omega)
      have g0 := (hb.cell (p := ⟨b1, o1 + q * 2, none⟩) hb1).trans g0
      have g1 := (hb.cell (p := ⟨b1, o1 + q * 2 + 1, none⟩) hb1).trans g1
      have k0 := (hb.cell (p := ⟨b2, o2 + q * 2, none⟩) hb2).trans k0
      have k1 := (hb.cell (p := ⟨b2, o2 + q * 2 + 1, none⟩) hb2).trans k1
      have hq2 : q < b.length := by omega
      have hqi : (q : Int) < (b.length : Int) := by omega
      obtain ⟨x, hx⟩ : ∃ x, a[q] = x := ⟨_, rfl⟩
      obtain ⟨y, hy⟩ : ∃ y, b[q]'hq2 = y := ⟨_, rfl⟩
      rw [hx] at g0 g1
      rw [hy] at k0 k1
      have hsame := same_name x.name y.name
      obtain ⟨xs, xn⟩ := x
      obtain ⟨ys, yn⟩ := y
      simp only at g0 g1 k0 k1 hsame
      have H5 := Lib.hid (And.intro hsm (And.intro hb (And.intro hx hy))); clear hsm hb hx hy
      by_cases he : xs = ys ∧ xn = yn
      · obtain ⟨rfl, rfl⟩ := he
        clear hsame
        go_wp2_with fail
        go_region_held3 (fun w' => w'.cell? ⟨b1, o1 + q * 2, none⟩ = some (.string xs) ∧ w'.cell? ⟨b1, o1 + q * 2 + 1, none⟩ = some (.int .i64 xn) ∧ w'.cell? ⟨b2, o2 + q * 2, none⟩ = some (.string xs) ∧ w'.cell? ⟨b2, o2 + q * 2 + 1, none⟩ = some (.int .i64 xn)) (go_keep) (fail)
        go_wp2_with fail
        go_roundg (gk - 1)
        case measure => omega
        case rel => exact ⟨q + 1, by omega, by go_num, fun j hj hjq => by
          by_cases e : j = q
          · subst e; rw [H5.out.2.2.1, H5.out.2.2.2]
          · exact H5.out.1 j hj (by omega), H5.out.2.1.drew⟩
      · have hne : ¬ a = b := fun e => he (by
          subst e
          have h1 := H5.out.2.2.1.symm.trans H5.out.2.2.2
          injection h1 with h1 h2
          exact ⟨h1, h2⟩)
        have H6 := Lib.hid hne; clear hne
        by_cases hs : xs = ys
        · subst hs
          have hxn : ¬ (xn = yn) := fun e => he ⟨rfl, e⟩
          clear hsame he
          go_wp2_with fail
          first | (go_region_held3 (fun w' => w'.cell? ⟨b1, o1 + q * 2, none⟩ = some (.string xs) ∧ w'.cell? ⟨b1, o1 + q * 2 + 1, none⟩ = some (.int .i64 xn) ∧ w'.cell? ⟨b2, o2 + q * 2, none⟩ = some (.string xs) ∧ w'.cell? ⟨b2, o2 + q * 2 + 1, none⟩ = some (.int .i64 yn)) (go_keep) (fail)) | fail
          go_wp2_with fail
          go_ret
          exact ⟨false, rfl, by simpa using H6.out, H5.out.2.1.drew⟩
        · rw [decide_eq_false hs] at hsame
          have hsl : ¬ (xs.toList = ys.toList) := fun e => hs (bytes_ext e)
          clear he
          go_wp2_with fail
          first | (go_region_held3 (fun w' => w'.cell? ⟨b1, o1 + q * 2, none⟩ = some (.string xs) ∧ w'.cell? ⟨b1, o1 + q * 2 + 1, none⟩ = some (.int .i64 xn) ∧ w'.cell? ⟨b2, o2 + q * 2, none⟩ = some (.string ys) ∧ w'.cell? ⟨b2, o2 + q * 2 + 1, none⟩ = some (.int .i64 yn)) (go_keep) (fail)) | fail
          go_wp2_with fail
          go_ret
          exact ⟨false, rfl, by simpa using H6.out, H5.out.2.1.drew⟩
    · have hall : a = b := List.ext_getElem hl fun j h1 h2 => hsm j h1 (by omega)
      have H5 := Lib.hid (And.intro hall hb); clear hall hb hsm
      go_wp2_with fail
      go_ret
      exact ⟨true, rfl, by simpa using H5.out.1, H5.out.2⟩
end Go.Proofs.Ytgiceeholamphaa
