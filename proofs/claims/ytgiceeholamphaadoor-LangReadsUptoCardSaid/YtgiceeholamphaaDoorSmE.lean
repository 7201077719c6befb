/- The contract of stepref.SameExpr where the two are the same. No conditions but that what is read is there. -/
import Derived.Test.YtgiceeholamphaaDoorWrB
import Derived.Test.YtgiceeholamphaaDoorApt
import Derived.Deep.RegionHeld3
namespace Go.Proofs.YtgiceeholamphaaDoor
open Go.ChangeShapes Go.WideShapes Go.ChangeAt Go.RowKit Go.Maps

def YesPost (w : World) (E : Ending) (w' : World) : Prop := E = .returned (.bool true) ∧ Below w.heap.size w w'
theorem plainE_get {l1 l2 : List ExprR} (h : plainE l1 = plainE l2) : l1.length = l2.length ∧ ∀ i (h1 : i < l1.length) (h2 : i < l2.length), l1[i].plain = l2[i].plain := by
  rw [plainE_map, plainE_map] at h
  refine ⟨by simpa using congrArg List.length h, fun i h1 h2 => ?_⟩
  have := congrArg (fun l => l[i]?) h
  simpa [h1, h2] using this
set_option maxRecDepth 100000 in
set_option maxHeartbeats 4000000 in
theorem sameE_any : ∀ (n : Nat) (x y : ExprR) (w : World) (B : Nat), x.nodes < n → RdE w B x → RdE w B y → x.plain = y.plain → B ≤ w.heap.size →
    Calls Tryd.prog 31 #[x.val, y.val] w (YesPost w) := by
  intro n
  induction n with
  | zero => intro x y w B h; omega
  | succ n ih =>
    intro x y w B hn hx hy he hB
    obtain ⟨k, m, nm, A1, c1, l1⟩ := x
    obtain ⟨k2, m2, nm2, A2, c2, l2⟩ := y
    simp only [ExprR.plain, ExprR.mk.injEq, true_and] at he
    obtain ⟨rfl, rfl, rfl, hl⟩ := he
    obtain ⟨hlen, hget⟩ := plainE_get hl
    have hfit := hx.fits
    simp only [ExprR.kids] at hfit
    obtain ⟨N, hN⟩ : ∃ N, l1.length = N := ⟨_, rfl⟩
    have hN2 : l2.length = N := by omega
    have hNs : N ≤ 1048576 := by unfold Fits at hfit; omega
    have HX := Lib.hid (And.intro hx (And.intro hy (And.intro ih (And.intro hn (And.intro hget (And.intro hN hN2)))))); clear hx hy ih hn hget hl hfit hlen
    show Calls Tryd.prog 31 #[.agg #[.int .i64 k, .int .i64 m, .string nm, .slice A1 l1.length c1], .agg #[.int .i64 k, .int .i64 m, .string nm, .slice A2 l2.length c2]] w _
    rw [hN, hN2]
    clear hN hN2
    go_enter Tryd.func31, Tryd.ntmps31
    go_wp2_with fail
    go_loopg [5] N (fun gk i wr => ∃ q : Nat, gk + q = N ∧ i = .int .i64 (q : Int) ∧ Below w.heap.size w wr ∧ Blk wr w.heap.size 46 [.int .i64 k, .int .i64 m, .string nm, .slice A1 N c1] ∧ Blk wr (w.heap.size + 1) 46 [.int .i64 k, .int .i64 m, .string nm, .slice A2 N c2])
    case atStart =>
      refine ⟨0, by omega, rfl, ((Below.refl _ _).alloc (Nat.le_refl _) _).alloc (by simp) _, (Blk.newArr w 46 (cs := #[.int .i64 k, .int .i64 m, .string nm, .slice A1 N c1]) (vs := [.int .i64 k, .int .i64 m, .string nm, .slice A1 N c1]) rfl).alloc _, ?_⟩
      have := Blk.newArr (w.alloc (.cells #[.int .i64 k, .int .i64 m, .string nm, .slice A1 N c1] 46)) 46 (cs := #[.int .i64 k, .int .i64 m, .string nm, .slice A2 N c2]) (vs := [.int .i64 k, .int .i64 m, .string nm, .slice A2 N c2]) rfl
      simpa using this
    case round =>
      obtain ⟨q, hgq, rfl, hb, hb1, hb2⟩ := hrel
      have k3 := hb1.cell 3
      have k4 := hb2.cell 3
      simp only [List.getElem?_cons_zero, List.getElem?_cons_succ] at k3 k4
      have hz1 := hb1.lt
      have hz2 := hb2.lt
      by_cases hq : q < N
      · obtain ⟨hx, hy, ih, hn, hget, hN, hN2⟩ := HX.out
        have hq1 : q < l1.length := by omega
        have hq2 : q < l2.length := by omega
        have hkw : ∀ p : Addr, p.block < B → wr.cell? p = w.cell? p := fun p hp => hb.cell (by omega)
        obtain ⟨b1, o1, e1, hbB1, ha1⟩ := hx.row.at_ (i := q) hq1
        obtain ⟨b2, o2, e2, hbB2, ha2⟩ := hy.row.at_ (i := q) hq2
        simp only [ExprR.sA, ExprR.kids] at e1 ha1 e2 ha2
        subst e1 e2
        have ha1 := ha1.keep hbB1 hkw
        have ha2 := ha2.keep hbB2 hkw
        have hc := ih l1[q] l2[q] wr.drew B (by have := ExprR.kid_lt (e := .mk k m nm (some ⟨b1, o1, none⟩) c1 l1) (List.getElem_mem hq1); omega) ((hx.kid (List.getElem_mem hq1)).keep hkw) ((hy.kid (List.getElem_mem hq2)).keep hkw) (hget q hq1 hq2) (by have := hb.size; show B ≤ wr.heap.size; omega)
        have hqi : (0 : Int) ≤ (q : Int) ∧ (q : Int) < (N : Int) := ⟨by omega, by omega⟩
        generalize l1[q] = x at *
        generalize l2[q] = y at *
        obtain ⟨x0, x1, x2, x3⟩ := ha1
        obtain ⟨y0, y1, y2, y3⟩ := ha2
        have hw1 : b1 < wr.heap.size := by have := hb.size; omega
        have hw2 : b2 < wr.heap.size := by have := hb.size; omega
        have HR := Lib.hid (And.intro hb (And.intro hb1 (And.intro hb2 hc))); clear hb hb1 hb2 hc hx hy ih hn hget hkw hN hN2 hq1 hq2
        go_wp2_with fail
        go_region_held3 (fun w' => w'.cell? ⟨w.heap.size, 3, none⟩ = some (.slice (some ⟨b1, o1, none⟩) N c1) ∧ w'.cell? ⟨w.heap.size + 1, 3, none⟩ = some (.slice (some ⟨b2, o2, none⟩) N c2) ∧
          w'.cell? ⟨b1, o1 + q * 4, none⟩ = some (.int .i64 x.kind) ∧ w'.cell? ⟨b1, o1 + q * 4 + 1, none⟩ = some (.int .i64 x.n) ∧ w'.cell? ⟨b1, o1 + q * 4 + 2, none⟩ = some (.string x.name) ∧ w'.cell? ⟨b1, o1 + q * 4 + 3, none⟩ = some (.slice x.sA x.kids.length x.sc) ∧
          w'.cell? ⟨b2, o2 + q * 4, none⟩ = some (.int .i64 y.kind) ∧ w'.cell? ⟨b2, o2 + q * 4 + 1, none⟩ = some (.int .i64 y.n) ∧ w'.cell? ⟨b2, o2 + q * 4 + 2, none⟩ = some (.string y.name) ∧ w'.cell? ⟨b2, o2 + q * 4 + 3, none⟩ = some (.slice y.sA y.kids.length y.sc)) (go_keep) (first
          | (go_at_call 31; (
              refine (show Calls _ _ _ _ _ from HR.out.2.2.2).mono ?_
              rintro E w3 ⟨rfl, hb3⟩
              have hb3' : Below wr.heap.size wr w3 := ((Below.refl wr.heap.size wr).drew).trans hb3
              have hc3 := bcell hb3'
              have HB3 := Lib.hid hb3'; clear hb3 hb3')))
        go_wp2_with fail
        go_roundg (gk - 1)
        case measure => omega
        case rel =>
          obtain ⟨hb, hb1, hb2, _⟩ := HR.out
          exact ⟨q + 1, by omega, by go_num, hb.trans (HB3.out.mono hb.size), hb1.below HB3.out hz1, hb2.below HB3.out hz2⟩
      · obtain rfl : q = N := by omega
        have HR := Lib.hid hb; clear hb
        go_wp2_with fail
        go_ret
        exact ⟨rfl, HR.out⟩
end Go.Proofs.YtgiceeholamphaaDoor
