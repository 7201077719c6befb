/- The contract of stepref.SameExpr where the two are the same. No conditions but that what is read is there. -/
import Derived.Test.YtgiceeholamphaaDoorWrB
import Derived.Test.YtgiceeholamphaaDoorApt
import Derived.Deep.RegionHeld3
import Derived.Test.YtgiceeholamphaaDoorRdV
import Derived.Deep.DeepCutAuto
import Derived.Deep.CutBlock
namespace Go.Proofs.YtgiceeholamphaaDoor
open Go.ChangeShapes Go.WideShapes Go.ChangeAt Go.RowKit Go.Maps

def YesPost (w : World) (E : Ending) (w' : World) : Prop := E = .returned (.bool true) ∧ Below w.heap.size w w'
theorem plainE_get {l1 l2 : List ExprR} (h : plainE l1 = plainE l2) : l1.length = l2.length ∧ ∀ i (h1 : i < l1.length) (h2 : i < l2.length), l1[i].plain = l2[i].plain := by
  rw [plainE_map, plainE_map] at h
  refine ⟨by simpa using congrArg List.length h, fun i h1 h2 => ?_⟩
  have := congrArg (fun l => l[i]?) h
  simpa [h1, h2] using this
set_option maxRecDepth 100000 in
set_option maxHeartbeats 4000000 in
theorem sameE_any : ∀ (n : Nat) (x y : ExprR) (w : World) (B : Nat), x.nodes < n → RdE w B x → RdE w B y → x.plain = y.plain → B ≤ w.heap.size →
    Calls Tryd.prog 31 #[x.val, y.val] w (YesPost w) := by
  intro n
  induction n with
  | zero => intro x y w B h; omega
  | succ n ih =>
    intro x y w B hn hx hy he hB
    obtain ⟨k, m, nm, A1, c1, l1⟩ := x
    obtain ⟨k2, m2, nm2, A2, c2, l2⟩ := y
    simp only [ExprR.plain, ExprR.mk.injEq, true_and] at he
    obtain ⟨rfl, rfl, rfl, hl⟩ := he
    obtain ⟨hlen, hget⟩ := plainE_get hl
    have hfit := hx.fits
    simp only [ExprR.kids] at hfit
    obtain ⟨N, hN⟩ : ∃ N, l1.length = N := ⟨_, rfl⟩
    have hN2 : l2.length = N := by omega
    have hNs : N ≤ 1048576 := by unfold Fits at hfit; omega
    have HX := Lib.hid (And.intro hx (And.intro hy (And.intro ih (And.intro hn (And.intro hget (And.intro hN hN2)))))); clear hx hy ih hn hget hl hfit hlen
    show Calls Tryd.prog 31 #[.agg #[.int .i64 k, .int .i64 m, .string nm, .slice A1 l1.length c1], .agg #[.int .i64 k, .int .i64 m, .string nm, .slice A2 l2.length c2]] w _
    rw [hN, hN2]
    clear hN hN2
    go_enter Tryd.func31, Tryd.ntmps31
    go_wp2_with fail
    go_loopg [5] N (fun gk i wr => ∃ q : Nat, gk + q = N ∧ i = .int .i64 (q : Int) ∧ Below w.heap.size w wr ∧ Blk wr w.heap.size 46 [.int .i64 k, .int .i64 m, .string nm, .slice A1 N c1] ∧ Blk wr (w.heap.size + 1) 46 [.int .i64 k, .int .i64 m, .string nm, .slice A2 N c2])
    case atStart =>
      refine ⟨0, by omega, rfl, ((Below.refl _ _).alloc (Nat.le_refl _) _).alloc (by simp) _, (Blk.newArr w 46 (cs := #[.int .i64 k, .int .i64 m, .string nm, .slice A1 N c1]) (vs := [.int .i64 k, .int .i64 m, .string nm, .slice A1 N c1]) rfl).alloc _, ?_⟩
      have := Blk.newArr (w.alloc (.cells #[.int .i64 k, .int .i64 m, .string nm, .slice A1 N c1] 46)) 46 (cs := #[.int .i64 k, .int .i64 m, .string nm, .slice A2 N c2]) (vs := [.int .i64 k, .int .i64 m, .string nm, .slice A2 N c2]) rfl
      simpa using this
    case round =>
      obtain ⟨q, hgq, rfl, hb, hb1, hb2⟩ := hrel
      have k3 := hb1.cell 3
      have k4 := hb2.cell 3
      simp only [List.getElem?_cons_zero, List.getElem?_cons_succ] at k3 k4
      have hz1 := hb1.lt
      have hz2 := hb2.lt
      by_cases hq : q < N
      · obtain ⟨hx, hy, ih, hn, hget, hN, hN2⟩ := HX.out
        have hq1 : q < l1.length := by omega
        have hq2 : q < l2.length := by omega
        have hkw : ∀ p : Addr, p.block < B → wr.cell? p = w.cell? p := fun p hp => hb.cell (by omega)
        obtain ⟨b1, o1, e1, hbB1, ha1⟩ := hx.row.at_ (i := q) hq1
        obtain ⟨b2, o2, e2, hbB2, ha2⟩ := hy.row.at_ (i := q) hq2
        simp only [ExprR.sA, ExprR.kids] at e1 ha1 e2 ha2
        subst e1 e2
        have ha1 := ha1.keep hbB1 hkw
        have ha2 := ha2.keep hbB2 hkw
        have hc := ih l1[q] l2[q] wr.drew B (by have := ExprR.kid_lt (e := .mk k m nm (some ⟨b1, o1, none⟩) c1 l1) (List.getElem_mem hq1); omega) ((hx.kid (List.getElem_mem hq1)).keep hkw) ((hy.kid (List.getElem_mem hq2)).keep hkw) (hget q hq1 hq2) (by have := hb.size; show B ≤ wr.heap.size; omega)
        have hqi : (0 : Int) ≤ (q : Int) ∧ (q : Int) < (N : Int) := ⟨by omega, by omega⟩
        generalize l1[q] = x at *
        generalize l2[q] = y at *
        obtain ⟨x0, x1, x2, x3⟩ := ha1
        obtain ⟨y0, y1, y2, y3⟩ := ha2
        have hw1 : b1 < wr.heap.size := by have := hb.size; omega
        have hw2 : b2 < wr.heap.size := by have := hb.size; omega
        have HR := Lib.hid (And.intro hb (And.intro hb1 (And.intro hb2 hc))); clear hb hb1 hb2 hc hx hy ih hn hget hkw hN hN2 hq1 hq2
        go_wp2_with fail
        go_region_held3 (fun w' => w'.cell? ⟨w.heap.size, 3, none⟩ = some (.slice (some ⟨b1, o1, none⟩) N c1) ∧ w'.cell? ⟨w.heap.size + 1, 3, none⟩ = some (.slice (some ⟨b2, o2, none⟩) N c2) ∧
          w'.cell? ⟨b1, o1 + q * 4, none⟩ = some (.int .i64 x.kind) ∧ w'.cell? ⟨b1, o1 + q * 4 + 1, none⟩ = some (.int .i64 x.n) ∧ w'.cell? ⟨b1, o1 + q * 4 + 2, none⟩ = some (.string x.name) ∧ w'.cell? ⟨b1, o1 + q * 4 + 3, none⟩ = some (.slice x.sA x.kids.length x.sc) ∧
          w'.cell? ⟨b2, o2 + q * 4, none⟩ = some (.int .i64 y.kind) ∧ w'.cell? ⟨b2, o2 + q * 4 + 1, none⟩ = some (.int .i64 y.n) ∧ w'.cell? ⟨b2, o2 + q * 4 + 2, none⟩ = some (.string y.name) ∧ w'.cell? ⟨b2, o2 + q * 4 + 3, none⟩ = some (.slice y.sA y.kids.length y.sc)) (go_keep) (first
          | (go_at_call 31; (
              refine (show Calls _ _ _ _ _ from HR.out.2.2.2).mono ?_
              rintro E w3 ⟨rfl, hb3⟩
              have hb3' : Below wr.heap.size wr w3 := ((Below.refl wr.heap.size wr).drew).trans hb3
              have hc3 := bcell hb3'
              have HB3 := Lib.hid hb3'; clear hb3 hb3')))
        go_wp2_with fail
        go_roundg (gk - 1)
        case measure => omega
        case rel =>
          obtain ⟨hb, hb1, hb2, _⟩ := HR.out
          exact ⟨q + 1, by omega, by go_num, hb.trans (HB3.out.mono hb.size), hb1.below HB3.out hz1, hb2.below HB3.out hz2⟩
      · obtain rfl : q = N := by omega
        have HR := Lib.hid hb; clear hb
        go_wp2_with fail
        go_ret
        exact ⟨rfl, HR.out⟩
end Go.Proofs.YtgiceeholamphaaDoor

/- The contract of stepref.SameStats where the two are the same. No conditions but that what is read is there. -/
namespace Go.Proofs.YtgiceeholamphaaDoor
open Go.ChangeShapes Go.WideShapes Go.ChangeAt Go.RowKit Go.Maps

theorem plainS_get {l1 l2 : List StatR} (h : plainS l1 = plainS l2) : l1.length = l2.length ∧ ∀ i (h1 : i < l1.length) (h2 : i < l2.length), l1[i].plain = l2[i].plain := by
  rw [plainS_map, plainS_map] at h
  refine ⟨by simpa using congrArg List.length h, fun i h1 h2 => ?_⟩
  have := congrArg (fun l => l[i]?) h
  simpa [h1, h2] using this
theorem plainB_get {l1 l2 : List BlockR} (h : plainB l1 = plainB l2) : l1.length = l2.length ∧ ∀ i (h1 : i < l1.length) (h2 : i < l2.length), plainS l1[i].l = plainS l2[i].l := by
  rw [plainB_map, plainB_map] at h
  refine ⟨by simpa using congrArg List.length h, fun i h1 h2 => ?_⟩
  have := congrArg (fun l => l[i]?) h
  simp [h1, h2] at this
  rw [← BlockR.plain_l, ← BlockR.plain_l, this]
theorem twin_boxes (w : World) (a b : List Value) (t : TypeId) : Below w.heap.size w ((w.alloc (.cells a.toArray t)).alloc (.cells b.toArray t)).drew ∧ Blk ((w.alloc (.cells a.toArray t)).alloc (.cells b.toArray t)).drew w.heap.size t a ∧ Blk ((w.alloc (.cells a.toArray t)).alloc (.cells b.toArray t)).drew (w.heap.size + 1) t b := by
  refine ⟨(((Below.refl _ _).alloc (Nat.le_refl _) _).alloc (by simp) _).drew, ((Blk.new w t a).alloc _).drew, ?_⟩
  have := Blk.new (w.alloc (.cells a.toArray t)) t b
  rw [show (w.alloc (.cells a.toArray t)).heap.size = w.heap.size + 1 by simp] at this
  exact this.drew
set_option maxRecDepth 100000 in
set_option maxHeartbeats 8000000 in
theorem sameS_any : ∀ (n : Nat) (k1 k2 : BlockR) (w : World) (B : Nat), nodesS k1.l < n → RdB w B k1 → RdB w B k2 → plainS k1.l = plainS k2.l → B ≤ w.heap.size →
    Calls Tryd.prog 13 #[k1.val, k2.val] w (YesPost w) := by
  intro n
  induction n with
  | zero => intro x y w B h; omega
  | succ n ih =>
    intro k1 k2 w B hn h1 h2 he hB
    obtain ⟨A1, c1, L1⟩ := k1
    obtain ⟨A2, c2, L2⟩ := k2
    simp only [BlockR.l] at hn he
    obtain ⟨hlen, hget⟩ := plainS_get he
    have hf := h1.fits
    simp only [BlockR.l] at hf
    obtain ⟨N, hN⟩ : ∃ N, L1.length = N := ⟨_, rfl⟩
    have hN2 : L2.length = N := by omega
    have hNs : N ≤ 1048576 := by unfold Fits at hf; omega
    have HX := Lib.hid (And.intro h1 (And.intro h2 (And.intro ih (And.intro hn (And.intro hget (And.intro hN hN2)))))); clear h1 h2 ih hn hget he hf hlen
    show Calls Tryd.prog 13 #[.slice A1 L1.length c1, .slice A2 L2.length c2] w _
    rw [hN, hN2]
    clear hN hN2
    go_enter Tryd.func13, Tryd.ntmps13
    go_wp2_with fail
    go_loopg [5, 6, 7, 8] N (fun gk i _ _ _ wr => ∃ q : Nat, gk + q = N ∧ i = .int .i64 (q : Int) ∧ Below w.heap.size w wr)
    case atStart => exact ⟨0, by omega, rfl, Below.refl _ _⟩
    case round =>
      obtain ⟨q, hgq, rfl, hb⟩ := hrel
      by_cases hq : q < N
      · obtain ⟨h1, h2, ih, hn, hget, hN, hN2⟩ := HX.out
        have hq1 : q < L1.length := by omega
        have hq2 : q < L2.length := by omega
        have hkw : ∀ p : Addr, p.block < B → wr.cell? p = w.cell? p := fun p hp => hb.cell (by omega)
        obtain ⟨b1, o1, e1, hbB1, ha1⟩ := h1.row.at_ (i := q) hq1
        obtain ⟨b2, o2, e2, hbB2, ha2⟩ := h2.row.at_ (i := q) hq2
        simp only [BlockR.A, BlockR.l] at e1 ha1 e2 ha2
        subst e1 e2
        have ha1 := ha1.keep hbB1 hkw
        have ha2 := ha2.keep hbB2 hkw
        have hR1 := (h1.each L1[q] (List.getElem_mem hq1)).keep hkw
        have hR2 := (h2.each L2[q] (List.getElem_mem hq2)).keep hkw
        have hpe := hget q hq1 hq2
        have hnx : (L1[q]).nodes ≤ nodesS L1 := nodesS_le (List.getElem_mem hq1)
        have hqi : (0 : Int) ≤ (q : Int) ∧ (q : Int) < (N : Int) := ⟨by omega, by omega⟩
        have hBr : B ≤ wr.heap.size := by have := hb.size; omega
        have hw1 : b1 < wr.heap.size := by omega
        have hw2 : b2 < wr.heap.size := by omega
        generalize L1[q] = x at *
        generalize L2[q] = y at *
        have HR := Lib.hid (And.intro hb (And.intro hR1 (And.intro hR2 (And.intro hpe (And.intro ih (And.intro hn (And.intro hnx hgq))))))); clear hb hR1 hR2 hpe ih hn hnx h1 h2 hget hN hN2 hq1 hq2 hkw hgq
        obtain ⟨x0, x1, x2, x3, x4, x5, x6, x7⟩ := ha1
        obtain ⟨y0, y1, y2, y3, y4, y5, y6, y7⟩ := ha2
        go_upto_region 6 with (fail)
        go_cut [6, 7] (fun s6 s7 wc => ∃ p6 p7 : Nat, s6 = .pointer (some ⟨p6, 0, none⟩) ∧ s7 = .pointer (some ⟨p7, 0, none⟩) ∧ wr.heap.size ≤ p6 ∧ wr.heap.size ≤ p7 ∧ Below wr.heap.size wr wc ∧ Blk wc p6 49 x.cells ∧ Blk wc p7 49 y.cells)
        case first => as_aux_lemma =>
          go_region_held3 (fun w' => w'.cell? ⟨b1, o1 + q * 8, none⟩ = some (.int .i64 x.kind) ∧ w'.cell? ⟨b1, o1 + q * 8 + 1, none⟩ = some (.string x.name) ∧ w'.cell? ⟨b1, o1 + q * 8 + 2, none⟩ = some (.int .i64 x.e.kind) ∧ w'.cell? ⟨b1, o1 + q * 8 + 3, none⟩ = some (.int .i64 x.e.n) ∧ w'.cell? ⟨b1, o1 + q * 8 + 4, none⟩ = some (.string x.e.name) ∧ w'.cell? ⟨b1, o1 + q * 8 + 5, none⟩ = some (.slice x.e.sA x.e.kids.length x.e.sc) ∧ w'.cell? ⟨b1, o1 + q * 8 + 6, none⟩ = some (.int .i64 x.n) ∧ w'.cell? ⟨b1, o1 + q * 8 + 7, none⟩ = some (.slice x.bA x.blocks.length x.bc) ∧
            w'.cell? ⟨b2, o2 + q * 8, none⟩ = some (.int .i64 y.kind) ∧ w'.cell? ⟨b2, o2 + q * 8 + 1, none⟩ = some (.string y.name) ∧ w'.cell? ⟨b2, o2 + q * 8 + 2, none⟩ = some (.int .i64 y.e.kind) ∧ w'.cell? ⟨b2, o2 + q * 8 + 3, none⟩ = some (.int .i64 y.e.n) ∧ w'.cell? ⟨b2, o2 + q * 8 + 4, none⟩ = some (.string y.e.name) ∧ w'.cell? ⟨b2, o2 + q * 8 + 5, none⟩ = some (.slice y.e.sA y.e.kids.length y.e.sc) ∧ w'.cell? ⟨b2, o2 + q * 8 + 6, none⟩ = some (.int .i64 y.n) ∧ w'.cell? ⟨b2, o2 + q * 8 + 7, none⟩ = some (.slice y.bA y.blocks.length y.bc)) (go_keep) (fail)
          · go_wp2_with fail
            go_meet
            case rel =>
              obtain ⟨t1, t2, t3⟩ := twin_boxes wr x.cells y.cells 49
              exact ⟨_, _, rfl, rfl, Nat.le_refl _, Nat.le_succ _, t1, t2, t3⟩
          · go_wp2_with fail
            go_meet
            case rel =>
              obtain ⟨t1, t2, t3⟩ := twin_boxes wr y.cells x.cells 49
              exact ⟨_, _, rfl, rfl, Nat.le_succ _, Nat.le_refl _, t1, t3, t2⟩
        case rest =>
          obtain ⟨p6, p7, rfl, rfl, hp6, hp7, hbc, hB6, hB7⟩ := hcut
          clear x0 x1 x2 x3 x4 x5 x6 x7 y0 y1 y2 y3 y4 y5 y6 y7
          obtain ⟨hb, hR1, hR2, hpe, ih, hn, hnx, hgq⟩ := HR.out
          obtain ⟨k, nm, ex, m, xA, xc, xl⟩ := x
          obtain ⟨k2, nm2, ey, m2, yA, yc, yl⟩ := y
          simp only [StatR.plain, StatR.mk.injEq, true_and] at hpe
          obtain ⟨rfl, rfl, hee, rfl, hbl⟩ := hpe
          obtain ⟨hml, hbg⟩ := plainB_get hbl
          have hxf := hR1.fits
          simp only [StatR.blocks] at hxf
          obtain ⟨M, hM⟩ : ∃ M, xl.length = M := ⟨_, rfl⟩
          have hM2 : yl.length = M := by omega
          have hMs : M ≤ 1048576 := by unfold Fits at hxf; omega
          have hkc : ∀ p : Addr, p.block < B → wc.cell? p = wr.cell? p := fun p hp => hbc.cell (by omega)
          have hR1 := hR1.keep hkc
          have hR2 := hR2.keep hkc
          have hBc : B ≤ wc.heap.size := by have := hbc.size; omega
          have hce := sameE_any _ ex ey wc B (Nat.lt_succ_self _) hR1.e hR2.e hee hBc
          have hnb : 1 + ex.nodes + nodesB xl ≤ nodesS L1 := by have := hnx; rw [StatR.nodes] at this; exact this
          simp only [StatR.cells, StatR.kind, StatR.name, StatR.e, StatR.n, StatR.bA, StatR.bc, StatR.blocks] at hB6 hB7
          rw [hM] at hB6
          rw [hM2] at hB7
          obtain ⟨⟨x0, x1, x2, x3, x4, x5, x6, x7⟩, _⟩ := box8 hB6
          obtain ⟨⟨y0, y1, y2, y3, y4, y5, y6, y7⟩, _⟩ := box8 hB7
          have hl6 := hB6.lt
          have hl7 := hB7.lt
          have hbw := hb.trans (hbc.mono hb.size)
          have HS := Lib.hid (And.intro hbw (And.intro hR1 (And.intro hR2 (And.intro ih (And.intro hn (And.intro hnb (And.intro hbg (And.intro hM (And.intro hM2 (And.intro hB6 (And.intro hB7 (And.intro hce hgq)))))))))))); clear hbw hR1 hR2 ih hn hnb hbg hM hM2 hB6 hB7 hce hgq hb hbc hkc hnx hml hbl hee hxf HR
          go_upto_block 2 with (go_at_call 31; (
            refine (show Calls _ _ _ _ _ from HS.out.2.2.2.2.2.2.2.2.2.2.2.1).mono ?_
            rintro E w8 ⟨rfl, hb8⟩
            have v7 := (HS.out.2.2.2.2.2.2.2.2.2.1.below hb8 hl6).cell 7
            have u7 := (HS.out.2.2.2.2.2.2.2.2.2.2.1.below hb8 hl7).cell 7
            simp only [List.getElem?_cons_zero, List.getElem?_cons_succ] at v7 u7
            have H8 := Lib.hid hb8; clear hb8))
          obtain ⟨wo, hwo⟩ : ∃ wo : World, wo = wc := ⟨_, rfl⟩
          obtain ⟨go, hgo⟩ : ∃ go, go = gk := ⟨_, rfl⟩
          subst hwo
          have HG := Lib.hid hgo; clear hgo
          clear x0 x1 x2 x3 x4 x5 x6 x7 y0 y1 y2 y3 y4 y5 y6 y7
          go_wp2_with fail
          go_loopg [8] M (fun gk i wr => ∃ j : Nat, gk + j = M ∧ i = .int .i64 (j : Int) ∧ Below wo.heap.size wo wr)
          case atStart => exact ⟨0, by omega, rfl, H8.out⟩
          case round =>
            obtain ⟨j, hgj, rfl, hbj⟩ := hrel
            obtain ⟨hbw, hR1, hR2, ih, hn, hnb, hbg, hM, hM2, hB6, hB7, _, hgq⟩ := HS.out
            have hC6 := hB6.below hbj hl6
            have hC7 := hB7.below hbj hl7
            have x7 := hC6.cell 7
            have y7 := hC7.cell 7
            simp only [List.getElem?_cons_zero, List.getElem?_cons_succ] at x7 y7
            have hm6 := hC6.lt
            have hm7 := hC7.lt
            by_cases hj : j < M
            · have hj1 : j < xl.length := by omega
              have hj2 : j < yl.length := by omega
              have hkj : ∀ p : Addr, p.block < B → wr.cell? p = wo.cell? p := fun p hp => hbj.cell (by omega)
              obtain ⟨b3, o3, e3, hbB3, ha3⟩ := hR1.row.at_ (i := j) hj1
              obtain ⟨b4, o4, e4, hbB4, ha4⟩ := hR2.row.at_ (i := j) hj2
              simp only [StatR.bA, StatR.blocks] at e3 ha3 e4 ha4
              subst e3 e4
              have ha3 := (hkj ⟨b3, o3 + j, none⟩ hbB3).trans ha3
              have ha4 := (hkj ⟨b4, o4 + j, none⟩ hbB4).trans ha4
              have hK1 := (hR1.block (b := xl[j]) (List.getElem_mem hj1)).keep (w' := wr.drew) hkj
              have hK2 := (hR2.block (b := yl[j]) (List.getElem_mem hj2)).keep (w' := wr.drew) hkj
              have hlt3 : nodesS (xl[j]).l < n := by
                have := nodesB_le (List.getElem_mem hj1)
                rw [BlockR.nodes_eq] at this
                have := nodesE_pos ex
                omega
              have hcc := ih xl[j] yl[j] wr.drew B hlt3 hK1 hK2 (hbg j hj1 hj2) (by have := hbj.size; show B ≤ wr.heap.size; omega)
              have hji : (0 : Int) ≤ (j : Int) ∧ (j : Int) < (M : Int) := ⟨by omega, by omega⟩
              have hw3 : b3 < wr.heap.size := by have := hbj.size; omega
              have hw4 : b4 < wr.heap.size := by have := hbj.size; omega
              clear hlt3 hK1 hK2
              generalize xl[j] = kx at *
              generalize yl[j] = ky at *
              simp only [BlockR.val] at ha3 ha4
              have HR := Lib.hid (And.intro hbj hcc); clear hbj hcc hbw hR1 hR2 ih hn hnb hbg hM hM2 hB6 hB7 hgq hkj hj1 hj2 hC6 hC7
              go_wp2_with fail
              go_region_held3 (fun w' => w'.cell? ⟨p6, 7, none⟩ = some (.slice (some ⟨b3, o3, none⟩) M xc) ∧ w'.cell? ⟨p7, 7, none⟩ = some (.slice (some ⟨b4, o4, none⟩) M yc) ∧
                w'.cell? ⟨b3, o3 + j, none⟩ = some (.slice kx.A kx.l.length kx.c) ∧ w'.cell? ⟨b4, o4 + j, none⟩ = some (.slice ky.A ky.l.length ky.c)) (go_keep) (first
                | (go_at_call 13; (
                    refine (show Calls _ _ _ _ _ from HR.out.2).mono ?_
                    rintro E w9 ⟨rfl, hb9⟩
                    have hb9' : Below wr.heap.size wr w9 := ((Below.refl wr.heap.size wr).drew).trans hb9
                    have hc9 := bcell hb9'
                    have HB9 := Lib.hid hb9'; clear hb9 hb9')))
              go_wp2_with fail
              go_roundg (gk - 1)
              case measure => omega
              case rel => exact ⟨j + 1, by omega, by go_num, HR.out.1.trans (HB9.out.mono HR.out.1.size)⟩
            · obtain rfl : j = M := by omega
              have HR := Lib.hid (And.intro hbw (And.intro hbj hgq)); clear hbj hbw hR1 hR2 ih hn hnb hbg hM hM2 hB6 hB7 hgq hC6 hC7
              go_wp2_with fail
              go_roundg (go - 1)
              case measure => have := HG.out; have := HR.out.2.2; omega
              case rel =>
                have hgo := HG.out
                have hgq := HR.out.2.2
                exact ⟨q + 1, by omega, by go_num, HR.out.1.trans (HR.out.2.1.mono HR.out.1.size)⟩
      · obtain rfl : q = N := by omega
        have HR := Lib.hid hb; clear hb
        go_wp2_with fail
        go_ret
        exact ⟨rfl, HR.out⟩
end Go.Proofs.YtgiceeholamphaaDoor
