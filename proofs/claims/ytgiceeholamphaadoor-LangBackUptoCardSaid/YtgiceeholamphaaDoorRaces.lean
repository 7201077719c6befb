/- The contracts of lang.races, Races. No conditions but that what is read is there, and can be counted. -/
import Derived.Test.YtgiceeholamphaaDoorMeet
import Derived.Test.YtgiceeholamphaaDoorChk
namespace Go.Proofs.YtgiceeholamphaaDoor
open Go.ChangeShapes Go.WideShapes Go.ChangeAt Go.RowKit Go.Maps

/-- Blocks up to q: without races, and apart two by two (in a Par). -/
structure CalmB (kind : Int) (bs : List BlockR) (q : Nat) : Prop where
  each : ∀ t (h : t < bs.length), t < q → CalmL bs[t].l
  apart : kind = 5 → ∀ t (h : t < bs.length) s (h' : s < bs.length), t < q → s < t → aptB bs[t] bs[s]
theorem CalmB.zero (kind : Int) (bs : List BlockR) : CalmB kind bs 0 := ⟨fun _ _ h => by omega, fun _ _ _ _ _ h => by omega⟩
theorem CalmB.step {kind : Int} {bs : List BlockR} {q : Nat} (h : CalmB kind bs q) (hq : q < bs.length) (hc : CalmL bs[q].l) (ha : kind = 5 → ∀ s (h' : s < bs.length), s < q → aptB bs[q] bs[s]) : CalmB kind bs (q + 1) :=
  ⟨fun t ht htq => by
    by_cases e : t = q
    · subst e; exact hc
    · exact h.each t ht (by omega), fun k5 t ht s hs htq hst => by
    by_cases e : t = q
    · subst e; exact ha k5 s hs hst
    · exact h.apart k5 t ht s hs (by omega) hst⟩
theorem CalmB.stat {x : StatR} (h : CalmB x.kind x.blocks x.blocks.length) : CalmS x := by
  refine ⟨x, fun k5 => List.pairwise_iff_getElem.2 fun i j hi hj hij => aptB_symm (h.apart k5 j hj i hi hj hij), fun b hb y hy => ?_⟩
  obtain ⟨i, hi, rfl⟩ := List.getElem_of_mem hb
  exact h.each i hi hi y hy
theorem calmS_apt {x : StatR} (h : CalmS x) (k5 : x.kind = 5) {t s : Nat} (ht : t < x.blocks.length) (hs : s < x.blocks.length) (hst : s < t) : aptB x.blocks[t] x.blocks[s] :=
  aptB_symm (List.pairwise_iff_getElem.1 (h.ok k5) s t hs ht hst)
set_option maxRecDepth 100000 in
set_option maxHeartbeats 4000000 in
theorem lraces_any : ∀ (n : Nat) (k : BlockR) (w : World) (B : Nat), nodesS k.l < n → RdB w B k → AllL k.l → CapL k.l → B ≤ w.heap.size → nodesS k.l ≤ 1048576 →
    Calls Tryd.prog 20 #[k.val] w (MeetPost (¬ CalmL k.l) w) := by
  intro n
  induction n with
  | zero => intro k w B hn; omega
  | succ n ih =>
    intro k w B hN hR hA hC hB hn
    obtain ⟨A, c, L⟩ := k
    simp only [BlockR.l] at hN hA hC hn
    have hrow : RowS w B A L := hR.row
    have heach : ∀ x ∈ L, RdS w B x := hR.each
    have hfit : L.length ≤ 1048576 := hR.fits
    have H := Lib.hid (And.intro ih (And.intro hN (And.intro hrow (And.intro heach (And.intro hA (And.intro hC hn)))))); clear ih hN hrow heach hA hC hn hR
    show Calls Tryd.prog 20 #[.slice A L.length c] w (MeetPost (¬ CalmL L) w)
    go_enter Tryd.func20, Tryd.ntmps20
    go_wp2_with fail
    go_loopg [11] L.length (fun gk i wr => ∃ q : Nat, gk + q = L.length ∧ i = .int .i64 q ∧ (∀ t (h : t < L.length), t < q → CalmS L[t]) ∧ Below w.heap.size w wr)
    case atStart => exact ⟨0, by omega, rfl, fun _ _ h => by omega, Below.refl _ _⟩
    case round =>
      obtain ⟨q, hgq, rfl, hcm, hb⟩ := hrel
      by_cases hq : q < L.length
      · obtain ⟨b, o, rfl, hbB, hx⟩ := H.out.2.2.1.at_ (i := q) hq
        have hkeep : ∀ p : Addr, p.block < B → wr.cell? p = w.cell? p := fun p hp => hb.cell (by omega)
        have hx := hx.keep hbB hkeep
        have hRx := (H.out.2.2.2.1 _ (List.getElem_mem hq)).keep hkeep
        have hAx := H.out.2.2.2.2.1 _ (List.getElem_mem hq)
        have hCx := H.out.2.2.2.2.2.1 _ (List.getElem_mem hq)
        have hnx : (L[q]).nodes ≤ nodesS L := nodesS_le (List.getElem_mem hq)
        have hbad : ¬ CalmS L[q] → ¬ CalmL L := fun h hL => h (hL _ (List.getElem_mem hq))
        have hgood : CalmS L[q] → ∀ t (h : t < L.length), t < q + 1 → CalmS L[t] := fun h t ht htq => by
          by_cases e : t = q
          · subst e; exact h
          · exact hcm t ht (by omega)
        have hN := H.out.2.1
        have hn := H.out.2.2.2.2.2.2
        obtain ⟨x, hxe⟩ : ∃ x, L[q] = x := ⟨_, rfl⟩
        rw [hxe] at hx hRx hAx hCx hnx hbad hgood
        have hfx : x.blocks.length ≤ 1048576 := hRx.fits
        have hnodes := x.nodes_eq
        have hcap := hCx.cap
        have hstat := @CalmB.stat x
        have hapt := @calmS_apt x
        have hblk := fun (b : BlockR) (hb : b ∈ x.blocks) => hRx.block hb
        have hAb := fun (b : BlockR) (hb : b ∈ x.blocks) y hy => hAx.in_ (b := b) hb (y := y) hy
        have hCb := fun (b : BlockR) (hb : b ∈ x.blocks) => hCx.in_ (b := b) hb
        have hcalm := fun (h : CalmS x) (b : BlockR) (hb : b ∈ x.blocks) => h.in_ hb
        obtain ⟨kind, name, ⟨ek, en, ename, eA, ec, ekids⟩, xn, xA, xc, blocks⟩ := x
        obtain ⟨x0, x1, x2, x3, x4, x5, x6, x7⟩ := hx
        simp only [StatR.kind, StatR.name, StatR.e, StatR.n, StatR.bA, StatR.bc, StatR.blocks, ExprR.kind, ExprR.n, ExprR.name, ExprR.sA, ExprR.sc, ExprR.kids] at x0 x1 x2 x3 x4 x5 x6 x7 hfx hnodes hcap hstat hapt hblk hAb hCb hcalm
        have hzb := hb.size
        have HE := Lib.hid (And.intro hb (And.intro hRx (And.intro hbad (And.intro hgood (And.intro hstat (And.intro hapt (And.intro hblk (And.intro hAb (And.intro hCb (And.intro hcalm (And.intro hnodes hnx))))))))))); clear hb hRx hbad hgood hstat hapt hblk hAb hCb hcalm hnodes hnx hAx hCx hcm hkeep hxe hN hn
        go_upto_region 4 with (fail)
        generalize hW : wr.alloc (.cells #[.int .i64 kind, .string name, .int .i64 ek, .int .i64 en, .string ename, .slice eA ekids.length ec, .int .i64 xn, .slice xA blocks.length xc] 49) = W
        obtain ⟨hbw, hzW, hxw⟩ := box_facts (c := [.int .i64 kind, .string name, .int .i64 ek, .int .i64 en, .string ename, .slice eA ekids.length ec, .int .i64 xn, .slice xA blocks.length xc]) hW
        clear hW x0 x1 x2 x3 x4 x5 x6 x7
        have y0 := hxw.cell 0
        have y7 := hxw.cell 7
        simp at y0 y7
        have H1 := Lib.hid hbw; clear hbw hxw
        obtain ⟨wo, hwo⟩ : ∃ wo : World, wo = wr := ⟨_, rfl⟩
        obtain ⟨go, hgo⟩ : ∃ go, go = gk := ⟨_, rfl⟩
        subst hwo
        have HG := Lib.hid hgo; clear hgo
        go_wp2_with fail
        go_loopg [18] blocks.length (fun gk i w6 => ∃ j : Nat, gk + j = blocks.length ∧ i = .int .i64 j ∧ CalmB kind blocks j ∧ Below W.heap.size W w6)
        case atStart => exact ⟨0, by omega, rfl, CalmB.zero _ _, Below.refl _ _⟩
        case round =>
          obtain ⟨j, hgj, rfl, hcb, hb6⟩ := hrel
          have v0 := (hb6.cell (p := ⟨wo.heap.size, 0, none⟩) (by omega : wo.heap.size < W.heap.size)).trans y0
          have v7 := (hb6.cell (p := ⟨wo.heap.size, 7, none⟩) (by omega : wo.heap.size < W.heap.size)).trans y7
          clear y0 y7
          have hz6 := hb6.size
          by_cases hj : j < blocks.length
          · have hmem := List.getElem_mem hj
            obtain ⟨bb, oo, e0, hbB2, hx2⟩ := HE.out.2.1.row.at_ (i := j) hj
            simp only [StatR.bA, StatR.blocks] at e0 hx2
            subst e0
            have hkw : ∀ p : Addr, p.block < B → wr.cell? p = wo.cell? p := fun p hp => (hb6.cell (by omega)).trans (H1.out.cell (by omega))
            have hx2 := (hkw ⟨bb, oo + j, none⟩ hbB2).trans hx2
            have hRb := (HE.out.2.2.2.2.2.2.1 _ hmem).keep hkw
            have hAb := HE.out.2.2.2.2.2.2.2.1 _ hmem
            have hCb := HE.out.2.2.2.2.2.2.2.2.1 _ hmem
            have hnb := nodesB_le hmem
            rw [BlockR.nodes_eq] at hnb
            have hN := H.out.2.1
            have hn := H.out.2.2.2.2.2.2
            have hnd := HE.out.2.2.2.2.2.2.2.2.2.2.1
            have hnx := HE.out.2.2.2.2.2.2.2.2.2.2.2
            have hcall := H.out.1 blocks[j] wr B (by omega) hRb (fun y hy => hAb y hy) hCb (by omega) (by omega)
            have hbj : ¬ CalmL blocks[j].l → ¬ CalmL L := fun h => HE.out.2.2.1 fun hx => h (HE.out.2.2.2.2.2.2.2.2.2.1 hx _ hmem)
            obtain ⟨bj, hbje⟩ : ∃ b, blocks[j] = b := ⟨_, rfl⟩
            rw [hbje] at hx2 hcall hbj hRb hAb hnb
            have hofj := fun (W' : World) (hb : Below wr.heap.size wr W') => of_any bj W' B (hRb.under (hb.mono (by omega))) (fun y hy => hAb y hy) (by have := hb.size; omega) (by omega)
            obtain ⟨jA, jc, jl⟩ := bj
            simp only [BlockR.l, BlockR.val, BlockR.A, BlockR.c] at hx2 hcall hbj hofj
            have hji : (j : Int) < (blocks.length : Int) := by omega
            have hjc : (j : Int) ≤ (xc : Int) := by omega
            have hjc2 : j ≤ xc := by omega
            by_cases hcj : CalmL jl
            rotate_left
            · have H5 := Lib.hid (And.intro hb6 (And.intro hcall (And.intro hcj hbj))); clear hb6 hcall hcj hbj hRb hAb hCb hkw hofj hcb
              go_wp2_with (go_at_call 20; (
                refine (show Calls _ _ _ _ _ from H5.out.2.1).mono ?_
                rintro E w7 ⟨t, rfl, ht, hb7⟩
                obtain rfl : t = true := ht.2 H5.out.2.2.1
                have H6 := Lib.hid hb7; clear hb7 ht))
              go_ret
              exact ⟨true, rfl, ⟨fun _ => H5.out.2.2.2 H5.out.2.2.1, fun _ => rfl⟩, HE.out.1.trans ((H1.out.mono hzb).trans ((H5.out.1.mono (by omega)).trans (H6.out.mono (by omega))))⟩
            have H5 := Lib.hid (And.intro hb6 (And.intro hcall (And.intro hcj (And.intro hcb (And.intro hofj (And.intro hkw hbje)))))); clear hb6 hcall hcj hbj hRb hAb hCb hkw hofj hcb hbje
            have hbl1 : wo.heap.size < wr.heap.size := by omega
            have hbl2 : bb < wr.heap.size := by omega
            go_upto_region 9 with (go_at_call 20; (
              refine (show Calls _ _ _ _ _ from H5.out.2.1).mono ?_
              rintro E w7 ⟨t, rfl, ht, hb7⟩
              obtain rfl : t = false := by
                cases t with
                | false => rfl
                | true => exact absurd H5.out.2.2.1 (ht.1 rfl)
              have hz7 := hb7.size
              have v0' := (hb7.cell (p := ⟨wo.heap.size, 0, none⟩) hbl1).trans v0
              have v7' := (hb7.cell (p := ⟨wo.heap.size, 7, none⟩) hbl1).trans v7
              have H6 := Lib.hid hb7; clear hb7 ht))
            obtain ⟨wm, hwm⟩ : ∃ wm : World, wm = wr := ⟨_, rfl⟩
            obtain ⟨gm, hgm⟩ : ∃ gm, gm = gk := ⟨_, rfl⟩
            subst hwm
            have HG2 := Lib.hid hgm; clear hgm
            clear v0 v7
            go_wp2_with fail
            go_loopg [30] j (fun gk i w8 => ∃ r : Nat, gk + r = j ∧ i = .int .i64 r ∧ (kind = 5 → ∀ s (h : s < blocks.length), s < r → aptB (.mk jA jc jl) blocks[s]) ∧ Below w7.heap.size w7 w8)
            case atStart => exact ⟨0, by omega, rfl, fun _ _ _ h => by omega, Below.refl _ _⟩
            case round =>
              obtain ⟨r, hgr, rfl, hap, hb8⟩ := hrel
              have u0' := (hb8.cell (p := ⟨wo.heap.size, 0, none⟩) (by omega : wo.heap.size < w7.heap.size)).trans v0'
              clear v0' v7'
              have hz8 := hb8.size
              by_cases hr : r < j
              · have hrb : r < blocks.length := by omega
                have hmem := List.getElem_mem hrb
                obtain ⟨bb', oo', e0, hbB3, hx3⟩ := HE.out.2.1.row.at_ (i := r) hrb
                simp only [StatR.bA, StatR.blocks, Option.some.injEq, Addr.mk.injEq, and_true] at e0 hx3
                obtain ⟨rfl, rfl⟩ := e0
                have hkw : ∀ p : Addr, p.block < B → wr.cell? p = wo.cell? p := fun p hp => (hb8.cell (by omega)).trans ((H6.out.cell (by omega)).trans (H5.out.2.2.2.2.2.1 p hp))
                have hx3 := (hkw ⟨bb, oo + r, none⟩ hbB3).trans hx3
                have hRc := (HE.out.2.2.2.2.2.2.1 _ hmem).keep hkw
                have hAc := HE.out.2.2.2.2.2.2.2.1 _ hmem
                have hnb := nodesB_le hmem
                rw [BlockR.nodes_eq] at hnb
                have hn := H.out.2.2.2.2.2.2
                have hnd := HE.out.2.2.2.2.2.2.2.2.2.2.1
                have hnx := HE.out.2.2.2.2.2.2.2.2.2.2.2
                have hri : (r : Int) < (j : Int) := by omega
                have hbr : kind = 5 → ¬ aptB (.mk jA jc jl) blocks[r] → ¬ CalmL L := fun k5 h => HE.out.2.2.1 fun hx => h (by rw [← H5.out.2.2.2.2.2.2]; exact HE.out.2.2.2.2.2.1 hx k5 (by omega) hrb hr)
                obtain ⟨br, hbre⟩ : ∃ b, blocks[r] = b := ⟨_, rfl⟩
                have hofc := fun (W' : World) (hb : Below wr.heap.size wr W') => of_any br W' B (by rw [← hbre]; exact hRc.under (hb.mono (by omega))) (by rw [← hbre]; exact fun y hy => hAc y hy) (by have := hb.size; omega) (by rw [← hbre]; omega)
                rw [hbre] at hx3 hbr
                obtain ⟨cA, cc, cl⟩ := br
                simp only [BlockR.l, BlockR.val, BlockR.A, BlockR.c] at hx3 hofc
                by_cases k5 : kind = 5
                · subst k5
                  have hbW : Below wm.heap.size wm wr := H6.out.trans (hb8.mono hz7)
                  have hofj := H5.out.2.2.2.2.1 wr hbW
                  by_cases ha : aptB (.mk jA jc jl) (.mk cA cc cl)
                  · have H7 := Lib.hid (And.intro hb8 (And.intro hap (And.intro ha (And.intro hofc (And.intro hofj hbre))))); clear hb8 hap ha hofc hofj hbre hRc hAc hkw hbr
                    have mk1 : Nat := 0
                    go_wp2_with (first
                      | (clear mk1; go_at_call 38; (
                          refine (show Calls _ _ _ _ _ from H7.out.2.2.2.2.1).mono ?_
                          rintro E wa ⟨p1, p2, p3, rfl, _, _, _, _, _, _, hp1, hp2, hp3, hba⟩
                          have HA := Lib.hid (And.intro (NmAt.mk ⟨_, hp1⟩ ⟨_, hp2⟩ ⟨_, hp3⟩ : NmAt wa p1 p2 p3 jl) hba); clear hp1 hp2 hp3 hba))
                      | (go_at_call 38; (
                          refine (show Calls _ _ _ _ _ from H7.out.2.2.2.1 wa HA.out.2).mono ?_
                          rintro E wb ⟨q1, q2, q3, rfl, _, _, _, _, _, _, hq1, hq2, hq3, hbb⟩
                          have HB := Lib.hid (And.intro (NmAt.mk ⟨_, hq1⟩ ⟨_, hq2⟩ ⟨_, hq3⟩ : NmAt wb q1 q2 q3 cl) hbb); clear hq1 hq2 hq3 hbb))
                      | (go_at_call 37; (
                          refine (show Calls _ _ _ _ _ from apart_any wb p1 p2 p3 q1 q2 q3 jl cl (HA.out.1.below HB.out.2) HB.out.1).mono ?_
                          rintro E wc ⟨t, rfl, ht, hbc⟩
                          obtain rfl : t = true := ht.2 H7.out.2.2.1
                          have HC := Lib.hid hbc; clear hbc ht)))
                    go_roundg (gk - 1)
                    case measure => omega
                    case rel =>
                      have h1 := HA.out.2.size
                      have h2 := HB.out.2.size
                      exact ⟨r + 1, by omega, by go_num, fun k5 s hs hsr => by
                        by_cases e : s = r
                        · subst e; rw [H7.out.2.2.2.2.2]; exact H7.out.2.2.1
                        · exact H7.out.2.1 k5 s hs (by omega), H7.out.1.trans ((HA.out.2.mono (by omega)).trans ((HB.out.2.mono (by omega)).trans (HC.out.mono (by omega))))⟩
                  · have H7 := Lib.hid (And.intro hb8 (And.intro (hbr rfl) (And.intro ha (And.intro hofc hofj)))); clear hb8 hap ha hofc hofj hbre hRc hAc hkw hbr
                    have mk1 : Nat := 0
                    go_wp2_with (first
                      | (clear mk1; go_at_call 38; (
                          refine (show Calls _ _ _ _ _ from H7.out.2.2.2.2).mono ?_
                          rintro E wa ⟨p1, p2, p3, rfl, _, _, _, _, _, _, hp1, hp2, hp3, hba⟩
                          have HA := Lib.hid (And.intro (NmAt.mk ⟨_, hp1⟩ ⟨_, hp2⟩ ⟨_, hp3⟩ : NmAt wa p1 p2 p3 jl) hba); clear hp1 hp2 hp3 hba))
                      | (go_at_call 38; (
                          refine (show Calls _ _ _ _ _ from H7.out.2.2.2.1 wa HA.out.2).mono ?_
                          rintro E wb ⟨q1, q2, q3, rfl, _, _, _, _, _, _, hq1, hq2, hq3, hbb⟩
                          have HB := Lib.hid (And.intro (NmAt.mk ⟨_, hq1⟩ ⟨_, hq2⟩ ⟨_, hq3⟩ : NmAt wb q1 q2 q3 cl) hbb); clear hq1 hq2 hq3 hbb))
                      | (go_at_call 37; (
                          refine (show Calls _ _ _ _ _ from apart_any wb p1 p2 p3 q1 q2 q3 jl cl (HA.out.1.below HB.out.2) HB.out.1).mono ?_
                          rintro E wc ⟨t, rfl, ht, hbc⟩
                          obtain rfl : t = false := by
                            cases t with
                            | false => rfl
                            | true => exact absurd (ht.1 rfl) H7.out.2.2.1
                          have HC := Lib.hid hbc; clear hbc ht)))
                    go_ret
                    have h1 := HA.out.2.size
                    have h2 := HB.out.2.size
                    exact ⟨true, rfl, ⟨fun _ => H7.out.2.1 H7.out.2.2.1, fun _ => rfl⟩, HE.out.1.trans ((H1.out.mono hzb).trans ((H5.out.1.mono (by omega)).trans ((H6.out.mono (by omega)).trans ((H7.out.1.mono (by omega)).trans ((HA.out.2.mono (by omega)).trans ((HB.out.2.mono (by omega)).trans (HC.out.mono (by omega))))))))⟩
                · have e5 : (kind == 5) = false := beq_eq_false_iff_ne.2 k5
                  have H7 := Lib.hid (And.intro hb8 (And.intro hap k5)); clear hb8 hap hofc hbre hRc hAc hkw hbr k5
                  go_wp2_with fail
                  go_roundg (gk - 1)
                  case measure => omega
                  case rel => exact ⟨r + 1, by omega, by go_num, fun k5 => absurd k5 H7.out.2.2, H7.out.1⟩
              · obtain rfl : r = j := by omega
                have hst := CalmB.step (kind := kind) H5.out.2.2.2.1 hj (by rw [H5.out.2.2.2.2.2.2]; exact H5.out.2.2.1) (fun k5 s hs hsj => by rw [H5.out.2.2.2.2.2.2]; exact hap k5 s hs hsj)
                have H7 := Lib.hid (And.intro hb8 hst); clear hb8 hst hap
                go_wp2_with fail
                go_roundg (gm - 1)
                case measure => have := HG2.out; omega
                case rel =>
                  have := HG2.out
                  exact ⟨r + 1, by omega, by go_num, H7.out.2, H5.out.1.trans ((H6.out.mono (by omega)).trans (H7.out.1.mono (by omega)))⟩
          · obtain rfl : j = blocks.length := by omega
            have hgd := HE.out.2.2.2.1 (HE.out.2.2.2.2.1 hcb)
            have H5 := Lib.hid (And.intro hgd hb6); clear hgd hb6 hcb
            go_wp2_with fail
            go_roundg (go - 1)
            case measure => have := HG.out; omega
            case rel =>
              have := HG.out
              exact ⟨q + 1, by omega, by go_num, H5.out.1, HE.out.1.trans ((H1.out.mono hzb).trans (H5.out.2.mono (by omega)))⟩
      · have hall : CalmL L := fun x hx => by
          obtain ⟨i, hi, rfl⟩ := List.getElem_of_mem hx
          exact hcm i hi (by omega)
        have H5 := Lib.hid (And.intro hall hb); clear hall hb hcm
        go_wp2_with fail
        go_ret
        exact ⟨false, rfl, ⟨fun h => (by cases h), fun h => absurd H5.out.1 h⟩, H5.out.2⟩
theorem wrong_allR {l : List StatR} (h : wrong l = 0) : AllL l := by
  unfold wrong at h
  split at h
  · assumption
  · cases h
def RacesPost (L : List StatR) (w : World) (E : Ending) (w' : World) : Prop := Below w.heap.size w w' ∧
  ((wrong L ≠ 0 ∧ E = .returned (.int .i64 (wrong L))) ∨ (wrong L = 0 ∧ ¬ CalmL L ∧ E = .returned (.int .i64 8)) ∨ (wrong L = 0 ∧ CalmL L ∧ E = .returned (.int .i64 0)))
set_option maxRecDepth 100000 in
set_option maxHeartbeats 2000000 in
theorem lRaces_any (k : BlockR) (w : World) (B : Nat) (hR : RdB w B k) (hC : CapL k.l) (hB : B ≤ w.heap.size) (hn : nodesS k.l ≤ 1048576) :
    Calls Tryd.prog 8 #[k.val] w (RacesPost k.l w) := by
  obtain ⟨A, c, L⟩ := k
  simp only [BlockR.l] at hC hn
  have HX := Lib.hid (And.intro hR (And.intro hC hn)); clear hR hC hn
  show Calls Tryd.prog 8 #[.slice A L.length c] w (RacesPost L w)
  by_cases hw : wrong L = 0
  rotate_left
  · have hw2 : ¬ ((wrong L : Int) = 0) := by omega
    have Hw := Lib.hid hw; clear hw
    generalize hx : wrong L = x at *
    have Hx := Lib.hid hx; clear hx
    go_enter Tryd.func8, Tryd.ntmps8
    go_wp2_with (go_at_call 14; (
      refine (check_any (.mk A c L) _ B HX.out.1 hB HX.out.2.2).mono ?_
      rintro E w2 ⟨rfl, hb2⟩
      simp only [BlockR.l]
      rw [Hx.out]
      have H2 := Lib.hid hb2; clear hb2))
    go_ret
    exact ⟨H2.out, .inl ⟨by rw [Hx.out]; exact Hw.out, by rw [Hx.out]; rfl⟩⟩
  have hA := wrong_allR hw
  have Hw := Lib.hid (And.intro hw hA); clear hw hA
  by_cases hc : CalmL L
  · have Hc := Lib.hid hc; clear hc
    go_enter Tryd.func8, Tryd.ntmps8
    go_wp2_with (first
      | (go_at_call 14; (
         refine (check_any (.mk A c L) _ B HX.out.1 hB HX.out.2.2).mono ?_
         rintro E w2 ⟨rfl, hb2⟩
         simp only [BlockR.l]
         rw [Hw.out.1]
         have H2 := Lib.hid hb2; clear hb2))
      | (go_at_call 20; (
         refine (show Calls _ _ _ _ _ from lraces_any (nodesS L + 1) (.mk A c L) _ B (Nat.lt_succ_self _) (HX.out.1.under (H2.out.mono hB)) Hw.out.2 HX.out.2.1 (by have := H2.out.size; omega) HX.out.2.2).mono ?_
         rintro E w3 ⟨t, rfl, ht, hb3⟩
         obtain rfl : t = false := by
           cases t with
           | false => rfl
           | true => exact absurd Hc.out (ht.1 rfl)
         have H3 := Lib.hid (H2.out.trans (hb3.mono H2.out.size)); clear hb3 ht)))
    go_ret
    exact ⟨H3.out, .inr (.inr ⟨Hw.out.1, Hc.out, rfl⟩)⟩
  · have Hc := Lib.hid hc; clear hc
    go_enter Tryd.func8, Tryd.ntmps8
    go_wp2_with (first
      | (go_at_call 14; (
         refine (check_any (.mk A c L) _ B HX.out.1 hB HX.out.2.2).mono ?_
         rintro E w2 ⟨rfl, hb2⟩
         simp only [BlockR.l]
         rw [Hw.out.1]
         have H2 := Lib.hid hb2; clear hb2))
      | (go_at_call 20; (
         refine (show Calls _ _ _ _ _ from lraces_any (nodesS L + 1) (.mk A c L) _ B (Nat.lt_succ_self _) (HX.out.1.under (H2.out.mono hB)) Hw.out.2 HX.out.2.1 (by have := H2.out.size; omega) HX.out.2.2).mono ?_
         rintro E w3 ⟨t, rfl, ht, hb3⟩
         obtain rfl : t = true := ht.2 Hc.out
         have H3 := Lib.hid (H2.out.trans (hb3.mono H2.out.size)); clear hb3 ht)))
    go_ret
    exact ⟨H3.out, .inr (.inl ⟨Hw.out.1, Hc.out, rfl⟩)⟩
end Go.Proofs.YtgiceeholamphaaDoor
