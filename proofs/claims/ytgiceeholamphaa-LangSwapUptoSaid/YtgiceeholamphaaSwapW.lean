/- The contract of stepkeep.swapped. No conditions but that what is read is there, is a program, and can be counted. -/
import Derived.Test.YtgiceeholamphaaSwapD
import Derived.BigRegion
import Derived.Deep.RegionLaw
namespace Go.Proofs.Ytgiceeholamphaa
open Go.ChangeShapes Go.WideShapes Go.ChangeAt Go.RowKit Go.Maps

theorem Blk.grown' {W w' : World} {v : Value} {o : Obj} {g : Nat} {t : TypeId} {vs : List Value} (h : Blk W g t vs) (hg : (W.alloc o).grownBy w' v.ownBlock) (hv : v.ownBlock ≠ some g) : Blk w' g t vs := (h.alloc o).grown hg (fun e => hv e.symm)
set_option maxRecDepth 100000 in
set_option maxHeartbeats 4000000 in
theorem swapped_any : ∀ (n : Nat) (k : BlockR) (w : World) (B : Nat) (t : Int), nodesS k.l < n → RdB w B k → AllL k.l → B ≤ w.heap.size → nodesS k.l ≤ 1048576 → (-9223372036854775808 ≤ t ∧ t ≤ 9223372036854775807) →
    Calls Try.prog 9 #[k.val, .int .i64 t] w (SwPost k.l t B w) := by
  intro n
  induction n with
  | zero => intro k w B t hn; omega
  | succ n ih =>
    intro k w B t hN hR hA hB hn ht
    obtain ⟨iB, hiB, hV⟩ := Option.map_eq_some_iff.1 info_block
    simp only [Prod.mk.injEq] at hV
    have HiB := Lib.hid (And.intro hiB (And.intro hV.1 (And.intro hV.2.1 hV.2.2))); clear hiB hV
    obtain ⟨iS, hiS, hV⟩ := Option.map_eq_some_iff.1 info_stat
    simp only [Prod.mk.injEq] at hV
    have HiS := Lib.hid (And.intro hiS (And.intro hV.1 (And.intro hV.2.1 hV.2.2))); clear hiS hV
    obtain ⟨A, c, L⟩ := k
    simp only [BlockR.l] at hN hA hn
    have hrow : RowS w B A L := hR.row
    have heach : ∀ x ∈ L, RdS w B x := hR.each
    have hfit : L.length ≤ 1048576 := hR.fits
    have H := Lib.hid (And.intro ih (And.intro hN (And.intro hrow (And.intro heach (And.intro hA (And.intro hn ht)))))); clear ih hN hrow heach hA hn hR ht
    show Calls Try.prog 9 #[.slice A L.length c, .int .i64 t] w (SwPost L t B w)
    go_enter Try.func9, Try.ntmps9
    go_wp2_with fail
    go_loopg [5, 11] L.length (fun gk v5 i wr => ∃ (q : Nat) (done : List StatR), gk + q = L.length ∧ i = .int .i64 q ∧ done.length = q ∧ DoneS w.heap.size B wr v5 t L done ∧ Below w.heap.size w wr)
    case atStart => exact ⟨0, [], by omega, rfl, rfl, ⟨World.ownsRow_nil .., fun i _ h => by simp at h, fun y hy => by cases hy⟩, Below.refl _ _⟩
    case round =>
      obtain ⟨q, done, hgq, rfl, hdl, hD, hb⟩ := hrel
      by_cases hq : q < L.length
      · obtain ⟨b, o, rfl, hbB, hx⟩ := H.out.2.2.1.at_ (i := q) hq
        have hkeep : ∀ p : Addr, p.block < B → wr.cell? p = w.cell? p := fun p hp => hb.cell (by omega)
        have hx := hx.keep hbB hkeep
        have hRx := (H.out.2.2.2.1 _ (List.getElem_mem hq)).keep hkeep
        have hAx := H.out.2.2.2.2.1 _ (List.getElem_mem hq)
        have hnx : (L[q]).nodes ≤ nodesS L := nodesS_le (List.getElem_mem hq)
        obtain ⟨x, hxe⟩ : ∃ x, L[q] = x := ⟨_, rfl⟩
        rw [hxe] at hx hRx hAx hnx
        have hfx : x.blocks.length ≤ 1048576 := hRx.fits
        have hnodes := x.nodes_eq
        have h5 : x.kind = 5 → 1 ≤ x.blocks.length := fun h => by rcases hAx.ok with h' | h' | h' | h' <;> omega
        have hblk := fun (b : BlockR) (hb : b ∈ x.blocks) => hRx.block hb
        have hAb := fun (b : BlockR) (hb : b ∈ x.blocks) y hy => hAx.in_ (b := b) hb (y := y) hy
        have hof := fun A7 c7 bs bs' => @SwS.of_done t x bs bs' A7 c7
        have hst := fun lo lo0 W vb v5 bs' A7 c7 => @DoneB.stat lo lo0 B W vb v5 x bs' A7 c7
        have hE := hRx.e
        obtain ⟨kind, name, ⟨ek, en, ename, eA, ec, ekids⟩, xn, xA, xc, blocks⟩ := x
        obtain ⟨x0, x1, x2, x3, x4, x5, x6, x7⟩ := hx
        simp only [StatR.kind, StatR.name, StatR.e, StatR.n, StatR.bA, StatR.bc, StatR.blocks, ExprR.kind, ExprR.n, ExprR.name, ExprR.sA, ExprR.sc, ExprR.kids] at x0 x1 x2 x3 x4 x5 x6 x7 hfx hnodes h5 hblk hAb hof hst hE
        have hzb := hb.size
        have HE := Lib.hid (And.intro hb (And.intro hRx (And.intro hblk (And.intro hAb (And.intro hof (And.intro hst (And.intro hE (And.intro hnodes (And.intro hnx (And.intro hxe hD)))))))))); clear hb hRx hblk hAb hof hst hE hnodes hnx hAx hkeep hxe hD
        go_upto_region 7 with (fail)
        generalize hW : wr.alloc (.cells #[.int .i64 kind, .string name, .int .i64 ek, .int .i64 en, .string ename, .slice eA ekids.length ec, .int .i64 xn, .slice none 0 0] 34) = W
        obtain ⟨hbw, hzW, hxw⟩ := box_facts (c := [.int .i64 kind, .string name, .int .i64 ek, .int .i64 en, .string ename, .slice eA ekids.length ec, .int .i64 xn, .slice none 0 0]) hW
        clear hW
        have x7W := (hbw.cell (p := ⟨b, o + q * 8 + 7, none⟩) (by omega : b < wr.heap.size)).trans x7
        clear x0 x1 x2 x3 x4 x5 x6 x7
        obtain ⟨wo, hwo⟩ : ∃ wo : World, wo = wr := ⟨_, rfl⟩
        obtain ⟨go, hgo⟩ : ∃ go, go = gk := ⟨_, rfl⟩
        subst hwo
        have HG := Lib.hid hgo; clear hgo
        have H1 := Lib.hid (And.intro hbw hxw); clear hbw hxw
        have hbl : b < W.heap.size := by omega
        go_wp2_with fail
        go_loopg [25] blocks.length (fun gk i w6 => ∃ (j : Nat) (vb : Value) (bs : List BlockR), gk + j = blocks.length ∧ i = .int .i64 j ∧ bs.length = j ∧ DoneB W.heap.size B w6 vb t blocks bs ∧
          Blk w6 wo.heap.size 34 [.int .i64 kind, .string name, .int .i64 ek, .int .i64 en, .string ename, .slice eA ekids.length ec, .int .i64 xn, vb] ∧ Below wo.heap.size wo w6 ∧ W.heap.size ≤ w6.heap.size)
        case atStart => exact ⟨0, .slice none 0 0, [], by omega, rfl, rfl, ⟨World.ownsRow_nil .., fun i _ h => by simp at h, fun y hy => by cases hy⟩, H1.out.2, H1.out.1, Nat.le_refl _⟩
        case round =>
          obtain ⟨j, vb, bs, hgj, rfl, hbl, hDB, hX, hb6, hz6⟩ := hrel
          by_cases hj : j < blocks.length
          · have hmem := List.getElem_mem hj
            obtain ⟨bb, oo, e0, hbB2, hx2⟩ := HE.out.2.1.row.at_ (i := j) hj
            simp only [StatR.bA, StatR.blocks] at e0 hx2
            subst e0
            have hkw : ∀ p : Addr, p.block < B → wr.cell? p = wo.cell? p := fun p hp => hb6.cell (by omega)
            have hx2 := (hkw ⟨bb, oo + j, none⟩ hbB2).trans hx2
            have hRb := (HE.out.2.2.1 _ hmem).keep (w' := wr.drew) hkw
            have hAb := HE.out.2.2.2.1 _ hmem
            have hnb := nodesB_le hmem
            rw [BlockR.nodes_eq] at hnb
            have hN := H.out.2.1
            have hn := H.out.2.2.2.2.2.1
            have hnd := HE.out.2.2.2.2.2.2.2.1
            have hnx := HE.out.2.2.2.2.2.2.2.2.1
            have x7' := (hb6.cell (p := ⟨b, o + q * 8 + 7, none⟩) (by omega : b < wo.heap.size)).trans ((H1.out.1.cell (p := ⟨b, o + q * 8 + 7, none⟩) (by omega : b < wo.heap.size)).symm.trans x7W)
            have y7 := hX.cell 7
            simp at y7
            have hXl := hX.lt
            have hcall := H.out.1 blocks[j] wr.drew B t (by omega) hRb (fun y hy => hAb y hy) (by show B ≤ wr.heap.size; omega) (by omega) H.out.2.2.2.2.2.2
            have hji : (j : Int) < (blocks.length : Int) := by omega
            obtain ⟨bj, hbje⟩ : ∃ b, blocks[j] = b := ⟨_, rfl⟩
            rw [hbje] at hx2 hcall
            obtain ⟨jA, jc, jl⟩ := bj
            simp only [BlockR.l, BlockR.val, BlockR.A, BlockR.c] at hx2 hcall
            have H5 := Lib.hid (And.intro hDB (And.intro hX (And.intro hb6 (And.intro hcall hbje)))); clear hDB hX hb6 hcall hRb hAb hkw hbje hnb hN hn hnd hnx x7W
            go_upto_region 10 with (fail)
            go_region_law (first
              | (refine step_append_src rfl (.tmp 29) (.tmp 40) _ rfl W.heap.size 22 iB _ 1 24 Try.underlying32 HiB.out.1 HiB.out.2.1 HiB.out.2.2.1 HiB.out.2.2.2 rfl (by decide) vb bs.length (valsB bs) rfl (H6.out.1.own.alloc _) (some ⟨w7.heap.size, 0, none⟩) 1 1 (valsB [.mk mA mc ml]) rfl rfl (fun _ => ⟨w7.heap.size, 0, rfl, fun j u hu => ((Blk.new w7 _ (valsB [.mk mA mc ml])).cellAdd j).trans hu⟩) (valsB_one _) (by unfold maxLen; omega) (by omega) (by simp; omega) (fun v8 w8 hown8 hg8 hl8 => ?_)
                 obtain ⟨A8, d8, rfl, _, _⟩ := own_form hown8
                 have y8 : w8.cell? ⟨wo.heap.size, 7, none⟩ = some vb := (push_keep (p := ⟨wo.heap.size, 7, none⟩) hg8 (show wo.heap.size < w7.heap.size by omega) (fun e => absurd (H6.out.1.own.lt _ e).1 (show ¬ W.heap.size ≤ wo.heap.size by omega))).trans y7'
                 have f8 : w8.frozen? ⟨wo.heap.size, 7, none⟩ = false := (H6.out.2.2.1.grown' hg8 (fun e => absurd (H6.out.1.own.lt _ e).1 (show ¬ W.heap.size ≤ wo.heap.size by omega))).frozen 7
                 have H8 := Lib.hid (And.intro hown8 (And.intro hg8 hl8)); clear hown8 hg8 hl8)
              | (go_simp; go_at_call 9; (
                 refine (show Calls _ _ _ _ _ from H5.out.2.2.2.1).mono ?_
                 rintro E w7 ⟨mA, mc, ml, rfl, hM, hMc, hMl, hb7⟩
                 have hb7 : Below wr.heap.size wr w7 := (Below.refl wr.heap.size wr).drew.trans hb7
                 have hM : RdBP w7 B (NewS wr.heap.size w7 []) (.mk mA mc ml) := hM
                 have y7' := (hb7.cell (p := ⟨wo.heap.size, 7, none⟩) hXl).trans y7
                 have hz7 := hb7.size
                 have y7a : ∀ o : Obj, (w7.alloc o).cell? ⟨wo.heap.size, 7, none⟩ = some vb := fun o => (World.cell?_alloc_lt w7 o (a := ⟨wo.heap.size, 7, none⟩) (show wo.heap.size < w7.heap.size by omega)).trans y7'
                 have H6 := Lib.hid (And.intro (H5.out.1.below (by omega) hz6 hb7) (And.intro hM (And.intro (H5.out.2.1.below hb7 hXl) (And.intro hMc (And.intro hMl hb7))))); clear hM hMc hMl hb7)))
            all_goals
              go_wp2_with fail
              go_roundg (gk - 1)
              case measure => omega
              case rel =>
                have hpush := DoneB.push (M := .mk mA mc ml) H6.out.1 (by omega) hz6 hz7 (fun k e => (H5.out.1.own.lt k e).2) H6.out.2.1 H6.out.2.2.2.1 (fun h => by
                  have e : blocks[bs.length] = blocks[j] := by simp only [hbl]
                  rw [e, H5.out.2.2.2.2]
                  exact H6.out.2.2.2.2.1) H8.out.1 H8.out.2.1 H8.out.2.2
                rw [show bs.length + 1 = j + 1 by omega] at hpush
                have hg := H8.out.2.1.size
                simp only [World.size_alloc] at hg
                refine ⟨j + 1, .slice A8 (j + 1) d8, bs ++ [.mk mA mc ml], by omega, by go_num, by simp [hbl], ?_, ?_, ?_, ?_⟩
                · exact hpush.setCell (p := ⟨wo.heap.size, 7, none⟩) (show B ≤ wo.heap.size by omega) (show wo.heap.size < W.heap.size by omega) _
                · exact (H6.out.2.2.1.grown' H8.out.2.1 (fun e => absurd (H6.out.1.own.lt _ e).1 (show ¬ W.heap.size ≤ wo.heap.size by omega))).set_ 7 _
                · exact (((H5.out.2.2.1.trans (H6.out.2.2.2.2.2.mono (by omega))).alloc (by omega) _).grown H8.out.2.1 (by simp; omega) (fun k e => by have := (H6.out.1.own.lt k e).1; omega)).setCell (Nat.le_refl _) _
                · simp [World.setCell]; omega
          · obtain rfl : j = blocks.length := by omega
            obtain ⟨A7, c7, rfl, hcap7, hrow7⟩ := own_rowB hDB.own
            have HBL := Lib.hid hbl
            have hbn : bs.length ≤ 1048576 := by omega
            clear hbl
            have hX7 := hX
            have y0 := hX.cell 0
            have y1 := hX.cell 1
            have y2 := hX.cell 2
            have y3 := hX.cell 3
            have y4 := hX.cell 4
            have y5 := hX.cell 5
            have y6 := hX.cell 6
            have y7 := hX.cell 7
            have f7 := hX.frozen 7
            simp at y0 y1 y2 y3 y4 y5 y6 y7
            have hXl := hX.lt
            have hDS := HE.out.2.2.2.2.2.2.2.2.2.2.below hB hzb hb6
            have hu5 : ∀ k, u5.ownBlock = some k → k < wo.heap.size := fun k e => (HE.out.2.2.2.2.2.2.2.2.2.2.own.lt k e).2
            have hlk : ∀ y, SwS t (.mk kind name (.mk ek en ename eA ec ekids) xn xA xc blocks) y → ∀ h : done.length < L.length, SwS t L[done.length] y := fun y hy h => by
              have e : L[done.length] = L[q] := by simp only [hdl]
              rw [e, HE.out.2.2.2.2.2.2.2.2.2.1]
              exact hy
            have hEr : RdE wr B (.mk ek en ename eA ec ekids) := HE.out.2.2.2.2.2.2.1.keep fun p hp => hb6.cell (by omega)
            by_cases k5 : kind = 5
            · subst k5
              have h1 := h5 rfl
              have hne : bs ≠ [] := fun e => by have hbl := HBL.out; rw [e] at hbl; simp at hbl; omega
              obtain ⟨b7, rfl, hob7, hb7l, hb7s, hcell7⟩ := hrow7 hne
              have htn := turned_any wr b7 0 c7 bs t (fun _ => ⟨b7, 0, rfl, hb7s, hcell7⟩) (List.length_pos_iff.2 hne) hcap7 hbn H.out.2.2.2.2.2.2
              have H6 := Lib.hid (And.intro hDB (And.intro hX7 (And.intro hb6 (And.intro hDS (And.intro hu5 (And.intro hlk (And.intro hEr htn))))))); clear hDB hX7 hX hb6 hDS hu5 hlk hEr htn hcell7 hrow7
              go_upto_region 14 with (go_at_call 17; (
                refine (show Calls _ _ _ _ _ from H6.out.2.2.2.2.2.2.2).mono ?_
                rintro E w10 ⟨v10, rfl, hown10, hb10⟩
                obtain ⟨A10, c10, rfl, hcap10, hrow10⟩ := own_rowB hown10
                have hX10 := H6.out.2.1.below hb10 hXl
                have f10 := hX10.frozen 7
                have z7 := hX10.cell 7
                simp at z7
                have hz10 := hb10.size
                have HT := Lib.hid (And.intro hown10 (And.intro hb10 (And.intro hX10 hrow10))); clear hown10 hb10 hX10 hrow10))
              generalize hW11 : w10.setCell ⟨wo.heap.size, 7, none⟩ (.slice A10 (turnL t bs).length c10) = W11
              have hb11 : Below wo.heap.size wo W11 := by
                rw [← hW11]
                exact (H6.out.2.2.1.trans (HT.out.2.1.mono (by omega))).setCell (Nat.le_refl _) _
              have hX11 : Blk W11 wo.heap.size 34 [.int .i64 5, .string name, .int .i64 ek, .int .i64 en, .string ename, .slice eA ekids.length ec, .int .i64 xn, .slice A10 (turnL t bs).length c10] := by
                rw [← hW11]
                exact HT.out.2.2.1.set_ 7 _
              have hz11 : W11.heap.size = w10.heap.size := by rw [← hW11]; simp [World.setCell]
              have hD11 : DoneB W.heap.size B W11 (.slice (some ⟨b7, 0, none⟩) bs.length c7) t blocks bs := by
                rw [← hW11]
                exact (H6.out.1.below (by omega) (by omega) HT.out.2.1).setCell (show B ≤ wo.heap.size by omega) (show wo.heap.size < W.heap.size by omega) _
              have hc11 : ∀ p : Addr, p.block ≠ wo.heap.size → W11.cell? p = w10.cell? p := fun p hp => by
                rw [← hW11]
                exact World.cell?_setCell_other _ _ _ _ (fun e => hp (by rw [← e]))
              have hDS11 := HE.out.2.2.2.2.2.2.2.2.2.2.below hB hzb hb11
              have hEr11 : RdE W11 B (.mk ek en ename eA ec ekids) := HE.out.2.2.2.2.2.2.1.keep fun p hp => hb11.cell (by omega)
              have hu5 := H6.out.2.2.2.2.1
              have hy := HE.out.2.2.2.2.2.1 W.heap.size w.heap.size W11 (.slice (some ⟨b7, 0, none⟩) bs.length c7) u5 (turnL t bs) A10 c10 hEr11 hfx (by rw [turnL_length]; exact HBL.out) hcap10 (fun hne => by
                obtain ⟨b10, e, _, h1, h2, h3⟩ := HT.out.2.2.2 hne
                exact ⟨b10, 0, e, ⟨by omega, by omega, fun hm => by have := hu5 b10 (mem_ownL.1 hm); omega⟩, fun i hi => (hc11 ⟨b10, 0 + i, none⟩ (show b10 ≠ wo.heap.size by omega)).trans (h3 i hi)⟩) (fun k hk => hD11.read k ((turnL_perm t bs).mem_iff.1 hk)) (by omega) (fun k e => by have := hu5 k e; omega)
              have hsw := HE.out.2.2.2.2.1 A10 c10 bs (turnL t bs) HBL.out (if_pos (by trivial)).symm hD11.like
              have y0 := hX11.cell 0
              have y1 := hX11.cell 1
              have y2 := hX11.cell 2
              have y3 := hX11.cell 3
              have y4 := hX11.cell 4
              have y5 := hX11.cell 5
              have y6 := hX11.cell 6
              have y7 := hX11.cell 7
              simp at y0 y1 y2 y3 y4 y5 y6 y7
              have hz6' : W.heap.size ≤ W11.heap.size := by omega
              have HY := Lib.hid (And.intro hDS11 (And.intro hy (And.intro (H6.out.2.2.2.2.2.1 _ hsw) hb11))); clear hDS11 hy hb11 hX11 hD11 hc11 hEr11 hu5 hsw f10 z7 hz11
              go_wp2_with (at_builtin; (
                refine wpList_append_src rfl (.tmp 52) (.tmp 54) _ rfl w.heap.size 34 iS _ 8 112 Try.underlying22 HiS.out.1 HiS.out.2.1 HiS.out.2.2.1 HiS.out.2.2.2 rfl (by decide) _ done.length _ rfl (HY.out.1.own.alloc _) (some ⟨_, 0, none⟩) 1 1 (cellsS [.mk 5 name (.mk ek en ename eA ec ekids) xn A10 c10 (turnL t bs)]) rfl (cellsS_length _) (fun _ => ⟨_, 0, rfl, fun j u hu => ((Blk.new _ _ (StatR.mk 5 name (.mk ek en ename eA ec ekids) xn A10 c10 (turnL t bs)).cells).cellAdd j).trans hu⟩) (cellsS_one _) (by unfold maxLen; omega) (by omega) (by have := HY.out.2.2.2.size; simp; omega) ?_
                intro v12 w12 hown12 hg12 hl12
                have HZ := Lib.hid (And.intro hown12 (And.intro hg12 hl12)); clear hown12 hg12 hl12))
              go_roundg (go - 1)
              case measure => have := HG.out; omega
              case rel =>
                have := HG.out
                have hsz := HY.out.2.2.2.size
                exact ⟨q + 1, done ++ [.mk 5 name (.mk ek en ename eA ec ekids) xn A10 c10 (turnL t bs)], by omega, by go_num, by simp [hdl], DoneS.push HY.out.1 hB (by omega) HY.out.2.1.1 HY.out.2.1.2 HY.out.2.2.1 HZ.out.1 HZ.out.2.1 HZ.out.2.2,
                  ((HE.out.1.trans (HY.out.2.2.2.mono hzb)).alloc (by omega) _).grown HZ.out.2.1 (by simp; omega) (fun k e => (HY.out.1.own.lt k e).1)⟩
            · have e5 : (kind == 5) = false := beq_eq_false_iff_ne.2 k5
              have hnew : ∀ b, b ∉ ownL u5 ∨ b < wo.heap.size := fun b => by
                by_cases hm : b ∈ ownL u5
                · exact .inr (hu5 b (mem_ownL.1 hm))
                · exact .inl hm
              have hy := HE.out.2.2.2.2.2.1 W.heap.size w.heap.size wr (.slice A7 bs.length c7) u5 bs A7 c7 hEr hfx HBL.out hcap7 (fun hne => by
                obtain ⟨b7, e, _, h1, h2, h3⟩ := hrow7 hne
                exact ⟨b7, 0, e, ⟨by omega, h2, fun hm => by have := hu5 b7 (mem_ownL.1 hm); omega⟩, h3⟩) hDB.read (by omega) (fun k e => by have := hu5 k e; omega)
              have hsw := HE.out.2.2.2.2.1 A7 c7 bs bs HBL.out (if_neg k5).symm hDB.like
              have HY := Lib.hid (And.intro hDS (And.intro hy (And.intro (hlk _ hsw) hb6))); clear hDS hy hlk hb6 hDB hX hX7 hEr hu5 hsw hrow7 hnew k5
              go_wp2_with (at_builtin; (
                refine wpList_append_src rfl (.tmp 52) (.tmp 54) _ rfl w.heap.size 34 iS _ 8 112 Try.underlying22 HiS.out.1 HiS.out.2.1 HiS.out.2.2.1 HiS.out.2.2.2 rfl (by decide) _ done.length _ rfl (HY.out.1.own.alloc _) (some ⟨_, 0, none⟩) 1 1 (cellsS [.mk kind name (.mk ek en ename eA ec ekids) xn A7 c7 bs]) rfl (cellsS_length _) (fun _ => ⟨_, 0, rfl, fun j u hu => ((Blk.new _ _ (StatR.mk kind name (.mk ek en ename eA ec ekids) xn A7 c7 bs).cells).cellAdd j).trans hu⟩) (cellsS_one _) (by unfold maxLen; omega) (by omega) (by have := HY.out.2.2.2.size; simp; omega) ?_
                intro v12 w12 hown12 hg12 hl12
                have HZ := Lib.hid (And.intro hown12 (And.intro hg12 hl12)); clear hown12 hg12 hl12))
              go_roundg (go - 1)
              case measure => have := HG.out; omega
              case rel =>
                have := HG.out
                have hsz := HY.out.2.2.2.size
                exact ⟨q + 1, done ++ [.mk kind name (.mk ek en ename eA ec ekids) xn A7 c7 bs], by omega, by go_num, by simp [hdl], DoneS.push HY.out.1 hB (by omega) HY.out.2.1.1 HY.out.2.1.2 HY.out.2.2.1 HZ.out.1 HZ.out.2.1 HZ.out.2.2,
                  ((HE.out.1.trans (HY.out.2.2.2.mono hzb)).alloc (by omega) _).grown HZ.out.2.1 (by simp; omega) (fun k e => (HY.out.1.own.lt k e).1)⟩
      · obtain rfl : q = L.length := by omega
        obtain ⟨A9, c9, rfl, hcap9, hrow9⟩ := own_rowS hD.own
        have H5 := Lib.hid (And.intro hD (And.intro hb hrow9)); clear hD hb hrow9
        go_wp2_with fail
        go_ret
        refine ⟨A9, c9, done, rfl, ⟨fun hne => ?_, fun y hy => ((H5.out.1.read y hy).1).keep (fun _ _ => rfl) (fun _ _ => rfl) fun b hb => ⟨hb.1, hb.2.1, by simp⟩, by simp only [BlockR.l, Fits]; omega⟩, fun y hy => (H5.out.1.read y hy).2, ⟨hdl, fun i h h' => H5.out.1.like i h h'⟩, H5.out.2.1⟩
        obtain ⟨b9, e, _, h1, h2, h3⟩ := H5.out.2.2 hne
        exact ⟨b9, 0, e, ⟨h1, h2, by simp⟩, h3⟩
end Go.Proofs.Ytgiceeholamphaa
