/- The contract of stepref.Text. No conditions but that what is read is there, and is a program, and the table of powers of ten is as it was laid. -/
import Derived.Test.YtgiceeholamphaaDoorTextE
import Derived.Test.YtgiceeholamphaaDoorTextN
import Derived.Deep.DeepCutAuto
import Derived.Deep.CutBlock
namespace Go.Proofs.YtgiceeholamphaaDoor
open Go.ChangeShapes Go.WideShapes Go.ChangeAt Go.RowKit Go.Maps

/-- What stands ahead of statement q. -/
theorem strs_add (x y : List UInt8) : (⟨x.toArray⟩ : ByteArray) ++ ⟨y.toArray⟩ = ⟨(x ++ y).toArray⟩ := by simp [ByteArray.mk_append_mk]
set_option maxRecDepth 100000 in
set_option maxHeartbeats 4000000 in
theorem text_any : ∀ (n : Nat) (k : BlockR) (w : World) (B : Nat), nodesS k.l < n → RdB w B k → AllL k.l → cntS k.l ≤ 50000 → B ≤ w.heap.size → Tens w →
    Calls Tryd.prog 10 #[k.val] w (TextPost (textS k.l) w) := by
  intro n
  induction n with
  | zero => intro k w B hn; omega
  | succ n ih =>
    intro k w B hN hR hA hn hB hT
    obtain ⟨A, c, L⟩ := k
    simp only [BlockR.l] at hN hA hn
    have hrow : RowS w B A L := hR.row
    have heach : ∀ x ∈ L, RdS w B x := hR.each
    have hfit : L.length ≤ 1048576 := hR.fits
    have H := Lib.hid (And.intro ih (And.intro hN (And.intro hrow (And.intro heach (And.intro hA (And.intro hn hT)))))); clear ih hN hrow heach hA hn hR hT
    show Calls Tryd.prog 10 #[.slice A L.length c] w (TextPost (textS L) w)
    go_enter Tryd.func10, Tryd.ntmps10
    go_wp2_with fail
    go_loopg [3, 4] L.length (fun gk s i wr => ∃ q : Nat, gk + q = L.length ∧ s = .string ⟨(textS (L.take q)).toArray⟩ ∧ i = .int .i64 q ∧ Below w.heap.size w wr)
    case atStart => exact ⟨0, by omega, rfl, rfl, Below.refl _ _⟩
    case round =>
      obtain ⟨q, hgq, rfl, rfl, hb⟩ := hrel
      by_cases hq : q < L.length
      · obtain ⟨b, o, rfl, hbB, hx⟩ := H.out.2.2.1.at_ (i := q) hq
        have hkeep : ∀ p : Addr, p.block < B → wr.cell? p = w.cell? p := fun p hp => hb.cell (by omega)
        have hx := hx.keep hbB hkeep
        have hRx := (H.out.2.2.2.1 _ (List.getElem_mem hq)).keep hkeep
        have hAx := H.out.2.2.2.2.1 _ (List.getElem_mem hq)
        have hnx : (L[q]).nodes ≤ nodesS L := nodesS_le (List.getElem_mem hq)
        have hst := textS_step hq
        have hlen := textS_take_len H.out.2.2.2.2.1 q
        have hcn := H.out.2.2.2.2.2.1
        have hHx := headT_len hAx
        have hlx := stat_len _ hAx
        have htx := (L[q]).txt_eq
        have hcx : (L[q]).cnt ≤ cntS L := by
          have h1 := cntS_take L (q + 1)
          rw [List.take_succ_eq_append_getElem hq, cntS_append] at h1
          simp only [cntS] at h1
          omega
        have hlen2 := textS_len (H.out.2.2.2.2.1.take q)
        have hcx2 : cntS (L.take q) + (L[q]).cnt ≤ cntS L := by
          have h1 := cntS_take L (q + 1)
          rw [List.take_succ_eq_append_getElem hq, cntS_append] at h1
          simp only [cntS] at h1
          omega
        generalize cntS (L.take q) = c0 at hlen2 hcx2
        generalize textS (L.take q) = S0 at *
        obtain ⟨x, hxe⟩ : ∃ x, L[q] = x := ⟨_, rfl⟩
        rw [hxe] at hx hRx hAx hnx hst hHx hlx htx hcx hcx2
        have hfx : x.blocks.length ≤ 1048576 := hRx.fits
        have hnodes := x.nodes_eq
        have hblk := fun (b : BlockR) (hb : b ∈ x.blocks) => hRx.block hb
        have hAb := fun (b : BlockR) (hb : b ∈ x.blocks) y hy => hAx.in_ (b := b) hb (y := y) hy
        have hokx := hAx.ok
        have hbl := fun k => blocksT_take_len hAx k
        obtain ⟨kind, name, ⟨ek, en, ename, eA, ec, ekids⟩, xn, xA, xc, blocks⟩ := x
        obtain ⟨x0, x1, x2, x3, x4, x5, x6, x7⟩ := hx
        simp only [StatR.kind, StatR.name, StatR.e, StatR.n, StatR.bA, StatR.bc, StatR.blocks, ExprR.kind, ExprR.n, ExprR.name, ExprR.sA, ExprR.sc, ExprR.kids] at x0 x1 x2 x3 x4 x5 x6 x7 hfx hnodes hblk hAb hbl hHx htx
        have hzb := hb.size
        have hS0 : S0.length ≤ 7000000 := by omega
        have HX := Lib.hid (And.intro hlen2 hcx2); clear hlen2 hcx2
        have HE := Lib.hid (And.intro hb (And.intro hRx (And.intro hAx (And.intro hst (And.intro hblk (And.intro hAb (And.intro hokx (And.intro hbl (And.intro htx (And.intro hnodes (And.intro hnx (And.intro hHx (And.intro hlx hcx))))))))))))); clear hb hRx hAx hst hblk hAb hokx hbl htx hnodes hnx hHx hlx hcx hkeep hxe
        go_upto_if 19 with (fail)
        generalize hW : wr.alloc (.cells #[.int .i64 kind, .string name, .int .i64 ek, .int .i64 en, .string ename, .slice eA ekids.length ec, .int .i64 xn, .slice xA blocks.length xc] 49) = W
        obtain ⟨hbw, hzW, hxw⟩ := box_facts (c := [.int .i64 kind, .string name, .int .i64 ek, .int .i64 en, .string ename, .slice eA ekids.length ec, .int .i64 xn, .slice xA blocks.length xc]) hW
        clear hW x0 x1 x2 x3 x4 x5 x6 x7
        have y0 := hxw.cell 0
        have y1 := hxw.cell 1
        have y2 := hxw.cell 2
        have y3 := hxw.cell 3
        have y4 := hxw.cell 4
        have y5 := hxw.cell 5
        have y6 := hxw.cell 6
        have y7 := hxw.cell 7
        simp at y0 y1 y2 y3 y4 y5 y6 y7
        have H1 := Lib.hid hbw; clear hbw hxw
        have hsep : ∀ z : List UInt8, S0 ++ ((if q = 0 then [] else [59, 32]) ++ z) = (S0 ++ (if q = 0 then [] else [59, 32])) ++ z := fun z => by simp
        have HS := Lib.hid hsep; clear hsep
        have hS1 : (S0 ++ (if q = 0 then [] else [59, 32])).length ≤ 7000002 := by
          rw [List.length_append]; split <;> simp <;> omega
        have ex0 : ∀ w : World, (Op.stringOp .add ⟨S0.toArray⟩ ⟨#[59, 32]⟩).run Tryd.prog w = .ok (.string ⟨(S0 ++ [59, 32]).toArray⟩) w := fun w => run_string_add_lists (P := Tryd.prog) w S0 [59, 32] (by omega) (by simp)
        go_cut [3] (fun s3 wc => s3 = .string ⟨(S0 ++ (if q = 0 then [] else [59, 32])).toArray⟩ ∧ W = wc)
        case first => as_aux_lemma =>
          by_cases h0 : q = 0
          · subst h0
            go_wp2_with fail
            go_meet
            case rel => exact ⟨by simp, rfl⟩
          · have h1 : (0 : Int) < (q : Int) := by omega
            go_wp2_with fail
            go_meet
            case rel => exact ⟨by rw [if_neg h0], rfl⟩
        case rest =>
          obtain ⟨rfl, rfl⟩ := hcut
          clear ex0
          generalize S0 ++ (if q = 0 then [] else [59, 32]) = S1 at *
          go_upto_block 2 with (fail)
          go_cut [3, 6] (fun s3 s6 wc => s3 = .string ⟨(S1 ++ headT kind name (.mk ek en ename eA ec ekids) xn).toArray⟩ ∧ s6 = .string ⟨(betweenT kind).toArray⟩ ∧ Below W.heap.size W wc)
          case first =>
            have hok := HE.out.2.2.2.2.2.2.1
            simp only [okS, StatR.kind, StatR.name, StatR.e, StatR.n, StatR.blocks] at hok
            have exS : ∀ (z : List UInt8), z.length ≤ 8000000 → ∀ w : World, (Op.stringOp .add ⟨S1.toArray⟩ ⟨z.toArray⟩).run Tryd.prog w = .ok (.string ⟨(S1 ++ z).toArray⟩) w := fun z hz w => run_string_add_lists (P := Tryd.prog) w S1 z (by omega) (by omega)
            rcases hok with ⟨h12, hok⟩ | ⟨rfl, hok⟩ | ⟨rfl, hok⟩ | ⟨rfl, hok⟩
            · have hAe : AllE (.mk ek en ename eA ec ekids) := HE.out.2.2.1.e (by show kind ≤ 3; omega)
              have hRe : RdE wr B (.mk ek en ename eA ec ekids) := HE.out.2.1.e
              have hle := txt_len _ hAe 0
              have hce := StatR.cnt_eq (.mk kind name (.mk ek en ename eA ec ekids) xn xA xc blocks)
              rw [if_pos (show (StatR.mk kind name (.mk ek en ename eA ec ekids) xn xA xc blocks).kind ≤ 3 by show kind ≤ 3; omega)] at hce
              simp only [StatR.e, StatR.blocks] at hce
              have hcx := HE.out.2.2.2.2.2.2.2.2.2.2.2.2.2
              have hne : 26 * (ExprR.mk ek en ename eA ec ekids).nodes ≤ 8000000 := by omega
              have hnl : name.data.toList.length ≤ 8 := by
                rw [Array.length_toList]
                have hnm : named name := hok.1
                exact hnm.2.1
              have hTW : Tens W := H.out.2.2.2.2.2.2.below (HE.out.1.trans (H1.out.mono (by omega)))
              have hcall := fun (W' : World) (hb' : Below W.heap.size W W') => textE_any (.mk ek en ename eA ec ekids) W' B 0 ((hRe.under (H1.out.mono (by omega))).under (hb'.mono (by omega))) hAe hne (by have := H1.out.size; have := hb'.size; omega) (hTW.below hb') (by omega)
              generalize hev : (ExprR.mk ek en ename eA ec ekids).txt 0 = ev at *
              have HV := Lib.hid hev; clear hev
              have HC := Lib.hid hcall; clear hcall
              have hle : ev.length ≤ 7500000 := by omega
              clear hAe hRe hce hcx hne hTW hok
              obtain ⟨nm, rfl⟩ : ∃ nm : List UInt8, name = ⟨nm.toArray⟩ := ⟨name.data.toList, by simp⟩
              simp only at hnl
              rcases (show kind = 1 ∨ kind = 2 by omega) with rfl | rfl
              · clear h12
                have ex1 : ∀ w : World, (Op.stringOp .add ⟨nm.toArray⟩ ⟨#[32, 61, 32]⟩).run Tryd.prog w = .ok (.string ⟨(nm ++ [32, 61, 32]).toArray⟩) w := fun w => run_string_add_lists (P := Tryd.prog) w nm [32, 61, 32] (by omega) (by simp)
                have ex2 : ∀ w : World, (Op.stringOp .add ⟨(nm ++ [32, 61, 32]).toArray⟩ ⟨ev.toArray⟩).run Tryd.prog w = .ok (.string ⟨(nm ++ [32, 61, 32] ++ ev).toArray⟩) w := fun w => run_string_add_lists (P := Tryd.prog) w (nm ++ [32, 61, 32]) ev (by simp; omega) (by omega)
                have ex3 := exS (nm ++ 32 :: 61 :: 32 :: ev) (by simp; omega)
                clear exS
                have hWz : wr.heap.size < W.heap.size := by omega
                have hWn : ¬ (wr.heap.size = W.heap.size) := by omega
                go_wp2_with fail
                go_region_held3 (fun w' => w'.cell? ⟨wr.heap.size, 1, none⟩ = some (.string ⟨nm.toArray⟩) ∧ w'.cell? ⟨wr.heap.size, 2, none⟩ = some (.int .i64 ek) ∧ w'.cell? ⟨wr.heap.size, 3, none⟩ = some (.int .i64 en) ∧ w'.cell? ⟨wr.heap.size, 4, none⟩ = some (.string ename) ∧ w'.cell? ⟨wr.heap.size, 5, none⟩ = some (.slice eA ekids.length ec)) (go_keep) ((first
                  | (go_at_call 22; (
                      refine (show Calls _ _ _ _ _ from HC.out _ ((Below.refl W.heap.size W).drew)).mono ?_
                      rintro E w2 ⟨rfl, hb2⟩
                      have hc2 := bcell hb2
                      have hs2 : wr.heap.size < w2.heap.size := by have := hb2.size; simp at this; omega
                      have HB2 := Lib.hid hb2; clear hb2))))
                go_wp2_with fail
                go_meet
                case rel => exact ⟨by simp [headT, HV.out], by simp [betweenT], ((Below.refl W.heap.size W).drew).trans (HB2.out.mono (by simp))⟩
              · clear h12
                have ex1 : ∀ w : World, (Op.stringOp .add ⟨nm.toArray⟩ ⟨#[32, 43, 61, 32]⟩).run Tryd.prog w = .ok (.string ⟨(nm ++ [32, 43, 61, 32]).toArray⟩) w := fun w => run_string_add_lists (P := Tryd.prog) w nm [32, 43, 61, 32] (by omega) (by simp)
                have ex2 : ∀ w : World, (Op.stringOp .add ⟨(nm ++ [32, 43, 61, 32]).toArray⟩ ⟨ev.toArray⟩).run Tryd.prog w = .ok (.string ⟨(nm ++ [32, 43, 61, 32] ++ ev).toArray⟩) w := fun w => run_string_add_lists (P := Tryd.prog) w (nm ++ [32, 43, 61, 32]) ev (by simp; omega) (by omega)
                have ex3 := exS (nm ++ 32 :: 43 :: 61 :: 32 :: ev) (by simp; omega)
                clear exS
                have hWz : wr.heap.size < W.heap.size := by omega
                have hWn : ¬ (wr.heap.size = W.heap.size) := by omega
                go_wp2_with fail
                go_region_held3 (fun w' => w'.cell? ⟨wr.heap.size, 1, none⟩ = some (.string ⟨nm.toArray⟩) ∧ w'.cell? ⟨wr.heap.size, 2, none⟩ = some (.int .i64 ek) ∧ w'.cell? ⟨wr.heap.size, 3, none⟩ = some (.int .i64 en) ∧ w'.cell? ⟨wr.heap.size, 4, none⟩ = some (.string ename) ∧ w'.cell? ⟨wr.heap.size, 5, none⟩ = some (.slice eA ekids.length ec)) (go_keep) ((first
                  | (go_at_call 22; (
                      refine (show Calls _ _ _ _ _ from HC.out _ ((Below.refl W.heap.size W).drew)).mono ?_
                      rintro E w2 ⟨rfl, hb2⟩
                      have hc2 := bcell hb2
                      have hs2 : wr.heap.size < w2.heap.size := by have := hb2.size; simp at this; omega
                      have HB2 := Lib.hid hb2; clear hb2))))
                go_wp2_with fail
                go_meet
                case rel => exact ⟨by simp [headT, HV.out], by simp [betweenT], ((Below.refl W.heap.size W).drew).trans (HB2.out.mono (by simp))⟩
            · have hAe : AllE (.mk ek en ename eA ec ekids) := HE.out.2.2.1.e (by show (3 : Int) ≤ 3; omega)
              have hRe : RdE wr B (.mk ek en ename eA ec ekids) := HE.out.2.1.e
              have hle := txt_len _ hAe 0
              have hce := StatR.cnt_eq (.mk 3 name (.mk ek en ename eA ec ekids) xn xA xc blocks)
              rw [if_pos (show (StatR.mk 3 name (.mk ek en ename eA ec ekids) xn xA xc blocks).kind ≤ 3 by show (3 : Int) ≤ 3; omega)] at hce
              simp only [StatR.e, StatR.blocks] at hce
              have hcx := HE.out.2.2.2.2.2.2.2.2.2.2.2.2.2
              have hne : 26 * (ExprR.mk ek en ename eA ec ekids).nodes ≤ 8000000 := by omega
              have hTW : Tens W := H.out.2.2.2.2.2.2.below (HE.out.1.trans (H1.out.mono (by omega)))
              have hcall := textE_any (.mk ek en ename eA ec ekids) W B 0 (hRe.under (H1.out.mono (by omega))) hAe hne (by have := H1.out.size; omega) hTW (by omega)
              generalize hev : (ExprR.mk ek en ename eA ec ekids).txt 0 = ev at *
              have HV := Lib.hid hev; clear hev
              have HC := Lib.hid hcall; clear hcall
              have hle : ev.length ≤ 7500000 := by omega
              have ex1 := exS ([105, 102, 32] ++ ev ++ [32]) (by simp; omega)
              have ex2 : ∀ w : World, (Op.stringOp .add ⟨#[105, 102, 32]⟩ ⟨ev.toArray⟩).run Tryd.prog w = .ok (.string ⟨([105, 102, 32] ++ ev).toArray⟩) w := fun w => run_string_add_lists (P := Tryd.prog) w [105, 102, 32] ev (by simp) (by omega)
              have ex3 : ∀ w : World, (Op.stringOp .add ⟨([105, 102, 32] ++ ev).toArray⟩ ⟨#[32]⟩).run Tryd.prog w = .ok (.string ⟨([105, 102, 32] ++ ev ++ [32]).toArray⟩) w := fun w => run_string_add_lists (P := Tryd.prog) w ([105, 102, 32] ++ ev) [32] (by simp; omega) (by simp)
              clear exS
              go_wp2_with (go_at_call 22; (
                refine (show Calls _ _ _ _ _ from HC.out).mono ?_
                rintro E w2 ⟨rfl, hb2⟩
                have HB2 := Lib.hid hb2; clear hb2))
              go_meet
              case rel => exact ⟨by simp [headT, HV.out, ByteArray.mk_append_mk], by simp [betweenT], HB2.out⟩
            · have hm : 0 ≤ xn ∧ xn ≤ 1000 := ⟨hok.2.1, hok.2.2.1⟩
              have hil := Lib.itoa_length_le xn (by omega) (by omega)
              have ex1 := exS ([114, 101, 112, 101, 97, 116, 32] ++ Lib.itoa xn ++ [32]) (by simp; omega)
              have ex2 : ∀ w : World, (Op.stringOp .add ⟨#[114, 101, 112, 101, 97, 116, 32]⟩ ⟨(Lib.itoa xn).toArray⟩).run Tryd.prog w = .ok (.string ⟨([114, 101, 112, 101, 97, 116, 32] ++ Lib.itoa xn).toArray⟩) w := fun w => run_string_add_lists (P := Tryd.prog) w [114, 101, 112, 101, 97, 116, 32] (Lib.itoa xn) (by simp) (by omega)
              have ex3 : ∀ w : World, (Op.stringOp .add ⟨([114, 101, 112, 101, 97, 116, 32] ++ Lib.itoa xn).toArray⟩ ⟨#[32]⟩).run Tryd.prog w = .ok (.string ⟨([114, 101, 112, 101, 97, 116, 32] ++ Lib.itoa xn ++ [32]).toArray⟩) w := fun w => run_string_add_lists (P := Tryd.prog) w ([114, 101, 112, 101, 97, 116, 32] ++ Lib.itoa xn) [32] (by simp; omega) (by simp)
              clear exS
              have hTW : Tens W := H.out.2.2.2.2.2.2.below (HE.out.1.trans (H1.out.mono (by omega)))
              go_wp2_with (go_at_call 23; (
                refine (show Calls _ _ _ _ _ from fmt_post xn (by omega) (by omega) _ hTW).mono ?_
                rintro E w2 ⟨rfl, hb2⟩
                have HB2 := Lib.hid hb2; clear hb2))
              go_meet
              case rel => exact ⟨by simp [headT, ByteArray.mk_append_mk], by simp [betweenT], HB2.out⟩
            · have ex1 := exS [112, 97, 114, 32] (by decide)
              clear exS
              go_wp2_with fail
              go_meet
              case rel => exact ⟨by simp [headT], by simp [betweenT], Below.refl _ _⟩
          case rest =>
            obtain ⟨rfl, rfl, hbc⟩ := hcut
            have hzc := hbc.size
            have y7c : wc.cell? ⟨wr.heap.size, 7, none⟩ = some (.slice xA blocks.length xc) := (hbc.cell (p := ⟨wr.heap.size, 7, none⟩) (by show wr.heap.size < _; omega)).trans y7
            have hS1' : S1.length ≤ S0.length + 2 := by
              have := HS.out []
              simp only [List.append_nil] at this
              rw [← this, List.length_append]
              split <;> simp
            have hTot : ∀ k, (S1 ++ headT kind name (.mk ek en ename eA ec ekids) xn).length + (blocksT (betweenT kind) (blocks.take k)).length ≤ 7000100 := by
              intro k
              have h1 := HX.out
              have h2 := HE.out.2.2.2.2.2.2.2.1 k
              have h3 := HE.out.2.2.2.2.2.2.2.2.2.2.2.1
              have hce := StatR.cnt_eq (.mk kind name (.mk ek en ename eA ec ekids) xn xA xc blocks)
              simp only [StatR.e, StatR.blocks, StatR.kind] at hce
              rw [List.length_append]
              have h4 : (if kind ≤ 3 then (ExprR.mk ek en ename eA ec ekids).nodes else 0) = (if kind ≤ 3 then (ExprR.mk ek en ename eA ec ekids).nodes else 0) := rfl
              generalize (if kind ≤ 3 then (ExprR.mk ek en ename eA ec ekids).nodes else 0) = m at *
              omega
            have hfin : ∀ z, S1 ++ z = S1 ++ z := fun _ => rfl
            clear hfin
            have hend : textS (L.take (q + 1)) = S1 ++ headT kind name (.mk ek en ename eA ec ekids) xn ++ blocksT (betweenT kind) blocks := by
              rw [HE.out.2.2.2.1, HE.out.2.2.2.2.2.2.2.2.1, HS.out, List.append_assoc]
            clear y0 y1 y2 y3 y4 y5 y6 y7 hS1'
            generalize S1 ++ headT kind name (.mk ek en ename eA ec ekids) xn = S2 at *
            have hbtw : (betweenT kind).length ≤ 6 := betweenT_len kind
            generalize hbt : betweenT kind = btw at *
            have HF := Lib.hid (And.intro hend (And.intro hTot hbt)); clear hend hTot hbt
            have HC := Lib.hid hbc; clear hbc
            obtain ⟨gq, hgg⟩ : ∃ g, g = gk := ⟨_, rfl⟩
            have HG := Lib.hid hgg; clear hgg
            obtain ⟨wq, hwq⟩ : ∃ v, v = wr := ⟨_, rfl⟩
            subst hwq
            go_wp2_with fail
            go_loopg [3, 7] blocks.length (fun gk s3 i7 wr => ∃ k : Nat, gk + k = blocks.length ∧ s3 = .string ⟨(S2 ++ blocksT btw (blocks.take k)).toArray⟩ ∧ i7 = .int .i64 k ∧ Below wc.heap.size wc wr)
            case atStart => exact ⟨0, by omega, by simp [blocksT], rfl, Below.refl _ _⟩
            case round =>
              obtain ⟨k, hgk, rfl, rfl, hbr⟩ := hrel
              have hzr := hbr.size
              have y7r : wr.cell? ⟨wq.heap.size, 7, none⟩ = some (.slice xA blocks.length xc) := (hbr.cell (p := ⟨wq.heap.size, 7, none⟩) (by show wq.heap.size < _; omega)).trans y7c
              by_cases hk : k < blocks.length
              · obtain ⟨b2, o2, rfl, hb2B, hcell⟩ := HE.out.2.1.row.at_ (i := k) hk
                have hB2 : Below wq.heap.size wq wr := (H1.out.trans (HC.out.mono (by omega))).trans (hbr.mono (by omega))
                have hcell : wr.cell? ⟨b2, o2 + k, none⟩ = some (blocks[k]).val := (hB2.cell (p := ⟨b2, o2 + k, none⟩) (by have := HE.out.1.size; show b2 < _; omega)).trans hcell
                have hRb := (HE.out.2.2.2.2.1 _ (List.getElem_mem hk)).under (hB2.mono (by have := HE.out.1.size; omega))
                have hAb2 : AllL (blocks[k]).l := HE.out.2.2.2.2.2.1 _ (List.getElem_mem hk)
                have hnb := nodesB_le (List.getElem_mem hk)
                have hst := blocksT_step btw hk
                have hl0 := HF.out.2.1 k
                have hl1 := HF.out.2.1 (k + 1)
                rw [hst] at hl1
                have hcb : (blocks[k]).cnt ≤ cntB blocks := by
                  conv => rhs; rw [← List.take_append_drop (k + 1) blocks, cntB_append, List.take_succ_eq_append_getElem hk, cntB_append]
                  simp only [cntB]; omega
                have hce := StatR.cnt_eq (.mk kind name (.mk ek en ename eA ec ekids) xn (some ⟨b2, o2, none⟩) xc blocks)
                simp only [StatR.e, StatR.blocks, StatR.kind] at hce
                have hcx := HE.out.2.2.2.2.2.2.2.2.2.2.2.2.2
                have hnx := HE.out.2.2.2.2.2.2.2.2.2.2.1
                have hnn := HE.out.2.2.2.2.2.2.2.2.2.1
                have hN := H.out.2.1
                obtain ⟨y, hye⟩ : ∃ y, blocks[k] = y := ⟨_, rfl⟩
                rw [hye] at hcell hRb hAb2 hnb hst hcb hl1
                have hty := y.txt_eq
                have hye1 := y.nodes_eq
                have hye2 := y.cnt_eq
                have hTr : Tens wr := H.out.2.2.2.2.2.2.below (HE.out.1.trans (hB2.mono HE.out.1.size))
                have hcall := fun (hle : cntS y.l ≤ 50000) => H.out.1 y wr B (by omega) hRb hAb2 hle (by have := HE.out.1.size; have := hB2.size; omega) hTr
                have hcall := hcall (by omega)
                obtain ⟨yA, yc, yl⟩ := y
                simp only [BlockR.val, BlockR.l, BlockR.A, BlockR.c] at hcell hcall hty
                have hly : yl.length ≤ 1048576 := hRb.fits
                rw [hty] at hst hl1
                rw [List.length_append, List.length_append, List.length_append] at hl1
                simp only [List.length_cons, List.length_nil] at hl1
                generalize textS yl = ty at *
                generalize blocksT btw (blocks.take k) = S3 at *
                have HR := Lib.hid (And.intro hbr (And.intro hcall hst)); clear hbr hcall hst hB2 hRb hAb2 hnb hcb hce hcx hnx hnn hN hye hty hye1 hye2 hTr
                have hl2 : (S2 ++ S3).length + ty.length ≤ 7000200 := by rw [List.length_append]; split at hl1 <;> simp at hl1 <;> omega
                clear hl0 hl1 y7c
                generalize hS3 : S2 ++ S3 = S4 at *
                have ex0 : ∀ w : World, (Op.stringOp .add ⟨S4.toArray⟩ ⟨btw.toArray⟩).run Tryd.prog w = .ok (.string ⟨(S4 ++ btw).toArray⟩) w := fun w => run_string_add_lists (P := Tryd.prog) w S4 btw (by omega) (by omega)
                go_upto_if 76 with (fail)
                go_cut [3] (fun s3 wc => s3 = .string ⟨(S4 ++ (if k = 0 then [] else btw)).toArray⟩ ∧ wr = wc)
                case first => as_aux_lemma =>
                  by_cases h0 : k = 0
                  · subst h0
                    go_wp2_with fail
                    go_meet
                    case rel => exact ⟨by simp, rfl⟩
                  · have h1 : (0 : Int) < (k : Int) := by omega
                    go_wp2_with fail
                    go_meet
                    case rel => exact ⟨by rw [if_neg h0], rfl⟩
                case rest =>
                  obtain ⟨rfl, rfl⟩ := hcut
                  clear ex0
                  have hS5 : (S4 ++ (if k = 0 then [] else btw)).length + ty.length ≤ 7000300 := by
                    rw [List.length_append]
                    split
                    · simp; omega
                    · omega
                  have hjoin : S2 ++ (S3 ++ ((if k = 0 then [] else btw) ++ ([123, 32] ++ (ty ++ if yl.length = 0 then [125] else [32, 125])))) = S4 ++ (if k = 0 then [] else btw) ++ (123 :: 32 :: (ty ++ if yl.length = 0 then [125] else [32, 125])) := by
                    rw [← hS3]; simp
                  have HJ := Lib.hid hjoin; clear hjoin hS3
                  generalize S4 ++ (if k = 0 then [] else btw) = S5 at *
                  have ex1 : ∀ w : World, (Op.stringOp .add ⟨#[123, 32]⟩ ⟨ty.toArray⟩).run Tryd.prog w = .ok (.string ⟨(123 :: 32 :: ty).toArray⟩) w := fun w => run_string_add_lists (P := Tryd.prog) w [123, 32] ty (by simp) (by omega)
                  have ex2 : ∀ w : World, (Op.stringOp .add ⟨S5.toArray⟩ ⟨(123 :: 32 :: ty).toArray⟩).run Tryd.prog w = .ok (.string ⟨(S5 ++ 123 :: 32 :: ty).toArray⟩) w := fun w => run_string_add_lists (P := Tryd.prog) w S5 (123 :: 32 :: ty) (by omega) (by simp; omega)
                  obtain ⟨S6, hS6⟩ : ∃ z, S5 ++ 123 :: 32 :: ty = z := ⟨_, rfl⟩
                  rw [hS6] at ex2
                  have hS6l : S6.length ≤ 7000302 := by rw [← hS6, List.length_append]; simp; omega
                  by_cases hm0 : yl.length = 0
                  · have hHC := HR.out.2.1
                    rw [hm0] at hcell hHC
                    have hfS := HR.out.2.2.trans (congrArg (fun z => S3 ++ ((if k = 0 then [] else btw) ++ ([123, 32] ++ (ty ++ z)))) (if_pos hm0))
                    have hJ := HJ.out
                    rw [if_pos hm0] at hJ
                    have HS6 := Lib.hid (And.intro hS6 (And.intro hJ (And.intro hfS hm0))); clear hS6 hJ hfS hm0
                    have hHC := Lib.hid hHC
                    have ex4 : ∀ w : World, (Op.stringOp .add ⟨S6.toArray⟩ ⟨#[125]⟩).run Tryd.prog w = .ok (.string ⟨(S6 ++ [125]).toArray⟩) w := fun w => run_string_add_lists (P := Tryd.prog) w S6 [125] (by omega) (by simp)
                    go_wp2_with (go_at_call 10; (
                      refine (show Calls _ _ _ _ _ from hHC.out).mono ?_
                      rintro E w2 ⟨rfl, hb2⟩
                      have y7r : w2.cell? ⟨wq.heap.size, 7, none⟩ = some (.slice (some ⟨b2, o2, none⟩) blocks.length xc) := (hb2.cell (p := ⟨wq.heap.size, 7, none⟩) (by show wq.heap.size < _; omega)).trans y7r
                      have hcell : w2.cell? ⟨b2, o2 + k, none⟩ = some (.slice yA 0 yc) := (hb2.cell (p := ⟨b2, o2 + k, none⟩) (by show b2 < _; have := HE.out.1.size; omega)).trans hcell
                      have HB2 := Lib.hid hb2; clear hb2))
                    go_roundg (gk - 1)
                    case measure => omega
                    case rel => exact ⟨k + 1, by omega, by rw [HS6.out.2.2.1, HS6.out.2.1, ← HS6.out.1]; simp, by go_num, HR.out.1.trans (HB2.out.mono HR.out.1.size)⟩
                  · obtain ⟨m, hm⟩ : ∃ m, yl.length = m := ⟨_, rfl⟩
                    have hm1 : (0 : Int) < (m : Int) := by omega
                    have hHC := HR.out.2.1
                    rw [hm] at hcell hHC
                    have hfS := HR.out.2.2.trans (congrArg (fun z => S3 ++ ((if k = 0 then [] else btw) ++ ([123, 32] ++ (ty ++ z)))) (if_neg hm0))
                    have hJ := HJ.out
                    rw [if_neg hm0] at hJ
                    have HS6 := Lib.hid (And.intro hS6 (And.intro hJ (And.intro hfS hm0))); clear hS6 hJ hfS hm0 hm
                    have hHC := Lib.hid hHC
                    have ex3 : ∀ w : World, (Op.stringOp .add ⟨S6.toArray⟩ ⟨#[32]⟩).run Tryd.prog w = .ok (.string ⟨(S6 ++ [32]).toArray⟩) w := fun w => run_string_add_lists (P := Tryd.prog) w S6 [32] (by omega) (by simp)
                    have ex4 : ∀ w : World, (Op.stringOp .add ⟨(S6 ++ [32]).toArray⟩ ⟨#[125]⟩).run Tryd.prog w = .ok (.string ⟨(S6 ++ [32] ++ [125]).toArray⟩) w := fun w => run_string_add_lists (P := Tryd.prog) w (S6 ++ [32]) [125] (by simp; omega) (by simp)
                    go_wp2_with (go_at_call 10; (
                      refine (show Calls _ _ _ _ _ from hHC.out).mono ?_
                      rintro E w2 ⟨rfl, hb2⟩
                      have y7r : w2.cell? ⟨wq.heap.size, 7, none⟩ = some (.slice (some ⟨b2, o2, none⟩) blocks.length xc) := (hb2.cell (p := ⟨wq.heap.size, 7, none⟩) (by show wq.heap.size < _; omega)).trans y7r
                      have hcell : w2.cell? ⟨b2, o2 + k, none⟩ = some (.slice yA m yc) := (hb2.cell (p := ⟨b2, o2 + k, none⟩) (by show b2 < _; have := HE.out.1.size; omega)).trans hcell
                      have HB2 := Lib.hid hb2; clear hb2))
                    go_roundg (gk - 1)
                    case measure => omega
                    case rel => exact ⟨k + 1, by omega, by rw [HS6.out.2.2.1, HS6.out.2.1, ← HS6.out.1]; simp, by go_num, HR.out.1.trans (HB2.out.mono HR.out.1.size)⟩
              · obtain rfl : k = blocks.length := by omega
                have HB2 := Lib.hid hbr; clear hbr
                go_wp2_with fail
                go_roundg (gq - 1)
                case measure => have := HG.out; omega
                case rel => exact ⟨q + 1, by have := HG.out; omega, by rw [HF.out.1, List.take_length], by go_num, HE.out.1.trans ((H1.out.trans ((HC.out.trans (HB2.out.mono HC.out.size)).mono H1.out.size)).mono HE.out.1.size)⟩
      · obtain rfl : q = L.length := by omega
        have HB := Lib.hid hb; clear hb
        go_wp2_with fail
        go_ret
        exact ⟨by rw [List.take_length]; rfl, HB.out⟩
end Go.Proofs.YtgiceeholamphaaDoor
