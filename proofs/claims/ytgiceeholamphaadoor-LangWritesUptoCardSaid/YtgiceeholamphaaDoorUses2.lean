/- The contract of stepref.uses: how statements use a name. No conditions but that what is read is there. -/
import Derived.Test.YtgiceeholamphaaDoorUses
namespace Go.Proofs.YtgiceeholamphaaDoor
open Go.ChangeShapes Go.WideShapes Go.ChangeAt Go.RowKit Go.Maps

/-- 4: it is assigned; 2: it is added to; 1: it is read. -/
def useN (a d r : Bool) : Int := (if a then 4 else 0) + (if d then 2 else 0) + (if r then 1 else 0)
theorem useN_or (a d r a' d' r' : Bool) : bits .or .i64 (useN a d r) (useN a' d' r') = useN (a || a') (d || d') (r || r') := by
  cases a <;> cases d <;> cases r <;> cases a' <;> cases d' <;> cases r' <;> decide
noncomputable def useL (s : ByteArray) (l : List StatR) : Int := useN (memB s (assignsS l)) (memB s (addsS l)) (memB s (readsS l))
noncomputable def useB (s : ByteArray) (l : List BlockR) : Int := useN (memB s (assignsB l)) (memB s (addsB l)) (memB s (readsB l))
def UsePost (n : Int) (w : World) (E : Ending) (w' : World) : Prop := E = .returned (.int .i64 n) ∧ Below w.heap.size w w'
theorem useB_step (s : ByteArray) {l : List BlockR} {q : Nat} (h : q < l.length) : useB s (l.take (q + 1)) = bits .or .i64 (useB s (l.take q)) (useL s l[q].l) := by
  unfold useB useL
  rw [useN_or, take_snocA h, assignsB_append, addsB_append, readsB_append, memB_append, memB_append, memB_append]
  simp [assignsB, addsB, readsB, BlockR.assigns_eq, BlockR.adds_eq, BlockR.reads_eq]
theorem useL_step (s : ByteArray) {l : List StatR} {q : Nat} (h : q < l.length) : useL s (l.take (q + 1)) =
    bits .or .i64 (bits .or .i64 (useL s (l.take q)) (useN (decide (l[q].kind = 1) && decide (l[q].name = s)) (decide (l[q].kind = 2) && decide (l[q].name = s)) (memB s l[q].e.names))) (useB s l[q].blocks) := by
  unfold useL useB
  rw [useN_or, useN_or, take_snocA h, assignsS_append, addsS_append, readsS_append, memB_append, memB_append, memB_append]
  generalize l[q] = x
  simp only [assignsS, addsS, readsS, List.append_nil, x.assigns_eq, x.adds_eq, x.reads_eq, memB_append, Bool.or_assoc]
  congr 2
  · congr 1
    by_cases k : x.kind = 1
    · rw [if_pos k, memB_one]; simp [k]
    · rw [if_neg k, memB_nil]; simp [k]
  · congr 1
    by_cases k : x.kind = 2
    · rw [if_pos k, memB_one]; simp [k]
    · rw [if_neg k, memB_nil]; simp [k]
set_option maxRecDepth 100000 in
set_option maxHeartbeats 4000000 in
theorem uses_any : ∀ (n : Nat) (k : BlockR) (w : World) (B : Nat) (s : ByteArray), nodesS k.l < n → RdB w B k → B ≤ w.heap.size → Calls Tryd.prog 40 #[k.val, .string s] w (UsePost (useL s k.l) w) := by
  intro n
  induction n with
  | zero => intro k w B s hn; omega
  | succ n ih =>
    intro k w B s hnn hR hB
    obtain ⟨A, c, L⟩ := k
    simp only [BlockR.l] at hnn
    have hrow := hR.row
    have heach := hR.each
    have hfit := hR.fits
    simp only [BlockR.l, BlockR.A] at hrow heach hfit
    unfold Fits at hfit
    have H := Lib.hid (And.intro ih (And.intro hrow (And.intro heach hnn))); clear ih hrow heach hnn hR
    show Calls Tryd.prog 40 #[.slice A L.length c, .string s] w (UsePost (useL s L) w)
    go_enter Tryd.func40, Tryd.ntmps40
    go_wp2_with fail
    go_loopg [5, 6] L.length (fun gk s5 i wr => ∃ q : Nat, gk + q = L.length ∧ s5 = .int .i64 (useL s (L.take q)) ∧ i = .int .i64 q ∧ Below w.heap.size w wr)
    case atStart => exact ⟨0, by omega, by simp [useL, useN, assignsS, addsS, readsS, memB_nil], rfl, Below.refl _ _⟩
    case round =>
      obtain ⟨q, hgq, rfl, rfl, hb⟩ := hrel
      by_cases hq : q < L.length
      · obtain ⟨b, o, rfl, hbB, hc⟩ := H.out.2.1.at_ (i := q) hq
        have hkeep : ∀ p : Addr, p.block < B → wr.cell? p = w.cell? p := fun p hp => hb.cell (by omega)
        have hc := hc.keep hbB hkeep
        have hRx := (H.out.2.2.1 _ (List.getElem_mem hq)).keep hkeep
        have hst := useL_step s hq
        have hnx : (L[q]).nodes ≤ nodesS L := nodesS_le (List.getElem_mem hq)
        obtain ⟨x, hxe⟩ : ∃ x, L[q] = x := ⟨_, rfl⟩
        rw [hxe] at hc hRx hst hnx
        have hxn := x.nodes_eq
        have hfx : x.blocks.length ≤ 1048576 := hRx.fits
        have hblk := fun (b : BlockR) (hb : b ∈ x.blocks) => hRx.block hb
        have hrowx := hRx.row
        have hsame := same_name x.name s
        generalize hu : useL s (L.take q) = u0 at *
        obtain ⟨a0, d0, r0, rfl⟩ : ∃ a d r, u0 = useN a d r := ⟨_, _, _, hu.symm⟩
        have hRe := hRx.e
        obtain ⟨kind, name, ⟨ek, en, ename, eA, ec, ekids⟩, xn, xA, xc, blocks⟩ := x
        obtain ⟨x0, x1, x2, x3, x4, x5, x6, x7⟩ := hc
        simp only [StatR.kind, StatR.name, StatR.e, StatR.n, StatR.bA, StatR.bc, StatR.blocks, ExprR.kind, ExprR.n, ExprR.name, ExprR.sA, ExprR.sc, ExprR.kids] at x0 x1 x2 x3 x4 x5 x6 x7 hfx hblk hrowx hst hsame hRe hxn
        have hzb := hb.size
        have HE := Lib.hid (And.intro hb (And.intro hRe (And.intro hblk (And.intro hrowx (And.intro hst (And.intro hxn (And.intro hnx hu))))))); clear hb hRx hRe hblk hrowx hst hxn hnx hu hkeep hxe
        go_upto_region 6 with (fail)
        generalize hW : wr.alloc (.cells #[.int .i64 kind, .string name, .int .i64 ek, .int .i64 en, .string ename, .slice eA ekids.length ec, .int .i64 xn, .slice xA blocks.length xc] 49) = W
        obtain ⟨hbw, hzW, hxw⟩ := box_factsN (c := [.int .i64 kind, .string name, .int .i64 ek, .int .i64 en, .string ename, .slice eA ekids.length ec, .int .i64 xn, .slice xA blocks.length xc]) hW
        clear hW x0 x1 x2 x3 x4 x5 x6 x7
        have y0 := hxw.cell 0
        have y1 := hxw.cell 1
        have y2 := hxw.cell 2
        have y3 := hxw.cell 3
        have y4 := hxw.cell 4
        have y5 := hxw.cell 5
        have y7 := hxw.cell 7
        simp at y0 y1 y2 y3 y4 y5 y7
        have H1 := Lib.hid hbw; clear hbw hxw
        go_cut [27] (fun s27 wc => s27 = .bool (decide (kind = 1) && decide (name = s)) ∧ W = wc)
        case first => as_aux_lemma =>
          by_cases hn : name = s
          · replace hsame := hsame.trans (decide_eq_true hn)
            by_cases hk : kind = 1
            · have hk1 : (kind == 1) = true := by simp [hk]
              have HN := Lib.hid (And.intro hn hk); clear hn hk
              go_wp2_with fail
              go_meet
              case rel => exact ⟨by rw [decide_eq_true HN.out.1, decide_eq_true HN.out.2]; rfl, rfl⟩
            · have hk1 : (kind == 1) = false := by simp [hk]
              have HN := Lib.hid (And.intro hn hk); clear hn hk
              go_wp2_with fail
              go_meet
              case rel => exact ⟨by rw [decide_eq_false HN.out.2]; rfl, rfl⟩
          · replace hsame := hsame.trans (decide_eq_false hn)
            have HN := Lib.hid hn; clear hn
            go_wp2_with fail
            go_meet
            case rel => exact ⟨by rw [decide_eq_false HN.out, Bool.and_false], rfl⟩
        obtain ⟨rfl, rfl⟩ := hcut
        generalize hh1 : (decide (kind = 1) && decide (name = s)) = h1
        have Hh1 := Lib.hid hh1; clear hh1
        go_upto_if 27 with (fail)
        go_cut [5] (fun s5 wc => s5 = .int .i64 (useN (a0 || h1) d0 r0) ∧ W = wc)
        case first => as_aux_lemma =>
          cases h1
          · go_wp2_with fail
            go_meet
            case rel => exact ⟨by simp, rfl⟩
          · have ho := useN_or a0 d0 r0 true false false
            go_wp2_with fail
            go_meet
            case rel => exact ⟨by simpa [useN] using ho, rfl⟩
        obtain ⟨rfl, rfl⟩ := hcut
        go_upto_region 8 with (fail)
        go_cut [38] (fun s27 wc => s27 = .bool (decide (kind = 2) && decide (name = s)) ∧ W = wc)
        case first => as_aux_lemma =>
          by_cases hn : name = s
          · replace hsame := hsame.trans (decide_eq_true hn)
            by_cases hk : kind = 2
            · have hk1 : (kind == 2) = true := by simp [hk]
              have HN := Lib.hid (And.intro hn hk); clear hn hk
              go_wp2_with fail
              go_meet
              case rel => exact ⟨by rw [decide_eq_true HN.out.1, decide_eq_true HN.out.2]; rfl, rfl⟩
            · have hk1 : (kind == 2) = false := by simp [hk]
              have HN := Lib.hid (And.intro hn hk); clear hn hk
              go_wp2_with fail
              go_meet
              case rel => exact ⟨by rw [decide_eq_false HN.out.2]; rfl, rfl⟩
          · replace hsame := hsame.trans (decide_eq_false hn)
            have HN := Lib.hid hn; clear hn
            go_wp2_with fail
            go_meet
            case rel => exact ⟨by rw [decide_eq_false HN.out, Bool.and_false], rfl⟩
        obtain ⟨rfl, rfl⟩ := hcut
        generalize hh2 : (decide (kind = 2) && decide (name = s)) = h2
        have Hh2 := Lib.hid hh2; clear hh2
        go_upto_if 38 with (fail)
        go_cut [5] (fun s5 wc => s5 = .int .i64 (useN (a0 || h1) (d0 || h2) r0) ∧ W = wc)
        case first => as_aux_lemma =>
          cases h2
          · go_wp2_with fail
            go_meet
            case rel => exact ⟨by simp, rfl⟩
          · have ho := useN_or (a0 || h1) d0 r0 false true false
            go_wp2_with fail
            go_meet
            case rel => exact ⟨by simpa [useN] using ho, rfl⟩
        obtain ⟨rfl, rfl⟩ := hcut
        obtain ⟨re, hre⟩ : ∃ t, memB s (ExprR.mk ek en ename eA ec ekids).names = t := ⟨_, rfl⟩
        have hcall := reads_any (.mk ek en ename eA ec ekids) W B s (HE.out.2.1.under (H1.out.mono (by omega))) (by have := H1.out.size; omega)
        rw [hre] at hcall
        have HC := Lib.hid (And.intro hcall hre); clear hcall hre hsame y0 y1
        go_upto_if 44 with (go_at_call 63; (
          refine (show Calls _ _ _ _ _ from HC.out.1).mono ?_
          rintro E w2 ⟨rfl, hb2⟩
          have y7 : w2.cell? ⟨wr.heap.size, 7, none⟩ = some (.slice xA blocks.length xc) := (hb2.cell (p := ⟨wr.heap.size, 7, none⟩) (by show wr.heap.size < _; omega)).trans y7
          have hz2 := hb2.size
          have HB2 := Lib.hid hb2; clear hb2))
        go_cut [5] (fun s5 wc => s5 = .int .i64 (useN (a0 || h1) (d0 || h2) (r0 || re)) ∧ w2 = wc)
        case first => as_aux_lemma =>
          cases re
          · go_wp2_with fail
            go_meet
            case rel => exact ⟨by simp, rfl⟩
          · have ho := useN_or (a0 || h1) (d0 || h2) r0 false false true
            go_wp2_with fail
            go_meet
            case rel => exact ⟨by simpa [useN] using ho, rfl⟩
        obtain ⟨rfl, rfl⟩ := hcut
        have hcmb : useN (a0 || h1) (d0 || h2) (r0 || re) = bits .or .i64 (useN a0 d0 r0) (useN h1 h2 re) := (useN_or _ _ _ _ _ _).symm
        have hfin : useL s (L.take (q + 1)) = bits .or .i64 (useN (a0 || h1) (d0 || h2) (r0 || re)) (useB s blocks) := by
          rw [HE.out.2.2.2.2.1, hcmb, ← Hh1.out, ← Hh2.out, ← HC.out.2]
          rfl
        obtain ⟨a1, ha1⟩ : ∃ t, (a0 || h1) = t := ⟨_, rfl⟩
        obtain ⟨d1, hd1⟩ : ∃ t, (d0 || h2) = t := ⟨_, rfl⟩
        obtain ⟨r1, hr1⟩ : ∃ t, (r0 || re) = t := ⟨_, rfl⟩
        rw [ha1, hd1, hr1] at hfin
        rw [ha1, hd1, hr1]
        have HF := Lib.hid hfin; clear hfin hcmb ha1 hd1 hr1
        clear y2 y3 y4 y5
        obtain ⟨gq, hgg⟩ : ∃ g, g = gk := ⟨_, rfl⟩
        have HG := Lib.hid hgg; clear hgg
        obtain ⟨wq, hwq⟩ : ∃ v, v = wr := ⟨_, rfl⟩
        subst hwq
        go_wp2_with fail
        go_loopg [5, 8] blocks.length (fun gk s5 i8 wr => ∃ k : Nat, gk + k = blocks.length ∧ s5 = .int .i64 (bits .or .i64 (useN a1 d1 r1) (useB s (blocks.take k))) ∧ i8 = .int .i64 k ∧ Below w2.heap.size w2 wr)
        case atStart => exact ⟨0, by omega, by rw [List.take_zero]; simp [useB, assignsB, addsB, readsB, memB_nil, useN_or], rfl, Below.refl _ _⟩
        case round =>
          obtain ⟨k, hgk, rfl, rfl, hbr⟩ := hrel
          have hzr := hbr.size
          have y7r : wr.cell? ⟨wq.heap.size, 7, none⟩ = some (.slice xA blocks.length xc) := (hbr.cell (p := ⟨wq.heap.size, 7, none⟩) (by show wq.heap.size < _; omega)).trans y7
          by_cases hk : k < blocks.length
          · obtain ⟨b2, o2, rfl, hb2B, hcell⟩ := HE.out.2.2.2.1.at_ (i := k) hk
            have hB2 : Below wq.heap.size wq wr := (H1.out.trans (HB2.out.mono (by omega))).trans (hbr.mono (by omega))
            have hcell : wr.cell? ⟨b2, o2 + k, none⟩ = some (blocks[k]).val := (hB2.cell (p := ⟨b2, o2 + k, none⟩) (by show b2 < _; have := HE.out.1.size; omega)).trans hcell
            have hRb := (HE.out.2.2.1 _ (List.getElem_mem hk)).under (hB2.mono (by have := HE.out.1.size; omega))
            have hnb := nodesB_le (List.getElem_mem hk)
            have hst := useB_step s hk
            have hnx := HE.out.2.2.2.2.2.2.1
            have hxn := HE.out.2.2.2.2.2.1
            obtain ⟨y, hye⟩ : ∃ y, blocks[k] = y := ⟨_, rfl⟩
            rw [hye] at hcell hRb hnb hst
            have hye1 := y.nodes_eq
            have hcall := H.out.1 y wr B s (by have := H.out.2.2.2; omega) hRb (by have := HE.out.1.size; have := hB2.size; omega)
            obtain ⟨yA, yc, yl⟩ := y
            simp only [BlockR.val, BlockR.l, BlockR.A, BlockR.c] at hcell hcall hst
            obtain ⟨A3, D3, R3, hu3⟩ : ∃ a d r, useL s yl = useN a d r := ⟨_, _, _, rfl⟩
            obtain ⟨A4, D4, R4, hu4⟩ : ∃ a d r, useB s (blocks.take k) = useN a d r := ⟨_, _, _, rfl⟩
            rw [hu3] at hcall hst
            rw [hu4] at hst
            rw [hu4, useN_or]
            have ho := useN_or (a1 || A4) (d1 || D4) (r1 || R4) A3 D3 R3
            have hfin : bits .or .i64 (useN a1 d1 r1) (useB s (blocks.take (k + 1))) = useN (a1 || A4 || A3) (d1 || D4 || D3) (r1 || R4 || R3) := by
              rw [hst, useN_or, useN_or]; simp [Bool.or_assoc]
            have HR := Lib.hid (And.intro hbr (And.intro hcall hfin)); clear hbr hcall hst hB2 hRb hnb hnx hxn hye hye1 hu3 hu4 hfin y7
            go_wp2_with (go_at_call 40; (
              refine (show Calls _ _ _ _ _ from HR.out.2.1).mono ?_
              rintro E w3 ⟨rfl, hb3⟩
              have HB3 := Lib.hid hb3; clear hb3))
            go_roundg (gk - 1)
            case measure => omega
            case rel => exact ⟨k + 1, by omega, by rw [HR.out.2.2], by go_num, HR.out.1.trans (HB3.out.mono HR.out.1.size)⟩
          · obtain rfl : k = blocks.length := by omega
            have HB3 := Lib.hid hbr; clear hbr
            go_wp2_with fail
            go_roundg (gq - 1)
            case measure => have := HG.out; omega
            case rel => exact ⟨q + 1, by have := HG.out; omega, by rw [HF.out, List.take_length], by go_num, HE.out.1.trans ((H1.out.trans ((HB2.out.trans (HB3.out.mono HB2.out.size)).mono H1.out.size)).mono HE.out.1.size)⟩
      · have hend : L.take q = L := List.take_of_length_le (by omega)
        rw [hend]
        have H5 := Lib.hid hb; clear hb hend
        go_wp2_with fail
        go_ret
        exact ⟨rfl, H5.out⟩
end Go.Proofs.YtgiceeholamphaaDoor
