/- The contract of stepref.run: it does what a program means. No conditions but that what is read is there, is a program, can be counted, and that its names are among the variables. -/
import Derived.Test.YtgiceeholamphaaRefRL
namespace Go.Proofs.Ytgiceeholamphaa
open Go.ChangeShapes Go.WideShapes Go.ChangeAt Go.RowKit Go.Maps

theorem headRun_at {l : List BlockR} (h : 0 < l.length) (st : St) : headRun l st = runS l[0].l st := by
  match l, h with
  | b :: l, _ => rw [headRun_cons]; rfl
theorem tailRun_two {l : List BlockR} (h : 1 < l.length) (h2 : l.length ≤ 2) (st : St) : tailRun l st = runS l[1].l st := by
  match l, h, h2 with
  | [a, b], _, _ => rw [tailRun_cons, runB_one]; rfl
theorem tailRun_one {l : List BlockR} (h : 1 ≤ l.length) (h2 : ¬ 1 < l.length) (st : St) : tailRun l st = some st := by
  match l, h, h2 with
  | [a], _, _ => rw [tailRun_cons, runB_nil]
  | _ :: _ :: _, _, h => simp at h
theorem iter_ok {g : St → Option St} {L : List StatR} (hg : ∀ st, g st = runS L st) {st st' : St} {n : Nat} (hd : Dom st.1 (wrS L)) (h : iterO g n st = some st') : Down st st' := by
  induction n generalizing st with
  | zero => cases h; exact Down.refl _
  | succ n ih =>
    rw [iterO] at h
    cases hq : g st with
    | none => rw [hq] at h; cases h
    | some s =>
      rw [hq] at h
      have h1 : Down st s := AllS.down hd (by rw [← hg]; exact hq)
      exact h1.trans (ih (hd.down h1) h)
theorem run_out (x : StatR) (st : St) (hk : x.kind ≤ 3) (h : st.2 = 0) : x.run st = none := by rw [x.run_eq, if_pos hk, if_pos h]
theorem run_assign (x : StatR) (st : St) (hk : x.kind = 1) (h : st.2 ≠ 0) : x.run st = some (upd st.1 x.name (x.e.ev st.1), st.2 - 1) := by rw [x.run_eq, if_pos (by omega), if_neg h, if_pos hk]
theorem run_add (x : StatR) (st : St) (hk : x.kind = 2) (h : st.2 ≠ 0) : x.run st = some (upd st.1 x.name (wrap64 ((st.1 x.name).getD 0 + x.e.ev st.1)), st.2 - 1) := by rw [x.run_eq, if_pos (by omega), if_neg h, if_neg (by omega), if_pos hk]
set_option maxRecDepth 100000 in
set_option maxHeartbeats 8000000 in
theorem refrun_step (n : Nat) (ih : RunC n) : RunC (n + 1) := by
  intro k w B base v N f left hN hR hA hB1 hB2 hO hH hdom hlf hNl
  obtain ⟨A, c, L⟩ := k
  simp only [BlockR.l] at hN hA hdom
  obtain ⟨vA, vc, rfl, _, _⟩ := own_form hO
  have hOl := hO.lt
  have hrow : RowS w B A L := hR.row
  have heach : ∀ x ∈ L, RdS w B x := hR.each
  have hfit : L.length ≤ 1048576 := hR.fits
  have H := Lib.hid (And.intro ih (And.intro hN (And.intro hrow (And.intro heach (And.intro hA (And.intro hO (And.intro hH (And.intro hdom hOl)))))))); clear ih hN hrow heach hA hO hH hdom hR hOl
  show Calls Try.prog 15 #[.slice A L.length c, .slice vA N.length vc, .int .i64 left] w (RunPost (runS L (f, left)) base (.slice vA N.length vc) N w)
  go_enter Try.func15, Try.ntmps15
  go_wp2_with fail
  go_loopg [2, 7] (L.length + 1) (fun gk s2 i wr => ∃ (q : Nat) (r : Int), gk + q = L.length + 1 ∧ q ≤ L.length ∧ s2 = .int .i64 r ∧ i = .int .i64 q ∧ Stt wr base (.slice vA N.length vc) N r (runS (L.take q) (f, left)) ∧ w.grownBy wr (Value.slice vA N.length vc).ownBlock)
  case atStart => exact ⟨0, left, by omega, by omega, rfl, rfl, by rw [List.take_zero, runS_nil]; exact ⟨rfl, H.out.2.2.2.2.2.1⟩, World.grownBy.refl _ _⟩
  case round =>
    obtain ⟨q, r, hgq, hql, rfl, rfl, hS, hk⟩ := hrel
    by_cases hq : q < L.length
    · cases hr : runS (L.take q) (f, left) with
      | none =>
        rw [hr] at hS
        have hr0 : r < 0 := hS
        have hge : decide (r ≥ 0) = false := decide_eq_false (by omega)
        have H1 := Lib.hid (And.intro hk (And.intro hr hr0)); clear hk hr hr0 hS
        go_wp2_with fail
        go_ret
        exact ⟨r, rfl, H1.out.1, by rw [runS_none H1.out.2.1]; exact H1.out.2.2⟩
      | some s =>
        rw [hr] at hS
        obtain ⟨rfl, hO⟩ := hS
        have hdn := AllS.down (H.out.2.2.2.2.2.2.2.1.sub wrS_take) hr
        obtain ⟨f1, l1⟩ := s
        have hH1 : Has N f1 := H.out.2.2.2.2.2.2.1.dom hdn.dom
        have hl1 : l1 ≤ left := hdn.le
        obtain ⟨b, o, rfl, hbB, hx⟩ := H.out.2.2.1.at_ (i := q) hq
        have hBk : Below B w wr := gb_base hk (by omega) (fun k e => by have := H.out.2.2.2.2.2.2.2.2 k e; omega)
        have hx := hx.keep (w' := wr) hbB fun p hp => hBk.cell hp
        have hRx := (H.out.2.2.2.1 _ (List.getElem_mem hq)).under hBk
        have hAx := H.out.2.2.2.2.1 _ (List.getElem_mem hq)
        have hdx : Dom f1 ((L[q]).assigns ++ (L[q]).adds) := (H.out.2.2.2.2.2.2.2.1.sub (wrS_mem (List.getElem_mem hq))).down hdn
        have hnx : (L[q]).nodes ≤ nodesS L := nodesS_le (List.getElem_mem hq)
        have hnext := runS_take hq (f, left)
        rw [hr] at hnext
        have hnext : runS (L.take (q + 1)) (f, left) = (L[q]).run (f1, l1) := hnext
        obtain ⟨x, hxe⟩ : ∃ x, L[q] = x := ⟨_, rfl⟩
        rw [hxe] at hx hRx hAx hdx hnx hnext
        have hrx := x.run_eq (f1, l1)
        have hfx : x.blocks.length ≤ 1048576 := hRx.fits
        have hnodes := x.nodes_eq
        have hdbl : ∀ s ∈ wrB x.blocks, s ∈ x.assigns ++ x.adds := wr_blocks
        have hokE : AllE x.e ∨ noneE x.e := by
          by_cases k3 : x.kind ≤ 3
          · exact .inl (hAx.e k3)
          · rcases hAx.ok with h' | h' | h' | h'
            · have := h'.1; omega
            · have := h'.1; omega
            · exact .inr h'.2.2.2.2.2
            · exact .inr h'.2.2.2.2.2
        have hok := hAx.ok
        have hzw := hk.size
        obtain ⟨kind, name, ⟨ek, en, ename, eA, ec, ekids⟩, xn, xA, xc, blocks⟩ := x
        obtain ⟨x0, x1, x2, x3, x4, x5, x6, x7⟩ := hx
        simp only [StatR.kind, StatR.name, StatR.e, StatR.n, StatR.bA, StatR.bc, StatR.blocks, ExprR.kind, ExprR.n, ExprR.name, ExprR.sA, ExprR.sc, ExprR.kids] at x0 x1 x2 x3 x4 x5 x6 x7 hfx hnodes hdbl
        have hbr : b < wr.heap.size := by omega
        have HE := Lib.hid (And.intro hr (And.intro hO (And.intro hk (And.intro hRx (And.intro hAx (And.intro hdx (And.intro hnx (And.intro hnext (And.intro hrx (And.intro hnodes (And.intro hdbl (And.intro hH1 hBk)))))))))))); clear hr hO hk hRx hAx hdx hnx hnext hrx hnodes hdbl hH1 hBk hdn hxe
        go_upto_region 5 with (fail)
        generalize hW : wr.alloc (.cells #[.int .i64 kind, .string name, .int .i64 ek, .int .i64 en, .string ename, .slice eA ekids.length ec, .int .i64 xn, .slice xA blocks.length xc] 34) = W
        obtain ⟨hbw, hzW, hxw⟩ := box_facts (c := [.int .i64 kind, .string name, .int .i64 ek, .int .i64 en, .string ename, .slice eA ekids.length ec, .int .i64 xn, .slice xA blocks.length xc]) hW
        clear hW
        have hOW := own_below HE.out.2.1 hbw
        obtain ⟨A1, c1, e1, hrow1⟩ := own_rowV hOW
        injection e1 with e1 e2 e3
        subst e1 e3
        have hwo := worth_any (.mk ek en ename eA ec ekids) W B vA vc N f1 ((HE.out.2.2.2.1.e).under (hbw.mono (by omega))) hokE (by omega) hrow1 HE.out.2.2.2.2.2.2.2.2.2.2.2.1 (by omega)
        generalize hnv : (ExprR.mk ek en ename eA ec ekids).ev f1 = nv at *
        have y0 := hxw.cell 0
        have y1 := hxw.cell 1
        have y2 := hxw.cell 2
        have y3 := hxw.cell 3
        have y4 := hxw.cell 4
        have y5 := hxw.cell 5
        have y6 := hxw.cell 6
        have y7 := hxw.cell 7
        simp at y0 y1 y2 y3 y4 y5 y6 y7
        have H1 := Lib.hid (And.intro hbw (And.intro hOW (And.intro hwo hnv))); clear hbw hOW hwo hnv hxw hrow1 e2 hokE
        clear x0 x1 x2 x3 x4 x5 x6 x7
        go_upto_if 33 with (go_at_call 30; (
          refine (show Calls _ _ _ _ _ from H1.out.2.2.1).mono ?_
          rintro E w5 ⟨rfl, hb5⟩
          rw [H1.out.2.2.2]
          have hx5 : w5.cell? ⟨wr.heap.size, 0, none⟩ = some (.int .i64 kind) := (hb5.cell (p := ⟨wr.heap.size, 0, none⟩) (by omega : wr.heap.size < W.heap.size)).trans y0
          have hz5 := hb5.size
          have H5 := Lib.hid hb5; clear hb5))
        have hlr : (l1 : Int) ≤ 9223372036854775807 := by omega
        go_cut [2] (fun s2 wc => s2 = .int .i64 (if kind ≤ 3 then (l1 : Int) - 1 else l1) ∧ w5 = wc)
        case first => as_aux_lemma =>
          by_cases k3 : kind ≤ 3
          · have e3 : decide (kind ≤ 3) = true := decide_eq_true k3
            go_wp2_with fail
            go_meet
            case rel => exact ⟨by rw [if_pos k3], rfl⟩
          · have e3 : decide (kind ≤ 3) = false := decide_eq_false k3
            have K3 := Lib.hid k3; clear k3
            go_wp2_with fail
            go_meet
            case rel => exact ⟨by rw [if_neg (by have := K3.out; omega)], rfl⟩
        case rest =>
          obtain ⟨rfl, rfl⟩ := hcut
          by_cases hz : kind ≤ 3 ∧ l1 = 0
          · obtain ⟨k3, rfl⟩ := hz
            have hrx0 : (StatR.mk kind name (.mk ek en ename eA ec ekids) xn xA xc blocks).run (f1, 0) = none := run_out _ _ k3 rfl
            have hnone : runS L (f, left) = none := runS_none (q := q + 1) (by rw [HE.out.2.2.2.2.2.2.2.1]; exact hrx0)
            rw [if_pos k3]
            have H6 := Lib.hid hnone; clear hnone hrx0
            go_wp2_with fail
            go_ret
            exact ⟨-1, rfl, gb_trans HE.out.2.2.1 (gb_below (gb_below (World.grownBy.refl _ _) H1.out.1) H5.out), by rw [H6.out]; show (-1 : Int) < 0; omega⟩
          obtain ⟨l2, hl2, hl2'⟩ : ∃ l2 : Nat, (if kind ≤ 3 then (l1 : Int) - 1 else l1) = l2 ∧ l2 = (if kind ≤ 3 then l1 - 1 else l1) := by
            by_cases k3 : kind ≤ 3
            · exact ⟨l1 - 1, by rw [if_pos k3]; have : l1 ≠ 0 := fun h => hz ⟨k3, h⟩; omega, by rw [if_pos k3]⟩
            · exact ⟨l1, by rw [if_neg k3], by rw [if_neg k3]⟩
          rw [hl2]
          clear hl2
          have hl2le : l2 ≤ l1 := by rw [hl2']; split <;> omega
          have HL := Lib.hid (And.intro hl2' hz); clear hl2' hz
          have hokk := hok
          generalize hf2 : aftF kind name nv f1 = f2
          have hX : ∀ g, (Value.slice vA N.length vc).ownBlock = some g → g < wr.heap.size := fun g e => (HE.out.2.1.lt g e).2
          have hOW5 := own_below H1.out.2.1 H5.out
          obtain ⟨wo, hwo⟩ : ∃ wo : World, wo = wr := ⟨_, rfl⟩
          obtain ⟨go, hgo⟩ : ∃ go, go = gk := ⟨_, rfl⟩
          subst hwo
          have z0 := (H5.out.cell (p := ⟨wo.heap.size, 0, none⟩) (by omega : wo.heap.size < W.heap.size)).trans y0
          have z1 := (H5.out.cell (p := ⟨wo.heap.size, 1, none⟩) (by omega : wo.heap.size < W.heap.size)).trans y1
          have z6 := (H5.out.cell (p := ⟨wo.heap.size, 6, none⟩) (by omega : wo.heap.size < W.heap.size)).trans y6
          have z7 := (H5.out.cell (p := ⟨wo.heap.size, 7, none⟩) (by omega : wo.heap.size < W.heap.size)).trans y7
          have HG := Lib.hid (And.intro hgo (And.intro hf2 (And.intro hX hOW5))); clear hgo hf2 hX hOW5
          clear y0 y1 y2 y3 y4 y5 y6 y7 hx5
          go_wp2_with fail
          go_loopg [10] N.length (fun gk i w6 => ∃ p : Nat, gk + p = N.length ∧ i = .int .i64 p ∧ w6.ownsRow base 36 2 (.slice vA N.length vc) N.length (cellsV (mixF N f2 f1 p)) ∧ w5.grownBy w6 (Value.slice vA N.length vc).ownBlock)
          case atStart => exact ⟨0, by omega, rfl, by rw [mixF_zero]; exact HG.out.2.2.2, World.grownBy.refl _ _⟩
          case round =>
            obtain ⟨p, hgp, rfl, ho6, hk6⟩ := hrel
            have hxk : ∀ i, wr.cell? ⟨wo.heap.size, i, none⟩ = w5.cell? ⟨wo.heap.size, i, none⟩ := fun i => World.cell?_of_block (a := ⟨wo.heap.size, i, none⟩) (hk6.block wo.heap.size (by omega) (fun e => by have := HG.out.2.2.1 _ e.symm; omega))
            have u0 := (hxk 0).trans z0
            have u1' := (hxk 1).trans z1
            have u6' := (hxk 6).trans z6
            have u7' := (hxk 7).trans z7
            clear z0 z1 z6 z7 hxk
            by_cases hp : p < N.length
            · as_aux_lemma =>
                obtain ⟨g, c', e, hbg, hgl, _⟩ := own_top ho6 (by omega)
                injection e with e1 e2 e3
                subst e1 e3
                obtain ⟨g0, g1⟩ := mixF_cells ho6 hp
                have hfz := ho6.frozenAt (p * 2 + 1)
                have hgX : ¬ (g = wo.heap.size) := by have := HG.out.2.2.1 g rfl; omega
                have hpl : (p : Int) < (N.length : Int) := by omega
                have hsame := same_name N[p] name
                have hput := mixF_put ho6 hp
                have hsk := mixF_same N f2 f1 hp
                have hgs : ∀ z : Value, w5.grownBy (wr.setCell ⟨g, p * 2 + 1, none⟩ z) (some g) := fun z => gb_set hk6 _ _
                obtain ⟨s, hse⟩ : ∃ s, N[p] = s := ⟨_, rfl⟩
                rw [hse] at g0 g1 hsame hput hsk
                have H6 := Lib.hid (And.intro ho6 (And.intro hk6 (And.intro hput (And.intro hsk hgs)))); clear ho6 hk6 hput hsk hse hgs
                by_cases hs : s = name
                · rw [decide_eq_true hs] at hsame
                  subst hs
                  by_cases k1 : kind = 1
                  · subst k1
                    have hv : f2 s = some nv := by rw [← HG.out.2.1]; exact upd_same _ _ _
                    have H7 := Lib.hid hv; clear hv
                    have g0' : (wr.setCell ⟨g, p * 2 + 1, none⟩ (.int .i64 nv)).cell? ⟨g, p * 2, none⟩ = some (.string s) := (World.cell?_setCell_other _ _ _ _ (by simp)).trans g0
                    go_wp2_with fail
                    go_region_held3 (fun w' => w'.cell? ⟨g, p * 2, none⟩ = some (.string s) ∧ w'.cell? ⟨wo.heap.size, 1, none⟩ = some (.string s) ∧ w'.cell? ⟨wo.heap.size, 0, none⟩ = some (.int .i64 1)) (go_keep) (fail)
                    go_wp2_with fail
                    go_region_held3 (fun w' => w'.cell? ⟨g, p * 2, none⟩ = some (.string s) ∧ w'.cell? ⟨wo.heap.size, 1, none⟩ = some (.string s) ∧ w'.cell? ⟨wo.heap.size, 0, none⟩ = some (.int .i64 1)) (go_keep) (fail)
                    go_wp2_with fail
                    go_roundg (gk - 1)
                    case measure => omega
                    case rel => exact ⟨p + 1, by omega, by go_num, H6.out.2.2.1 nv (by rw [H7.out]; rfl), gb_drew (gb_drew (H6.out.2.2.2.2 _))⟩
                  · by_cases k2 : kind = 2
                    · subst k2
                      have hv : f2 s = some (wrap64 ((f1 s).getD 0 + nv)) := by rw [← HG.out.2.1]; exact upd_same _ _ _
                      have H7 := Lib.hid hv; clear hv k1
                      go_wp2_with fail
                      go_region_held3 (fun w' => w'.cell? ⟨g, p * 2, none⟩ = some (.string s) ∧ w'.cell? ⟨wo.heap.size, 1, none⟩ = some (.string s) ∧ w'.cell? ⟨wo.heap.size, 0, none⟩ = some (.int .i64 2)) (go_keep) (fail)
                      go_wp2_with fail
                      go_region_held3 (fun w' => w'.cell? ⟨g, p * 2, none⟩ = some (.string s) ∧ w'.cell? ⟨wo.heap.size, 1, none⟩ = some (.string s) ∧ w'.cell? ⟨wo.heap.size, 0, none⟩ = some (.int .i64 2)) (go_keep) (fail)
                      go_wp2_with fail
                      go_roundg (gk - 1)
                      case measure => omega
                      case rel => exact ⟨p + 1, by omega, by go_num, H6.out.2.2.1 _ (by rw [H7.out]; rfl), gb_drew (gb_drew (H6.out.2.2.2.2 _))⟩
                    · have e1 : (kind == 1) = false := beq_eq_false_iff_ne.2 k1
                      have e2 : (kind == 2) = false := beq_eq_false_iff_ne.2 k2
                      have hv : f2 s = f1 s := by rw [← HG.out.2.1, aftF, if_neg k1, if_neg k2]
                      have H7 := Lib.hid hv; clear hv k1 k2
                      go_wp2_with fail
                      go_region_held3 (fun w' => w'.cell? ⟨g, p * 2, none⟩ = some (.string s) ∧ w'.cell? ⟨wo.heap.size, 1, none⟩ = some (.string s) ∧ w'.cell? ⟨wo.heap.size, 0, none⟩ = some (.int .i64 kind)) (go_keep) (fail)
                      go_wp2_with fail
                      go_region_held3 (fun w' => w'.cell? ⟨g, p * 2, none⟩ = some (.string s) ∧ w'.cell? ⟨wo.heap.size, 1, none⟩ = some (.string s) ∧ w'.cell? ⟨wo.heap.size, 0, none⟩ = some (.int .i64 kind)) (go_keep) (fail)
                      go_wp2_with fail
                      go_roundg (gk - 1)
                      case measure => omega
                      case rel => exact ⟨p + 1, by omega, by go_num, by rw [H6.out.2.2.2.1 (by rw [H7.out])]; exact H6.out.1, gb_drew (gb_drew H6.out.2.1)⟩
                · rw [decide_eq_false hs] at hsame
                  have hv : f2 s = f1 s := by rw [← HG.out.2.1, aftF_ne hs]
                  have hsl : ¬ (s.toList = name.toList) := fun e => hs (bytes_ext e)
                  have H7 := Lib.hid hv; clear hv
                  go_wp2_with fail
                  go_quiet (fail)
                  go_wp2_with fail
                  go_quiet (fail)
                  go_wp2_with fail
                  go_roundg (gk - 1)
                  case measure => omega
                  case rel => exact ⟨p + 1, by omega, by go_num, by rw [H6.out.2.2.2.1 (by rw [H7.out])]; exact H6.out.1, gb_drewN H6.out.2.1 _⟩
            · obtain rfl : p = N.length := by omega
              rw [mixF_end] at ho6
              have hbB6 : Below B wo wr := ((H1.out.1.mono (by omega)).trans ((H5.out.mono (by omega)).trans (gb_base hk6 (by omega) (fun k e => by have := H.out.2.2.2.2.2.2.2.2 k e; omega))))
              have hk6w : w.grownBy wr (Value.slice vA N.length vc).ownBlock := gb_trans HE.out.2.2.1 (gb_trans (gb_below (gb_below (World.grownBy.refl _ _) H1.out.1) H5.out) hk6)
              have hz6 := hk6.size
              have hRx6 := HE.out.2.2.2.1.under hbB6
              have H6 := Lib.hid (And.intro ho6 (And.intro hk6w (And.intro hbB6 hRx6))); clear ho6 hk6w hk6 hbB6 hRx6
              have hkk : kind = 1 ∨ kind = 2 ∨ kind = 3 ∨ kind = 4 ∨ kind = 5 := by rcases hok with h | h | h | h <;> (simp only [StatR.kind] at h; omega)
              rcases hkk with rfl | rfl | rfl | rfl | rfl
              · as_aux_lemma =>
                  have hR : (StatR.mk 1 name (.mk ek en ename eA ec ekids) xn xA xc blocks).run (f1, l1) = some (f2, l2) := by
                    rw [run_assign _ _ rfl (fun h => HL.out.2 ⟨by decide, h⟩), HL.out.1, ← HG.out.2.1]
                    show some (upd f1 name ((ExprR.mk ek en ename eA ec ekids).ev f1), l1 - 1) = _
                    rw [H1.out.2.2.2]; rfl
                  have H7 := Lib.hid hR; clear hR
                  go_wp2_with fail
                  go_roundg (go - 1)
                  case measure => have := HG.out.1; omega
                  case rel => have := HG.out.1; exact ⟨q + 1, l2, by omega, by omega, rfl, by go_num, by rw [HE.out.2.2.2.2.2.2.2.1, H7.out]; exact ⟨rfl, H6.out.1⟩, H6.out.2.1⟩
              · as_aux_lemma =>
                  have hR : (StatR.mk 2 name (.mk ek en ename eA ec ekids) xn xA xc blocks).run (f1, l1) = some (f2, l2) := by
                    rw [run_add _ _ rfl (fun h => HL.out.2 ⟨by decide, h⟩), HL.out.1, ← HG.out.2.1]
                    show some (upd f1 name (wrap64 ((f1 name).getD 0 + (ExprR.mk ek en ename eA ec ekids).ev f1)), l1 - 1) = _
                    rw [H1.out.2.2.2]; rfl
                  have H7 := Lib.hid hR; clear hR
                  go_wp2_with fail
                  go_roundg (go - 1)
                  case measure => have := HG.out.1; omega
                  case rel => have := HG.out.1; exact ⟨q + 1, l2, by omega, by omega, rfl, by go_num, by rw [HE.out.2.2.2.2.2.2.2.1, H7.out]; exact ⟨rfl, H6.out.1⟩, H6.out.2.1⟩
              · as_aux_lemma =>
                  obtain rfl : f2 = f1 := by rw [← HG.out.2.1]; exact aftF_ge _ _ _ (by decide)
                  have hbl : 1 ≤ blocks.length ∧ blocks.length ≤ 2 := by rcases hok with h | h | h | h <;> (simp only [StatR.kind, StatR.blocks] at h; omega)
                  have hl0 : l1 ≠ 0 := fun h => HL.out.2 ⟨by decide, h⟩
                  have hl2e : l2 = l1 - 1 := HL.out.1
                  obtain ⟨wv, hwv⟩ : ∃ wv : World, wv = wr := ⟨_, rfl⟩
                  subst hwv
                  by_cases hpos : 0 < nv
                  · have hR : (StatR.mk 3 name (.mk ek en ename eA ec ekids) xn xA xc blocks).run (f2, l1) = runS blocks[0].l (f2, l2) := by
                      rw [run_then _ _ rfl hl0 (by show 0 < (ExprR.mk ek en ename eA ec ekids).ev f2; rw [H1.out.2.2.2]; exact hpos), hl2e]
                      exact headRun_at hbl.1 _
                    clear hl2e
                    obtain ⟨bb, oo, e0, hbB2, hx2⟩ := H6.out.2.2.2.row.at_ (i := 0) hbl.1
                    simp only [StatR.bA, StatR.blocks, Nat.add_zero] at e0 hx2
                    subst e0
                    have hcall := H.out.1 blocks[0] wv B base _ N f2 l2 (by have h1 := nodesB_le (List.getElem_mem (l := blocks) hbl.1); rw [BlockR.nodes_eq] at h1; have h2 := HE.out.2.2.2.2.2.2.2.2.2.1; have h3 := HE.out.2.2.2.2.2.2.1; have h4 := H.out.2.1; omega) (H6.out.2.2.2.block (b := blocks[0]) (List.getElem_mem hbl.1)) (fun y hy => HE.out.2.2.2.2.1.in_ (b := blocks[0]) (List.getElem_mem hbl.1) hy) hB1 (by omega) H6.out.1 HE.out.2.2.2.2.2.2.2.2.2.2.2.1 (HE.out.2.2.2.2.2.1.sub fun t ht => HE.out.2.2.2.2.2.2.2.2.2.2.1 t (wrB_mem (List.getElem_mem hbl.1) t ht)) (by omega) hNl
                    have hpos' : decide (nv > 0) = true := decide_eq_true hpos
                    generalize hbr : blocks[0] = br at *
                    obtain ⟨bA, bc, bl⟩ := br
                    simp only [BlockR.l, BlockR.val, BlockR.A, BlockR.c] at hx2 hcall hR
                    have H7 := Lib.hid (And.intro hcall hR); clear hcall hR hbr
                    go_wp2_with (go_at_call 15; (
                      refine (show Calls _ _ _ _ _ from H7.out.1).mono ?_
                      rintro E w7 ⟨r, rfl, hk7, hs7⟩
                      have H8 := Lib.hid (And.intro hk7 hs7); clear hk7 hs7))
                    go_roundg (go - 1)
                    case measure => have := HG.out.1; omega
                    case rel => have := HG.out.1; exact ⟨q + 1, r, by omega, by omega, rfl, by go_num, by rw [HE.out.2.2.2.2.2.2.2.1, H7.out.2]; exact H8.out.2, gb_trans H6.out.2.1 H8.out.1⟩
                  · have hpos' : decide (nv > 0) = false := decide_eq_false hpos
                    have hR0 : (StatR.mk 3 name (.mk ek en ename eA ec ekids) xn xA xc blocks).run (f2, l1) = tailRun blocks (f2, l2) := by
                      rw [run_else _ _ rfl hl0 (by show ¬ 0 < (ExprR.mk ek en ename eA ec ekids).ev f2; rw [H1.out.2.2.2]; exact hpos), hl2e]; rfl
                    clear hl2e
                    by_cases hb2 : 1 < blocks.length
                    · have hR : (StatR.mk 3 name (.mk ek en ename eA ec ekids) xn xA xc blocks).run (f2, l1) = runS blocks[1].l (f2, l2) := by
                        rw [hR0]
                        exact tailRun_two hb2 hbl.2 _
                      obtain ⟨bb, oo, e0, hbB2, hx2⟩ := H6.out.2.2.2.row.at_ (i := 1) hb2
                      simp only [StatR.bA, StatR.blocks] at e0 hx2
                      subst e0
                      have hcall := H.out.1 blocks[1] wv B base _ N f2 l2 (by have h1 := nodesB_le (List.getElem_mem (l := blocks) hb2); rw [BlockR.nodes_eq] at h1; have h2 := HE.out.2.2.2.2.2.2.2.2.2.1; have h3 := HE.out.2.2.2.2.2.2.1; have h4 := H.out.2.1; omega) (H6.out.2.2.2.block (b := blocks[1]) (List.getElem_mem hb2)) (fun y hy => HE.out.2.2.2.2.1.in_ (b := blocks[1]) (List.getElem_mem hb2) hy) hB1 (by omega) H6.out.1 HE.out.2.2.2.2.2.2.2.2.2.2.2.1 (HE.out.2.2.2.2.2.1.sub fun t ht => HE.out.2.2.2.2.2.2.2.2.2.2.1 t (wrB_mem (List.getElem_mem hb2) t ht)) (by omega) hNl
                      have hbl2 : decide ((blocks.length : Int) > 1) = true := decide_eq_true (by omega)
                      generalize hbr : blocks[1] = br at *
                      obtain ⟨bA, bc, bl⟩ := br
                      simp only [BlockR.l, BlockR.val, BlockR.A, BlockR.c] at hx2 hcall hR
                      have H7 := Lib.hid (And.intro hcall hR); clear hcall hR hbr hR0
                      go_wp2_with (go_at_call 15; (
                        refine (show Calls _ _ _ _ _ from H7.out.1).mono ?_
                        rintro E w7 ⟨r, rfl, hk7, hs7⟩
                        have H8 := Lib.hid (And.intro hk7 hs7); clear hk7 hs7))
                      go_roundg (go - 1)
                      case measure => have := HG.out.1; omega
                      case rel => have := HG.out.1; exact ⟨q + 1, r, by omega, by omega, rfl, by go_num, by rw [HE.out.2.2.2.2.2.2.2.1, H7.out.2]; exact H8.out.2, gb_trans H6.out.2.1 H8.out.1⟩
                    · have hbl2 : decide ((blocks.length : Int) > 1) = false := decide_eq_false (by omega)
                      have hR : (StatR.mk 3 name (.mk ek en ename eA ec ekids) xn xA xc blocks).run (f2, l1) = some (f2, l2) := by
                        rw [hR0]
                        exact tailRun_one hbl.1 hb2 _
                      have H7 := Lib.hid hR; clear hR hR0
                      go_wp2_with fail
                      go_roundg (go - 1)
                      case measure => have := HG.out.1; omega
                      case rel => have := HG.out.1; exact ⟨q + 1, l2, by omega, by omega, rfl, by go_num, by rw [HE.out.2.2.2.2.2.2.2.1, H7.out]; exact ⟨rfl, H6.out.1⟩, H6.out.2.1⟩
              · as_aux_lemma =>
                  obtain rfl : f2 = f1 := by rw [← HG.out.2.1]; exact aftF_ge _ _ _ (by decide)
                  have hbl : blocks.length = 1 := by rcases hok with h | h | h | h <;> (simp only [StatR.kind, StatR.blocks] at h; omega)
                  have hb0 : 0 < blocks.length := by omega
                  have hxn : 0 ≤ xn ∧ xn ≤ 1000 := by rcases hok with h | h | h | h <;> (simp only [StatR.kind, StatR.n] at h; omega)
                  have hl2e : l2 = l1 := HL.out.1
                  have hR0 : (StatR.mk 4 name (.mk ek en ename eA ec ekids) xn xA xc blocks).run (f2, l1) = iterO (headRun blocks) xn.toNat (f2, l2) := by rw [run_loop _ _ rfl, hl2e]; rfl
                  clear hl2e
                  obtain ⟨bb, oo, e0, hbB2, hx2⟩ := H6.out.2.2.2.row.at_ (i := 0) hb0
                  simp only [StatR.bA, StatR.blocks, Nat.add_zero] at e0 hx2
                  subst e0
                  have hhd : ∀ st, headRun blocks st = runS blocks[0].l st := fun st => headRun_at hb0 st
                  have hRb := H6.out.2.2.2.block (b := blocks[0]) (List.getElem_mem hb0)
                  have hAb : AllL blocks[0].l := fun y hy => HE.out.2.2.2.2.1.in_ (b := blocks[0]) (List.getElem_mem hb0) hy
                  have hDb : Dom f2 (wrS blocks[0].l) := HE.out.2.2.2.2.2.1.sub fun t ht => HE.out.2.2.2.2.2.2.2.2.2.2.1 t (wrB_mem (List.getElem_mem hb0) t ht)
                  have hnb : nodesS blocks[0].l < n := by have h1 := nodesB_le (List.getElem_mem (l := blocks) hb0); rw [BlockR.nodes_eq] at h1; have h2 := HE.out.2.2.2.2.2.2.2.2.2.1; have h3 := HE.out.2.2.2.2.2.2.1; have h4 := H.out.2.1; omega
                  obtain ⟨wv, hwv⟩ : ∃ wv : World, wv = wr := ⟨_, rfl⟩
                  subst hwv
                  have hst := stepped_any n blocks[0] wv B hnb hRb
                  have hok0 : ∀ (m : Nat) (st' : St), iterO (headRun blocks) m (f2, l2) = some st' → Down (f2, l2) st' := fun m st' h => iter_ok hhd hDb h
                  generalize hbr : blocks[0] = br at *
                  obtain ⟨bA, bc, bl⟩ := br
                  simp only [BlockR.l, BlockR.val, BlockR.A, BlockR.c] at hx2 hst hhd hAb hDb hnb
                  cases hsd : steppedS bl with
                  | false =>
                    rw [hsd] at hst
                    have hR : (StatR.mk 4 name (.mk ek en ename eA ec ekids) xn (some ⟨bb, oo, none⟩) xc blocks).run (f2, l1) = some (f2, l2) := by
                      rw [hR0]
                      exact iter_same ((hhd _).trans (still_list bl _ hsd)) _
                    have H7 := Lib.hid (And.intro hst hR); clear hst hR hR0 hhd hRb hAb hDb hnb hok0 hsd hbr
                    go_wp2_with (go_at_call 31; (
                      refine (show Calls _ _ _ _ _ from H7.out.1).mono ?_
                      rintro E w7 ⟨rfl, rfl⟩))
                    go_roundg (go - 1)
                    case measure => have := HG.out.1; omega
                    case rel => have := HG.out.1; exact ⟨q + 1, l2, by omega, by omega, rfl, by go_num, by rw [HE.out.2.2.2.2.2.2.2.1, H7.out.2]; exact ⟨rfl, H6.out.1⟩, H6.out.2.1⟩
                  | true =>
                    rw [hsd] at hst
                    have hXo : ∀ w6 : World, wv.grownBy w6 (Value.slice vA N.length vc).ownBlock → ∀ i, w6.cell? ⟨wo.heap.size, i, none⟩ = wv.cell? ⟨wo.heap.size, i, none⟩ := fun w6 hk i => World.cell?_of_block (a := ⟨wo.heap.size, i, none⟩) (hk.block wo.heap.size (by omega) (fun e => by have := HG.out.2.2.1 _ e.symm; omega))
                    have hBo : ∀ w6 : World, wv.grownBy w6 (Value.slice vA N.length vc).ownBlock → Below B wv w6 := fun w6 hk => gb_base hk (by omega) (fun k e => by have := H.out.2.2.2.2.2.2.2.2 k e; omega)
                    have H7 := Lib.hid (And.intro hst (And.intro hR0 (And.intro hhd (And.intro hRb (And.intro hAb (And.intro hDb (And.intro hnb (And.intro hok0 (And.intro hXo hBo))))))))); clear hst hR0 hhd hRb hAb hDb hnb hok0 hsd hbr hXo hBo
                    go_wp2_with (go_at_call 31; (
                      refine (show Calls _ _ _ _ _ from H7.out.1).mono ?_
                      rintro E w7 ⟨rfl, rfl⟩))
                    go_loopg [2, 11] (xn.toNat + 1) (fun gk s2 i w6 => ∃ (j : Nat) (r : Int), gk + j = xn.toNat + 1 ∧ j ≤ xn.toNat ∧ s2 = .int .i64 r ∧ i = .int .i64 j ∧ Stt w6 base (.slice vA N.length vc) N r (iterO (headRun blocks) j (f2, l2)) ∧ wv.grownBy w6 (Value.slice vA N.length vc).ownBlock)
                    case atStart => exact ⟨0, l2, by omega, by omega, rfl, rfl, ⟨rfl, H6.out.1⟩, World.grownBy.refl _ _⟩
                    case round =>
                      obtain ⟨j, r, hgj, hjx, rfl, rfl, hS, hk⟩ := hrel
                      have v6 := (H7.out.2.2.2.2.2.2.2.2.1 wr hk 6).trans u6'
                      have v7 := (H7.out.2.2.2.2.2.2.2.2.1 wr hk 7).trans u7'
                      have hx2' := ((H7.out.2.2.2.2.2.2.2.2.2 wr hk).cell (p := ⟨bb, oo, none⟩) hbB2).trans hx2
                      clear u0 u1' u6' u7' hx2
                      cases hit : iterO (headRun blocks) j (f2, l2) with
                      | none =>
                        rw [hit] at hS
                        have hr0 : r < 0 := hS
                        have hge : decide (r ≥ 0) = false := decide_eq_false (by omega)
                        have H8 := Lib.hid (And.intro hk (iter_none hit hjx)); clear hk hit hS
                        by_cases hjn : (j : Int) < xn
                        · go_wp2_with fail
                          go_roundg (go - 1)
                          case measure => have := HG.out.1; omega
                          case rel => have := HG.out.1; exact ⟨q + 1, r, by omega, by omega, rfl, by go_num, by rw [HE.out.2.2.2.2.2.2.2.1, H7.out.2.1, H8.out.2]; exact hr0, gb_trans H6.out.2.1 H8.out.1⟩
                        · go_wp2_with fail
                          go_roundg (go - 1)
                          case measure => have := HG.out.1; omega
                          case rel => have := HG.out.1; exact ⟨q + 1, r, by omega, by omega, rfl, by go_num, by rw [HE.out.2.2.2.2.2.2.2.1, H7.out.2.1, H8.out.2]; exact hr0, gb_trans H6.out.2.1 H8.out.1⟩
                      | some s3 =>
                        rw [hit] at hS
                        obtain ⟨rfl, hO3⟩ := hS
                        have hdn := H7.out.2.2.2.2.2.2.2.1 j s3 hit
                        have hsc := iter_succ (headRun blocks) j (f2, l2)
                        rw [hit] at hsc
                        have hsc : iterO (headRun blocks) (j + 1) (f2, l2) = runS bl s3 := hsc.trans (H7.out.2.2.1 s3)
                        obtain ⟨f3, l3⟩ := s3
                        have hl3 : l3 ≤ l2 := hdn.le
                        have hzk := hk.size
                        by_cases hjn : (j : Int) < xn
                        · have hcall := H.out.1 (.mk bA bc bl) wr B base _ N f3 l3 H7.out.2.2.2.2.2.2.1 (H7.out.2.2.2.1.under (H7.out.2.2.2.2.2.2.2.2.2 wr hk)) H7.out.2.2.2.2.1 hB1 (by omega) hO3 (HE.out.2.2.2.2.2.2.2.2.2.2.2.1.dom hdn.dom) (H7.out.2.2.2.2.2.1.down hdn) (by omega) hNl
                          simp only [BlockR.l, BlockR.val, BlockR.A, BlockR.c] at hcall
                          have H8 := Lib.hid (And.intro hk (And.intro hsc hcall)); clear hk hsc hcall hO3 hdn hit
                          go_wp2_with (go_at_call 15; (
                            refine (show Calls _ _ _ _ _ from H8.out.2.2).mono ?_
                            rintro E w7 ⟨r, rfl, hk7, hs7⟩
                            have H9 := Lib.hid (And.intro hk7 hs7); clear hk7 hs7))
                          go_roundg (gk - 1)
                          case measure => omega
                          case rel => exact ⟨j + 1, r, by omega, by omega, rfl, by go_num, by rw [H8.out.2.1]; exact H9.out.2, gb_trans H8.out.1 H9.out.1⟩
                        · obtain rfl : j = xn.toNat := by omega
                          have H8 := Lib.hid (And.intro hk (And.intro hit hO3)); clear hk hsc hO3 hdn hit
                          go_wp2_with fail
                          go_roundg (go - 1)
                          case measure => have := HG.out.1; omega
                          case rel => have := HG.out.1; exact ⟨q + 1, l3, by omega, by omega, rfl, by go_num, by rw [HE.out.2.2.2.2.2.2.2.1, H7.out.2.1, H8.out.2.1]; exact ⟨rfl, H8.out.2.2⟩, gb_trans H6.out.2.1 H8.out.1⟩
              · as_aux_lemma =>
                  obtain rfl : f2 = f1 := by rw [← HG.out.2.1]; exact aftF_ge _ _ _ (by decide)
                  have hl2e : l2 = l1 := HL.out.1
                  have hR0 : (StatR.mk 5 name (.mk ek en ename eA ec ekids) xn xA xc blocks).run (f2, l1) = runB blocks (f2, l2) := by rw [run_par _ _ rfl, hl2e]; rfl
                  clear hl2e
                  have hDb : Dom f2 (wrB blocks) := HE.out.2.2.2.2.2.1.sub fun t ht => HE.out.2.2.2.2.2.2.2.2.2.2.1 t ht
                  have hAb : ∀ b ∈ blocks, AllL b.l := fun b hb y hy => HE.out.2.2.2.2.1.in_ (b := b) hb hy
                  have hnb : ∀ b ∈ blocks, nodesS b.l < n := fun b hb => by have h1 := nodesB_le hb; rw [BlockR.nodes_eq] at h1; have h2 := HE.out.2.2.2.2.2.2.2.2.2.1; have h3 := HE.out.2.2.2.2.2.2.1; have h4 := H.out.2.1; omega
                  obtain ⟨wv, hwv⟩ : ∃ wv : World, wv = wr := ⟨_, rfl⟩
                  subst hwv
                  have hXo : ∀ w6 : World, wv.grownBy w6 (Value.slice vA N.length vc).ownBlock → ∀ i, w6.cell? ⟨wo.heap.size, i, none⟩ = wv.cell? ⟨wo.heap.size, i, none⟩ := fun w6 hk i => World.cell?_of_block (a := ⟨wo.heap.size, i, none⟩) (hk.block wo.heap.size (by omega) (fun e => by have := HG.out.2.2.1 _ e.symm; omega))
                  have hBo : ∀ w6 : World, wv.grownBy w6 (Value.slice vA N.length vc).ownBlock → Below B wv w6 := fun w6 hk => gb_base hk (by omega) (fun k e => by have := H.out.2.2.2.2.2.2.2.2 k e; omega)
                  have H7 := Lib.hid (And.intro hR0 (And.intro hAb (And.intro hDb (And.intro hnb (And.intro hXo hBo))))); clear hR0 hAb hDb hnb hXo hBo
                  go_wp2_with fail
                  go_loopg [2, 12] (blocks.length + 1) (fun gk s2 i w6 => ∃ (j : Nat) (r : Int), gk + j = blocks.length + 1 ∧ j ≤ blocks.length ∧ s2 = .int .i64 r ∧ i = .int .i64 j ∧ Stt w6 base (.slice vA N.length vc) N r (runB (blocks.take j) (f2, l2)) ∧ wv.grownBy w6 (Value.slice vA N.length vc).ownBlock)
                  case atStart => exact ⟨0, l2, by omega, by omega, rfl, rfl, by rw [List.take_zero, runB_nil]; exact ⟨rfl, H6.out.1⟩, World.grownBy.refl _ _⟩
                  case round =>
                    obtain ⟨j, r, hgj, hjx, rfl, rfl, hS, hk⟩ := hrel
                    have v7 := (H7.out.2.2.2.2.1 wr hk 7).trans u7'
                    clear u0 u1' u6' u7'
                    cases hit : runB (blocks.take j) (f2, l2) with
                    | none =>
                      rw [hit] at hS
                      have hr0 : r < 0 := hS
                      have hge : decide (r ≥ 0) = false := decide_eq_false (by omega)
                      have H8 := Lib.hid (And.intro hk (runB_none hit)); clear hk hit hS
                      by_cases hjn : (j : Int) < (blocks.length : Int)
                      · go_wp2_with fail
                        go_roundg (go - 1)
                        case measure => have := HG.out.1; omega
                        case rel => have := HG.out.1; exact ⟨q + 1, r, by omega, by omega, rfl, by go_num, by rw [HE.out.2.2.2.2.2.2.2.1, H7.out.1, H8.out.2]; exact hr0, gb_trans H6.out.2.1 H8.out.1⟩
                      · go_wp2_with fail
                        go_roundg (go - 1)
                        case measure => have := HG.out.1; omega
                        case rel => have := HG.out.1; exact ⟨q + 1, r, by omega, by omega, rfl, by go_num, by rw [HE.out.2.2.2.2.2.2.2.1, H7.out.1, H8.out.2]; exact hr0, gb_trans H6.out.2.1 H8.out.1⟩
                    | some s3 =>
                      rw [hit] at hS
                      obtain ⟨rfl, hO3⟩ := hS
                      have hdn := runB_ok (H7.out.2.2.1.sub wrB_take) hit
                      obtain ⟨f3, l3⟩ := s3
                      have hl3 : l3 ≤ l2 := hdn.le
                      have hzk := hk.size
                      by_cases hjn : (j : Int) < (blocks.length : Int)
                      · have hj : j < blocks.length := by omega
                        have hsc := runB_take hj (f2, l2)
                        rw [hit] at hsc
                        have hsc : runB (blocks.take (j + 1)) (f2, l2) = runS blocks[j].l (f3, l3) := hsc
                        obtain ⟨bb, oo, e0, hbB2, hx2⟩ := H6.out.2.2.2.row.at_ (i := j) hj
                        simp only [StatR.bA, StatR.blocks] at e0 hx2
                        subst e0
                        have hx2 := ((H7.out.2.2.2.2.2 wr hk).cell (p := ⟨bb, oo + j, none⟩) hbB2).trans hx2
                        have hmem := List.getElem_mem hj
                        have hcall := H.out.1 blocks[j] wr B base _ N f3 l3 (H7.out.2.2.2.1 _ hmem) ((H6.out.2.2.2.block (b := blocks[j]) hmem).under (H7.out.2.2.2.2.2 wr hk)) (H7.out.2.1 _ hmem) hB1 (by omega) hO3 (HE.out.2.2.2.2.2.2.2.2.2.2.2.1.dom hdn.dom) ((H7.out.2.2.1.sub (wrB_mem hmem)).down hdn) (by omega) hNl
                        generalize hbr : blocks[j] = br at *
                        obtain ⟨bA, bc, bl⟩ := br
                        simp only [BlockR.l, BlockR.val, BlockR.A, BlockR.c] at hx2 hcall hsc
                        have H8 := Lib.hid (And.intro hk (And.intro hsc hcall)); clear hk hsc hcall hO3 hdn hit hmem hbr
                        go_wp2_with (go_at_call 15; (
                          refine (show Calls _ _ _ _ _ from H8.out.2.2).mono ?_
                          rintro E w7 ⟨r, rfl, hk7, hs7⟩
                          have H9 := Lib.hid (And.intro hk7 hs7); clear hk7 hs7))
                        go_roundg (gk - 1)
                        case measure => omega
                        case rel => exact ⟨j + 1, r, by omega, by omega, rfl, by go_num, by rw [H8.out.2.1]; exact H9.out.2, gb_trans H8.out.1 H9.out.1⟩
                      · have hend : blocks.take j = blocks := List.take_of_length_le (by omega)
                        rw [hend] at hit
                        have H8 := Lib.hid (And.intro hk (And.intro hit hO3)); clear hk hO3 hdn hit hend
                        go_wp2_with fail
                        go_roundg (go - 1)
                        case measure => have := HG.out.1; omega
                        case rel => have := HG.out.1; exact ⟨q + 1, l3, by omega, by omega, rfl, by go_num, by rw [HE.out.2.2.2.2.2.2.2.1, H7.out.1, H8.out.2.1]; exact ⟨rfl, H8.out.2.2⟩, gb_trans H6.out.2.1 H8.out.1⟩
    · obtain rfl : q = L.length := by omega
      rw [List.take_length] at hS
      have H1 := Lib.hid (And.intro hk hS); clear hk hS
      go_wp2_with fail
      go_ret
      exact ⟨r, rfl, H1.out.1, H1.out.2⟩
theorem refrun_any : ∀ n, RunC n
  | 0 => fun _ _ _ _ _ _ _ _ h => absurd h (Nat.not_lt_zero _)
  | n + 1 => refrun_step n (refrun_any n)
end Go.Proofs.Ytgiceeholamphaa
