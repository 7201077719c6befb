/- The contract of stepref.Stepped. No conditions but that what is read is there. -/
import Derived.Test.YtgiceeholamphaaRefN
namespace Go.Proofs.Ytgiceeholamphaa
open Go.ChangeShapes Go.WideShapes Go.ChangeAt Go.RowKit Go.Maps

theorem steppedS_snoc {l : List StatR} {q : Nat} (h : q < l.length) : steppedS (l.take (q + 1)) = (steppedS (l.take q) || l[q].stepped) := by rw [take_snocA h, steppedS_append]; simp [steppedS]
theorem steppedB_snoc {l : List BlockR} {q : Nat} (h : q < l.length) : steppedB (l.take (q + 1)) = (steppedB (l.take q) || steppedS l[q].l) := by rw [take_snocA h, steppedB_append]; simp [steppedB, BlockR.stepped_eq]
theorem steppedS_at {l : List StatR} {q : Nat} (h : q < l.length) (hs : l[q].stepped = true) : steppedS l = true := by
  rw [← List.take_append_drop (q + 1) l, steppedS_append, steppedS_snoc h, hs]; simp
theorem steppedB_at {l : List BlockR} {q : Nat} (h : q < l.length) (hs : steppedS l[q].l = true) : steppedB l = true := by
  rw [← List.take_append_drop (q + 1) l, steppedB_append, steppedB_snoc h, hs]; simp
set_option maxRecDepth 100000 in
set_option maxHeartbeats 4000000 in
theorem stepped_any : ∀ (n : Nat) (k : BlockR) (w : World) (B : Nat), nodesS k.l < n → RdB w B k →
    Calls Try.prog 31 #[k.val] w fun E w' => E = .returned (.bool (steppedS k.l)) ∧ w = w' := by
  intro n
  induction n with
  | zero => intro k w B hn; omega
  | succ n ih =>
    intro k w B hnn hR
    obtain ⟨A, c, L⟩ := k
    simp only [BlockR.l] at hnn
    have hrow := hR.row
    have heach := hR.each
    have hfit := hR.fits
    simp only [BlockR.l, BlockR.A] at hrow heach hfit
    unfold Fits at hfit
    have H := Lib.hid (And.intro ih (And.intro hrow (And.intro heach hnn))); clear ih hrow heach hnn hR
    show Calls Try.prog 31 #[.slice A L.length c] w fun E w' => E = .returned (.bool (steppedS L)) ∧ w = w'
    go_enter Try.func31, Try.ntmps31
    go_wp2_with fail
    go_loopg [3] L.length (fun gk i wr => ∃ q : Nat, gk + q = L.length ∧ i = .int .i64 q ∧ steppedS (L.take q) = false ∧ w = wr)
    case atStart => exact ⟨0, by omega, rfl, by rw [List.take_zero, steppedS], rfl⟩
    case round =>
      obtain ⟨q, hgq, rfl, hno, rfl⟩ := hrel
      by_cases hq : q < L.length
      · obtain ⟨b, o, rfl, hbB, hc⟩ := H.out.2.1.at_ (i := q) hq
        have hRx := H.out.2.2.1 _ (List.getElem_mem hq)
        have hsn := steppedS_snoc hq
        have hat := @steppedS_at L q hq
        have hns := nodesS_at hq
        have hn1 := H.out.2.2.2
        obtain ⟨x, hxe⟩ : ∃ x, L[q] = x := ⟨_, rfl⟩
        rw [hxe] at hc hRx hns hsn hat
        have hxn := x.nodes_eq
        have hxs := x.stepped_eq
        have hxn1 : x.nodes ≤ n := by omega
        have hfb := hRx.fits
        unfold Fits at hfb
        obtain ⟨kind, name, e, xn, xA, xc, blocks⟩ := x
        obtain ⟨c0, c1, c2, c3, c4, c5, c6, c7⟩ := hc
        simp only [StatR.kind, StatR.n, StatR.bA, StatR.bc, StatR.blocks] at c0 c6 c7 hxn hxs hfb
        clear c1 c2 c3 c4 c5
        have hxs : (StatR.mk kind name e xn xA xc blocks).stepped = (decide (kind ≤ 3) || ((decide (kind ≠ 4) || decide (0 < xn)) && steppedB blocks)) := hxs
        rw [hno, Bool.false_or] at hsn
        have H2 := Lib.hid (And.intro hRx (And.intro hsn (And.intro hat (And.intro hxn (And.intro hxs hxn1))))); clear hRx hsn hat hxn hxs hxn1 hno hxe hns hn1
        by_cases k3 : kind ≤ 3
        · have e3 : decide (kind ≤ 3) = true := decide_eq_true k3
          go_wp2_with fail
          go_ret
          exact ⟨by rw [H2.out.2.2.1 (by rw [H2.out.2.2.2.2.1, decide_eq_true k3]; rfl)]; rfl, rfl⟩
        · have e3 : decide (kind ≤ 3) = false := decide_eq_false k3
          have hxs : (StatR.mk kind name e xn xA xc blocks).stepped = ((decide (kind ≠ 4) || decide (0 < xn)) && steppedB blocks) := by rw [H2.out.2.2.2.2.1, e3, Bool.false_or]
          clear k3
          obtain ⟨gq, hgq'⟩ : ∃ gq, gq = gk := ⟨_, rfl⟩
          have HG := Lib.hid hgq'; clear hgq'
          by_cases k4 : kind = 4
          rotate_left
          · have e4 : (kind != 4) = true := by simpa using k4
            have HX := Lib.hid (And.intro hxs (show (decide (kind ≠ 4) || decide (0 < xn)) = true by simp [k4])); clear hxs k4
            go_wp2_with fail
            go_loopg [4] blocks.length (fun gk i w6 => ∃ r : Nat, gk + r = blocks.length ∧ i = .int .i64 r ∧ steppedB (blocks.take r) = false ∧ w = w6)
            case atStart => exact ⟨0, by omega, rfl, by rw [List.take_zero, steppedB], rfl⟩
            case round =>
              obtain ⟨r, hgr, rfl, hnb, rfl⟩ := hrel
              by_cases hr : r < blocks.length
              · obtain ⟨bb, oo, e0, hbB2, hx2⟩ := H2.out.1.row.at_ (i := r) hr
                simp only [StatR.bA, StatR.blocks] at e0 hx2
                subst e0
                have hRb := H2.out.1.block (b := blocks[r]) (List.getElem_mem hr)
                have hnB := nodesB_at hr
                have hsn := steppedB_snoc hr
                have hat := @steppedB_at blocks r hr
                have hxn := H2.out.2.2.2.1
                have hx1 := H2.out.2.2.2.2.2
                have hcall := H.out.1 blocks[r] w B (by omega) hRb
                rw [hnb, Bool.false_or] at hsn
                generalize hbr : blocks[r] = br at *
                obtain ⟨bA, bc, bl⟩ := br
                simp only [BlockR.l, BlockR.val, BlockR.A, BlockR.c] at hx2 hcall hsn hat
                cases hst : steppedS bl
                rotate_left
                · rw [hst] at hcall
                  have H5 := Lib.hid (And.intro hcall (hat hst)); clear hcall hat hsn hnb hRb hst hnB hxn hx1
                  go_wp2_with (go_at_call 31; (
                    refine (show Calls _ _ _ _ _ from H5.out.1).mono ?_
                    rintro E w7 ⟨rfl, rfl⟩))
                  go_ret
                  exact ⟨by rw [H2.out.2.2.1 (by rw [HX.out.1, H5.out.2]; simpa using HX.out.2)]; rfl, rfl⟩
                rw [hst] at hcall hsn
                have H5 := Lib.hid (And.intro hcall hsn); clear hcall hat hsn hnb hRb hst hnB hxn hx1
                go_wp2_with (go_at_call 31; (
                  refine (show Calls _ _ _ _ _ from H5.out.1).mono ?_
                  rintro E w7 ⟨rfl, rfl⟩))
                go_roundg (gk - 1)
                case measure => omega
                case rel => exact ⟨r + 1, by omega, by go_num, H5.out.2, rfl⟩
              · have hend : blocks.take r = blocks := List.take_of_length_le (by omega)
                have H5 := Lib.hid (And.intro hnb hend); clear hnb hend
                go_wp2_with fail
                go_roundg (gq - 1)
                case measure => have := HG.out; omega
                case rel =>
                  have := HG.out
                  refine ⟨q + 1, by omega, by go_num, ?_, rfl⟩
                  rw [H2.out.2.1, HX.out.1, ← H5.out.2, H5.out.1, Bool.and_false]
          subst k4
          by_cases hx0 : 0 < xn
          · have e0 : decide (xn > 0) = true := decide_eq_true hx0
            have HX := Lib.hid (And.intro hxs (show (decide ((4 : Int) ≠ 4) || decide (0 < xn)) = true by simp [hx0])); clear hxs hx0
            go_wp2_with fail
            go_loopg [4] blocks.length (fun gk i w6 => ∃ r : Nat, gk + r = blocks.length ∧ i = .int .i64 r ∧ steppedB (blocks.take r) = false ∧ w = w6)
            case atStart => exact ⟨0, by omega, rfl, by rw [List.take_zero, steppedB], rfl⟩
            case round =>
              obtain ⟨r, hgr, rfl, hnb, rfl⟩ := hrel
              by_cases hr : r < blocks.length
              · obtain ⟨bb, oo, e0, hbB2, hx2⟩ := H2.out.1.row.at_ (i := r) hr
                simp only [StatR.bA, StatR.blocks] at e0 hx2
                subst e0
                have hRb := H2.out.1.block (b := blocks[r]) (List.getElem_mem hr)
                have hnB := nodesB_at hr
                have hsn := steppedB_snoc hr
                have hat := @steppedB_at blocks r hr
                have hxn := H2.out.2.2.2.1
                have hx1 := H2.out.2.2.2.2.2
                have hcall := H.out.1 blocks[r] w B (by omega) hRb
                rw [hnb, Bool.false_or] at hsn
                generalize hbr : blocks[r] = br at *
                obtain ⟨bA, bc, bl⟩ := br
                simp only [BlockR.l, BlockR.val, BlockR.A, BlockR.c] at hx2 hcall hsn hat
                cases hst : steppedS bl
                rotate_left
                · rw [hst] at hcall
                  have H5 := Lib.hid (And.intro hcall (hat hst)); clear hcall hat hsn hnb hRb hst hnB hxn hx1
                  go_wp2_with (go_at_call 31; (
                    refine (show Calls _ _ _ _ _ from H5.out.1).mono ?_
                    rintro E w7 ⟨rfl, rfl⟩))
                  go_ret
                  exact ⟨by rw [H2.out.2.2.1 (by rw [HX.out.1, H5.out.2]; simpa using HX.out.2)]; rfl, rfl⟩
                rw [hst] at hcall hsn
                have H5 := Lib.hid (And.intro hcall hsn); clear hcall hat hsn hnb hRb hst hnB hxn hx1
                go_wp2_with (go_at_call 31; (
                  refine (show Calls _ _ _ _ _ from H5.out.1).mono ?_
                  rintro E w7 ⟨rfl, rfl⟩))
                go_roundg (gk - 1)
                case measure => omega
                case rel => exact ⟨r + 1, by omega, by go_num, H5.out.2, rfl⟩
              · have hend : blocks.take r = blocks := List.take_of_length_le (by omega)
                have H5 := Lib.hid (And.intro hnb hend); clear hnb hend
                go_wp2_with fail
                go_roundg (gq - 1)
                case measure => have := HG.out; omega
                case rel =>
                  have := HG.out
                  refine ⟨q + 1, by omega, by go_num, ?_, rfl⟩
                  rw [H2.out.2.1, HX.out.1, ← H5.out.2, H5.out.1, Bool.and_false]
          · have e0 : decide (xn > 0) = false := decide_eq_false hx0
            have HX := Lib.hid (And.intro hxs (show (decide ((4 : Int) ≠ 4) || decide (0 < xn)) = false by simp; omega)); clear hxs hx0
            go_wp2_with fail
            go_loopg [4] blocks.length (fun gk i w6 => ∃ r : Nat, gk + r = blocks.length ∧ i = .int .i64 r ∧ True ∧ w = w6)
            case atStart => exact ⟨0, by omega, rfl, trivial, rfl⟩
            case round =>
              obtain ⟨r, hgr, rfl, hnb, rfl⟩ := hrel
              by_cases hr : r < blocks.length
              · go_wp2_with fail
                go_roundg (gk - 1)
                case measure => omega
                case rel => exact ⟨r + 1, by omega, by go_num, trivial, rfl⟩
              · have hend : blocks.take r = blocks := List.take_of_length_le (by omega)
                have H5 := Lib.hid (And.intro hnb hend); clear hnb hend
                go_wp2_with fail
                go_roundg (gq - 1)
                case measure => have := HG.out; omega
                case rel =>
                  have := HG.out
                  refine ⟨q + 1, by omega, by go_num, ?_, rfl⟩
                  rw [H2.out.2.1, HX.out.1, HX.out.2, Bool.false_and]
      · have hend : L.take q = L := List.take_of_length_le (by omega)
        rw [hend] at hno
        have H5 := Lib.hid hno; clear hno
        go_wp2_with fail
        go_ret
        exact ⟨by rw [H5.out]; rfl, rfl⟩
end Go.Proofs.Ytgiceeholamphaa
