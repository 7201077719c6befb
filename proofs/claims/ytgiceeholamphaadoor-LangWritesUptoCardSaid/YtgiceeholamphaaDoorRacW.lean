/- The contract of stepref.racing: is there a race? No conditions but that what is read is there, is a program, and can be counted. -/
import Derived.Test.YtgiceeholamphaaDoorRacL
namespace Go.Proofs.YtgiceeholamphaaDoor
open Go.ChangeShapes Go.WideShapes Go.ChangeAt Go.RowKit Go.Maps

set_option maxRecDepth 100000 in
set_option maxHeartbeats 4000000 in
theorem racing_any : ∀ (n : Nat) (k : BlockR) (w : World) (B : Nat), nodesS k.l < n → RdB w B k → AllL k.l → B ≤ w.heap.size → nodesS k.l ≤ 1048576 →
    Calls Tryd.prog 21 #[k.val] w (MeetPost (¬ CalmL k.l) w) := by
  intro n
  induction n with
  | zero => intro k w B hn; omega
  | succ n ih =>
    intro k w B hnn hR hA hB hcap
    obtain ⟨A, c, L⟩ := k
    simp only [BlockR.l] at hnn hA hcap ⊢
    have hrow := hR.row
    have heach := hR.each
    have hfit := hR.fits
    simp only [BlockR.l, BlockR.A] at hrow heach hfit
    unfold Fits at hfit
    have H := Lib.hid (And.intro ih (And.intro hrow (And.intro heach (And.intro hnn (And.intro hA hcap))))); clear ih hrow heach hnn hR hA hcap
    show Calls Tryd.prog 21 #[.slice A L.length c] w (MeetPost (¬ CalmL L) w)
    go_enter Tryd.func21, Tryd.ntmps21
    go_wp2_with fail
    go_loopg [3] L.length (fun gk i wr => ∃ q : Nat, gk + q = L.length ∧ i = .int .i64 q ∧ (∀ t (h : t < L.length), t < q → CalmS L[t]) ∧ Below w.heap.size w wr)
    case atStart => exact ⟨0, by omega, rfl, fun _ _ h => by omega, Below.refl _ _⟩
    case round =>
      obtain ⟨q, hgq, rfl, hcalm, hb⟩ := hrel
      by_cases hq : q < L.length
      · obtain ⟨b, o, rfl, hbB, hc⟩ := H.out.2.1.at_ (i := q) hq
        have hkeep : ∀ p : Addr, p.block < B → wr.cell? p = w.cell? p := fun p hp => hb.cell (by omega)
        have hc := hc.keep hbB hkeep
        have hRx := (H.out.2.2.1 _ (List.getElem_mem hq)).keep hkeep
        have hAx := H.out.2.2.2.2.1 _ (List.getElem_mem hq)
        have hnx : (L[q]).nodes ≤ nodesS L := nodesS_le (List.getElem_mem hq)
        have hall : CalmL L → CalmS L[q] := fun h => h _ (List.getElem_mem hq)
        have hstep : CalmS L[q] → ∀ t (h : t < L.length), t < q + 1 → CalmS L[t] := fun hx t ht htq => by
          by_cases e : t = q
          · subst e; exact hx
          · exact hcalm t ht (by omega)
        obtain ⟨x, hxe⟩ : ∃ x, L[q] = x := ⟨_, rfl⟩
        rw [hxe] at hc hRx hAx hnx hall hstep
        have hxn := x.nodes_eq
        have hfx : x.blocks.length ≤ 1048576 := hRx.fits
        have hblk := fun (b : BlockR) (hb : b ∈ x.blocks) => hRx.block hb
        have hAb := fun (k : BlockR) (hk : k ∈ x.blocks) y hy => hAx.in_ (b := k) hk (y := y) hy
        have hrowx := hRx.row
        have hcs : CalmK x.kind x.blocks x.blocks.length → CalmS x := CalmK.stat
        have hch : CalmS x → ∀ (_ : x.kind = 5) (j m : Nat) (hj : j < x.blocks.length) (hm : m < x.blocks.length) (_ : m ≠ j), ¬ hitB x.blocks[j] x.blocks[m] := fun h k5 j m hj hm hne => calmS_hit h k5 hj hm hne
        have hci : CalmS x → ∀ b ∈ x.blocks, CalmL b.l := fun h b hb => h.in_ hb
        obtain ⟨kind, name, e, xn, xA, xc, blocks⟩ := x
        obtain ⟨x0, _, _, _, _, _, _, x7⟩ := hc
        simp only [StatR.kind, StatR.bA, StatR.bc, StatR.blocks, StatR.e] at x0 x7 hfx hblk hrowx hxn hcs hch hci hAb
        have hzb := hb.size
        have HE := Lib.hid (And.intro hb (And.intro hblk (And.intro hAb (And.intro hrowx (And.intro hxn (And.intro hnx (And.intro hall (And.intro hstep (And.intro hcs (And.intro hch hci)))))))))); clear hb hRx hAx hblk hAb hrowx hxn hnx hall hstep hcs hch hci hkeep hxe hcalm
        obtain ⟨gq, hgg⟩ : ∃ g, g = gk := ⟨_, rfl⟩
        have HG := Lib.hid (And.intro hgg hgq); clear hgg hgq
        obtain ⟨w1, hw1⟩ : ∃ v, v = wr := ⟨_, rfl⟩
        subst hw1
        go_wp2_with fail
        go_loopg [5] blocks.length (fun gk i wr => ∃ j : Nat, gk + j = blocks.length ∧ i = .int .i64 j ∧ CalmK kind blocks j ∧ Below w1.heap.size w1 wr)
        case atStart => exact ⟨0, by omega, rfl, CalmK.zero _ _, Below.refl _ _⟩
        case round =>
          obtain ⟨j, hgj, rfl, hck, hbr⟩ := hrel
          have hzr := hbr.size
          have x0r : wr.cell? ⟨b, o + q * 8, none⟩ = some (.int .i64 kind) := (hbr.cell (p := ⟨b, o + q * 8, none⟩) (by show b < _; omega)).trans x0
          have x7r : wr.cell? ⟨b, o + q * 8 + 7, none⟩ = some (.slice xA blocks.length xc) := (hbr.cell (p := ⟨b, o + q * 8 + 7, none⟩) (by show b < _; omega)).trans x7
          by_cases hj : j < blocks.length
          · obtain ⟨b2, o2, rfl, hb2B, hcell⟩ := HE.out.2.2.2.1.at_ (i := j) hj
            have hcell : wr.cell? ⟨b2, o2 + j, none⟩ = some (blocks[j]).val := (hbr.cell (p := ⟨b2, o2 + j, none⟩) (by show b2 < _; omega)).trans hcell
            have hRb := (HE.out.2.1 _ (List.getElem_mem hj)).under (hbr.mono (by omega))
            have hAbj : AllL (blocks[j]).l := HE.out.2.2.1 _ (List.getElem_mem hj)
            have hnb := nodesB_le (List.getElem_mem hj)
            have hci : ¬ CalmL (blocks[j]).l → ¬ CalmL L := fun h hL => h (HE.out.2.2.2.2.2.2.2.2.2.2 (HE.out.2.2.2.2.2.2.1 hL) _ (List.getElem_mem hj))
            have hcst := hck.step hj
            have hhit : ∀ (k5 : kind = 5) (m : Nat) (hm : m < blocks.length), m ≠ j → hitB (blocks[j]) (blocks[m]) → ¬ CalmL L := fun k5 m hm hne hh hL => HE.out.2.2.2.2.2.2.2.2.2.1 (HE.out.2.2.2.2.2.2.1 hL) k5 j m hj hm hne hh
            obtain ⟨y, hye⟩ : ∃ y, blocks[j] = y := ⟨_, rfl⟩
            rw [hye] at hcell hRb hAbj hnb hci hcst hhit
            have hye1 := y.nodes_eq
            have hnl : nodesS y.l < n := by have := H.out.2.2.2.1; have := HE.out.2.2.2.2.1; have := HE.out.2.2.2.2.2.1; omega
            have hnl2 : nodesS y.l ≤ 1048576 := by have := H.out.2.2.2.2.2; have := HE.out.2.2.2.2.1; have := HE.out.2.2.2.2.2.1; omega
            have hcall := H.out.1 y wr B hnl hRb hAbj (by omega) hnl2
            have hev : y.val = .slice y.A y.l.length y.c := by cases y; rfl
            rw [hev] at hcell hcall
            have HR := Lib.hid (And.intro hbr (And.intro hcall (And.intro hRb (And.intro hAbj (And.intro hci (And.intro hcst (And.intro hhit (And.intro hye (And.intro hev hnl2))))))))); clear hbr hcall hRb hAbj hci hcst hhit hnb hev hye hye1 hck
            go_upto_if 32 with (go_at_call 21; (
              refine (show Calls _ _ _ _ _ from HR.out.2.1).mono ?_
              rintro E w3 ⟨t, rfl, ht, hb3⟩
              have hc3 := bcell hb3
              have hz3 := hb3.size
              have HT := Lib.hid (And.intro ht hb3); clear ht hb3))
            cases t with
            | true =>
              have hno : ¬ CalmL L := HR.out.2.2.2.2.1 (HT.out.1.1 rfl)
              have HN := Lib.hid hno; clear hno
              go_wp2_with fail
              go_ret
              exact ⟨true, rfl, ⟨fun _ => HN.out, fun _ => rfl⟩, HE.out.1.trans ((HR.out.1.trans (HT.out.2.mono hzr)).mono HE.out.1.size)⟩
            | false =>
              have hyc : CalmL y.l := Classical.byContradiction fun h => by have := HT.out.1.2 h; cases this
              have hb13 : Below w1.heap.size w1 w3 := HR.out.1.trans (HT.out.2.mono hzr)
              have hcell3 : w3.cell? ⟨b2, o2 + j, none⟩ = some (.slice y.A y.l.length y.c) := (hc3 b2 (o2 + j) (by omega)).trans hcell
              have hnm := namesOf_any (nodesS y.l + 1) y w3 B (.slice none 0 0) [] (Nat.lt_succ_self _) (HR.out.2.2.1.under (HT.out.2.mono (by omega))) (by omega) ⟨none, 0, rfl, Nat.le_refl _, .inl ⟨rfl, rfl⟩, fun h => absurd rfl h⟩ (by have := HR.out.2.2.2.2.2.2.2.2.2; simp; omega)
              rw [HR.out.2.2.2.2.2.2.2.2.1] at hnm
              have hNn : ∀ (m : Nat) (hm : m < blocks.length) (s : ByteArray), hitS s y blocks[m] → s ∈ namesB y := fun m hm s h => hit_named HR.out.2.2.2.1 h
              have hNl : (namesB y).length ≤ 1048576 := Nat.le_trans (putAll_len _ _) (by have := allsS_len y.l; have := HR.out.2.2.2.2.2.2.2.2.2; simp; omega)
              have hnm : Calls Tryd.prog 39 #[.slice y.A y.l.length y.c, .slice none 0 0] w3 (PutPost (namesB y) w3) := hnm
              generalize namesB y = N at *
              have HM := Lib.hid (And.intro hyc (And.intro hb13 (And.intro hnm hNn))); clear hyc hb13 hnm hNn
              clear hc3 hcell x0r x7r
              obtain ⟨gj, hgg⟩ : ∃ g, g = gk := ⟨_, rfl⟩
              have HJ := Lib.hid (And.intro hgg hgj); clear hgg hgj
              obtain ⟨w2, hw2⟩ : ∃ v, v = wr := ⟨_, rfl⟩
              subst hw2
              go_wp2_with (go_at_call 39; (
                refine (show Calls _ _ _ _ _ from HM.out.2.2.1).mono ?_
                rintro E w4 hp
                obtain ⟨v2, rfl, hl2, hb4⟩ := hp.lst
                obtain ⟨A4, c4, rfl, hlc, _, hrd⟩ := hl2
                have hz4 := hb4.size
                have HP := Lib.hid (And.intro hb4 hrd); clear hp hb4 hrd))
              have hb14 : Below w1.heap.size w1 w4 := HM.out.2.1.trans (HP.out.1.mono HM.out.2.1.size)
              have hz14 := hb14.size
              have x04 : w4.cell? ⟨b, o + q * 8, none⟩ = some (.int .i64 kind) := (hb14.cell (p := ⟨b, o + q * 8, none⟩) (by show b < _; omega)).trans x0
              have H14 := Lib.hid hb14; clear hb14 hcell3
              go_loopg [7] blocks.length (fun gk i wr => ∃ k : Nat, gk + k = blocks.length ∧ i = .int .i64 k ∧ (kind = 5 → ∀ m (h : m < blocks.length), m < k → m ≠ j → ¬ hitB y blocks[m]) ∧ Below w4.heap.size w4 wr)
              case atStart => exact ⟨0, by omega, rfl, fun _ _ _ h => by omega, Below.refl _ _⟩
              case round =>
                obtain ⟨k, hgk, rfl, hnh, hbr⟩ := hrel
                have hzr5 := hbr.size
                have x0r : wr.cell? ⟨b, o + q * 8, none⟩ = some (.int .i64 kind) := (hbr.cell (p := ⟨b, o + q * 8, none⟩) (by show b < _; omega)).trans x04
                clear x04
                by_cases hk : k < blocks.length
                · by_cases k5 : kind = 5
                  · have e5 : (kind == 5) = true := by simp [k5]
                    have HK := Lib.hid (And.intro k5 (And.intro hnh (And.intro hbr hgk))); clear k5 hnh hbr hgk
                    obtain ⟨gk3, hgg⟩ : ∃ g, g = gk := ⟨_, rfl⟩
                    have HG3 := Lib.hid hgg; clear hgg
                    obtain ⟨w5, hw5⟩ : ∃ v, v = wr := ⟨_, rfl⟩
                    subst hw5
                    go_wp2_with fail
                    go_loopg [8] N.length (fun gk i wr => ∃ m : Nat, gk + m = N.length ∧ i = .int .i64 m ∧ (k ≠ j → ∀ p (h : p < N.length), p < m → ¬ hitS N[p] y blocks[k]) ∧ Below w5.heap.size w5 wr)
                    case atStart => exact ⟨0, by omega, rfl, fun _ _ _ h => by omega, Below.refl _ _⟩
                    case round =>
                      obtain ⟨m, hgm, rfl, hnp, hb5⟩ := hrel
                      have hz6 := hb5.size
                      by_cases hkj : k = j
                      · subst hkj
                        have HB := Lib.hid hb5; clear hb5 hnp
                        go_wp2_with fail
                        go_roundg (gk3 - 1)
                        case measure => have := HG3.out; have := HK.out.2.2.2; omega
                        case rel => exact ⟨k + 1, by have := HG3.out; have := HK.out.2.2.2; omega, by go_num, fun k5 m hm hmk hne => HK.out.2.1 k5 m hm (by omega) hne, HK.out.2.2.1.trans (HB.out.mono HK.out.2.2.1.size)⟩
                      · have n1 : ((k : Int) == (j : Int)) = false := by simp; omega
                        have n2 : ((k : Int) != (j : Int)) = true := by simp; omega
                        have HNE := Lib.hid hkj; clear hkj
                        by_cases hm : m < N.length
                        · obtain ⟨b3, o3, rfl, hb3B, hnc⟩ := HP.out.2 (fun h => by have hN0 : N = [] := (by simpa [strs] using h); rw [hN0] at hm; simp at hm)
                          have hsm : (strs N)[m]? = some (.string N[m]) := by simp [strs, hm]
                          have hb36 : Below w4.heap.size w4 wr := HK.out.2.2.1.trans (hb5.mono HK.out.2.2.1.size)
                          have hb16 : Below w1.heap.size w1 wr := H14.out.trans (hb36.mono H14.out.size)
                          have hz36 := hb36.size
                          have hz16 := hb16.size
                          have cn : wr.cell? ⟨b3, o3 + m, none⟩ = some (.string N[m]) := (hb36.cell (p := ⟨b3, o3 + m, none⟩) hb3B).trans (hnc m _ hsm)
                          obtain ⟨_, _, eq, _, hcj⟩ := HE.out.2.2.2.1.at_ (i := j) hj
                          injection eq with eq
                          injection eq with eq1 eq2
                          subst eq1 eq2
                          obtain ⟨_, _, eq, _, hck⟩ := HE.out.2.2.2.1.at_ (i := k) hk
                          injection eq with eq
                          injection eq with eq1 eq2
                          subst eq1 eq2
                          have hcj : wr.cell? ⟨b2, o2 + j, none⟩ = some (.slice y.A y.l.length y.c) := (hb16.cell (p := ⟨b2, o2 + j, none⟩) (by show b2 < _; omega)).trans (hcj.trans (by rw [HR.out.2.2.2.2.2.2.2.1, HR.out.2.2.2.2.2.2.2.2.1]))
                          have hck : wr.cell? ⟨b2, o2 + k, none⟩ = some (blocks[k]).val := (hb16.cell (p := ⟨b2, o2 + k, none⟩) (by show b2 < _; omega)).trans hck
                          have hRj : RdB wr B y := by
                            have h := (HE.out.2.1 _ (List.getElem_mem hj)).under (hb16.mono (by omega))
                            rwa [HR.out.2.2.2.2.2.2.2.1] at h
                          have hRk := (HE.out.2.1 _ (List.getElem_mem hk)).under (hb16.mono (by omega))
                          have hfk : hitS N[m] y blocks[k] → ¬ CalmL L := fun h => HR.out.2.2.2.2.2.2.1 HK.out.1 k hk HNE.out ⟨_, h⟩
                          have hnp1 : ¬ hitS N[m] y blocks[k] → (k ≠ j → ∀ p (h : p < N.length), p < m + 1 → ¬ hitS N[p] y blocks[k]) := fun hh hne p hp hpm => by
                            by_cases e : p = m
                            · subst e; exact hh
                            · exact hnp hne p hp (by omega)
                          have hmN : (N[m] : ByteArray) = N[m] := rfl
                          generalize hs : N[m] = s at *
                          obtain ⟨z, hze⟩ : ∃ z, blocks[k] = z := ⟨_, rfl⟩
                          rw [hze] at hck hRk hfk hnp1
                          have hev : z.val = .slice z.A z.l.length z.c := by cases z; rfl
                          rw [hev] at hck
                          have hu := fun (W : World) (hbW : Below wr.heap.size wr W) => uses_any (nodesS y.l + 1) y W B s (Nat.lt_succ_self _) (hRj.under (hbW.mono (by omega))) (by have := hbW.size; omega)
                          have hv := fun (W : World) (hbW : Below wr.heap.size wr W) => uses_any (nodesS z.l + 1) z W B s (Nat.lt_succ_self _) (hRk.under (hbW.mono (by omega))) (by have := hbW.size; omega)
                          rw [HR.out.2.2.2.2.2.2.2.2.1] at hu
                          rw [hev] at hv
                          have t1 := useN_four (memB s (assignsS y.l)) (memB s (addsS y.l)) (memB s (readsS y.l))
                          have t2 := useN_pos (memB s (assignsS z.l)) (memB s (addsS z.l)) (memB s (readsS z.l))
                          have t3 := useN_two (memB s (assignsS y.l)) (memB s (addsS y.l)) (memB s (readsS y.l))
                          have t4 := useN_one (memB s (assignsS z.l)) (memB s (addsS z.l)) (memB s (readsS z.l))
                          have hhit : hitT s y z = ((memB s (assignsS y.l) && (memB s (assignsS z.l) || (memB s (addsS z.l) || memB s (readsS z.l)))) || (memB s (addsS y.l) && memB s (readsS z.l))) := rfl
                          have hu : ∀ W, Below wr.heap.size wr W → Calls Tryd.prog 40 #[.slice y.A y.l.length y.c, .string s] W (UsePost (useN (memB s (assignsS y.l)) (memB s (addsS y.l)) (memB s (readsS y.l))) W) := hu
                          have hv : ∀ W, Below wr.heap.size wr W → Calls Tryd.prog 40 #[.slice z.A z.l.length z.c, .string s] W (UsePost (useN (memB s (assignsS z.l)) (memB s (addsS z.l)) (memB s (readsS z.l))) W) := hv
                          generalize useN (memB s (assignsS y.l)) (memB s (addsS y.l)) (memB s (readsS y.l)) = u at *
                          generalize useN (memB s (assignsS z.l)) (memB s (addsS z.l)) (memB s (readsS z.l)) = v at *
                          have HU := Lib.hid (And.intro hu (And.intro hv (And.intro hfk (And.intro hnp1 (And.intro hhit (And.intro hb5 (And.intro hb16 hze))))))); clear hu hv hfk hnp1 hhit hb5 hb16 hb36 hRj hRk hnp hmN hze hev hnc
                          generalize memB s (assignsS y.l) = p1 at *
                          generalize (memB s (assignsS z.l) || (memB s (addsS z.l) || memB s (readsS z.l))) = p2 at *
                          generalize memB s (addsS y.l) = p3 at *
                          generalize memB s (readsS z.l) = p4 at *
                          have hb2z : b2 < wr.heap.size := by omega
                          have hb3z : b3 < wr.heap.size := by omega
                          have mk1 : Nat := 0
                          go_wp2_with fail
                          go_region_held3 (fun w' => w'.cell? ⟨b2, o2 + j, none⟩ = some (.slice y.A y.l.length y.c) ∧ w'.cell? ⟨b2, o2 + k, none⟩ = some (.slice z.A z.l.length z.c) ∧ w'.cell? ⟨b3, o3 + m, none⟩ = some (.string s)) (go_keep) ((first
                            | (clear mk1; go_at_call 40; (
                                refine (show Calls _ _ _ _ _ from HU.out.1 _ ((Below.refl _ _).drew)).mono ?_
                                rintro E w7 ⟨rfl, hb7⟩
                                have hb7' : Below wr.heap.size wr w7 := ((Below.refl _ _).drew).trans hb7
                                have d1 : w7.cell? ⟨b2, o2 + j, none⟩ = some (.slice y.A y.l.length y.c) := (bcell hb7' b2 (o2 + j) hb2z).trans hcj
                                have d2 : w7.cell? ⟨b2, o2 + k, none⟩ = some (.slice z.A z.l.length z.c) := (bcell hb7' b2 (o2 + k) hb2z).trans hck
                                have d3 : w7.cell? ⟨b3, o3 + m, none⟩ = some (.string s) := (bcell hb7' b3 (o3 + m) hb3z).trans cn
                                have hz7 := hb7'.size
                                have HB7 := Lib.hid hb7'; clear hb7 hb7'))
                            | (go_at_call 40; (
                                refine (show Calls _ _ _ _ _ from HU.out.2.1 _ HB7.out).mono ?_
                                rintro E w8 ⟨rfl, hb8⟩
                                have hb8' : Below wr.heap.size wr w8 := HB7.out.trans (hb8.mono hz7)
                                have f1 : w8.cell? ⟨b2, o2 + j, none⟩ = some (.slice y.A y.l.length y.c) := (bcell hb8' b2 (o2 + j) hb2z).trans hcj
                                have f2 : w8.cell? ⟨b2, o2 + k, none⟩ = some (.slice z.A z.l.length z.c) := (bcell hb8' b2 (o2 + k) hb2z).trans hck
                                have f3 : w8.cell? ⟨b3, o3 + m, none⟩ = some (.string s) := (bcell hb8' b3 (o3 + m) hb3z).trans cn
                                have hz8 := hb8'.size
                                have HB8 := Lib.hid hb8'; clear hb8 hb8'))))
                          go_upto_region 18 with (fail)
                          clear hcj hck cn d1 d2 d3 f1 f2 f3
                          go_cut [96] (fun s96 wc => s96 = .bool ((p1 && p2) || (p3 && p4)) ∧ w8 = wc)
                          case first => as_aux_lemma =>
                            cases p1 <;> cases p2 <;> cases p3 <;> cases p4
                            all_goals
                              go_wp2_with fail
                              go_meet
                              case rel => exact ⟨rfl, rfl⟩
                          obtain ⟨rfl, rfl⟩ := hcut
                          have hhT := HU.out.2.2.2.2.1
                          generalize hpt : ((p1 && p2) || (p3 && p4)) = pt at *
                          clear t1 t2 t3 t4
                          have HT2 := Lib.hid hhT; clear hhT hpt
                          cases pt with
                          | true =>
                            have hno : ¬ CalmL L := HU.out.2.2.1 (hitT_iff.1 HT2.out)
                            have HN2 := Lib.hid hno; clear hno
                            go_wp2_with fail
                            go_ret
                            exact ⟨true, rfl, ⟨fun _ => HN2.out, fun _ => rfl⟩, HE.out.1.trans ((HU.out.2.2.2.2.2.2.1.trans (HB8.out.mono HU.out.2.2.2.2.2.2.1.size)).mono HE.out.1.size)⟩
                          | false =>
                            have hno : ¬ hitS s y z := fun h => by have := hitT_iff.2 h; rw [HT2.out] at this; cases this
                            have HN2 := Lib.hid hno; clear hno
                            go_wp2_with fail
                            go_roundg (gk - 1)
                            case measure => omega
                            case rel => exact ⟨m + 1, by omega, by go_num, by rw [HU.out.2.2.2.2.2.2.2]; exact HU.out.2.2.2.1 HN2.out, HU.out.2.2.2.2.2.1.trans (HB8.out.mono HU.out.2.2.2.2.2.1.size)⟩
                        · have HB := Lib.hid (And.intro hb5 hnp); clear hb5 hnp
                          have hmN : N.length ≤ m := by omega
                          go_wp2_with fail
                          go_roundg (gk3 - 1)
                          case measure => have := HG3.out; have := HK.out.2.2.2; omega
                          case rel =>
                            refine ⟨k + 1, by have := HG3.out; have := HK.out.2.2.2; omega, by go_num, fun k5 m' hm' hmk hne => ?_, HK.out.2.2.1.trans (HB.out.1.mono HK.out.2.2.1.size)⟩
                            by_cases e : m' = k
                            · subst e
                              rintro ⟨t, ht⟩
                              obtain ⟨p, hp, hpe⟩ := List.getElem_of_mem (HM.out.2.2.2 m' hm' t ht)
                              exact HB.out.2 HNE.out p hp (by omega) (by rw [hpe]; exact ht)
                            · exact HK.out.2.1 k5 m' hm' (by omega) hne
                  · have e5 : (kind == 5) = false := by simp [k5]
                    have HK := Lib.hid k5; clear k5 hnh
                    have HB := Lib.hid hbr; clear hbr
                    go_wp2_with fail
                    go_roundg (gj - 1)
                    case measure => have := HJ.out; omega
                    case rel => exact ⟨j + 1, by have := HJ.out; omega, by go_num, HR.out.2.2.2.2.2.1 HM.out.1 (fun h => absurd h HK.out), H14.out.trans (HB.out.mono H14.out.size)⟩
                · have HK := Lib.hid hnh; clear hnh
                  have HB := Lib.hid hbr; clear hbr
                  have hkl : blocks.length ≤ k := by omega
                  go_wp2_with fail
                  go_roundg (gj - 1)
                  case measure => have := HJ.out; omega
                  case rel => exact ⟨j + 1, by have := HJ.out; omega, by go_num, HR.out.2.2.2.2.2.1 HM.out.1 (fun k5 m hm hne => HK.out k5 m hm (by omega) hne), H14.out.trans (HB.out.mono H14.out.size)⟩
          · obtain rfl : j = blocks.length := by omega
            have HB := Lib.hid (And.intro hbr hck); clear hbr hck x0r x7r
            go_wp2_with fail
            go_roundg (gq - 1)
            case measure => have := HG.out; omega
            case rel => exact ⟨q + 1, by have := HG.out; omega, by go_num, HE.out.2.2.2.2.2.2.2.1 (HE.out.2.2.2.2.2.2.2.2.1 HB.out.2), HE.out.1.trans (HB.out.1.mono HE.out.1.size)⟩
      · have hall : CalmL L := fun y hy => by
          obtain ⟨i, hi, rfl⟩ := List.getElem_of_mem hy
          exact hcalm i hi (by omega)
        have H5 := Lib.hid (And.intro hb hall); clear hb hall hcalm
        go_wp2_with fail
        go_ret
        exact ⟨false, rfl, ⟨fun h => (by cases h), fun h => absurd H5.out.2 h⟩, H5.out.1⟩
end Go.Proofs.YtgiceeholamphaaDoor
