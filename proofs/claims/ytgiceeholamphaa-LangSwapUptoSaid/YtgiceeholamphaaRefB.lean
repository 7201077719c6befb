/- The contract of stepref.Begun. No conditions but that what is read is there, and of bounded bulk. -/
import Derived.Test.YtgiceeholamphaaRefW
import Derived.Test.YtgiceeholamphaaPrM
import Derived.OwnWalk
namespace Go.Proofs.Ytgiceeholamphaa
open Go.ChangeShapes Go.WideShapes Go.ChangeAt Go.RowKit Go.Maps

def BegunPost (L : List StatR) (V : List VarR) (w : World) (E : Ending) (w' : World) : Prop := Below w.heap.size w w' ∧
  ((wrong L ≠ 0 ∧ E = .returned (.tuple #[.slice none 0 0, .int .i64 (wrong L)])) ∨
   (wrong L = 0 ∧ ¬ goodV V ∧ E = .returned (.tuple #[.slice none 0 0, .int .i64 7])) ∨
   (wrong L = 0 ∧ goodV V ∧ ∃ v, E = .returned (.tuple #[v, .int .i64 0]) ∧ w'.ownsRow w.heap.size 36 2 v (begN L V).length (cellsV (varsF (begN L V) (beginF L V)))))
theorem wrong_all' {l : List StatR} (h : wrong l = 0) : AllL l := by
  unfold wrong at h
  split at h
  · assumption
  · cases h
theorem RowV.each {w : World} {B b o : Nat} {l : List VarR} (h : RowV w B (some ⟨b, o, none⟩) l) (i : Nat) (hi : i < l.length) : w.cell? ⟨b, o + i * 2, none⟩ = some (.string l[i].name) ∧ w.cell? ⟨b, o + i * 2 + 1, none⟩ = some (.int .i64 l[i].n) := by
  obtain ⟨b', o', e, _, h0, h1⟩ := h.at_ hi
  injection e with e
  injection e with e1 e2
  subst e1 e2
  exact ⟨h0, h1⟩
theorem startF_none {V : List VarR} {s : ByteArray} (h : ∀ v ∈ V, v.name ≠ s) : startF V s = none := by
  have := mt (startF_isSome V s).1 (by rintro ⟨v, hv, e⟩; exact h v hv e)
  simpa using this
theorem goodV_nil : goodV [] := ⟨by simp, by simp⟩
theorem goodV_next {V : List VarR} {q : Nat} (hq : q < V.length) (hg : goodV (V.take q)) (hno : ∀ j (h : j < V.length), j < q → V[j].name ≠ V[q].name) (hn : named V[q].name) : goodV (V.take (q + 1)) := by
  rw [List.take_succ_eq_append_getElem hq]
  refine goodV_snoc.2 ⟨hg, startF_none fun v hv => ?_, hn⟩
  obtain ⟨j, hj, e⟩ := List.getElem_of_mem hv
  rw [List.getElem_take] at e
  rw [← e]
  simp at hj
  exact hno j (by omega) (by omega)
theorem names_next (V : List VarR) {q : Nat} (hq : q < V.length) (l : List ByteArray) : putAll ((V.take (q + 1)).map VarR.name) l = putL V[q].name (putAll ((V.take q).map VarR.name) l) := by
  rw [List.take_succ_eq_append_getElem hq, List.map_append, putAll_append]; rfl
set_option maxRecDepth 100000 in
set_option maxHeartbeats 4000000 in
theorem begun_any (k : BlockR) (w : World) (B : Nat) (A' : Option Addr) (c' : Nat) (V : List VarR) (hR : RdB w B k) (hV : RdV w B A' V) (hB : B ≤ w.heap.size) (hn : nodesS k.l ≤ 1048576) :
    Calls Try.prog 14 #[k.val, .slice A' V.length c'] w (BegunPost k.l V w) := by
  obtain ⟨iV, hiV, hiv⟩ := Option.map_eq_some_iff.1 info_var
  simp only [Prod.mk.injEq] at hiv
  have HiV := Lib.hid (And.intro hiV (And.intro hiv.1 (And.intro hiv.2.1 hiv.2.2))); clear hiV hiv
  obtain ⟨A, c, L⟩ := k
  simp only [BlockR.l] at hn
  have hfit := hV.fits
  unfold Fits at hfit
  have HX := Lib.hid (And.intro hR (And.intro hV hn)); clear hR hV hn
  show Calls Try.prog 14 #[.slice A L.length c, .slice A' V.length c'] w (BegunPost L V w)
  by_cases hw : wrong L = 0
  rotate_left
  · have hw2 : ¬ ((wrong L : Int) = 0) := by omega
    have Hw := Lib.hid hw; clear hw
    generalize hx : wrong L = x at *
    have Hx := Lib.hid hx; clear hx
    go_enter Try.func14, Try.ntmps14
    go_wp2_with (go_at_call 26; (
      refine (program_any (.mk A c L) _ B HX.out.1 hB HX.out.2.2).mono ?_
      rintro E w2 ⟨rfl, hb2⟩
      simp only [BlockR.l]
      rw [Hx.out]
      have H2 := Lib.hid hb2; clear hb2))
    go_ret2
    exact ⟨H2.out, .inl ⟨by rw [Hx.out]; exact Hw.out, by rw [Hx.out]; rfl⟩⟩
  have hA := wrong_all' hw
  have Hw := Lib.hid (And.intro hw hA); clear hw hA
  go_enter Try.func14, Try.ntmps14
  go_upto_region 5 with (first
    | (go_at_call 26; (
        refine (program_any (.mk A c L) _ B HX.out.1 hB HX.out.2.2).mono ?_
        rintro E w2 ⟨rfl, hb2⟩
        simp only [BlockR.l]
        rw [Hw.out.1]
        have hz2 := hb2.size
        have H2 := Lib.hid hb2; clear hb2))
    | (go_at_call 27; (
        refine (show Calls _ _ _ _ _ from namesOf_any (nodesS L + 1) (.mk A c L) w2 B (.slice none 0 0) [] (Nat.lt_succ_self _) ((HX.out.1).under (H2.out.mono hB)) (by omega) ⟨none, 0, rfl, Nat.le_refl _, .inl ⟨rfl, rfl⟩, Rd.nil _ _ _⟩ (by have := HX.out.2.2; simp [BlockR.l]; omega)).mono ?_
        rintro E w3 hp
        obtain ⟨v3, rfl, hl3, hb3⟩ := hp.lst
        simp only [BlockR.l] at hl3
        have hz3 := hb3.size
        have H3 := Lib.hid (And.intro hl3 (H2.out.trans (hb3.mono hz2))); clear hp hl3 hb3)))
  generalize hN0 : putAll (allsS L) [] = N0 at *
  have hN0l : N0.length ≤ nodesS L := by
    have h1 := putAll_len (allsS L) []
    have h2 := allsS_len L
    rw [← hN0]
    simp at h1
    omega
  have HN0 := Lib.hid (And.intro hN0 hN0l); clear hN0 hN0l
  go_wp2_with fail
  go_loopg [7, 8] V.length (fun gk v7 i wr => ∃ q : Nat, gk + q = V.length ∧ i = .int .i64 q ∧ LSt wr v7 (putAll ((V.take q).map VarR.name) N0) ∧ goodV (V.take q) ∧ Below w.heap.size w wr)
  case atStart => exact ⟨0, by omega, rfl, by rw [List.take_zero]; exact H3.out.1, by rw [List.take_zero]; exact goodV_nil, H3.out.2⟩
  case round =>
    obtain ⟨q, hgq, rfl, hl, hg, hb⟩ := hrel
    by_cases hq : q < V.length
    · obtain ⟨b, o, rfl, hbB, _, _⟩ := HX.out.2.1.row.at_ (i := q) hq
      have hcV : ∀ j (h : j < V.length), wr.cell? ⟨b, o + j * 2, none⟩ = some (.string V[j].name) := fun j h => (hb.cell (p := ⟨b, o + j * 2, none⟩) (Nat.lt_of_lt_of_le hbB hB)).trans (HX.out.2.1.row.each j h).1
      have gq := hcV q hq
      have hbw : b < wr.heap.size := by have := hb.size; omega
      obtain ⟨wo, hwo⟩ : ∃ wo : World, wo = wr := ⟨_, rfl⟩
      obtain ⟨go, hgo⟩ : ∃ go, go = gk := ⟨_, rfl⟩
      subst hwo
      have HG := Lib.hid hgo; clear hgo
      have H4 := Lib.hid (And.intro hl (And.intro hg (And.intro hb hcV))); clear hl hg hb hcV
      go_wp2_with fail
      go_loopg [9] (q + 1) (fun gk i w6 => ∃ j : Nat, gk + j = q + 1 ∧ j ≤ q ∧ i = .int .i64 j ∧ (∀ t (h : t < V.length), t < j → V[t].name ≠ V[q].name) ∧ Below wo.heap.size wo w6)
      case atStart => exact ⟨0, by omega, by omega, rfl, fun t _ h => by omega, Below.refl _ _⟩
      case round =>
        obtain ⟨j, hgj, hjq, rfl, hno, hb6⟩ := hrel
        have gq6 := (hb6.cell (p := ⟨b, o + q * 2, none⟩) hbw).trans gq
        clear gq
        by_cases hj : j < q
        · have gj6 := (hb6.cell (p := ⟨b, o + j * 2, none⟩) hbw).trans (H4.out.2.2.2 j (by omega))
          have hjl : (j : Int) < (V.length : Int) := by omega
          have hsame := same_name (V[j]'(by omega)).name V[q].name
          obtain ⟨x, hxe⟩ : ∃ x, (V[j]'(by omega)).name = x := ⟨_, rfl⟩
          obtain ⟨y, hye⟩ : ∃ y, V[q].name = y := ⟨_, rfl⟩
          rw [hxe, hye] at hsame
          rw [hxe] at gj6
          rw [hye] at gq6
          have H5 := Lib.hid (And.intro hno (And.intro hb6 (And.intro hxe hye))); clear hno hb6 hxe hye
          go_wp2_with fail
          by_cases hs : x = y
          · rw [decide_eq_true hs] at hsame
            have Hs := Lib.hid hs; clear hs
            go_region_held3 (fun w' => w'.cell? ⟨b, o + j * 2, none⟩ = some (.string x) ∧ w'.cell? ⟨b, o + q * 2, none⟩ = some (.string y)) (go_keep) (fail)
            go_wp2_with fail
            go_ret2
            refine ⟨H4.out.2.2.1.trans (H5.out.2.1.drew.mono H4.out.2.2.1.size), .inr (.inl ⟨Hw.out.1, fun hgv => ?_, rfl⟩)⟩
            have h1 := (List.getElem_inj (i := j) (j := q) (h₀ := by simp; omega) (h₁ := by simpa using hq) hgv.2).1 (by simp [H5.out.2.2.1, H5.out.2.2.2, Hs.out])
            omega
          · rw [decide_eq_false hs] at hsame
            have Hs := Lib.hid hs; clear hs
            go_region_held3 (fun w' => w'.cell? ⟨b, o + j * 2, none⟩ = some (.string x) ∧ w'.cell? ⟨b, o + q * 2, none⟩ = some (.string y)) (go_keep) (fail)
            go_wp2_with fail
            go_roundg (gk - 1)
            case measure => omega
            case rel => exact ⟨j + 1, by omega, by omega, by go_num, fun t ht htj => by
              by_cases e : t = j
              · subst e; rw [H5.out.2.2.1, H5.out.2.2.2]; exact Hs.out
              · exact H5.out.1 t ht (by omega), H5.out.2.1.drew⟩
        · obtain rfl : j = q := by omega
          have hnext := goodV_next hq H4.out.2.1 hno
          have hnn := names_next V hq N0
          have hgn : goodV V → named V[j].name := fun h => h.1 _ (List.getElem_mem hq)
          obtain ⟨x, hxe⟩ : ∃ x, V[j].name = x := ⟨_, rfl⟩
          rw [hxe] at gq6 hnext hnn hgn
          have hnm := named_any wr x
          have hlw := H4.out.1.below hb6
          have hz6 := hb6.size
          by_cases hn : named x
          · rw [decide_eq_true hn] at hnm
            have hput := put_lst _ x wr u7 hlw (by
              have h1 := putAll_len ((V.take j).map VarR.name) N0
              have h2 := HN0.out.2
              have h3 := HX.out.2.2
              simp only [List.length_map, List.length_take] at h1
              omega)
            have H5 := Lib.hid (And.intro hnext (And.intro hnn (And.intro hb6 (And.intro hnm (And.intro hn hput))))); clear hnext hnn hb6 hnm hn hput hgn hlw hno hxe
            go_wp2_with (first
              | (go_at_call 28; (
                  refine (show Calls _ _ _ _ _ from H5.out.2.2.2.1).mono ?_
                  rintro E w7 ⟨rfl, rfl⟩))
              | (go_at_call 29; (
                  refine (show Calls _ _ _ _ _ from H5.out.2.2.2.2.2).mono ?_
                  rintro E w8 hp
                  obtain ⟨v2, rfl, hl2, hb2⟩ := hp.lst
                  have H6 := Lib.hid (And.intro hl2 hb2); clear hp hl2 hb2)))
            go_roundg (go - 1)
            case measure => have := HG.out; omega
            case rel =>
              have := HG.out
              exact ⟨j + 1, by omega, by go_num, by rw [H5.out.2.1]; exact H6.out.1, H5.out.1 H5.out.2.2.2.2.1, H4.out.2.2.1.trans ((H5.out.2.2.1.trans (H6.out.2.mono hz6)).mono H4.out.2.2.1.size)⟩
          · rw [decide_eq_false hn] at hnm
            have H5 := Lib.hid (And.intro hb6 (And.intro hnm (And.intro hn hgn))); clear hnext hnn hb6 hnm hn hgn hlw hno hxe
            go_wp2_with (go_at_call 28; (
                refine (show Calls _ _ _ _ _ from H5.out.2.1).mono ?_
                rintro E w7 ⟨rfl, rfl⟩))
            go_ret2
            exact ⟨H4.out.2.2.1.trans (H5.out.1.mono H4.out.2.2.1.size), .inr (.inl ⟨Hw.out.1, fun h => H5.out.2.2.1 (H5.out.2.2.2 h), rfl⟩)⟩
    · have hend : V.take q = V := List.take_of_length_le (by omega)
      rw [hend] at hl hg
      have hbn : putAll (V.map VarR.name) N0 = begN L V := by rw [← HN0.out.1]; rfl
      rw [hbn] at hl
      have hbl : (begN L V).length ≤ 2097152 := by
        have h1 := begN_len L V
        have h2 := HX.out.2.2
        omega
      have hF : ∀ s, (beginF L V s).getD 0 = lastOf V s := beginF_getD L V
      generalize hN : begN L V = N at *
      obtain ⟨AN, cN, rfl, hc1, hc2, hrdN⟩ := hl
      obtain ⟨W7, hW7⟩ : ∃ W7 : World, W7 = wr := ⟨_, rfl⟩
      subst hW7
      have hz7 := hb.size
      have H4 := Lib.hid (And.intro hrdN (And.intro hg (And.intro hb (And.intro hN hF)))); clear hrdN hg hb hN hF hbn hend
      go_wp2_with fail
      go_loopg [10, 11] N.length (fun gk v10 i wr => ∃ q : Nat, gk + q = N.length ∧ i = .int .i64 q ∧ wr.ownsRow W7.heap.size 36 2 v10 q (cellsV (varsF (N.take q) (beginF L V))) ∧ Below W7.heap.size W7 wr)
      case atStart => exact ⟨0, by omega, rfl, World.ownsRow_nil .., Below.refl _ _⟩
      case round =>
        obtain ⟨p, hgp, rfl, hown, hb⟩ := hrel
        by_cases hp : p < N.length
        · obtain ⟨bn, on, rfl, hbnB, gn⟩ := H4.out.1.atMap (f := Value.string) (l := N) hp
          have hzr := hb.size
          have gn := (hb.cell (p := ⟨bn, on + p, none⟩) hbnB).trans gn
          have hbnr : bn < wr.heap.size := by omega
          have htk : (varsF (N.take (p + 1)) (beginF L V)) = varsF (N.take p) (beginF L V) ++ [⟨N[p], lastOf V N[p]⟩] := by
            rw [List.take_succ_eq_append_getElem hp, varsF, varsF, List.map_append, List.map_cons, List.map_nil, vOf, H4.out.2.2.2.2]
          obtain ⟨s, hse⟩ : ∃ s, N[p] = s := ⟨_, rfl⟩
          rw [hse] at gn htk
          have H5 := Lib.hid (And.intro hown (And.intro hb htk)); clear hown hb htk hse
          go_upto_region 21 with (fail)
          obtain ⟨wo, hwo⟩ : ∃ wo : World, wo = wr := ⟨_, rfl⟩
          obtain ⟨go, hgo⟩ : ∃ go, go = gk := ⟨_, rfl⟩
          subst hwo
          have HG := Lib.hid hgo; clear hgo
          generalize hW : wo.alloc (.cells #[.string s, .int .i64 0] 36) = W
          obtain ⟨hbw, hzw, hxw⟩ := box_facts (c := [.string s, .int .i64 0]) hW
          clear hW
          have H6 := Lib.hid (And.intro hbw hxw); clear hbw hxw
          go_wp2_with fail
          go_loopg [13] V.length (fun gk i w6 => ∃ r : Nat, gk + r = V.length ∧ i = .int .i64 r ∧ Blk w6 wo.heap.size 36 [.string s, .int .i64 (lastOf (V.take r) s)] ∧ Below wo.heap.size wo w6 ∧ W.heap.size ≤ w6.heap.size)
          case atStart => exact ⟨0, by omega, rfl, H6.out.2, H6.out.1, Nat.le_refl _⟩
          case round =>
            obtain ⟨r, hgr, rfl, hx6, hb6, hzz⟩ := hrel
            have gn6 := (hb6.cell (p := ⟨bn, on + p, none⟩) hbnr).trans gn
            clear gn
            have hxl := hx6.lt
            by_cases hr : r < V.length
            · obtain ⟨b, o, rfl, hbB, g0, g1⟩ := HX.out.2.1.row.at_ (i := r) hr
              have hkw : ∀ p : Addr, p.block < B → wr.cell? p = w.cell? p := fun p hp => (hb6.cell (by omega)).trans ((H5.out.2.1.cell (by omega)).trans (H4.out.2.2.1.cell (by omega)))
              have g0 := (hkw ⟨b, o + r * 2, none⟩ hbB).trans g0
              have g1 := (hkw ⟨b, o + r * 2 + 1, none⟩ hbB).trans g1
              have hrl : (r : Int) < (V.length : Int) := by omega
              have hpl : (p : Int) < (N.length : Int) := by omega
              have hsame := same_name V[r].name s
              have hls : lastOf (V.take (r + 1)) s = open Classical in if V[r].name = s then V[r].n else lastOf (V.take r) s := by rw [List.take_succ_eq_append_getElem hr, lastOf_snoc]
              obtain ⟨x, hxe⟩ : ∃ x, V[r].name = x := ⟨_, rfl⟩
              obtain ⟨xn, hne⟩ : ∃ xn, V[r].n = xn := ⟨_, rfl⟩
              rw [hxe] at g0 hsame hls
              rw [hne] at g1 hls
              have hne1 : ¬ (b = wo.heap.size) := by omega
              by_cases hs : x = s
              · rw [decide_eq_true hs] at hsame
                rw [if_pos hs] at hls
                have e0 := hx6.cell 0
                have e1 := hx6.cell 1
                simp at e0 e1
                have f1 := hx6.frozen 1
                have H7 := Lib.hid (And.intro hx6 (And.intro hb6 (And.intro hls hs))); clear hx6 hb6 hls hs hkw hxe hne
                go_wp2_with fail
                go_region_held3 (fun w' => w'.cell? ⟨b, o + r * 2, none⟩ = some (.string x) ∧ w'.cell? ⟨bn, on + p, none⟩ = some (.string s)) (go_keep) (fail)
                go_wp2_with fail
                go_roundg (gk - 1)
                case measure => omega
                case rel => exact ⟨r + 1, by omega, by go_num, by rw [H7.out.2.2.1]; exact H7.out.1.drew.set_ 1 _, H7.out.2.1.drew.setCell (Nat.le_refl _) _, by simp [World.setCell]; exact hzz⟩
              · rw [decide_eq_false hs] at hsame
                rw [if_neg hs] at hls
                have H7 := Lib.hid (And.intro hx6 (And.intro hb6 (And.intro hls hs))); clear hx6 hb6 hls hs hkw hxe hne
                go_wp2_with fail
                go_region_held3 (fun w' => w'.cell? ⟨b, o + r * 2, none⟩ = some (.string x) ∧ w'.cell? ⟨bn, on + p, none⟩ = some (.string s)) (go_keep) (fail)
                go_wp2_with fail
                go_roundg (gk - 1)
                case measure => omega
                case rel => exact ⟨r + 1, by omega, by go_num, by rw [H7.out.2.2.1]; exact H7.out.1.drew, H7.out.2.1.drew, hzz⟩
            · have hend : V.take r = V := List.take_of_length_le (by omega)
              rw [hend] at hx6
              have e0 := hx6.cell 0
              have e1 := hx6.cell 1
              simp at e0 e1
              have H7 := Lib.hid (And.intro hx6 hb6); clear hx6 hb6 hend
              have hownw := own_below H5.out.1 H7.out.2
              have H8 := Lib.hid hownw; clear hownw
              go_wp2_with (at_builtin; (
                refine wpList_append_src rfl (.tmp 90) (.tmp 92) _ rfl W7.heap.size 36 iV _ 2 24 Try.underlying23 HiV.out.1 HiV.out.2.1 HiV.out.2.2.1 HiV.out.2.2.2 rfl (by decide) _ _ _ rfl (H8.out.alloc _) (some ⟨wr.heap.size, 0, none⟩) 1 1 (cellsV [⟨s, lastOf V s⟩]) rfl (cellsV_length _) (fun _ => ⟨wr.heap.size, 0, rfl, fun j u hu => ((Blk.new wr _ [.string s, .int .i64 (lastOf V s)]).cellAdd j).trans hu⟩) (cellsV_one _) (by unfold maxLen; omega) (by omega) (by simp; omega) ?_
                intro v9 w9 hown9 hg9 hloc
                have H9 := Lib.hid (And.intro hown9 (And.intro hg9 hloc)); clear hown9 hg9 hloc))
              go_roundg (go - 1)
              case measure => have := HG.out; omega
              case rel =>
                have := HG.out
                have hz6 := H7.out.2.size
                have hz7 := H5.out.2.1.size
                refine ⟨p + 1, by omega, by go_num, ?_, ?_⟩
                · rw [H5.out.2.2, cellsV_append]
                  exact H9.out.1
                · have h1 : Below W7.heap.size W7 wr := H5.out.2.1.trans (H7.out.2.mono hzr)
                  exact (h1.alloc (by omega) _).grown H9.out.2.1 (by simp; omega) (fun k hk => (H8.out.lt k hk).1)
        · obtain rfl : p = N.length := by omega
          have H5 := Lib.hid (And.intro hown hb); clear hown hb
          go_wp2_with fail
          go_ret2
          have ho := H5.out.1
          rw [List.take_length] at ho
          exact ⟨H4.out.2.2.1.trans (H5.out.2.mono hz7), .inr (.inr ⟨Hw.out.1, H4.out.2.1, _, rfl, by rw [H4.out.2.2.2.1]; exact own_base ho H4.out.2.2.1.size⟩)⟩
end Go.Proofs.Ytgiceeholamphaa
