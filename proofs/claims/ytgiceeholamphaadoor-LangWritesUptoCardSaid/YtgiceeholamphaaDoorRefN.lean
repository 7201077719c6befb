/- The contracts of stepref.namesIn, NamesOf: all names of an expression, of a program, in order, each once. No conditions but that what is read is there, and that it can be counted. -/
import Derived.Test.YtgiceeholamphaaDoorPut
import Derived.Test.YtgiceeholamphaaDoorRefL
namespace Go.Proofs.YtgiceeholamphaaDoor
open Go.ChangeShapes Go.WideShapes Go.ChangeAt Go.RowKit Go.Maps

/-- v is a list of names, as it is read in w. -/
def LSt (w : World) (v : Value) (L : List ByteArray) : Prop :=
  ∃ (A : Option Addr) (c : Nat), v = .slice A L.length c ∧ L.length ≤ c ∧ ((A = none ∧ c = 0) ∨ ∃ b o, A = some ⟨b, o, none⟩) ∧ Rd w w.heap.size A (strs L)
theorem LSt.below {w w' : World} {v : Value} {L : List ByteArray} (h : LSt w v L) (hb : Below w.heap.size w w') : LSt w' v L := by
  obtain ⟨A, c, h1, h2, h3, h4⟩ := h
  exact ⟨A, c, h1, h2, h3, (h4.below hb).more hb.size⟩
theorem PutPost.lst {L : List ByteArray} {w w' : World} {E : Ending} (h : PutPost L w E w') : ∃ v, E = .returned v ∧ LSt w' v L ∧ Below w.heap.size w w' := by
  obtain ⟨A, c, h1, h2, h3, h4, h5⟩ := h
  exact ⟨_, h1, ⟨A, c, rfl, h2, h3, h4⟩, h5⟩
theorem LSt.post {L : List ByteArray} {w w' : World} {v : Value} (h : LSt w' v L) (hb : Below w.heap.size w w') : PutPost L w (.returned v) w' := by
  obtain ⟨A, c, rfl, h2, h3, h4⟩ := h
  exact ⟨A, c, rfl, h2, h3, h4, hb⟩
theorem put_lst (l : List ByteArray) (s : ByteArray) (w : World) (v : Value) (h : LSt w v l) (hn : l.length ≤ 8388608) : Calls Tryd.prog 61 #[v, .string s] w (PutPost (putL s l) w) := by
  obtain ⟨A, c, rfl, h2, h3, h4⟩ := h
  exact put_any l s w A c h4 h3 h2 hn
theorem box_factsN {w W : World} {c : List Value} {t : TypeId} (h : w.alloc (.cells c.toArray t) = W) : Below w.heap.size w W ∧ W.heap.size = w.heap.size + 1 ∧ Blk W w.heap.size t c := by
  subst h
  exact ⟨(Below.refl _ _).alloc (Nat.le_refl _) _, by simp, Blk.new _ _ _⟩
set_option maxRecDepth 100000 in
set_option maxHeartbeats 2000000 in
theorem namesIn_any : ∀ (e : ExprR) (w : World) (B : Nat) (v : Value) (l : List ByteArray), RdE w B e → B ≤ w.heap.size → LSt w v l → l.length + e.nodes ≤ 8388608 →
    Calls Tryd.prog 62 #[e.val, v] w (PutPost (putAll e.names l) w) := by
  refine ExprR.ind fun e ih => ?_
  intro w B v l hR hB hL hn
  have hnodes := e.nodes_eq
  have hrow := hR.row
  have heach := fun k (hk : k ∈ e.kids) => hR.kid hk
  have hnm := e.names_eq
  have hfit := hR.fits
  obtain ⟨kind, m, name, sA, sc, kids⟩ := e
  simp only [ExprR.kids, ExprR.kind, ExprR.name, ExprR.sA] at ih hnodes hrow heach hnm hfit
  unfold Fits at hfit
  have H := Lib.hid (And.intro ih (And.intro hrow (And.intro heach (And.intro hnm (And.intro hn (And.intro hnodes hL)))))); clear ih hrow heach hnm hR hn hnodes hL
  have key : Calls Tryd.prog 62 #[.agg #[.int .i64 kind, .int .i64 m, .string name, .slice sA kids.length sc], v] w (PutPost (putAll (ExprR.mk kind m name sA sc kids).names l) w) := by
    go_enter Tryd.func62, Tryd.ntmps62
    go_upto_if 8 with (fail)
    generalize hW : w.alloc (.cells #[.int .i64 kind, .int .i64 m, .string name, .slice sA kids.length sc] 46) = W
    obtain ⟨hbw, hzw, hxw⟩ := box_factsN (c := [.int .i64 kind, .int .i64 m, .string name, .slice sA kids.length sc]) hW
    clear hW
    have y2 := hxw.cell 2
    have y3 := hxw.cell 3
    simp at y2 y3
    go_cut [1] (fun s1 wc => LSt wc s1 (putAll (if kind = 2 then [name] else []) l) ∧ Below (w.heap.size + 1) W wc)
    case first => as_aux_lemma =>
      by_cases k2 : kind = 2
      · subst k2
        have hln : l.length ≤ 8388608 := by have := H.out.2.2.2.2.1; omega
        have hput := put_lst l name W v (H.out.2.2.2.2.2.2.below hbw) hln
        have H3 := Lib.hid hput; clear hput hbw hxw
        go_wp2_with (go_at_call 61; (
          refine (show Calls _ _ _ _ _ from H3.out).mono ?_
          rintro E w2 hp
          obtain ⟨v2, rfl, hl2, hb2⟩ := hp.lst
          have H4 := Lib.hid (And.intro hl2 hb2); clear hp hl2 hb2))
        go_meet
        case rel => exact ⟨H4.out.1, H4.out.2.mono (by omega)⟩
      · have e2 : (kind == 2) = false := beq_eq_false_iff_ne.2 k2
        have H3 := Lib.hid hbw; clear hbw hxw
        go_wp2_with fail
        go_meet
        case rel => exact ⟨by rw [if_neg k2]; exact H.out.2.2.2.2.2.2.below H3.out, Below.refl _ _⟩
    case rest =>
      obtain ⟨hl1, hb1⟩ := hcut
      generalize hL1 : putAll (if kind = 2 then [name] else []) l = L1 at *
      have hL1n : L1.length ≤ l.length + 1 := by
        rw [← hL1]
        have h0 := putAll_len (if kind = 2 then [name] else []) l
        have h00 : (if kind = 2 then [name] else []).length ≤ 1 := by split <;> simp
        omega
      have H3 := Lib.hid (And.intro hl1 (And.intro hb1 (And.intro hL1 (And.intro hbw hL1n)))); clear hl1 hb1 hL1 hbw hxw hL1n
      go_wp2_with fail
      go_loopg [1, 5] kids.length (fun gk s1 i wr => ∃ q : Nat, gk + q = kids.length ∧ i = .int .i64 q ∧ LSt wr s1 (putAll (namesE (kids.take q)) L1) ∧ Below (w.heap.size + 1) W wr)
      case atStart => exact ⟨0, by omega, rfl, by rw [List.take_zero, namesE]; exact H3.out.1, H3.out.2.1⟩
      case round =>
        obtain ⟨q, hgq, rfl, hl, hb⟩ := hrel
        have y3r : wr.cell? ⟨w.heap.size, 3, none⟩ = some (.slice sA kids.length sc) := (hb.cell (p := ⟨w.heap.size, 3, none⟩) (Nat.lt_succ_self _)).trans y3
        clear y2 y3
        by_cases hq : q < kids.length
        · obtain ⟨b, o, rfl, hbB, hc⟩ := H.out.2.1.at_ (i := q) hq
          have hz := hb.size
          have hkeep : ∀ p : Addr, p.block < B → wr.cell? p = w.cell? p := fun p hp => (hb.cell (by omega)).trans (H3.out.2.2.2.1.cell (by omega))
          have hc := hc.keep hbB hkeep
          have hRk := (H.out.2.2.1 _ (List.getElem_mem hq)).keep hkeep
          have hih := H.out.1 _ (List.getElem_mem hq)
          have hnk : (putAll (namesE (kids.take q)) L1).length + (kids[q]).nodes ≤ 8388608 := by
            have h1 := H.out.2.2.2.2.1
            have h2 := H.out.2.2.2.2.2.1
            have h3 : nodesE kids = nodesE (kids.take q) + (kids[q]).nodes + nodesE (kids.drop (q + 1)) := by
              conv => lhs; rw [← List.take_append_drop (q + 1) kids, nodesE_append, take_snocA hq, nodesE_append]
              simp [nodesE]
            have h4 : (namesE (kids.take q)).length ≤ nodesE (kids.take q) := by
              generalize kids.take q = t
              induction t with
              | nil => simp [namesE]
              | cons y t iht => have := namesE_len y; simp only [namesE, nodesE, List.length_append]; omega
            have h5 := H3.out.2.2.2.2
            have h6 := putAll_len (namesE (kids.take q)) L1
            omega
          have hnx : namesE (kids.take (q + 1)) = namesE (kids.take q) ++ (kids[q]).names := by rw [take_snocA hq, namesE_append]; simp [namesE]
          obtain ⟨k, hke⟩ : ∃ k, kids[q] = k := ⟨_, rfl⟩
          rw [hke] at hc hRk hih hnk hnx
          have hcall := hih wr B u1 _ hRk (by omega) hl hnk
          obtain ⟨kk, kn, ks, kA, kc, kl⟩ := k
          obtain ⟨c0, c1, c2, c3⟩ := hc
          simp only [ExprR.kind, ExprR.n, ExprR.name, ExprR.sA, ExprR.sc, ExprR.kids] at c0 c1 c2 c3
          have H5 := Lib.hid (And.intro hb (And.intro hcall hnx)); clear hb hcall hnx hl hRk hih hke hkeep hnk
          go_wp2_with (go_at_call 62; (
            refine (show Calls _ _ _ _ _ from H5.out.2.1).mono ?_
            rintro E w5 hp
            obtain ⟨v2, rfl, hl2, hb2⟩ := hp.lst
            have H6 := Lib.hid (And.intro hl2 hb2); clear hp hl2 hb2))
          go_roundg (gk - 1)
          case measure => omega
          case rel => exact ⟨q + 1, by omega, by go_num, by rw [H5.out.2.2, putAll_append]; exact H6.out.1, H5.out.1.trans (H6.out.2.mono (by omega))⟩
        · have hend : kids.take q = kids := List.take_of_length_le (by omega)
          rw [hend] at hl
          have H5 := Lib.hid (And.intro hl hb); clear hl hb hend
          go_wp2_with fail
          go_ret
          have hnn : (ExprR.mk kind m name sA sc kids).names = (if kind = 2 then [name] else []) ++ namesE kids := H.out.2.2.2.1
          rw [hnn, putAll_append, H3.out.2.2.1]
          exact H5.out.1.post (H3.out.2.2.2.1.trans (H5.out.2.mono (by omega)))
  exact key
/-- All statements of a list. -/
theorem alls_snoc {l : List StatR} {q : Nat} (h : q < l.length) : allsS (l.take (q + 1)) = allsS (l.take q) ++ l[q].alls := by rw [take_snocA h, allsS_append]; simp [allsS]
theorem allsB_snoc {l : List BlockR} {q : Nat} (h : q < l.length) : allsB (l.take (q + 1)) = allsB (l.take q) ++ allsS l[q].l := by rw [take_snocA h, allsB_append]; simp [allsB, BlockR.alls_eq]
theorem nodesS_at {l : List StatR} {q : Nat} (h : q < l.length) : nodesS (l.take q) + l[q].nodes ≤ nodesS l := by
  have h3 : nodesS l = nodesS (l.take q) + (l[q]).nodes + nodesS (l.drop (q + 1)) := by
    conv => lhs; rw [← List.take_append_drop (q + 1) l, nodesS_append, take_snocA h, nodesS_append]
    simp [nodesS]
  omega
theorem nodesB_at {l : List BlockR} {q : Nat} (h : q < l.length) : nodesB (l.take q) + nodesS l[q].l ≤ nodesB l := by
  have h3 : nodesB l = nodesB (l.take q) + (l[q]).nodes + nodesB (l.drop (q + 1)) := by
    conv => lhs; rw [← List.take_append_drop (q + 1) l, nodesB_append, take_snocA h, nodesB_append]
    simp [nodesB]
  rw [BlockR.nodes_eq] at h3
  omega
theorem allsB_len (l : List BlockR) : (allsB l).length ≤ nodesB l := by
  induction l with
  | nil => simp [allsB]
  | cons y l ihl => have := allsS_len y.l; simp only [allsB, nodesB, List.length_append, BlockR.alls_eq, BlockR.nodes_eq]; omega
set_option maxRecDepth 100000 in
set_option maxHeartbeats 4000000 in
theorem namesOf_any : ∀ (n : Nat) (k : BlockR) (w : World) (B : Nat) (v : Value) (l : List ByteArray), nodesS k.l < n → RdB w B k → B ≤ w.heap.size → LSt w v l → l.length + nodesS k.l ≤ 8388608 →
    Calls Tryd.prog 39 #[k.val, v] w (PutPost (putAll (allsS k.l) l) w) := by
  intro n
  induction n with
  | zero => intro k w B v l hn; omega
  | succ n ih =>
    intro k w B v l hnn hR hB hL hn
    obtain ⟨A, c, L⟩ := k
    simp only [BlockR.l] at hnn hn
    have hrow := hR.row
    have heach := hR.each
    have hfit := hR.fits
    simp only [BlockR.l, BlockR.A] at hrow heach hfit
    unfold Fits at hfit
    have H := Lib.hid (And.intro ih (And.intro hrow (And.intro heach (And.intro hnn (And.intro hn hL))))); clear ih hrow heach hnn hn hL hR
    show Calls Tryd.prog 39 #[.slice A L.length c, v] w (PutPost (putAll (allsS L) l) w)
    go_enter Tryd.func39, Tryd.ntmps39
    go_wp2_with fail
    go_loopg [1, 5] L.length (fun gk s1 i wr => ∃ q : Nat, gk + q = L.length ∧ i = .int .i64 q ∧ LSt wr s1 (putAll (allsS (L.take q)) l) ∧ Below w.heap.size w wr)
    case atStart => exact ⟨0, by omega, rfl, by rw [List.take_zero, allsS]; exact H.out.2.2.2.2.2, Below.refl _ _⟩
    case round =>
      obtain ⟨q, hgq, rfl, hl, hb⟩ := hrel
      by_cases hq : q < L.length
      · obtain ⟨b, o, rfl, hbB, hc⟩ := H.out.2.1.at_ (i := q) hq
        have hkeep : ∀ p : Addr, p.block < B → wr.cell? p = w.cell? p := fun p hp => hb.cell (by omega)
        have hc := hc.keep hbB hkeep
        have hRx := (H.out.2.2.1 _ (List.getElem_mem hq)).keep hkeep
        have hns := nodesS_at hq
        have hsn := alls_snoc hq
        have hlen := putAll_len (allsS (L.take q)) l
        have hlen2 := allsS_len (L.take q)
        have hn2 := H.out.2.2.2.2.1
        have hn1 := H.out.2.2.2.1
        obtain ⟨x, hxe⟩ : ∃ x, L[q] = x := ⟨_, rfl⟩
        rw [hxe] at hc hRx hns hsn
        have hxn := x.nodes_eq
        have hxa := x.alls_eq
        generalize hP : putAll (allsS (L.take q)) l = P at *
        have hPn : P.length + x.nodes ≤ 8388608 := by omega
        have hxn1 : x.nodes ≤ n := by omega
        obtain ⟨kind, name, ⟨ek, en, ename, eA, ec, ekids⟩, xn, xA, xc, blocks⟩ := x
        obtain ⟨c0, c1, c2, c3, c4, c5, c6, c7⟩ := hc
        simp only [StatR.kind, StatR.name, StatR.e, StatR.n, StatR.bA, StatR.bc, StatR.blocks, ExprR.kind, ExprR.n, ExprR.name, ExprR.sA, ExprR.sc, ExprR.kids] at c0 c1 c2 c3 c4 c5 c6 c7 hxn hxa
        have hz := hb.size
        have H2 := Lib.hid (And.intro hl (And.intro hb (And.intro hRx (And.intro hsn (And.intro hxa (And.intro hP (And.intro hPn (And.intro hxn hxn1)))))))); clear hl hb hRx hsn hxa hP hPn hxn hxn1 hkeep hxe hns hlen hlen2 hn1 hn2
        go_upto_if 18 with (fail)
        go_cut [1] (fun s1 wc => LSt wc s1 (putAll (if kind ≤ 2 then [name] else []) P) ∧ Below wr.heap.size wr wc)
        case first => as_aux_lemma =>
          by_cases k2 : kind ≤ 2
          · have e2 : decide (kind ≤ 2) = true := decide_eq_true k2
            have hput := put_lst P name wr u1 H2.out.1 (by have := H2.out.2.2.2.2.2.2.1; omega)
            have H3 := Lib.hid hput; clear hput
            go_wp2_with (go_at_call 61; (
              refine (show Calls _ _ _ _ _ from H3.out).mono ?_
              rintro E w2 hp
              obtain ⟨v2, rfl, hl2, hb2⟩ := hp.lst
              have H4 := Lib.hid (And.intro hl2 hb2); clear hp hl2 hb2))
            go_meet
            case rel => exact ⟨by rw [if_pos k2]; exact H4.out.1, H4.out.2⟩
          · have e2 : decide (kind ≤ 2) = false := decide_eq_false k2
            have K2 := Lib.hid k2; clear k2
            go_wp2_with fail
            go_meet
            case rel => exact ⟨by rw [if_neg (by have := K2.out; omega)]; exact H2.out.1, Below.refl _ _⟩
        case rest =>
          obtain ⟨hl1, hb1⟩ := hcut
          have hP1n : (putAll (if kind ≤ 2 then [name] else []) P).length ≤ P.length + 1 := by
            have h0 := putAll_len (if kind ≤ 2 then [name] else []) P
            have h00 : (if kind ≤ 2 then [name] else []).length ≤ 1 := by split <;> simp
            omega
          generalize hP1 : putAll (if kind ≤ 2 then [name] else []) P = P1 at *
          have hbx : b < wr.heap.size := by omega
          have d2 := (hb1.cell (p := ⟨b, o + q * 8 + 2, none⟩) hbx).trans c2
          have d3 := (hb1.cell (p := ⟨b, o + q * 8 + 3, none⟩) hbx).trans c3
          have d4 := (hb1.cell (p := ⟨b, o + q * 8 + 4, none⟩) hbx).trans c4
          have d5 := (hb1.cell (p := ⟨b, o + q * 8 + 5, none⟩) hbx).trans c5
          have d7 := (hb1.cell (p := ⟨b, o + q * 8 + 7, none⟩) hbx).trans c7
          clear c0 c1 c2 c3 c4 c5 c6 c7
          have hzc := hb1.size
          have hpn := H2.out.2.2.2.2.2.2.1
          have hxn := H2.out.2.2.2.2.2.2.2.1
          have hen := namesE_len (.mk ek en ename eA ec ekids)
          have hin := namesIn_any (.mk ek en ename eA ec ekids) wc B u1 P1 (H2.out.2.2.1.e.under (hb1.mono (by omega))) (by omega) hl1 (by omega)
          have hP2n := putAll_len (ExprR.mk ek en ename eA ec ekids).names P1
          have H3 := Lib.hid (And.intro hin (And.intro hb1 (And.intro hP1 (And.intro hpn hxn)))); clear hin hb1 hP1 hl1 hpn hxn
          go_upto_region 7 with (go_at_call 62; (
            refine (show Calls _ _ _ _ _ from H3.out.1).mono ?_
            rintro E w5 hp
            obtain ⟨v2, rfl, hl2, hb2⟩ := hp.lst
            have d7' := (hb2.cell (p := ⟨b, o + q * 8 + 7, none⟩) (by omega : b < wc.heap.size)).trans d7
            have hz5 := hb2.size
            have H4 := Lib.hid (And.intro hl2 hb2); clear hp hl2 hb2))
          have hfb := H2.out.2.2.1.fits
          unfold Fits at hfb
          simp only [StatR.blocks] at hfb
          obtain ⟨wo, hwo⟩ : ∃ wo : World, wo = wr := ⟨_, rfl⟩
          obtain ⟨gq, hgq'⟩ : ∃ gq, gq = gk := ⟨_, rfl⟩
          subst hwo
          have HG := Lib.hid hgq'; clear hgq'
          clear d2 d3 d4 d5 d7
          generalize hP2 : putAll (ExprR.mk ek en ename eA ec ekids).names P1 = P2 at *
          have HP2 := Lib.hid hP2; clear hP2
          go_wp2_with fail
          go_loopg [1, 6] blocks.length (fun gk s1 i w6 => ∃ r : Nat, gk + r = blocks.length ∧ i = .int .i64 r ∧ LSt w6 s1 (putAll (allsB (blocks.take r)) P2) ∧ Below w5.heap.size w5 w6)
          case atStart => exact ⟨0, by omega, rfl, by rw [List.take_zero, allsB]; exact H4.out.1, Below.refl _ _⟩
          case round =>
            obtain ⟨r, hgr, rfl, hl6, hb6⟩ := hrel
            have e7 := (hb6.cell (p := ⟨b, o + q * 8 + 7, none⟩) (by omega : b < w5.heap.size)).trans d7'
            clear d7'
            by_cases hr : r < blocks.length
            · obtain ⟨bb, oo, e0, hbB2, hx2⟩ := H2.out.2.2.1.row.at_ (i := r) hr
              simp only [StatR.bA, StatR.blocks] at e0 hx2
              subst e0
              have hkw : ∀ p : Addr, p.block < B → wr.cell? p = wo.cell? p := fun p hp => (hb6.cell (by omega)).trans ((H4.out.2.cell (by omega)).trans (H3.out.2.1.cell (by omega)))
              have hx2 := (hkw ⟨bb, oo + r, none⟩ hbB2).trans hx2
              have hRb := (H2.out.2.2.1.block (b := blocks[r]) (List.getElem_mem hr)).keep hkw
              have hnB := nodesB_at hr
              have hsn := allsB_snoc hr
              have hlB := allsB_len (blocks.take r)
              have hlen := putAll_len (allsB (blocks.take r)) P2
              have hpn := H3.out.2.2.2.1
              have hxn := H3.out.2.2.2.2
              have hx1 := H2.out.2.2.2.2.2.2.2.2
              have hz6 := hb6.size
              have hcall := H.out.1 blocks[r] wr B u1 _ (by omega) hRb (by omega) hl6 (by omega)
              generalize hbr : blocks[r] = br at *
              obtain ⟨bA, bc, bl⟩ := br
              simp only [BlockR.l, BlockR.val, BlockR.A, BlockR.c] at hx2 hcall hsn
              have H5 := Lib.hid (And.intro hb6 (And.intro hcall hsn)); clear hb6 hcall hsn hl6 hRb hkw hnB hlB hlen hpn hxn hx1
              go_wp2_with (go_at_call 39; (
                refine (show Calls _ _ _ _ _ from H5.out.2.1).mono ?_
                rintro E w7 hp
                obtain ⟨v2, rfl, hl2, hb2⟩ := hp.lst
                have H6 := Lib.hid (And.intro hl2 hb2); clear hp hl2 hb2))
              go_roundg (gk - 1)
              case measure => omega
              case rel => exact ⟨r + 1, by omega, by go_num, by rw [H5.out.2.2, putAll_append]; exact H6.out.1, H5.out.1.trans (H6.out.2.mono (by omega))⟩
            · have hend : blocks.take r = blocks := List.take_of_length_le (by omega)
              rw [hend] at hl6
              have H5 := Lib.hid (And.intro hl6 hb6); clear hl6 hb6 hend
              go_wp2_with fail
              go_roundg (gq - 1)
              case measure => have := HG.out; omega
              case rel =>
                have := HG.out
                refine ⟨q + 1, by omega, by go_num, ?_, H2.out.2.1.trans ((H3.out.2.1.mono (by omega)).trans ((H4.out.2.mono (by omega)).trans (H5.out.2.mono (by omega))))⟩
                have hxa : (StatR.mk kind name (.mk ek en ename eA ec ekids) xn xA xc blocks).alls = (if kind ≤ 2 then [name] else []) ++ ((ExprR.mk ek en ename eA ec ekids).names ++ allsB blocks) := H2.out.2.2.2.2.1
                rw [H2.out.2.2.2.1, putAll_append, H2.out.2.2.2.2.2.1, hxa, putAll_append, H3.out.2.2.1, putAll_append, HP2.out]
                exact H5.out.1
      · have hend : L.take q = L := List.take_of_length_le (by omega)
        rw [hend] at hl
        have H5 := Lib.hid (And.intro hl hb); clear hl hb hend
        go_wp2_with fail
        go_ret
        exact H5.out.1.post H5.out.2
end Go.Proofs.YtgiceeholamphaaDoor
