/- The law LangSwap answers true. No conditions but that what is read is there, and of bounded bulk. -/
import Derived.Test.YtgiceeholamphaaLawLM
import Derived.Test.YtgiceeholamphaaRaces
import Derived.Test.YtgiceeholamphaaSwapW
namespace Go.Proofs.Ytgiceeholamphaa
open Go.ChangeShapes Go.WideShapes Go.ChangeAt Go.RowKit Go.Maps

/-! ### x = 7 -/
def nameX : ByteArray := ⟨#[120]⟩
def exprS : ExprR := .mk 1 7 ⟨#[]⟩ none 0 []
def statS : StatR := .mk 1 nameX exprS 0 none 0 []
theorem named_x : named nameX := by
  refine ⟨by decide, by decide, by decide, fun i h => ?_⟩
  have h1 : nameX.size = 1 := by decide
  obtain rfl : i = 0 := by omega
  exact ⟨by decide +revert, by decide +revert⟩
theorem all_s : AllL [statS] := fun x hx => by
  rw [List.mem_singleton] at hx
  subst hx
  exact ⟨_, .inl ⟨.inl rfl, named_x, rfl, rfl⟩, fun _ => ⟨_, .inl ⟨rfl, by decide, by decide, by decide, rfl⟩, (fun k hk => by cases hk)⟩, (fun b hb => by cases hb)⟩
theorem wrong_s : wrong [statS] = 0 := by
  unfold wrong
  rw [if_pos all_s, if_neg]
  simp [cntS, StatR.cnt_eq, depthS, StatR.depth_eq, statS, StatR.kind, StatR.e, StatR.blocks, exprS, ExprR.nodes, nodesE, ExprR.depth, depthE, cntB, depthB]
theorem run_s : runS [statS] (beginF [statS] [], 1) = some (upd (beginF [statS] []) nameX 7, 0) := by
  rw [runS_cons, statS, StatR.run]
  simp only [runS_nil]
  rfl
theorem vars_s {Vs : List VarR} (h : IsVars (upd (beginF [statS] []) nameX 7) Vs) : Vs = [⟨nameX, 7⟩] := by
  refine h.unique ⟨List.pairwise_singleton _ _, fun v => ?_⟩
  rw [List.mem_singleton]
  constructor
  · rintro rfl; exact upd_same _ _ _
  · intro hv
    by_cases e : v.name = nameX
    · rw [e, upd_same] at hv
      exact varR_ext e (Option.some.inj hv).symm
    · rw [upd_other _ _ e] at hv
      have h1 := (beginF_isSome [statS] [] v.name).1 (by rw [hv]; rfl)
      rcases h1 with h1 | h1
      · cases h1
      · exfalso
        simp only [allNames, assignsS, addsS, readsS, StatR.assigns_eq, StatR.adds_eq, StatR.reads_eq, statS, StatR.kind, StatR.name, StatR.e, StatR.blocks, assignsB, addsB, readsB, exprS, ExprR.names, namesE] at h1
        simp at h1
        exact e h1
theorem res_s {Vs : List VarR} {n e : Int} (h : Res [statS] [] 1 Vs n e) : Vs = [⟨nameX, 7⟩] ∧ n = 1 ∧ e = 0 := by
  rcases h with ⟨h1, _⟩ | ⟨_, h2, _⟩ | ⟨_, _, h3, _⟩ | ⟨_, _, _, h4, _⟩ | ⟨_, _, _, s, h4, h5, h6, h7⟩
  · exact absurd wrong_s h1
  · exact absurd goodV_nil h2
  · omega
  · rw [show ((1 : Int)).toNat = 1 from rfl, run_s] at h4; cases h4
  · rw [show ((1 : Int)).toNat = 1 from rfl, run_s] at h4
    cases h4
    exact ⟨vars_s h5, by rw [h6]; rfl, h7⟩
theorem read_s {w : World} {t : TypeId} : RdB (w.alloc (.cells #[.int .i64 1, .string ⟨#[120]⟩, .int .i64 1, .int .i64 7, .string ⟨#[]⟩, .slice none 0 0, .int .i64 0, .slice none 0 0] t)) (w.heap.size + 1) (.mk (some ⟨w.heap.size, 0, none⟩) 1 [statS]) := by
  have hb := Blk.new w t statS.cells
  refine ⟨fun _ => ⟨w.heap.size, 0, rfl, Nat.lt_succ_self _, fun i hi => ?_⟩, fun y hy => ?_, by simp [Fits, BlockR.l]⟩
  · obtain rfl : i = 0 := by simpa [BlockR.l] using hi
    exact StatAt.of_get fun j hj => by simp only [Nat.zero_mul, Nat.zero_add]; exact hb.cell j
  · have hy : y = statS := by simpa [BlockR.l] using hy
    subst hy
    exact ⟨_, ⟨_, RowE.nil _ _ _, (fun k hk => by cases hk), by simp [Fits, ExprR.kids, StatR.e, statS, exprS]⟩, RowB.nil _ _ _, (fun b hb => by cases hb), (fun b hb => by cases hb), by simp [Fits, StatR.blocks, statS]⟩
theorem cap_s : CapL [statS] := fun x hx => by
  rw [List.mem_singleton] at hx
  subst hx
  exact ⟨_, Nat.le_refl _, fun b hb => by cases hb⟩
theorem RdV.more' {w w' : World} {B B' : Nat} {A : Option Addr} {l : List VarR} (h : RdV w B A l) (hB : B ≤ B') (hb : Below B' w w') : RdV w' B' A l := ⟨(h.row.more hB).under hb, h.small, h.fits⟩
theorem Res.swap {t : Int} {L M : List StatR} {V Vs : List VarR} {mo n e : Int} (h : SwL t L M) (hw : wrong L = 0) (hC : CalmL L) (hr : Res M V mo Vs n e) : Res L V mo Vs n e := by
  have h1 := h.wrong hw
  have h2 := (h.calm hC).2
  have h3 := h.begin V
  unfold Res at hr ⊢
  rw [h1, h2, h3] at hr
  rw [hw]
  exact hr
set_option maxRecDepth 100000 in
set_option maxHeartbeats 4000000 in
theorem lawSwap_any (k : BlockR) (w : World) (A' : Option Addr) (c' : Nat) (V : List VarR) (mo t : Int) (hR : RdB w w.heap.size k) (hC : CapL k.l) (hV : RdV w w.heap.size A' V) (hn : nodesS k.l ≤ 1048576) (hmo : mo ≤ 9223372036854775807) (ht : -9223372036854775808 ≤ t ∧ t ≤ 9223372036854775807) :
    Calls Try.prog 4 #[k.val, .slice A' V.length c', .int .i64 mo, .int .i64 t] w (TruePost w) := by
  have hfit := hV.fits
  unfold Fits at hfit
  have hs := fun W : World => mean_any (.mk (some ⟨W.heap.size, 0, none⟩) 1 [statS]) (W.alloc (.cells #[.int .i64 1, .string ⟨#[120]⟩, .int .i64 1, .int .i64 7, .string ⟨#[]⟩, .slice none 0 0, .int .i64 0, .slice none 0 0] 34)) (W.heap.size + 1) none 0 [] 1 read_s cap_s ⟨fun h => absurd rfl h, (fun v hv => by cases hv), by simp [Fits]⟩ (by simp) (by simp [BlockR.l, nodesS, StatR.nodes_eq, statS, StatR.e, StatR.blocks, exprS, ExprR.nodes, nodesE, nodesB]) (by decide)
  have hraces := fun (W : World) (hb : Below w.heap.size w W) => lRaces_any k W w.heap.size (hR.under hb) hC hb.size hn
  have hmean := fun (W : World) (hb : Below w.heap.size w W) => mean_any k W w.heap.size A' c' V mo (hR.under hb) hC (hV.keep fun p hp => hb.cell hp) hb.size hn hmo
  have hswap := fun (W : World) (hb : Below w.heap.size w W) (hA : AllL k.l) => swapped_any (nodesS k.l + 1) k W w.heap.size t (Nat.lt_succ_self _) (hR.under hb) hA hb.size hn ht
  have hVk := fun (W : World) (hb : Below w.heap.size w W) => (hV.keep fun p hp => hb.cell hp : RdV W w.heap.size A' V)
  obtain ⟨A, c, L⟩ := k
  simp only [BlockR.l] at hn hraces hmean hswap
  have HX := Lib.hid (And.intro hs (And.intro hraces (And.intro hmean (And.intro hswap hVk)))); clear hs hraces hmean hswap hVk hR hV hC
  show Calls Try.prog 4 #[.slice A L.length c, .slice A' V.length c', .int .i64 mo, .int .i64 t] w (TruePost w)
  go_enter Try.func4, Try.ntmps4
  go_upto_region 4 with (go_at_call 5; (
    refine (show Calls _ _ _ _ _ from HX.out.1 w).mono ?_
    rintro E w2 hp
    obtain ⟨A2, c2, Vs, n, e, rfl, hrow, hb2, hres, hlen⟩ := MeanPost.form (L := [statS]) (V := []) hp (by simp [nodesS, StatR.nodes_eq, statS, StatR.e, StatR.blocks, exprS, ExprR.nodes, nodesE, nodesB]) (by simp)
    obtain ⟨rfl, rfl, rfl⟩ := res_s hres
    obtain ⟨b2, o2, rfl, hbl2, g0, g1⟩ := hrow.at_ (i := 0) (by simp)
    simp only [Nat.zero_mul, Nat.add_zero, List.getElem_cons_zero] at g0 g1
    have H2 := Lib.hid (((Below.refl w.heap.size w).alloc (Nat.le_refl _) _).trans (hb2.mono (by simp))); clear hp hrow hb2 hres hlen))
  by_cases hw : wrong L = 0
  rotate_left
  · have hw2 : ¬ ((wrong L : Int) = 0) := by omega
    have Hw := Lib.hid hw; clear hw
    generalize hx : wrong L = x at *
    have Hx := Lib.hid hx; clear hx
    go_wp2_with (go_at_call 8; (
      refine (show Calls _ _ _ _ _ from HX.out.2.1 w2 H2.out).mono ?_
      rintro E w3 ⟨hb3, ⟨_, rfl⟩ | ⟨h0, _⟩ | ⟨h0, _⟩⟩
      rotate_left
      · exact absurd (Hx.out.symm.trans h0) Hw.out
      · exact absurd (Hx.out.symm.trans h0) Hw.out
      rw [Hx.out]
      have H3 := Lib.hid (H2.out.trans (hb3.mono H2.out.size)); clear hb3))
    go_ret
    exact ⟨rfl, H3.out⟩
  have Hw := Lib.hid hw; clear hw
  by_cases hcm : CalmL L
  rotate_left
  · have Hc := Lib.hid hcm; clear hcm
    go_wp2_with (go_at_call 8; (
      refine (show Calls _ _ _ _ _ from HX.out.2.1 w2 H2.out).mono ?_
      rintro E w3 ⟨hb3, ⟨h0, _⟩ | ⟨_, _, rfl⟩ | ⟨_, h0, _⟩⟩
      · exact absurd Hw.out h0
      rotate_left
      · exact absurd h0 Hc.out
      have H3 := Lib.hid (H2.out.trans (hb3.mono H2.out.size)); clear hb3))
    go_ret
    exact ⟨rfl, H3.out⟩
  have Hc := Lib.hid hcm; clear hcm
  have mk1 : Nat := 0
  have mk2 : Nat := 0
  go_wp2_with (first
    | (clear mk1; go_at_call 8; (
        refine (show Calls _ _ _ _ _ from HX.out.2.1 w2 H2.out).mono ?_
        rintro E w3 ⟨hb3, ⟨h0, _⟩ | ⟨_, h0, _⟩ | ⟨_, _, rfl⟩⟩
        · exact absurd Hw.out h0
        · exact absurd Hc.out h0
        have H3 := Lib.hid (H2.out.trans (hb3.mono H2.out.size)); clear hb3))
    | (go_at_call 9; (
        refine (show Calls _ _ _ _ _ from HX.out.2.2.2.1 w3 H3.out (wrong_allR Hw.out)).mono ?_
        rintro E w4 ⟨A4, c4, M, rfl, hM, hMc, hMl, hb4⟩
        have hz4 := hb4.size
        have hz3 := H3.out.size
        have H4 := Lib.hid (And.intro (H3.out.trans (hb4.mono H3.out.size)) (And.intro (hM.rd (B' := w4.heap.size) (by omega) (fun b hb => hb.2.1)) (And.intro hMc hMl))); clear hM hMc hMl hb4))
    | (clear mk2; go_at_call 5; (
        refine (show Calls _ _ _ _ _ from HX.out.2.2.1 w4 H4.out.1).mono ?_
        rintro E w5 hp
        obtain ⟨A5, c5, Vs5, n5, e5, rfl, hrow, hb5, hres, hlen⟩ := hp.form hn hfit
        have H5 := Lib.hid (And.intro hrow (And.intro (H4.out.1.trans (hb5.mono H4.out.1.size)) (And.intro hres (And.intro hlen hb5)))); clear hp hrow hb5 hres hlen))
    | (go_at_call 5; (
        refine (show Calls _ _ _ _ _ from mean_any (.mk A4 c4 M) w5 w4.heap.size A' c' V mo (H4.out.2.1.under H5.out.2.2.2.2) H4.out.2.2.1 ((HX.out.2.2.2.2 w4 H4.out.1).more' H4.out.1.size H5.out.2.2.2.2) H5.out.2.2.2.2.size (by rw [show (BlockR.mk A4 c4 M).l = M from rfl, H4.out.2.2.2.alike.nodes]; exact hn) hmo).mono ?_
        rintro E w6 hp
        obtain ⟨A6, c6, Vs6, n6, e6, rfl, hrow, hb6, hres, hlen⟩ := MeanPost.form (L := M) hp (by rw [H4.out.2.2.2.alike.nodes]; exact hn) hfit
        obtain ⟨rfl, rfl, rfl⟩ := H5.out.2.2.1.unique (hres.swap H4.out.2.2.2 Hw.out Hc.out)
        have H6 := Lib.hid (And.intro hrow (And.intro (H5.out.1.step hb6) (And.intro (H5.out.2.1.trans (hb6.mono H5.out.2.1.size)) (H5.out.2.2.2.2.trans (hb6.mono H5.out.2.2.2.2.size))))); clear hp hrow hb6 hres hlen))
    | (go_at_call 8; (
        refine (show Calls _ _ _ _ _ from lRaces_any (.mk A4 c4 M) w6 w4.heap.size (H4.out.2.1.under H6.out.2.2.2) H4.out.2.2.1 H6.out.2.2.2.size (by rw [show (BlockR.mk A4 c4 M).l = M from rfl, H4.out.2.2.2.alike.nodes]; exact hn)).mono ?_
        rintro E w7 ⟨hb7, ⟨h0, _⟩ | ⟨_, h0, _⟩ | ⟨_, _, rfl⟩⟩
        · exact absurd (H4.out.2.2.2.wrong Hw.out) h0
        · exact absurd (H4.out.2.2.2.calm Hc.out).1 h0
        have H7 := Lib.hid (And.intro (H6.out.1.step hb7) (And.intro (H6.out.2.1.step hb7) (H6.out.2.2.1.trans (hb7.mono H6.out.2.2.1.size)))); clear hb7))
    | (go_at_call 7; (
        refine (show Calls _ _ _ _ _ from sameVars_any Vs5 Vs5 w7 A5 A6 c5 c6 H7.out.2.1 H7.out.1 H5.out.2.2.2.1).mono ?_
        rintro E w8 ⟨t, rfl, ht, hb8⟩
        obtain rfl := ht.2 rfl
        have H8 := Lib.hid (H7.out.2.2.trans (hb8.mono H7.out.2.2.size)); clear hb8 ht)))
  go_ret
  exact ⟨rfl, H8.out⟩
end Go.Proofs.Ytgiceeholamphaa
