/- actor.Run in company, told of the lone world. No conditions but those named. -/
import Derived.Test.YticdjkkcfdbdcaaAcPw
import Derived.Test.YticdjkkcfdbdcaaAcPe
import Derived.Test.YticdjkkcfdbdcaaAcMk
import Derived.Test.YticdjkkcfdbdcaaPhZ
import Derived.Test.YticdjkkcfdbdcaaAcPt
import Derived.Deep.DeepCutAuto
import Derived.Deep.LoopGhost
import Derived.BigQuiet
import Derived.BigRegion
import Derived.Deep.QuietTactic
import Derived.StillTailTactics
import Derived.WalkSmall
namespace Go.Proofs.Yticdjkkcfdbdcaa
open Go.Conc Go.ConcN Go.RowKit Go.ChangeShapes Go.WideShapes Go.ChangeAt
set_option maxRecDepth 100000 in
theorem res_24 : ResFn Try.prog 24 := resB_ok Try.func24 (by kernel_rfl)
theorem results_24 : Try.f24.results = #[.tmp 8, .tmp 9, .tmp 10] := by kernel_rfl
/-- What actor.Run answers. -/
def RunPA (R : List RulR) (ls : List LetR) (E wk : Int) (L : World) (v : Value) (L1 : World) : Prop :=
  (goCode R ls E wk = 0 → (runA (R.map (·.rs)) (E.toNat + 1) 0 (List.replicate R.length 0) (comeL ls) [] = none ∧ v = .tuple #[.slice none 0 0, .slice none 0 0, .int .i64 2]) ∨
    ∃ nums log u lv, runA (R.map (·.rs)) (E.toNat + 1) 0 (List.replicate R.length 0) (comeL ls) [] = some (nums, log) ∧ v = .tuple #[u, lv, .int .i64 0] ∧ L1.ownsRow L.heap.size 2 1 u nums.length (ints nums) ∧ ownX L1 L.heap.size lv log) ∧
  (goCode R ls E wk ≠ 0 → v = .tuple #[.slice none 0 0, .slice none 0 0, .int .i64 (goCode R ls E wk)]) ∧ Kp L.heap.size L L1
theorem foldl_add_len : ∀ (l : List LetR) (c : Come) (i : Nat) (t : Int), (l.foldl Come.add c i t).length ≤ (c i t).length + l.length
  | [], c, i, t => by simp
  | x :: l, c, i, t => by
    have h := foldl_add_len l (c.add x) i t
    have h2 : (c.add x i t).length ≤ (c i t).length + 1 := by
      unfold Come.add
      split <;> simp
    simp only [List.foldl_cons, List.length_cons]
    omega
theorem comeL_len (ls : List LetR) (i : Nat) (t : Int) : (comeL ls i t).length ≤ ls.length := by
  have := foldl_add_len ls (fun _ _ => []) i t
  simpa [comeL] using this
theorem comeL_succ {ls : List LetR} {k : Nat} (h : k < ls.length) : comeL (ls.take (k + 1)) = (comeL (ls.take k)).add ls[k] := by
  unfold comeL
  rw [List.take_succ_eq_append_getElem h, List.foldl_append]
  rfl
section
variable {Post : Value → World → Prop} {n0 : Nat} {W0 : World}
set_option maxRecDepth 100000 in
set_option maxHeartbeats 4000000 in
theorem arun_m {A AX : Option Addr} {c cl n m : Nat} {R : List RulR} {ls : List LetR} {E wk : Int} {L : World} (hR : RdRules L L.heap.size A R) (hX : Rd L L.heap.size AX (flatX ls)) (hn : R.length = n) (hm : ls.length = m) (hfm : Fits m) :
    MCalls (InV acL acV) Try.prog (fun k g w => Win Try.prog Post n0 W0 k g w) 24 #[.slice A n c, .slice AX m cl, .int .i64 E, .int .i64 wk] false (RunPA R ls E wk L) L := by
  have hJ : JOk Try.prog true _ (fun k g w => Win Try.prog Post n0 W0 k g w) := win_jok (P := Try.prog) (Post := Post) (n0 := n0) (W0 := W0)
  refine MCalls.body hJ Try.func24 (c := _) rfl (fun i r hr => ?_) ?_
  · obtain ⟨fn, h1, h2⟩ := res_24
    cases Option.some.inj (h1.symm.trans Try.func24)
    exact h2 i r hr
  simp only [Try.ntmps24, List.size_toArray, List.length_cons, List.length_nil, Nat.reduceAdd, Nat.reduceSub, Array.replicate_succ, Array.replicate_zero, List.push_toArray, List.append_toArray, List.nil_append, List.cons_append]
  have Hn := Lib.hid hn; clear hn
  have Hm := Lib.hid hm; clear hm
  have HR := Lib.hid (And.intro hR (And.intro hX hfm)); clear hR hX hfm
  obtain ⟨N0, hN0⟩ : ∃ N0, L.heap.size = N0 := ⟨_, rfl⟩
  refine Mp.piece' hJ ac_ok res_24 (by kernel_rfl) (fun L' => Hid (L'.heap = L.heap)) (fun L' e => Lib.hid e) fun LT Hs0 => ?_
  go_wp2
  refine MpPost.normal ?_
  have hkp0 : Kp L.heap.size L (LT.alloc (.cells #[.int .i64 wk] 3)) := ((Kp.refl _ L (Nat.le_refl _)).same Hs0.out).alloc _
  have hbw0 : (LT.alloc (.cells #[.int .i64 wk] 3)).heap[N0]? = some (.cells #[.int .i64 wk] 3 (0, 0)) := by
    have := heap_alloc_new LT (.cells #[.int .i64 wk] 3)
    rwa [Hs0.out, hN0] at this
  have hlt : LT.heap.size = N0 := by rw [Hs0.out]; exact hN0
  rw [hlt]
  generalize LT.alloc (.cells #[.int .i64 wk] 3) = L1 at hkp0 hbw0
  clear Hs0 hlt
  refine Mp.piece' hJ ac_ok res_24 (by kernel_rfl) (fun L' => Hid (Kp L.heap.size L L' ∧ L'.heap[N0]? = some (.cells #[.int .i64 wk] 3 (0, 0)))) (fun L' e => Lib.hid ⟨hkp0.same e, by rw [e]; exact hbw0⟩) fun L2 Hs2 => ?_
  clear hkp0 hbw0
  have hck : Calls Try.prog 27 #[.slice A n c, .slice AX m cl] L2 fun e w' => e = .returned (.int .i64 (actCode R ls)) ∧ RowKit.Below L2.heap.size L2 w' :=
    act_check L2 L.heap.size n m A AX c cl R ls (HR.out.1.keep fun p hp => World.cell?_of_block (Hs2.out.1.at_ _ hp)) (HR.out.2.1.keep fun p hp => World.cell?_of_block (Hs2.out.1.at_ _ hp)) Hs2.out.1.size Hn.out Hm.out HR.out.2.2
  have Hck := Lib.hid hck; clear hck
  obtain ⟨code, hcode⟩ : ∃ code, actCode R ls = code := ⟨_, rfl⟩
  rw [hcode] at Hck
  have Hcode := Lib.hid hcode; clear hcode
  by_cases hc0 : code = 0
  case neg =>
    have hce : (code == 0) = false := by simpa using hc0
    go_wp2_with (first | (go_at_call 27; refine (Hck.out).mono ?_; rintro e w3 ⟨rfl, hb3⟩; have Hb3 := Lib.hid hb3; clear hb3))
    have hrc : goCode R ls E wk = code := by unfold goCode; rw [Hcode.out, if_pos hc0]
    refine MpPost.ret ⟨.inr rfl, fun h => absurd (hrc.symm.trans h) hc0, fun _ => ?_, ?_⟩
    · rw [pack_three results_24, hrc]
      rfl
    · exact Hs2.out.1.keep Hb3.out.size fun b hb => Hb3.out.block b (Nat.lt_of_lt_of_le hb Hs2.out.1.size)
  subst hc0
  go_wp2_with (first | (go_at_call 27; refine (Hck.out).mono ?_; rintro e w3 ⟨rfl, hb3⟩; have Hb3 := Lib.hid hb3; clear hb3))
  refine MpPost.normal ?_
  have hbl : N0 < L2.heap.size := (Array.getElem?_eq_some_iff.1 Hs2.out.2).1
  have hkp : Kp L.heap.size L w3 := Hs2.out.1.keep Hb3.out.size fun b hb => Hb3.out.block b (Nat.lt_of_lt_of_le hb Hs2.out.1.size)
  have hbw : w3.heap[N0]? = some (.cells #[.int .i64 wk] 3 (0, 0)) := (Hb3.out.block _ hbl).trans Hs2.out.2
  clear Hb3 Hck Hs2 hbl
  refine Mp.piece' hJ ac_ok res_24 (by kernel_rfl) (fun L' => Hid (Kp L.heap.size L L' ∧ L'.heap[N0]? = some (.cells #[.int .i64 wk] 3 (0, 0)))) (fun L' e => Lib.hid ⟨hkp.same e, by rw [e]; exact hbw⟩) fun L4 Hk4 => ?_
  clear hkp hbw
  have hwc := cells_at Hk4.out.2 0 _ rfl
  by_cases hE0 : E < 0
  · have hrc : goCode R ls E wk = 1 := by unfold goCode; rw [Hcode.out, if_neg (by simp), if_neg (by omega)]
    have Hrc := Lib.hid hrc; clear hrc
    go_wp2
    refine MpPost.ret ⟨.inr rfl, fun h => absurd (Hrc.out.symm.trans h) (by decide), fun _ => ?_, Hk4.out.1⟩
    rw [pack_three results_24, Hrc.out]
    rfl
  by_cases hE1 : 1000 < E
  · have hrc : goCode R ls E wk = 1 := by unfold goCode; rw [Hcode.out, if_neg (by simp), if_neg (by omega)]
    have Hrc := Lib.hid hrc; clear hrc
    go_wp2
    refine MpPost.ret ⟨.inr rfl, fun h => absurd (Hrc.out.symm.trans h) (by decide), fun _ => ?_, Hk4.out.1⟩
    rw [pack_three results_24, Hrc.out]
    rfl
  by_cases hw : wkOk wk
  case neg =>
    have hrc : goCode R ls E wk = 1 := by unfold goCode; rw [Hcode.out, if_neg (by simp), if_neg (fun h => hw h.2)]
    have Hrc := Lib.hid hrc; clear hrc
    by_cases h1 : wk < 1
    · clear hw
      go_wp2
      refine MpPost.ret ⟨.inr rfl, fun h => absurd (Hrc.out.symm.trans h) (by decide), fun _ => ?_, Hk4.out.1⟩
      rw [pack_three results_24, Hrc.out]
      rfl
    · have h2 : 16 < wk := by unfold wkOk at hw; omega
      clear hw
      go_wp2
      refine MpPost.ret ⟨.inr rfl, fun h => absurd (Hrc.out.symm.trans h) (by decide), fun _ => ?_, Hk4.out.1⟩
      rw [pack_three results_24, Hrc.out]
      rfl
  have h1 : ¬ wk < 1 := by unfold wkOk at hw; omega
  have h2 : ¬ 16 < wk := by unfold wkOk at hw; omega
  have Hw := Lib.hid hw; clear hw
  go_wp2
  refine MpPost.normal ?_
  clear h1 h2 hwc
  obtain ⟨z1, z2, z3, z4, z5⟩ := actCode_zero Hcode.out
  have hn2 : n ≤ 200 := by have := Hn.out; omega
  have hm2 : m ≤ 200 := by have := Hm.out; omega
  have Hz := Lib.hid (And.intro z3 (And.intro z4 z5)); clear z1 z2 z3 z4 z5
  refine Mp.piece' hJ ac_ok res_24 (by kernel_rfl) (fun L' => Hid (Kp L.heap.size L L' ∧ L'.heap[N0]? = some (.cells #[.int .i64 wk] 3 (0, 0)))) (fun L' e => Lib.hid ⟨Hk4.out.1.same e, by rw [e]; exact Hk4.out.2⟩) fun L5 Hk5 => ?_
  clear Hk4
  have hmk := make_any L5 L.heap.size n A c R (HR.out.1.keep fun p hp => World.cell?_of_block (Hk5.out.1.at_ _ hp)) Hk5.out.1.size Hn.out (by omega) (fun r hr => Classical.byContradiction fun h => Hz.out.2.2 r hr (.inr h))
  have Hmk := Lib.hid hmk; clear hmk
  go_wp2_with (first | (go_at_call 62; refine (Hmk.out).mono ?_; rintro e w6 ⟨rfl, hl6⟩; have Hl6 := Lib.hid hl6; clear hl6))
  refine MpPost.normal ?_
  obtain ⟨l0, hl0, hmk0⟩ := Hl6.out
  obtain ⟨hla, hnil⟩ := hmk0.lies hl0 (by rw [List.length_map]; exact Hn.out)
  have hbg : N0 < L5.heap.size := (Array.getElem?_eq_some_iff.1 Hk5.out.2).1
  have hkp6 : Kp L.heap.size L w6 := Hk5.out.1.keep hmk0.below.size fun b hb => hmk0.below.block b (Nat.lt_of_lt_of_le hb Hk5.out.1.size)
  have hbw6 : w6.heap[N0]? = some (.cells #[.int .i64 wk] 3 (0, 0)) := (hmk0.below.block _ hbg).trans Hk5.out.2
  have hgN : L.heap.size ≤ L5.heap.size := Hk5.out.1.size
  clear hmk0 Hl6 Hmk Hk5
  generalize L5.heap.size = g at hla hbg hgN ⊢
  refine Mp.piece' hJ ac_ok res_24 (by kernel_rfl) (fun L' => Hid ((LiesA L' g (g + 1) g (R.map (·.rs)) (fun _ _ => []) l0 ∧ ∀ x ∈ l0, x.num = 0 ∧ x.sent = [] ∧ x.sv = .slice none 0 0 ∧ x.ca = []) ∧ Kp L.heap.size L L' ∧ L'.heap[N0]? = some (.cells #[.int .i64 wk] 3 (0, 0)))) (fun L' e => Lib.hid ⟨⟨hla.same e, hnil⟩, hkp6.same e, by rw [e]; exact hbw6⟩) fun L7 Hk7 => ?_
  clear hla hnil hkp6 hbw6
  go_wp2
  go_loopg [50] m (fun gk i wr => ∃ (k : Nat) (l : List AL), gk + k = m ∧ i = .int .i64 k ∧ LiesA wr g (g + 1) g (R.map (·.rs)) (comeL (ls.take k)) l ∧ (∀ x ∈ l, x.num = 0 ∧ x.sent = [] ∧ x.sv = .slice none 0 0) ∧ Kp L.heap.size L wr ∧ wr.heap[N0]? = some (.cells #[.int .i64 wk] 3 (0, 0)))
  case atStart => exact ⟨0, l0, by omega, rfl, Hk7.out.1.1, fun x hx => ⟨(Hk7.out.1.2 x hx).1, (Hk7.out.1.2 x hx).2.1, (Hk7.out.1.2 x hx).2.2.1⟩, Hk7.out.2⟩
  case round =>
    clear Hk7
    obtain ⟨k, l, hgk, rfl, hL, hnil, hkp, hbw⟩ := hrel
    by_cases hlt : k < m
    · have hkl : k < ls.length := by have := Hm.out; omega
      have hXw := HR.out.2.1.keep (w' := wr) fun p hp => World.cell?_of_block (hkp.at_ _ hp)
      obtain ⟨xb, xo, rfl, hxb, hcx⟩ := rd_flat (f := cellsX) (s := 4) (by decide) (fun _ => rfl) hXw hkl
      have hcs := comeL_succ hkl
      have hlo := Hz.out.1 _ (List.getElem_mem hkl)
      obtain ⟨y, hy⟩ : ∃ y, ls[k] = y := ⟨_, rfl⟩
      rw [hy] at hcx hcs hlo
      obtain ⟨yt, yd, yk, yn⟩ := y
      unfold letOk at hlo
      simp only at hlo
      obtain ⟨i0, rfl⟩ : ∃ i0 : Nat, yd = i0 := ⟨yd.toNat, by omega⟩
      have hi0 : i0 < l.length := by rw [hL.len, List.length_map]; omega
      have hln : l.length = n := by rw [hL.len, List.length_map]; exact Hn.out
      have hfew : (comeL (ls.take k) i0 yt).length < 900000 := by
        have := comeL_len (ls.take k) i0 yt
        rw [List.length_take] at this
        omega
      have c0 := hcx 0 _ rfl
      have c1 := hcx 1 _ rfl
      have c2 := hcx 2 _ rfl
      have c3 := hcx 3 _ rfl
      rw [Nat.add_zero] at c0
      simp only at c0 c1 c2 c3
      have hx := List.getElem?_eq_getElem hi0
      have hyr : some wr.heap.size ≠ (cvA l[i0] yt).ownBlock := fun e => by have := (hL.row hx e.symm).2.1; omega
      have H1 := Lib.hid (And.intro (hL.alloc (.cells #[.int .i64 yt, .int .i64 i0, .int .i64 yk, .int .i64 yn] 49)) (And.intro (hkp.alloc (.cells #[.int .i64 yt, .int .i64 i0, .int .i64 yk, .int .i64 yn] 49)) (And.intro hbw (And.intro hnil (And.intro hcs (And.intro hfew (And.intro hyr hL))))))); clear hL hkp hbw hnil hcs hfew hyr hXw hcx hlo
      go_wp2
      refine u10_wp (gl := g) (n := n) (c12 := n) (i0 := i0) (yb := wr.heap.size) (y := ⟨yt, i0, yk, yn⟩) (by kernel_rfl) rfl rfl rfl H1.out.1 hln hx rfl H1.out.2.2.2.2.2.1 (heap_alloc_new wr _) H1.out.2.2.2.2.2.2.1 fun v1 v2 w8 hl8 hf8 hz8 _ _ => ?_
      have hN0 : N0 < wr.heap.size := (Array.getElem?_eq_some_iff.1 H1.out.2.2.1).1
      have h8 : LiesA w8 g (g + 1) g (R.map (·.rs)) (comeL (ls.take (k + 1))) (l.set i0 { l[i0] with ca := putI l[i0].ca yt v2 }) ∧ Kp L.heap.size L w8 ∧ w8.heap[N0]? = some (.cells #[.int .i64 wk] 3 (0, 0)) := by
        have hcells := H1.out.2.2.1
        have hrow := fun b (e : some b = (cvA l[i0] yt).ownBlock) => (H1.out.2.2.2.2.2.2.2.row hx e.symm).1
        have hmap := (H1.out.2.2.2.2.2.2.2.comes i0 _ hx).1
        refine ⟨by rw [H1.out.2.2.2.2.1]; exact hl8, H1.out.2.1.keep hz8 fun b hb => hf8 b (by have := H1.out.2.1.size; omega) (fun e => by have := hrow b e; omega) (fun e => ?_), ?_⟩
        · have := (H1.out.2.2.2.2.2.2.2.high _ (List.getElem_mem hi0)).2
          omega
        · rw [hf8 N0 (by simp; omega) (fun e => by have := hrow N0 e; omega) (hmap.not_cells hcells), Below.heap_alloc _ _ _ hN0]
          exact hcells
      have H8 := Lib.hid h8; clear h8 hl8 hf8 hz8
      rw [show List.range 20 = [0, 1, 2, 3, 4, 5, 6, 7, 8, 9, 10, 11, 12, 13, 14, 15, 16, 17, 18, 19] from rfl]
      simp only [putsV, VPu, VE, List.findIdx?_cons, List.findIdx?_nil, List.getElem?_toArray, List.getElem?_cons_succ, List.getElem?_cons_zero, Option.bind_some]
      go_simp
      go_wp2
      go_roundg (gk - 1)
      case measure => omega
      case rel =>
        refine ⟨k + 1, _, by omega, by go_num, H8.out.1, fun x hx => ?_, H8.out.2⟩
        rcases List.mem_or_eq_of_mem_set hx with hx | rfl
        · exact H1.out.2.2.2.1 x hx
        · have h9 := H1.out.2.2.2.1 l[i0] (List.getElem_mem hi0)
          exact h9
    · have hkm : k = m := by omega
      subst hkm
      rw [List.take_of_length_le (by rw [Hm.out]; exact Nat.le_refl _)] at hL
      have H8 := Lib.hid (And.intro hL (And.intro hnil (And.intro hkp hbw))); clear hL hnil hkp hbw
      go_wp2
      refine MpPost.normal ?_
      generalize wr = L8 at H8
      have hE2 : 0 ≤ E := by omega
      have hst8 : TimeL (R.map (·.rs)) L L8 E wk 0 N0 g (comeL ls) (comeL ls) l (.slice none 0 0) [] :=
        timeL_start H8.out.1 H8.out.2.1 H8.out.2.2.1 H8.out.2.2.2 (fun x hx => ⟨(Hz.out.1 x hx).1, (Hz.out.1 x hx).2.1, by rw [List.length_map]; exact (Hz.out.1 x hx).2.2.2.1⟩) (by rw [Hm.out]; exact hm2) hE2
      refine Mp.seq hJ (Mp.piece' hJ ac_ok res_24 (by kernel_rfl) (fun L' => Hid (TimeL (R.map (·.rs)) L L' E wk 0 N0 g (comeL ls) (comeL ls) l (.slice none 0 0) [])) (fun L' e => Lib.hid (hst8.same e)) fun L9 H9 => ?_)
      go_wp2
      refine MpPost.normal ?_
      refine Mp.block hJ (Mp.loop hJ (TimeI A AX c cl n k E wk N0 g (R.map (·.rs)) (comeL ls) L) (fun a _ => tiMeas E a) ?_ fun a L' hI => ?_)
      · exact ⟨0, .slice none 0 0, _, _, [], ⟨rfl, rfl, rfl, rfl, rfl, rfl, rfl, rfl, rfl, rfl, rfl, rfl, rfl⟩, H9.out⟩
      clear H9 L9 hst8 H8 L8
      obtain ⟨tt, lv, cc, l2, log, hA, hT⟩ := hI
      obtain ⟨f, hf, hfe⟩ := act_lit 178 hA.size
      have e0 := (hfe 0).trans hA.t0
      have e1 := (hfe 1).trans hA.t1
      have e2 := (hfe 2).trans hA.t2
      have e3 := (hfe 3).trans hA.t3
      have e7 := (hfe 7).trans hA.t7
      have e8 := (hfe 8).trans hA.t8
      have e9 := (hfe 9).trans hA.t9
      have e10 := (hfe 10).trans hA.t10
      have e12 := (hfe 12).trans hA.t12
      have e76 := (hfe 76).trans hA.t76
      have e77 := (hfe 77).trans hA.t77
      obtain ⟨μ0, hμ0⟩ : ∃ μ0, tiMeas E a = μ0 := ⟨_, rfl⟩
      have Hmu0 : Hid (μ0 = (E + 1 - tt).toNat) := Lib.hid (by rw [← hμ0]; unfold tiMeas; rw [hA.t77])
      rw [hμ0]
      clear hμ0
      obtain ⟨tm, df⟩ := a
      have hdf := hA.d
      simp only at hf hdf
      subst hf hdf
      rw [show List.range 178 = [0, 1, 2, 3, 4, 5, 6, 7, 8, 9, 10, 11, 12, 13, 14, 15, 16, 17, 18, 19, 20, 21, 22, 23, 24, 25, 26, 27, 28, 29, 30, 31, 32, 33, 34, 35, 36, 37, 38, 39, 40, 41, 42, 43, 44, 45, 46, 47, 48, 49, 50, 51, 52, 53, 54, 55, 56, 57, 58, 59, 60, 61, 62, 63, 64, 65, 66, 67, 68, 69, 70, 71, 72, 73, 74, 75, 76, 77, 78, 79, 80, 81, 82, 83, 84, 85, 86, 87, 88, 89, 90, 91, 92, 93, 94, 95, 96, 97, 98, 99, 100, 101, 102, 103, 104, 105, 106, 107, 108, 109, 110, 111, 112, 113, 114, 115, 116, 117, 118, 119, 120, 121, 122, 123, 124, 125, 126, 127, 128, 129, 130, 131, 132, 133, 134, 135, 136, 137, 138, 139, 140, 141, 142, 143, 144, 145, 146, 147, 148, 149, 150, 151, 152, 153, 154, 155, 156, 157, 158, 159, 160, 161, 162, 163, 164, 165, 166, 167, 168, 169, 170, 171, 172, 173, 174, 175, 176, 177] from rfl]
      simp only [List.map_cons, List.map_nil, e0, e1, e2, e3, e7, e8, e9, e10, e12, e76, e77]
      clear hA hfe e0 e1 e2 e3 e7 e8 e9 e10 e12 e76 e77
      refine Mp.piece' hJ ac_ok res_24 (by kernel_rfl) (fun L1 => Hid (TimeL (R.map (·.rs)) L L1 E wk tt N0 g (comeL ls) cc l2 lv log)) (fun L1 e => Lib.hid (hT.same e)) fun L9 H9 => ?_
      clear hT L'
      go_wp2
      refine MpPost.normal ?_
      have hck : decide (tt < E + 1) = decide (tt < E + 1) := rfl
      refine Mp.seq hJ (Mp.cond hJ trivial (t := decide (tt < E + 1)) (by rfl) ?_)
      by_cases hj : tt < E + 1
      · rw [decide_eq_true hj, if_pos rfl]
        refine Mp.skip hJ ?_
        show Mp _ _ _ _ _ _ _ _ _
        refine Mp.seq hJ (Mp.block hJ ?_)
        refine Mp.piece' hJ ac_ok res_24 (by kernel_rfl) (fun L1 => Hid (TimeL (R.map (·.rs)) L L1 E wk tt N0 g (comeL ls) cc l2 lv log)) (fun L1 e => Lib.hid (H9.out.same e)) fun L10 H10 => ?_
        clear H9 L9
        go_wp2
        refine MpPost.normal ?_
        have h11 := H10.out.alloc (.cells #[.int .i64 tt] 3)
        have ht11 := heap_alloc_new L10 (.cells #[.int .i64 tt] 3)
        generalize L10.alloc (.cells #[.int .i64 tt] 3) = L11 at h11 ht11
        generalize L10.heap.size = bT at ht11 ⊢
        clear H10
        refine Mp.piece' hJ ac_ok res_24 (by kernel_rfl) (fun L1 => Hid (TimeL (R.map (·.rs)) L L1 E wk tt N0 g (comeL ls) cc l2 lv log ∧ L1.heap[bT]? = some (.cells #[.int .i64 tt] 3 (0, 0)))) (fun L1 e => Lib.hid ⟨h11.same e, by rw [e]; exact ht11⟩) fun L12 H12 => ?_
        clear h11 ht11
        go_wp2
        refine MpPost.normal ?_
        have h13 := H12.out.1.alloc (.cells #[.slice none 0 0] 141)
        have ht13 : (L12.alloc (.cells #[.slice none 0 0] 141)).heap[bT]? = some (.cells #[.int .i64 tt] 3 (0, 0)) := (Below.heap_alloc _ _ _ (Array.getElem?_eq_some_iff.1 H12.out.2).1).trans H12.out.2
        have hn13 := heap_alloc_new L12 (.cells #[.slice none 0 0] 141)
        generalize L12.alloc (.cells #[.slice none 0 0] 141) = L13 at h13 ht13 hn13
        have hbNs : L.heap.size ≤ L12.heap.size := H12.out.1.kp.size
        generalize L12.heap.size = bN at hn13 hbNs ⊢
        have hbN0 : L.heap.size ≤ bN := hbNs
        clear H12
        have hnow0 := NowL.start (bN := bN) h13 hgN hbN0 ht13 hn13
        have HT := Lib.hid (And.intro h13 (And.intro hgN (And.intro hbN0 hN0))); clear h13 hgN hbN0 hN0 hbNs ht13 hn13 hbg
        have hll : l2.length = n := by rw [HT.out.1.lies.len, List.length_map]; exact Hn.out
        have Hll := Lib.hid hll; clear hll
        refine Mp.piece' hJ ac_ok res_24 (by kernel_rfl) (fun L1 => Hid (NowL (R.map (·.rs)) L L1 wk tt N0 g bT bN (cutD cc tt []) l2 lv (log ++ logTo cc tt 0) (nowB cc tt 0) (.slice none 0 0))) (fun L1 e => Lib.hid (hnow0.same e)) fun L16 H16 => ?_
        clear hnow0
        obtain ⟨i0, hi0, hz0, hz1, hz2⟩ := info_parts info_lett
        have Hi0 := Lib.hid (And.intro hi0 (And.intro hz0 (And.intro hz1 hz2))); clear hi0 hz0 hz1 hz2
        go_wp2
        go_loopg [9, 82] n (fun gk v i wr => ∃ (q : Nat) (nv : Value), gk + q = n ∧ i = .int .i64 q ∧ NowL (R.map (·.rs)) L wr wk tt N0 g bT bN (cutD cc tt []) l2 v (log ++ logTo cc tt q) (nowB cc tt q) nv)
        case atStart => exact ⟨0, .slice none 0 0, by omega, rfl, H16.out⟩
        case round =>
          clear H16
          obtain ⟨q, nv, hgq, rfl, ho⟩ := hrel
          obtain ⟨A9, c9, rfl, _, _⟩ := own_form ho.olog
          obtain ⟨k9, hk9⟩ : ∃ k9, (log ++ logTo cc tt q).length = k9 := ⟨_, rfl⟩
          rw [hk9] at ho ⊢
          by_cases hq : q < n
          · have hql : q < l2.length := by have := Hll.out; omega
            have hqR : q < (R.map (·.rs)).length := by rw [List.length_map, Hn.out]; exact hq
            have hx := List.getElem?_eq_getElem hql
            have hrow := ho.lies.own q _ tt hx
            rw [cutD_now] at hrow
            have hroom := log_room (HT.out.1.sum tt) HT.out.1.few hqR
            rw [hk9] at hroom
            obtain ⟨y, hy⟩ : ∃ y, (cc q tt).length = y := ⟨_, rfl⟩
            have hqn : (nowB cc tt q).length < 900000 := by have := nowB_len cc tt q; omega
            cases y with
            | zero =>
              obtain ⟨Ac, cca, hcv⟩ := own_nil hrow hy
              have Ho := Lib.hid (And.intro ho (And.intro hk9 (And.intro hy (And.intro hx hcv)))); clear ho hk9 hy hx hcv hrow hroom hqn hqR
              go_wp2
              refine u19_wp (gl := g) (n := n) (c12 := n) (i0 := q) (bT := bT) (by kernel_rfl) rfl rfl rfl rfl Ho.out.1.lies Hll.out Ho.out.2.2.2.1 (cells_at Ho.out.1.boxT 0 _ rfl) fun w' hh _ => ?_
              have H2 := Lib.hid (Ho.out.1.same hh); clear hh
              rw [Ho.out.2.2.2.2]
              rw [show List.range 7 = [0, 1, 2, 3, 4, 5, 6] from rfl]
              simp only [putsV, V19, VE, List.findIdx?_nil, List.getElem?_toArray, List.getElem?_cons_succ, List.getElem?_cons_zero, Option.bind_some]
              go_simp
              go_wp2
              go_roundg (gk - 1)
              case measure => omega
              case rel =>
                refine ⟨q + 1, nv, by omega, by go_num, ?_⟩
                have hce := List.length_eq_zero_iff.1 Ho.out.2.2.1
                rw [logTo_succ, nowB_succ, hce]
                simpa using H2.out
            | succ y =>
              obtain ⟨b, cap, hcv⟩ := own_some hrow hy
              have Ho := Lib.hid (And.intro ho (And.intro hk9 (And.intro hy (And.intro hx (And.intro hcv (And.intro hroom hqn)))))); clear ho hk9 hx hcv hrow hqR
              go_wp2
              refine u19_wp (gl := g) (n := n) (c12 := n) (i0 := q) (bT := bT) (by kernel_rfl) rfl rfl rfl rfl Ho.out.1.lies Hll.out Ho.out.2.2.2.1 (cells_at Ho.out.1.boxT 0 _ rfl) fun w' hh _ => ?_
              have H2 := Lib.hid (Ho.out.1.same hh); clear hh
              rw [Ho.out.2.2.2.2.1]
              rw [show List.range 7 = [0, 1, 2, 3, 4, 5, 6] from rfl]
              simp only [putsV, V19, VE, List.findIdx?_nil, List.getElem?_toArray, List.getElem?_cons_succ, List.getElem?_cons_zero, Option.bind_some]
              go_simp
              go_wp2
              refine u21_wp (nbase := L.heap.size) (gl := g) (n := n) (c12 := n) (i0 := q) (bN := bN) (nv := nv) (bs := nowB cc tt q) (by kernel_rfl) rfl rfl rfl rfl hq H2.out.boxN H2.out.own H2.out.kp.size Ho.out.2.2.2.2.2.2 fun v1 v2 w2 hb2 hown2 hf2 hz2 _ => ?_
              have H3 := Lib.hid (H2.out.list hb2 hown2 hf2 hz2); clear hb2 hown2 hf2 hz2
              have hown4 : Hid (w2.ownsRow L.heap.size 49 4 (.slice A9 k9 c9) k9 (flatX (log ++ logTo cc tt q))) := Lib.hid (by have := H3.out.olog; unfold ownX at this; rwa [Ho.out.2.1] at this)
              have hnews : Hid (∀ j u, (flatX (cc q tt))[j]? = some u → w2.cell? ((⟨b, 0, none⟩ : Addr).add j) = some u) := Lib.hid (by
                have h7 := H3.out.lies.own q _ tt Ho.out.2.2.2.1
                rw [cutD_now, Ho.out.2.2.2.2.1] at h7
                exact own_cellsX h7)
              rw [show List.range 6 = [0, 1, 2, 3, 4, 5] from rfl]
              simp only [putsV, V21, VE, List.findIdx?_cons, List.findIdx?_nil, List.getElem?_toArray, List.getElem?_cons_succ, List.getElem?_cons_zero, Option.bind_some]
              go_simp
              go_wp2_with (at_builtin; go_loud (refine wpList_append_own_at _ rfl (.tmp 101) (.tmp 102) _ rfl L.heap.size 49 i0 (aggX le0) 4 32 Try.underlying44 Hi0.out.1 Hi0.out.2.1 Hi0.out.2.2.1 Hi0.out.2.2.2 rfl (by decide) (.slice A9 k9 c9) k9 (flatX (log ++ logTo cc tt q)) rfl hown4.out ⟨b, 0, none⟩ (y + 1) cap (flatX (cc q tt)) rfl ?ql hnews.out (flatX_one' _) ?qb ?qc ?qd ?_))
              case ql => rw [flatX_len, hy]
              case qb => unfold maxLen; omega
              case qc => omega
              case qd => exact H3.out.kp.size
              intro v3 w3 hown3 hg3 _ hb3
              have H4 := Lib.hid (H3.out.news (lv2 := v3) (ys := cc q tt) (by unfold ownX; rw [List.length_append, flatX_app, Ho.out.2.1, hy]; exact hown3) hg3 hb3); clear hown3 hg3 hb3
              go_wp2
              go_roundg (gk - 1)
              case measure => omega
              case rel =>
                refine ⟨q + 1, v2, by omega, by go_num, ?_⟩
                have hce : (cc q tt).isEmpty = false := by
                  cases h : cc q tt with
                  | nil => rw [h] at hy; cases hy
                  | cons _ _ => rfl
                rw [logTo_succ, nowB_succ, hce, if_neg (by decide), ← List.append_assoc]
                exact H4.out
          · have hqe : q = n := by omega
            subst hqe
            have H17 := Lib.hid (And.intro ho hk9); clear ho hk9
            go_wp2
            refine MpPost.normal ?_
            refine Mp.piece' hJ ac_ok res_24 (by kernel_rfl) (fun L1 => Hid (NowL (R.map (·.rs)) L L1 wk tt N0 g bT bN (cutD cc tt []) l2 (.slice A9 k9 c9) (log ++ logTo cc tt q) (nowB cc tt q) nv)) (fun L1 e => Lib.hid (H17.out.1.same e)) fun L18 H18 => ?_
            by_cases hlg : (100000 : Int) < k9
            · have hlR : (R.map (·.rs)).length = q := by rw [List.length_map]; exact Hn.out
              have hrun : runA (R.map (·.rs)) (E.toNat + 1) 0 (List.replicate R.length 0) (comeL ls) [] = none := by
                have h9 := HT.out.1.runs.2.2
                rw [runA_step hj, if_pos (by rw [hlR, show logR q cc tt = logTo cc tt q from rfl, H17.out.2]; omega), List.length_map] at h9
                exact h9.symm
              have Hrun := Lib.hid hrun; clear hrun
              go_wp2
              have hrc : goCode R ls E wk = 0 := by unfold goCode; rw [Hcode.out, if_neg (by simp), if_pos ⟨⟨by omega, by omega⟩, Hw.out⟩]
              refine MpPost.ret ⟨.inr rfl, fun _ => .inl ⟨Hrun.out, ?_⟩, fun h => absurd hrc h, H18.out.kp⟩
              rw [pack_three results_24]
              rfl
            · go_wp2
              refine MpPost.normal ?_
              obtain ⟨mw, rfl, hmw⟩ : ∃ mw : Nat, wk = mw ∧ 1 ≤ mw ∧ mw ≤ 16 := by have := Hw.out; unfold wkOk at this; exact ⟨wk.toNat, by omega, by omega, by omega⟩
              have hrok : ∀ rs ∈ R.map (·.rs), ∀ r ∈ rs, ruleOk (R.map (·.rs)).length r := fun rs hrs r hr => by
                obtain ⟨x, hx, rfl⟩ := List.mem_map.1 hrs
                rw [List.length_map]
                exact Classical.byContradiction fun h => Hz.out.2.2 x hx (.inl ⟨r, hr, h⟩)
              have Hrok := Lib.hid hrok; clear hrok
              have hlR : (R.map (·.rs)).length = q := by rw [List.length_map]; exact Hn.out
              have HlR := Lib.hid hlR; clear hlR
              refine ma_fork (B := g) (base := g + 1) (gl := g) (bN := bN) (bW := N0) (bT := bT) (m := mw) (n := q) (c12 := q) (nbase := L.heap.size) (t := tt) (nv := nv) (R := R.map (·.rs)) (c := cutD cc tt []) (l := l2) (bs := nowB cc tt q) rfl ⟨_, rfl, rfl, rfl, rfl⟩ rfl ⟨_, rfl, rfl, rfl, rfl⟩ ⟨_, rfl, rfl, rfl, rfl⟩ ⟨rfl, ⟨_, rfl, rfl, rfl, rfl⟩, rfl, ⟨_, rfl, rfl, rfl, rfl⟩, ⟨_, rfl, rfl, rfl, rfl⟩, ⟨_, rfl, rfl, rfl, rfl⟩, rfl, ⟨_, rfl, rfl, rfl, rfl⟩, rfl, ⟨_, rfl, rfl, rfl, rfl⟩, ⟨_, rfl, rfl, rfl, rfl⟩, rfl, ⟨_, rfl, rfl, rfl, rfl⟩, ⟨_, rfl, rfl, rfl, rfl⟩, rfl, ⟨_, rfl, rfl, rfl, rfl⟩⟩ hmw rfl rfl rfl rfl rfl
                H18.out.lies HT.out.1.nil H18.out.box H18.out.boxT H18.out.boxN H18.out.own (fun j r hr => ?_) (fun j => ?_) (fun j y hy => ?_) ?_ (nowB_nodup ..) (fun j hj => ?_) (fun j hj hjb => ?_) fun x l3 L3 hl3 haf hsz hold => ?_
              · obtain ⟨rs, hrs, hr2⟩ := getD_rules hr
                have h9 := Hrok.out rs hrs r hr2
                unfold ruleOk at h9
                exact ⟨h9.2.1, fun h => by rcases h9.2.2 with h10 | h10 <;> omega⟩
              · rw [cutD_now]
                have := HT.out.1.come j tt
                omega
              · rw [cutD_now] at hy
                have := HT.out.1.times j tt y hy
                omega
              · have := nowB_len cc tt q; omega
              · rw [Hll.out]; exact (nowB_lt hj).1
              · rw [cutD_now]; exact nowB_not (by rw [← Hll.out]; exact hj) hjb
              have Hk9 := Lib.hid H17.out.2
              have hP0 := PutL.start H18.out HT.out.1.lies.len (by rw [Hll.out]) hl3 haf HT.out.1.nil hsz hold
              have hbn3 : L3.heap[bN]? = some (.cells #[nv] 141 (0, 0)) := (hold bN (Array.getElem?_eq_some_iff.1 H18.out.boxN).1 (tneA H18.out.lies.blk H18.out.boxN (by decide))).trans H18.out.boxN
              have Haf := Lib.hid haf
              clear hl3 haf hsz hold H18 H17
              simp only [putL, List.foldl_cons, List.foldl_nil]
              go_simp
              obtain ⟨bs, hbs⟩ : ∃ bs, nowB cc tt q = bs := ⟨_, rfl⟩
              rw [hbs] at hP0
              obtain ⟨An, cn, rfl, _, _⟩ := own_form hP0.own
              have hnb2 : bs.length ≤ q := by rw [← hbs]; exact nowB_len ..
              obtain ⟨nb, hnb⟩ : ∃ nb, bs.length = nb := ⟨_, rfl⟩
              rw [hnb] at hP0 hbn3 hnb2
              have hsum : bs.flatMap (sentO l3) = (timeR (R.map (·.rs)) cc tt (l2.map (·.num))).2 := by rw [← hbs]; exact sent_all Haf.out Hll.out
              have hnb3 : nb ≤ 200 := by omega
              have HB := Lib.hid (And.intro hbs (And.intro hnb hsum)); clear hbs hnb hsum hnb2
              refine Mp.last' hJ ac_ok res_24 (by kernel_rfl) (fun L1 => Hid (PutL (R.map (·.rs)) L L1 mw tt N0 g bT (cutD (cc.addAll []) tt []) l3 l3 (.slice A9 k9 c9) (log ++ logTo cc tt q) bs (.slice An nb cn) bs ∧ L1.heap[bN]? = some (.cells #[.slice An nb cn] 141 (0, 0)))) (fun L1 e => Lib.hid ⟨hP0.same e, by rw [e]; exact hbn3⟩) fun L4 H4 => ?_
              clear hP0 hbn3 L3
              have hbc4 := cells_at H4.out.2 0 _ rfl
              go_wp2
              clear hbc4
              go_loopg [118] nb (fun gk i wr => ∃ (u : Nat) (ly : List AL), gk + u = nb ∧ i = .int .i64 u ∧ PutL (R.map (·.rs)) L wr mw tt N0 g bT (cutD (cc.addAll ((bs.take u).flatMap (sentO l3))) tt (bs.take u).reverse) l3 ly (.slice A9 k9 c9) (log ++ logTo cc tt q) bs (.slice An nb cn) (bs.drop u))
              case atStart => exact ⟨0, l3, by omega, rfl, by rw [List.take_zero, List.drop_zero]; exact H4.out.1⟩
              case round =>
                clear H4
                obtain ⟨u, ly, hgu, rfl, hP⟩ := hrel
                by_cases hu : u < nb
                · have hul : u < bs.length := by have := HB.out.2.1; omega
                  obtain ⟨nvb, rfl, hcp⟩ := own_ptr hP.own hul
                  obtain ⟨j, hj2⟩ : ∃ j, bs[u] = j := ⟨_, rfl⟩
                  rw [hj2] at hcp
                  have hjb : j ∈ bs := hj2 ▸ List.getElem_mem hul
                  have hjq : j < q := by rw [← HB.out.1] at hjb; exact (nowB_lt hjb).1
                  have hjl : j < ly.length := by rw [hP.lies.len, HlR.out]; exact hjq
                  have hjx := List.getElem?_eq_getElem hjl
                  have hc3 := (hP.lies.blk.cell (j * 4 + 3)).trans (cellsA_at ly j hjl 3 (by omega))
                  generalize ly[j] = x0 at hjx hc3
                  simp only [AL.cells, List.getElem?_cons_succ, List.getElem?_cons_zero] at hc3
                  obtain ⟨As, sc, hsv⟩ := sent_form (hP.lies.sents x0 (List.mem_of_getElem? hjx))
                  have hdr : j ∈ bs.drop u := by rw [List.drop_eq_getElem_cons hul, hj2]; exact List.mem_cons_self ..
                  have hs0 : x0.sent = sentO l3 j := by
                    have := hP.todo j x0 hjx
                    rwa [if_pos hdr] at this
                  have hbd := HT.out.1.sent_len
                  rw [← HB.out.2.2] at hbd
                  have hfl := flat_take (f := sentO l3) bs u hul (sentO l3 j).length
                  rw [hj2, List.take_length] at hfl
                  rw [hs0] at hsv
                  obtain ⟨ms, hms⟩ : ∃ ms, (sentO l3 j).length = ms := ⟨_, rfl⟩
                  rw [hms] at hsv hfl
                  have hms2 : ms ≤ 100200 := by omega
                  rw [hsv] at hc3
                  obtain ⟨wo, rfl⟩ : ∃ wo : World, wo = wr := ⟨_, rfl⟩
                  obtain ⟨go, rfl⟩ : ∃ go : Nat, go = gk := ⟨_, rfl⟩
                  have hj3 : bs[u]? = some j := by rw [List.getElem?_eq_getElem hul, hj2]
                  clear hj2
                  have H5 := Lib.hid (And.intro hP (And.intro hjx (And.intro hsv (And.intro hs0 (And.intro hms (And.intro hj3 (And.intro hul hdr))))))); clear hP hjx hsv hs0 hms hj3 hul hfl hbd hjb hdr hjl
                  go_wp2
                  go_loopg [127] ms (fun gk i wr => ∃ (t : Nat) (lz : List AL), gk + t = ms ∧ i = .int .i64 t ∧ PutL (R.map (·.rs)) L wr mw tt N0 g bT (cutD ((cc.addAll ((bs.take u).flatMap (sentO l3))).addAll ((sentO l3 j).take t)) tt (bs.take u).reverse) l3 lz (.slice A9 k9 c9) (log ++ logTo cc tt q) bs (.slice (some ⟨nvb, 0, none⟩) nb cn) (bs.drop u) ∧ ∃ xz, lz[j]? = some xz ∧ xz.sv = .slice As ms sc ∧ xz.sent = sentO l3 j)
                  case atStart => exact ⟨0, ly, by omega, rfl, by rw [List.take_zero]; exact H5.out.1, x0, H5.out.2.1, H5.out.2.2.1, H5.out.2.2.2.1⟩
                  case round =>
                    clear hc3 hcp
                    obtain ⟨t, lz, hgt, rfl, hQ, xz, hxz, hzv, hzs⟩ := hrel
                    by_cases ht : t < ms
                    · have htl : t < xz.sent.length := by rw [hzs, H5.out.2.2.2.2.1]; exact ht
                      obtain ⟨sb, rfl, hcx⟩ := sent_read (hQ.lies.sents xz (List.mem_of_getElem? hxz)) hzv htl
                      have hmem : xz.sent[t] ∈ sentO l3 j := by rw [← hzs]; exact List.getElem_mem htl
                      have htk : (sentO l3 j).take (t + 1) = (sentO l3 j).take t ++ [xz.sent[t]] := by
                        rw [← hzs]
                        exact List.take_succ_eq_append_getElem htl
                      obtain ⟨y, hy⟩ : ∃ y, xz.sent[t] = y := ⟨_, rfl⟩
                      rw [hy] at hcx hmem htk
                      obtain ⟨b1, b2, b3, b4⟩ := sent_later Hrok.out HT.out.1.cut_time Haf.out HT.out.1.lies.len j y hmem
                      obtain ⟨yt, yd, yk, yn⟩ := y
                      simp only at b1 b2 b3 b4
                      obtain ⟨i1, rfl⟩ : ∃ i1 : Nat, yd = i1 := ⟨yd.toNat, by omega⟩
                      have hi1R : i1 < (R.map (·.rs)).length := by omega
                      have hi1 : i1 < lz.length := by rw [hQ.lies.len]; exact hi1R
                      have hlzn : lz.length = q := by rw [hQ.lies.len]; exact HlR.out
                      have c0 := hcx 0 _ rfl
                      have c1 := hcx 1 _ rfl
                      have c2 := hcx 2 _ rfl
                      have c3 := hcx 3 _ rfl
                      rw [Nat.add_zero] at c0
                      simp only at c0 c1 c2 c3
                      have hx1 := List.getElem?_eq_getElem hi1
                      have hfew : (cutD ((cc.addAll ((bs.take u).flatMap (sentO l3))).addAll ((sentO l3 j).take t)) tt (bs.take u).reverse i1 yt).length < 900000 := by
                        rw [← addAll_app]
                        refine come_room (log := log) (nums := l2.map (·.num)) HT.out.1.sum HT.out.1.few (by rw [List.length_map]; exact HT.out.1.lies.len) ?_ hi1R yt
                        rw [← HB.out.2.2, List.length_append]
                        have h9 := flat_take (f := sentO l3) bs u H5.out.2.2.2.2.2.2.1 t
                        rwa [show bs[u]'H5.out.2.2.2.2.2.2.1 = j from Option.some.inj ((List.getElem?_eq_getElem H5.out.2.2.2.2.2.2.1).symm.trans H5.out.2.2.2.2.2.1)] at h9
                      have hyr : some wr.heap.size ≠ (cvA lz[i1] yt).ownBlock := fun e => by have := (hQ.lies.row hx1 e.symm).2.1; omega
                      have hadd : (cutD ((cc.addAll ((bs.take u).flatMap (sentO l3))).addAll ((sentO l3 j).take t)) tt (bs.take u).reverse).add ⟨yt, i1, yk, yn⟩ = cutD ((cc.addAll ((bs.take u).flatMap (sentO l3))).addAll ((sentO l3 j).take (t + 1))) tt (bs.take u).reverse := by
                        rw [cutD_add b1, htk, addAll_app]
                        rfl
                      have H1 := Lib.hid (And.intro (hQ.alloc (.cells #[.int .i64 yt, .int .i64 i1, .int .i64 yk, .int .i64 yn] 49)) (And.intro hxz (And.intro hzv (And.intro hzs (And.intro hfew (And.intro hyr (And.intro hx1 (And.intro hadd hlzn)))))))); clear hQ hxz hzv hzs hfew hyr hx1 hadd hlzn hcx hmem htk hy b1 b2 b3 b4 hi1R htl
                      go_wp2
                      refine u40_wp (gl := g) (n := q) (c12 := q) (i0 := i1) (yb := wr.heap.size) (y := ⟨yt, i1, yk, yn⟩) (by kernel_rfl) rfl rfl rfl H1.out.1.lies H1.out.2.2.2.2.2.2.2.2 H1.out.2.2.2.2.2.2.1 rfl H1.out.2.2.2.2.1 (heap_alloc_new wr _) H1.out.2.2.2.2.2.1 fun v1 v2 w8 hl8 hf8 hz8 _ hb8 => ?_
                      have h8 := H1.out.1.put H1.out.2.2.2.2.2.2.1 hl8 hf8 hz8 hb8
                      rw [H1.out.2.2.2.2.2.2.2.1] at h8
                      have H8 := Lib.hid h8; clear h8 hl8 hf8 hz8 hb8
                      rw [show List.range 20 = [0, 1, 2, 3, 4, 5, 6, 7, 8, 9, 10, 11, 12, 13, 14, 15, 16, 17, 18, 19] from rfl]
                      simp only [putsV, VPu, VE, List.findIdx?_cons, List.findIdx?_nil, List.getElem?_toArray, List.getElem?_cons_succ, List.getElem?_cons_zero, Option.bind_some]
                      go_simp
                      go_wp2
                      go_roundg (gk - 1)
                      case measure => omega
                      case rel =>
                        obtain ⟨x9, h91, h92, h93⟩ := set_keeps (ca := putI lz[i1].ca yt v2) H1.out.2.2.2.2.2.2.1 H1.out.2.1
                        exact ⟨t + 1, _, by omega, by go_num, H8.out, x9, h91, h92.trans H1.out.2.2.1, h93.trans H1.out.2.2.2.1⟩
                    · have hte : t = ms := by omega
                      have htk : (sentO l3 j).take t = sentO l3 j := by rw [hte, ← H5.out.2.2.2.2.1, List.take_length]
                      rw [htk] at hQ
                      subst hte
                      have hul := H5.out.2.2.2.2.2.2.1
                      have hbu : bs[u] = j := Option.some.inj ((List.getElem?_eq_getElem hul).symm.trans H5.out.2.2.2.2.2.1)
                      have hdc := List.drop_eq_getElem_cons hul
                      rw [hbu] at hdc
                      have hnd : (bs.drop u).Nodup := by rw [← HB.out.1]; exact (nowB_nodup ..).sublist (List.drop_sublist ..)
                      rw [hdc, List.nodup_cons] at hnd
                      have h7 := hQ.clear (td' := bs.drop (u + 1)) hxz (fun i hi => by rw [hdc]; exact List.mem_cons_of_mem _ hi) (fun i hi hn => by
                        rw [hdc] at hi
                        rcases List.mem_cons.1 hi with e | e
                        · exact e
                        · exact absurd e hn) hnd.1
                      have hjz := (List.getElem?_eq_some_iff.1 hxz).1
                      have hx7 : (lz.set j { xz with sv := .slice none 0 0, sent := [] })[j]? = some { xz with sv := .slice none 0 0, sent := [] } := List.getElem?_set_self hjz
                      have hfin : (fun i s => if i = j ∧ s = tt then [] else cutD ((cc.addAll ((bs.take u).flatMap (sentO l3))).addAll (sentO l3 j)) tt (bs.take u).reverse i s) = cutD (cc.addAll ((bs.take (u + 1)).flatMap (sentO l3))) tt (bs.take (u + 1)).reverse := by
                        rw [cutD_del, List.take_succ_eq_append_getElem hul, hbu, List.flatMap_append, List.reverse_append, addAll_app]
                        simp
                      have hgw : g < wr.heap.size := hQ.lies.blk.lt
                      have hglk := hQ.lies.blk
                      unfold Blk at hglk
                      have hlzl : lz.length = q := by rw [hQ.lies.len]; exact HlR.out
                      have hc7 := (hQ.lies.blk.cell (j * 4 + 3)).trans (cellsA_at lz j hjz 3 (by omega))
                      rw [show lz[j] = xz from Option.some.inj ((List.getElem?_eq_getElem hjz).symm.trans hxz)] at hc7
                      simp only [AL.cells, List.getElem?_cons_succ, List.getElem?_cons_zero] at hc7
                      have hf7 := frozen_at hglk (j * 4 + 3)
                      have H7 := Lib.hid (And.intro h7 (And.intro hx7 hfin)); clear h7 hx7 hfin hnd hdc hbu hul hxz hzv hzs htk hQ hglk
                      go_wp2
                      refine u43_wp (gl := g) (i0 := j) (bT := bT) (by kernel_rfl) rfl rfl rfl H7.out.1.lies H7.out.2.1 (cells_at H7.out.1.boxT 0 _ rfl) fun w9 hl9 hf9 hz9 _ => ?_
                      have h9 := H7.out.1.del H7.out.2.1 hl9 hf9 hz9
                      rw [H7.out.2.2] at h9
                      have H9 := Lib.hid h9; clear h9 hl9 hf9 hz9
                      rw [show List.range 5 = [0, 1, 2, 3, 4] from rfl]
                      simp only [putsV, V43, VE, List.findIdx?_nil, List.getElem?_toArray, List.getElem?_cons_succ, List.getElem?_cons_zero, Option.bind_some]
                      go_simp
                      go_wp2
                      go_roundg (go - 1)
                      case measure => omega
                      case rel => exact ⟨u + 1, _, by omega, by go_num, H9.out⟩
                · have hue : u = nb := by omega
                  subst hue
                  rw [show bs.take u = bs from List.take_of_length_le (by rw [HB.out.2.1]; exact Nat.le_refl _), show bs.drop u = [] from List.drop_of_length_le (by rw [HB.out.2.1]; exact Nat.le_refl _)] at hP
                  have htn := timeL_next HT.out.1 Hrok.out hj hE1 Haf.out (by rw [HlR.out, HB.out.1]) (by rw [HlR.out, Hk9.out]; omega) (by rw [HlR.out]; exact hP)
                  have H6 := Lib.hid htn; clear htn hP
                  go_wp2
                  refine MpPost.end ?_
                  show Mp _ _ _ _ _ _ _ _ _
                  have htt0 : 0 ≤ tt := HT.out.1.runs.1
                  refine Mp.last' hJ ac_ok res_24 (by kernel_rfl) (fun L1 => Hid (TimeL (R.map (·.rs)) L L1 E mw (tt + 1) N0 g (comeL ls) (cc.addAll (timeR (R.map (·.rs)) cc tt (l2.map (·.num))).2) ly (.slice A9 k9 c9) (log ++ logTo cc tt (R.map (·.rs)).length))) (fun L1 e => Lib.hid (H6.out.same e)) fun L20 H20 => ?_
                  clear H6
                  go_wp2
                  refine MpPost.end ?_
                  refine ⟨⟨tt + 1, .slice A9 k9 c9, _, _, _, ⟨rfl, rfl, rfl, rfl, rfl, rfl, rfl, rfl, rfl, rfl, rfl, rfl, rfl⟩, H20.out⟩, ?_⟩
                  show (E + 1 - (tt + 1)).toNat < μ0
                  rw [Hmu0.out]
                  omega
      · rw [decide_eq_false hj, if_neg (by decide)]
        refine Mp.exit hJ ?_
        show Mp _ _ _ _ _ _ _ _ _
        have hte : tt = E + 1 := by have := H9.out.runs.2.1; omega
        have hrun : runA (R.map (·.rs)) (E.toNat + 1) 0 (List.replicate R.length 0) (comeL ls) [] = some (l2.map (·.num), log) := by
          have := H9.out.runs.2.2
          rw [show (E + 1 - tt).toNat = 0 by omega, List.length_map] at this
          exact this.symm
        have hll : l2.length = n := by rw [H9.out.lies.len, List.length_map]; exact Hn.out
        have hout : OutA L g l2 lv log 0 (.slice none 0 0) L9 := ⟨H9.out.lies.blk, H9.out.olog, World.ownsRow_nil .., H9.out.kp⟩
        have HO := Lib.hid (And.intro hout hrun); clear H9 hout hrun
        refine Mp.piece' hJ ac_ok res_24 (by kernel_rfl) (fun L1 => Hid (OutA L g l2 lv log 0 (.slice none 0 0) L1)) (fun L1 e => Lib.hid (HO.out.1.same e)) fun L17 H17 => ?_
        obtain ⟨i0, hi0, hz0, hz1, hz2⟩ := info_parts info_i64c
        have Hi0 := Lib.hid (And.intro hi0 (And.intro hz0 (And.intro hz1 hz2))); clear hi0 hz0 hz1 hz2
        go_wp2
        go_loopg [8, 164] n (fun gk v i wr => ∃ q : Nat, gk + q = n ∧ i = .int .i64 q ∧ OutA L g l2 lv log q v wr)
        case atStart => exact ⟨0, by omega, rfl, H17.out⟩
        case round =>
          clear H17
          obtain ⟨q, hgq, rfl, ho⟩ := hrel
          obtain ⟨Ao, co, rfl, _, _⟩ := own_form ho.own
          by_cases hq : q < n
          · have hql : q < l2.length := by omega
            have hc := (ho.blk.cell (q * 4 + 0)).trans (cellsA_at l2 q hql 0 (by omega))
            simp only [AL.cells, List.getElem?_cons_zero, Nat.add_zero] at hc
            obtain ⟨nu, hnu⟩ : ∃ nu, l2[q].num = nu := ⟨_, rfl⟩
            rw [hnu] at hc
            have hgz := ho.blk.lt
            have hLz := ho.kp.size
            have H18 := Lib.hid (And.intro ho hnu); clear ho hnu
            go_wp2_with (at_builtin; go_loud (refine wpList_append_own_at _ rfl (.tmp 167) (.tmp 173) _ rfl L.heap.size 2 i0 (.int .i64 0) 1 8 Try.underlying23 Hi0.out.1 Hi0.out.2.1 Hi0.out.2.2.1 Hi0.out.2.2.2 rfl (by decide) (.slice Ao q co) q (ints ((l2.map (·.num)).take q)) rfl (H18.out.1.own.alloc _) ⟨wr.heap.size, 0, none⟩ 1 1 [.int .i64 nu] rfl rfl (cell_one_new _ _ _) ?qa ?qb ?qc ?qd ?_))
            case qa => intro u hu; simp at hu; subst hu; rfl
            case qb => unfold maxLen; omega
            case qc => omega
            case qd => first | omega | (rw [World.size_alloc]; omega)
            intro v1 w3 hown3 hg3 _ _
            obtain ⟨A3, c3, rfl, _, _⟩ := own_form hown3
            have H19 := Lib.hid (H18.out.1.push hql hg3 (by rw [H18.out.2, hN0]; exact hown3)); clear hown3 hg3
            go_wp2
            go_roundg (gk - 1)
            case measure => omega
            case rel => exact ⟨q + 1, by omega, by go_num, H19.out⟩
          · have hqe : q = n := by omega
            subst hqe
            have H18 := Lib.hid ho; clear ho
            go_wp2
            refine MpPost.normal ?_
            refine Mp.last' hJ ac_ok res_24 (by kernel_rfl) (fun L1 => Hid (OutA L g l2 lv log q (.slice Ao q co) L1)) (fun L1 e => Lib.hid (H18.out.same e)) fun L19 H19 => ?_
            clear H18
            go_wp2
            have hrc : goCode R ls E wk = 0 := by unfold goCode; rw [Hcode.out, if_neg (by simp), if_pos ⟨⟨by omega, by omega⟩, Hw.out⟩]
            refine MpPost.leave ⟨.inr rfl, fun _ => .inr ⟨l2.map (·.num), log, .slice Ao q co, lv, HO.out.2, ?_, ?_, H19.out.olog⟩, fun h => absurd hrc h, H19.out.kp⟩
            · rw [pack_three results_24]
              rfl
            · have ho := H19.out.own
              rw [List.take_of_length_le (by rw [List.length_map]; omega)] at ho
              rw [List.length_map, hll]
              exact ho
end
end Go.Proofs.Yticdjkkcfdbdcaa
