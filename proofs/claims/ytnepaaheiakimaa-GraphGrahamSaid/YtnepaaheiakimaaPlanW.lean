/- The contract of graph.Plan: from event to event, the plan that the reference makes. No conditions but that what is read is there. -/
import Derived.Test.YtnepaaheiakimaaPlanS
namespace Go.Proofs.Ytnepaaheiakimaa
open Go.ChangeShapes Go.WideShapes Go.ChangeAt Go.RowKit

theorem qm_roots {J : List JobR} {k : Nat} {l : List Int} (h : l.Perm (roots J k)) (he : aft J k = []) {l' : List Int} (h' : l'.Perm (l ++ [(k : Int)])) : l'.Perm (roots J (k + 1)) := by
  rw [roots_t he]
  exact h'.trans (h.append_right _)
/-- The memory at the beginning. -/
theorem plst_start (w1 : World) (B : Nat) (A : Option Addr) (c n : Nat) (J : List JobR) (hR : RdJobs w1 B A J) (hB : B ≤ w1.heap.size) (hn : J.length = n) (hf : n ≤ 200) :
    PlSt w1 ((((w1.alloc (.cells (madeCells #[.int .i64 0, .int .i64 0] (n * 2)) 33)).alloc (.cells (madeCells #[.int .i64 0] n) 3)).alloc (.cells (madeCells #[.slice none 0 0] n) 38)).alloc (.cells #[.slice A n c, .slice none 0 0] 50))
      w1.heap.size B A c J n (fun _ => 0) (fun _ => []) (List.replicate n (.slice none 0 0)) (.slice none 0 0) [] .init := by
  have hbe : Below w1.heap.size w1 ((((w1.alloc (.cells (madeCells #[.int .i64 0, .int .i64 0] (n * 2)) 33)).alloc (.cells (madeCells #[.int .i64 0] n) 3)).alloc (.cells (madeCells #[.slice none 0 0] n) 38)).alloc (.cells #[.slice A n c, .slice none 0 0] 50)) :=
    ((((Below.refl _ _).alloc (Nat.le_refl _) _).alloc (by simp) _).alloc (by simp; omega) _).alloc (by simp; omega) _
  refine ⟨(((Blk.newArr w1 _ ?_).alloc _).alloc _).alloc _, ?_, ?_, ⟨?_, World.ownsRow_nil _ _ _ _, hR.below (hbe.mono hB), by omega, by simp, fun a ha => by simp at ha, by omega, by omega, ?_⟩, fun k v hv => ?_, hbe, hB⟩
  · have := made_two n
    rw [show (Value.agg #[.int .i64 0, .int .i64 0]).cells = #[.int .i64 0, .int .i64 0] from rfl] at this
    rw [this]
    congr 1
    exact fnI_congr fun j _ => by simp [slotF, PS.init]
  · have := ((Blk.newArr (w1.alloc (.cells (madeCells #[.int .i64 0, .int .i64 0] (n * 2)) 33)) 3 (made_one (.int .i64 0) n)).alloc (.cells (madeCells #[.slice none 0 0] n) 38)).alloc (.cells #[.slice A n c, .slice none 0 0] 50)
    rw [show ints (fnI n fun _ => 0) = List.replicate n (.int .i64 0) by apply List.ext_getElem?; intro j; simp [fnI, ints, List.getElem?_replicate]; split <;> simp_all]
    simpa using this
  · have e : fnL n (fun _ => []) = List.replicate n [] := by apply List.ext_getElem?; intro j; simp [fnL, List.getElem?_replicate]; split <;> simp_all
    rw [e]
    refine Rows.start ?_ (by omega) (by simp)
    have := (Blk.newArr ((w1.alloc (.cells (madeCells #[.int .i64 0, .int .i64 0] (n * 2)) 33)).alloc (.cells (madeCells #[.int .i64 0] n) 3)) 38 (made_one (.slice none 0 0) n)).alloc (.cells #[.slice A n c, .slice none 0 0] 50)
    simpa using this
  · have := Blk.newArr (((w1.alloc (.cells (madeCells #[.int .i64 0, .int .i64 0] (n * 2)) 33)).alloc (.cells (madeCells #[.int .i64 0] n) 3)).alloc (.cells (madeCells #[.slice none 0 0] n) 38)) 50 (cs := #[.slice A n c, .slice none 0 0]) rfl
    rw [hn]
    simpa using this
  · simp
  · rw [List.getElem?_replicate] at hv; split at hv
    · cases hv; exact .inl rfl
    · cases hv
theorem qm_start {J : List JobR} {l : List Int} (h : l.Perm (roots J J.length)) : Qm J .init (fun j => (cntU J [] j : Nat)) l := by
  refine Qm.perm ⟨(nodup_allI _).sublist List.filter_sublist, roots_in J, fun j hj => ?_⟩ h
  have := mem_roots (J := J) (k := J.length) (j := j)
  rw [roots] at this
  rw [this, cntU_nil]
  simp [PS.init, hj]
theorem fnI_rep (W : Nat) : ints (fnI W fun _ => 0) = List.replicate W (.int .i64 0) := by apply List.ext_getElem?; intro j; simp [fnI, ints, List.getElem?_replicate]; split <;> simp_all
theorem undone_init (n : Nat) (J : List JobR) (W : Nat) : undone (fnB n (Rn J W 0).begun) = n := by
  have : fnB n (Rn J W 0).begun = List.replicate n false := by apply List.ext_getElem?; intro j; simp [fnB, Rn, PS.init, List.getElem?_replicate]; split <;> simp_all
  rw [this, undone_rep]
theorem asg_endOf {J : List JobR} {S : PS} {t : Int} {w b i : Nat} (h : i ≠ b) : endOf J (asg J t w b S) i = endOf J S i := by simp only [endOf, asg, upd_ne h]
theorem asg_endOf_eq {J : List JobR} {S : PS} {t : Int} {w b : Nat} : endOf J (asg J t w b S) b = t + lenOf J b := by simp only [endOf, asg, upd_eq]
theorem rn_zero (J : List JobR) (W : Nat) : Rn J W 0 = .init := rfl
set_option maxRecDepth 100000 in
set_option maxHeartbeats 4000000 in
theorem plan_any (w : World) (B : Nat) (A : Option Addr) (c n : Nat) (wk : Int) (J : List JobR) (hR : RdJobs w B A J) (hB : B ≤ w.heap.size) (hn : J.length = n) :
    Calls Try.prog 8 #[.slice A n c, .int .i64 wk] w (PlannedPost w J wk) := by
  have Hn := Lib.hid hn; clear hn
  have HR := Lib.hid hR; clear hR
  obtain ⟨ac, hac⟩ : ∃ ac, askedCode J wk = ac := ⟨_, rfl⟩
  have Hac := Lib.hid hac; clear hac
  by_cases h0 : ac = 0
  · subst h0
    obtain ⟨hg, hw1, hw2⟩ := asked_zero Hac.out
    obtain ⟨W, rfl⟩ : ∃ W : Nat, wk = W := ⟨wk.toNat, by omega⟩
    have hfew : n ≤ 200 := Hn.out ▸ hg.few
    have hmk1 := fun Wx => run_make_slots n hfew Wx
    have hmk2 := fun W => run_make_row' (P := Try.prog) 38 3 (.int .i64 0) 8 Try.underlying38 info_int rfl .i64 .i64 n (by omega) (by omega) W
    have hmk3 := fun W => run_make_row' (P := Try.prog) 47 38 (.slice none 0 0) 24 Try.underlying47 info_ints rfl .i64 .i64 n (by omega) (by omega) W
    obtain ⟨i0, hi0, hz0, hz1, hz2⟩ := info_parts info_int
    have Hi0 := Lib.hid (And.intro hi0 (And.intro hz0 (And.intro hz1 hz2))); clear hi0 hz0 hz1 hz2
    have hv := hg.valid
    have Hv := Lib.hid hv; clear hv
    have hlen : ∀ i, i < J.length → 1 ≤ lenOf J i := fun i hi => (hg.len i hi).1
    have Hlen := Lib.hid hlen; clear hlen
    have Hg := Lib.hid hg; clear hg
    go_enter Try.func8, Try.ntmps8
    go_wp2_with (first
      | (go_at_call 18; refine (checkw_any _ B _ _ _ _ J HR.out hB Hn.out).mono ?_; rintro e w1 ⟨rfl, hb1⟩; rw [Hac.out]; have hz1 := hb1.size; have Hb1 := Lib.hid hb1; clear hb1))
    have hs0 := plst_start w1 B A c n J (HR.out.below (Hb1.out.mono hB)) (by omega) Hn.out hfew
    have Hs0 := Lib.hid hs0; clear hs0
    have hBg : B ≤ w1.heap.size := by omega
    generalize hw0 : ((((w1.alloc (.cells (madeCells #[.int .i64 0, .int .i64 0] (n * 2)) 33)).alloc (.cells (madeCells #[.int .i64 0] n) 3)).alloc (.cells (madeCells #[.slice none 0 0] n) 38)).alloc (.cells #[.slice A n c, .slice none 0 0] 50)) = W0 at *
    clear hw0
    rw [show w1.heap.size + 1 + 1 + 1 = w1.heap.size + 3 from rfl, show w1.heap.size + 1 + 1 = w1.heap.size + 2 from rfl]
    obtain ⟨g, hgz⟩ : ∃ g, w1.heap.size = g := ⟨_, rfl⟩
    rw [hgz] at Hs0 hBg hz1 ⊢
    have Hgz := Lib.hid hgz; clear hgz hmk1 hmk3
    go_loopg [50] n (fun gk i wr => ∃ (k : Nat) (vs : List Value) (vq : Value) (l : List Int), gk + k = n ∧ i = .int .i64 k ∧ l.Perm (roots J k) ∧ Hp (sI J) l.length l ∧
      PlSt w1 wr g B A c J n (fun j => if j < k then ((aft J j).length : Nat) else 0) (fun x => nxTo J x k) vs vq l .init)
    case atStart => exact ⟨0, _, _, [], by omega, rfl, .refl _, fun k _ h => by simp at h, Hs0.out⟩
    case round =>
      obtain ⟨k, vs, vq, l, hgk, rfl, hlp, hhp, hst⟩ := hrel
      have Hlp := Lib.hid (And.intro hlp hhp); clear hlp hhp
      by_cases hlt : k < n
      · have hkJ : k < J.length := by have := Hn.out; omega
        obtain ⟨ob, oo, rfl, hob, c0, c1, c2, c3⟩ := hst.q.jobs.at_ hkJ
        have hl0 : wr.cell? ⟨g + 1, k, none⟩ = some (.int .i64 0) := by rw [hst.left.cell, cellI hlt, if_neg (by omega)]
        have hf0 := hst.left.frozen k
        have hz0 := hst.q.bound
        have hz2 : ¬ (g + 1 = wr.heap.size) := by omega
        have hz3 : ¬ (wr.heap.size = g + 1) := by omega
        have hz4 : g + 1 < wr.heap.size := by omega
        have Hst := Lib.hid hst; clear hst
        obtain ⟨j, hj⟩ : ∃ j, J[k] = j := ⟨_, rfl⟩
        rw [hj] at c0 c1 c2 c3
        obtain ⟨jl, ju, jn, sA, sc, af⟩ := j
        dsimp only at c0 c1 c2 c3
        have Hj := Lib.hid hj; clear hj
        have hrd := Hst.out.q.jobs.after k hkJ
        have hin := (Hv.out.ok k hkJ).2
        have hsh := Hv.out.short k hkJ
        rw [Hj.out] at hrd hin hsh
        dsimp only at hrd hin hsh
        rw [Hn.out] at hin
        have haft : aft J k = af := by rw [aft_eq hkJ, Hj.out]
        have Haft := Lib.hid haft; clear haft
        have Hin := Lib.hid hin; clear hin
        clear hrd
        have hob' : ob < wr.heap.size := by omega
        go_wp2
        have hst1 := (Hst.out.setLeft k (af.length : Nat) (left' := fun j => if j < k + 1 then ((aft J j).length : Nat) else 0) (by simp [Haft.out]) (fun i _ hi => by
          by_cases h : i < k
          · simp [h, show i < k + 1 by omega]
          · simp [h, show ¬ i < k + 1 by omega])).alloc (.cells #[.int .i64 jl, .int .i64 ju, .slice sA af.length sc, .int .i64 jn] 40)
        have Hst1 := Lib.hid hst1; clear hst1
        clear c0 c1 c2 c3 hl0 hf0
        obtain ⟨wo, rfl⟩ : ∃ wo : World, wo = wr := ⟨_, rfl⟩
        obtain ⟨go, rfl⟩ : ∃ go : Nat, go = gk := ⟨_, rfl⟩
        go_loopg [64] af.length (fun gq iq wq => ∃ (q : Nat) (vs : List Value), gq + q = af.length ∧ iq = .int .i64 q ∧ PlSt w1 wq g B (some ⟨ob, oo, none⟩) c J n (fun j => if j < k + 1 then ((aft J j).length : Nat) else 0) (fun x => nxAt J x k q) vs vq l .init)
        case atStart =>
          refine ⟨0, vs, by omega, rfl, ?_⟩
          have := Hst1.out
          simp only [nxAt_zero]
          exact this
        case round =>
          obtain ⟨q, vs', hgq, rfl, hst2⟩ := hrel
          by_cases hq : q < af.length
          · have hrd2 := hst2.q.jobs.after k hkJ
            rw [Hj.out] at hrd2
            dsimp only at hrd2
            obtain ⟨ab, ao, rfl, _, ca⟩ := hrd2.atMap hq
            obtain ⟨x0, x1⟩ := Hin.out _ (List.getElem_mem hq)
            generalize hx : af[q] = x at *
            obtain ⟨x, rfl⟩ := Int.eq_ofNat_of_zero_le x0
            have hxn : x < n := by omega
            have hlen := length_nxAt J Hv.out.aft x k q
            obtain ⟨v, hv, hcv, hown⟩ := hst2.rows.get (k := x) (by rw [fnL_len]; exact hxn)
            have hgx : (fnL n fun x => nxAt J x k q)[x]'(by rw [fnL_len]; exact hxn) = nxAt J x k q := by simp [fnL]
            rw [hgx] at hown
            have Hlen := Lib.hid hlen; clear hlen
            have Hx := Lib.hid hx; clear hx
            have Hgx := Lib.hid hgx; clear hgx
            have Hv2 := Lib.hid hv; clear hv
            have hz4 := hst2.rows.blk.lt
            have hz5 : g + 4 ≤ wr.heap.size + 1 := by have := hst2.q.bound; omega
            have Hst2 := Lib.hid hst2; clear hst2
            clear hrd2 x0 x1
            go_wp2_with (first
              | (at_builtin
                 refine wpList_append_own_at _ rfl (.tmp 73) (.tmp 75) _ rfl (g + 4) 3 i0 (.int .i64 0) 1 8 Try.underlying38 Hi0.out.1 Hi0.out.2.1 Hi0.out.2.2.1 Hi0.out.2.2.2 rfl (by decide) v _ (ints (nxAt J x k q)) rfl (hown.alloc _) ⟨wr.heap.size, 0, none⟩ 1 1 [.int .i64 k] rfl rfl (cell_one_new _ _ _) ?_ ?_ ?_ ?_ ?_
                 · intro u hu; simp at hu; subst hu; rfl
                 · have := Hlen.out; unfold maxLen; omega
                 · have := Hlen.out; omega
                 · simpa using hz5
                 intro v1 w2 hown1 hg1 _ hat1
                 obtain ⟨A1, cp1, rfl, _, _⟩ := own_form hown1
                 have hb1 := (Hst2.out.rows.alloc (.cells #[.int .i64 k] 3)).blk.grown hg1 (fun e => by have := ownBlock_lt Hst2.out.rows Hv2.out e.symm; omega)
                 have hc1 := hb1.cell x
                 rw [Hv2.out] at hc1
                 have hf1 := hb1.frozen x
                 have Hb2 := Lib.hid hb1
                 clear hb1))
            have hpush := (Hst2.out.alloc (.cells #[.int .i64 k] 3)).pushRow hxn Hv2.out hg1 hown1 hat1 (nxf' := fun x => nxAt J x k (q + 1))
              (nxAt_succ_eq J x k q (by rw [Haft.out]; exact hq) (by rw [List.getElem_of_eq Haft.out]; exact Hx.out))
              (fun y _ hy => nxAt_succ_ne J y k q (by rw [Haft.out]; exact hq) (by rw [List.getElem_of_eq Haft.out, Hx.out]; omega))
            go_roundg (gk - 1)
            case measure => omega
            case rel => exact ⟨q + 1, _, by omega, by go_num, hpush⟩
          · have hst3 : PlSt w1 wr g B (some ⟨ob, oo, none⟩) c J n (fun j => if j < k + 1 then ((aft J j).length : Nat) else 0) (fun x => nxTo J x (k + 1)) vs' vq l .init := by
              have h := hst2
              simp only [fun x => nxAt_full J x k q (by rw [Haft.out]; omega)] at h
              exact h
            clear hst2
            have hl3 : wr.cell? ⟨g + 1, k, none⟩ = some (.int .i64 af.length) := by rw [hst3.left.cell, cellI hlt, if_pos (by omega), Haft.out]
            have hlr := length_roots J k
            have hll := Hlp.out.1.length_eq
            have hpushc := heap_push wr B (g + 4) (g + 3) _ c J vq l k hst3.q Hlp.out.2 ⟨by omega, by omega⟩ (by omega)
            have Hst3 := Lib.hid hst3; clear hst3
            by_cases he : af.length = 0
            · have Hroot : Hid (aft J k = []) := by have h := Haft.out; rw [List.eq_nil_of_length_eq_zero he] at h; exact h
              rw [he] at hl3
              clear hlr hll
              go_wp2_with (first
                | (go_at_call 19; go_loud (refine hpushc.mono ?_; rintro e w2 ⟨rfl, v2, l2, hq2, hp2, hh2, hm2⟩))
                | fail)
              go_roundg (go - 1)
              case measure => omega
              case rel => exact ⟨k + 1, _, v2, l2, by omega, by go_num, qm_roots Hlp.out.1 Hroot.out hp2, hh2, Hst3.out.qmove hm2 hq2⟩
            · have Hroot : Hid (aft J k ≠ []) := by intro e; rw [Haft.out] at e; subst e; exact he rfl
              clear hpushc
              go_wp2
              go_roundg (go - 1)
              case measure => omega
              case rel => exact ⟨k + 1, _, vq, l, by omega, by go_num, by rw [roots_f Hroot.out]; exact Hlp.out.1, Hlp.out.2, Hst3.out⟩
      · have hkn : k = n := by omega
        have hst0 : PlSt w1 wr g B A c J n (fun j => (cntU J [] j : Nat)) (nx J) vs vq l (Rn J W 0) := by
          have h := hst
          have e : J.length = k := by have := Hn.out; omega
          refine ⟨h.out, ?_, ?_, h.q, h.apart, h.below, h.belowB⟩
          · have := h.left
            rwa [fnI_congr (g := fun j => ((cntU J [] j : Nat) : Int)) (fun j hj => by simp [cntU_nil, show j < k by omega])] at this
          · have := h.rows
            rwa [fnL_congr (g := nx J) (fun j hj => by rw [nx, e])] at this
        have hqm : Qm J (Rn J W 0) (fun j => (cntU J [] j : Nat)) l := qm_start (by rw [Hn.out, ← hkn]; exact Hlp.out.1)
        have hhp := Hlp.out.2
        have hgd := hst0.q.bound
        have hst1 := hst0.alloc (.cells (madeCells #[.int .i64 0] W) 3)
        have hdo : DoSt (wr.alloc (.cells (madeCells #[.int .i64 0] W) 3)) wr.heap.size g W (fun _ => 0) vs vq := by
          refine ⟨?_, hgd, fun e => by have := hst0.qlt e; omega, fun k v hv e => by have := ownBlock_lt hst0.rows hv e; omega⟩
          have := Blk.newArr wr 3 (made_one (.int .i64 0) W)
          rw [fnI_rep]
          exact this
        have hu0 := undone_init n J W
        have hwt := workTo_bound Hg.out.len J.length (Nat.le_refl _)
        rw [Hn.out] at hwt
        have hmkW := fun Wx => run_make_row' (P := Try.prog) 38 3 (.int .i64 0) 8 Try.underlying38 info_int rfl .i64 .i64 W (by omega) (by omega) Wx
        have HA := Lib.hid (And.intro hqm (And.intro hhp (And.intro hst1 (And.intro hdo (And.intro hu0 hwt)))))
        clear hqm hhp hst1 hdo hu0 hwt hst hst0 hkn Hs0
        obtain ⟨gd, hgdz⟩ : ∃ gd, wr.heap.size = gd := ⟨_, rfl⟩
        go_wp2
        rw [hgdz] at HA hgd
        generalize hWs : wr.alloc (.cells (madeCells #[.int .i64 0] W) 3) = W2 at *
        clear hWs hgdz
        go_loopg [17, 18, 19] ((workTo J n).toNat + 2) (fun gk now len beg wr => ∃ (t : Nat) (nw : Int) (does : Nat → Int) (dn : List Int) (vq : Value) (l : List Int), gk = (workTo J n).toNat + 2 - t ∧
          now = .int .i64 nw ∧ (nw = t ∨ AllBegun J (Rn J W t)) ∧ len = .int .i64 (Rn J W t).fin ∧ beg = .int .i64 ((n - undone (fnB n (Rn J W t).begun) : Nat) : Int) ∧
          Dn J W (Rn J W t) does dn ∧ Qm J (Rn J W t) (fun j => (cntU J dn j : Nat)) l ∧ Hp (sI J) l.length l ∧ (∀ x ∈ dn, endOf J (Rn J W t) x.toNat ≤ t) ∧
          PlSt w1 wr g B A c J n (fun j => (cntU J dn j : Nat)) (nx J) vs vq l (Rn J W t) ∧ DoSt wr gd g W does vs vq)
        case atStart => exact ⟨0, 0, fun _ => 0, [], vq, l, by omega, rfl, .inl rfl, rfl, by rw [HA.out.2.2.2.2.1]; simp, Dn.start J W, HA.out.1, HA.out.2.1, fun x hx => (by cases hx), HA.out.2.2.1, HA.out.2.2.2.1⟩
        case round =>
          obtain ⟨t, nw, does, dn, vq, l, hgk, rfl, hnw, rfl, rfl, hdn, hqm, hhp, ht2, hst, hdo⟩ := hrel
          have hfin := Rn_fin W Hg.out.len t
          have hule := undone_le n (Rn J W t).begun
          by_cases hall : AllBegun J (Rn J W t)
          · have hu : undone (fnB n (Rn J W t).begun) = 0 := by
              rcases Nat.eq_zero_or_pos (undone (fnB n (Rn J W t).begun)) with h | h
              · exact h
              · obtain ⟨i, hi, hb⟩ := undone_pos_iff.1 h
                rw [hall i (by have := Hn.out; omega)] at hb
                cases hb
            have HE := Lib.hid (And.intro hall (And.intro hst hfin))
            clear hnw hdn hqm hhp ht2 hst hdo hall hfin
            rw [hu]
            generalize hS : Rn J W t = S at *
            have HS := Lib.hid hS; clear hS
            go_wp2
            go_ret3
            have hb := HE.out.2.1.below
            refine ⟨?_, .inr ⟨Hac.out, g, t, ?_, ?_, ?_, ?_⟩⟩
            · exact Hb1.out.trans (hb.mono hz1)
            · show AllBegun J (Rn J W t)
              rw [HS.out]; exact HE.out.1
            · exact hz1
            · show _ = Ending.returned (.tuple #[.slice (some ⟨g, 0, none⟩) J.length J.length, .int .i64 (Rn J W t).fin, .int .i64 0])
              rw [HS.out, Hn.out]
              rfl
            · show Blk _ g _ (ints (fnI (J.length * 2) (slotF (Rn J W t))))
              rw [HS.out, Hn.out]; exact HE.out.2.1.out
          · have hnw' : nw = t := by
              rcases hnw with h | h
              · exact h
              · exact absurd h hall
            subst hnw'
            have hup : 0 < undone (fnB n (Rn J W t).begun) := by
              refine Nat.pos_of_ne_zero fun h => hall fun i hi => ?_
              cases hb : (Rn J W t).begun i with
              | true => rfl
              | false =>
                have h2 : 0 < undone (fnB n (Rn J W t).begun) := undone_pos_iff.2 ⟨i, by have := Hn.out; omega, hb⟩
                rw [h] at h2
                exact absurd h2 (Nat.lt_irrefl 0)
            have htW : (t : Int) ≤ workTo J n := by
              obtain ⟨i, hi, hb⟩ := undone_pos_iff.1 hup
              have h1 := pot_time Hlen.out (by omega) Hg.out.inR Hg.out.can t ⟨i, by have := Hn.out; omega, hb⟩
              rw [sumN_len, Hn.out] at h1
              have := pot_nonneg (J := J) (W := W) (S := Rn J W t) (t := t) Hlen.out
              omega
            have ht3 : (t : Int) ≤ 1000 * n := by have := HA.out.2.2.2.2.2.2; omega
            have hinv := Rn_inv W Hlen.out t
            have hblt : ((n - undone (fnB n (Rn J W t).begun) : Nat) : Int) < n := by omega
            clear hnw hall
            generalize hS : Rn J W t = S at *
            have HS := Lib.hid hS; clear hS
            generalize hbg : n - undone (fnB n S.begun) = bg at *
            have Hbg := Lib.hid (And.intro hbg (And.intro hup hule)); clear hbg hup hule
            have HR0 := Lib.hid (And.intro hdn (And.intro hqm (And.intro hhp (And.intro ht2 (And.intro hst (And.intro hdo (And.intro hinv hfin)))))))
            clear hdn hqm hhp ht2 hst hdo hinv
            go_wp2
            obtain ⟨wo, rfl⟩ : ∃ wo : World, wo = wr := ⟨_, rfl⟩
            obtain ⟨g1, rfl⟩ : ∃ g1 : Nat, g1 = gk := ⟨_, rfl⟩
            go_loopg [98] W (fun gk i wr => ∃ (u : Nat) (does : Nat → Int) (dn : List Int) (vq : Value) (l : List Int), gk + u = W ∧ i = .int .i64 u ∧
              Dn J W S does dn ∧ Qm J S (fun j => (cntU J dn j : Nat)) l ∧ Hp (sI J) l.length l ∧ (∀ x ∈ dn, endOf J S x.toNat ≤ t) ∧ (∀ w, w < u → ∀ j : Nat, does w = (j : Int) + 1 → (t : Int) < endOf J S j) ∧
              PlSt w1 wr g B A c J n (fun j => (cntU J dn j : Nat)) (nx J) vs vq l S ∧ DoSt wr gd g W does vs vq)
            case atStart => exact ⟨0, does, dn, vq, l, by omega, rfl, HR0.out.1, HR0.out.2.1, HR0.out.2.2.1, HR0.out.2.2.2.1, fun w hw => by omega, HR0.out.2.2.2.2.1, HR0.out.2.2.2.2.2.1⟩
            case round =>
              obtain ⟨u, does', dn', vq', l', hgu, rfl, hdn, hqm, hhp, ht2, ht1, hst, hdo⟩ := hrel
              by_cases hu : u < W
              · have hcd : wr.cell? ⟨gd, u, none⟩ = some (.int .i64 (does' u)) := by rw [hdo.blk.cell, cellI hu]
                rcases hdn.d1 u hu with hd0 | ⟨x, hxJ, hdx, hbx, hwx, hnx⟩
                · rw [hd0] at hcd
                  have HQ := Lib.hid (And.intro hdn (And.intro hqm (And.intro hhp (And.intro ht2 (And.intro ht1 (And.intro hst hdo))))))
                  clear hdn hqm hhp ht2 ht1 hst hdo
                  have Hd0 := Lib.hid hd0; clear hd0
                  go_wp2
                  go_quiet (fail)
                  go_wp2
                  go_roundg (gk - 1)
                  case measure => omega
                  case rel =>
                    refine ⟨u + 1, does', dn', vq', l', by omega, by go_num, HQ.out.1, HQ.out.2.1, HQ.out.2.2.1, HQ.out.2.2.2.1, fun w hw j hj => ?_, HQ.out.2.2.2.2.2.1.drewN _, HQ.out.2.2.2.2.2.2.drewN _⟩
                    by_cases e : w = u
                    · subst e; rw [Hd0.out] at hj; omega
                    · exact HQ.out.2.2.2.2.1 w (by omega) j hj
                · have hxn : x < n := by have := Hn.out; omega
                  rw [hdx] at hcd
                  obtain ⟨jb, jo, rfl, hjb, c0, -, -, -⟩ := hst.q.jobs.at_ hxJ
                  rw [← lenOf_eq hxJ] at c0
                  have hco : wr.cell? ⟨g, x * 2, none⟩ = some (.int .i64 (S.beg x)) := by rw [hst.out.cell, cellI (by omega), slotF_even]
                  have hhas := HR0.out.2.2.2.2.2.2.1.has x hxJ hbx
                  have hlx := Hg.out.len x hxJ
                  have he : endOf J S x = S.beg x + lenOf J x := rfl
                  have hfd := hdo.blk.frozen u
                  have hgdl := hdo.blk.lt
                  have hgf := hdo.far
                  have hng : ¬ (g + 2 = gd) := by omega
                  have hng' : ¬ (gd = g + 2) := by omega
                  obtain ⟨vr, hvr, hcv, hown⟩ := hst.rows.get (k := x) (by rw [fnL_len]; exact hxn)
                  have hgx : (fnL n (nx J))[x]'(by rw [fnL_len]; exact hxn) = nx J x := by simp [fnL]
                  rw [hgx] at hown
                  obtain ⟨A2, cp2, rfl, hcp2, hcp2'⟩ := own_form hown
                  have hnl := length_nx J Hv.out.aft x
                  rw [Hn.out] at hnl
                  have Hvr := Lib.hid (And.intro hvr hgx); clear hvr hgx hown
                  have Hrel := Lib.hid (hdn.release hu hdx)
                  generalize S.beg x = BB at *
                  generalize lenOf J x = LL at *
                  have HQ := Lib.hid (And.intro hdn (And.intro hqm (And.intro hhp (And.intro ht2 (And.intro ht1 (And.intro hst (And.intro hdo (And.intro hdx he))))))))
                  have hB0 : 0 ≤ BB ∧ BB < t := ⟨hhas.1, hhas.2.1⟩
                  clear hdn hqm hhp ht2 ht1 hst hdo hdx he hhas
                  by_cases hle : BB + LL ≤ (t : Int)
                  · go_wp2
                    go_quiet (fail)
                    go_wp2
                    have hst2 := (HQ.out.2.2.2.2.2.1.drewN nq).setDoes (HQ.out.2.2.2.2.2.2.1.drewN nq) u (.int .i64 0)
                    have hdo2 := (HQ.out.2.2.2.2.2.2.1.drewN nq).set_ u 0 (does' := upd does' u 0) (upd_eq _ _ _) (fun j _ h => upd_ne h)
                    have H2 := Lib.hid (And.intro hst2 hdo2); clear hst2 hdo2
                    obtain ⟨wo, rfl⟩ : ∃ wo : World, wo = wr := ⟨_, rfl⟩
                    obtain ⟨g2, rfl⟩ : ∃ g2 : Nat, g2 = gk := ⟨_, rfl⟩
                    clear c0 hco hcd hcv
                    go_loopg [131] (nx J x).length (fun gk i wq => ∃ (m : Nat) (vq : Value) (l : List Int), gk + m = (nx J x).length ∧ i = .int .i64 m ∧ Qm J S (Lf J dn' x m) l ∧ Hp (sI J) l.length l ∧
                      PlSt w1 wq g B (some ⟨jb, jo, none⟩) c J n (Lf J dn' x m) (nx J) vs vq l S ∧ DoSt wq gd g W (upd does' u 0) vs vq)
                    case atStart =>
                      refine ⟨0, vq', l', by omega, rfl, HQ.out.2.1.congr fun j _ => Lf_zero J _ x j, HQ.out.2.2.1, ?_, H2.out.2⟩
                      have h := H2.out.1
                      rwa [show (fun j => ((cntU J dn' j : Nat) : Int)) = Lf J dn' x 0 from funext fun j => (Lf_zero J _ x j).symm] at h
                    case round =>
                      obtain ⟨m, vq2, l2, hgm, rfl, hqm, hhp, hst, hdo⟩ := hrel
                      by_cases hm : m < (nx J x).length
                      · obtain ⟨v3, hv3, hcv3, hown3⟩ := hst.rows.get (k := x) (by rw [fnL_len]; exact hxn)
                        rw [Hvr.out.2] at hown3
                        obtain rfl : Value.slice A2 (nx J x).length cp2 = v3 := by have := Hvr.out.1; rw [this] at hv3; injection hv3
                        obtain ⟨rb, ro, rfl, _, cr⟩ := (rd_own hown3).atMap hm
                        obtain ⟨j, hj, hjJ⟩ := mem_nxTo (List.getElem_mem (l := nx J x) hm)
                        have hjJ : j < J.length := hjJ
                        have hjn : j < n := by have := Hn.out; omega
                        rw [hj] at cr
                        have hlc : wr.cell? ⟨g + 1, j, none⟩ = some (.int .i64 (Lf J dn' x m j)) := by rw [hst.left.cell, cellI hjn]
                        have hlp := Lf_pos hnx hjJ hm hj
                        have hcu : Lf J dn' x m j ≤ 200 := by
                          have := List.countP_le_length (p := fun a => !dn'.contains a) (l := aft J j)
                          have := Hv.out.aft j
                          simp only [Lf, cntU]
                          omega
                        have hnb : S.begun j = false := by
                          cases hb : S.begun j with
                          | false => rfl
                          | true =>
                            have := HQ.out.1.d7 j hjJ hb
                            simp only [Lf] at hlp
                            omega
                        have hfz := hst.left.frozen j
                        have hll := hqm.len
                        have hbd := hst.q.bound
                        have hset0 := hst.setLeft j (Lf J dn' x m j - 1) (left' := Lf J dn' x (m + 1)) (Lf_eq hm hj) (fun y _ hy => Lf_ne hm hj hy)
                        have hdo0 := hdo.setOther (p := ⟨g + 1, j, none⟩) (by show g + 1 ≠ gd; omega) (.int .i64 (Lf J dn' x m j - 1))
                        have Hj := Lib.hid hj; clear hj
                        obtain ⟨L, hL⟩ : ∃ L, Lf J dn' x m j = L := ⟨_, rfl⟩
                        rw [hL] at hlc hlp hcu hset0 hdo0
                        have HL := Lib.hid hL; clear hL
                        have HI := Lib.hid (And.intro hqm (And.intro hhp (And.intro hset0 hdo0)))
                        clear hv3 hown3 hqm hhp hst hdo hcv3 hdo0 hset0
                        by_cases hz : L - 1 = 0
                        · have hz' : L = 1 := by omega
                          subst hz'
                          clear hz hcu hlp
                          have hpushc := heap_push (wr.setCell ⟨g + 1, j, none⟩ (.int .i64 0)) B (g + 4) (g + 3) _ c J vq2 l2 j HI.out.2.2.1.q HI.out.2.1 ⟨by omega, by omega⟩ (by have := Hn.out; omega)
                          go_wp2_with (first
                            | (go_at_call 19; go_loud (refine hpushc.mono ?_; rintro e w2 ⟨rfl, v2, l3, hq2, hp2, hh2, hm2⟩))
                            | fail)
                          go_roundg (gk - 1)
                          case measure => omega
                          case rel => exact ⟨m + 1, v2, l3, by omega, by go_num, (HI.out.1.push hm Hj.out (by rw [HL.out]; rfl) hjJ hnb).perm hp2, hh2, HI.out.2.2.1.qmove hm2 hq2, HI.out.2.2.2.qmove hm2⟩
                        · go_wp2
                          go_roundg (gk - 1)
                          case measure => omega
                          case rel => exact ⟨m + 1, vq2, l2, by omega, by go_num, HI.out.1.keep hnx hm Hj.out (by rw [HL.out]; exact hz) hjJ, HI.out.2.1, HI.out.2.2.1, HI.out.2.2.2⟩
                      · have hmm : (nx J x).length ≤ m := by omega
                        have hst4 : PlSt w1 wr g B (some ⟨jb, jo, none⟩) c J n (fun j => (cntU J (dn' ++ [(x : Int)]) j : Nat)) (nx J) vs vq2 l2 S := by
                          refine ⟨hst.out, ?_, hst.rows, hst.q, hst.apart, hst.below, hst.belowB⟩
                          have h := hst.left
                          rwa [fnI_congr (g := fun j => ((cntU J (dn' ++ [(x : Int)]) j : Nat) : Int)) (fun j hj => Lf_end hnx hmm (by have := Hn.out; omega))] at h
                        have hqm4 : Qm J S (fun j => (cntU J (dn' ++ [(x : Int)]) j : Nat)) l2 := hqm.congr fun j hj => (Lf_end hnx hmm hj).symm
                        have H4 := Lib.hid (And.intro hst4 (And.intro hqm4 (And.intro hhp hdo)))
                        clear hst4 hqm4 hhp hdo hst hqm
                        go_wp2
                        go_roundg (g2 - 1)
                        case measure => omega
                        case rel =>
                          refine ⟨u + 1, upd does' u 0, dn' ++ [(x : Int)], vq2, l2, by omega, by go_num, Hrel.out.2.2.2.2, H4.out.2.1, H4.out.2.2.1, fun y hy => ?_, fun w hw j hj => ?_, H4.out.1, H4.out.2.2.2⟩
                          · rcases List.mem_append.1 hy with hy | hy
                            · exact HQ.out.2.2.2.1 y hy
                            · simp at hy
                              subst hy
                              rw [Int.toNat_natCast, HQ.out.2.2.2.2.2.2.2.2]
                              exact hle
                          · by_cases e : w = u
                            · subst e; rw [upd_eq] at hj; omega
                            · rw [upd_ne e] at hj
                              exact HQ.out.2.2.2.2.1 w (by omega) j hj
                  · go_wp2
                    go_quiet (fail)
                    go_wp2
                    go_roundg (gk - 1)
                    case measure => omega
                    case rel =>
                      refine ⟨u + 1, does', dn', vq', l', by omega, by go_num, HQ.out.1, HQ.out.2.1, HQ.out.2.2.1, HQ.out.2.2.2.1, fun w hw j hj => ?_, HQ.out.2.2.2.2.2.1.drewN _, HQ.out.2.2.2.2.2.2.1.drewN _⟩
                      by_cases e : w = u
                      · subst e
                        have h1 := HQ.out.2.2.2.2.2.2.2.1
                        rw [h1] at hj
                        have : j = x := by omega
                        subst this
                        have := HQ.out.2.2.2.2.2.2.2.2
                        omega
                      · exact HQ.out.2.2.2.2.1 w (by omega) j hj
              · have huW : W = u := by omega
                subst huW
                have hinv := HR0.out.2.2.2.2.2.2.1
                have htold := told_of hdn hinv ht1 ht2
                have hf0 := hfin.1
                have hf1 := hfin.2
                have HA2 := Lib.hid (And.intro hdn (And.intro hqm (And.intro hhp (And.intro ht2 (And.intro ht1 (And.intro hst (And.intro hdo (And.intro htold hinv))))))))
                clear hdn hqm hhp ht2 ht1 hst hdo htold hinv
                go_wp2
                obtain ⟨w3, rfl⟩ : ∃ w3 : World, w3 = wr := ⟨_, rfl⟩
                obtain ⟨g3, rfl⟩ : ∃ g3 : Nat, g3 = gk := ⟨_, rfl⟩
                go_loopg [18, 19, 155] W (fun gk len beg i wr => ∃ (u : Nat) (does : Nat → Int) (vq : Value) (l : List Int), gk + u = W ∧ i = .int .i64 u ∧
                  len = .int .i64 (phaseTo J t (over J S t) S u).fin ∧ beg = .int .i64 ((n - undone (fnB n (phaseTo J t (over J S t) S u).begun) : Nat) : Int) ∧
                  Dn J W (phaseTo J t (over J S t) S u) does dn' ∧ Qm J (phaseTo J t (over J S t) S u) (fun j => (cntU J dn' j : Nat)) l ∧ Hp (sI J) l.length l ∧
                  (∀ x ∈ dn', endOf J (phaseTo J t (over J S t) S u) x.toNat ≤ t) ∧ (∀ w, w < W → ∀ j : Nat, does w = (j : Int) + 1 → (t : Int) < endOf J (phaseTo J t (over J S t) S u) j) ∧
                  PlSt w1 wr g B A c J n (fun j => (cntU J dn' j : Nat)) (nx J) vs vq l (phaseTo J t (over J S t) S u) ∧ DoSt wr gd g W does vs vq)
                case atStart => exact ⟨0, does', vq', l', by omega, rfl, rfl, by rw [show (phaseTo J t (over J S t) S 0) = S from rfl, Hbg.out.1], HA2.out.1, HA2.out.2.1, HA2.out.2.2.1, HA2.out.2.2.2.1, HA2.out.2.2.2.2.1, HA2.out.2.2.2.2.2.1, HA2.out.2.2.2.2.2.2.1⟩
                case round =>
                  obtain ⟨u, does2, vq2, l2, hgu, rfl, rfl, rfl, hdn, hqm, hhp, ht2, ht1, hst, hdo⟩ := hrel
                  have hmid := PMid.upto HA2.out.2.2.2.2.2.2.2.2 (over J S t) Hlen.out (by omega) u (by omega)
                  by_cases hu : u < W
                  · have hcd : wr.cell? ⟨gd, u, none⟩ = some (.int .i64 (does2 u)) := by rw [hdo.blk.cell, cellI hu]
                    have hfree := free_iff hdn hmid (by omega) ht1 ht2 hu
                    have hstep : phaseTo J t (over J S t) S (u + 1) = stepW J t (over J S t) (phaseTo J t (over J S t) S u) u := rfl
                    have hfin1 := fin_phaseTo (ov := over J S t) (t := t) Hg.out.len hf0 hf1 u
                    have hul1 := undone_le n (phaseTo J t (over J S t) S u).begun
                    generalize hSu : phaseTo J t (over J S t) S u = Su at *
                    have HSu := Lib.hid hSu; clear hSu
                    have HQ := Lib.hid (And.intro hdn (And.intro hqm (And.intro hhp (And.intro ht2 (And.intro ht1 (And.intro hst hdo))))))
                    by_cases hd0 : does2 u = 0
                    · rw [hd0] at hcd
                      have hte := HA2.out.2.2.2.2.2.2.2.1
                      have hfr : ¬ (t : Int) < Su.til u := hfree.1 hd0
                      cases l2 with
                      | nil =>
                        have hst2 : stepW J t (over J S t) Su u = Su := by
                          unfold stepW
                          rw [if_neg hfr, if_pos (best_none hte Hg.out.inR hqm)]
                        have Hst := Lib.hid (hstep.trans hst2)
                        have hq0 := qlen wr B (g + 4) (g + 3) _ c J vq2 [] hst.q
                        rw [show (([] : List Int).length : Int) = 0 from rfl] at hq0
                        have Hd0 := Lib.hid hd0
                        clear hstep hst2 hfree hdn hqm hhp ht2 ht1 hst hdo hmid hd0 hte hfr
                        go_wp2_with (first
                          | (go_at_call 20; go_loud (refine hq0.mono ?_; rintro e w2 ⟨rfl, rfl⟩))
                          | fail)
                        go_roundg (gk - 1)
                        case measure => omega
                        case rel => exact ⟨u + 1, does2, vq2, [], by omega, by go_num, by rw [Hst.out], by rw [Hst.out], by rw [Hst.out]; exact HQ.out.1, by rw [Hst.out]; exact HQ.out.2.1, HQ.out.2.2.1, by rw [Hst.out]; exact HQ.out.2.2.2.1, by rw [Hst.out]; exact HQ.out.2.2.2.2.1, by rw [Hst.out]; exact HQ.out.2.2.2.2.2.1, HQ.out.2.2.2.2.2.2⟩
                      | cons y0 ls =>
                        have hq0 := qlen wr B (g + 4) (g + 3) _ c J vq2 (y0 :: ls) hst.q
                        have hpop := heap_pop wr B (g + 4) (g + 3) _ c J vq2 (y0 :: ls) ls.length hst.q hhp rfl
                        have hlq := hqm.len
                        have hlz : 0 < (((y0 :: ls).length : Nat) : Int) := by simp
                        have hfar := hdo.far
                        generalize (y0 :: ls).length = L0 at hq0 hlz hlq
                        have HZ := Lib.hid (And.intro hd0 (And.intro hstep (And.intro hfr hte)))
                        clear hstep hfree hdn hqm hhp ht2 ht1 hst hdo hmid hd0 hte hfr
                        have hne1 : ¬ (g = gd) := by omega
                        have hne2 : ¬ (gd = g) := by omega
                        go_wp2_with (first
                          | (go_at_call 20; go_loud (refine hq0.mono ?_; rintro e w2 ⟨rfl, rfl⟩))
                          | (go_at_call 21; go_loud (
                             refine hpop.mono ?_
                             rintro e w2 ⟨x, v3, l3, rfl, hq3, hp3, hmin3, hh3, hm3⟩
                             have hxm : x ∈ (y0 :: ls) := hp3.mem_iff.1 List.mem_cons_self
                             have hxin := HQ.out.2.1.inR x hxm
                             simp only [okIn] at hxin
                             obtain ⟨x, rfl⟩ := Int.eq_ofNat_of_zero_le hxin.1
                             have hxJ : x < J.length := by omega
                             have hxn : x < n := by have := Hn.out; omega
                             have hta := assert_int (x : Int)
                             have hst3 := HQ.out.2.2.2.2.2.1.qmove hm3 hq3
                             have hdo3 := HQ.out.2.2.2.2.2.2.qmove hm3
                             obtain ⟨jb, jo, rfl, hjb, c0, -, -, -⟩ := hst3.q.jobs.at_ hxJ
                             rw [← lenOf_eq hxJ] at c0
                             have hbl := hst3.belowB
                             have hjg : ¬ (jb = g) := by omega
                             have hjg' : ¬ (g = jb) := by omega
                             have hgl := hst3.out.lt
                             have hgdl := hdo3.blk.lt
                             have hfo0 := hst3.out.frozen (x * 2)
                             have hfo1 := hst3.out.frozen (x * 2 + 1)
                             have hfd := hdo3.blk.frozen u
                             have hco0 : w2.cell? ⟨g, x * 2, none⟩ = some (.int .i64 (Su.beg x)) := by rw [hst3.out.cell, cellI (by omega), slotF_even]
                             have hco1 : w2.cell? ⟨g, x * 2 + 1, none⟩ = some (.int .i64 (Su.wkr x)) := by rw [hst3.out.cell, cellI (by omega), slotF_odd]
                             have hcd2 : w2.cell? ⟨gd, u, none⟩ = some (.int .i64 0) := by rw [hdo3.blk.cell, cellI hu, HZ.out.1]
                             have hlx := Hg.out.len x hxJ
                             have hnotb : Su.begun x = false ∧ cntU J dn' x = 0 := by have := (HQ.out.2.1.iff x hxJ).1 hxm; exact ⟨this.1, by omega⟩
                             have hbo := best_of HZ.out.2.2.2 Hg.out.inR HQ.out.2.1 hxm hmin3
                             have hasg : phaseTo J t (over J S t) S (u + 1) = asg J t u x Su := by
                               rw [HZ.out.2.1]
                               unfold stepW
                               have h9 := HZ.out.2.2.1
                               rw [if_neg (by omega), hbo, if_neg (by omega), Int.toNat_natCast]
                             have hun := undone_upd (n := n) hxn hnotb.1
                             have hdn3 := HQ.out.1.assign (t := t) HZ.out.1 hxJ hnotb.1 hnotb.2
                             have hqm3 := HQ.out.2.1.pop (w := u) (t := t) hp3
                             have HP := Lib.hid (And.intro hst3 (And.intro hdo3 (And.intro hasg (And.intro hun (And.intro hdn3 (And.intro hqm3 (And.intro hh3 hnotb)))))))
                             clear hst3 hdo3 hasg hun hdn3 hqm3 hh3 hnotb hbo hq3 hp3 hmin3 hm3 hxm hxin hpop hq0
                             generalize hLL : lenOf J x = LL at *
                             have HLL := Lib.hid hLL; clear hLL))
                          | fail)
                        all_goals
                          obtain ⟨hst3, hdo3, hasg, hun, hdn3, hqm3, hh3, hnotb⟩ := HP.out
                          have hdo4 := (hdo3.setOther (p := ⟨g, x * 2, none⟩) hne1 (.int .i64 t)).setOther (p := ⟨g, x * 2 + 1, none⟩) hne1 (.int .i64 u)
                          have hst4 := (hst3.setSlot (t := t) (v := u) hxn).setDoes hdo4 u (.int .i64 ((x : Int) + 1))
                          have hdo5 := hdo4.set_ u ((x : Int) + 1) (does' := upd does2 u ((x : Int) + 1)) (upd_eq _ _ _) (fun j _ h => upd_ne h)
                          have hd1 := HQ.out.1
                          have ht1 := HQ.out.2.2.2.2.1
                          have ht2 := HQ.out.2.2.2.1
                          have hLL := HLL.out
                          go_roundg (gk - 1)
                          case measure => omega
                          case rel =>
                            refine ⟨u + 1, upd does2 u ((x : Int) + 1), v3, l3, by omega, by go_num, ?_, ?_, by rw [hasg]; exact hdn3, by rw [hasg]; exact hqm3, hh3, fun y hy => ?_, fun w hw j hj => ?_, by rw [hasg]; exact hst4, hdo5⟩
                            · rw [hasg]
                              show _ = Value.int .i64 (max Su.fin ((t : Int) + lenOf J x))
                              rw [hLL]
                              congr 1
                              omega
                            · rw [hasg]
                              show _ = Value.int .i64 ((n - undone (fnB n (upd Su.begun x true)) : Nat) : Int)
                              congr 1
                              omega
                            · have hyx : y.toNat ≠ x := fun e => by
                                have := (hd1.d3 y hy).2
                                rw [e, hnotb.1] at this
                                cases this
                              rw [hasg, asg_endOf hyx]
                              exact ht2 y hy
                            · rw [hasg]
                              by_cases e : w = u
                              · subst e
                                rw [upd_eq] at hj
                                obtain rfl : x = j := by omega
                                rw [asg_endOf_eq, hLL]
                                omega
                              · rw [upd_ne e] at hj
                                have hjx : j ≠ x := fun e2 => by
                                  subst e2
                                  rcases hd1.d1 w hw with h5 | ⟨j2, _, h6, h7, _⟩
                                  · omega
                                  · obtain rfl : j = j2 := by omega
                                    rw [hnotb.1] at h7
                                    cases h7
                                rw [asg_endOf hjx]
                                exact ht1 w hw j hj
                    · have hst2 : stepW J t (over J S t) Su u = Su := if_pos (Classical.byContradiction fun h => hd0 (hfree.2 h))
                      have Hst := Lib.hid (hstep.trans hst2)
                      have hdz : (does2 u == 0) = false := beq_eq_false_iff_ne.2 hd0
                      clear hstep hst2 hfree hdn hqm hhp ht2 ht1 hst hdo hmid
                      generalize hdv : does2 u = dv at *
                      have Hdv := Lib.hid hdv; clear hdv
                      go_wp2
                      go_roundg (gk - 1)
                      case measure => omega
                      case rel => exact ⟨u + 1, does2, vq2, l2, by omega, by go_num, by rw [Hst.out], by rw [Hst.out], by rw [Hst.out]; exact HQ.out.1, by rw [Hst.out]; exact HQ.out.2.1, HQ.out.2.2.1, by rw [Hst.out]; exact HQ.out.2.2.2.1, by rw [Hst.out]; exact HQ.out.2.2.2.2.1, by rw [Hst.out]; exact HQ.out.2.2.2.2.2.1, HQ.out.2.2.2.2.2.2⟩
                  · have huW : W = u := by omega
                    subst huW
                    have hS1 : phaseTo J t (over J S t) S W = Rn J W (t + 1) := by rw [← HS.out]; rfl
                    have hfinS := Rn_fin W Hg.out.len (t + 1)
                    clear hmid
                    rw [hS1] at hdn hqm ht2 ht1 hst ⊢
                    have hul1 := undone_le n (Rn J W (t + 1)).begun
                    have hinv1 := Rn_inv W Hlen.out (t + 1)
                    have hnext := next_event Hlen.out Hg.out.inR Hg.out.can (by omega) hdn ht1 ht2
                    clear hS1
                    generalize hSS : Rn J W (t + 1) = S1 at *
                    have HSS := Lib.hid hSS; clear hSS
                    have HE1 := Lib.hid (And.intro hdn (And.intro hqm (And.intro hhp (And.intro ht2 (And.intro ht1 (And.intro hnext hinv1))))))
                    clear hdn hqm hhp ht2 ht1 hnext hinv1
                    have HX := Lib.hid (And.intro hst hdo)
                    clear hst hdo
                    go_wp2
                    obtain ⟨w4, rfl⟩ : ∃ w4 : World, w4 = wr := ⟨_, rfl⟩
                    obtain ⟨g4, rfl⟩ : ∃ g4 : Nat, g4 = gk := ⟨_, rfl⟩
                    go_loopg [26, 197] W (fun gk e i wr => ∃ k : Nat, gk + k = W ∧ i = .int .i64 k ∧ e = .int .i64 (endsTo J S1 does2 k) ∧
                      PlSt w1 wr g B A c J n (fun j => (cntU J dn' j : Nat)) (nx J) vs vq2 l2 S1 ∧ DoSt wr gd g W does2 vs vq2)
                    case atStart => exact ⟨0, by omega, rfl, rfl, HX.out.1, HX.out.2⟩
                    case round =>
                      obtain ⟨k, hgk4, rfl, rfl, hst, hdo⟩ := hrel
                      by_cases hk : k < W
                      · have hcd : wr.cell? ⟨gd, k, none⟩ = some (.int .i64 (does2 k)) := by rw [hdo.blk.cell, cellI hk]
                        rcases HE1.out.1.d1 k hk with hd0 | ⟨x, hxJ, hdx, hbx, hwx, hnx⟩
                        · have he : endsTo J S1 does2 (k + 1) = endsTo J S1 does2 k := by simp [endsTo, hd0]
                          rw [hd0] at hcd
                          have Hd0 := Lib.hid (And.intro hd0 (And.intro he (And.intro hst hdo)))
                          clear hd0 he hst hdo
                          go_wp2
                          go_roundg (gk - 1)
                          case measure => omega
                          case rel => exact ⟨k + 1, by omega, by go_num, by rw [Hd0.out.2.1], Hd0.out.2.2.1, Hd0.out.2.2.2⟩
                        · have hxn : x < n := by have := Hn.out; omega
                          rw [hdx] at hcd
                          obtain ⟨jb, jo, rfl, hjb, c0, -, -, -⟩ := hst.q.jobs.at_ hxJ
                          rw [← lenOf_eq hxJ] at c0
                          have hco : wr.cell? ⟨g, x * 2, none⟩ = some (.int .i64 (S1.beg x)) := by rw [hst.out.cell, cellI (by omega), slotF_even]
                          have hhas := HE1.out.2.2.2.2.2.2.has x hxJ hbx
                          have hlx := Hg.out.len x hxJ
                          have hes : endsTo J S1 does2 (k + 1) = if endsTo J S1 does2 k = 0 ∨ S1.beg x + lenOf J x < endsTo J S1 does2 k then S1.beg x + lenOf J x else endsTo J S1 does2 k := by
                            have h1 : (0 : Int) < (x : Int) + 1 := by omega
                            have h2 : ((x : Int) + 1 - 1).toNat = x := by omega
                            simp only [endsTo, hdx, h1, h2, true_and, endOf]
                          generalize hEq : endsTo J S1 does2 k = E at *
                          generalize S1.beg x = BB at *
                          generalize lenOf J x = LL at *
                          have hB0 : 0 ≤ BB ∧ BB < t + 1 := ⟨hhas.1, by have := hhas.2.1; omega⟩
                          have Hd0 := Lib.hid (And.intro hst hdo)
                          clear hst hdo hdx hhas hEq
                          by_cases hE : E = 0
                          · subst hE
                            rw [if_pos (.inl rfl)] at hes
                            have Hes := Lib.hid hes; clear hes
                            go_wp2
                            go_quiet (fail)
                            go_wp2
                            go_roundg (gk - 1)
                            case measure => omega
                            case rel => exact ⟨k + 1, by omega, by go_num, by rw [Hes.out], Hd0.out.1.drewN _, Hd0.out.2.drewN _⟩
                          · have hE' : (E == 0) = false := beq_eq_false_iff_ne.2 hE
                            by_cases hlt : BB + LL < E
                            · rw [if_pos (.inr hlt)] at hes
                              have Hes := Lib.hid hes; clear hes
                              go_wp2
                              go_quiet (fail)
                              go_wp2
                              go_roundg (gk - 1)
                              case measure => omega
                              case rel => exact ⟨k + 1, by omega, by go_num, by rw [Hes.out], Hd0.out.1.drewN _, Hd0.out.2.drewN _⟩
                            · rw [if_neg (by exact fun h => h.elim hE hlt)] at hes
                              have Hes := Lib.hid hes; clear hes
                              go_wp2
                              go_quiet (fail)
                              go_wp2
                              go_roundg (gk - 1)
                              case measure => omega
                              case rel => exact ⟨k + 1, by omega, by go_num, by rw [Hes.out], Hd0.out.1.drewN _, Hd0.out.2.drewN _⟩
                      · have hkW : W = k := by omega
                        subst hkW
                        have H3 := Lib.hid (And.intro hst hdo)
                        clear hst hdo
                        rcases HE1.out.2.2.2.2.2.1 with ⟨hz, hall⟩ | ⟨e, he, hte, hre⟩
                        · rw [hz]
                          have Hall := Lib.hid hall; clear hall hz
                          go_wp2
                          go_roundg ((workTo J n).toNat + 2 - (t + 1))
                          case measure => omega
                          case rel =>
                            refine ⟨t + 1, 0, does2, dn', vq2, l2, rfl, rfl, ?_, ?_⟩
                            · rw [HSS.out]; exact .inr Hall.out
                            · rw [HSS.out]
                              exact ⟨rfl, rfl, HE1.out.1, HE1.out.2.1, HE1.out.2.2.1, fun y hy => by have := HE1.out.2.2.2.1 y hy; omega, H3.out.1, H3.out.2⟩
                        · rw [he]
                          have Hre := Lib.hid hre; clear hre he
                          go_wp2
                          go_roundg ((workTo J n).toNat + 2 - e)
                          case measure => omega
                          case rel =>
                            refine ⟨e, e, does2, dn', vq2, l2, rfl, rfl, .inl rfl, ?_⟩
                            rw [Hre.out]
                            exact ⟨rfl, rfl, HE1.out.1, HE1.out.2.1, HE1.out.2.2.1, fun y hy => by have := HE1.out.2.2.2.1 y hy; omega, H3.out.1, H3.out.2⟩
  · have h0' : (ac == 0) = false := beq_eq_false_iff_ne.2 h0
    have h1' : (ac != 0) = true := bne_iff_ne.2 h0
    go_enter Try.func8, Try.ntmps8
    go_wp2_with (first
      | (go_at_call 18; refine (checkw_any _ B _ _ _ _ J HR.out hB Hn.out).mono ?_; rintro e w1 ⟨rfl, hb1⟩; rw [Hac.out]; have Hb1 := Lib.hid hb1; clear hb1))
    go_ret3
    exact ⟨Hb1.out, .inl ⟨by rw [Hac.out]; exact h0, by rw [Hac.out]; rfl⟩⟩
end Go.Proofs.Ytnepaaheiakimaa
