/- The contracts of graph.Check and graph.check, and of the reference's asked. No conditions but that what is read is there. -/
import Derived.Test.YticdjkkcfdbdcaaGraphOrdW
namespace Go.Proofs.Yticdjkkcfdbdcaa
open Go.ChangeShapes Go.WideShapes Go.ChangeAt Go.RowKit
def lgB (J : List JobR) (k : Nat) : Bool := decide (200 < J.length) || (J.take k).any fun j => decide (200 < j.after.length)
theorem lgB_zero (J : List JobR) : lgB J 0 = decide (200 < J.length) := by simp [lgB]
theorem lgB_succ {J : List JobR} {k : Nat} (hk : k < J.length) : lgB J (k + 1) = (lgB J k || decide (200 < J[k].after.length)) := by
  simp only [lgB, List.take_succ_eq_append_getElem hk, List.any_append, List.any_cons, List.any_nil, Bool.or_false, Bool.or_assoc]
theorem lgB_full {J : List JobR} {k : Nat} (hk : J.length ≤ k) : lgB J k = J.any (lgJob J.length) := by
  rw [lgB, List.take_of_length_le hk]
  by_cases h : 200 < J.length
  · have h1 : decide (200 < J.length) = true := decide_eq_true h
    have h2 : lgJob J.length = fun _ => true := by funext j; simp only [lgJob, h1, Bool.true_or]
    rw [h1, h2, Bool.true_or]
    cases J with
    | nil => simp at h
    | cons j J => rfl
  · have h1 : decide (200 < J.length) = false := decide_eq_false h
    have h2 : lgJob J.length = fun j => decide (200 < j.after.length) := by funext j; simp only [lgJob, h1, Bool.false_or]
    rw [h1, h2, Bool.false_or]
theorem valid_of {J : List JobR} (h : ∀ (m : Nat) (h : m < J.length), okJob J.length J[m]) (hl : J.any (lgJob J.length) = false) : Valid J := by
  have h2 : ∀ j ∈ J, lgJob J.length j = false := by simpa using hl
  refine ⟨h, ?_, fun k hk => ?_⟩
  · cases hJ : J with
    | nil => simp
    | cons j J' => have := h2 j (by simp [hJ]); rw [hJ] at this; simp only [lgJob, Bool.or_eq_false_iff, decide_eq_false_iff_not] at this; omega
  · have := h2 _ (List.getElem_mem hk)
    simp only [lgJob, Bool.or_eq_false_iff, decide_eq_false_iff_not] at this
    omega
theorem dec_cast (n : Nat) : decide ((200 : Int) < (n : Int)) = decide (200 < n) := by
  by_cases h : 200 < n
  · rw [decide_eq_true h, decide_eq_true (by omega)]
  · rw [decide_eq_false h, decide_eq_false (by omega)]
set_option maxRecDepth 100000 in
set_option maxHeartbeats 2000000 in
theorem check_any (w : World) (B : Nat) (A : Option Addr) (c n : Nat) (J : List JobR) (hR : RdJobs w B A J) (hB : B ≤ w.heap.size) (hn : J.length = n) :
    Calls Try.prog 22 #[.slice A n c] w fun e w' => e = .returned (.int .i64 (jobsCode J)) ∧ Below w.heap.size w w' := by
  have hfit : n ≤ 140737488351232 := hn ▸ hR.fits
  have hl0 := lgB_zero J
  rw [hn] at hl0
  have Hl0 := Lib.hid hl0; clear hl0
  have Hn := Lib.hid hn; clear hn
  have HR := Lib.hid hR; clear hR
  go_enter Try.func22, Try.ntmps22
  go_wp2
  go_loopg [3, 15] n (fun gk lg i wr => ∃ (k : Nat), gk + k = n ∧ i = .int .i64 k ∧ lg = .bool (lgB J k) ∧ Below w.heap.size w wr ∧ ∀ (m : Nat) (h : m < J.length), m < k → okJob n J[m])
  case atStart => exact ⟨0, by omega, rfl, by rw [Hl0.out, dec_cast], Below.refl _ _, fun m _ h => absurd h (by omega)⟩
  case round =>
    obtain ⟨k, hgk, rfl, rfl, hbel, hok⟩ := hrel
    by_cases hlt : k < n
    · have hkJ : k < J.length := by have := Hn.out; omega
      have hRw := HR.out.below (hbel.mono hB)
      obtain ⟨ob, oo, rfl, hob, c0, c1, c2, c3⟩ := hRw.at_ hkJ
      have hrd := hRw.after k hkJ
      have hsm := hRw.small k hkJ
      have hls := lgB_succ hkJ
      obtain ⟨j, hj⟩ : ∃ j, J[k] = j := ⟨_, rfl⟩
      rw [hj] at c0 c1 c2 c3 hrd hsm hls
      obtain ⟨jl, ju, jn, sA, sc, af⟩ := j
      dsimp only at c0 c1 c2 c3 hrd hsm hls
      unfold Fits at hsm
      have hz := hbel.size
      have Hj := Lib.hid hj; clear hj
      have Hok := Lib.hid hok; clear hok
      have Hbel := Lib.hid hbel; clear hbel
      have Hrd := Lib.hid hrd; clear hrd
      have Hls := Lib.hid hls; clear hls
      clear hRw
      obtain ⟨lg, hlg⟩ : ∃ lg, lgB J k = lg := ⟨_, rfl⟩
      rw [hlg]
      have Hlg := Lib.hid hlg; clear hlg
      obtain ⟨lg2, hlg2⟩ : ∃ lg2, lgB J (k + 1) = lg2 := ⟨_, rfl⟩
      have Hlg2 := Lib.hid hlg2; clear hlg2
      by_cases hl : 1 ≤ jl ∧ jl ≤ 1000
      · obtain ⟨hl1, hl2⟩ := hl
        cases lg
        all_goals
          go_wp2
          obtain ⟨wo, rfl⟩ : ∃ wo : World, wo = wr := ⟨_, rfl⟩
          obtain ⟨go, rfl⟩ : ∃ go : Nat, go = gk := ⟨_, rfl⟩
          have hbel2 := Hbel.out.alloc hz (.cells #[.int .i64 jl, .int .i64 ju, .slice sA af.length sc, .int .i64 jn] 41)
          have Hbel2 := Lib.hid hbel2; clear hbel2
          have hrd2 := Hrd.out.alloc (Nat.le_trans hB hz) (.cells #[.int .i64 jl, .int .i64 ju, .slice sA af.length sc, .int .i64 jn] 41)
          have Hrd2 := Lib.hid hrd2; clear hrd2
          go_loopg [37] af.length (fun gk i wr => ∃ (q : Nat), gk + q = af.length ∧ i = .int .i64 q ∧ wr = wo.alloc (.cells #[.int .i64 jl, .int .i64 ju, .slice sA af.length sc, .int .i64 jn] 41) ∧ ∀ (m : Nat) (h : m < af.length), m < q → okIn n af[m])
          case atStart => exact ⟨0, by omega, rfl, rfl, fun m _ h => absurd h (by omega)⟩
          case round =>
            obtain ⟨q, hgq, rfl, rfl, hin⟩ := hrel
            by_cases hq : q < af.length
            · obtain ⟨ab, ao, rfl, hab, ca⟩ := Hrd2.out.atMap hq
              obtain ⟨x, hx⟩ : ∃ x, af[q] = x := ⟨_, rfl⟩
              rw [hx] at ca
              have Hx := Lib.hid hx; clear hx
              have Hin := Lib.hid hin; clear hin
              by_cases hi : okIn n x
              · obtain ⟨x0, x1⟩ := hi
                go_wp2
                go_roundg (gk - 1)
                case measure => omega
                case rel =>
                  refine ⟨q + 1, by omega, by go_num, rfl, fun m hm hmq => ?_⟩
                  by_cases e : m = q
                  · subst e; rw [Hx.out]; exact ⟨x0, x1⟩
                  · exact Hin.out m hm (by omega)
              · have hbad : jobsCode J = 1 := jobsCode_one hkJ (by rw [Hj.out]; exact fun h => hi (by have := h.2 x (Hx.out ▸ List.getElem_mem _); rwa [Hn.out] at this))
                have Hbad := Lib.hid hbad; clear hbad
                by_cases x0 : x < 0
                · go_wp2
                  go_ret
                  exact ⟨retInt Hbad.out.symm, Hbel2.out⟩
                · have x1 : (n : Int) ≤ x := by unfold okIn at hi; omega
                  go_wp2
                  go_ret
                  exact ⟨retInt Hbad.out.symm, Hbel2.out⟩
            · have hok2 : okJob n J[k] := by
                rw [Hj.out]
                refine ⟨⟨hl1, hl2⟩, fun a ha => ?_⟩
                obtain ⟨q', hq', rfl⟩ := List.getElem_of_mem ha
                exact hin q' hq' (by dsimp only at hq'; omega)
              have Hok2 := Lib.hid hok2; clear hok2 hin
              go_wp2
              go_roundg (go - 1)
              case measure => omega
              case rel =>
                refine ⟨k + 1, by omega, by go_num, ?_, Hbel2.out, fun m hm hmk => ?_⟩
                · rw [Hls.out, Hlg.out]; simp [dec_cast]
                · by_cases e : m = k
                  · subst e; exact Hok2.out
                  · exact Hok.out m hm (by omega)
      · have hbad : jobsCode J = 1 := jobsCode_one hkJ (by rw [Hj.out]; exact fun h => hl h.1)
        have Hbad := Lib.hid hbad; clear hbad
        by_cases hl1 : jl < 1
        all_goals cases lg
        all_goals
          go_wp2
          go_ret
          exact ⟨retInt Hbad.out.symm, Hbel.out.alloc hz _⟩
    · have hlf := lgB_full (J := J) (k := k) (by have := Hn.out; omega)
      have hok' : ∀ (m : Nat) (h : m < J.length), okJob J.length J[m] := fun m h => by rw [Hn.out]; exact hok m h (by have := Hn.out; omega)
      have hall : ∀ j ∈ J, okJob J.length j := fun j hj => by obtain ⟨q, hq, rfl⟩ := List.getElem_of_mem hj; exact hok' q hq
      have Hall := Lib.hid hall; clear hall
      have hz := hbel.size
      have Hbel := Lib.hid hbel; clear hbel
      clear hok
      cases hlg : J.any (lgJob J.length) with
      | true =>
        rw [hlf, hlg]
        have Hlg := Lib.hid hlg; clear hlg hlf hok'
        go_wp2
        go_ret
        exact ⟨retInt (jobsCode_two Hall.out Hlg.out).symm, Hbel.out⟩
      | false =>
        rw [hlf, hlg]
        have hv := valid_of hok' hlg
        have Hv := Lib.hid hv; clear hv
        have Hlg := Lib.hid hlg; clear hlg hlf hok'
        have hcase : (∀ i, i < J.length → Can J i) ∨ ¬ ∀ i, i < J.length → Can J i := Classical.em _
        go_wp2_with (go_at_call 61; refine (order_any _ B _ _ _ J (HR.out.below (Hbel.out.mono hB)) (by omega) Hn.out Hv.out).mono ?_; rintro e w1 ⟨v1, out, rfl, hwh, hown, hb1⟩; have Hown := Lib.hid hown; clear hown; have Hb1 := Lib.hid hb1; clear hb1; have Hwh := Lib.hid hwh; clear hwh; obtain ⟨ok, hok⟩ : ∃ ok, decide (out.length = J.length) = ok := ⟨_, rfl⟩; rw [hok]; have Hok := Lib.hid hok; clear hok; cases ok)
        · go_ret
          refine ⟨retInt (jobsCode_four Hall.out Hlg.out fun hc => ?_).symm, Hbel.out.trans (Hb1.out.mono hz)⟩
          have := of_decide_eq_false Hok.out
          exact this (Hwh.out.ok.2 hc)
        · go_ret
          exact ⟨retInt (jobsCode_zero Hall.out Hlg.out (Hwh.out.ok.1 (of_decide_eq_true Hok.out))).symm, Hbel.out.trans (Hb1.out.mono hz)⟩
theorem askedCode_bad {J : List JobR} {n : Int} (h : jobsCode J ≠ 0) : askedCode J n = jobsCode J := by simp [askedCode, h]
theorem askedCode_ok {J : List JobR} {n : Int} (h : jobsCode J = 0) (hw : workersOk n) : askedCode J n = 0 := by simp [askedCode, h, hw]
theorem askedCode_w {J : List JobR} {n : Int} (h : jobsCode J = 0) (hw : ¬ workersOk n) : askedCode J n = 1 := by simp [askedCode, h, hw]
set_option maxHeartbeats 1000000 in
theorem checkw_any (w : World) (B : Nat) (A : Option Addr) (c n : Nat) (wk : Int) (J : List JobR) (hR : RdJobs w B A J) (hB : B ≤ w.heap.size) (hn : J.length = n) :
    Calls Try.prog 55 #[.slice A n c, .int .i64 wk] w fun e w' => e = .returned (.int .i64 (askedCode J wk)) ∧ Below w.heap.size w w' := by
  have Hn := Lib.hid hn; clear hn
  have HR := Lib.hid hR; clear hR
  obtain ⟨jc, hjc⟩ : ∃ jc, jobsCode J = jc := ⟨_, rfl⟩
  have Hjc := Lib.hid hjc; clear hjc
  by_cases h0 : jc = 0
  · subst h0
    by_cases hw : workersOk wk
    · have ha := askedCode_ok Hjc.out hw
      have Ha := Lib.hid ha; clear ha
      obtain ⟨hw1, hw2⟩ := hw
      go_enter Try.func55, Try.ntmps55
      go_wp2_with (first
        | (go_at_call 22; refine (check_any _ B _ _ _ J HR.out hB Hn.out).mono ?_; rintro e w1 ⟨rfl, hb1⟩; rw [Hjc.out]; have Hb1 := Lib.hid hb1; clear hb1))
      go_ret
      exact ⟨retInt Ha.out.symm, Hb1.out⟩
    · have ha := askedCode_w Hjc.out hw
      have Ha := Lib.hid ha; clear ha
      by_cases hw1 : wk < 1
      · clear hw
        go_enter Try.func55, Try.ntmps55
        go_wp2_with (first
          | (go_at_call 22; refine (check_any _ B _ _ _ J HR.out hB Hn.out).mono ?_; rintro e w1 ⟨rfl, hb1⟩; rw [Hjc.out]; have Hb1 := Lib.hid hb1; clear hb1))
        go_ret
        exact ⟨retInt Ha.out.symm, Hb1.out⟩
      · have hw2 : 16 < wk := by unfold workersOk at hw; omega
        clear hw
        go_enter Try.func55, Try.ntmps55
        go_wp2_with (first
          | (go_at_call 22; refine (check_any _ B _ _ _ J HR.out hB Hn.out).mono ?_; rintro e w1 ⟨rfl, hb1⟩; rw [Hjc.out]; have Hb1 := Lib.hid hb1; clear hb1))
        go_ret
        exact ⟨retInt Ha.out.symm, Hb1.out⟩
  · have ha := askedCode_bad (n := wk) (show jobsCode J ≠ 0 by rw [Hjc.out]; exact h0)
    rw [Hjc.out] at ha
    have Ha := Lib.hid ha; clear ha
    have h0' : (jc == 0) = false := beq_eq_false_iff_ne.2 h0
    have h1' : (jc != 0) = true := bne_iff_ne.2 h0
    go_enter Try.func55, Try.ntmps55
    go_wp2_with (first
      | (go_at_call 22; refine (check_any _ B _ _ _ J HR.out hB Hn.out).mono ?_; rintro e w1 ⟨rfl, hb1⟩; rw [Hjc.out]; have Hb1 := Lib.hid hb1; clear hb1))
    go_ret
    exact ⟨retInt Ha.out.symm, Hb1.out⟩
end Go.Proofs.Yticdjkkcfdbdcaa
