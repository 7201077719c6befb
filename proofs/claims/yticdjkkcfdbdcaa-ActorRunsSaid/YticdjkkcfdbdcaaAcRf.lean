/- The contract of the reference's Rules. No conditions but that what is read is there. -/
import Derived.Test.YticdjkkcfdbdcaaAcC
import Derived.Test.YticdjkkcfdbdcaaPhN
namespace Go.Proofs.Yticdjkkcfdbdcaa
open Go.ChangeShapes Go.WideShapes Go.ChangeAt Go.RowKit Go.Conc Go.ConcN
def lgB (R : List RulR) (m : Nat) (k : Nat) : Bool := decide (200 < m) || (R.take k).any fun l => decide (200 < R.length) || decide (200 < l.rs.length)
theorem lgB_succ {R : List RulR} {m k : Nat} (hk : k < R.length) : lgB R m (k + 1) = (lgB R m k || (decide (200 < R.length) || decide (200 < R[k].rs.length))) := by
  simp only [lgB, List.take_succ_eq_append_getElem hk, List.any_append, List.any_cons, List.any_nil, Bool.or_false, Bool.or_assoc]
theorem lgB_zero (R : List RulR) (m : Nat) : lgB R m 0 = decide (200 < m) := by simp [lgB]
theorem lgB_end (R : List RulR) (m : Nat) : lgB R m R.length = lgA R m R.length := by
  rw [Bool.eq_iff_iff]
  simp only [lgB, lgA, List.take_length, Bool.or_eq_true, decide_eq_true_eq, List.any_eq_true]
  constructor
  · rintro (h | ⟨l, hl, h | h⟩)
    · exact .inl (.inr h)
    · exact .inl (.inl h)
    · exact .inr ⟨l, hl, h⟩
  · rintro ((h | h) | ⟨l, hl, h⟩)
    · exact .inr ⟨R[0]'(by omega), List.getElem_mem _, .inl h⟩
    · exact .inl h
    · exact .inr ⟨l, hl, .inr h⟩
def dupB (rs : List RuleR) (kd : Int) (j : Nat) : Bool := (rs.take j).any fun r => r.kind == kd
theorem dupB_succ {rs : List RuleR} {kd : Int} {j : Nat} (hj : j < rs.length) : dupB rs kd (j + 1) = (dupB rs kd j || (rs[j].kind == kd)) := by
  simp only [dupB, List.take_succ_eq_append_getElem hj, List.any_append, List.any_cons, List.any_nil, Bool.or_false]
theorem dupB_iff {rs : List RuleR} {kd : Int} {j : Nat} : dupB rs kd j = true ↔ kd ∈ (rs.take j).map (·.kind) := by
  simp only [dupB, List.any_eq_true, List.mem_map, beq_iff_eq]
set_option maxRecDepth 100000 in
set_option maxHeartbeats 8000000 in
theorem rules_any (w : World) (B n m : Nat) (A AL : Option Addr) (c cl : Nat) (R : List RulR) (ls : List LetR) (hR : RdRules w B A R) (hX : Rd w B AL (flatX ls)) (hB : B ≤ w.heap.size) (hn : R.length = n) (hm : ls.length = m) (hfm : Fits m) :
    Calls Try.prog 28 #[.slice A n c, .slice AL m cl] w fun e w' => e = .returned (.int .i64 (actCode R ls)) ∧ RowKit.Below w.heap.size w w' := by
  have hfit : n ≤ 140737488351232 := hn ▸ hR.fits
  unfold Fits at hfm
  have Hn := Lib.hid hn; clear hn
  have Hm := Lib.hid hm; clear hm
  have HR := Lib.hid (And.intro hR hX); clear hR hX
  go_enter Try.func28, Try.ntmps28
  go_wp2
  go_loopg [5] m (fun gk i wr => ∃ (k : Nat), gk + k = m ∧ i = .int .i64 k ∧ RowKit.Below w.heap.size w wr ∧ ∀ (q : Nat) (h : q < ls.length), q < k → letOk n ls[q])
  case atStart => exact ⟨0, by omega, rfl, RowKit.Below.refl _ _, fun q _ h => absurd h (by omega)⟩
  case round =>
    obtain ⟨k, hgk, rfl, hbel, hok⟩ := hrel
    by_cases hlt : k < m
    · have hkl : k < ls.length := by have := Hm.out; omega
      have hXw := HR.out.2.below (hbel.mono hB)
      obtain ⟨xb, xo, rfl, hxb, hc⟩ := rd_flat (f := cellsX) (s := 4) (by decide) (fun _ => rfl) hXw hkl
      have hbadx : ¬ letOk n ls[k] → actCode R ls = 1 := fun h => actCode_let hkl (by rw [Hn.out]; exact h)
      obtain ⟨x, hx⟩ : ∃ x, ls[k] = x := ⟨_, rfl⟩
      rw [hx] at hc hbadx
      obtain ⟨xt, xd, xk, xn⟩ := x
      have c0 := hc 0 _ rfl
      have c1 := hc 1 _ rfl
      have c2 := hc 2 _ rfl
      have c3 := hc 3 _ rfl
      rw [Nat.add_zero] at c0
      simp only at c0 c1 c2 c3
      have hz := hbel.size
      have hba := hbel.alloc hz (.cells #[.int .i64 xt, .int .i64 xd, .int .i64 xk, .int .i64 xn] 49)
      have Hba := Lib.hid hba; clear hba
      have Hx := Lib.hid hx; clear hx
      have Hok := Lib.hid hok; clear hok
      obtain ⟨bt, hbt⟩ : ∃ b, decide ((0 : Int) ≤ xt ∧ xt ≤ 100000) = b := ⟨_, rfl⟩
      obtain ⟨bd, hbd⟩ : ∃ b, decide ((0 : Int) ≤ xd ∧ xd ≤ (n : Int) - 1) = b := ⟨_, rfl⟩
      obtain ⟨bk, hbk⟩ : ∃ b, decide ((1 : Int) ≤ xk ∧ xk ≤ 100) = b := ⟨_, rfl⟩
      have hlo : letOk n ⟨xt, xd, xk, xn⟩ ↔ bt = true ∧ bd = true ∧ bk = true := by
        rw [← hbt, ← hbd, ← hbk]
        simp only [decide_eq_true_eq, letOk, kindOk]
        omega
      have HT := Lib.hid hbt; have HD := Lib.hid hbd; have HK := Lib.hid hbk; have HL := Lib.hid (And.intro hlo hbadx)
      clear hbel hXw hc hz hbt hbd hbk hlo hbadx
      cases bt with
      | false =>
        have hbad : actCode R ls = 1 := HL.out.2 (fun h => absurd (HL.out.1.1 h) (by simp))
        have Hb := Lib.hid hbad; clear hbad
        have mk1 : Nat := 0; have mk2 : Nat := 0; go_wp2_with (first | (clear mk1; go_at_call 54; refine (between_b xt 0 100000 _ _ HT.out).mono ?_; rintro e w2 ⟨rfl, rfl⟩) | (clear mk2; go_at_call 54; refine (between_b xd 0 ((n : Int) - 1) _ _ HD.out).mono ?_; rintro e w2 ⟨rfl, rfl⟩) | (go_at_call 54; refine (between_b xk 1 100 _ _ HK.out).mono ?_; rintro e w2 ⟨rfl, rfl⟩))
        go_ret
        exact ⟨retInt Hb.out.symm, Hba.out⟩
      | true =>
      cases bd with
      | false =>
        have hbad : actCode R ls = 1 := HL.out.2 (fun h => absurd (HL.out.1.1 h) (by simp))
        have Hb := Lib.hid hbad; clear hbad
        have mk1 : Nat := 0; have mk2 : Nat := 0; go_wp2_with (first | (clear mk1; go_at_call 54; refine (between_b xt 0 100000 _ _ HT.out).mono ?_; rintro e w2 ⟨rfl, rfl⟩) | (clear mk2; go_at_call 54; refine (between_b xd 0 ((n : Int) - 1) _ _ HD.out).mono ?_; rintro e w2 ⟨rfl, rfl⟩) | (go_at_call 54; refine (between_b xk 1 100 _ _ HK.out).mono ?_; rintro e w2 ⟨rfl, rfl⟩))
        go_ret
        exact ⟨retInt Hb.out.symm, Hba.out⟩
      | true =>
      cases bk with
      | false =>
        have hbad : actCode R ls = 1 := HL.out.2 (fun h => absurd (HL.out.1.1 h) (by simp))
        have Hb := Lib.hid hbad; clear hbad
        have mk1 : Nat := 0; have mk2 : Nat := 0; go_wp2_with (first | (clear mk1; go_at_call 54; refine (between_b xt 0 100000 _ _ HT.out).mono ?_; rintro e w2 ⟨rfl, rfl⟩) | (clear mk2; go_at_call 54; refine (between_b xd 0 ((n : Int) - 1) _ _ HD.out).mono ?_; rintro e w2 ⟨rfl, rfl⟩) | (go_at_call 54; refine (between_b xk 1 100 _ _ HK.out).mono ?_; rintro e w2 ⟨rfl, rfl⟩))
        go_ret
        exact ⟨retInt Hb.out.symm, Hba.out⟩
      | true =>
        have hgood : letOk n ⟨xt, xd, xk, xn⟩ := HL.out.1.2 ⟨rfl, rfl, rfl⟩
        have HG := Lib.hid hgood; clear hgood
        have mk1 : Nat := 0; have mk2 : Nat := 0; go_wp2_with (first | (clear mk1; go_at_call 54; refine (between_b xt 0 100000 _ _ HT.out).mono ?_; rintro e w2 ⟨rfl, rfl⟩) | (clear mk2; go_at_call 54; refine (between_b xd 0 ((n : Int) - 1) _ _ HD.out).mono ?_; rintro e w2 ⟨rfl, rfl⟩) | (go_at_call 54; refine (between_b xk 1 100 _ _ HK.out).mono ?_; rintro e w2 ⟨rfl, rfl⟩))
        go_roundg (gk - 1)
        case measure => omega
        case rel =>
          refine ⟨k + 1, by omega, by go_num, Hba.out, fun q hq hqk => ?_⟩
          by_cases e : q = k
          · subst e; rw [Hx.out]; exact HG.out
          · exact Hok.out q hq (by omega)
    · have hok2 : ∀ (q : Nat) (h : q < ls.length), letOk n ls[q] := fun q h => hok q h (by have := Hm.out; omega)
      have Hok := Lib.hid hok2; clear hok2 hok
      have Hb1 := Lib.hid hbel; clear hbel
      have hl1 : lgB R ls.length 0 = decide ((200 : Int) < m) := by rw [lgB_zero, Hm.out]; exact (dec_castD m 200).symm
      have hcs : ((200 : Int) < m ∧ lgB R ls.length 0 = true) ∨ (¬ (200 : Int) < m ∧ lgB R ls.length 0 = false) := by
        by_cases h : (200 : Int) < m
        · exact .inl ⟨h, by rw [hl1]; simp [h]⟩
        · exact .inr ⟨h, by rw [hl1]; simp [h]⟩
      clear hl1
      obtain ⟨wx, rfl⟩ : ∃ wx : World, wx = wr := ⟨_, rfl⟩
      rcases hcs with ⟨h200, hl0⟩ | ⟨h200, hl0⟩
      all_goals
        have Hl0 := Lib.hid hl0; clear hl0
        go_wp2
        clear h200
        go_loopg [7, 8] n (fun gk lg i wr => ∃ (k : Nat), gk + k = n ∧ i = .int .i64 k ∧ lg = .int .i64 (lgI (lgB R ls.length k)) ∧ RowKit.Below w.heap.size w wr ∧ ∀ (q : Nat) (h : q < R.length), q < k → ¬ rulesBad n R[q].rs)
        case atStart => exact ⟨0, by omega, rfl, by rw [Hl0.out]; rfl, Hb1.out, fun q _ h => absurd h (by omega)⟩
        case round =>
          clear Hl0 Hb1
          obtain ⟨k, hgk, rfl, rfl, hbel, hrk⟩ := hrel
          by_cases hlt : k < n
          · have hkR : k < R.length := by have := Hn.out; omega
            have hRw := HR.out.1.keep (w' := wr) (fun p hp => (hbel.mono hB).cell hp)
            obtain ⟨ob, oo, rfl, hob, c0⟩ := hRw.at_ hkR
            have hrd := hRw.each k hkR
            have hsm := hRw.small k hkR
            have hls := lgB_succ (m := ls.length) hkR
            have hrb : rulesBad n R[k].rs → actCode R ls = 1 := fun h => actCode_rule hkR (by rw [Hn.out]; exact h)
            obtain ⟨j, hj⟩ : ∃ j, R[k] = j := ⟨_, rfl⟩
            rw [hj] at c0 hrd hsm hls hrb
            obtain ⟨jA, jc, rs⟩ := j
            dsimp only at c0 hrd hsm hls hrb
            unfold Fits at hsm
            obtain ⟨b1, hb1⟩ : ∃ b, lgB R ls.length k = b := ⟨_, rfl⟩
            rw [hb1] at hls ⊢
            obtain ⟨lg, hlg⟩ : ∃ lg, lgI b1 = lg := ⟨_, rfl⟩
            have hl2 : (∃ lg2, lgI (lgB R ls.length (k + 1)) = lg2 ∧ (((200 : Int) < n ∧ lg2 = 2) ∨ (¬ (200 : Int) < n ∧ (200 : Int) < rs.length ∧ lg2 = 2) ∨ (¬ (200 : Int) < n ∧ ¬ (200 : Int) < rs.length ∧ lg2 = lg))) := by
              refine ⟨_, rfl, ?_⟩
              rw [hls, Hn.out]
              by_cases h1 : 200 < n
              · exact .inl ⟨by omega, by simp [h1, lgI]⟩
              · by_cases h2 : 200 < rs.length
                · exact .inr (.inl ⟨by omega, by omega, by simp [h2, lgI]⟩)
                · exact .inr (.inr ⟨by omega, by omega, by simp [h1, h2, hlg]⟩)
            rw [hlg]
            clear hls hb1 hlg
            have hz := hbel.size
            have Hj := Lib.hid (And.intro hj (And.intro hl2 (And.intro hrb (And.intro hrk (And.intro hbel hrd))))); clear hj hl2 hrb hrk hbel hrd hRw
            go_wp2
            obtain ⟨wo, rfl⟩ : ∃ wo : World, wo = wr := ⟨_, rfl⟩
            obtain ⟨go, rfl⟩ : ∃ go : Nat, go = gk := ⟨_, rfl⟩
            go_loopg [9] rs.length (fun gk i wr => ∃ (q : Nat), gk + q = rs.length ∧ i = .int .i64 q ∧ RowKit.Below wo.heap.size wo wr ∧ ((rs.take q).map (·.kind)).Nodup ∧ ∀ (m : Nat) (h : m < rs.length), m < q → ruleOk n rs[m])
            case atStart => exact ⟨0, by omega, rfl, RowKit.Below.refl _ _, by simp, fun m _ h => absurd h (by omega)⟩
            case round =>
              obtain ⟨q, hgq, rfl, hbe, hnd, hin⟩ := hrel
              have hc2 := (hbe.cell (p := ⟨ob, oo + k, none⟩) (show ob < wo.heap.size by omega)).trans c0
              by_cases hq : q < rs.length
              · have hrd2 := Hj.out.2.2.2.2.2.below (hbe.mono (Nat.le_trans hB hz))
                obtain ⟨rb, ro, rfl, hrb2, hcr⟩ := rd_flat (f := cellsRu) (s := 7) (by decide) (fun _ => rfl) hrd2 hq
                have hnt := nodup_take hq hnd
                have hnn := not_nodup hq
                have hmem := List.getElem_mem hq
                obtain ⟨x, hx⟩ : ∃ x, rs[q] = x := ⟨_, rfl⟩
                rw [hx] at hcr hnt hnn hmem
                obtain ⟨kd, ti, pl, md, sd, dt, af⟩ := x
                have d0 := hcr 0 _ rfl
                have d1 := hcr 1 _ rfl
                have d2 := hcr 2 _ rfl
                have d3 := hcr 3 _ rfl
                have d4 := hcr 4 _ rfl
                have d5 := hcr 5 _ rfl
                have d6 := hcr 6 _ rfl
                rw [Nat.add_zero] at d0
                simp only at d0 d1 d2 d3 d4 d5 d6 hnt hnn
                have hz2 := hbe.size
                have hbA := hbe.alloc hz2 (.cells #[.int .i64 kd, .int .i64 ti, .int .i64 pl, .int .i64 md, .int .i64 sd, .int .i64 dt, .int .i64 af] 54)
                have hnew := heap_alloc_new wr (.cells #[.int .i64 kd, .int .i64 ti, .int .i64 pl, .int .i64 md, .int .i64 sd, .int .i64 dt, .int .i64 af] 54)
                have HQ := Lib.hid (And.intro hx (And.intro hnt (And.intro hnn (And.intro hin (And.intro hbe (And.intro hmem (And.intro hbA hnew))))))); clear hx hnt hnn hin hbe hmem hbA hnew hnd hcr
                obtain ⟨b1, hb1⟩ : ∃ b, decide ((1 : Int) ≤ kd ∧ kd ≤ 100) = b := ⟨_, rfl⟩
                have HK := Lib.hid hb1; clear hb1
                obtain ⟨wq, rfl⟩ : ∃ wq : World, wq = wr := ⟨_, rfl⟩
                obtain ⟨gq, rfl⟩ : ∃ gq : Nat, gq = gk := ⟨_, rfl⟩
                cases b1 with
                | false =>
                  go_wp2_with (go_at_call 54; refine (between_b kd 1 100 _ _ HK.out).mono ?_; rintro e w2 ⟨rfl, rfl⟩)
                  clear d0 d1 d2 d3 d4 d5 d6
                  go_loopg [11, 12] q (fun gk bv i wr => ∃ (j : Nat), gk + j = q ∧ i = .int .i64 j ∧ bv = .bool (true) ∧ RowKit.Below wo.heap.size wo wr ∧ wq.heap.size < wr.heap.size ∧ wr.heap[wq.heap.size]? = some (.cells #[.int .i64 kd, .int .i64 ti, .int .i64 pl, .int .i64 md, .int .i64 sd, .int .i64 dt, .int .i64 af] 54 (0, 0)))
                  case atStart => exact ⟨0, by omega, rfl, by first | rfl | (simp [dupB]; done) | (simp [dupB]; omega), HQ.out.2.2.2.2.2.2.1, by simp, HQ.out.2.2.2.2.2.2.2⟩
                  case round =>
                    obtain ⟨j, hgj, rfl, rfl, hbe, hsz, hnw⟩ := hrel
                    have hc3 := (hbe.cell (p := ⟨ob, oo + k, none⟩) (show ob < wo.heap.size by omega)).trans c0
                    by_cases hjq : j < q
                    · have hjl : j < rs.length := by omega
                      have hrd3 := Hj.out.2.2.2.2.2.below (hbe.mono (Nat.le_trans hB hz))
                      obtain ⟨rb', ro', hra, hrb3, hcr⟩ := rd_flat (f := cellsRu) (s := 7) (by decide) (fun _ => rfl) hrd3 hjl
                      obtain ⟨rfl, rfl⟩ : rb = rb' ∧ ro = ro' := by simp only [Option.some.injEq, Addr.mk.injEq] at hra; exact ⟨hra.1, hra.2.1⟩
                      have d0 := hcr 0 _ rfl
                      rw [Nat.add_zero] at d0
                      have e0 := cells_at hnw 0 _ rfl
                      have hdu := dupB_succ (kd := kd) hjl
                      obtain ⟨x2, hx2⟩ : ∃ x2, rs[j] = x2 := ⟨_, rfl⟩
                      rw [hx2] at d0 hdu
                      obtain ⟨k2, _, _, _, _, _, _⟩ := x2
                      simp only at d0 hdu e0
                      have H2 := Lib.hid (And.intro hbe (And.intro hnw hdu)); clear hbe hnw hdu hcr hrd3 hx2 hra hc2
                      clear hc3 d0 e0
                      go_wp2
                      go_quiet (fail)
                      go_wp2
                      go_roundg (gk - 1)
                      case measure => omega
                      case rel => exact ⟨j + 1, by omega, by go_num, rfl, below_drewN H2.out.1 _, hsz, H2.out.2.1⟩
                    · have e3 := cells_at hnw 3 _ rfl
                      have e4 := cells_at hnw 4 _ rfl
                      have e5 := cells_at hnw 5 _ rfl
                      have e6 := cells_at hnw 6 _ rfl
                      have hjq2 : j = q := by omega
                      subst hjq2
                      have H2 := Lib.hid hbe; clear hbe hnw hc2 hc3
                      by_cases hm0 : md = 0
                      · subst hm0
                        have hbad : actCode R ls = 1 := Hj.out.2.2.1 (.inl ⟨_, HQ.out.2.2.2.2.2.1, fun h => absurd (show decide ((1 : Int) ≤ kd ∧ kd ≤ 100) = true from decide_eq_true h.1) (by rw [HK.out]; decide)⟩)
                        have Hb := Lib.hid hbad; clear hbad
                        go_wp2
                        go_ret
                        exact ⟨retInt Hb.out.symm, Hj.out.2.2.2.2.1.trans (H2.out.mono hz)⟩
                      · have hbad : actCode R ls = 1 := Hj.out.2.2.1 (.inl ⟨_, HQ.out.2.2.2.2.2.1, fun h => absurd (show decide ((1 : Int) ≤ kd ∧ kd ≤ 100) = true from decide_eq_true h.1) (by rw [HK.out]; decide)⟩)
                        have Hb := Lib.hid hbad; clear hbad
                        go_wp2
                        go_ret
                        exact ⟨retInt Hb.out.symm, Hj.out.2.2.2.2.1.trans (H2.out.mono hz)⟩
                | true =>
                  rcases Int.lt_or_le md 0 with hmn | hmn
                  · go_wp2_with (go_at_call 54; refine (between_b kd 1 100 _ _ HK.out).mono ?_; rintro e w2 ⟨rfl, rfl⟩)
                    clear d0 d1 d2 d3 d4 d5 d6
                    go_loopg [11, 12] q (fun gk bv i wr => ∃ (j : Nat), gk + j = q ∧ i = .int .i64 j ∧ bv = .bool (true) ∧ RowKit.Below wo.heap.size wo wr ∧ wq.heap.size < wr.heap.size ∧ wr.heap[wq.heap.size]? = some (.cells #[.int .i64 kd, .int .i64 ti, .int .i64 pl, .int .i64 md, .int .i64 sd, .int .i64 dt, .int .i64 af] 54 (0, 0)))
                    case atStart => exact ⟨0, by omega, rfl, by first | rfl | (simp [dupB]; done) | (simp [dupB]; omega), HQ.out.2.2.2.2.2.2.1, by simp, HQ.out.2.2.2.2.2.2.2⟩
                    case round =>
                      obtain ⟨j, hgj, rfl, rfl, hbe, hsz, hnw⟩ := hrel
                      have hc3 := (hbe.cell (p := ⟨ob, oo + k, none⟩) (show ob < wo.heap.size by omega)).trans c0
                      by_cases hjq : j < q
                      · have hjl : j < rs.length := by omega
                        have hrd3 := Hj.out.2.2.2.2.2.below (hbe.mono (Nat.le_trans hB hz))
                        obtain ⟨rb', ro', hra, hrb3, hcr⟩ := rd_flat (f := cellsRu) (s := 7) (by decide) (fun _ => rfl) hrd3 hjl
                        obtain ⟨rfl, rfl⟩ : rb = rb' ∧ ro = ro' := by simp only [Option.some.injEq, Addr.mk.injEq] at hra; exact ⟨hra.1, hra.2.1⟩
                        have d0 := hcr 0 _ rfl
                        rw [Nat.add_zero] at d0
                        have e0 := cells_at hnw 0 _ rfl
                        have hdu := dupB_succ (kd := kd) hjl
                        obtain ⟨x2, hx2⟩ : ∃ x2, rs[j] = x2 := ⟨_, rfl⟩
                        rw [hx2] at d0 hdu
                        obtain ⟨k2, _, _, _, _, _, _⟩ := x2
                        simp only at d0 hdu e0
                        have H2 := Lib.hid (And.intro hbe (And.intro hnw hdu)); clear hbe hnw hdu hcr hrd3 hx2 hra hc2
                        clear hc3 d0 e0
                        go_wp2
                        go_quiet (fail)
                        go_wp2
                        go_roundg (gk - 1)
                        case measure => omega
                        case rel => exact ⟨j + 1, by omega, by go_num, rfl, below_drewN H2.out.1 _, hsz, H2.out.2.1⟩
                      · have e3 := cells_at hnw 3 _ rfl
                        have e4 := cells_at hnw 4 _ rfl
                        have e5 := cells_at hnw 5 _ rfl
                        have e6 := cells_at hnw 6 _ rfl
                        have hjq2 : j = q := by omega
                        subst hjq2
                        have H2 := Lib.hid hbe; clear hbe hnw hc2 hc3
                        have hm0 : ¬ md = 0 := by omega
                        have hbad : actCode R ls = 1 := Hj.out.2.2.1 (.inl ⟨_, HQ.out.2.2.2.2.2.1, fun h => absurd h.2.1 (by simp only; omega)⟩)
                        have Hb := Lib.hid hbad; clear hbad
                        go_wp2
                        go_ret
                        exact ⟨retInt Hb.out.symm, Hj.out.2.2.2.2.1.trans (H2.out.mono hz)⟩
                  · go_wp2_with (go_at_call 54; refine (between_b kd 1 100 _ _ HK.out).mono ?_; rintro e w2 ⟨rfl, rfl⟩)
                    clear d0 d1 d2 d3 d4 d5 d6
                    go_loopg [11, 12] q (fun gk bv i wr => ∃ (j : Nat), gk + j = q ∧ i = .int .i64 j ∧ bv = .bool (dupB rs kd j) ∧ RowKit.Below wo.heap.size wo wr ∧ wq.heap.size < wr.heap.size ∧ wr.heap[wq.heap.size]? = some (.cells #[.int .i64 kd, .int .i64 ti, .int .i64 pl, .int .i64 md, .int .i64 sd, .int .i64 dt, .int .i64 af] 54 (0, 0)))
                    case atStart => exact ⟨0, by omega, rfl, by first | rfl | (simp [dupB]; done) | (simp [dupB]; omega), HQ.out.2.2.2.2.2.2.1, by simp, HQ.out.2.2.2.2.2.2.2⟩
                    case round =>
                      obtain ⟨j, hgj, rfl, rfl, hbe, hsz, hnw⟩ := hrel
                      have hc3 := (hbe.cell (p := ⟨ob, oo + k, none⟩) (show ob < wo.heap.size by omega)).trans c0
                      by_cases hjq : j < q
                      · have hjl : j < rs.length := by omega
                        have hrd3 := Hj.out.2.2.2.2.2.below (hbe.mono (Nat.le_trans hB hz))
                        obtain ⟨rb', ro', hra, hrb3, hcr⟩ := rd_flat (f := cellsRu) (s := 7) (by decide) (fun _ => rfl) hrd3 hjl
                        obtain ⟨rfl, rfl⟩ : rb = rb' ∧ ro = ro' := by simp only [Option.some.injEq, Addr.mk.injEq] at hra; exact ⟨hra.1, hra.2.1⟩
                        have d0 := hcr 0 _ rfl
                        rw [Nat.add_zero] at d0
                        have e0 := cells_at hnw 0 _ rfl
                        have hdu := dupB_succ (kd := kd) hjl
                        obtain ⟨x2, hx2⟩ : ∃ x2, rs[j] = x2 := ⟨_, rfl⟩
                        rw [hx2] at d0 hdu
                        obtain ⟨k2, _, _, _, _, _, _⟩ := x2
                        simp only at d0 hdu e0
                        have H2 := Lib.hid (And.intro hbe (And.intro hnw hdu)); clear hbe hnw hdu hcr hrd3 hx2 hra hc2
                        obtain ⟨bb, hbb⟩ : ∃ bb, dupB rs kd j = bb := ⟨_, rfl⟩
                        rw [hbb]
                        have Hbb := Lib.hid hbb; clear hbb
                        cases bb
                        all_goals
                          go_wp2
                          go_quiet (fail)
                          go_wp2
                          go_roundg (gk - 1)
                          case measure => omega
                          case rel => exact ⟨j + 1, by omega, by go_num, by rw [H2.out.2.2, Hbb.out]; rfl, below_drewN H2.out.1 _, hsz, H2.out.2.1⟩
                      · have e3 := cells_at hnw 3 _ rfl
                        have e4 := cells_at hnw 4 _ rfl
                        have e5 := cells_at hnw 5 _ rfl
                        have e6 := cells_at hnw 6 _ rfl
                        have hjq2 : j = q := by omega
                        subst hjq2
                        have H2 := Lib.hid hbe; clear hbe hnw hc2 hc3
                        obtain ⟨bb, hbb⟩ : ∃ bb, dupB rs kd j = bb := ⟨_, rfl⟩
                        rw [hbb]
                        cases bb with
                        | true =>
                          have hmem := dupB_iff.1 hbb
                          clear hbb
                          by_cases hm0 : md = 0
                          · subst hm0
                            have hbad : actCode R ls = 1 := Hj.out.2.2.1 (.inr (HQ.out.2.2.1 hmem))
                            have Hb := Lib.hid hbad; clear hbad
                            clear hmem; go_wp2
                            go_ret
                            exact ⟨retInt Hb.out.symm, Hj.out.2.2.2.2.1.trans (H2.out.mono hz)⟩
                          · have hbad : actCode R ls = 1 := Hj.out.2.2.1 (.inr (HQ.out.2.2.1 hmem))
                            have Hb := Lib.hid hbad; clear hbad
                            clear hmem; go_wp2
                            go_ret
                            exact ⟨retInt Hb.out.symm, Hj.out.2.2.2.2.1.trans (H2.out.mono hz)⟩
                        | false =>
                          have hnm : kd ∉ (rs.take j).map (·.kind) := fun h => by rw [dupB_iff.2 h] at hbb; exact absurd hbb (by decide)
                          have HN := Lib.hid hnm; clear hnm hbb
                          by_cases hm0 : md = 0
                          · subst hm0
                            by_cases zsd : sd = 0
                            rotate_left
                            · have hbad : actCode R ls = 1 := Hj.out.2.2.1 (.inl ⟨_, HQ.out.2.2.2.2.2.1, fun h => by obtain ⟨_, _, h⟩ := h; simp only at h; omega⟩)
                              have Hb := Lib.hid hbad; clear hbad
                              go_wp2
                              go_ret
                              exact ⟨retInt Hb.out.symm, Hj.out.2.2.2.2.1.trans (H2.out.mono hz)⟩
                            subst zsd
                            by_cases zdt : dt = 0
                            rotate_left
                            · have hbad : actCode R ls = 1 := Hj.out.2.2.1 (.inl ⟨_, HQ.out.2.2.2.2.2.1, fun h => by obtain ⟨_, _, h⟩ := h; simp only at h; omega⟩)
                              have Hb := Lib.hid hbad; clear hbad
                              go_wp2
                              go_ret
                              exact ⟨retInt Hb.out.symm, Hj.out.2.2.2.2.1.trans (H2.out.mono hz)⟩
                            subst zdt
                            by_cases zaf : af = 0
                            rotate_left
                            · have hbad : actCode R ls = 1 := Hj.out.2.2.1 (.inl ⟨_, HQ.out.2.2.2.2.2.1, fun h => by obtain ⟨_, _, h⟩ := h; simp only at h; omega⟩)
                              have Hb := Lib.hid hbad; clear hbad
                              go_wp2
                              go_ret
                              exact ⟨retInt Hb.out.symm, Hj.out.2.2.2.2.1.trans (H2.out.mono hz)⟩
                            subst zaf
                            have hro : ruleOk n ⟨kd, ti, pl, 0, 0, 0, 0⟩ := ⟨of_decide_eq_true HK.out, by simp only; omega, .inl ⟨rfl, rfl, rfl, rfl⟩⟩
                            have HG := Lib.hid hro; clear hro
                            go_wp2
                            go_roundg (gq - 1)
                            case measure => omega
                            case rel =>
                              refine ⟨j + 1, by omega, by go_num, H2.out, HQ.out.2.1 HN.out, fun m' hm' hmq => ?_⟩
                              by_cases e : m' = j
                              · subst e; rw [HQ.out.1]; exact HG.out
                              · exact HQ.out.2.2.2.1 m' hm' (by omega)
                          · obtain ⟨b2, hb2⟩ : ∃ b, decide ((1 : Int) ≤ sd ∧ sd ≤ 100) = b := ⟨_, rfl⟩
                            obtain ⟨b3, hb3⟩ : ∃ b, decide ((0 : Int) ≤ dt ∧ dt ≤ (n : Int) - 1) = b := ⟨_, rfl⟩
                            obtain ⟨b4, hb4⟩ : ∃ b, decide ((1 : Int) ≤ af ∧ af ≤ 1000) = b := ⟨_, rfl⟩
                            have hro : ruleOk n ⟨kd, ti, pl, md, sd, dt, af⟩ ↔ b2 = true ∧ b3 = true ∧ b4 = true := by
                              have := of_decide_eq_true HK.out
                              rw [← hb2, ← hb3, ← hb4]
                              simp only [decide_eq_true_eq, ruleOk, kindOk]
                              omega
                            have K2 := Lib.hid hb2; have K3 := Lib.hid hb3; have K4 := Lib.hid hb4; have HO := Lib.hid hro
                            clear hb2 hb3 hb4 hro
                            cases b2 with
                            | false =>
                              have hbad : actCode R ls = 1 := Hj.out.2.2.1 (.inl ⟨_, HQ.out.2.2.2.2.2.1, fun h => absurd (HO.out.1 h) (by simp)⟩)
                              have Hb := Lib.hid hbad; clear hbad
                              have mk1 : Nat := 0; have mk2 : Nat := 0; go_wp2_with (first | (clear mk1; go_at_call 54; refine (between_b sd 1 100 _ _ K2.out).mono ?_; rintro e w2 ⟨rfl, rfl⟩) | (clear mk2; go_at_call 54; refine (between_b dt 0 ((n : Int) - 1) _ _ K3.out).mono ?_; rintro e w2 ⟨rfl, rfl⟩) | (go_at_call 54; refine (between_b af 1 1000 _ _ K4.out).mono ?_; rintro e w2 ⟨rfl, rfl⟩))
                              go_ret
                              exact ⟨retInt Hb.out.symm, Hj.out.2.2.2.2.1.trans (H2.out.mono hz)⟩
                            | true =>
                            cases b3 with
                            | false =>
                              have hbad : actCode R ls = 1 := Hj.out.2.2.1 (.inl ⟨_, HQ.out.2.2.2.2.2.1, fun h => absurd (HO.out.1 h) (by simp)⟩)
                              have Hb := Lib.hid hbad; clear hbad
                              have mk1 : Nat := 0; have mk2 : Nat := 0; go_wp2_with (first | (clear mk1; go_at_call 54; refine (between_b sd 1 100 _ _ K2.out).mono ?_; rintro e w2 ⟨rfl, rfl⟩) | (clear mk2; go_at_call 54; refine (between_b dt 0 ((n : Int) - 1) _ _ K3.out).mono ?_; rintro e w2 ⟨rfl, rfl⟩) | (go_at_call 54; refine (between_b af 1 1000 _ _ K4.out).mono ?_; rintro e w2 ⟨rfl, rfl⟩))
                              go_ret
                              exact ⟨retInt Hb.out.symm, Hj.out.2.2.2.2.1.trans (H2.out.mono hz)⟩
                            | true =>
                            cases b4 with
                            | false =>
                              have hbad : actCode R ls = 1 := Hj.out.2.2.1 (.inl ⟨_, HQ.out.2.2.2.2.2.1, fun h => absurd (HO.out.1 h) (by simp)⟩)
                              have Hb := Lib.hid hbad; clear hbad
                              have mk1 : Nat := 0; have mk2 : Nat := 0; go_wp2_with (first | (clear mk1; go_at_call 54; refine (between_b sd 1 100 _ _ K2.out).mono ?_; rintro e w2 ⟨rfl, rfl⟩) | (clear mk2; go_at_call 54; refine (between_b dt 0 ((n : Int) - 1) _ _ K3.out).mono ?_; rintro e w2 ⟨rfl, rfl⟩) | (go_at_call 54; refine (between_b af 1 1000 _ _ K4.out).mono ?_; rintro e w2 ⟨rfl, rfl⟩))
                              go_ret
                              exact ⟨retInt Hb.out.symm, Hj.out.2.2.2.2.1.trans (H2.out.mono hz)⟩
                            | true =>
                              have hro : ruleOk n ⟨kd, ti, pl, md, sd, dt, af⟩ := HO.out.2 ⟨rfl, rfl, rfl⟩
                              have HG := Lib.hid hro; clear hro
                              have mk1 : Nat := 0; have mk2 : Nat := 0; go_wp2_with (first | (clear mk1; go_at_call 54; refine (between_b sd 1 100 _ _ K2.out).mono ?_; rintro e w2 ⟨rfl, rfl⟩) | (clear mk2; go_at_call 54; refine (between_b dt 0 ((n : Int) - 1) _ _ K3.out).mono ?_; rintro e w2 ⟨rfl, rfl⟩) | (go_at_call 54; refine (between_b af 1 1000 _ _ K4.out).mono ?_; rintro e w2 ⟨rfl, rfl⟩))
                              go_roundg (gq - 1)
                              case measure => omega
                              case rel =>
                                refine ⟨j + 1, by omega, by go_num, H2.out, HQ.out.2.1 HN.out, fun m' hm' hmq => ?_⟩
                                by_cases e : m' = j
                                · subst e; rw [HQ.out.1]; exact HG.out
                                · exact HQ.out.2.2.2.1 m' hm' (by omega)
              · have hqe : q = rs.length := by omega
                subst hqe
                have hnb : ¬ rulesBad n rs := by
                  rintro (⟨r, hr, hb⟩ | hb)
                  · obtain ⟨q', hq', rfl⟩ := List.getElem_of_mem hr
                    exact hb (hin q' hq' hq')
                  · rw [List.take_length] at hnd
                    exact hb hnd
                have Hnb := Lib.hid (And.intro hnb hbe); clear hnb hin hnd hbe
                obtain ⟨lg2, hlg2, hl3⟩ := Hj.out.2.1
                have HL2 := Lib.hid hlg2; clear hlg2
                rcases hl3 with ⟨h1, rfl⟩ | ⟨h1, h2, rfl⟩ | ⟨h1, h2, rfl⟩
                all_goals
                  go_wp2
                  go_roundg (go - 1)
                  case measure => omega
                  case rel =>
                    refine ⟨k + 1, by omega, by go_num, by rw [HL2.out], Hj.out.2.2.2.2.1.trans (Hnb.out.2.mono hz), fun q hq hqk => ?_⟩
                    by_cases e : q = k
                    · subst e; rw [Hj.out.1]; exact Hnb.out.1
                    · exact Hj.out.2.2.2.1 q hq (by omega)
          · have hkn : k = R.length := by have := Hn.out; omega
            have hend := actCode_end (R := R) (ls := ls) (fun q h => by rw [Hn.out]; exact Hok.out q h) (fun q h => by rw [Hn.out]; exact hrk q h (by omega))
            rw [← lgB_end, ← hkn] at hend
            have Hend := Lib.hid (And.intro hend hbel); clear hend hrk hbel
            obtain ⟨lg, hlg⟩ : ∃ lg, lgI (lgB R ls.length k) = lg := ⟨_, rfl⟩
            rw [hlg]
            have Hlg := Lib.hid hlg; clear hlg
            go_wp2
            go_ret
            exact ⟨retInt (by rw [Hend.out.1, ← Hlg.out]; rfl), Hend.out.2⟩
end Go.Proofs.Yticdjkkcfdbdcaa
