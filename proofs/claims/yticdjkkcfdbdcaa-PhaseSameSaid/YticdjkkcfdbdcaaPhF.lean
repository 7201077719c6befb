/- The contract of the reference's Dos. No conditions but that what is read is there. -/
import Derived.Test.YticdjkkcfdbdcaaPhE
namespace Go.Proofs.Yticdjkkcfdbdcaa
open Go.ChangeShapes Go.WideShapes Go.ChangeAt Go.RowKit
def lgI (b : Bool) : Int := if b then 2 else 0
set_option maxRecDepth 100000 in
set_option maxHeartbeats 4000000 in
theorem dos_any (w : World) (B : Nat) (A : Option Addr) (c n : Nat) (D : List DosR) (hR : RdAll w B A D) (hB : B ≤ w.heap.size) (hn : D.length = n) :
    Calls Try.prog 19 #[.slice A n c] w fun e w' => e = .returned (.int .i64 (dosCode D)) ∧ Below w.heap.size w w' := by
  have hfit : n ≤ 140737488351232 := hn ▸ hR.fits
  have hl0 := lgD_zero D
  rw [hn] at hl0
  have hl0' : lgD D 0 = decide ((200 : Int) < n) := by rw [hl0]; exact (dec_castD n 200).symm
  clear hl0
  have Hn := Lib.hid hn; clear hn
  have HR := Lib.hid hR; clear hR
  obtain ⟨b0, hb0⟩ : ∃ b, lgD D 0 = b := ⟨_, rfl⟩
  rw [hb0] at hl0'
  have Hl0 := Lib.hid hb0; clear hb0
  have hcase : (b0 = true ∧ (200 : Int) < n) ∨ (b0 = false ∧ ¬ (200 : Int) < n) := by
    by_cases h : (200 : Int) < n
    · rw [decide_eq_true h] at hl0'; exact .inl ⟨hl0', h⟩
    · rw [decide_eq_false h] at hl0'; exact .inr ⟨hl0', h⟩
  clear hl0'
  rcases hcase with ⟨rfl, h200⟩ | ⟨rfl, h200⟩
  all_goals
    go_enter Try.func19, Try.ntmps19
    go_wp2
    clear h200
    go_loopg [3, 4] n (fun gk lg i wr => ∃ (k : Nat), gk + k = n ∧ i = .int .i64 k ∧ lg = .int .i64 (lgI (lgD D k)) ∧ Below w.heap.size w wr ∧ ∀ (m : Nat) (h : m < D.length), m < k → ∀ d ∈ D[m].ds, okDo n d)
    case atStart => exact ⟨0, by omega, rfl, by rw [Hl0.out]; rfl, Below.refl _ _, fun m _ h => absurd h (by omega)⟩
    case round =>
      obtain ⟨k, hgk, rfl, rfl, hbel, hok⟩ := hrel
      by_cases hlt : k < n
      · have hkD : k < D.length := by have := Hn.out; omega
        have hRw := HR.out.below (hbel.mono hB)
        obtain ⟨ob, oo, rfl, hob, c0⟩ := hRw.at_ hkD
        have hrd := hRw.each k hkD
        have hsm := hRw.small k hkD
        have hls := lgD_succ hkD
        obtain ⟨j, hj⟩ : ∃ j, D[k] = j := ⟨_, rfl⟩
        rw [hj] at c0 hrd hsm hls
        obtain ⟨jA, jc, jd⟩ := j
        dsimp only at c0 hrd hsm hls
        unfold Fits at hsm
        have hz := hbel.size
        have Hj := Lib.hid hj; clear hj
        have Hok := Lib.hid hok; clear hok
        have Hbel := Lib.hid hbel; clear hbel
        have Hrd := Lib.hid hrd; clear hrd
        clear hRw
        obtain ⟨lg, hlg⟩ : ∃ lg, lgI (lgD D k) = lg := ⟨_, rfl⟩
        rw [hlg]
        have hl2 : (1000 < jd.length → lgI (lgD D (k + 1)) = 2) ∧ (¬ 1000 < jd.length → lgI (lgD D (k + 1)) = lg) := by
          rw [hls]
          constructor
          · intro h; simp [h, lgI]
          · intro h; rw [← hlg]; simp [h]
        clear hls hlg
        have hl3 : ∃ lg2, lgI (lgD D (k + 1)) = lg2 ∧ (((1000 : Int) < jd.length ∧ lg2 = 2) ∨ (¬ (1000 : Int) < jd.length ∧ lg2 = lg)) := by
          refine ⟨_, rfl, ?_⟩
          by_cases h : 1000 < jd.length
          · exact .inl ⟨by omega, hl2.1 h⟩
          · exact .inr ⟨by omega, hl2.2 h⟩
        obtain ⟨lg2, hlg2, hl3⟩ := hl3
        have Hlg2 := Lib.hid hlg2; clear hlg2 hl2
        rcases hl3 with ⟨hbig, rfl⟩ | ⟨hbig, rfl⟩
        all_goals
          go_wp2
          obtain ⟨wo, rfl⟩ : ∃ wo : World, wo = wr := ⟨_, rfl⟩
          obtain ⟨go, rfl⟩ : ∃ go : Nat, go = gk := ⟨_, rfl⟩
          go_loopg [5] jd.length (fun gk i wr => ∃ (q : Nat), gk + q = jd.length ∧ i = .int .i64 q ∧ Below wo.heap.size wo wr ∧ ∀ (m : Nat) (h : m < jd.length), m < q → okDo n jd[m])
          case atStart => exact ⟨0, by omega, rfl, Below.refl _ _, fun m _ h => absurd h (by omega)⟩
          case round =>
            obtain ⟨q, hgq, rfl, hbe, hin⟩ := hrel
            have hbob : ob < wo.heap.size := by omega
            have hc2 := (hbe.cell (p := ⟨ob, oo + k, none⟩) hbob).trans c0
            by_cases hq : q < jd.length
            · have hrd2 := Hrd.out.below (hbe.mono (Nat.le_trans hB hz))
              obtain ⟨ab, ao, rfl, hab, ca, cb, cc⟩ := hrd2.at_ hq
              obtain ⟨x, hx⟩ : ∃ x, jd[q] = x := ⟨_, rfl⟩
              rw [hx] at ca cb cc
              obtain ⟨kd, dst, nn⟩ := x
              dsimp only at ca cb cc
              have hz2 := hbe.size
              have Hx := Lib.hid hx; clear hx
              have Hin := Lib.hid hin; clear hin
              have hba := hbe.alloc hz2 (.cells #[.int .i64 kd, .int .i64 dst, .int .i64 nn] 31)
              have Hba := Lib.hid hba; clear hba hbe
              clear hrd2
              rcases Int.lt_or_le kd 1 with k1 | k1
              · have hbad : dosCode D = 1 := dosCode_one hkD (j := q) (by rw [Hj.out]; exact hq) (by simp only [Hj.out, Hx.out, Hn.out]; unfold okDo; dsimp only; omega)
                have Hbad := Lib.hid hbad; clear hbad
                have h1 : decide ((1 : Int) ≤ kd ∧ (kd : Int) ≤ 4) = false := by first | (simp; omega) | decide
                have H1 := Lib.hid h1; clear h1
                go_wp2_with (go_at_call 54; refine (between_b _ 1 4 false _ H1.out).mono ?_; rintro e w2 ⟨rfl, rfl⟩)
                go_ret
                exact ⟨retInt Hbad.out.symm, Hbel.out.trans (Hba.out.mono hz)⟩
              rcases Int.lt_or_le 4 kd with k4 | k4
              · have hbad : dosCode D = 1 := dosCode_one hkD (j := q) (by rw [Hj.out]; exact hq) (by simp only [Hj.out, Hx.out, Hn.out]; unfold okDo; dsimp only; omega)
                have Hbad := Lib.hid hbad; clear hbad
                have h1 : decide ((1 : Int) ≤ kd ∧ (kd : Int) ≤ 4) = false := by first | (simp; omega) | decide
                have H1 := Lib.hid h1; clear h1
                go_wp2_with (go_at_call 54; refine (between_b _ 1 4 false _ H1.out).mono ?_; rintro e w2 ⟨rfl, rfl⟩)
                go_ret
                exact ⟨retInt Hbad.out.symm, Hbel.out.trans (Hba.out.mono hz)⟩
              by_cases k2 : kd = 2
              · subst k2
                rcases Int.lt_or_le dst 0 with d0 | d0
                · have hbad : dosCode D = 1 := dosCode_one hkD (j := q) (by rw [Hj.out]; exact hq) (by simp only [Hj.out, Hx.out, Hn.out]; unfold okDo; dsimp only; omega)
                  have Hbad := Lib.hid hbad; clear hbad
                  have h1 : decide ((1 : Int) ≤ 2 ∧ (2 : Int) ≤ 4) = true := by first | (simp; omega) | decide
                  have H1 := Lib.hid h1; clear h1
                  have h2 : decide ((0 : Int) ≤ dst ∧ (dst : Int) ≤ (n : Int) - 1) = false := by simp; omega
                  have H2 := Lib.hid h2; clear h2
                  have mk1 : Nat := 0
                  go_wp2_with (first | (clear mk1; go_at_call 54; refine (between_b _ 1 4 true _ H1.out).mono ?_; rintro e w2 ⟨rfl, rfl⟩) | (go_at_call 54; refine (between_b _ 0 ((n : Int) - 1) false _ H2.out).mono ?_; rintro e w2 ⟨rfl, rfl⟩))
                  go_ret
                  exact ⟨retInt Hbad.out.symm, Hbel.out.trans (Hba.out.mono hz)⟩
                rcases Int.lt_or_le dst n with dn | dn
                · have hi : okDo n ⟨2, dst, nn⟩ := by unfold okDo; dsimp only; omega
                  have Hi := Lib.hid hi; clear hi
                  have h1 : decide ((1 : Int) ≤ 2 ∧ (2 : Int) ≤ 4) = true := by first | (simp; omega) | decide
                  have H1 := Lib.hid h1; clear h1
                  have h2 : decide ((0 : Int) ≤ dst ∧ (dst : Int) ≤ (n : Int) - 1) = true := by simp; omega
                  have H2 := Lib.hid h2; clear h2
                  have mk1 : Nat := 0
                  go_wp2_with (first | (clear mk1; go_at_call 54; refine (between_b _ 1 4 true _ H1.out).mono ?_; rintro e w2 ⟨rfl, rfl⟩) | (go_at_call 54; refine (between_b _ 0 ((n : Int) - 1) true _ H2.out).mono ?_; rintro e w2 ⟨rfl, rfl⟩))
                  go_roundg (gk - 1)
                  case measure => omega
                  case rel =>
                    refine ⟨q + 1, by omega, by go_num, Hba.out, fun m hm hmq => ?_⟩
                    by_cases e : m = q
                    · subst e; rw [Hx.out]; exact Hi.out
                    · exact Hin.out m hm (by omega)
                · have hbad : dosCode D = 1 := dosCode_one hkD (j := q) (by rw [Hj.out]; exact hq) (by simp only [Hj.out, Hx.out, Hn.out]; unfold okDo; dsimp only; omega)
                  have Hbad := Lib.hid hbad; clear hbad
                  have h1 : decide ((1 : Int) ≤ 2 ∧ (2 : Int) ≤ 4) = true := by first | (simp; omega) | decide
                  have H1 := Lib.hid h1; clear h1
                  have h2 : decide ((0 : Int) ≤ dst ∧ (dst : Int) ≤ (n : Int) - 1) = false := by simp; omega
                  have H2 := Lib.hid h2; clear h2
                  have mk1 : Nat := 0
                  go_wp2_with (first | (clear mk1; go_at_call 54; refine (between_b _ 1 4 true _ H1.out).mono ?_; rintro e w2 ⟨rfl, rfl⟩) | (go_at_call 54; refine (between_b _ 0 ((n : Int) - 1) false _ H2.out).mono ?_; rintro e w2 ⟨rfl, rfl⟩))
                  go_ret
                  exact ⟨retInt Hbad.out.symm, Hbel.out.trans (Hba.out.mono hz)⟩
              by_cases d0 : dst = 0
              · subst d0
                by_cases k3 : 2 < kd
                · by_cases n0 : nn = 0
                  · subst n0
                    have hi : okDo n ⟨kd, 0, 0⟩ := by unfold okDo; dsimp only; omega
                    have Hi := Lib.hid hi; clear hi
                    have h1 : decide ((1 : Int) ≤ kd ∧ (kd : Int) ≤ 4) = true := by first | (simp; omega) | decide
                    have H1 := Lib.hid h1; clear h1
                    have h2 : decide ((0 : Int) ≤ 0 ∧ (0 : Int) ≤ (n : Int) - 1) = true := by simp; omega
                    have H2 := Lib.hid h2; clear h2
                    have mk1 : Nat := 0
                    go_wp2_with (first | (clear mk1; go_at_call 54; refine (between_b _ 1 4 true _ H1.out).mono ?_; rintro e w2 ⟨rfl, rfl⟩) | (go_at_call 54; refine (between_b _ 0 ((n : Int) - 1) true _ H2.out).mono ?_; rintro e w2 ⟨rfl, rfl⟩))
                    go_roundg (gk - 1)
                    case measure => omega
                    case rel =>
                      refine ⟨q + 1, by omega, by go_num, Hba.out, fun m hm hmq => ?_⟩
                      by_cases e : m = q
                      · subst e; rw [Hx.out]; exact Hi.out
                      · exact Hin.out m hm (by omega)
                  · have hbad : dosCode D = 1 := dosCode_one hkD (j := q) (by rw [Hj.out]; exact hq) (by simp only [Hj.out, Hx.out, Hn.out]; unfold okDo; dsimp only; omega)
                    have Hbad := Lib.hid hbad; clear hbad
                    have h1 : decide ((1 : Int) ≤ kd ∧ (kd : Int) ≤ 4) = true := by first | (simp; omega) | decide
                    have H1 := Lib.hid h1; clear h1
                    go_wp2_with (go_at_call 54; refine (between_b _ 1 4 true _ H1.out).mono ?_; rintro e w2 ⟨rfl, rfl⟩)
                    go_ret
                    exact ⟨retInt Hbad.out.symm, Hbel.out.trans (Hba.out.mono hz)⟩
                · have hi : okDo n ⟨kd, 0, nn⟩ := by unfold okDo; dsimp only; omega
                  have Hi := Lib.hid hi; clear hi
                  have h1 : decide ((1 : Int) ≤ kd ∧ (kd : Int) ≤ 4) = true := by first | (simp; omega) | decide
                  have H1 := Lib.hid h1; clear h1
                  have h2 : decide ((0 : Int) ≤ 0 ∧ (0 : Int) ≤ (n : Int) - 1) = true := by simp; omega
                  have H2 := Lib.hid h2; clear h2
                  have mk1 : Nat := 0
                  go_wp2_with (first | (clear mk1; go_at_call 54; refine (between_b _ 1 4 true _ H1.out).mono ?_; rintro e w2 ⟨rfl, rfl⟩) | (go_at_call 54; refine (between_b _ 0 ((n : Int) - 1) true _ H2.out).mono ?_; rintro e w2 ⟨rfl, rfl⟩))
                  go_roundg (gk - 1)
                  case measure => omega
                  case rel =>
                    refine ⟨q + 1, by omega, by go_num, Hba.out, fun m hm hmq => ?_⟩
                    by_cases e : m = q
                    · subst e; rw [Hx.out]; exact Hi.out
                    · exact Hin.out m hm (by omega)
              · have hbad : dosCode D = 1 := dosCode_one hkD (j := q) (by rw [Hj.out]; exact hq) (by simp only [Hj.out, Hx.out, Hn.out]; unfold okDo; dsimp only; omega)
                have Hbad := Lib.hid hbad; clear hbad
                have h1 : decide ((1 : Int) ≤ kd ∧ (kd : Int) ≤ 4) = true := by first | (simp; omega) | decide
                have H1 := Lib.hid h1; clear h1
                go_wp2_with (go_at_call 54; refine (between_b _ 1 4 true _ H1.out).mono ?_; rintro e w2 ⟨rfl, rfl⟩)
                go_ret
                exact ⟨retInt Hbad.out.symm, Hbel.out.trans (Hba.out.mono hz)⟩
            · have hok2 : ∀ d ∈ D[k].ds, okDo n d := by
                rw [Hj.out]
                intro d hd
                obtain ⟨q', hq', rfl⟩ := List.getElem_of_mem hd
                exact hin q' hq' (by dsimp only at hq'; omega)
              have Hok2 := Lib.hid hok2; clear hok2 hin
              have Hbe := Lib.hid hbe; clear hbe
              go_wp2
              go_roundg (go - 1)
              case measure => omega
              case rel =>
                refine ⟨k + 1, by omega, by go_num, by rw [Hlg2.out], Hbel.out.trans (Hbe.out.mono hz), fun m hm hmk => ?_⟩
                by_cases e : m = k
                · subst e; exact Hok2.out
                · exact Hok.out m hm (by omega)
      · have hkn : k = D.length := by have := Hn.out; omega
        have hend := dosCode_end (D := D) (fun m hm => by rw [Hn.out]; exact hok m hm (by omega))
        rw [← hkn] at hend
        have hend2 : lgI (lgD D k) = dosCode D := by rw [hend]; rfl
        have Hend := Lib.hid hend2; clear hend hend2 hok
        have Hbel := Lib.hid hbel; clear hbel
        obtain ⟨lg, hlg⟩ : ∃ lg, lgI (lgD D k) = lg := ⟨_, rfl⟩
        rw [hlg]
        have Hlg := Lib.hid hlg; clear hlg
        go_wp2
        go_ret
        exact ⟨retInt (by rw [← Hend.out, Hlg.out]), Hbel.out⟩
end Go.Proofs.Yticdjkkcfdbdcaa
