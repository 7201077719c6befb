/- The contract of phase.Check. No conditions but that what is read is there. -/
import Derived.Test.YticdjkkcfdbdcaaPhD
namespace Go.Proofs.Yticdjkkcfdbdcaa
open Go.ChangeShapes Go.WideShapes Go.ChangeAt Go.RowKit
def lgD (D : List DosR) (k : Nat) : Bool := decide (200 < D.length) || (D.take k).any fun l => decide (1000 < l.ds.length)
def Large (D : List DosR) : Prop := 200 < D.length ∨ ∃ l ∈ D, 1000 < l.ds.length
theorem lgD_zero (D : List DosR) : lgD D 0 = decide (200 < D.length) := by simp [lgD]
theorem lgD_succ {D : List DosR} {k : Nat} (hk : k < D.length) : lgD D (k + 1) = (lgD D k || decide (1000 < D[k].ds.length)) := by
  simp only [lgD, List.take_succ_eq_append_getElem hk, List.any_append, List.any_cons, List.any_nil, Bool.or_false, Bool.or_assoc]
theorem lgD_full {D : List DosR} {k : Nat} (hk : D.length ≤ k) : lgD D k = true ↔ Large D := by
  rw [lgD, List.take_of_length_le hk]; simp [Large]
open Classical in
/-- What is wrong with processes. -/
noncomputable def dosCode (D : List DosR) : Int := if ∃ l ∈ D, ∃ d ∈ l.ds, ¬ okDo D.length d then 1 else if Large D then 2 else 0
theorem dosCode_one {D : List DosR} {k j : Nat} (hk : k < D.length) (hj : j < D[k].ds.length) (h : ¬ okDo D.length D[k].ds[j]) : dosCode D = 1 := if_pos ⟨_, List.getElem_mem hk, _, List.getElem_mem hj, h⟩
theorem dosCode_end {D : List DosR} (h : ∀ (k : Nat) (hk : k < D.length), ∀ d ∈ D[k].ds, okDo D.length d) : dosCode D = if lgD D D.length = true then 2 else 0 := by
  unfold dosCode
  rw [if_neg]
  · by_cases hl : Large D
    · rw [if_pos hl, if_pos ((lgD_full (Nat.le_refl _)).2 hl)]
    · rw [if_neg hl, if_neg fun x => hl ((lgD_full (Nat.le_refl _)).1 x)]
  · rintro ⟨l, hl, d, hd, hn⟩
    obtain ⟨k, hk, rfl⟩ := List.getElem_of_mem hl
    exact hn (h k hk d hd)
theorem dec_castD (n m : Nat) : decide ((m : Int) < (n : Int)) = decide (m < n) := by
  by_cases h : m < n
  · rw [decide_eq_true h, decide_eq_true (by omega)]
  · rw [decide_eq_false h, decide_eq_false (by omega)]
set_option maxRecDepth 100000 in
set_option maxHeartbeats 2000000 in
theorem phcheck_any (w : World) (B : Nat) (A : Option Addr) (c n : Nat) (D : List DosR) (hR : RdAll w B A D) (hB : B ≤ w.heap.size) (hn : D.length = n) :
    Calls Try.prog 18 #[.slice A n c] w fun e w' => e = .returned (.int .i64 (dosCode D)) ∧ Below w.heap.size w w' := by
  have hfit : n ≤ 140737488351232 := hn ▸ hR.fits
  have hl0 := lgD_zero D
  rw [hn] at hl0
  have Hl0 := Lib.hid hl0; clear hl0
  have Hn := Lib.hid hn; clear hn
  have HR := Lib.hid hR; clear hR
  go_enter Try.func18, Try.ntmps18
  go_wp2
  go_loopg [3, 13] n (fun gk lg i wr => ∃ (k : Nat), gk + k = n ∧ i = .int .i64 k ∧ lg = .bool (lgD D k) ∧ Below w.heap.size w wr ∧ ∀ (m : Nat) (h : m < D.length), m < k → ∀ d ∈ D[m].ds, okDo n d)
  case atStart => exact ⟨0, by omega, rfl, by rw [Hl0.out]; congr 1; exact dec_castD n 200, Below.refl _ _, fun m _ h => absurd h (by omega)⟩
  case round =>
    obtain ⟨k, hgk, rfl, rfl, hbel, hok⟩ := hrel
    by_cases hlt : k < n
    · have hkD : k < D.length := by have := Hn.out; omega
      have hRw := HR.out.below (hbel.mono hB)
      obtain ⟨ob, oo, rfl, hob, c0⟩ := hRw.at_ hkD
      have hrd := hRw.each k hkD
      have hsm := hRw.small k hkD
      have hls := lgD_succ hkD
      obtain ⟨j, hj⟩ : ∃ j, D[k] = j := ⟨_, rfl⟩
      rw [hj] at c0 hrd hsm hls
      obtain ⟨jA, jc, jd⟩ := j
      dsimp only at c0 hrd hsm hls
      unfold Fits at hsm
      have hz := hbel.size
      have Hj := Lib.hid hj; clear hj
      have Hok := Lib.hid hok; clear hok
      have Hbel := Lib.hid hbel; clear hbel
      have Hrd := Lib.hid hrd; clear hrd
      have Hls := Lib.hid hls; clear hls
      clear hRw
      obtain ⟨lg, hlg⟩ : ∃ lg, lgD D k = lg := ⟨_, rfl⟩
      rw [hlg]
      have Hlg := Lib.hid hlg; clear hlg
      cases lg
      all_goals
        go_wp2
        obtain ⟨wo, rfl⟩ : ∃ wo : World, wo = wr := ⟨_, rfl⟩
        obtain ⟨go, rfl⟩ : ∃ go : Nat, go = gk := ⟨_, rfl⟩
        go_loopg [25] jd.length (fun gk i wr => ∃ (q : Nat), gk + q = jd.length ∧ i = .int .i64 q ∧ Below wo.heap.size wo wr ∧ ∀ (m : Nat) (h : m < jd.length), m < q → okDo n jd[m])
        case atStart => exact ⟨0, by omega, rfl, Below.refl _ _, fun m _ h => absurd h (by omega)⟩
        case round =>
          obtain ⟨q, hgq, rfl, hbe, hin⟩ := hrel
          by_cases hq : q < jd.length
          · have hrd2 := Hrd.out.below (hbe.mono (Nat.le_trans hB hz))
            obtain ⟨ab, ao, rfl, hab, ca, cb, cc⟩ := hrd2.at_ hq
            obtain ⟨x, hx⟩ : ∃ x, jd[q] = x := ⟨_, rfl⟩
            rw [hx] at ca cb cc
            obtain ⟨kd, dst, nn⟩ := x
            dsimp only at ca cb cc
            have hz2 := hbe.size
            have Hx := Lib.hid hx; clear hx
            have Hin := Lib.hid hin; clear hin
            have Hbe := Lib.hid hbe; clear hbe
            clear hrd2
            have hfo : ∀ W r, decide (okDo n ⟨kd, dst, nn⟩) = r → Calls Try.prog 53 #[.agg #[.int .i64 kd, .int .i64 dst, .int .i64 nn], .int .i64 n] W fun e w' => e = .returned (.bool r) ∧ Below W.heap.size W w' := fun W r h => formed_b W n ⟨kd, dst, nn⟩ r h
            have Hfo := Lib.hid hfo; clear hfo
            by_cases hi : okDo n ⟨kd, dst, nn⟩
            · have hi1 : decide (okDo n ⟨kd, dst, nn⟩) = true := decide_eq_true hi
              have Hi := Lib.hid (And.intro hi hi1); clear hi hi1
              go_wp2_with (go_at_call 53; refine (Hfo.out _ true Hi.out.2).mono ?_; rintro e w2 ⟨rfl, hb2⟩; have hb3 := Lib.hid hb2; clear hb2)
              go_roundg (gk - 1)
              case measure => omega
              case rel =>
                refine ⟨q + 1, by omega, by go_num, (Hbe.out.alloc hz2 _).trans (hb3.out.mono (by simp; omega)), fun m hm hmq => ?_⟩
                by_cases e : m = q
                · subst e; rw [Hx.out]; exact Hi.out.1
                · exact Hin.out m hm (by omega)
            · have hi1 : decide (okDo n ⟨kd, dst, nn⟩) = false := decide_eq_false hi
              have hbad : dosCode D = 1 := dosCode_one hkD (j := q) (by rw [Hj.out]; exact hq) (by simp only [Hj.out, Hx.out, Hn.out]; exact hi)
              have Hi := Lib.hid (And.intro hbad hi1); clear hi hi1 hbad
              go_wp2_with (go_at_call 53; refine (Hfo.out _ false Hi.out.2).mono ?_; rintro e w2 ⟨rfl, hb2⟩; have hb3 := Lib.hid hb2; clear hb2)
              go_ret
              exact ⟨retInt Hi.out.1.symm, Hbel.out.trans (((Hbe.out.alloc hz2 _).trans (hb3.out.mono (by simp; omega))).mono hz)⟩
          · have hok2 : ∀ d ∈ D[k].ds, okDo n d := by
              rw [Hj.out]
              intro d hd
              obtain ⟨q', hq', rfl⟩ := List.getElem_of_mem hd
              exact hin q' hq' (by dsimp only at hq'; omega)
            have Hok2 := Lib.hid hok2; clear hok2 hin
            have Hbe := Lib.hid hbe; clear hbe
            go_wp2
            go_roundg (go - 1)
            case measure => omega
            case rel =>
              refine ⟨k + 1, by omega, by go_num, ?_, Hbel.out.trans (Hbe.out.mono hz), fun m hm hmk => ?_⟩
              · rw [Hls.out, Hlg.out]; simp <;> omega
              · by_cases e : m = k
                · subst e; exact Hok2.out
                · exact Hok.out m hm (by omega)
    · have hkn : k = D.length := by have := Hn.out; omega
      have hend := dosCode_end (D := D) (fun m hm => by rw [Hn.out]; exact hok m hm (by omega))
      rw [← hkn] at hend
      have Hend := Lib.hid hend; clear hend hok
      have Hbel := Lib.hid hbel; clear hbel
      obtain ⟨lg, hlg⟩ : ∃ lg, lgD D k = lg := ⟨_, rfl⟩
      rw [hlg]
      have Hlg := Lib.hid hlg; clear hlg
      cases lg
      all_goals
        go_wp2
        go_ret
        exact ⟨retInt (by rw [Hend.out, Hlg.out]; rfl), Hbel.out⟩
end Go.Proofs.Yticdjkkcfdbdcaa
