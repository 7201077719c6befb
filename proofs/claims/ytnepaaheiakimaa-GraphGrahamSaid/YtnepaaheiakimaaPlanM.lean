/- Plans in plain Lean: time by time, who is free takes the most urgent job that is ready; between two events nothing comes to pass. No conditions. -/
import Derived.Test.YtnepaaheiakimaaGraphEnd
namespace Go.Proofs.Ytnepaaheiakimaa
open Go.ChangeShapes Go.WideShapes Go.ChangeAt Go.RowKit

def urgOf (J : List JobR) (k : Nat) : Int := ((J[k]?).map (·.urg)).getD 0
theorem urgOf_eq {J : List JobR} {k : Nat} (h : k < J.length) : urgOf J k = J[k].urg := by simp [urgOf, h]
def upd {α : Type} (f : Nat → α) (k : Nat) (x : α) : Nat → α := fun j => if j = k then x else f j
theorem upd_eq {α : Type} (f : Nat → α) (k : Nat) (x : α) : upd f k x k = x := by simp [upd]
theorem upd_ne {α : Type} {f : Nat → α} {k j : Nat} {x : α} (h : j ≠ k) : upd f k x j = f j := by simp [upd, h]
/-- A plan that is under way: who has begun, when, by whom; till when each worker works; the last end. -/
structure PS where
  begun : Nat → Bool
  beg : Nat → Int
  wkr : Nat → Int
  til : Nat → Int
  fin : Int
def PS.init : PS := ⟨fun _ => false, fun _ => 0, fun _ => 0, fun _ => 0, 0⟩
def endOf (J : List JobR) (S : PS) (i : Nat) : Int := S.beg i + lenOf J i
def over (J : List JobR) (S : PS) (t : Int) (i : Nat) : Bool := S.begun i && decide (endOf J S i ≤ t)
def rdy (J : List JobR) (begun ov : Nat → Bool) (i : Nat) : Bool := !begun i && (aft J i).all fun a => ov a.toNat
def bestTo (J : List JobR) (rd : Nat → Bool) : Nat → Int
  | 0 => -1
  | k + 1 => if rd k && (decide (bestTo J rd k < 0) || decide (urgOf J (bestTo J rd k).toNat < urgOf J k)) then (k : Int) else bestTo J rd k
def asg (J : List JobR) (t : Int) (w b : Nat) (S : PS) : PS :=
  ⟨upd S.begun b true, upd S.beg b t, upd S.wkr b w, upd S.til w (t + lenOf J b), max S.fin (t + lenOf J b)⟩
def stepW (J : List JobR) (t : Int) (ov : Nat → Bool) (S : PS) (w : Nat) : PS :=
  if t < S.til w then S else if bestTo J (rdy J S.begun ov) J.length < 0 then S else asg J t w (bestTo J (rdy J S.begun ov) J.length).toNat S
def phaseTo (J : List JobR) (t : Int) (ov : Nat → Bool) (S : PS) : Nat → PS
  | 0 => S
  | w + 1 => stepW J t ov (phaseTo J t ov S w) w
def phase (J : List JobR) (W : Nat) (t : Int) (S : PS) : PS := phaseTo J t (over J S t) S W
def Rn (J : List JobR) (W : Nat) : Nat → PS
  | 0 => .init
  | t + 1 => phase J W t (Rn J W t)

/-! ### The best -/
theorem bestTo_range (J : List JobR) (rd : Nat → Bool) : ∀ k, bestTo J rd k = -1 ∨ ∃ b : Nat, bestTo J rd k = b ∧ b < k ∧ rd b = true
  | 0 => .inl rfl
  | k + 1 => by
    simp only [bestTo]
    split
    · rename_i h
      simp only [Bool.and_eq_true] at h
      exact .inr ⟨k, rfl, by omega, h.1⟩
    · rcases bestTo_range J rd k with h | ⟨b, h1, h2, h3⟩
      · exact .inl h
      · exact .inr ⟨b, h1, by omega, h3⟩
theorem bestTo_none {J : List JobR} {rd : Nat → Bool} : ∀ {k : Nat}, bestTo J rd k < 0 → ∀ i, i < k → rd i = false
  | 0, _, i, hi => by omega
  | k + 1, h, i, hi => by
    simp only [bestTo] at h
    split at h
    · omega
    · rename_i hh
      have ih := bestTo_none (k := k) h
      by_cases e : i = k
      · subst e
        cases hr : rd i with
        | false => rfl
        | true => simp [hr, h] at hh
      · exact ih i (by omega)
theorem bestTo_neg {J : List JobR} {rd : Nat → Bool} : ∀ {k : Nat}, (∀ i, i < k → rd i = false) → bestTo J rd k = -1
  | 0, _ => rfl
  | k + 1, h => by
    simp only [bestTo, h k (by omega), Bool.false_and]
    exact bestTo_neg fun i hi => h i (by omega)
/-- More urgent, or as urgent and of a lower number. -/
def sooner (J : List JobR) (a b : Nat) : Prop := urgOf J b < urgOf J a ∨ (urgOf J a = urgOf J b ∧ a < b)
theorem bestTo_best {J : List JobR} {rd : Nat → Bool} : ∀ {k : Nat} {b : Nat}, bestTo J rd k = (b : Int) → ∀ i, i < k → rd i = true → i = b ∨ sooner J b i
  | 0, b, h, i, hi, _ => by omega
  | k + 1, b, h, i, hi, hr => by
    simp only [bestTo] at h
    split at h
    · rename_i hh
      have hb : b = k := by omega
      subst hb
      simp only [Bool.and_eq_true, Bool.or_eq_true, decide_eq_true_eq] at hh
      by_cases e : i = b
      · exact .inl e
      · rcases bestTo_range J rd b with h1 | ⟨c, h1, h2, h3⟩
        · have := bestTo_none (J := J) (rd := rd) (k := b) (by omega) i (by omega)
          rw [hr] at this; cases this
        · have ih := bestTo_best h1 i (by omega) hr
          rw [h1] at hh
          rcases hh.2 with h4 | h4
          · omega
          · simp only [Int.toNat_natCast] at h4
            right; left
            rcases ih with rfl | h5 | h5
            · exact h4
            · omega
            · omega
    · rename_i hh
      have hbk : b < k := by
        rcases bestTo_range J rd k with h1 | ⟨c, h1, h2, h3⟩
        · omega
        · omega
      by_cases e : i = k
      · subst e
        simp only [hr, Bool.true_and, h, Bool.or_eq_true, decide_eq_true_eq, Int.toNat_natCast] at hh
        right
        by_cases e2 : urgOf J i = urgOf J b
        · exact .inr ⟨e2.symm, hbk⟩
        · exact .inl (by omega)
      · exact bestTo_best h i (by omega) hr
theorem bestTo_of {J : List JobR} {rd : Nat → Bool} {k b : Nat} (hb : b < k) (hr : rd b = true) (hbest : ∀ i, i < k → rd i = true → i = b ∨ sooner J b i) : bestTo J rd k = (b : Int) := by
  rcases bestTo_range J rd k with h1 | ⟨c, h1, h2, h3⟩
  · have := bestTo_none (J := J) (rd := rd) (k := k) (by omega) b hb
    rw [hr] at this; cases this
  · have h4 := bestTo_best h1 b hb hr
    have h5 := hbest c h2 h3
    rw [h1]
    congr 1
    simp only [sooner] at h4 h5
    omega

/-! ### What holds at a time -/
structure PInv (J : List JobR) (W : Nat) (t : Int) (S : PS) : Prop where
  has : ∀ i, i < J.length → S.begun i = true → 0 ≤ S.beg i ∧ S.beg i < t ∧ 0 ≤ S.wkr i ∧ S.wkr i < W ∧ endOf J S i ≤ S.til (S.wkr i).toNat ∧ (endOf J S i = S.til (S.wkr i).toNat ∨ endOf J S i ≤ t)
  til : ∀ w, w < W → S.til w ≤ 0 ∨ ∃ i, i < J.length ∧ S.begun i = true ∧ S.wkr i = w ∧ S.til w = endOf J S i
  out : ∀ i, J.length ≤ i → S.begun i = false
/-- Within the phase of time t: w workers have been asked. -/
structure PMid (J : List JobR) (W : Nat) (t : Int) (ov : Nat → Bool) (S0 S : PS) (w : Nat) : Prop where
  has : ∀ i, i < J.length → S.begun i = true → 0 ≤ S.beg i ∧ S.beg i ≤ t ∧ 0 ≤ S.wkr i ∧ S.wkr i < W ∧ endOf J S i ≤ S.til (S.wkr i).toNat ∧ (endOf J S i = S.til (S.wkr i).toNat ∨ endOf J S i ≤ t)
  til : ∀ w, w < W → S.til w ≤ 0 ∨ ∃ i, i < J.length ∧ S.begun i = true ∧ S.wkr i = w ∧ S.til w = endOf J S i
  out : ∀ i, J.length ≤ i → S.begun i = false
  old : ∀ i, S0.begun i = true → S.begun i = true ∧ S.beg i = S0.beg i ∧ S.wkr i = S0.wkr i
  new : ∀ i, S.begun i = true → S0.begun i = false → S.beg i = t ∧ (aft J i).all (fun a => ov a.toNat) = true
  free : ∀ w', w' < w → t < S.til w' ∨ ∀ i, i < J.length → rdy J S.begun ov i = false
  rest : ∀ w', w ≤ w' → S.til w' = S0.til w'
theorem PMid.start {J : List JobR} {W : Nat} {t : Int} {S : PS} (h : PInv J W t S) (ov : Nat → Bool) : PMid J W t ov S S 0 where
  has := fun i hi hb => by have := h.has i hi hb; omega
  til := h.til
  out := h.out
  old := fun i hb => ⟨hb, rfl, rfl⟩
  new := fun i h1 h2 => by rw [h1] at h2; cases h2
  free := fun w' hw => by omega
  rest := fun _ _ => rfl
theorem PMid.step {J : List JobR} {W : Nat} {t : Int} {ov : Nat → Bool} {S0 S : PS} {w : Nat} (h : PMid J W t ov S0 S w) (hl : ∀ i, i < J.length → 1 ≤ lenOf J i) (ht : 0 ≤ t) (hw : w < W) : PMid J W t ov S0 (stepW J t ov S w) (w + 1) := by
  unfold stepW
  split
  · rename_i hb
    exact ⟨h.has, h.til, h.out, h.old, h.new, fun w' hw' => by
      by_cases e : w' = w
      · subst e; exact .inl hb
      · exact h.free w' (by omega), fun w' hw' => h.rest w' (by omega)⟩
  · rename_i hfree
    split
    · rename_i hneg
      exact ⟨h.has, h.til, h.out, h.old, h.new, fun w' hw' => by
        by_cases e : w' = w
        · exact .inr (bestTo_none hneg)
        · exact h.free w' (by omega), fun w' hw' => h.rest w' (by omega)⟩
    · rename_i hpos
      rcases bestTo_range J (rdy J S.begun ov) J.length with h1 | ⟨b, h1, hbn, hrd⟩
      · omega
      · rw [h1]
        simp only [Int.toNat_natCast]
        have hnb : S.begun b = false := by simp only [rdy, Bool.and_eq_true, Bool.not_eq_true'] at hrd; exact hrd.1
        have hall : (aft J b).all (fun a => ov a.toNat) = true := by simp only [rdy, Bool.and_eq_true] at hrd; exact hrd.2
        have hlb := hl b hbn
        have hwt : ∀ i, i < J.length → S.begun i = true → (S.wkr i).toNat = w → endOf J S i ≤ t := fun i hi hb e => by
          have := (h.has i hi hb).2.2.2.2.1
          rw [e] at this
          omega
        refine ⟨fun i hi hb => ?_, fun w' hw' => ?_, fun i hi => ?_, fun i hb => ?_, fun i hb hb0 => ?_, fun w' hw' => ?_, fun w' hw' => ?_⟩
        · simp only [asg, endOf] at hb ⊢
          by_cases e : i = b
          · subst e
            have e1 : upd S.wkr i (w : Int) i = w := upd_eq _ _ _
            have e2 : upd S.beg i t i = t := upd_eq _ _ _
            have e3 : upd S.til w (t + lenOf J i) w = t + lenOf J i := upd_eq _ _ _
            rw [e1, e2, Int.toNat_natCast, e3]
            exact ⟨ht, Int.le_refl _, by omega, by omega, Int.le_refl _, .inl rfl⟩
          · rw [upd_ne e] at hb
            rw [upd_ne e, upd_ne e]
            have h2 := h.has i hi hb
            simp only [endOf] at h2
            refine ⟨h2.1, h2.2.1, h2.2.2.1, h2.2.2.2.1, ?_⟩
            by_cases e2 : (S.wkr i).toNat = w
            · rw [e2, upd_eq]
              have := hwt i hi hb e2
              simp only [endOf] at this
              omega
            · rw [upd_ne e2]; exact h2.2.2.2.2
        · simp only [asg, endOf]
          by_cases e : w' = w
          · subst e
            exact .inr ⟨b, hbn, by rw [upd_eq], by rw [upd_eq], by rw [upd_eq, upd_eq]⟩
          · rw [upd_ne e]
            rcases h.til w' hw' with h2 | ⟨i, hi, hb, hwk, htl⟩
            · exact .inl h2
            · have hib : i ≠ b := fun e => by rw [e, hnb] at hb; cases hb
              exact .inr ⟨i, hi, by rw [upd_ne hib]; exact hb, by rw [upd_ne hib]; exact hwk, by rw [upd_ne hib, htl]; rfl⟩
        · simp only [asg]; rw [upd_ne (by omega)]; exact h.out i hi
        · simp only [asg]
          have h2 := h.old i hb
          have hib : i ≠ b := fun e => by rw [← e, h2.1] at hnb; cases hnb
          rw [upd_ne hib, upd_ne hib, upd_ne hib]; exact h2
        · simp only [asg] at hb ⊢
          by_cases e : i = b
          · subst e; rw [upd_eq]; exact ⟨rfl, hall⟩
          · rw [upd_ne e] at hb ⊢; exact h.new i hb hb0
        · simp only [asg]
          by_cases e : w' = w
          · subst e; rw [upd_eq]; exact .inl (by omega)
          · rw [upd_ne e]
            rcases h.free w' (by omega) with h2 | h2
            · exact .inl h2
            · have := h2 b hbn; rw [hrd] at this; cases this
        · simp only [asg]; rw [upd_ne (by omega)]; exact h.rest w' (by omega)
theorem PMid.upto {J : List JobR} {W : Nat} {t : Int} {S : PS} (h : PInv J W t S) (ov : Nat → Bool) (hl : ∀ i, i < J.length → 1 ≤ lenOf J i) (ht : 0 ≤ t) : ∀ w, w ≤ W → PMid J W t ov S (phaseTo J t ov S w) w
  | 0, _ => .start h ov
  | w + 1, hw => (PMid.upto h ov hl ht w (by omega)).step hl ht (by omega)
theorem PMid.next {J : List JobR} {W : Nat} {t : Int} {ov : Nat → Bool} {S0 S : PS} {w : Nat} (h : PMid J W t ov S0 S w) : PInv J W (t + 1) S where
  has := fun i hi hb => by have := h.has i hi hb; omega
  til := h.til
  out := h.out
theorem PInv.init (J : List JobR) (W : Nat) : PInv J W 0 .init where
  has := fun i _ h => by simp [PS.init] at h
  til := fun w _ => .inl (by simp [PS.init])
  out := fun i _ => rfl
theorem Rn_inv {J : List JobR} (W : Nat) (hl : ∀ i, i < J.length → 1 ≤ lenOf J i) : ∀ t : Nat, PInv J W t (Rn J W t)
  | 0 => PInv.init J W
  | t + 1 => by
    have := (PMid.upto (Rn_inv W hl t) (over J (Rn J W t) t) hl (by omega) W (Nat.le_refl _)).next
    simpa [Rn, phase] using this
/-- Nobody who is free is left without a job that is ready. -/
theorem phase_busy {J : List JobR} {W : Nat} {t : Int} {S : PS} (h : PInv J W t S) (hl : ∀ i, i < J.length → 1 ≤ lenOf J i) (ht : 0 ≤ t) (hW : 1 ≤ W) (hr : ∀ i, ∀ a ∈ aft J i, okIn J.length a) (hc : ∀ i, i < J.length → Can J i)
    {i : Nat} (hi : i < J.length) (hn : (phase J W t S).begun i = false) : ∃ w, w < W ∧ t < (phase J W t S).til w := by
  have hm := PMid.upto h (over J S t) hl ht W (Nat.le_refl _)
  refine Classical.byContradiction fun hno => ?_
  have hfree : ∀ w, w < W → ¬ t < (phase J W t S).til w := fun w hw hh => hno ⟨w, hw, hh⟩
  have hnone : ∀ i, i < J.length → rdy J (phase J W t S).begun (over J S t) i = false := by
    rcases hm.free 0 (by omega) with h1 | h1
    · exact absurd h1 (hfree 0 (by omega))
    · exact h1
  obtain ⟨j, hj, hjn, hja⟩ := next_of (out := (allI J.length).filter fun a => (phase J W t S).begun a.toNat) hr (hc i hi) (by simp [hn])
  have hjb : (phase J W t S).begun j = false := by
    cases hb : (phase J W t S).begun j with
    | false => rfl
    | true => exact absurd (List.mem_filter.2 ⟨mem_allI.2 ⟨by omega, by omega⟩, by simpa using hb⟩) hjn
  have := hnone j hj
  simp only [rdy, hjb, Bool.not_false, Bool.true_and, List.all_eq_false] at this
  obtain ⟨a, ha, hna⟩ := this
  have h2 := (List.mem_filter.1 (hja a ha)).2
  have h3 := hr j a ha
  simp only [okIn] at h3
  have h4 := hm.has a.toNat (by omega) h2
  have h5 := hfree ((phase J W t S).wkr a.toNat).toNat (by have := h4.2.2.2.1; have := h4.2.2.1; simp only [phase] at *; omega)
  have h6 : endOf J (phase J W t S) a.toNat ≤ t := by have := h4.2.2.2.2.1; simp only [phase] at *; omega
  cases hb0 : S.begun a.toNat with
  | true =>
    have h7 := hm.old a.toNat hb0
    apply hna
    have h8 : endOf J S a.toNat ≤ t := by simp only [endOf, phase] at h6 ⊢; rw [h7.2.1] at h6; exact h6
    simp only [over, hb0, Bool.true_and]
    exact decide_eq_true h8
  | false =>
    have h7 := (hm.new a.toNat h2 hb0).1
    have := hl a.toNat (by omega)
    simp only [endOf, phase] at h6
    omega
/-- At a time at which no work ends, nothing comes to pass. -/
theorem phase_idle {J : List JobR} {W : Nat} {t s : Int} {S : PS} (h : PInv J W t S) (hr : ∀ i, ∀ a ∈ aft J i, okIn J.length a) (hl : ∀ i, i < J.length → 1 ≤ lenOf J i) (ht : 0 ≤ t) (hs : t < s) (hend : ∀ w, w < W → t < (phase J W t S).til w → s < (phase J W t S).til w) :
    phase J W s (phase J W t S) = phase J W t S := by
  have hm := PMid.upto h (over J S t) hl ht W (Nat.le_refl _)
  have hend2 : ∀ i, i < J.length → (phase J W t S).begun i = true → t < endOf J (phase J W t S) i → s < endOf J (phase J W t S) i := fun i hi hb hlt => by
    have h2 := hm.has i hi hb
    have h3 : endOf J (phase J W t S) i = (phase J W t S).til ((phase J W t S).wkr i).toNat := by
      rcases h2.2.2.2.2.2 with h | h
      · exact h
      · simp only [phase] at hlt; omega
    rw [h3] at hlt ⊢
    exact hend _ (by have := h2.2.2.1; have := h2.2.2.2.1; simp only [phase]; omega) hlt
  have hov : ∀ i, i < J.length → over J (phase J W t S) s i = over J S t i := fun i hi => by
    cases hb0 : S.begun i with
    | true =>
      have h1 := hm.old i hb0
      have he : endOf J (phase J W t S) i = endOf J S i := by simp only [endOf, phase, h1.2.1]
      have hb : (phase J W t S).begun i = true := h1.1
      have h3 := hend2 i hi hb
      simp only [over, hb, hb0, Bool.true_and]
      rw [he] at h3 ⊢
      by_cases h4 : endOf J S i ≤ t
      · rw [decide_eq_true h4, decide_eq_true (by omega)]
      · rw [decide_eq_false h4, decide_eq_false (by omega)]
    | false =>
      cases hb : (phase J W t S).begun i with
      | false => simp only [over, hb, hb0, Bool.false_and]
      | true =>
        have h1 := (hm.new i hb hb0).1
        have h3 := hend2 i hi hb
        have := hl i hi
        simp only [over, hb, hb0, Bool.false_and, Bool.true_and]
        rw [decide_eq_false]
        have h5 : endOf J (phase J W t S) i = t + lenOf J i := by simp only [endOf, phase, h1]
        omega
  have hrd : ∀ i, i < J.length → rdy J (phase J W t S).begun (over J (phase J W t S) s) i = true → rdy J (phase J W t S).begun (over J S t) i = true := fun i hi h => by
    simp only [rdy, Bool.and_eq_true, List.all_eq_true] at h ⊢
    refine ⟨h.1, fun a ha => ?_⟩
    have := h.2 a ha
    have hin := hr i a ha
    simp only [okIn] at hin
    rwa [hov a.toNat (by omega)] at this
  have hkey : ∀ w, w ≤ W → phaseTo J s (over J (phase J W t S) s) (phase J W t S) w = phase J W t S := fun w => by
    induction w with
    | zero => exact fun _ => rfl
    | succ w ih =>
      intro hw
      simp only [phaseTo, ih (by omega), stepW]
      split
      · rfl
      · rename_i hfree
        have hneg : bestTo J (rdy J (phase J W t S).begun (over J (phase J W t S) s)) J.length = -1 := by
          refine bestTo_neg fun i hi => ?_
          cases hrr : rdy J (phase J W t S).begun (over J (phase J W t S) s) i with
          | false => rfl
          | true =>
            have h1 := hrd i hi hrr
            rcases hm.free w (by omega) with h2 | h2
            · exact absurd (hend w (by omega) h2) hfree
            · have := h2 i hi; simp only [phase] at h1; rw [this] at h1; cases h1
        rw [if_pos (by omega)]
  exact hkey W (Nat.le_refl _)

/-! ### An end is reached -/
def sumN (f : Nat → Int) : Nat → Int
  | 0 => 0
  | n + 1 => sumN f n + f n
theorem sumN_congr {f g : Nat → Int} : ∀ {n : Nat}, (∀ i, i < n → f i = g i) → sumN f n = sumN g n
  | 0, _ => rfl
  | n + 1, h => by simp only [sumN]; rw [sumN_congr fun i hi => h i (by omega), h n (by omega)]
theorem sumN_upd {f g : Nat → Int} {k : Nat} : ∀ {n : Nat}, k < n → (∀ i, i < n → i ≠ k → g i = f i) → sumN g n = sumN f n - f k + g k
  | n + 1, hk, h => by
    simp only [sumN]
    by_cases e : k = n
    · subst e; rw [sumN_congr (f := g) (g := f) fun i hi => h i (by omega) (by omega)]; omega
    · rw [sumN_upd (by omega) fun i hi hne => h i (by omega) hne, h n (by omega) (by omega)]; omega
theorem sumN_le {f g : Nat → Int} : ∀ {n : Nat}, (∀ i, i < n → f i ≤ g i) → sumN f n ≤ sumN g n
  | 0, _ => Int.le_refl _
  | n + 1, h => by
    have := sumN_le (n := n) fun i hi => h i (by omega)
    have := h n (by omega)
    simp only [sumN]; omega
theorem sumN_lt {f g : Nat → Int} {k : Nat} : ∀ {n : Nat}, (∀ i, i < n → f i ≤ g i) → k < n → f k < g k → sumN f n < sumN g n
  | n + 1, h, hk, hlt => by
    have hn := h n (by omega)
    simp only [sumN]
    by_cases e : k = n
    · subst e
      have := sumN_le (n := k) fun i hi => h i (by omega)
      omega
    · have := sumN_lt (n := n) (fun i hi => h i (by omega)) (by omega) hlt
      omega
theorem sumN_nonneg {f : Nat → Int} : ∀ {n : Nat}, (∀ i, i < n → 0 ≤ f i) → 0 ≤ sumN f n
  | 0, _ => Int.le_refl _
  | n + 1, h => by
    have := sumN_nonneg (n := n) fun i hi => h i (by omega)
    have := h n (by omega)
    simp only [sumN]; omega
def potJ (J : List JobR) (S : PS) (i : Nat) : Int := if S.begun i then 0 else lenOf J i
def potW (S : PS) (t : Int) (w : Nat) : Int := max 0 (S.til w - t)
def pot (J : List JobR) (W : Nat) (S : PS) (t : Int) : Int := sumN (potJ J S) J.length + sumN (potW S t) W
theorem pot_step {J : List JobR} {W : Nat} {t : Int} {ov : Nat → Bool} {S : PS} {w : Nat} (hl : ∀ i, i < J.length → 1 ≤ lenOf J i) (hw : w < W) : pot J W (stepW J t ov S w) t = pot J W S t := by
  unfold stepW
  split
  · rfl
  · rename_i hfree
    split
    · rfl
    · rename_i hpos
      rcases bestTo_range J (rdy J S.begun ov) J.length with h1 | ⟨b, h1, hbn, hrd⟩
      · omega
      · rw [h1]
        simp only [Int.toNat_natCast]
        have hnb : S.begun b = false := by simp only [rdy, Bool.and_eq_true, Bool.not_eq_true'] at hrd; exact hrd.1
        have hlb := hl b hbn
        have e1 := sumN_upd (f := potJ J S) (g := potJ J (asg J t w b S)) hbn (fun i _ hne => by have e : (asg J t w b S).begun i = S.begun i := upd_ne hne; simp only [potJ, e])
        have e2 := sumN_upd (f := potW S t) (g := potW (asg J t w b S) t) hw (fun i _ hne => by have e : (asg J t w b S).til i = S.til i := upd_ne hne; simp only [potW, e])
        have e3 : potJ J S b = lenOf J b := by simp [potJ, hnb]
        have e4 : potJ J (asg J t w b S) b = 0 := by simp [potJ, asg, upd_eq]
        have e5 : potW S t w = 0 := by simp only [potW]; omega
        have e6 : potW (asg J t w b S) t w = lenOf J b := by simp only [potW, asg, upd_eq]; omega
        simp only [pot]; omega
theorem pot_phaseTo {J : List JobR} {W : Nat} {t : Int} {ov : Nat → Bool} {S : PS} (hl : ∀ i, i < J.length → 1 ≤ lenOf J i) : ∀ w, w ≤ W → pot J W (phaseTo J t ov S w) t = pot J W S t
  | 0, _ => rfl
  | w + 1, hw => by rw [phaseTo, pot_step hl (by omega), pot_phaseTo hl w (by omega)]
theorem pot_nonneg {J : List JobR} {W : Nat} {S : PS} {t : Int} (hl : ∀ i, i < J.length → 1 ≤ lenOf J i) : 0 ≤ pot J W S t := by
  have h1 := sumN_nonneg (f := potJ J S) (n := J.length) fun i hi => by simp only [potJ]; have := hl i hi; split <;> omega
  have h2 := sumN_nonneg (f := potW S t) (n := W) fun i _ => by simp only [potW]; omega
  simp only [pot]; omega
theorem begun_mono {J : List JobR} {W : Nat} (hl : ∀ i, i < J.length → 1 ≤ lenOf J i) (t : Nat) {i : Nat} (h : (Rn J W t).begun i = true) : (Rn J W (t + 1)).begun i = true :=
  ((PMid.upto (Rn_inv W hl t) (over J (Rn J W t) t) hl (by omega) W (Nat.le_refl _)).old i h).1
theorem pot_time {J : List JobR} {W : Nat} (hl : ∀ i, i < J.length → 1 ≤ lenOf J i) (hW : 1 ≤ W) (hr : ∀ i, ∀ a ∈ aft J i, okIn J.length a) (hc : ∀ i, i < J.length → Can J i) :
    ∀ (t : Nat), (∃ i, i < J.length ∧ (Rn J W t).begun i = false) → (t : Int) + pot J W (Rn J W t) t ≤ sumN (lenOf J) J.length
  | 0, _ => by
    have e1 : sumN (potJ J (Rn J W 0)) J.length = sumN (lenOf J) J.length := sumN_congr fun i _ => by simp [potJ, Rn, PS.init]
    have e2 : sumN (potW (Rn J W 0) ((0 : Nat) : Int)) W = sumN (fun _ => 0) W := sumN_congr fun i _ => by simp [potW, Rn, PS.init]
    have e3 : ∀ n, sumN (fun _ => 0) n = 0 := fun n => by induction n with
      | zero => rfl
      | succ n ih => simp only [sumN, ih]; omega
    rw [e3] at e2
    simp only [pot]; omega
  | t + 1, ⟨i, hi, hb⟩ => by
    have hb0 : (Rn J W t).begun i = false := by
      cases h : (Rn J W t).begun i with
      | false => rfl
      | true => rw [begun_mono hl t h] at hb; cases hb
    have ih := pot_time hl hW hr hc t ⟨i, hi, hb0⟩
    have h1 : pot J W (Rn J W (t + 1)) t = pot J W (Rn J W t) t := pot_phaseTo hl W (Nat.le_refl _)
    obtain ⟨w, hw, htil⟩ := phase_busy (Rn_inv W hl t) hl (by omega) hW hr hc hi hb
    have h2 : sumN (potW (Rn J W (t + 1)) ((t + 1 : Nat) : Int)) W < sumN (potW (Rn J W (t + 1)) t) W := by
      refine sumN_lt (k := w) (fun i _ => by simp only [potW]; omega) hw ?_
      have : t < (Rn J W (t + 1)).til w := htil
      simp only [potW]; omega
    simp only [pot] at h1 ih ⊢
    omega
theorem sumN_len (J : List JobR) : ∀ n, sumN (lenOf J) n = workTo J n
  | 0 => rfl
  | n + 1 => by rw [sumN, workTo, sumN_len J n]
def AllBegun (J : List JobR) (S : PS) : Prop := ∀ i, i < J.length → S.begun i = true
theorem phase_all {J : List JobR} {W : Nat} {t : Int} {S : PS} (h : AllBegun J S) : phase J W t S = S := by
  have : ∀ w, phaseTo J t (over J S t) S w = S := fun w => by
    induction w with
    | zero => rfl
    | succ w ih =>
      simp only [phaseTo, ih, stepW]
      split
      · rfl
      · rw [if_pos]
        rw [bestTo_neg fun i hi => by simp [rdy, h i hi]]
        omega
  exact this W
theorem Rn_stay {J : List JobR} {W : Nat} {T : Nat} (h : AllBegun J (Rn J W T)) : ∀ k, Rn J W (T + k) = Rn J W T
  | 0 => rfl
  | k + 1 => by rw [← Nat.add_assoc, Rn, Rn_stay h k]; exact phase_all h
/-- Whenever all have begun, it is one plan. -/
theorem Rn_one {J : List JobR} {W T T' : Nat} (h : AllBegun J (Rn J W T)) (h' : AllBegun J (Rn J W T')) : Rn J W T = Rn J W T' := by
  rcases Nat.le_total T T' with hle | hle
  · obtain ⟨k, rfl⟩ := Nat.exists_eq_add_of_le hle; exact (Rn_stay h k).symm
  · obtain ⟨k, rfl⟩ := Nat.exists_eq_add_of_le hle; exact Rn_stay h' k
theorem phaseTo_stop {J : List JobR} {t : Int} {ov : Nat → Bool} {S : PS} {u : Nat} (h : bestTo J (rdy J (phaseTo J t ov S u).begun ov) J.length < 0) : ∀ k, phaseTo J t ov S (u + k) = phaseTo J t ov S u
  | 0 => rfl
  | k + 1 => by
    rw [← Nat.add_assoc, phaseTo, phaseTo_stop h k]
    simp only [stepW]
    split
    · rfl
    · first
        | rfl
        | rw [if_pos h]
/-- From one event to the next one. -/
theorem Rn_event {J : List JobR} {W : Nat} (hl : ∀ i, i < J.length → 1 ≤ lenOf J i) (hr : ∀ i, ∀ a ∈ aft J i, okIn J.length a) (t e : Nat) (hend : ∀ w, w < W → t < (Rn J W (t + 1)).til w → e ≤ (Rn J W (t + 1)).til w) :
    ∀ k, t + 1 + k ≤ e → Rn J W (t + 1 + k) = Rn J W (t + 1)
  | 0, _ => rfl
  | k + 1, hk => by
    rw [← Nat.add_assoc, Rn, Rn_event hl hr t e hend k (by omega)]
    exact phase_idle (Rn_inv W hl t) hr hl (by omega) (by omega) fun w hw hlt => by have := hend w hw hlt; simp only [Rn] at this ⊢; omega
theorem fin_phaseTo {J : List JobR} {t : Int} {ov : Nat → Bool} {S : PS} (hl : ∀ i, i < J.length → 1 ≤ lenOf J i ∧ lenOf J i ≤ 1000) (h0 : 0 ≤ S.fin) (h1 : S.fin ≤ t + 1000) : ∀ w, 0 ≤ (phaseTo J t ov S w).fin ∧ (phaseTo J t ov S w).fin ≤ t + 1000
  | 0 => ⟨h0, h1⟩
  | w + 1 => by
    have ih := fin_phaseTo (ov := ov) hl h0 h1 w
    simp only [phaseTo, stepW]
    split
    · exact ih
    · split
      · exact ih
      · rename_i hpos
        rcases bestTo_range J (rdy J (phaseTo J t ov S w).begun ov) J.length with h2 | ⟨b, h2, hbn, _⟩
        · omega
        · rw [h2]
          have := hl b hbn
          simp only [asg, Int.toNat_natCast]
          omega
theorem Rn_fin {J : List JobR} (W : Nat) (hl : ∀ i, i < J.length → 1 ≤ lenOf J i ∧ lenOf J i ≤ 1000) : ∀ t : Nat, 0 ≤ (Rn J W t).fin ∧ (Rn J W t).fin ≤ t + 1000
  | 0 => by simp [Rn, PS.init]
  | t + 1 => by
    have ih := Rn_fin W hl t
    have := fin_phaseTo (ov := over J (Rn J W t) t) (t := t) hl ih.1 ih.2 W
    simp only [Rn, phase]
    omega
end Go.Proofs.Ytnepaaheiakimaa
