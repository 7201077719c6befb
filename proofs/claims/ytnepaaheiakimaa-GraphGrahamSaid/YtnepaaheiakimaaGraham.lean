/- A plan is right, and GRAHAM's bounds, in plain Lean. No program here. No conditions but those named. -/
import Derived.Test.YtnepaaheiakimaaPlanM
namespace Go.Proofs.Ytnepaaheiakimaa

/-! ### Step by step: nobody does two things at a time; the last end; who is at work till when -/
structure Stp (J : List JobR) (W : Nat) (S : PS) : Prop where
  apart : ∀ i k, i < J.length → k < J.length → i ≠ k → S.begun i = true → S.begun k = true → S.wkr i = S.wkr k → endOf J S i ≤ S.beg k ∨ endOf J S k ≤ S.beg i
  le : ∀ i, i < J.length → S.begun i = true → endOf J S i ≤ S.fin
  at_ : S.fin = 0 ∨ ∃ i, i < J.length ∧ S.begun i = true ∧ endOf J S i = S.fin
  fin0 : 0 ≤ S.fin
  til : ∀ w, w < W → 0 ≤ S.til w ∧ S.til w ≤ S.fin
  sum : sumN (lenOf J) J.length ≤ sumN (potJ J S) J.length + sumN S.til W
theorem Stp.init (J : List JobR) (W : Nat) : Stp J W .init where
  apart := fun i k _ _ _ h => by cases h
  le := fun i _ h => by cases h
  at_ := .inl rfl
  fin0 := Int.le_refl _
  til := fun w _ => ⟨Int.le_refl _, Int.le_refl _⟩
  sum := by
    have e1 : sumN (potJ J .init) J.length = sumN (lenOf J) J.length := sumN_congr fun i _ => by simp [potJ, PS.init]
    have e2 : 0 ≤ sumN PS.init.til W := sumN_nonneg fun i _ => Int.le_refl _
    omega
theorem Stp.asg {J : List JobR} {W : Nat} {t : Int} {ov : Nat → Bool} {S0 S : PS} {w b u : Nat} (h : Stp J W S) (hm : PMid J W t ov S0 S u) (hw : w < W) (hb : b < J.length) (hnb : S.begun b = false) (hlb : 1 ≤ lenOf J b) (ht : 0 ≤ t) (hfree : ¬ t < S.til w) : Stp J W (asg J t w b S) := by
  have hwt : ∀ i, i < J.length → S.begun i = true → (S.wkr i).toNat = w → endOf J S i ≤ t := fun i hi hb e => by
    have := (hm.has i hi hb).2.2.2.2.1
    rw [e] at this
    omega
  have hend : ∀ i, i ≠ b → endOf J (Go.Proofs.Ytnepaaheiakimaa.asg J t w b S) i = endOf J S i := fun i hi => by simp only [endOf, Go.Proofs.Ytnepaaheiakimaa.asg, upd_ne hi]
  have hendb : endOf J (Go.Proofs.Ytnepaaheiakimaa.asg J t w b S) b = t + lenOf J b := by simp only [endOf, Go.Proofs.Ytnepaaheiakimaa.asg, upd_eq]
  have hbeg : ∀ i, i ≠ b → (Go.Proofs.Ytnepaaheiakimaa.asg J t w b S).beg i = S.beg i := fun i hi => upd_ne hi
  have hbegb : (Go.Proofs.Ytnepaaheiakimaa.asg J t w b S).beg b = t := upd_eq _ _ _
  have hbn : ∀ i, i ≠ b → (Go.Proofs.Ytnepaaheiakimaa.asg J t w b S).begun i = S.begun i := fun i hi => upd_ne hi
  have hwk : ∀ i, i ≠ b → (Go.Proofs.Ytnepaaheiakimaa.asg J t w b S).wkr i = S.wkr i := fun i hi => upd_ne hi
  have hwkb : (Go.Proofs.Ytnepaaheiakimaa.asg J t w b S).wkr b = w := upd_eq _ _ _
  have hfin : (Go.Proofs.Ytnepaaheiakimaa.asg J t w b S).fin = max S.fin (t + lenOf J b) := rfl
  refine ⟨fun i k hi hk hne bi bk e => ?_, fun i hi bi => ?_, ?_, ?_, fun w' hw' => ?_, ?_⟩
  · by_cases e1 : i = b
    · subst e1
      have hk' : k ≠ i := fun e => hne e.symm
      rw [hbn k hk'] at bk
      rw [hwkb, hwk k hk'] at e
      rw [hend k hk', hbegb]
      exact .inr (hwt k hk bk (by rw [← e]; rfl))
    · by_cases e2 : k = b
      · subst e2
        rw [hbn i hne] at bi
        rw [hwkb, hwk i hne] at e
        rw [hend i hne, hbegb]
        exact .inl (hwt i hi bi (by rw [e]; rfl))
      · rw [hbn i e1] at bi
        rw [hbn k e2] at bk
        rw [hwk i e1, hwk k e2] at e
        rw [hend i e1, hend k e2, hbeg i e1, hbeg k e2]
        exact h.apart i k hi hk hne bi bk e
  · rw [hfin]
    by_cases e1 : i = b
    · subst e1; rw [hendb]; omega
    · rw [hbn i e1] at bi
      rw [hend i e1]
      have := h.le i hi bi
      omega
  · right
    rw [hfin]
    rcases Int.le_total S.fin (t + lenOf J b) with hle | hle
    · exact ⟨b, hb, upd_eq _ _ _, by rw [hendb]; omega⟩
    · rcases h.at_ with h0 | ⟨i, hi, bi, e⟩
      · omega
      · have e1 : i ≠ b := fun e => by rw [e, hnb] at bi; cases bi
        exact ⟨i, hi, by rw [hbn i e1]; exact bi, by rw [hend i e1]; omega⟩
  · rw [hfin]; have := h.fin0; omega
  · rw [hfin]
    have h1 := h.til w' hw'
    by_cases e : w' = w
    · subst e
      have : (Go.Proofs.Ytnepaaheiakimaa.asg J t w' b S).til w' = t + lenOf J b := upd_eq _ _ _
      omega
    · have : (Go.Proofs.Ytnepaaheiakimaa.asg J t w b S).til w' = S.til w' := upd_ne e
      omega
  · have e1 := sumN_upd (f := potJ J S) (g := potJ J (Go.Proofs.Ytnepaaheiakimaa.asg J t w b S)) hb (fun i _ hne => by simp only [potJ, hbn i hne])
    have e2 := sumN_upd (f := S.til) (g := (Go.Proofs.Ytnepaaheiakimaa.asg J t w b S).til) hw (fun i _ hne => upd_ne hne)
    have e3 : potJ J S b = lenOf J b := by simp [potJ, hnb]
    have e4 : potJ J (Go.Proofs.Ytnepaaheiakimaa.asg J t w b S) b = 0 := by simp [potJ, Go.Proofs.Ytnepaaheiakimaa.asg, upd_eq]
    have e5 : (Go.Proofs.Ytnepaaheiakimaa.asg J t w b S).til w = t + lenOf J b := upd_eq _ _ _
    have := h.sum
    omega
theorem Stp.phaseTo {J : List JobR} {W : Nat} {t : Int} {S : PS} (h : Stp J W S) (hp : PInv J W t S) (ov : Nat → Bool) (hl : ∀ i, i < J.length → 1 ≤ lenOf J i) (ht : 0 ≤ t) : ∀ w, w ≤ W → Stp J W (phaseTo J t ov S w)
  | 0, _ => h
  | w + 1, hw => by
    have ih := Stp.phaseTo h hp ov hl ht w (by omega)
    have hm := PMid.upto hp ov hl ht w (by omega)
    simp only [Go.Proofs.Ytnepaaheiakimaa.phaseTo, stepW]
    split
    · exact ih
    · rename_i hfree
      split
      · exact ih
      · rename_i hpos
        rcases bestTo_range J (rdy J (Go.Proofs.Ytnepaaheiakimaa.phaseTo J t ov S w).begun ov) J.length with h1 | ⟨b, h1, hbn, hrd⟩
        · omega
        · rw [h1, Int.toNat_natCast]
          have hnb : (Go.Proofs.Ytnepaaheiakimaa.phaseTo J t ov S w).begun b = false := by simp only [rdy, Bool.and_eq_true, Bool.not_eq_true'] at hrd; exact hrd.1
          exact ih.asg hm (by omega) hbn hnb (hl b hbn) ht hfree
theorem Rn_stp {J : List JobR} (W : Nat) (hl : ∀ i, i < J.length → 1 ≤ lenOf J i) : ∀ t : Nat, Stp J W (Rn J W t)
  | 0 => Stp.init J W
  | t + 1 => (Rn_stp W hl t).phaseTo (Rn_inv W hl t) _ hl (by omega) W (Nat.le_refl _)
/-- Whoever has begun began behind all those that it waits for. -/
theorem Rn_prec {J : List JobR} (W : Nat) (hl : ∀ i, i < J.length → 1 ≤ lenOf J i) (hr : ∀ i, ∀ a ∈ aft J i, okIn J.length a) : ∀ (t : Nat) (i : Nat), i < J.length → (Rn J W t).begun i = true → ∀ a ∈ aft J i, (Rn J W t).begun a.toNat = true ∧ endOf J (Rn J W t) a.toNat ≤ (Rn J W t).beg i
  | 0, i, _, h => by cases h
  | t + 1, i, hi, hb => fun a ha => by
    have hm := PMid.upto (Rn_inv W hl t) (over J (Rn J W t) t) hl (by omega) W (Nat.le_refl _)
    have hkeep : ∀ j, (Rn J W t).begun j = true → (Rn J W (t + 1)).begun j = true ∧ (Rn J W (t + 1)).beg j = (Rn J W t).beg j ∧ endOf J (Rn J W (t + 1)) j = endOf J (Rn J W t) j := fun j hj => by
      have := hm.old j hj
      exact ⟨this.1, this.2.1, by simp only [endOf, Rn, phase, this.2.1]⟩
    cases h0 : (Rn J W t).begun i with
    | true =>
      have ih := Rn_prec W hl hr t i hi h0 a ha
      have h1 := hkeep i h0
      have h2 := hkeep a.toNat ih.1
      rw [h1.2.1, h2.2.2]
      exact ⟨h2.1, ih.2⟩
    | false =>
      have h1 := hm.new i hb h0
      have h2 := List.all_eq_true.1 h1.2 a ha
      simp only [over, Bool.and_eq_true, decide_eq_true_eq] at h2
      have h3 := hkeep a.toNat h2.1
      have h4 : (Rn J W (t + 1)).beg i = t := h1.1
      rw [h3.2.2, h4]
      exact ⟨h3.1, h2.2⟩

/-! ### What is left at a time, and a bound of the ways through it -/
def rem (J : List JobR) (S : PS) (t : Int) (i : Nat) : Int := if S.begun i then max 0 (endOf J S i - t) else lenOf J i
structure Feas (J : List JobR) (S : PS) (t : Int) (F : Nat → Int) : Prop where
  pos : ∀ i, i < J.length → 0 ≤ F i
  one : ∀ i, i < J.length → rem J S t i ≤ F i
  two : ∀ i, i < J.length → ∀ a ∈ aft J i, F a.toNat + rem J S t i ≤ F i
theorem Feas.congr {J : List JobR} {S S' : PS} {t t' : Int} {F : Nat → Int} (h : Feas J S t F) (he : ∀ i, i < J.length → rem J S' t' i ≤ rem J S t i) : Feas J S' t' F where
  pos := h.pos
  one := fun i hi => Int.le_trans (he i hi) (h.one i hi)
  two := fun i hi a ha => by have := h.two i hi a ha; have := he i hi; omega
theorem rem_phase {J : List JobR} {W : Nat} {t : Int} {ov : Nat → Bool} {S0 S : PS} {w : Nat} (hm : PMid J W t ov S0 S w) (hl : ∀ i, i < J.length → 1 ≤ lenOf J i) (i : Nat) (hi : i < J.length) : rem J S t i = rem J S0 t i := by
  have := hl i hi
  unfold rem
  cases h0 : S0.begun i with
  | true => have h1 := hm.old i h0; simp only [h1.1, endOf, h1.2.1]
  | false =>
    cases hb : S.begun i with
    | true => have h1 := hm.new i hb h0; simp only [endOf, h1.1, if_true, Bool.false_eq_true, if_false]; omega
    | false => rfl
theorem rem_time {J : List JobR} {S : PS} {t : Int} (i : Nat) : rem J S (t + 1) i ≤ rem J S t i := by
  unfold rem; split <;> omega
/-- Where nothing is ready, all ways through what is left grow shorter. -/
theorem Feas.idle {J : List JobR} {S : PS} {t : Int} {E : Nat → Int} {c : Int} {ov : Nat → Bool} (h : Feas J S t fun i => max 0 (E i - c)) (hr : ∀ i, ∀ a ∈ aft J i, okIn J.length a)
    (hno : ∀ i, i < J.length → rdy J S.begun ov i = false) (hov : ∀ i, i < J.length → ov i = false → 1 ≤ rem J S t i) : Feas J S (t + 1) fun i => max 0 (E i - (c + 1)) where
  pos := fun i _ => by show 0 ≤ max 0 (E i - (c + 1)); omega
  one := fun i hi => by
    show _ ≤ max 0 (E i - (c + 1))
    have h1 := h.one i hi
    try simp only at h1
    cases hb : S.begun i with
    | true => simp only [rem, hb, if_true] at h1 ⊢; omega
    | false =>
      have h2 := hno i hi
      simp only [rdy, hb, Bool.not_false, Bool.true_and, List.all_eq_false] at h2
      obtain ⟨a, ha, hna⟩ := h2
      have h3 := hr i a ha
      simp only [okIn] at h3
      have h4 := hov a.toNat (by omega) (by simpa using hna)
      have h5 := h.one a.toNat (by omega)
      have h6 := h.two i hi a ha
      try simp only at h5 h6
      have h7 : rem J S (t + 1) i = rem J S t i := by simp only [rem, hb]; rfl
      omega
  two := fun i hi a ha => by
    show max 0 (E a.toNat - (c + 1)) + _ ≤ max 0 (E i - (c + 1))
    have h1 := h.one i hi
    have h2 := h.two i hi a ha
    have h0 := rem_time (J := J) (S := S) (t := t) i
    try simp only at h1 h2
    cases hb : S.begun i with
    | true => simp only [rem, hb, if_true] at h1 h2 ⊢; omega
    | false =>
      have h2 := hno i hi
      simp only [rdy, hb, Bool.not_false, Bool.true_and, List.all_eq_false] at h2
      obtain ⟨a', ha', hna⟩ := h2
      have h3 := hr i a' ha'
      simp only [okIn] at h3
      have h4 := hov a'.toNat (by omega) (by simpa using hna)
      have h5 := h.one a'.toNat (by omega)
      have h6 := h.two i hi a' ha'
      try simp only at h5 h6
      have h7 : rem J S (t + 1) i = rem J S t i := by simp only [rem, hb]; rfl
      omega
theorem spanTo_ge {E : Nat → Int} : ∀ {k i : Nat}, i < k → E i ≤ spanTo E k
  | k + 1, i, h => by
    simp only [spanTo]
    by_cases e : i = k
    · subst e; omega
    · have := spanTo_ge (E := E) (k := k) (i := i) (by omega); omega
theorem spanTo_le {E : Nat → Int} {c : Int} (h0 : 0 ≤ c) : ∀ {k : Nat}, (∀ i, i < k → E i ≤ c) → spanTo E k ≤ c
  | 0, _ => h0
  | k + 1, h => by
    have := spanTo_le (E := E) h0 (k := k) fun i hi => h i (by omega)
    have := h k (by omega)
    simp only [spanTo]; omega
theorem feas_start {J : List JobR} {E : Nat → Int} (hE : IsEnd J E) (hr : ∀ i, ∀ a ∈ aft J i, okIn J.length a) : Feas J .init 0 fun i => max 0 (E i - 0) where
  pos := fun i _ => by show 0 ≤ max 0 (E i - 0); omega
  one := fun i hi => by
    show lenOf J i ≤ max 0 (E i - 0)
    have := hE.eq i hi
    have h2 : 0 ≤ mxOf J E i := by unfold mxOf mxTo; exact le_foldl_max _ _ _
    omega
  two := fun i hi a ha => by
    show max 0 (E a.toNat - 0) + lenOf J i ≤ max 0 (E i - 0)
    have h1 := hE.eq i hi
    have h3 := hr i a ha
    simp only [okIn] at h3
    have h2 : E a.toNat ≤ mxOf J E i := by unfold mxOf mxTo; rw [List.take_length]; exact mem_le_foldl_max ha
    have h4 := hE.lo a.toNat (by omega)
    omega
theorem sumN_less {f g : Nat → Int} : ∀ {n : Nat}, (∀ i, i < n → g i ≤ f i ∧ f i ≤ g i + 1) → sumN f n ≤ sumN g n + n
  | 0, _ => by simp [sumN]
  | n + 1, h => by
    have := sumN_less (n := n) fun i hi => h i (by omega)
    have := h n (by omega)
    simp only [sumN]; omega
theorem sumN_all {f g : Nat → Int} : ∀ {n : Nat}, (∀ i, i < n → f i = g i + 1) → sumN f n = sumN g n + n
  | 0, _ => by simp [sumN]
  | n + 1, h => by
    have := sumN_all (n := n) fun i hi => h i (by omega)
    have := h n (by omega)
    simp only [sumN]; omega
/-- Up to each time ahead of the last end: what was idle is paid for by the way through the jobs. -/
theorem graham_to {J : List JobR} {W T : Nat} {E : Nat → Int} (hl : ∀ i, i < J.length → 1 ≤ lenOf J i) (hr : ∀ i, ∀ a ∈ aft J i, okIn J.length a) (hc : ∀ i, i < J.length → Can J i) (hW : 1 ≤ W) (hE : IsEnd J E) (hall : AllBegun J (Rn J W T)) :
    ∀ t : Nat, (t : Int) ≤ (Rn J W T).fin → ∃ c : Int, 0 ≤ c ∧ (c = 0 ∨ c ≤ spanTo E J.length) ∧ Feas J (Rn J W t) t (fun i => max 0 (E i - c)) ∧ (t : Int) * W + pot J W (Rn J W t) t ≤ workTo J J.length + (W - 1) * c
  | 0, _ => by
    refine ⟨0, Int.le_refl _, .inl rfl, feas_start hE hr, ?_⟩
    have e1 : sumN (potJ J (Rn J W 0)) J.length = sumN (lenOf J) J.length := sumN_congr fun i _ => by simp [potJ, Rn, PS.init]
    have e2 : sumN (potW (Rn J W 0) ((0 : Nat) : Int)) W = sumN (fun _ => 0) W := sumN_congr fun i _ => by simp [potW, Rn, PS.init]
    have e3 : ∀ n, sumN (fun _ => 0) n = 0 := fun n => by induction n with
      | zero => rfl
      | succ n ih => simp only [sumN, ih]; omega
    rw [e3] at e2
    simp only [pot, e1, e2, sumN_len]
    simp
  | t + 1, ht => by
    obtain ⟨c, hc0, hcs, hf, hp⟩ := graham_to hl hr hc hW hE hall t (by omega)
    have hm := PMid.upto (Rn_inv W hl t) (over J (Rn J W t) t) hl (by omega) W (Nat.le_refl _)
    have hstp := Rn_stp W hl (t + 1)
    have hf1 : Feas J (Rn J W (t + 1)) t (fun i => max 0 (E i - c)) := hf.congr fun i hi => by
      have := rem_phase hm hl i hi
      exact Int.le_of_eq this
    have hp1 : pot J W (Rn J W (t + 1)) t = pot J W (Rn J W t) t := pot_phaseTo hl W (Nat.le_refl _)
    -- something is left
    have hleft : ∃ i, i < J.length ∧ 1 ≤ rem J (Rn J W (t + 1)) t i := by
      by_cases ha : AllBegun J (Rn J W (t + 1))
      · have e := Rn_one ha hall
        rcases hstp.at_ with h0 | ⟨i, hi, hb, he⟩
        · rw [e] at h0; omega
        · refine ⟨i, hi, ?_⟩
          rw [e] at he hb ⊢
          simp only [rem, hb, if_true]
          omega
      · obtain ⟨i, hi, hb⟩ : ∃ i, i < J.length ∧ (Rn J W (t + 1)).begun i = false := Classical.byContradiction fun hx => ha fun i hi => by
          cases h : (Rn J W (t + 1)).begun i with
          | true => rfl
          | false => exact absurd ⟨i, hi, h⟩ hx
        exact ⟨i, hi, by simp only [rem, hb]; exact hl i hi⟩
    obtain ⟨i0, hi0, hrem0⟩ := hleft
    -- somebody works
    have hbusy : ∃ w, w < W ∧ (t : Int) < (Rn J W (t + 1)).til w := by
      cases hb : (Rn J W (t + 1)).begun i0 with
      | false => exact phase_busy (Rn_inv W hl t) hl (by omega) hW hr hc hi0 hb
      | true =>
        simp only [rem, hb, if_true] at hrem0
        have h2 := hm.has i0 hi0 hb
        refine ⟨((Rn J W (t + 1)).wkr i0).toNat, ?_, ?_⟩
        · have h3 := h2.2.2.1; have h4 := h2.2.2.2.1; simp only [Rn, phase] at *; omega
        · have h3 := h2.2.2.2.2.1; simp only [Rn, phase] at *; omega
    have hpj : ∀ s : Int, pot J W (Rn J W (t + 1)) s = sumN (potJ J (Rn J W (t + 1))) J.length + sumN (potW (Rn J W (t + 1)) s) W := fun s => rfl
    have hcast : ((t + 1 : Nat) : Int) = (t : Int) + 1 := by omega
    by_cases hfull : ∀ w, w < W → (t : Int) < (Rn J W (t + 1)).til w
    · refine ⟨c, hc0, hcs, ?_, ?_⟩
      · rw [hcast]; exact hf1.congr fun i _ => rem_time i
      · have e := sumN_all (f := potW (Rn J W (t + 1)) t) (g := potW (Rn J W (t + 1)) ((t : Int) + 1)) (n := W) fun w hw => by have := hfull w hw; simp only [potW]; omega
        have e1 := hpj t
        have e2 := hpj ((t : Int) + 1)
        rw [hcast, Int.add_mul]
        omega
    · obtain ⟨w, hw, hfree⟩ : ∃ w, w < W ∧ ¬ (t : Int) < (Rn J W (t + 1)).til w := Classical.byContradiction fun hx => hfull fun w hw => Classical.byContradiction fun hh => hx ⟨w, hw, hh⟩
      have hnone : ∀ i, i < J.length → rdy J (Rn J W (t + 1)).begun (over J (Rn J W t) t) i = false := by
        rcases hm.free w hw with h1 | h1
        · exact absurd h1 hfree
        · exact h1
      have hov : ∀ i, i < J.length → over J (Rn J W t) t i = false → 1 ≤ rem J (Rn J W (t + 1)) t i := fun i hi ho => by
        have h1 : rem J (Rn J W (t + 1)) t i = rem J (Rn J W t) t i := rem_phase hm hl i hi
        rw [h1]
        have := hl i hi
        unfold rem
        cases hb : (Rn J W t).begun i with
        | false => simpa using this
        | true =>
          simp only [over, hb, Bool.true_and, decide_eq_false_iff_not] at ho
          simp only [if_true]; omega
      refine ⟨c + 1, by omega, .inr ?_, ?_, ?_⟩
      · have h1 := hf1.one i0 hi0
        try simp only at h1
        have := spanTo_ge (E := E) hi0
        omega
      · rw [hcast]; exact hf1.idle hr hnone hov
      · obtain ⟨w2, hw2, hlt⟩ := hbusy
        have e := sumN_lt (f := potW (Rn J W (t + 1)) ((t : Int) + 1)) (g := potW (Rn J W (t + 1)) t) (n := W) (k := w2) (fun w _ => by simp only [potW]; omega) hw2 (by simp only [potW]; omega)
        have e1 := hpj t
        have e2 := hpj ((t : Int) + 1)
        rw [hcast, Int.add_mul, Int.mul_add]
        omega
theorem spanTo_pos (E : Nat → Int) : ∀ k, 0 ≤ spanTo E k
  | 0 => Int.le_refl _
  | k + 1 => by have := spanTo_pos E k; simp only [spanTo]; omega
/-- A plan in which all have begun: it is right; its bounds. -/
structure Graham (J : List JobR) (W : Nat) (E : Nat → Int) (S : PS) : Prop where
  lo : ∀ i, i < J.length → 0 ≤ S.beg i ∧ 0 ≤ S.wkr i ∧ S.wkr i < W
  prec : ∀ i, i < J.length → ∀ a ∈ aft J i, endOf J S a.toNat ≤ S.beg i
  apart : ∀ i k, i < J.length → k < J.length → i ≠ k → S.wkr i = S.wkr k → endOf J S i ≤ S.beg k ∨ endOf J S k ≤ S.beg i
  le : ∀ i, i < J.length → endOf J S i ≤ S.fin
  at_ : S.fin = 0 ∨ ∃ i, i < J.length ∧ endOf J S i = S.fin
  fin0 : 0 ≤ S.fin
  span : spanTo E J.length ≤ S.fin
  work : workTo J J.length ≤ S.fin * W
  grah : S.fin * W ≤ workTo J J.length + (W - 1) * spanTo E J.length
theorem sumN_top {f : Nat → Int} {c : Int} : ∀ {n : Nat}, (∀ i, i < n → f i ≤ c) → sumN f n ≤ c * n
  | 0, _ => by simp [sumN]
  | n + 1, h => by
    have h1 := sumN_top (n := n) fun i hi => h i (by omega)
    have h2 := h n (by omega)
    have e : c * ((n + 1 : Nat) : Int) = c * n + c := by rw [show ((n + 1 : Nat) : Int) = (n : Int) + 1 by omega, Int.mul_add]; omega
    simp only [sumN]; omega
theorem graham {J : List JobR} {W T : Nat} {E : Nat → Int} (hl : ∀ i, i < J.length → 1 ≤ lenOf J i) (hr : ∀ i, ∀ a ∈ aft J i, okIn J.length a) (hc : ∀ i, i < J.length → Can J i) (hW : 1 ≤ W) (hE : IsEnd J E) (hall : AllBegun J (Rn J W T)) : Graham J W E (Rn J W T) := by
  have hinv := Rn_inv W hl T
  have hstp := Rn_stp W hl T
  have hprec := Rn_prec W hl hr T
  have hend : ∀ i, Can J i → E i ≤ endOf J (Rn J W T) i := fun i h => by
    induction h with
    | mk i hi _ ih =>
      rw [hE.eq i hi]
      have h1 : mxOf J E i ≤ (Rn J W T).beg i := by
        unfold mxOf mxTo
        rw [List.take_length]
        exact foldl_max_le (hinv.has i hi (hall i hi)).1 fun a ha => Int.le_trans (ih a ha) (hprec i hi (hall i hi) a ha).2
      simp only [endOf]; omega
  obtain ⟨c, hc0, hcs, _, hp⟩ := graham_to hl hr hc hW hE hall (Rn J W T).fin.toNat (by have := hstp.fin0; omega)
  have hcast : (((Rn J W T).fin.toNat : Nat) : Int) = (Rn J W T).fin := by have := hstp.fin0; omega
  rw [hcast] at hp
  have hspan0 : 0 ≤ spanTo E J.length := (spanTo_bound hE J.length (Nat.le_refl _)).1
  refine ⟨fun i hi => ?_, fun i hi a ha => (hprec i hi (hall i hi) a ha).2, fun i k hi hk hne e => hstp.apart i k hi hk hne (hall i hi) (hall k hk) e, fun i hi => hstp.le i hi (hall i hi), ?_, hstp.fin0, spanTo_le hstp.fin0 fun i hi => Int.le_trans (hend i (hc i hi)) (hstp.le i hi (hall i hi)), ?_, ?_⟩
  · have := hinv.has i hi (hall i hi)
    exact ⟨this.1, this.2.2.1, this.2.2.2.1⟩
  · rcases hstp.at_ with h | ⟨i, hi, _, he⟩
    · exact .inl h
    · exact .inr ⟨i, hi, he⟩
  · have h1 := hstp.sum
    have e1 : sumN (potJ J (Rn J W T)) J.length = 0 := by
      have h2 : sumN (potJ J (Rn J W T)) J.length = sumN (fun _ => 0) J.length := sumN_congr fun i hi => by simp [potJ, hall i hi]
      have e3 : ∀ n, sumN (fun _ => 0) n = 0 := fun n => by induction n with
        | zero => rfl
        | succ n ih => simp only [sumN, ih]; omega
      rw [h2, e3]
    have h3 := sumN_top (f := (Rn J W T).til) (c := (Rn J W T).fin) (n := W) fun w hw => (hstp.til w hw).2
    rw [sumN_len] at h1
    omega
  · have h1 : 0 ≤ pot J W (Rn J W (Rn J W T).fin.toNat) (Rn J W T).fin := pot_nonneg hl
    have h2 : ((W : Int) - 1) * c ≤ ((W : Int) - 1) * spanTo E J.length := Int.mul_le_mul_of_nonneg_left (by omega) (by omega)
    omega
theorem Graham.last {J : List JobR} {W : Nat} {E : Nat → Int} {S : PS} (h : Graham J W E S) : spanTo (endOf J S) J.length = S.fin := by
  refine Int.le_antisymm (spanTo_le h.fin0 h.le) ?_
  rcases h.at_ with h0 | ⟨i, hi, e⟩
  · rw [h0]; exact spanTo_pos _ _
  · rw [← e]; exact spanTo_ge hi
end Go.Proofs.Ytnepaaheiakimaa
