/- The plan from event to event, in plain Lean: who is told, who waits in the queue, who works. No program here. No conditions. -/
import Derived.Test.YtnepaaheiakimaaHeapM
import Derived.Test.YtnepaaheiakimaaGraphOrd
namespace Go.Proofs.Ytnepaaheiakimaa

/-- The queue holds those that have not begun and wait for nobody. -/
structure Qm (J : List JobR) (S : PS) (left : Nat → Int) (l : List Int) : Prop where
  nodup : l.Nodup
  inR : ∀ a ∈ l, okIn J.length a
  iff : ∀ j, j < J.length → ((j : Int) ∈ l ↔ S.begun j = false ∧ left j = 0)
theorem Qm.perm {J : List JobR} {S : PS} {left : Nat → Int} {l l' : List Int} (h : Qm J S left l) (hp : l'.Perm l) : Qm J S left l' :=
  ⟨hp.nodup_iff.2 h.nodup, fun a ha => h.inR a (hp.mem_iff.1 ha), fun j hj => (hp.mem_iff).trans (h.iff j hj)⟩
theorem Qm.congr {J : List JobR} {S : PS} {left left' : Nat → Int} {l : List Int} (h : Qm J S left l) (he : ∀ j, j < J.length → left' j = left j) : Qm J S left' l :=
  ⟨h.nodup, h.inR, fun j hj => by rw [he j hj]; exact h.iff j hj⟩
theorem Qm.len {J : List JobR} {S : PS} {left : Nat → Int} {l : List Int} (h : Qm J S left l) : l.length ≤ J.length := by
  have := h.nodup.length_le_of_subset (l₂ := allI J.length) (fun a ha => mem_allI.2 (h.inR a ha))
  simpa [length_allI] using this
theorem Qm.keep {J : List JobR} {S : PS} {dn l : List Int} {x m j : Nat} (h : Qm J S (Lf J dn x m) l) (hx : (x : Int) ∉ dn) (hm : m < (nx J x).length) (he : (nx J x)[m] = (j : Int)) (hne : Lf J dn x m j - 1 ≠ 0) (hj : j < J.length) : Qm J S (Lf J dn x (m + 1)) l where
  nodup := h.nodup
  inR := h.inR
  iff := fun y hy => by
    by_cases e : y = j
    · subst e
      have := Lf_pos hx hj hm he
      rw [Lf_eq hm he, h.iff y hy]
      constructor
      · rintro ⟨_, h2⟩; omega
      · rintro ⟨_, h2⟩; omega
    · rw [Lf_ne hm he e]; exact h.iff y hy
theorem Qm.push {J : List JobR} {S : PS} {dn l : List Int} {x m j : Nat} (h : Qm J S (Lf J dn x m) l) (hm : m < (nx J x).length) (he : (nx J x)[m] = (j : Int)) (hz : Lf J dn x m j - 1 = 0) (hj : j < J.length) (hb : S.begun j = false) : Qm J S (Lf J dn x (m + 1)) (l ++ [(j : Int)]) where
  nodup := by
    rw [List.nodup_append]
    refine ⟨h.nodup, by simp, fun a ha b hb => ?_⟩
    simp at hb
    subst hb
    rintro rfl
    have := ((h.iff j hj).1 ha).2
    omega
  inR := fun a ha => by
    rcases List.mem_append.1 ha with h1 | h1
    · exact h.inR a h1
    · simp at h1; subst h1; exact ⟨by omega, by omega⟩
  iff := fun y hy => by
    by_cases e : y = j
    · subst e
      rw [Lf_eq hm he]
      simp [hb]
      omega
    · rw [Lf_ne hm he e, ← h.iff y hy]
      simp
      omega
/-- Who works at what; who has been told. -/
structure Dn (J : List JobR) (W : Nat) (S : PS) (does : Nat → Int) (dn : List Int) : Prop where
  d1 : ∀ w, w < W → does w = 0 ∨ ∃ j : Nat, j < J.length ∧ does w = (j : Int) + 1 ∧ S.begun j = true ∧ S.wkr j = w ∧ (j : Int) ∉ dn
  d2 : ∀ j, j < J.length → S.begun j = true → (j : Int) ∉ dn → does (S.wkr j).toNat = (j : Int) + 1
  d3 : ∀ x ∈ dn, okIn J.length x ∧ S.begun x.toNat = true
  d4 : dn.Nodup
  d7 : ∀ j, j < J.length → S.begun j = true → cntU J dn j = 0
theorem Dn.start (J : List JobR) (W : Nat) : Dn J W .init (fun _ => 0) [] :=
  ⟨fun _ _ => .inl rfl, fun _ _ h => (by cases h), fun _ h => (by cases h), List.nodup_nil, fun _ _ h => (by cases h)⟩
/-- The worker w has come to the end of x. -/
theorem Dn.release {J : List JobR} {W : Nat} {S : PS} {does : Nat → Int} {dn : List Int} (h : Dn J W S does dn) {w x : Nat} (hw : w < W) (hx : does w = (x : Int) + 1) :
    x < J.length ∧ S.begun x = true ∧ S.wkr x = w ∧ (x : Int) ∉ dn ∧ Dn J W S (upd does w 0) (dn ++ [(x : Int)]) := by
  obtain ⟨hxJ, hb, hwk, hn⟩ : x < J.length ∧ S.begun x = true ∧ S.wkr x = w ∧ (x : Int) ∉ dn := by
    rcases h.d1 w hw with h0 | ⟨j, h1, h2, h3, h4, h5⟩
    · omega
    · have : j = x := by omega
      subst this; exact ⟨h1, h3, h4, h5⟩
  refine ⟨hxJ, hb, hwk, hn, fun w' hw' => ?_, fun j hj hbj hnj => ?_, fun y hy => ?_, ?_, fun j hj hbj => ?_⟩
  · by_cases e : w' = w
    · subst e; exact .inl (upd_eq _ _ _)
    · rw [upd_ne e]
      rcases h.d1 w' hw' with h0 | ⟨j, h1, h2, h3, h4, h5⟩
      · exact .inl h0
      · refine .inr ⟨j, h1, h2, h3, h4, fun hm => ?_⟩
        rcases List.mem_append.1 hm with hm | hm
        · exact h5 hm
        · simp at hm
          have : j = x := by omega
          subst this; omega
  · have hnj' : (j : Int) ∉ dn := fun hm => hnj (List.mem_append_left _ hm)
    have hjx : j ≠ x := fun e => by subst e; exact hnj (by simp)
    have := h.d2 j hj hbj hnj'
    rw [upd_ne]
    · exact this
    · intro e; rw [e, hx] at this; omega
  · rcases List.mem_append.1 hy with hy | hy
    · exact h.d3 y hy
    · simp at hy; subst hy; exact ⟨⟨by omega, by omega⟩, by simpa using hb⟩
  · rw [List.nodup_append]
    exact ⟨h.d4, by simp, fun a ha b hb => by simp at hb; subst hb; rintro rfl; exact hn ha⟩
  · have := cntU_snoc J dn x j hn
    have := h.d7 j hj hbj
    omega
/-- The worker w, free, takes x. -/
theorem Dn.assign {J : List JobR} {W : Nat} {S : PS} {does : Nat → Int} {dn : List Int} (h : Dn J W S does dn) {w x : Nat} {t : Int} (h0 : does w = 0) (hx : x < J.length) (hb : S.begun x = false) (hc : cntU J dn x = 0) :
    Dn J W (asg J t w x S) (upd does w ((x : Int) + 1)) dn where
  d1 := fun w' hw' => by
    by_cases e : w' = w
    · subst e
      refine .inr ⟨x, hx, upd_eq _ _ _, upd_eq _ _ _, upd_eq _ _ _, fun hm => ?_⟩
      have := (h.d3 _ hm).2
      rw [Int.toNat_natCast, hb] at this
      cases this
    · rw [upd_ne e]
      rcases h.d1 w' hw' with h1 | ⟨j, h1, h2, h3, h4, h5⟩
      · exact .inl h1
      · have hjx : j ≠ x := fun e => by subst e; rw [hb] at h3; cases h3
        exact .inr ⟨j, h1, h2, by simp only [asg, upd_ne hjx]; exact h3, by simp only [asg, upd_ne hjx]; exact h4, h5⟩
  d2 := fun j hj hbj hnj => by
    by_cases e : j = x
    · subst e
      simp only [asg, upd_eq, Int.toNat_natCast]
    · simp only [asg, upd_ne e] at hbj ⊢
      have := h.d2 j hj hbj hnj
      rw [upd_ne]
      · exact this
      · intro e; rw [e, h0] at this; omega
  d3 := fun y hy => by
    refine ⟨(h.d3 y hy).1, ?_⟩
    simp only [asg, upd]
    split
    · rfl
    · exact (h.d3 y hy).2
  d4 := h.d4
  d7 := fun j hj hbj => by
    by_cases e : j = x
    · subst e; exact hc
    · simp only [asg, upd_ne e] at hbj
      exact h.d7 j hj hbj
/-- The queue without x, which has begun. -/
theorem Qm.pop {J : List JobR} {S : PS} {left : Nat → Int} {l l' : List Int} {x w : Nat} {t : Int} (h : Qm J S left l) (hp : ((x : Int) :: l').Perm l) : Qm J (asg J t w x S) left l' := by
  have h1 := h.perm hp
  have h2 := List.nodup_cons.1 h1.nodup
  refine ⟨h2.2, fun a ha => h1.inR a (List.mem_cons_of_mem _ ha), fun j hj => ?_⟩
  have h3 := h1.iff j hj
  by_cases e : j = x
  · subst e
    simp only [asg, upd_eq]
    simp [h2.1]
  · simp only [asg, upd_ne e]
    rw [← h3, List.mem_cons]
    constructor
    · exact .inr
    · rintro (h4 | h4)
      · omega
      · exact h4
/-- When the ended have been told: those that are ready are in the queue. -/
def Told (J : List JobR) (ov : Nat → Bool) (dn : List Int) : Prop := ∀ a, okIn J.length a → (ov a.toNat = true ↔ a ∈ dn)
theorem Told.rdy {J : List JobR} {ov : Nat → Bool} {dn : List Int} (h : Told J ov dn) (hr : ∀ i, ∀ a ∈ aft J i, okIn J.length a) (begun : Nat → Bool) (i : Nat) : rdy J begun ov i = true ↔ begun i = false ∧ cntU J dn i = 0 := by
  unfold Go.Proofs.Ytnepaaheiakimaa.rdy
  rw [Bool.and_eq_true, List.all_eq_true, Bool.not_eq_true']
  refine and_congr_right fun _ => ⟨fun hh => cntU_of fun a ha => (h a (hr i a ha)).1 (hh a ha), fun hh a ha => (h a (hr i a ha)).2 (cntU_zero hh a ha)⟩
theorem told_of {J : List JobR} {W : Nat} {S : PS} {does : Nat → Int} {dn : List Int} {t : Int} (h : Dn J W S does dn) (hp : PInv J W t S) (t1 : ∀ w, w < W → ∀ j : Nat, does w = (j : Int) + 1 → t < endOf J S j) (t2 : ∀ x ∈ dn, endOf J S x.toNat ≤ t) : Told J (over J S t) dn := by
  intro a ha
  simp only [okIn] at ha
  unfold over
  rw [Bool.and_eq_true, decide_eq_true_eq]
  have hcast : ((a.toNat : Nat) : Int) = a := by omega
  constructor
  · rintro ⟨hb, he⟩
    refine Classical.byContradiction fun hn => ?_
    have := h.d2 a.toNat (by omega) hb (by rwa [hcast])
    have h3 := hp.has a.toNat (by omega) hb
    have := t1 _ (by omega) _ this
    omega
  · intro hm
    exact ⟨(h.d3 a hm).2, t2 a hm⟩
theorem best_of {J : List JobR} {S : PS} {ov : Nat → Bool} {dn l : List Int} {x : Nat} (ht : Told J ov dn) (hr : ∀ i, ∀ a ∈ aft J i, okIn J.length a) (hq : Qm J S (fun j => cntU J dn j) l) (hx : (x : Int) ∈ l) (hmin : ∀ y ∈ l, ¬ sI J y x) : bestTo J (rdy J S.begun ov) J.length = (x : Int) := by
  have hxr := hq.inR _ hx
  simp only [okIn] at hxr
  have hxJ : x < J.length := by omega
  refine bestTo_of hxJ ((ht.rdy hr _ _).2 (by have := (hq.iff x hxJ).1 hx; exact ⟨this.1, by omega⟩)) fun i hi hri => ?_
  have hri := (ht.rdy hr _ _).1 hri
  have him := (hq.iff i hi).2 ⟨hri.1, by omega⟩
  have h1 := hmin _ him
  rcases (sI_strict J).conn (i : Int) (x : Int) with h2 | h2 | h2
  · exact absurd h2 h1
  · exact .inl (by omega)
  · refine .inr ?_
    have := (sI_iff (by omega) (by omega)).1 h2
    simpa using this
theorem best_none {J : List JobR} {S : PS} {ov : Nat → Bool} {dn : List Int} (ht : Told J ov dn) (hr : ∀ i, ∀ a ∈ aft J i, okIn J.length a) (hq : Qm J S (fun j => cntU J dn j) []) : bestTo J (rdy J S.begun ov) J.length < 0 := by
  rw [bestTo_neg]
  · decide
  · intro i hi
    cases hri : rdy J S.begun ov i with
    | false => rfl
    | true =>
      have hri := (ht.rdy hr _ _).1 hri
      have := (hq.iff i hi).2 ⟨hri.1, by omega⟩
      cases this
theorem free_iff {J : List JobR} {W : Nat} {S S0 : PS} {ov : Nat → Bool} {does : Nat → Int} {dn : List Int} {t : Int} {u : Nat} (h : Dn J W S does dn) (hp : PMid J W t ov S0 S u) (h0 : 0 ≤ t) (t1 : ∀ w, w < W → ∀ j : Nat, does w = (j : Int) + 1 → t < endOf J S j) (t2 : ∀ x ∈ dn, endOf J S x.toNat ≤ t) {w : Nat} (hw : w < W) : does w = 0 ↔ ¬ t < S.til w := by
  constructor
  · intro hd hlt
    rcases hp.til w hw with h1 | ⟨i, hi, hb, hwk, he⟩
    · omega
    · by_cases hm : (i : Int) ∈ dn
      · have := t2 _ hm
        rw [Int.toNat_natCast] at this
        omega
      · have := h.d2 i hi hb hm
        rw [hwk, Int.toNat_natCast, hd] at this
        omega
  · intro hlt
    rcases h.d1 w hw with h1 | ⟨j, h1, h2, h3, h4, h5⟩
    · exact h1
    · have h6 := t1 w hw j h2
      have h7 := hp.has j h1 h3
      rw [h4, Int.toNat_natCast] at h7
      omega
/-- The next end: 0 where nobody works. -/
def endsTo (J : List JobR) (S : PS) (does : Nat → Int) : Nat → Int
  | 0 => 0
  | k + 1 => if 0 < does k ∧ (endsTo J S does k = 0 ∨ endOf J S (does k - 1).toNat < endsTo J S does k) then endOf J S (does k - 1).toNat else endsTo J S does k
theorem endsTo_spec {J : List JobR} {S : PS} {does : Nat → Int} {t : Int} (h0 : 0 ≤ t) : ∀ {k : Nat}, (∀ w, w < k → 0 < does w → t < endOf J S (does w - 1).toNat) → (endsTo J S does k = 0 ∧ ∀ w, w < k → ¬ 0 < does w) ∨ (t < endsTo J S does k ∧ ∀ w, w < k → 0 < does w → endsTo J S does k ≤ endOf J S (does w - 1).toNat)
  | 0, _ => .inl ⟨rfl, fun w hw => by omega⟩
  | k + 1, h => by
    have ih := endsTo_spec (J := J) (S := S) (does := does) h0 (k := k) fun w hw => h w (by omega)
    have hk := h k (by omega)
    simp only [endsTo]
    split
    · rename_i hc
      refine .inr ⟨hk hc.1, fun w hw hd => ?_⟩
      by_cases e : w = k
      · subst e; exact Int.le_refl _
      · rcases ih with ⟨_, h2⟩ | ⟨h1, h2⟩
        · exact absurd hd (h2 w (by omega))
        · have := h2 w (by omega) hd
          rcases hc.2 with h3 | h3
          · omega
          · omega
    · rename_i hc
      rcases ih with ⟨h1, h2⟩ | ⟨h1, h2⟩
      · refine .inl ⟨h1, fun w hw hd => ?_⟩
        by_cases e : w = k
        · subst e; exact hc ⟨hd, .inl h1⟩
        · exact h2 w (by omega) hd
      · refine .inr ⟨h1, fun w hw hd => ?_⟩
        by_cases e : w = k
        · subst e
          refine Int.not_lt.1 fun h3 => hc ⟨hd, .inr h3⟩
        · exact h2 w (by omega) hd
/-- From the phase at t to the next event. -/
theorem next_event {J : List JobR} {W t : Nat} {does : Nat → Int} {dn : List Int} (hl : ∀ i, i < J.length → 1 ≤ lenOf J i) (hr : ∀ i, ∀ a ∈ aft J i, okIn J.length a) (hc : ∀ i, i < J.length → Can J i) (hW : 1 ≤ W)
    (h : Dn J W (Rn J W (t + 1)) does dn) (t1 : ∀ w, w < W → ∀ j : Nat, does w = (j : Int) + 1 → (t : Int) < endOf J (Rn J W (t + 1)) j) (t2 : ∀ x ∈ dn, endOf J (Rn J W (t + 1)) x.toNat ≤ t) :
    (endsTo J (Rn J W (t + 1)) does W = 0 ∧ AllBegun J (Rn J W (t + 1))) ∨ ∃ e : Nat, endsTo J (Rn J W (t + 1)) does W = e ∧ t < e ∧ Rn J W e = Rn J W (t + 1) := by
  have hm : PMid J W t (over J (Rn J W t) t) (Rn J W t) (Rn J W (t + 1)) W := PMid.upto (Rn_inv W hl t) (over J (Rn J W t) t) hl (by omega) W (Nat.le_refl _)
  have hfree := fun {w : Nat} (hw : w < W) => free_iff h hm (by omega) t1 t2 hw
  have hpos : ∀ w, w < W → 0 < does w → (t : Int) < endOf J (Rn J W (t + 1)) (does w - 1).toNat := fun w hw hd => t1 w hw _ (by omega)
  rcases endsTo_spec (by omega) hpos with ⟨h1, h2⟩ | ⟨h1, h2⟩
  · refine .inl ⟨h1, fun i hi => ?_⟩
    cases hb : (Rn J W (t + 1)).begun i with
    | true => rfl
    | false =>
      obtain ⟨w, hw, hlt⟩ := phase_busy (Rn_inv W hl t) hl (by omega) hW hr hc hi hb
      have h3 := h2 w hw
      have h4 : does w = 0 := by
        rcases h.d1 w hw with h5 | ⟨j, _, h5, _⟩
        · exact h5
        · omega
      exact absurd hlt ((hfree hw).1 h4)
  · refine .inr ⟨(endsTo J (Rn J W (t + 1)) does W).toNat, by omega, by omega, ?_⟩
    have := Rn_event hl hr t (endsTo J (Rn J W (t + 1)) does W).toNat (W := W) (fun w hw hlt => by
      have h3 : ¬ does w = 0 := fun h3 => (hfree hw).1 h3 hlt
      rcases h.d1 w hw with h5 | ⟨j, hj, h5, h6, h7, _⟩
      · exact absurd h5 h3
      · have h8 := h2 w hw (by omega)
        rw [show (does w - 1).toNat = j by omega] at h8
        have h9 := hm.has j hj h6
        rw [h7, Int.toNat_natCast] at h9
        omega) ((endsTo J (Rn J W (t + 1)) does W).toNat - (t + 1)) (by omega)
    rwa [show t + 1 + ((endsTo J (Rn J W (t + 1)) does W).toNat - (t + 1)) = (endsTo J (Rn J W (t + 1)) does W).toNat by omega] at this
end Go.Proofs.Ytnepaaheiakimaa
