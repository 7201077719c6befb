/- HU: in a forest whose edges lead up, the round that takes the deepest of those that are free leaves the least to do. In plain Lean; no program. No conditions but those named. -/
namespace Go.Proofs.Ytokjchcmjglbhaa

/-- How many below n meet p. -/
def cnt (p : Nat → Bool) : Nat → Nat
  | 0 => 0
  | n + 1 => cnt p n + (if p n then 1 else 0)
theorem cnt_mono {p q : Nat → Bool} : ∀ {n : Nat}, (∀ i, i < n → p i = true → q i = true) → cnt p n ≤ cnt q n
  | 0, _ => Nat.le_refl _
  | n + 1, h => by
    have ih := cnt_mono (p := p) (q := q) (n := n) fun i hi => h i (by omega)
    have := h n (by omega)
    simp only [cnt]
    cases hp : p n <;> cases hq : q n <;> simp_all <;> omega
theorem cnt_congr {p q : Nat → Bool} {n : Nat} (h : ∀ i, i < n → p i = q i) : cnt p n = cnt q n :=
  Nat.le_antisymm (cnt_mono fun i hi hp => by rw [← h i hi]; exact hp) (cnt_mono fun i hi hp => by rw [h i hi]; exact hp)
theorem cnt_zero {p : Nat → Bool} : ∀ {n : Nat}, (∀ i, i < n → p i = false) → cnt p n = 0
  | 0, _ => rfl
  | n + 1, h => by simp [cnt, cnt_zero (n := n) fun i hi => h i (by omega), h n (by omega)]
theorem cnt_pos {p : Nat → Bool} : ∀ {n : Nat}, 0 < cnt p n → ∃ i, i < n ∧ p i = true
  | n + 1, h => by
    simp only [cnt] at h
    cases hp : p n with
    | true => exact ⟨n, by omega, hp⟩
    | false =>
      obtain ⟨i, hi, hp'⟩ := cnt_pos (p := p) (n := n) (by simp [hp] at h; exact h)
      exact ⟨i, by omega, hp'⟩
theorem cnt_of {p : Nat → Bool} {i : Nat} (hp : p i = true) : ∀ {n : Nat}, i < n → 0 < cnt p n
  | n + 1, hi => by
    simp only [cnt]
    by_cases e : i = n
    · subst e; simp [hp]
    · have := cnt_of hp (n := n) (by omega); omega
theorem cnt_or {p q r : Nat → Bool} : ∀ {n : Nat}, (∀ i, i < n → p i = true → q i = true ∨ r i = true) → cnt p n ≤ cnt q n + cnt r n
  | 0, _ => Nat.zero_le _
  | n + 1, h => by
    have ih := cnt_or (p := p) (q := q) (r := r) (n := n) fun i hi => h i (by omega)
    have := h n (by omega)
    simp only [cnt]
    cases hp : p n <;> cases hq : q n <;> cases hr : r n <;> simp_all <;> omega
theorem cnt_split {p q : Nat → Bool} : ∀ {n : Nat}, cnt p n = cnt (fun i => p i && q i) n + cnt (fun i => p i && !q i) n
  | 0 => rfl
  | n + 1 => by
    have ih := cnt_split (p := p) (q := q) (n := n)
    simp only [cnt]
    by_cases hp : p n = true <;> by_cases hq : q n = true <;> simp [hp, hq] <;> omega
theorem cnt_mem {X : List Nat} : ∀ {n : Nat}, X.Nodup → (∀ x ∈ X, x < n) → cnt (fun i => decide (i ∈ X)) n = X.length
  | 0, _, h => by
    cases X with
    | nil => rfl
    | cons x X => exact absurd (h x (by simp)) (by omega)
  | n + 1, hd, h => by
    simp only [cnt]
    by_cases hn : n ∈ X
    · have h1 : (X.erase n).Nodup := hd.erase n
      have h2 : ∀ x ∈ X.erase n, x < n := fun x hx => by
        have h3 := (hd.mem_erase_iff.1 hx)
        have := h x h3.2
        have := h3.1
        omega
      have ih := cnt_mem h1 h2
      have e : cnt (fun i => decide (i ∈ X)) n = cnt (fun i => decide (i ∈ X.erase n)) n := cnt_congr fun i hi => by
        have : i ∈ X ↔ i ∈ X.erase n := by rw [hd.mem_erase_iff]; exact ⟨fun h => ⟨by omega, h⟩, fun h => h.2⟩
        simp [this]
      rw [e, ih, List.length_erase_of_mem hn]
      have := List.length_pos_of_mem hn
      simp [hn]; omega
    · have ih := cnt_mem (n := n) hd fun x hx => by
        have := h x hx
        have : x ≠ n := fun e => hn (e ▸ hx)
        omega
      simp [hn, ih]

/-! ### The forest -/
structure Forest (n : Nat) (par : Nat → Int) (dep : Nat → Nat) : Prop where
  lo : ∀ i, i < n → par i < i
  root : ∀ i, i < n → par i < 0 → dep i = 1
  up : ∀ i, i < n → 0 ≤ par i → dep i = dep (par i).toNat + 1
section
variable {n m : Nat} {par : Nat → Int} {dep : Nat → Nat}
theorem Forest.pos (F : Forest n par dep) {i : Nat} (hi : i < n) : 1 ≤ dep i := by
  by_cases h : par i < 0
  · rw [F.root i hi h]; exact Nat.le_refl _
  · rw [F.up i hi (by omega)]; omega
def leafU (n : Nat) (par : Nat → Int) (U : Nat → Bool) (i : Nat) : Prop := U i = true ∧ ∀ k, k < n → U k = true → par k ≠ (i : Int)
def closedU (n : Nat) (par : Nat → Int) (U : Nat → Bool) : Prop := ∀ k, k < n → U k = true → 0 ≤ par k → U (par k).toNat = true
/-- How many remain deeper than j. -/
def deepN (n : Nat) (dep : Nat → Nat) (U : Nat → Bool) (j : Nat) : Nat := cnt (fun i => U i && decide (j < dep i)) n
def ceilD (a m : Nat) : Nat := (a + m - 1) / m
theorem ceilD_le {a m k : Nat} (hm : 0 < m) : ceilD a m ≤ k ↔ a ≤ k * m := by
  unfold ceilD
  rw [Nat.div_le_iff_le_mul_add_pred hm]
  rw [Nat.mul_comm m k]
  omega
theorem ceilD_ge {a m k : Nat} (hm : 0 < m) : k + 1 ≤ ceilD a m ↔ k * m < a := by
  have := ceilD_le (a := a) (k := k) hm
  omega
/-- No more than r rounds are needed, by the count of those deeper than each depth. -/
def LeR (n m : Nat) (dep : Nat → Nat) (U : Nat → Bool) (r : Nat) : Prop := ∀ j, 0 < deepN n dep U j → j + ceilD (deepN n dep U j) m ≤ r
def GeR (n m : Nat) (dep : Nat → Nat) (U : Nat → Bool) (r : Nat) : Prop := r = 0 ∨ ∃ j, 0 < deepN n dep U j ∧ r ≤ j + ceilD (deepN n dep U j) m
/-- One round: X, some of the leaves, are done. -/
structure Rnd (n m : Nat) (par : Nat → Int) (U U' : Nat → Bool) (X : List Nat) : Prop where
  nodup : X.Nodup
  leaf : ∀ x ∈ X, x < n ∧ leafU n par U x
  size : X.length ≤ m
  out : ∀ i, i < n → U' i = (U i && !decide (i ∈ X))
theorem Rnd.closed {U U' : Nat → Bool} {X : List Nat} (F : Forest n par dep) (h : Rnd n m par U U' X) (hc : closedU n par U) : closedU n par U' := fun k hk hu hp => by
  rw [h.out k hk, Bool.and_eq_true] at hu
  have hlo := F.lo k hk
  have h1 := hc k hk hu.1 hp
  rw [h.out _ (by omega), h1, Bool.true_and, Bool.not_eq_true', decide_eq_false_iff_not]
  intro hx
  have := (h.leaf _ hx).2.2 k hk hu.1
  omega
theorem Rnd.deep {U U' : Nat → Bool} {X : List Nat} (h : Rnd n m par U U' X) (j : Nat) : deepN n dep U' j ≤ deepN n dep U j ∧ deepN n dep U j ≤ deepN n dep U' j + X.length := by
  constructor
  · refine cnt_mono fun i hi hp => ?_
    rw [h.out i hi] at hp
    simp only [Bool.and_eq_true] at hp ⊢
    exact ⟨hp.1.1, hp.2⟩
  · have := cnt_or (p := fun i => U i && decide (j < dep i)) (q := fun i => U' i && decide (j < dep i)) (r := fun i => decide (i ∈ X)) (n := n) fun i hi hp => by
      rw [h.out i hi]
      simp only [Bool.and_eq_true] at hp ⊢
      by_cases e : i ∈ X
      · exact .inr (by simpa using e)
      · exact .inl ⟨⟨hp.1, by simpa using e⟩, hp.2⟩
    rw [cnt_mem h.nodup fun x hx => (h.leaf x hx).1] at this
    exact this
theorem deep_anti {U : Nat → Bool} {j j' : Nat} (h : j ≤ j') : deepN n dep U j' ≤ deepN n dep U j := cnt_mono fun i _ hp => by
  simp only [Bool.and_eq_true, decide_eq_true_eq] at hp ⊢
  exact ⟨hp.1, by omega⟩
/-- Whoever remains deep has one above at each lesser depth. -/
theorem has_depth (F : Forest n par dep) {U : Nat → Bool} (hc : closedU n par U) : ∀ (d i : Nat), i < n → U i = true → d < dep i → 1 ≤ d → ∃ k, k < n ∧ U k = true ∧ dep k = d ∧ ¬ leafU n par U k := by
  intro d i
  induction i using Nat.strongRecOn with
  | _ i ih =>
    intro hi hu hd h1
    have hlo := F.lo i hi
    by_cases hp : par i < 0
    · have := F.root i hi hp; omega
    · have hup := F.up i hi (by omega)
      have hpu := hc i hi hu (by omega)
      by_cases e : dep (par i).toNat = d
      · exact ⟨(par i).toNat, by omega, hpu, e, fun hl => hl.2 i hi hu (by omega)⟩
      · exact ih (par i).toNat (by omega) (by omega) hpu (by omega) h1
/-- WHATEVER a round takes, it brings no more than one round's gain. -/
theorem GeR.any {U U' : Nat → Bool} {X : List Nat} (F : Forest n par dep) (hm : 0 < m) (hc : closedU n par U) (h : Rnd n m par U U' X) {r : Nat} (hg : GeR n m dep U (r + 1)) : GeR n m dep U' r := by
  rcases hg with h0 | ⟨j, hj, hr⟩
  · omega
  · rcases Nat.eq_zero_or_pos r with hr0 | hr0
    · exact .inl hr0
    right
    have hd := h.deep (dep := dep) j
    have hs := h.size
    by_cases hz : deepN n dep U' j = 0
    · -- all those below j are done: so there is one at the depth j
      have hle : ceilD (deepN n dep U j) m ≤ 1 := (ceilD_le hm).2 (by omega)
      have hjr : r ≤ j := by omega
      obtain ⟨i, hi, hp⟩ := cnt_pos hj
      simp only [Bool.and_eq_true, decide_eq_true_eq] at hp
      obtain ⟨k, hk, hku, hkd, hkl⟩ := has_depth F hc j i hi hp.1 hp.2 (by omega)
      have hk' : U' k = true := by
        rw [h.out k hk, hku, Bool.true_and, Bool.not_eq_true', decide_eq_false_iff_not]
        exact fun hx => hkl (h.leaf k hx).2
      have hpos : 0 < deepN n dep U' (j - 1) := cnt_of (i := k) (by simp only [Bool.and_eq_true, decide_eq_true_eq]; exact ⟨hk', by omega⟩) hk
      refine ⟨j - 1, hpos, ?_⟩
      have : 0 + 1 ≤ ceilD (deepN n dep U' (j - 1)) m := (ceilD_ge hm).2 (by omega)
      omega
    · refine ⟨j, by omega, ?_⟩
      by_cases hjr : r ≤ j
      · omega
      · obtain ⟨q, hq⟩ : ∃ q, r = j + (q + 1) := ⟨r - j - 1, by omega⟩
        have h1 : (q + 1) + 1 ≤ ceilD (deepN n dep U j) m := by omega
        rw [ceilD_ge hm] at h1
        have h2 : q + 1 ≤ ceilD (deepN n dep U' j) m := by
          rw [ceilD_ge hm]
          rw [Nat.add_mul] at h1
          omega
        omega
/-- How many of a depth: no more than there are leaves there or below. -/
theorem level_le (F : Forest n par dep) {U : Nat → Bool} (hc : closedU n par U) {lf : Nat → Bool} (hl : ∀ i, i < n → (lf i = true ↔ leafU n par U i)) : ∀ (k d : Nat), 1 ≤ d → (∀ i, i < n → U i = true → dep i < d + k) →
    cnt (fun i => U i && decide (dep i = d)) n ≤ cnt (fun i => lf i && decide (d ≤ dep i)) n
  | 0, d, _, h => by
    rw [cnt_zero]
    · exact Nat.zero_le _
    · intro i hi
      cases hu : U i with
      | false => rfl
      | true => have := h i hi hu; simp; omega
  | k + 1, d, hd, h => by
    have ih := level_le F hc hl k (d + 1) (by omega) fun i hi hu => by have := h i hi hu; omega
    -- those that are no leaves have one below, each one its own
    have hinner : cnt (fun i => (U i && decide (dep i = d)) && !lf i) n ≤ cnt (fun i => U i && decide (dep i = d + 1)) n := by
      have key : ∀ a, a ≤ n → cnt (fun i => (U i && decide (dep i = d)) && !lf i && decide (∃ k, k < a ∧ U k = true ∧ par k = (i : Int))) n ≤ cnt (fun i => U i && decide (dep i = d + 1)) a := by
        intro a
        induction a with
        | zero => intro _; rw [cnt_zero]; · exact Nat.zero_le _
                  · intro i _; simp
        | succ a iha =>
          intro ha
          have iha := iha (by omega)
          simp only [cnt]
          by_cases hua : U a = true ∧ 0 ≤ par a ∧ dep a = d + 1
          · have h1 := cnt_or (p := fun i => (U i && decide (dep i = d)) && !lf i && decide (∃ k, k < a + 1 ∧ U k = true ∧ par k = (i : Int)))
              (q := fun i => (U i && decide (dep i = d)) && !lf i && decide (∃ k, k < a ∧ U k = true ∧ par k = (i : Int))) (r := fun i => decide (i ∈ [(par a).toNat])) (n := n) (fun i hi hp => by
                simp only [Bool.and_eq_true, decide_eq_true_eq] at hp ⊢
                obtain ⟨hp1, k, hk, hku, hkp⟩ := hp
                by_cases e : k = a
                · subst e; right; simp; omega
                · exact .inl ⟨hp1, k, by omega, hku, hkp⟩)
            have h2 : cnt (fun i => decide (i ∈ [(par a).toNat])) n = 1 := cnt_mem (by simp) (fun x hx => by simp at hx; subst hx; have := F.lo a (by omega); omega)
            have h3 : (U a && decide (dep a = d + 1)) = true := by simp [hua.1, hua.2.2]
            rw [if_pos h3]
            omega
          · have h1 : cnt (fun i => (U i && decide (dep i = d)) && !lf i && decide (∃ k, k < a + 1 ∧ U k = true ∧ par k = (i : Int))) n ≤ cnt (fun i => (U i && decide (dep i = d)) && !lf i && decide (∃ k, k < a ∧ U k = true ∧ par k = (i : Int))) n := cnt_mono fun i hi hp => by
              simp only [Bool.and_eq_true, decide_eq_true_eq] at hp ⊢
              obtain ⟨hp1, k, hk, hku, hkp⟩ := hp
              refine ⟨hp1, k, ?_, hku, hkp⟩
              by_cases e : k = a
              · subst e
                refine absurd ⟨hku, by omega, ?_⟩ hua
                rw [F.up k (by omega) (by omega), hkp, Int.toNat_natCast, hp1.1.2]
              · omega
            omega
      refine Nat.le_trans (cnt_mono fun i hi hp => ?_) (key n (Nat.le_refl _))
      rw [Bool.and_eq_true]
      refine ⟨hp, ?_⟩
      simp only [Bool.and_eq_true, decide_eq_true_eq, Bool.not_eq_true'] at hp ⊢
      refine Classical.byContradiction fun hno => ?_
      have : lf i = true := (hl i hi).2 ⟨hp.1.1, fun k hk hku e => hno ⟨k, hk, hku, e⟩⟩
      rw [hp.2] at this
      cases this
    have hs := cnt_split (p := fun i => U i && decide (dep i = d)) (q := lf) (n := n)
    have hsum : cnt (fun i => (U i && decide (dep i = d)) && lf i) n + cnt (fun i => lf i && decide (d + 1 ≤ dep i)) n ≤ cnt (fun i => lf i && decide (d ≤ dep i)) n := by
      rw [cnt_split (p := fun i => lf i && decide (d ≤ dep i)) (q := fun i => decide (dep i = d)) (n := n)]
      refine Nat.add_le_add (cnt_mono fun i hi hp => ?_) (cnt_mono fun i hi hp => ?_)
      · simp only [Bool.and_eq_true, decide_eq_true_eq] at hp ⊢
        exact ⟨⟨hp.2, by omega⟩, hp.1.2⟩
      · simp only [Bool.and_eq_true, decide_eq_true_eq, Bool.not_eq_true', decide_eq_false_iff_not] at hp ⊢
        exact ⟨⟨hp.1, by omega⟩, by omega⟩
    omega
/-- Levels, summed. -/
theorem deep_levels {U : Nat → Bool} {j L : Nat} (hL : ∀ d, j < d → cnt (fun i => U i && decide (dep i = d)) n ≤ L) : ∀ (k : Nat), (∀ i, i < n → U i = true → dep i ≤ j + k) → deepN n dep U j ≤ k * L := by
  intro k
  have key : ∀ k, cnt (fun i => U i && decide (j < dep i ∧ dep i ≤ j + k)) n ≤ k * L := by
    intro k
    induction k with
    | zero =>
      rw [cnt_zero]
      · exact Nat.zero_le _
      · intro i _
        simp
    | succ k ih =>
      have h1 := cnt_or (p := fun i => U i && decide (j < dep i ∧ dep i ≤ j + (k + 1))) (q := fun i => U i && decide (j < dep i ∧ dep i ≤ j + k)) (r := fun i => U i && decide (dep i = j + (k + 1))) (n := n) (fun i hi hp => by
        simp only [Bool.and_eq_true, decide_eq_true_eq] at hp ⊢
        by_cases e : dep i = j + (k + 1)
        · exact .inr ⟨hp.1, e⟩
        · exact .inl ⟨hp.1, hp.2.1, by omega⟩)
      have h2 := hL (j + (k + 1)) (by omega)
      rw [Nat.add_mul]
      omega
  intro h
  refine Nat.le_trans (cnt_mono fun i hi hp => ?_) (key k)
  simp only [Bool.and_eq_true, decide_eq_true_eq] at hp ⊢
  exact ⟨hp.1, hp.2, h i hi hp.1⟩
theorem deepest_of {U : Nat → Bool} : ∀ {n : Nat}, (∃ i, i < n ∧ U i = true) → ∃ h, (∃ i, i < n ∧ U i = true ∧ dep i = h) ∧ ∀ i, i < n → U i = true → dep i ≤ h
  | 0, ⟨i, hi, _⟩ => by omega
  | n + 1, ⟨i, hi, hu⟩ => by
    by_cases hr : ∃ i, i < n ∧ U i = true
    · obtain ⟨h, ⟨i', hi', hu', hd'⟩, hm⟩ := deepest_of hr
      by_cases hn : U n = true ∧ h < dep n
      · refine ⟨dep n, ⟨n, by omega, hn.1, rfl⟩, fun k hk hku => ?_⟩
        by_cases e : k = n
        · subst e; exact Nat.le_refl _
        · have := hm k (by omega) hku; omega
      · refine ⟨h, ⟨i', by omega, hu', hd'⟩, fun k hk hku => ?_⟩
        by_cases e : k = n
        · subst e
          exact Nat.le_of_not_lt fun hlt => hn ⟨hku, hlt⟩
        · exact hm k (by omega) hku
    · have e : i = n := Classical.byContradiction fun hne => hr ⟨i, by omega, hu⟩
      subst e
      refine ⟨dep i, ⟨i, by omega, hu, rfl⟩, fun k hk hku => ?_⟩
      by_cases e : k = i
      · subst e; exact Nat.le_refl _
      · exact absurd ⟨k, by omega, hku⟩ hr
/-- All leaves that lie deeper than j are done: then what remains is one level less deep, and narrow. -/
theorem LeR.hu_case {U U' : Nat → Bool} {X : List Nat} (F : Forest n par dep) (hm : 0 < m) (hc : closedU n par U) (h : Rnd n m par U U' X) {lf : Nat → Bool} (hlf : ∀ i, i < n → (lf i = true ↔ leafU n par U i)) {j r : Nat}
    (hall : ∀ i, i < n → leafU n par U i → j < dep i → i ∈ X) (hg : LeR n m dep U (r + 1)) (hj : 0 < deepN n dep U' j) : j + ceilD (deepN n dep U' j) m ≤ r := by
  obtain ⟨i, hi, hp⟩ := cnt_pos hj
  simp only [Bool.and_eq_true, decide_eq_true_eq] at hp
  have hUi : ∀ i, i < n → U' i = true → U i = true := fun i hi hu => by
    rw [h.out i hi, Bool.and_eq_true] at hu; exact hu.1
  obtain ⟨H, ⟨i', hi', hu', hd'⟩, hmax⟩ := deepest_of (dep := dep) (n := n) (U := U) ⟨i, hi, hUi i hi hp.1⟩
  have hH1 := F.pos hi'
  -- the deepest are leaves
  have hlow : ∀ i, i < n → U' i = true → dep i ≤ j + (H - 1 - j) := fun k hk hku => by
    by_cases hkj : dep k ≤ j
    · omega
    · have h1 := hmax k hk (hUi k hk hku)
      by_cases e : dep k = H
      · have hleaf : leafU n par U k := ⟨hUi k hk hku, fun c hcn hcu hcp => by
          have h2 := hmax c hcn hcu
          have h3 := F.up c hcn (by omega)
          rw [hcp, Int.toNat_natCast] at h3
          omega⟩
        have hx := hall k hk hleaf (by omega)
        rw [h.out k hk] at hku
        simp [hx] at hku
      · omega
  have hlev : ∀ d, j < d → cnt (fun i => U' i && decide (dep i = d)) n ≤ m := fun d hd => by
    have h1 : cnt (fun i => U' i && decide (dep i = d)) n ≤ cnt (fun i => U i && decide (dep i = d)) n := cnt_mono fun i hi hp => by
      simp only [Bool.and_eq_true] at hp ⊢
      exact ⟨hUi i hi hp.1, hp.2⟩
    have h2 := level_le F hc hlf (H + 1) d (by omega) fun i hi hu => by have := hmax i hi hu; omega
    have h3 : cnt (fun i => lf i && decide (d ≤ dep i)) n ≤ cnt (fun i => decide (i ∈ X)) n := cnt_mono fun i hi hp => by
      simp only [Bool.and_eq_true, decide_eq_true_eq] at hp ⊢
      exact hall i hi ((hlf i hi).1 hp.1) (by omega)
    rw [cnt_mem h.nodup fun x hx => (h.leaf x hx).1] at h3
    have := h.size
    omega
  have hN := deep_levels (dep := dep) hlev (H - 1 - j) hlow
  have h1 : ceilD (deepN n dep U' j) m ≤ H - 1 - j := (ceilD_le hm).2 hN
  have h2 : 0 < deepN n dep U (H - 1) := cnt_of (i := i') (by simp only [Bool.and_eq_true, decide_eq_true_eq]; exact ⟨hu', by omega⟩) hi'
  have h3 := hg (H - 1) h2
  have h4 : 0 + 1 ≤ ceilD (deepN n dep U (H - 1)) m := (ceilD_ge hm).2 (by omega)
  have h5 := hmax i hi (hUi i hi hp.1)
  have h6 := hlow i hi hp.1
  omega
/-- HU's round: the deepest of the leaves; all of them, where they are fewer than m. -/
structure Hu (n m : Nat) (par : Nat → Int) (dep : Nat → Nat) (U U' : Nat → Bool) (X : List Nat) : Prop extends Rnd n m par U U' X where
  full : X.length = m ∨ ∀ i, i < n → leafU n par U i → i ∈ X
  deepest : ∀ x ∈ X, ∀ i, i < n → leafU n par U i → i ∉ X → dep i ≤ dep x
theorem LeR.hu {U U' : Nat → Bool} {X : List Nat} (F : Forest n par dep) (hm : 0 < m) (hc : closedU n par U) (h : Hu n m par dep U U' X) {r : Nat} (hg : LeR n m dep U (r + 1)) : LeR n m dep U' r := by
  intro j hj
  obtain ⟨lf, hlf⟩ : ∃ lf : Nat → Bool, ∀ i, i < n → (lf i = true ↔ leafU n par U i) := by
    classical
    exact ⟨fun i => decide (leafU n par U i), fun i _ => by simp⟩
  have hdj := h.toRnd.deep (dep := dep) j
  have hj0 : 0 < deepN n dep U j := by omega
  have hgj := hg j hj0
  by_cases hall : ∀ x ∈ X, j < dep x
  · -- all that are done lie deeper than j
    rcases h.full with hfull | hfull
    · -- m of them
      have hcut : deepN n dep U j = deepN n dep U' j + m := by
        have h1 := cnt_split (p := fun i => U i && decide (j < dep i)) (q := fun i => decide (i ∈ X)) (n := n)
        have h2 : cnt (fun i => (U i && decide (j < dep i)) && decide (i ∈ X)) n = X.length := by
          rw [← cnt_mem (n := n) h.nodup fun x hx => (h.leaf x hx).1]
          refine cnt_congr fun i hi => ?_
          by_cases e : i ∈ X
          · simp [e, (h.leaf i e).2.1, hall i e]
          · simp [e]
        have h3 : cnt (fun i => (U i && decide (j < dep i)) && !decide (i ∈ X)) n = deepN n dep U' j := cnt_congr fun i hi => by
          rw [h.out i hi]
          cases U i <;> cases decide (j < dep i) <;> cases decide (i ∈ X) <;> rfl
        unfold deepN at *
        omega
      obtain ⟨q, hq⟩ : ∃ q, ceilD (deepN n dep U j) m = q + 1 := by
        have : 0 + 1 ≤ ceilD (deepN n dep U j) m := (ceilD_ge hm).2 (by omega)
        exact ⟨ceilD (deepN n dep U j) m - 1, by omega⟩
      have h4 : ceilD (deepN n dep U j) m ≤ q + 1 := by omega
      rw [ceilD_le hm, Nat.add_mul] at h4
      have h5 : ceilD (deepN n dep U' j) m ≤ q := (ceilD_le hm).2 (by omega)
      omega
    · exact LeR.hu_case F hm hc h.toRnd hlf (fun i hi hl _ => hfull i hi hl) hg hj
  · -- one of them does not: so all leaves that lie deeper are done
    obtain ⟨x, hx, hxd⟩ : ∃ x, x ∈ X ∧ ¬ j < dep x := Classical.byContradiction fun hno => hall fun x hx => Classical.byContradiction fun hh => hno ⟨x, hx, hh⟩
    refine LeR.hu_case F hm hc h.toRnd hlf (fun i hi hl hd => Classical.byContradiction fun hn => ?_) hg hj
    have := h.deepest x hx i hi hl hn
    omega
/-! ### Whole runs -/
inductive HuRun (n m : Nat) (par : Nat → Int) (dep : Nat → Nat) : (Nat → Bool) → Nat → Prop
  | nil {U : Nat → Bool} (h : ∀ i, i < n → U i = false) : HuRun n m par dep U 0
  | cons {U U' : Nat → Bool} {X : List Nat} {r : Nat} (h : ∃ i, i < n ∧ U i = true) (hx : Hu n m par dep U U' X) (hr : HuRun n m par dep U' r) : HuRun n m par dep U (r + 1)
inductive AnyRun (n m : Nat) (par : Nat → Int) : (Nat → Bool) → Nat → Prop
  | nil {U : Nat → Bool} (h : ∀ i, i < n → U i = false) : AnyRun n m par U 0
  | cons {U U' : Nat → Bool} {X : List Nat} {r : Nat} (hx : Rnd n m par U U' X) (hr : AnyRun n m par U' r) : AnyRun n m par U (r + 1)
theorem HuRun.any {U : Nat → Bool} {r : Nat} (h : HuRun n m par dep U r) : AnyRun n m par U r := by
  induction h with
  | nil h => exact .nil h
  | cons _ hx _ ih => exact .cons hx.toRnd ih
theorem HuRun.le (F : Forest n par dep) (hm : 0 < m) {U : Nat → Bool} {r : Nat} (h : HuRun n m par dep U r) : closedU n par U → ∀ s, LeR n m dep U s → r ≤ s := by
  induction h with
  | nil _ => exact fun _ s _ => Nat.zero_le s
  | @cons U U' X r hne hx _ ih =>
    intro hc s hs
    obtain ⟨i, hi, hu⟩ := hne
    have h0 : 0 < deepN n dep U 0 := cnt_of (i := i) (by have := F.pos hi; simp only [Bool.and_eq_true, decide_eq_true_eq]; exact ⟨hu, by omega⟩) hi
    have h1 := hs 0 h0
    have h2 : 0 + 1 ≤ ceilD (deepN n dep U 0) m := (ceilD_ge hm).2 (by omega)
    obtain ⟨s, rfl⟩ : ∃ q, s = q + 1 := ⟨s - 1, by omega⟩
    have := ih (hx.toRnd.closed F hc) s (LeR.hu F hm hc hx hs)
    omega
theorem AnyRun.ge (F : Forest n par dep) (hm : 0 < m) {U : Nat → Bool} {r : Nat} (h : AnyRun n m par U r) : closedU n par U → ∀ s, GeR n m dep U s → s ≤ r := by
  induction h with
  | nil h =>
    intro _ s hs
    rcases hs with h0 | ⟨j, hj, _⟩
    · omega
    · obtain ⟨i, hi, hp⟩ := cnt_pos hj
      rw [Bool.and_eq_true, h i hi] at hp
      cases hp.1
  | cons hx _ ih =>
    intro hc s hs
    cases s with
    | zero => exact Nat.zero_le _
    | succ s =>
      have := ih (hx.closed F hc) s (GeR.any F hm hc hx hs)
      omega
theorem best_exists (U : Nat → Bool) (D : Nat) (hD : ∀ i, i < n → dep i ≤ D) : ∃ f, LeR n m dep U f ∧ GeR n m dep U f := by
  have key : ∀ E, ∃ f, (∀ j, j < E → 0 < deepN n dep U j → j + ceilD (deepN n dep U j) m ≤ f) ∧ GeR n m dep U f := by
    intro E
    induction E with
    | zero => exact ⟨0, fun j h => absurd h (by omega), .inl rfl⟩
    | succ E ih =>
      obtain ⟨f, h1, h2⟩ := ih
      by_cases hE : 0 < deepN n dep U E ∧ f < E + ceilD (deepN n dep U E) m
      · refine ⟨E + ceilD (deepN n dep U E) m, fun j hj hp => ?_, .inr ⟨E, hE.1, Nat.le_refl _⟩⟩
        by_cases e : j = E
        · subst e; exact Nat.le_refl _
        · have := h1 j (by omega) hp; omega
      · refine ⟨f, fun j hj hp => ?_, h2⟩
        by_cases e : j = E
        · subst e
          exact Nat.le_of_not_lt fun hlt => hE ⟨hp, hlt⟩
        · exact h1 j (by omega) hp
  obtain ⟨f, h1, h2⟩ := key (D + 1)
  refine ⟨f, fun j hj => h1 j ?_ hj, h2⟩
  obtain ⟨i, hi, hp⟩ := cnt_pos hj
  simp only [Bool.and_eq_true, decide_eq_true_eq] at hp
  have := hD i hi
  omega
/-- ████ HU: no order takes fewer rounds. ████ -/
theorem hu_best (F : Forest n par dep) (hm : 0 < m) {U : Nat → Bool} (hc : closedU n par U) {r s : Nat} (D : Nat) (hD : ∀ i, i < n → dep i ≤ D) (h : HuRun n m par dep U r) (h' : AnyRun n m par U s) : r ≤ s := by
  obtain ⟨f, h1, h2⟩ := best_exists (m := m) U D hD
  exact Nat.le_trans (h.le F hm hc f h1) (h'.ge F hm hc f h2)
theorem cnt_true : ∀ n : Nat, cnt (fun _ => true) n = n
  | 0 => rfl
  | n + 1 => by simp [cnt, cnt_true n]
/-- At each depth there is one. -/
theorem shallow_ge (F : Forest n par dep) {i : Nat} (hi : i < n) : ∀ j, j ≤ dep i → j ≤ cnt (fun k => decide (dep k ≤ j)) n
  | 0, _ => Nat.zero_le _
  | j + 1, h => by
    have ih := shallow_ge F hi j (by omega)
    have h1 : ∃ k, k < n ∧ dep k = j + 1 := by
      by_cases e : dep i = j + 1
      · exact ⟨i, hi, e⟩
      · obtain ⟨k, hk, _, hd, _⟩ := has_depth F (U := fun _ => true) (fun _ _ _ _ => rfl) (j + 1) i hi rfl (by omega) (by omega)
        exact ⟨k, hk, hd⟩
    obtain ⟨k, hk, hd⟩ := h1
    have h2 : 0 < cnt (fun k => decide (dep k = j + 1)) n := cnt_of (i := k) (by simpa using hd) hk
    have h3 := cnt_split (p := fun k => decide (dep k ≤ j + 1)) (q := fun k => decide (dep k = j + 1)) (n := n)
    have h4 : cnt (fun k => decide (dep k ≤ j + 1) && decide (dep k = j + 1)) n = cnt (fun k => decide (dep k = j + 1)) n := cnt_congr fun k _ => by
      by_cases e : dep k = j + 1 <;> simp [e]
    have h5 : cnt (fun k => decide (dep k ≤ j + 1) && !decide (dep k = j + 1)) n = cnt (fun k => decide (dep k ≤ j)) n := cnt_congr fun k _ => by
      by_cases e : dep k ≤ j
      · simp [e, show dep k ≤ j + 1 by omega, show ¬ dep k = j + 1 by omega]
      · by_cases e2 : dep k = j + 1 <;> simp [e2] <;> omega
    omega
/-- The bounds of GRAHAM and BRENT for a whole forest of n, S deep. -/
theorem hu_bounds (F : Forest n par dep) (hm : 0 < m) {S : Nat} (hS : ∀ i, i < n → dep i ≤ S) {i0 : Nat} (h0 : i0 < n) (hd0 : dep i0 = S) {r : Nat} (h : HuRun n m par dep (fun _ => true) r) : S ≤ r ∧ n ≤ r * m ∧ r ≤ S + ceilD (n - S) m := by
  have hc : closedU n par (fun _ => true) := fun _ _ _ _ => rfl
  have hS1 := F.pos h0
  refine ⟨h.any.ge F hm hc S (.inr ⟨S - 1, ?_, ?_⟩), ?_, h.le F hm hc _ fun j hj => ?_⟩
  · exact cnt_of (i := i0) (by simp; omega) h0
  · have : 0 < deepN n dep (fun _ => true) (S - 1) := cnt_of (i := i0) (by simp; omega) h0
    have : 0 + 1 ≤ ceilD (deepN n dep (fun _ => true) (S - 1)) m := (ceilD_ge hm).2 (by omega)
    omega
  · have e : deepN n dep (fun _ => true) 0 = n := by
      rw [deepN, cnt_congr (q := fun _ => true) fun i hi => by have := F.pos hi; simp; omega, cnt_true]
    have := h.any.ge F hm hc (ceilD n m) (.inr ⟨0, by rw [e]; omega, by rw [e]; omega⟩)
    exact (ceilD_le hm).1 this
  · obtain ⟨i, hi, hp⟩ := cnt_pos hj
    simp only [Bool.and_eq_true, decide_eq_true_eq] at hp
    have hjS : j < S := by have := hS i hi; omega
    have h1 := shallow_ge F h0 j (by omega)
    have h2 := cnt_split (p := fun _ => true) (q := fun i => decide (j < dep i)) (n := n)
    rw [cnt_true] at h2
    have h3 : cnt (fun i => true && !decide (j < dep i)) n = cnt (fun i => decide (dep i ≤ j)) n := cnt_congr fun i _ => by
      by_cases e : j < dep i <;> simp [e] <;> omega
    have h4 : deepN n dep (fun _ => true) j ≤ n - j := by
      show cnt (fun i => true && decide (j < dep i)) n ≤ n - j
      omega
    have h5 : ceilD (deepN n dep (fun _ => true) j) m ≤ (S - j) + ceilD (n - S) m := by
      rw [ceilD_le hm]
      have h6 : n - S ≤ ceilD (n - S) m * m := (ceilD_le hm).1 (Nat.le_refl _)
      have h7 : S - j ≤ (S - j) * m := Nat.le_mul_of_pos_right _ hm
      rw [Nat.add_mul]
      omega
    omega
end
end Go.Proofs.Ytokjchcmjglbhaa
