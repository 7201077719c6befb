/- The operations, on: arithmetic at pointers, equality, BinOp. No program; no conditions but those named. -/
import Derived.Test.YticdjkkcfdbdcaaRenQ
namespace Go.Proofs.Yticdjkkcfdbdcaa
open Go.Conc
/-- What is asked of the pair of worlds once: the program's own blocks are not named; the type that is none has no places. -/
structure PR (P : Program) (ρ : Ren) : Prop where
  base : P.globals.size ≤ ρ.base
  bad : ∀ c o n, cellAtBytes P P.depth ρ.bad c o n = none
  none : P.info? ρ.bad = none
theorem PR.mono {P : Program} {ρ ρ' : Ren} (h : PR P ρ) (hr : ρ.le ρ') : PR P ρ' := ⟨by rw [hr.base]; exact h.base, by rw [hr.bad]; exact h.bad, by rw [hr.bad]; exact h.none⟩
section
variable {S : FnSet} {P : Program} {ρ : Ren}
theorem AR.base {a a' : Addr} (h : AR ρ a a') : ρ.base ≤ a.block ∧ ρ.base ≤ a'.block := by
  obtain ⟨_, c, s, h2, rfl⟩ := h
  exact ρ.ok _ _ h2
theorem AR.same {a a' b b' : Addr} (h : AR ρ a a') (g : AR ρ b b') (e : a = b) : a' = b' := by
  subst e
  obtain ⟨_, c, s, h2, rfl⟩ := h
  obtain ⟨_, c', s', g2, rfl⟩ := g
  rw [h2] at g2; cases g2; rfl
theorem sr_numberAt {r r' s : Nat} (h : ρ r = some (r', s)) (hc : ¬ ρ.isChan r) : SR S P (fun ρ (p q : Option (Addr × Bool)) => (p = none ∧ q = none) ∨ ∃ a a' l, p = some (a, l) ∧ q = some (a', l) ∧ AR ρ a a') ρ (numberAt r) (numberAt r') := by
  refine .shape h fun x x' hs => ?_
  rcases hs with ⟨rfl, rfl, rfl⟩ | ⟨p, rfl, rfl, _⟩ | ⟨n, p', rfl, rfl, _⟩
  · refine .getObj h (fun o o' _ ho => ?_) fun hcc => absurd hcc hc
    cases ho with
    | map clock se he => exact .pure (.inl ⟨rfl, rfl⟩)
    | stringIter s pos => exact .pure (.inl ⟨rfl, rfl⟩)
    | number ha lost => exact .pure (.inr ⟨_, _, _, rfl, rfl, ha⟩)
  · exact .pure (.inl ⟨rfl, rfl⟩)
  · exact .pure (.inl ⟨rfl, rfl⟩)
theorem sr_viewAt {r r' s : Nat} (h : ρ r = some (r', s)) (hc : ¬ ρ.isChan r) : SR S P (fun _ (p q : Option (Addr × TypeId)) => p = none ∧ q = none) ρ (viewAt r) (viewAt r') := by
  refine .shape h fun x x' hs => ?_
  rcases hs with ⟨rfl, rfl, rfl⟩ | ⟨p, rfl, rfl, _⟩ | ⟨n, p', rfl, rfl, _⟩
  · refine .getObj h (fun o o' _ ho => ?_) fun hcc => absurd hcc hc
    cases ho <;> exact .pure ⟨rfl, rfl⟩
  · exact .pure ⟨rfl, rfl⟩
  · exact .pure ⟨rfl, rfl⟩
theorem sr_behind {a a' : Addr} (h : AR ρ a a') : SR S P (fun ρ (p q : Addr × Bool) => AR ρ p.1 q.1 ∧ p.2 = q.2) ρ (behindNumber a) (behindNumber a') := by
  obtain ⟨h1, c, s, h2, h3⟩ := id h
  have e : a'.block = c := by rw [h3]
  unfold behindNumber
  refine SR.bind (sr_numberAt (r' := a'.block) (s := s) (by rw [e]; exact h2) h1.2) fun ρ1 p q hr hpq => .pure ?_
  rcases hpq with ⟨rfl, rfl⟩ | ⟨b, b', l, rfl, rfl, hb⟩
  · exact ⟨h.mono hr, rfl⟩
  · exact ⟨hb, rfl⟩
theorem sr_asNumber {a a' : Addr} (h : AR ρ a a') (lost : Bool) : SR S P (fun ρ a b => VR S ρ a b) ρ (asNumber a lost) (asNumber a' lost) :=
  .new (.inr (.number h lost)) fun ρ' r r' _ hr' _ hc => .pure (.ptr ⟨⟨rfl, hc⟩, r', 0, hr', by simp⟩)
theorem sr_unsafeAdd (hp : PR P ρ) (t : TypeId) {x x' y y' : Value} (hx : VR S ρ x x') (hy : VR S ρ y y') : SR S P (fun ρ a b => VR S ρ a b) ρ (Builtin.unsafeAdd_ #[] t #[x, y]) (Builtin.unsafeAdd_ #[] t #[x', y']) := by
  unfold Builtin.unsafeAdd_
  cases hx with
  | nilPtr =>
    refine (sr_asInt hy).bind fun ρ1 n n' hr1 e => ?_
    cases e
    refine sr_if (fun _ => by (first | exact .dead (dead_stuck _) | exact .dead (dead_rt _) | exact .dead (dead_bounds _ _ _ _) | (refine .dead (.halt _ ?_); exact True.intro) | exact .dead (dead_panic _) | exact .dead ((dead_stuck _).bind _) | exact .dead ((dead_rt _).bind _) | exact .dead ((dead_bounds _ _ _ _).bind _) | (refine .dead (Dead.bind (.halt _ ?_) _); exact True.intro))) fun _ => sr_if (fun _ => by (first | exact .dead (dead_stuck _) | exact .dead (dead_rt _) | exact .dead (dead_bounds _ _ _ _) | (refine .dead (.halt _ ?_); exact True.intro) | exact .dead (dead_panic _) | exact .dead ((dead_stuck _).bind _) | exact .dead ((dead_rt _).bind _) | exact .dead ((dead_bounds _ _ _ _).bind _) | (refine .dead (Dead.bind (.halt _ ?_) _); exact True.intro))) fun _ => by (first | exact .dead (dead_stuck _) | exact .dead (dead_rt _) | exact .dead (dead_bounds _ _ _ _) | (refine .dead (.halt _ ?_); exact True.intro) | exact .dead (dead_panic _) | exact .dead ((dead_stuck _).bind _) | exact .dead ((dead_rt _).bind _) | exact .dead ((dead_bounds _ _ _ _).bind _) | (refine .dead (Dead.bind (.halt _ ?_) _); exact True.intro))
  | @ptr a a' h =>
    refine (sr_asInt hy).bind fun ρ1 n n' hr1 e => ?_
    cases e
    have h' := h.mono hr1
    obtain ⟨h1, c, s, h2, h3⟩ := id h'
    have e : a'.block = c := by rw [h3]
    refine sr_if (fun _ => ?_) fun _ => ?_
    · refine SR.bind (sr_viewAt (r' := a'.block) (s := s) (by rw [e]; exact h2) h1.2) fun ρ2 p q hr hpq => ?_
      obtain ⟨rfl, rfl⟩ := hpq
      exact .pure (.ptr (h'.mono hr))
    · refine sr_if (fun _ => by (first | exact .dead (dead_stuck _) | exact .dead (dead_rt _) | exact .dead (dead_bounds _ _ _ _) | (refine .dead (.halt _ ?_); exact True.intro) | exact .dead (dead_panic _) | exact .dead ((dead_stuck _).bind _) | exact .dead ((dead_rt _).bind _) | exact .dead ((dead_bounds _ _ _ _).bind _) | (refine .dead (Dead.bind (.halt _ ?_) _); exact True.intro))) fun _ => ?_
      refine .shape (r' := a'.block) (s := s) (by rw [e]; exact h2) fun x x' hs => ?_
      rcases hs with ⟨rfl, rfl, _⟩ | ⟨⟨e1, cells⟩, rfl, rfl, rfl, _⟩ | ⟨n, p', rfl, rfl, _⟩
      · (first | exact .dead (dead_stuck _) | exact .dead (dead_rt _) | exact .dead (dead_bounds _ _ _ _) | (refine .dead (.halt _ ?_); exact True.intro) | exact .dead (dead_panic _) | exact .dead ((dead_stuck _).bind _) | exact .dead ((dead_rt _).bind _) | exact .dead ((dead_bounds _ _ _ _).bind _) | (refine .dead (Dead.bind (.halt _ ?_) _); exact True.intro))
      · refine .program ?_
        have eo : a'.off = a.off := by rw [h3]; simp
        show SR S P _ ρ1 (match cellAtBytes P P.depth e1 _ a.off _ with | some off => pure _ | none => _) (match cellAtBytes P P.depth e1 _ a'.off _ with | some off => pure _ | none => _)
        rw [eo]
        split
        · exact .pure (.ptr ⟨h1, c, 0, h2, by rw [h3]; simp⟩)
        · (first | exact .dead (dead_stuck _) | exact .dead (dead_rt _) | exact .dead (dead_bounds _ _ _ _) | (refine .dead (.halt _ ?_); exact True.intro) | exact .dead (dead_panic _) | exact .dead ((dead_stuck _).bind _) | exact .dead ((dead_rt _).bind _) | exact .dead ((dead_bounds _ _ _ _).bind _) | (refine .dead (Dead.bind (.halt _ ?_) _); exact True.intro))
      · refine .program (.dead ?_)
        have hb := ((hp.mono hr1).bad)
        show Dead (match cellAtBytes P P.depth ρ1.bad _ a.off _ with | some off => pure _ | none => _)
        rw [hb]
        exact .halt _ trivial
  | _ => (first | exact .dead (dead_stuck _) | exact .dead (dead_rt _) | exact .dead (dead_bounds _ _ _ _) | (refine .dead (.halt _ ?_); exact True.intro) | exact .dead (dead_panic _) | exact .dead ((dead_stuck _).bind _) | exact .dead ((dead_rt _).bind _) | exact .dead ((dead_bounds _ _ _ _).bind _) | (refine .dead (Dead.bind (.halt _ ?_) _); exact True.intro))
theorem sr_ifF {α β : Type} {Q : Ren → α → β → Prop} {c c' : Bool} {s t : Sem α} {s' t' : Sem β} (hc : c = false) (hc' : c' = false) (h : SR S P Q ρ t t') : SR S P Q ρ (if c = true then s else t) (if c' = true then s' else t') := by
  rw [hc, hc']
  exact h
theorem sr_equalInt (hp : PR P ρ) (n : Nat) (t : TypeId) {x x' y y' : Value} (hk : ∀ d, P.underlying t = some d → ∃ k, d = .int k) (hx : VR S ρ x x') (hy : VR S ρ y y') : SR S P QE ρ (Op.equalIn (n + 1) t x y) (Op.equalIn (n + 1) t x' y') := by
  unfold Op.equalIn
  refine (sr_underlying t).bind fun ρ1 d d' hr1 hd => ?_
  obtain ⟨rfl, hd⟩ := hd
  obtain ⟨k, rfl⟩ := hk d hd
  have hx := hx.mono hr1
  have hy := hy.mono hr1
  cases hx with
  | int j n =>
    cases hy with
    | int j' n' => exact sr_if (fun _ => .pure rfl) fun _ => by (first | exact .dead (dead_stuck _) | exact .dead (dead_rt _) | exact .dead (dead_bounds _ _ _ _) | (refine .dead (.halt _ ?_); exact True.intro) | exact .dead (dead_panic _) | exact .dead ((dead_stuck _).bind _) | exact .dead ((dead_rt _).bind _) | exact .dead ((dead_bounds _ _ _ _).bind _) | (refine .dead (Dead.bind (.halt _ ?_) _); exact True.intro))
    | ptr ha =>
      cases n with
      | ofNat m => cases m <;> first | exact .pure rfl | (first | exact .dead (dead_stuck _) | exact .dead (dead_rt _) | exact .dead (dead_bounds _ _ _ _) | (refine .dead (.halt _ ?_); exact True.intro) | exact .dead (dead_panic _) | exact .dead ((dead_stuck _).bind _) | exact .dead ((dead_rt _).bind _) | exact .dead ((dead_bounds _ _ _ _).bind _) | (refine .dead (Dead.bind (.halt _ ?_) _); exact True.intro))
      | negSucc m => (first | exact .dead (dead_stuck _) | exact .dead (dead_rt _) | exact .dead (dead_bounds _ _ _ _) | (refine .dead (.halt _ ?_); exact True.intro) | exact .dead (dead_panic _) | exact .dead ((dead_stuck _).bind _) | exact .dead ((dead_rt _).bind _) | exact .dead ((dead_bounds _ _ _ _).bind _) | (refine .dead (Dead.bind (.halt _ ?_) _); exact True.intro))
    | _ => (first | exact .dead (dead_stuck _) | exact .dead (dead_rt _) | exact .dead (dead_bounds _ _ _ _) | (refine .dead (.halt _ ?_); exact True.intro) | exact .dead (dead_panic _) | exact .dead ((dead_stuck _).bind _) | exact .dead ((dead_rt _).bind _) | exact .dead ((dead_bounds _ _ _ _).bind _) | (refine .dead (Dead.bind (.halt _ ?_) _); exact True.intro))
  | nilPtr => cases hy <;> (first | exact .dead (dead_stuck _) | exact .dead (dead_rt _) | exact .dead (dead_bounds _ _ _ _) | (refine .dead (.halt _ ?_); exact True.intro) | exact .dead (dead_panic _) | exact .dead ((dead_stuck _).bind _) | exact .dead ((dead_rt _).bind _) | exact .dead ((dead_bounds _ _ _ _).bind _) | (refine .dead (Dead.bind (.halt _ ?_) _); exact True.intro))
  | @ptr a a' ha =>
    cases hy with
    | int j n =>
      cases n with
      | ofNat m => cases m <;> first | exact .pure rfl | (first | exact .dead (dead_stuck _) | exact .dead (dead_rt _) | exact .dead (dead_bounds _ _ _ _) | (refine .dead (.halt _ ?_); exact True.intro) | exact .dead (dead_panic _) | exact .dead ((dead_stuck _).bind _) | exact .dead ((dead_rt _).bind _) | exact .dead ((dead_bounds _ _ _ _).bind _) | (refine .dead (Dead.bind (.halt _ ?_) _); exact True.intro))
      | negSucc m => (first | exact .dead (dead_stuck _) | exact .dead (dead_rt _) | exact .dead (dead_bounds _ _ _ _) | (refine .dead (.halt _ ?_); exact True.intro) | exact .dead (dead_panic _) | exact .dead ((dead_stuck _).bind _) | exact .dead ((dead_rt _).bind _) | exact .dead ((dead_bounds _ _ _ _).bind _) | (refine .dead (Dead.bind (.halt _ ?_) _); exact True.intro))
    | @ptr b b' hb =>
      refine (sr_behind ha).bind fun ρ2 p q hr2 hpq => ?_
      refine (sr_behind (hb.mono hr2)).bind fun ρ3 p2 q2 hr3 hpq2 => ?_
      obtain ⟨p, l⟩ := p
      obtain ⟨q, l'⟩ := q
      obtain ⟨p2, l2⟩ := p2
      obtain ⟨q2, l2'⟩ := q2
      have h1 := hpq.1.mono hr3
      have h2 := hpq2.1
      simp only at h1 h2
      refine .program ?_
      have g1 := h1.base
      have g2 := ((hp.mono hr1).mono hr2).mono hr3
      have e1 : ¬ (p.block < P.globals.size) := by have := g2.base; omega
      have e2 : ¬ (q.block < P.globals.size) := by have := g2.base; omega
      refine sr_ifF (by simp [e1]) (by simp [e2]) ?_
      refine (sr_typeInfo t).bind fun ρ4 i i' hr4 hi => ?_
      obtain ⟨rfl, _⟩ := hi
      split
      · by_cases e : p = p2
        · have e' := h1.same h2 e
          subst e e'
          simp only [beq_self_eq_true, if_true]
          exact .pure rfl
        · have : (p == p2) = false := by simpa using e
          simp only [this]
          (first | exact .dead (dead_stuck _) | exact .dead (dead_rt _) | exact .dead (dead_bounds _ _ _ _) | (refine .dead (.halt _ ?_); exact True.intro) | exact .dead (dead_panic _) | exact .dead ((dead_stuck _).bind _) | exact .dead ((dead_rt _).bind _) | exact .dead ((dead_bounds _ _ _ _).bind _) | (refine .dead (Dead.bind (.halt _ ?_) _); exact True.intro))
      · (first | exact .dead (dead_stuck _) | exact .dead (dead_rt _) | exact .dead (dead_bounds _ _ _ _) | (refine .dead (.halt _ ?_); exact True.intro) | exact .dead (dead_panic _) | exact .dead ((dead_stuck _).bind _) | exact .dead ((dead_rt _).bind _) | exact .dead ((dead_bounds _ _ _ _).bind _) | (refine .dead (Dead.bind (.halt _ ?_) _); exact True.intro))
    | _ => (first | exact .dead (dead_stuck _) | exact .dead (dead_rt _) | exact .dead (dead_bounds _ _ _ _) | (refine .dead (.halt _ ?_); exact True.intro) | exact .dead (dead_panic _) | exact .dead ((dead_stuck _).bind _) | exact .dead ((dead_rt _).bind _) | exact .dead ((dead_bounds _ _ _ _).bind _) | (refine .dead (Dead.bind (.halt _ ?_) _); exact True.intro))
  | _ => cases hy <;> (first | exact .dead (dead_stuck _) | exact .dead (dead_rt _) | exact .dead (dead_bounds _ _ _ _) | (refine .dead (.halt _ ?_); exact True.intro) | exact .dead (dead_panic _) | exact .dead ((dead_stuck _).bind _) | exact .dead ((dead_rt _).bind _) | exact .dead ((dead_bounds _ _ _ _).bind _) | (refine .dead (Dead.bind (.halt _ ?_) _); exact True.intro))
/-- A loop over a list, on both sides. -/
theorem sr_forIn {α β β' : Type} (Q : Ren → β → β' → Prop) (hQ : ∀ {ρ ρ' : Ren} {b b'}, ρ.le ρ' → Q ρ b b' → Q ρ' b b') {f : α → β → Sem (ForInStep β)} {f' : α → β' → Sem (ForInStep β')} : ∀ (l : List α) {ρ : Ren} {b : β} {b' : β'},
    (∀ a ∈ l, ∀ (ρ1 : Ren) (b : β) (b' : β'), ρ.le ρ1 → Q ρ1 b b' → SR S P (fun ρ2 s s' => (∃ c c', s = .done c ∧ s' = .done c' ∧ Q ρ2 c c') ∨ ∃ c c', s = .yield c ∧ s' = .yield c' ∧ Q ρ2 c c') ρ1 (f a b) (f' a b')) → Q ρ b b' → SR S P Q ρ (forIn l b f) (forIn l b' f')
  | [], ρ, b, b', _, hb => by
    simp only [List.forIn_nil]
    exact .pure hb
  | a :: l, ρ, b, b', h, hb => by
    simp only [List.forIn_cons]
    refine (h a (List.mem_cons_self ..) ρ b b' (Ren.le.refl _) hb).bind fun ρ2 s s' hr hs => ?_
    rcases hs with ⟨c, c', rfl, rfl, hc⟩ | ⟨c, c', rfl, rfl, hc⟩
    · exact .pure hc
    · exact sr_forIn Q hQ l (fun a ha ρ1 b b' hr1 => h a (List.mem_cons_of_mem _ ha) ρ1 b b' (hr.trans hr1)) hc
/-- Structs of integers. -/
def IntS (P : Program) (fs : Array Field) : Prop := ∀ f ∈ fs, ∀ d, P.underlying f.type = some d → ∃ k, d = .int k
theorem sr_equalS (hp : PR P ρ) (n : Nat) (t : TypeId) {x x' y y' : Value} (hk : ∀ d, P.underlying t = some d → ∃ fs, d = .struct fs ∧ IntS P fs) (hx : VR S ρ x x') (hy : VR S ρ y y') : SR S P QE ρ (Op.equalIn (n + 2) t x y) (Op.equalIn (n + 2) t x' y') := by
  unfold Op.equalIn
  refine (sr_underlying t).bind fun ρ1 d d' hr1 hd => ?_
  obtain ⟨rfl, hd⟩ := hd
  obtain ⟨fs, rfl, hfs⟩ := hk d hd
  have hx := hx.mono hr1
  have hy := hy.mono hr1
  cases hx with
  | agg sx hxs =>
    cases hy with
    | agg sy hys =>
      simp only
      refine .program ?_
      refine sr_if (fun _ => by (first | exact .dead (dead_stuck _) | exact .dead (dead_rt _) | exact .dead (dead_bounds _ _ _ _) | (refine .dead (.halt _ ?_); exact True.intro) | exact .dead (dead_panic _) | exact .dead ((dead_stuck _).bind _) | exact .dead ((dead_rt _).bind _) | exact .dead ((dead_bounds _ _ _ _).bind _) | (refine .dead (Dead.bind (.halt _ ?_) _); exact True.intro))) fun _ => ?_
      simp only [← Array.forIn_toList]
      refine (sr_forIn (fun _ (b b' : Option Bool × Unit) => b = b') (fun _ h => h) fs.toList (fun f hf ρ2 b b' hr2 hb => ?_) rfl).bind fun ρ2 b b' _ hb => ?_
      · refine sr_if (fun _ => ?_) fun _ => .pure (.inr ⟨_, _, rfl, rfl, rfl⟩)
        refine (sr_part f.type (VRs.mono ⟨sx, hxs⟩ hr2) _).bind fun ρ3 u u' hr3 hu => ?_
        refine (sr_part f.type (VRs.mono (VRs.mono ⟨sy, hys⟩ hr2) hr3) _).bind fun ρ4 v v' hr4 hv => ?_
        refine (sr_equalInt ((((hp.mono hr1).mono hr2).mono hr3).mono hr4) n f.type (hfs f (by simpa using hf)) (hu.mono hr4) hv).bind fun ρ5 c c' hr5 hc => ?_
        cases hc
        cases c with
        | true => exact .pure (.inr ⟨_, _, rfl, rfl, rfl⟩)
        | false => exact .pure (.inl ⟨_, _, rfl, rfl, rfl⟩)
      · subst hb
        obtain ⟨o, _⟩ := b
        cases o with
        | some r => exact .pure rfl
        | none => exact .pure rfl
    | _ => (first | exact .dead (dead_stuck _) | exact .dead (dead_rt _) | exact .dead (dead_bounds _ _ _ _) | (refine .dead (.halt _ ?_); exact True.intro) | exact .dead (dead_panic _) | exact .dead ((dead_stuck _).bind _) | exact .dead ((dead_rt _).bind _) | exact .dead ((dead_bounds _ _ _ _).bind _) | (refine .dead (Dead.bind (.halt _ ?_) _); exact True.intro))
  | _ => cases hy <;> (first | exact .dead (dead_stuck _) | exact .dead (dead_rt _) | exact .dead (dead_bounds _ _ _ _) | (refine .dead (.halt _ ?_); exact True.intro) | exact .dead (dead_panic _) | exact .dead ((dead_stuck _).bind _) | exact .dead ((dead_rt _).bind _) | exact .dead ((dead_bounds _ _ _ _).bind _) | (refine .dead (Dead.bind (.halt _ ?_) _); exact True.intro))
/-- No fault of a comparison lies in structs of integers. -/
theorem sr_guardInt (n : Nat) (t : TypeId) (x y x' y' : Value) (hk : ∀ d, P.underlying t = some d → ∃ k, d = .int k) : SR S P (fun _ (a b : Bool) => a = false ∧ b = false) ρ (Op.eqGuardIn (n + 1) t x y) (Op.eqGuardIn (n + 1) t x' y') := by
  unfold Op.eqGuardIn
  refine (sr_underlying t).bind fun ρ1 d d' hr1 hd => ?_
  obtain ⟨rfl, hd⟩ := hd
  obtain ⟨k, rfl⟩ := hk d hd
  exact .pure ⟨rfl, rfl⟩
theorem sr_guardS (n : Nat) (t : TypeId) {x x' y y' : Value} (hk : ∀ d, P.underlying t = some d → ∃ fs, d = .struct fs ∧ IntS P fs) (hx : VR S ρ x x') (hy : VR S ρ y y') : SR S P QE ρ (Op.eqGuardIn (n + 2) t x y) (Op.eqGuardIn (n + 2) t x' y') := by
  unfold Op.eqGuardIn
  refine (sr_underlying t).bind fun ρ1 d d' hr1 hd => ?_
  obtain ⟨rfl, hd⟩ := hd
  obtain ⟨fs, rfl, hfs⟩ := hk d hd
  have hx := hx.mono hr1
  have hy := hy.mono hr1
  cases hx with
  | agg sx hxs =>
    cases hy with
    | agg sy hys =>
      simp only
      simp only [← Array.forIn_toList]
      refine (sr_forIn (fun _ (b b' : Option Bool × Unit) => b = b') (fun _ h => h) fs.toList (fun f hf ρ2 b b' hr2 hb => ?_) rfl).bind fun ρ2 b b' _ hb => ?_
      · refine sr_if (fun _ => ?_) fun _ => .pure (.inr ⟨_, _, rfl, rfl, rfl⟩)
        refine (sr_part f.type (VRs.mono ⟨sx, hxs⟩ hr2) _).bind fun ρ3 u u' hr3 hu => ?_
        refine (sr_part f.type (VRs.mono (VRs.mono ⟨sy, hys⟩ hr2) hr3) _).bind fun ρ4 v v' hr4 hv => ?_
        refine (sr_guardInt n f.type u v u' v' (hfs f (by simpa using hf))).bind fun ρ5 c c' hr5 hc => ?_
        obtain ⟨rfl, rfl⟩ := hc
        exact .pure (.inr ⟨_, _, rfl, rfl, rfl⟩)
      · subst hb
        obtain ⟨o, _⟩ := b
        cases o with
        | some r => exact .pure rfl
        | none => exact .pure rfl
    | _ => exact .pure rfl
  | _ => cases hy <;> exact .pure rfl
/-- Values of which it is told whether they are equal. -/
def EqOk (P : Program) (x y : Value) : TypeDesc → Prop
  | .bool | .string | .int _ | .slice _ | .map _ _ | .func _ _ _ => True
  | .pointer _ => x = .pointer none ∨ y = .pointer none
  | .interface _ => x = .nilIface ∨ y = .nilIface
  | .struct fs => IntS P fs
  | _ => False
theorem sr_equal (hp : PR P ρ) (t : TypeId) {x x' y y' : Value} (hk : ∀ d, P.underlying t = some d → EqOk P x y d) (hx : VR S ρ x x') (hy : VR S ρ y y') : SR S P QE ρ (Op.equal t x y) (Op.equal t x' y') := by
  by_cases hs : ∃ fs, P.underlying t = some (.struct fs)
  · obtain ⟨fs, hs⟩ := hs
    exact sr_equalS hp 9998 t (fun d hd => by rw [hs] at hd; cases hd; exact ⟨fs, rfl, hk _ hs⟩) hx hy
  unfold Op.equal Op.maxDepth Op.equalIn
  refine (sr_underlying t).bind fun ρ1 d d' hr1 hd => ?_
  obtain ⟨rfl, hd⟩ := hd
  have hk' := hk d hd
  have hx := hx.mono hr1
  have hy := hy.mono hr1
  cases d with
  | bool => cases hx <;> first | (first | exact .dead (dead_stuck _) | exact .dead (dead_rt _) | exact .dead (dead_bounds _ _ _ _) | (refine .dead (.halt _ ?_); exact True.intro) | exact .dead (dead_panic _) | exact .dead ((dead_stuck _).bind _) | exact .dead ((dead_rt _).bind _) | exact .dead ((dead_bounds _ _ _ _).bind _) | (refine .dead (Dead.bind (.halt _ ?_) _); exact True.intro)) | (cases hy <;> first | exact .pure rfl | (first | exact .dead (dead_stuck _) | exact .dead (dead_rt _) | exact .dead (dead_bounds _ _ _ _) | (refine .dead (.halt _ ?_); exact True.intro) | exact .dead (dead_panic _) | exact .dead ((dead_stuck _).bind _) | exact .dead ((dead_rt _).bind _) | exact .dead ((dead_bounds _ _ _ _).bind _) | (refine .dead (Dead.bind (.halt _ ?_) _); exact True.intro)))
  | string => cases hx <;> first | (first | exact .dead (dead_stuck _) | exact .dead (dead_rt _) | exact .dead (dead_bounds _ _ _ _) | (refine .dead (.halt _ ?_); exact True.intro) | exact .dead (dead_panic _) | exact .dead ((dead_stuck _).bind _) | exact .dead ((dead_rt _).bind _) | exact .dead ((dead_bounds _ _ _ _).bind _) | (refine .dead (Dead.bind (.halt _ ?_) _); exact True.intro)) | (cases hy <;> first | exact .pure rfl | (first | exact .dead (dead_stuck _) | exact .dead (dead_rt _) | exact .dead (dead_bounds _ _ _ _) | (refine .dead (.halt _ ?_); exact True.intro) | exact .dead (dead_panic _) | exact .dead ((dead_stuck _).bind _) | exact .dead ((dead_rt _).bind _) | exact .dead ((dead_bounds _ _ _ _).bind _) | (refine .dead (Dead.bind (.halt _ ?_) _); exact True.intro)))
  | slice e => cases hx <;> first | (first | exact .dead (dead_stuck _) | exact .dead (dead_rt _) | exact .dead (dead_bounds _ _ _ _) | (refine .dead (.halt _ ?_); exact True.intro) | exact .dead (dead_panic _) | exact .dead ((dead_stuck _).bind _) | exact .dead ((dead_rt _).bind _) | exact .dead ((dead_bounds _ _ _ _).bind _) | (refine .dead (Dead.bind (.halt _ ?_) _); exact True.intro)) | (cases hy <;> first | exact .pure rfl | (first | exact .dead (dead_stuck _) | exact .dead (dead_rt _) | exact .dead (dead_bounds _ _ _ _) | (refine .dead (.halt _ ?_); exact True.intro) | exact .dead (dead_panic _) | exact .dead ((dead_stuck _).bind _) | exact .dead ((dead_rt _).bind _) | exact .dead ((dead_bounds _ _ _ _).bind _) | (refine .dead (Dead.bind (.halt _ ?_) _); exact True.intro)))
  | map k e => cases hx <;> first | (first | exact .dead (dead_stuck _) | exact .dead (dead_rt _) | exact .dead (dead_bounds _ _ _ _) | (refine .dead (.halt _ ?_); exact True.intro) | exact .dead (dead_panic _) | exact .dead ((dead_stuck _).bind _) | exact .dead ((dead_rt _).bind _) | exact .dead ((dead_bounds _ _ _ _).bind _) | (refine .dead (Dead.bind (.halt _ ?_) _); exact True.intro)) | (cases hy <;> first | exact .pure rfl | (first | exact .dead (dead_stuck _) | exact .dead (dead_rt _) | exact .dead (dead_bounds _ _ _ _) | (refine .dead (.halt _ ?_); exact True.intro) | exact .dead (dead_panic _) | exact .dead ((dead_stuck _).bind _) | exact .dead ((dead_rt _).bind _) | exact .dead ((dead_bounds _ _ _ _).bind _) | (refine .dead (Dead.bind (.halt _ ?_) _); exact True.intro)))
  | func a b c => cases hx <;> first | (first | exact .dead (dead_stuck _) | exact .dead (dead_rt _) | exact .dead (dead_bounds _ _ _ _) | (refine .dead (.halt _ ?_); exact True.intro) | exact .dead (dead_panic _) | exact .dead ((dead_stuck _).bind _) | exact .dead ((dead_rt _).bind _) | exact .dead ((dead_bounds _ _ _ _).bind _) | (refine .dead (Dead.bind (.halt _ ?_) _); exact True.intro)) | (cases hy <;> first | exact .pure rfl | (first | exact .dead (dead_stuck _) | exact .dead (dead_rt _) | exact .dead (dead_bounds _ _ _ _) | (refine .dead (.halt _ ?_); exact True.intro) | exact .dead (dead_panic _) | exact .dead ((dead_stuck _).bind _) | exact .dead ((dead_rt _).bind _) | exact .dead ((dead_bounds _ _ _ _).bind _) | (refine .dead (Dead.bind (.halt _ ?_) _); exact True.intro)))
  | pointer e =>
    rcases hk' with rfl | rfl
    · cases hx
      cases hy <;> first | exact .pure rfl | (first | exact .dead (dead_stuck _) | exact .dead (dead_rt _) | exact .dead (dead_bounds _ _ _ _) | (refine .dead (.halt _ ?_); exact True.intro) | exact .dead (dead_panic _) | exact .dead ((dead_stuck _).bind _) | exact .dead ((dead_rt _).bind _) | exact .dead ((dead_bounds _ _ _ _).bind _) | (refine .dead (Dead.bind (.halt _ ?_) _); exact True.intro))
    · cases hy
      cases hx <;> first | exact .pure rfl | (first | exact .dead (dead_stuck _) | exact .dead (dead_rt _) | exact .dead (dead_bounds _ _ _ _) | (refine .dead (.halt _ ?_); exact True.intro) | exact .dead (dead_panic _) | exact .dead ((dead_stuck _).bind _) | exact .dead ((dead_rt _).bind _) | exact .dead ((dead_bounds _ _ _ _).bind _) | (refine .dead (Dead.bind (.halt _ ?_) _); exact True.intro))
  | interface ms =>
    rcases hk' with rfl | rfl
    · cases hx
      cases hy <;> first | exact .pure rfl | (first | exact .dead (dead_stuck _) | exact .dead (dead_rt _) | exact .dead (dead_bounds _ _ _ _) | (refine .dead (.halt _ ?_); exact True.intro) | exact .dead (dead_panic _) | exact .dead ((dead_stuck _).bind _) | exact .dead ((dead_rt _).bind _) | exact .dead ((dead_bounds _ _ _ _).bind _) | (refine .dead (Dead.bind (.halt _ ?_) _); exact True.intro))
    · cases hy
      cases hx <;> first | exact .pure rfl | (first | exact .dead (dead_stuck _) | exact .dead (dead_rt _) | exact .dead (dead_bounds _ _ _ _) | (refine .dead (.halt _ ?_); exact True.intro) | exact .dead (dead_panic _) | exact .dead ((dead_stuck _).bind _) | exact .dead ((dead_rt _).bind _) | exact .dead ((dead_bounds _ _ _ _).bind _) | (refine .dead (Dead.bind (.halt _ ?_) _); exact True.intro))
  | int k =>
    cases hx with
    | int j n =>
      cases hy with
      | int j' n' => exact sr_if (fun _ => .pure rfl) fun _ => by (first | exact .dead (dead_stuck _) | exact .dead (dead_rt _) | exact .dead (dead_bounds _ _ _ _) | (refine .dead (.halt _ ?_); exact True.intro) | exact .dead (dead_panic _) | exact .dead ((dead_stuck _).bind _) | exact .dead ((dead_rt _).bind _) | exact .dead ((dead_bounds _ _ _ _).bind _) | (refine .dead (Dead.bind (.halt _ ?_) _); exact True.intro))
      | ptr ha =>
        cases n with
        | ofNat m => cases m <;> first | exact .pure rfl | (first | exact .dead (dead_stuck _) | exact .dead (dead_rt _) | exact .dead (dead_bounds _ _ _ _) | (refine .dead (.halt _ ?_); exact True.intro) | exact .dead (dead_panic _) | exact .dead ((dead_stuck _).bind _) | exact .dead ((dead_rt _).bind _) | exact .dead ((dead_bounds _ _ _ _).bind _) | (refine .dead (Dead.bind (.halt _ ?_) _); exact True.intro))
        | negSucc m => (first | exact .dead (dead_stuck _) | exact .dead (dead_rt _) | exact .dead (dead_bounds _ _ _ _) | (refine .dead (.halt _ ?_); exact True.intro) | exact .dead (dead_panic _) | exact .dead ((dead_stuck _).bind _) | exact .dead ((dead_rt _).bind _) | exact .dead ((dead_bounds _ _ _ _).bind _) | (refine .dead (Dead.bind (.halt _ ?_) _); exact True.intro))
      | _ => (first | exact .dead (dead_stuck _) | exact .dead (dead_rt _) | exact .dead (dead_bounds _ _ _ _) | (refine .dead (.halt _ ?_); exact True.intro) | exact .dead (dead_panic _) | exact .dead ((dead_stuck _).bind _) | exact .dead ((dead_rt _).bind _) | exact .dead ((dead_bounds _ _ _ _).bind _) | (refine .dead (Dead.bind (.halt _ ?_) _); exact True.intro))
    | nilPtr => cases hy <;> (first | exact .dead (dead_stuck _) | exact .dead (dead_rt _) | exact .dead (dead_bounds _ _ _ _) | (refine .dead (.halt _ ?_); exact True.intro) | exact .dead (dead_panic _) | exact .dead ((dead_stuck _).bind _) | exact .dead ((dead_rt _).bind _) | exact .dead ((dead_bounds _ _ _ _).bind _) | (refine .dead (Dead.bind (.halt _ ?_) _); exact True.intro))
    | @ptr a a' ha =>
      cases hy with
      | int j n =>
        cases n with
        | ofNat m => cases m <;> first | exact .pure rfl | (first | exact .dead (dead_stuck _) | exact .dead (dead_rt _) | exact .dead (dead_bounds _ _ _ _) | (refine .dead (.halt _ ?_); exact True.intro) | exact .dead (dead_panic _) | exact .dead ((dead_stuck _).bind _) | exact .dead ((dead_rt _).bind _) | exact .dead ((dead_bounds _ _ _ _).bind _) | (refine .dead (Dead.bind (.halt _ ?_) _); exact True.intro))
        | negSucc m => (first | exact .dead (dead_stuck _) | exact .dead (dead_rt _) | exact .dead (dead_bounds _ _ _ _) | (refine .dead (.halt _ ?_); exact True.intro) | exact .dead (dead_panic _) | exact .dead ((dead_stuck _).bind _) | exact .dead ((dead_rt _).bind _) | exact .dead ((dead_bounds _ _ _ _).bind _) | (refine .dead (Dead.bind (.halt _ ?_) _); exact True.intro))
      | @ptr b b' hb =>
        refine (sr_behind ha).bind fun ρ2 p q hr2 hpq => ?_
        refine (sr_behind (hb.mono hr2)).bind fun ρ3 p2 q2 hr3 hpq2 => ?_
        obtain ⟨p, l⟩ := p
        obtain ⟨q, l'⟩ := q
        obtain ⟨p2, l2⟩ := p2
        obtain ⟨q2, l2'⟩ := q2
        have h1 := hpq.1.mono hr3
        have h2 := hpq2.1
        simp only at h1 h2
        refine .program ?_
        have g1 := h1.base
        have g2 := ((hp.mono hr1).mono hr2).mono hr3
        have e1 : ¬ (p.block < P.globals.size) := by have := g2.base; omega
        have e2 : ¬ (q.block < P.globals.size) := by have := g2.base; omega
        refine sr_ifF (by simp [e1]) (by simp [e2]) ?_
        refine (sr_typeInfo t).bind fun ρ4 i i' hr4 hi => ?_
        obtain ⟨rfl, _⟩ := hi
        split
        · by_cases e : p = p2
          · have e' := h1.same h2 e
            subst e e'
            simp only [beq_self_eq_true, if_true]
            exact .pure rfl
          · have : (p == p2) = false := by simpa using e
            simp only [this]
            (first | exact .dead (dead_stuck _) | exact .dead (dead_rt _) | exact .dead (dead_bounds _ _ _ _) | (refine .dead (.halt _ ?_); exact True.intro) | exact .dead (dead_panic _) | exact .dead ((dead_stuck _).bind _) | exact .dead ((dead_rt _).bind _) | exact .dead ((dead_bounds _ _ _ _).bind _) | (refine .dead (Dead.bind (.halt _ ?_) _); exact True.intro))
        · (first | exact .dead (dead_stuck _) | exact .dead (dead_rt _) | exact .dead (dead_bounds _ _ _ _) | (refine .dead (.halt _ ?_); exact True.intro) | exact .dead (dead_panic _) | exact .dead ((dead_stuck _).bind _) | exact .dead ((dead_rt _).bind _) | exact .dead ((dead_bounds _ _ _ _).bind _) | (refine .dead (Dead.bind (.halt _ ?_) _); exact True.intro))
      | _ => (first | exact .dead (dead_stuck _) | exact .dead (dead_rt _) | exact .dead (dead_bounds _ _ _ _) | (refine .dead (.halt _ ?_); exact True.intro) | exact .dead (dead_panic _) | exact .dead ((dead_stuck _).bind _) | exact .dead ((dead_rt _).bind _) | exact .dead ((dead_bounds _ _ _ _).bind _) | (refine .dead (Dead.bind (.halt _ ?_) _); exact True.intro))
    | _ => cases hy <;> (first | exact .dead (dead_stuck _) | exact .dead (dead_rt _) | exact .dead (dead_bounds _ _ _ _) | (refine .dead (.halt _ ?_); exact True.intro) | exact .dead (dead_panic _) | exact .dead ((dead_stuck _).bind _) | exact .dead ((dead_rt _).bind _) | exact .dead ((dead_bounds _ _ _ _).bind _) | (refine .dead (Dead.bind (.halt _ ?_) _); exact True.intro))
  | struct fs => exact absurd ⟨fs, hd⟩ hs
  | _ => exact hk'.elim
end
end Go.Proofs.Yticdjkkcfdbdcaa
namespace Go.Proofs.Yticdjkkcfdbdcaa
open Go.Conc
/-- What is told equal by looking. -/
def PlainK (v : Value) : Prop := (∃ k n, v = .int k n) ∨ (∃ s, v = .string s) ∨ ∃ b, v = .bool b
/-- A map's type of keys. -/
def KeyD (P : Program) (t : TypeId) (d : TypeDesc) : Prop := (d = .string ∨ d = .bool ∨ ∃ k, d = .int k) ∧ ∀ i u, P.info? t = some i → i.desc ≠ .named "sync.copyChecker" u
section
variable {S : FnSet} {P : Program} {ρ : Ren}
theorem PlainK.eq {v v' : Value} (h : PlainK v) (hv : VR S ρ v v') : v' = v := by
  rcases h with ⟨k, n, rfl⟩ | ⟨s, rfl⟩ | ⟨b, rfl⟩ <;> (cases hv; rfl)
theorem sr_equalK (hp : PR P ρ) (t : TypeId) {x x' y y' : Value} (hk : ∀ d, P.underlying t = some d → KeyD P t d) (hx : VR S ρ x x') (hy : VR S ρ y y') : SR S P (fun _ (a b : Bool) => a = b ∧ (a = true → PlainK x)) ρ (Op.equal t x y) (Op.equal t x' y') := by
  unfold Op.equal Op.maxDepth Op.equalIn
  refine (sr_underlying t).bind fun ρ1 d d' hr1 hd => ?_
  obtain ⟨rfl, hd⟩ := hd
  obtain ⟨hk1, hk2⟩ := hk d hd
  have hx := hx.mono hr1
  have hy := hy.mono hr1
  rcases hk1 with rfl | rfl | ⟨k, rfl⟩
  · cases hx <;> first | (first | exact .dead (dead_stuck _) | exact .dead (dead_rt _) | exact .dead (dead_bounds _ _ _ _) | (refine .dead (.halt _ ?_); exact True.intro) | exact .dead (dead_panic _) | exact .dead ((dead_stuck _).bind _) | exact .dead ((dead_rt _).bind _) | exact .dead ((dead_bounds _ _ _ _).bind _) | (refine .dead (Dead.bind (.halt _ ?_) _); exact True.intro)) | (cases hy <;> first | exact .pure ⟨rfl, fun _ => .inr (.inl ⟨_, rfl⟩)⟩ | (first | exact .dead (dead_stuck _) | exact .dead (dead_rt _) | exact .dead (dead_bounds _ _ _ _) | (refine .dead (.halt _ ?_); exact True.intro) | exact .dead (dead_panic _) | exact .dead ((dead_stuck _).bind _) | exact .dead ((dead_rt _).bind _) | exact .dead ((dead_bounds _ _ _ _).bind _) | (refine .dead (Dead.bind (.halt _ ?_) _); exact True.intro)))
  · cases hx <;> first | (first | exact .dead (dead_stuck _) | exact .dead (dead_rt _) | exact .dead (dead_bounds _ _ _ _) | (refine .dead (.halt _ ?_); exact True.intro) | exact .dead (dead_panic _) | exact .dead ((dead_stuck _).bind _) | exact .dead ((dead_rt _).bind _) | exact .dead ((dead_bounds _ _ _ _).bind _) | (refine .dead (Dead.bind (.halt _ ?_) _); exact True.intro)) | (cases hy <;> first | exact .pure ⟨rfl, fun _ => .inr (.inr ⟨_, rfl⟩)⟩ | (first | exact .dead (dead_stuck _) | exact .dead (dead_rt _) | exact .dead (dead_bounds _ _ _ _) | (refine .dead (.halt _ ?_); exact True.intro) | exact .dead (dead_panic _) | exact .dead ((dead_stuck _).bind _) | exact .dead ((dead_rt _).bind _) | exact .dead ((dead_bounds _ _ _ _).bind _) | (refine .dead (Dead.bind (.halt _ ?_) _); exact True.intro)))
  · cases hx with
    | int j n =>
      cases hy with
      | int j' n' => exact sr_if (fun _ => .pure ⟨rfl, fun _ => .inl ⟨_, _, rfl⟩⟩) fun _ => by (first | exact .dead (dead_stuck _) | exact .dead (dead_rt _) | exact .dead (dead_bounds _ _ _ _) | (refine .dead (.halt _ ?_); exact True.intro) | exact .dead (dead_panic _) | exact .dead ((dead_stuck _).bind _) | exact .dead ((dead_rt _).bind _) | exact .dead ((dead_bounds _ _ _ _).bind _) | (refine .dead (Dead.bind (.halt _ ?_) _); exact True.intro))
      | ptr ha =>
        cases n with
        | ofNat m => cases m <;> first | exact .pure ⟨rfl, fun _ => .inl ⟨_, _, rfl⟩⟩ | (first | exact .dead (dead_stuck _) | exact .dead (dead_rt _) | exact .dead (dead_bounds _ _ _ _) | (refine .dead (.halt _ ?_); exact True.intro) | exact .dead (dead_panic _) | exact .dead ((dead_stuck _).bind _) | exact .dead ((dead_rt _).bind _) | exact .dead ((dead_bounds _ _ _ _).bind _) | (refine .dead (Dead.bind (.halt _ ?_) _); exact True.intro))
        | negSucc m => (first | exact .dead (dead_stuck _) | exact .dead (dead_rt _) | exact .dead (dead_bounds _ _ _ _) | (refine .dead (.halt _ ?_); exact True.intro) | exact .dead (dead_panic _) | exact .dead ((dead_stuck _).bind _) | exact .dead ((dead_rt _).bind _) | exact .dead ((dead_bounds _ _ _ _).bind _) | (refine .dead (Dead.bind (.halt _ ?_) _); exact True.intro))
      | _ => (first | exact .dead (dead_stuck _) | exact .dead (dead_rt _) | exact .dead (dead_bounds _ _ _ _) | (refine .dead (.halt _ ?_); exact True.intro) | exact .dead (dead_panic _) | exact .dead ((dead_stuck _).bind _) | exact .dead ((dead_rt _).bind _) | exact .dead ((dead_bounds _ _ _ _).bind _) | (refine .dead (Dead.bind (.halt _ ?_) _); exact True.intro))
    | nilPtr => cases hy <;> (first | exact .dead (dead_stuck _) | exact .dead (dead_rt _) | exact .dead (dead_bounds _ _ _ _) | (refine .dead (.halt _ ?_); exact True.intro) | exact .dead (dead_panic _) | exact .dead ((dead_stuck _).bind _) | exact .dead ((dead_rt _).bind _) | exact .dead ((dead_bounds _ _ _ _).bind _) | (refine .dead (Dead.bind (.halt _ ?_) _); exact True.intro))
    | @ptr a a' ha =>
      cases hy with
      | int j n =>
        cases n with
        | ofNat m => cases m <;> first | exact .pure ⟨rfl, fun h => by cases h⟩ | (first | exact .dead (dead_stuck _) | exact .dead (dead_rt _) | exact .dead (dead_bounds _ _ _ _) | (refine .dead (.halt _ ?_); exact True.intro) | exact .dead (dead_panic _) | exact .dead ((dead_stuck _).bind _) | exact .dead ((dead_rt _).bind _) | exact .dead ((dead_bounds _ _ _ _).bind _) | (refine .dead (Dead.bind (.halt _ ?_) _); exact True.intro))
        | negSucc m => (first | exact .dead (dead_stuck _) | exact .dead (dead_rt _) | exact .dead (dead_bounds _ _ _ _) | (refine .dead (.halt _ ?_); exact True.intro) | exact .dead (dead_panic _) | exact .dead ((dead_stuck _).bind _) | exact .dead ((dead_rt _).bind _) | exact .dead ((dead_bounds _ _ _ _).bind _) | (refine .dead (Dead.bind (.halt _ ?_) _); exact True.intro))
      | @ptr b b' hb =>
        refine (sr_behind ha).bind fun ρ2 p q hr2 hpq => ?_
        refine (sr_behind (hb.mono hr2)).bind fun ρ3 p2 q2 hr3 hpq2 => ?_
        obtain ⟨p, l⟩ := p
        obtain ⟨q, l'⟩ := q
        obtain ⟨p2, l2⟩ := p2
        obtain ⟨q2, l2'⟩ := q2
        have h1 := hpq.1.mono hr3
        have h2 := hpq2.1
        simp only at h1 h2
        refine .program ?_
        have g1 := h1.base
        have g2 := ((hp.mono hr1).mono hr2).mono hr3
        have e1 : ¬ (p.block < P.globals.size) := by have := g2.base; omega
        have e2 : ¬ (q.block < P.globals.size) := by have := g2.base; omega
        refine sr_ifF (by simp [e1]) (by simp [e2]) ?_
        refine (sr_typeInfo t).bind fun ρ4 i i' hr4 hi => ?_
        obtain ⟨rfl, hi⟩ := hi
        split
        · rename_i u hu
          exact absurd hu (hk2 _ _ hi)
        · (first | exact .dead (dead_stuck _) | exact .dead (dead_rt _) | exact .dead (dead_bounds _ _ _ _) | (refine .dead (.halt _ ?_); exact True.intro) | exact .dead (dead_panic _) | exact .dead ((dead_stuck _).bind _) | exact .dead ((dead_rt _).bind _) | exact .dead ((dead_bounds _ _ _ _).bind _) | (refine .dead (Dead.bind (.halt _ ?_) _); exact True.intro))
      | _ => (first | exact .dead (dead_stuck _) | exact .dead (dead_rt _) | exact .dead (dead_bounds _ _ _ _) | (refine .dead (.halt _ ?_); exact True.intro) | exact .dead (dead_panic _) | exact .dead ((dead_stuck _).bind _) | exact .dead ((dead_rt _).bind _) | exact .dead ((dead_bounds _ _ _ _).bind _) | (refine .dead (Dead.bind (.halt _ ?_) _); exact True.intro))
    | _ => cases hy <;> (first | exact .dead (dead_stuck _) | exact .dead (dead_rt _) | exact .dead (dead_bounds _ _ _ _) | (refine .dead (.halt _ ?_); exact True.intro) | exact .dead (dead_panic _) | exact .dead ((dead_stuck _).bind _) | exact .dead ((dead_rt _).bind _) | exact .dead ((dead_bounds _ _ _ _).bind _) | (refine .dead (Dead.bind (.halt _ ?_) _); exact True.intro))
/-- Entries of two maps that are alike. -/
def ER (S : FnSet) (ρ : Ren) (es es' : List MapEntry) : Prop := es.length = es'.length ∧ ∀ (i : Nat) e e', es[i]? = some e → es'[i]? = some e' → VR S ρ e.key e'.key ∧ VR S ρ e.val e'.val ∧ e.born = e'.born
theorem ER.mono {ρ' : Ren} {es es' : List MapEntry} (h : ER S ρ es es') (hr : ρ.le ρ') : ER S ρ' es es' := ⟨h.1, fun i e e' h1 h2 => ⟨(h.2 i e e' h1 h2).1.mono hr, (h.2 i e e' h1 h2).2.1.mono hr, (h.2 i e e' h1 h2).2.2⟩⟩
theorem ER.tail {e e' : MapEntry} {es es' : List MapEntry} (h : ER S ρ (e :: es) (e' :: es')) : ER S ρ es es' := ⟨by have := h.1; simpa using this, fun i a a' h1 h2 => h.2 (i + 1) a a' (by simpa using h1) (by simpa using h2)⟩
theorem ER.head {e e' : MapEntry} {es es' : List MapEntry} (h : ER S ρ (e :: es) (e' :: es')) : VR S ρ e.key e'.key ∧ VR S ρ e.val e'.val ∧ e.born = e'.born := h.2 0 e e' rfl rfl
/-- What is found. -/
def FoundR (S : FnSet) (k : Value) (i n : Nat) (ρ : Ren) (a b : Option (Nat × Value)) : Prop := (a = none ∧ b = none) ∨ ∃ j v v', a = some (j, v) ∧ b = some (j, v') ∧ VR S ρ v v' ∧ PlainK k ∧ i ≤ j ∧ j < i + n
theorem sr_findAsking (hp : PR P ρ) (t : TypeId) (hk : ∀ d, P.underlying t = some d → KeyD P t d) {k k' : Value} : ∀ {es es' : List MapEntry} {ρ1 : Ren} (i : Nat), ρ.le ρ1 → VR S ρ1 k k' → ER S ρ1 es es' → SR S P (FoundR S k i es.length) ρ1 (Instr.findAsking t k es i) (Instr.findAsking t k' es' i)
  | [], [], _, i, _, _, _ => .pure (.inl ⟨rfl, rfl⟩)
  | [], _ :: _, _, _, _, _, h => by have := h.1; simp at this
  | _ :: _, [], _, _, _, _, h => by have := h.1; simp at this
  | e :: es, e' :: es', ρ1, i, hr, hkk, h => by
    unfold Instr.findAsking
    refine (sr_equalK (hp.mono hr) t hk hkk h.head.1).bind fun ρ2 a b hr2 hab => ?_
    obtain ⟨rfl, hpl⟩ := hab
    cases a with
    | true => exact .pure (.inr ⟨i, _, _, rfl, rfl, h.head.2.1.mono hr2, hpl rfl, Nat.le_refl _, by simp⟩)
    | false =>
      refine (sr_findAsking hp t hk (i + 1) (hr.trans hr2) (hkk.mono hr2) (h.tail.mono hr2)).mono fun ρ3 a b _ hf => ?_
      exact hf.imp id fun ⟨j, v, v', h1, h2, h3, h4, h5, h6⟩ => ⟨j, v, v', h1, h2, h3, h4, by omega, by simp only [List.length_cons]; omega⟩
theorem sameNow_rel {d : TypeDesc} {x x' y y' : Value} (hx : VR S ρ x x') (hy : VR S ρ y y') : Instr.sameNow d x y = Instr.sameNow d x' y' ∧ (Instr.sameNow d x y ≠ none → PlainK x) := by
  cases hx <;> cases hy <;> cases d <;> first | exact ⟨rfl, fun h => absurd rfl h⟩ | exact ⟨rfl, fun _ => .inl ⟨_, _, rfl⟩⟩ | exact ⟨rfl, fun _ => .inr (.inl ⟨_, rfl⟩)⟩ | exact ⟨rfl, fun _ => .inr (.inr ⟨_, rfl⟩)⟩
theorem findNow_rel {d : TypeDesc} {k k' : Value} (hk : VR S ρ k k') : ∀ {es es' : List MapEntry} (i : Nat), ER S ρ es es' → (Instr.findNow d k es i = none ∧ Instr.findNow d k' es' i = none) ∨ ∃ a b, Instr.findNow d k es i = some a ∧ Instr.findNow d k' es' i = some b ∧ FoundR S k i es.length ρ a b
  | [], [], i, _ => .inr ⟨none, none, rfl, rfl, .inl ⟨rfl, rfl⟩⟩
  | [], _ :: _, _, h => by have := h.1; simp at this
  | _ :: _, [], _, h => by have := h.1; simp at this
  | e :: es, e' :: es', i, h => by
    unfold Instr.findNow
    obtain ⟨h1, h2⟩ := sameNow_rel (d := d) hk h.head.1
    rw [← h1]
    cases hs : Instr.sameNow d k e.key with
    | none => exact .inl ⟨rfl, rfl⟩
    | some b =>
      cases b with
      | true => exact .inr ⟨_, _, rfl, rfl, .inr ⟨i, _, _, rfl, rfl, h.head.2.1, h2 (by rw [hs]; simp), Nat.le_refl _, by simp⟩⟩
      | false =>
        rcases findNow_rel hk (i + 1) h.tail with ⟨q1, q2⟩ | ⟨a, b, q1, q2, q3⟩
        · exact .inl ⟨q1, q2⟩
        · refine .inr ⟨a, b, q1, q2, q3.imp id fun ⟨j, v, v', h1, h2, h3, h4, h5, h6⟩ => ⟨j, v, v', h1, h2, h3, h4, by omega, by simp only [List.length_cons]; omega⟩⟩
theorem sr_findKey (hp : PR P ρ) (t : TypeId) (hk : ∀ d, P.underlying t = some d → KeyD P t d) {k k' : Value} (hkk : VR S ρ k k') {es es' : List MapEntry} (h : ER S ρ es es') : SR S P (FoundR S k 0 es.length) ρ (Instr.findKey t k es) (Instr.findKey t k' es') := by
  unfold Instr.findKey
  refine (sr_underlying t).bind fun ρ1 d d' hr1 hd => ?_
  obtain ⟨rfl, hd⟩ := hd
  rcases findNow_rel (d := d) (hkk.mono hr1) 0 (h.mono hr1) with ⟨q1, q2⟩ | ⟨a, b, q1, q2, q3⟩
  · rw [q1, q2]
    exact sr_findAsking hp t hk 0 hr1 (hkk.mono hr1) (h.mono hr1)
  · rw [q1, q2]
    exact .pure q3
theorem sr_checkKey (b : Bool) (t : TypeId) (hk : ∀ d, P.underlying t = some d → KeyD P t d) {k k' : Value} (hkk : VR S ρ k k') : SR S P (fun _ _ _ => True) ρ (Instr.checkKey b 10000 t k) (Instr.checkKey b 10000 t k') := by
  unfold Instr.checkKey
  refine (sr_underlying t).bind fun ρ1 d d' hr1 hd => ?_
  obtain ⟨rfl, hd⟩ := hd
  rcases (hk d hd).1 with rfl | rfl | ⟨j, rfl⟩ <;> (cases hkk <;> exact .pure trivial)
theorem sameBits_rel {n : Nat} {x x' y y' : Value} (hx : VR S ρ x x') (hy : VR S ρ y y') (hp : PlainK y) : Instr.sameBits n x y = Instr.sameBits n x' y' := by
  rw [hp.eq hy]
  rcases hp with ⟨k, m, rfl⟩ | ⟨s, rfl⟩ | ⟨b, rfl⟩ <;> (cases hx <;> cases n <;> rfl)
theorem sr_keyThatStays {x x' y y' : Value} (hx : VR S ρ x x') (hy : VR S ρ y y') (hp : PlainK y) : SR S P (fun ρ a b => VR S ρ a b) ρ (Instr.keyThatStays x y) (Instr.keyThatStays x' y') := by
  unfold Instr.keyThatStays
  rw [sameBits_rel hx hy hp]
  refine sr_if (fun _ => .pure hy) fun _ => ?_
  refine (sr_choose _).bind fun ρ1 a b hr e => ?_
  cases e
  refine .pure ?_
  split
  · exact hy.mono hr
  · exact hx.mono hr
theorem er_of {es es' : Array MapEntry} (se : es.size = es'.size) (he : ∀ (i : Nat) e e', es[i]? = some e → es'[i]? = some e' → VR S ρ e.key e'.key ∧ VR S ρ e.val e'.val ∧ e.born = e'.born) : ER S ρ es.toList es'.toList := ⟨by simpa using se, fun i e e' h1 h2 => he i e e' (by simpa using h1) (by simpa using h2)⟩
theorem isEmpty_same {es es' : Array MapEntry} (se : es.size = es'.size) : es.isEmpty = es'.isEmpty := by simp only [Array.isEmpty, se]
theorem entry_at {es es' : Array MapEntry} (se : es.size = es'.size) (he : ∀ (i : Nat) e e', es[i]? = some e → es'[i]? = some e' → VR S ρ e.key e'.key ∧ VR S ρ e.val e'.val ∧ e.born = e'.born) {k k' : Value} (hk : VR S ρ k k') (i : Nat) :
    VR S ρ (((es[i]?).map (·.key)).getD k) (((es'[i]?).map (·.key)).getD k') ∧ ((es[i]?).map (·.born)).getD 0 = ((es'[i]?).map (·.born)).getD 0 := by
  by_cases h : i < es.size
  · have h' : i < es'.size := se ▸ h
    have := he i _ _ (Array.getElem?_eq_getElem h) (Array.getElem?_eq_getElem h')
    rw [Array.getElem?_eq_getElem h, Array.getElem?_eq_getElem h']
    exact ⟨this.1, this.2.2⟩
  · have h' : ¬ i < es'.size := se ▸ h
    rw [Array.getElem?_eq_none (by omega), Array.getElem?_eq_none (by omega)]
    exact ⟨hk, rfl⟩
theorem or_modify {es es' : Array MapEntry} (clock : Nat) (se : es.size = es'.size) (he : ∀ (i : Nat) e e', es[i]? = some e → es'[i]? = some e' → VR S ρ e.key e'.key ∧ VR S ρ e.val e'.val ∧ e.born = e'.born) (j : Nat) {f f' : MapEntry → MapEntry}
    (hf : ∀ e e', VR S ρ e.key e'.key ∧ VR S ρ e.val e'.val ∧ e.born = e'.born → VR S ρ (f e).key (f' e').key ∧ VR S ρ (f e).val (f' e').val ∧ (f e).born = (f' e').born) : OR S ρ (.map (es.modify j f) clock) (.map (es'.modify j f') clock) := by
  refine .map clock (by simp [se]) fun i e e' h1 h2 => ?_
  rw [Array.getElem?_modify] at h1 h2
  split at h1
  · rename_i e0
    rw [if_pos e0] at h2
    obtain ⟨a, ha, rfl⟩ := Option.map_eq_some_iff.1 h1
    obtain ⟨a', ha', rfl⟩ := Option.map_eq_some_iff.1 h2
    exact hf _ _ (he i a a' ha ha')
  · rename_i e0
    rw [if_neg e0] at h2
    exact he i e e' h1 h2
theorem or_push {es es' : Array MapEntry} (clock c : Nat) (se : es.size = es'.size) (he : ∀ (i : Nat) e e', es[i]? = some e → es'[i]? = some e' → VR S ρ e.key e'.key ∧ VR S ρ e.val e'.val ∧ e.born = e'.born) {k k' v v' : Value} (hk : VR S ρ k k') (hv : VR S ρ v v') (b : Nat) : OR S ρ (.map (es.push ⟨k, v, b⟩) c) (.map (es'.push ⟨k', v', b⟩) c) := by
  refine .map c (by simp [se]) fun i e e' h1 h2 => ?_
  rw [Array.getElem?_push] at h1 h2
  rw [← se] at h2
  split at h1
  · rename_i e0
    rw [if_pos e0] at h2
    cases h1; cases h2
    exact ⟨hk, hv, rfl⟩
  · rename_i e0
    rw [if_neg e0] at h2
    exact he i e e' h1 h2
/-- What is asked of a map's type. -/
def MapOk (P : Program) (t : TypeId) : Prop := ∀ key elem, P.underlying t = some (.map key elem) → (∀ d, P.underlying key = some d → KeyD P key d) ∧ ZeroOk P elem
theorem sr_lookup (hp : PR P ρ) (t : TypeId) (hk : MapOk P t) {x x' i i' : Value} (hx : VR S ρ x x') (hi : VR S ρ i i') (ok : Bool) : SR S P (fun ρ a b => VR S ρ a b) ρ (Instr.lookup t x i ok) (Instr.lookup t x' i' ok) := by
  unfold Instr.lookup
  refine (sr_underlying t).bind fun ρ1 d d' hr1 hd => ?_
  obtain ⟨rfl, hd⟩ := hd
  have hx := hx.mono hr1
  have hi := hi.mono hr1
  have hp := hp.mono hr1
  cases d with
  | map key elem =>
    obtain ⟨hk1, hz⟩ := hk key elem hd
    have out : ∀ (ρ5 : Ren) (v v' : Value) (b : Bool), VR S ρ5 v v' → VR S ρ5 (if ok = true then .tuple #[v, .bool b] else v) (if ok = true then .tuple #[v', .bool b] else v') := fun ρ5 v v' b h => by
      split
      · exact .tuple rfl fun i u u' h1 h2 => by
          match i, h1, h2 with
          | 0, h1, h2 => simp at h1 h2; subst h1 h2; exact h
          | 1, h1, h2 => simp at h1 h2; subst h1 h2; exact .bool _
          | i + 2, h1, _ => simp at h1
      · exact h
    have fin : ∀ (ρ2 : Ren) (es es' : Array MapEntry), ρ1.le ρ2 → es.size = es'.size → ER S ρ2 es.toList es'.toList → SR S P (fun ρ a b => VR S ρ a b) ρ2
        (Instr.checkKey es.isEmpty 10000 key i >>= fun _ => Instr.findKey key i es.toList >>= fun r => match r with | some (_, v) => pure (if ok = true then .tuple #[v, .bool true] else v) | none => zeroValue elem >>= fun z => pure (if ok = true then .tuple #[z, .bool false] else z))
        (Instr.checkKey es'.isEmpty 10000 key i' >>= fun _ => Instr.findKey key i' es'.toList >>= fun r => match r with | some (_, v) => pure (if ok = true then .tuple #[v, .bool true] else v) | none => zeroValue elem >>= fun z => pure (if ok = true then .tuple #[z, .bool false] else z)) := fun ρ2 es es' hr2 se he => by
      rw [isEmpty_same se]
      refine (sr_checkKey _ key hk1 (hi.mono hr2)).bind fun ρ3 _ _ hr3 _ => ?_
      refine (sr_findKey ((hp.mono hr2).mono hr3) key hk1 ((hi.mono hr2).mono hr3) (he.mono hr3)).bind fun ρ4 a b hr4 hab => ?_
      rcases hab with ⟨rfl, rfl⟩ | ⟨j, v, v', rfl, rfl, hv, _⟩
      · exact (sr_zero hz).bind fun _ _ _ _ h => .pure (out _ _ _ _ h)
      · exact .pure (out _ _ _ _ hv)
    cases hx with
    | nilMap => exact fin ρ1 #[] #[] (.refl _) rfl ⟨rfl, fun i e e' h => by simp at h⟩
    | map h =>
      refine .getObj h (fun o o' _ ho => ?_) (fun _ a b c d e g => ?_)
      · cases ho with
        | map clock se he => exact fin ρ1 _ _ (.refl _) se (er_of se he)
        | _ => exact .dead (.halt _ trivial)
      · exact .halt _ trivial
    | _ => exact .dead (.halt _ trivial)
  | _ => (first | exact .dead (dead_stuck _) | exact .dead (dead_rt _) | exact .dead (dead_bounds _ _ _ _) | (refine .dead (.halt _ ?_); exact True.intro) | exact .dead (dead_panic _) | exact .dead ((dead_stuck _).bind _) | exact .dead ((dead_rt _).bind _) | exact .dead ((dead_bounds _ _ _ _).bind _) | (refine .dead (Dead.bind (.halt _ ?_) _); exact True.intro))
theorem sr_mapUpdate (hp : PR P ρ) (t : TypeId) (hk : MapOk P t) {x x' i i' y y' : Value} (hx : VR S ρ x x') (hi : VR S ρ i i') (hy : VR S ρ y y') : SR S P (fun _ _ _ => True) ρ (Instr.mapUpdate t x i y) (Instr.mapUpdate t x' i' y') := by
  unfold Instr.mapUpdate
  refine (sr_underlying t).bind fun ρ1 d d' hr1 hd => ?_
  obtain ⟨rfl, hd⟩ := hd
  have hx := hx.mono hr1
  have hi := hi.mono hr1
  have hy := hy.mono hr1
  have hp := hp.mono hr1
  cases d with
  | map key elem =>
    obtain ⟨hk1, _⟩ := hk key elem hd
    cases hx with
    | nilMap => (first | exact .dead (dead_stuck _) | exact .dead (dead_rt _) | exact .dead (dead_bounds _ _ _ _) | (refine .dead (.halt _ ?_); exact True.intro) | exact .dead (dead_panic _) | exact .dead ((dead_stuck _).bind _) | exact .dead ((dead_rt _).bind _) | exact .dead ((dead_bounds _ _ _ _).bind _) | (refine .dead (Dead.bind (.halt _ ?_) _); exact True.intro))
    | map h =>
      refine .getObj h (fun o o' hown ho => ?_) fun _ a b c d e g => dead_stuck _
      cases ho with
      | map clock se he =>
        refine (sr_checkKey _ key hk1 hi).bind fun ρ2 _ _ hr2 _ => ?_
        refine (sr_findKey (hp.mono hr2) key hk1 (hi.mono hr2) ((er_of se he).mono hr2)).bind fun ρ3 a b hr3 hab => ?_
        have hr := hr2.trans hr3
        have he3 := fun i e e' h1 h2 => (show VR S ρ3 _ _ ∧ VR S ρ3 _ _ ∧ _ from ⟨(he i e e' h1 h2).1.mono hr, (he i e e' h1 h2).2.1.mono hr, (he i e e' h1 h2).2.2⟩)
        rcases hab with ⟨rfl, rfl⟩ | ⟨j, v, v', rfl, rfl, _, hpl, _⟩
        · exact .setObj (hr.to _ _ h) (hr.own _ hown) (or_push clock _ se he3 (hi.mono hr) (hy.mono hr) _) (.pure trivial)
        · refine (sr_keyThatStays (entry_at se he3 (hi.mono hr) j).1 (hi.mono hr) hpl).bind fun ρ4 q q' hr4 hq => ?_
          have he4 := fun i e e' h1 h2 => (show VR S ρ4 _ _ ∧ VR S ρ4 _ _ ∧ _ from ⟨(he3 i e e' h1 h2).1.mono hr4, (he3 i e e' h1 h2).2.1.mono hr4, (he3 i e e' h1 h2).2.2⟩)
          exact .setObj ((hr.trans hr4).to _ _ h) ((hr.trans hr4).own _ hown) (or_modify clock se he4 j fun e e' h => ⟨hq, hy.mono (hr.trans hr4), h.2.2⟩) (.pure trivial)
      | _ => (first | exact .dead (dead_stuck _) | exact .dead (dead_rt _) | exact .dead (dead_bounds _ _ _ _) | (refine .dead (.halt _ ?_); exact True.intro) | exact .dead (dead_panic _) | exact .dead ((dead_stuck _).bind _) | exact .dead ((dead_rt _).bind _) | exact .dead ((dead_bounds _ _ _ _).bind _) | (refine .dead (Dead.bind (.halt _ ?_) _); exact True.intro))
    | _ => (first | exact .dead (dead_stuck _) | exact .dead (dead_rt _) | exact .dead (dead_bounds _ _ _ _) | (refine .dead (.halt _ ?_); exact True.intro) | exact .dead (dead_panic _) | exact .dead ((dead_stuck _).bind _) | exact .dead ((dead_rt _).bind _) | exact .dead ((dead_bounds _ _ _ _).bind _) | (refine .dead (Dead.bind (.halt _ ?_) _); exact True.intro))
  | _ => (first | exact .dead (dead_stuck _) | exact .dead (dead_rt _) | exact .dead (dead_bounds _ _ _ _) | (refine .dead (.halt _ ?_); exact True.intro) | exact .dead (dead_panic _) | exact .dead ((dead_stuck _).bind _) | exact .dead ((dead_rt _).bind _) | exact .dead ((dead_bounds _ _ _ _).bind _) | (refine .dead (Dead.bind (.halt _ ?_) _); exact True.intro))
theorem sr_makeMap (t : TypeId) {r r' : Option Value} (hr : VO S ρ r r') : SR S P (fun ρ a b => VR S ρ a b) ρ (Instr.makeMap t r) (Instr.makeMap t r') := by
  have fin : ∀ ρ1 : Ren, SR S P (fun ρ a b => VR S ρ a b) ρ1 (newObj (.map #[] 0) >>= fun b => pure (.map (some b))) (newObj (.map #[] 0) >>= fun b => pure (.map (some b))) := fun ρ1 => .new (.inr (.map 0 rfl fun i e e' h => by simp at h)) fun ρ' b b' _ h _ _ => .pure (.map h)
  unfold Instr.makeMap
  cases r <;> cases r' <;> first | exact hr.elim | skip
  · exact fin ρ
  · refine (sr_underlying t).bind fun ρ1 d d' hr1 hd => ?_
    obtain ⟨rfl, hd⟩ := hd
    cases d with
    | map key elem => exact (sr_asInt (VR.mono hr hr1)).bind fun ρ2 _ _ _ _ => fin ρ2
    | _ => (first | exact .dead (dead_stuck _) | exact .dead (dead_rt _) | exact .dead (dead_bounds _ _ _ _) | (refine .dead (.halt _ ?_); exact True.intro) | exact .dead (dead_panic _) | exact .dead ((dead_stuck _).bind _) | exact .dead ((dead_rt _).bind _) | exact .dead ((dead_bounds _ _ _ _).bind _) | (refine .dead (Dead.bind (.halt _ ?_) _); exact True.intro))
theorem sr_delete (hp : PR P ρ) (ats : Array TypeId) (hk : ∀ t, ats[0]? = some t → MapOk P t) (t : TypeId) {args args' : Array Value} (ha : VRs S ρ args args') : SR S P (fun ρ a b => VR S ρ a b) ρ (Builtin.delete_ ats t args) (Builtin.delete_ ats t args') := by
  unfold Builtin.delete_
  have tup : ∀ ρ' : Ren, VR S ρ' (.tuple #[]) (.tuple #[]) := fun _ => .tuple rfl fun i v v' h => by simp at h
  cases h1 : ats[0]? with
  | none => (first | exact .dead (dead_stuck _) | exact .dead (dead_rt _) | exact .dead (dead_bounds _ _ _ _) | (refine .dead (.halt _ ?_); exact True.intro) | exact .dead (dead_panic _) | exact .dead ((dead_stuck _).bind _) | exact .dead ((dead_rt _).bind _) | exact .dead ((dead_bounds _ _ _ _).bind _) | (refine .dead (Dead.bind (.halt _ ?_) _); exact True.intro))
  | some mt =>
  cases h2 : args[0]? with
  | none => (first | exact .dead (dead_stuck _) | exact .dead (dead_rt _) | exact .dead (dead_bounds _ _ _ _) | (refine .dead (.halt _ ?_); exact True.intro) | exact .dead (dead_panic _) | exact .dead ((dead_stuck _).bind _) | exact .dead ((dead_rt _).bind _) | exact .dead ((dead_bounds _ _ _ _).bind _) | (refine .dead (Dead.bind (.halt _ ?_) _); exact True.intro))
  | some m =>
  cases h3 : args[1]? with
  | none => (first | exact .dead (dead_stuck _) | exact .dead (dead_rt _) | exact .dead (dead_bounds _ _ _ _) | (refine .dead (.halt _ ?_); exact True.intro) | exact .dead (dead_panic _) | exact .dead ((dead_stuck _).bind _) | exact .dead ((dead_rt _).bind _) | exact .dead ((dead_bounds _ _ _ _).bind _) | (refine .dead (Dead.bind (.halt _ ?_) _); exact True.intro))
  | some k =>
  obtain ⟨m', h2', hm⟩ := ha.get h2
  obtain ⟨k', h3', hkk⟩ := ha.get h3
  rw [h2', h3']
  simp only
  refine (sr_underlying mt).bind fun ρ1 d d' hr1 hd => ?_
  obtain ⟨rfl, hd⟩ := hd
  have hm := hm.mono hr1
  have hkk := hkk.mono hr1
  have hp := hp.mono hr1
  cases d with
  | map key elem =>
    obtain ⟨hk1, _⟩ := hk mt h1 key elem hd
    cases hm with
    | nilMap => exact (sr_checkKey _ key hk1 hkk).bind fun ρ2 _ _ _ _ => .pure (tup _)
    | map h =>
      refine .getObj h (fun o o' hown ho => ?_) (fun _ a b c d e g => ?_)
      rotate_left
      · exact .halt _ trivial
      cases ho with
      | @map es es' clock se he =>
        show SR S P _ ρ1 (Instr.checkKey es.isEmpty 10000 key k >>= _) (Instr.checkKey es'.isEmpty 10000 key k' >>= _)
        rw [isEmpty_same se]
        refine (sr_checkKey _ key hk1 hkk).bind fun ρ2 _ _ hr2 _ => ?_
        refine (sr_findKey (hp.mono hr2) key hk1 (hkk.mono hr2) ((er_of se he).mono hr2)).bind fun ρ3 a b hr3 hab => ?_
        have hr := hr2.trans hr3
        have he3 := fun i e e' h1 h2 => (show VR S ρ3 _ _ ∧ VR S ρ3 _ _ ∧ _ from ⟨(he i e e' h1 h2).1.mono hr, (he i e e' h1 h2).2.1.mono hr, (he i e e' h1 h2).2.2⟩)
        rcases hab with ⟨rfl, rfl⟩ | ⟨j, v, v', rfl, rfl, _, hpl, _, hj⟩
        · exact .setObj (hr.to _ _ h) (hr.own _ hown) (.map clock se he3) (.pure (tup _))
        · refine .setObj (hr.to _ _ h) (hr.own _ hown) (.map clock ?_ fun i e e' h1 h2 => ?_) (.pure (tup _))
          · have hj1 : j < es.size := by simpa using hj
            have hj2 : j < es'.size := se ▸ hj1
            simp only [Array.eraseIdxIfInBounds, hj1, hj2, dif_pos, Array.size_eraseIdx, se]
          · have hj1 : j < es.size := by simpa using hj
            have hj2 : j < es'.size := se ▸ hj1
            simp only [Array.eraseIdxIfInBounds, hj1, hj2, dif_pos, Array.getElem?_eraseIdx] at h1 h2
            split at h1
            · rename_i e0
              rw [if_pos e0] at h2
              exact he3 _ _ _ h1 h2
            · rename_i e0
              rw [if_neg e0] at h2
              exact he3 _ _ _ h1 h2
      | _ => exact .dead (.halt _ trivial)
    | _ => exact .dead (.halt _ trivial)
  | _ => (first | exact .dead (dead_stuck _) | exact .dead (dead_rt _) | exact .dead (dead_bounds _ _ _ _) | (refine .dead (.halt _ ?_); exact True.intro) | exact .dead (dead_panic _) | exact .dead ((dead_stuck _).bind _) | exact .dead ((dead_rt _).bind _) | exact .dead ((dead_bounds _ _ _ _).bind _) | (refine .dead (Dead.bind (.halt _ ?_) _); exact True.intro))
end
end Go.Proofs.Yticdjkkcfdbdcaa
namespace Go.Proofs.Yticdjkkcfdbdcaa
open Go.Conc
section
variable {S : FnSet} {P : Program} {ρ : Ren}
theorem sr_movedNumber (hp : PR P ρ) (t : TypeId) {x x' y y' : Value} (hx : VR S ρ x x') (hy : VR S ρ y y') : SR S P (fun ρ a b => VR S ρ a b) ρ (movedNumber t x y) (movedNumber t x' y') := by
  unfold movedNumber
  refine (sr_underlying t).bind fun ρ1 d d' hr1 hd => ?_
  obtain ⟨rfl, hd⟩ := hd
  refine sr_if (fun _ => by (first | exact .dead (dead_stuck _) | exact .dead (dead_rt _) | exact .dead (dead_bounds _ _ _ _) | (refine .dead (.halt _ ?_); exact True.intro) | exact .dead (dead_panic _) | exact .dead ((dead_stuck _).bind _) | exact .dead ((dead_rt _).bind _) | exact .dead ((dead_bounds _ _ _ _).bind _) | (refine .dead (Dead.bind (.halt _ ?_) _); exact True.intro))) fun _ => ?_
  have hx := hx.mono hr1
  have hy := hy.mono hr1
  have hp := hp.mono hr1
  by_cases h : ∃ a, x = .pointer (some a)
  · obtain ⟨a, rfl⟩ := h
    obtain ⟨a', rfl, ha⟩ := hx.ptr_inv
    refine (sr_behind ha).bind fun ρ2 p q hr2 hpq => ?_
    obtain ⟨p, l⟩ := p
    obtain ⟨q, l'⟩ := q
    obtain ⟨h1, h2⟩ := hpq
    simp only at h1 h2
    subst h2
    refine (sr_unsafeAdd (hp.mono hr2) t (.ptr h1) (hy.mono hr2)).bind fun ρ3 u u' hr3 hu => ?_
    by_cases h : ∃ a, u = .pointer (some a)
    · obtain ⟨b, rfl⟩ := h
      obtain ⟨b', rfl, hb⟩ := hu.ptr_inv
      exact sr_asNumber hb l
    · cases hu <;> first | exact absurd ⟨_, rfl⟩ h | exact .pure (VR.void _ _ _ _) | exact .pure (by constructor <;> assumption) | exact .pure (VR.nilPtr)
  · have := sr_unsafeAdd hp t hx hy
    cases hx <;> first | exact this | exact absurd ⟨_, rfl⟩ h
theorem sr_movedPointer (hp : PR P ρ) (t : TypeId) {x x' y y' : Value} (hx : VR S ρ x x') (hy : VR S ρ y y') : SR S P (fun ρ a b => VR S ρ a b) ρ (movedPointer t x y) (movedPointer t x' y') := by
  unfold movedPointer
  by_cases h : ∃ a, x = .pointer (some a)
  · obtain ⟨a, rfl⟩ := h
    obtain ⟨a', rfl, ha⟩ := hx.ptr_inv
    obtain ⟨h1, c, s, h2, h3⟩ := id ha
    have e : a'.block = c := by rw [h3]
    refine SR.bind (sr_numberAt (r' := a'.block) (s := s) (by rw [e]; exact h2) h1.2) fun ρ1 p q hr hpq => ?_
    rcases hpq with ⟨rfl, rfl⟩ | ⟨b, b', l, rfl, rfl, hb⟩
    · exact sr_unsafeAdd (hp.mono hr) t (.ptr (ha.mono hr)) (hy.mono hr)
    · (first | exact .dead (dead_stuck _) | exact .dead (dead_rt _) | exact .dead (dead_bounds _ _ _ _) | (refine .dead (.halt _ ?_); exact True.intro) | exact .dead (dead_panic _) | exact .dead ((dead_stuck _).bind _) | exact .dead ((dead_rt _).bind _) | exact .dead ((dead_bounds _ _ _ _).bind _) | (refine .dead (Dead.bind (.halt _ ?_) _); exact True.intro))
  · have := sr_unsafeAdd hp t hx hy
    cases hx <;> first | exact this | exact absurd ⟨_, rfl⟩ h
theorem sr_two {α β : Type} {Q : Ren → α → β → Prop} (hp : PR P ρ) {a a' b b' : Addr} (ha : AR ρ a a') (hb : AR ρ b b') {f : Nat × Nat → Sem α} {f' : Nat × Nat → Sem β} : SR S P Q ρ (Op.twoPlaces a b >>= f) (Op.twoPlaces a' b' >>= f') := by
  have g1 := ha.base
  have g2 := hp.base
  have e1 : (a.block != b.block || decide (a.block ≥ P.globals.size)) = true := by
    have : decide (a.block ≥ P.globals.size) = true := by simp; omega
    simp [this]
  have e2 : (a'.block != b'.block || decide (a'.block ≥ P.globals.size)) = true := by
    have : decide (a'.block ≥ P.globals.size) = true := by simp; omega
    simp [this]
  refine .program (.dead ?_)
  show Dead (Sem.bind (if (a.block != b.block || decide (a.block ≥ P.globals.size)) = true then _ else _) f)
  rw [e1]
  refine Dead.bind ?_ f
  rw [if_pos rfl]
  exact .halt _ (by exact trivial)
theorem sr_noView {a a' : Addr} (ha : AR ρ a a') : SR S P QE ρ (noView a) (noView a') := by
  obtain ⟨h1, c, s, h2, h3⟩ := id ha
  have e : a'.block = c := by rw [h3]
  unfold noView
  refine SR.bind (sr_viewAt (r' := a'.block) (s := s) (by rw [e]; exact h2) h1.2) fun ρ2 p q hr hpq => ?_
  obtain ⟨rfl, rfl⟩ := hpq
  exact .pure rfl
/-- The byte at which a place lies; where the row's type is none: nothing is told. -/
theorem sr_addrMod (hp : PR P ρ) (k : IntKind) (n : Int) {a a' : Addr} (ha : AR ρ a a') : SR S P (fun ρ a b => VR S ρ a b) ρ (Op.addrMod k a n) (Op.addrMod k a' n) := by
  obtain ⟨h1, c, s, h2, h3⟩ := id ha
  have e : a'.block = c := by rw [h3]
  unfold Op.addrMod
  refine .shape (r' := a'.block) (s := s) (by rw [e]; exact h2) fun x x' hs => ?_
  rcases hs with ⟨rfl, rfl, _⟩ | ⟨⟨e1, cells⟩, rfl, rfl, rfl, hnp⟩ | ⟨m, p', rfl, rfl, _⟩
  · (first | exact .dead (dead_stuck _) | exact .dead (dead_rt _) | exact .dead (dead_bounds _ _ _ _) | (refine .dead (.halt _ ?_); exact True.intro) | exact .dead (dead_panic _) | exact .dead ((dead_stuck _).bind _) | exact .dead ((dead_rt _).bind _) | exact .dead ((dead_bounds _ _ _ _).bind _) | (refine .dead (Dead.bind (.halt _ ?_) _); exact True.intro))
  · have eo : a'.off = a.off := by rw [h3]; simp
    have es : a'.spot = none := by rw [h3]
    refine (sr_typeInfo e1).bind fun ρ1 i i' hr1 hi => ?_
    obtain ⟨rfl, _⟩ := hi
    refine sr_if (fun _ => by (first | exact .dead (dead_stuck _) | exact .dead (dead_rt _) | exact .dead (dead_bounds _ _ _ _) | (refine .dead (.halt _ ?_); exact True.intro) | exact .dead (dead_panic _) | exact .dead ((dead_stuck _).bind _) | exact .dead ((dead_rt _).bind _) | exact .dead ((dead_bounds _ _ _ _).bind _) | (refine .dead (Dead.bind (.halt _ ?_) _); exact True.intro))) fun _ => ?_
    refine SR.bind (Q := QE) ?_ fun _ _ _ _ e => by cases e; exact .pure (.int _ _)
    unfold byteOf
    rw [h1.1, es]
    refine .program ?_
    refine (sr_noView (ha.mono hr1)).bind fun ρ2 _ _ hr2 _ => ?_
    refine .shape (r' := a'.block) (s := 0) (by rw [e]; exact hr2.to _ _ (hr1.to _ _ h2)) fun x x' hs => ?_
    rcases hs with ⟨rfl, rfl, _⟩ | ⟨⟨e2, cells⟩, rfl, rfl, _⟩ | ⟨m, p', rfl, rfl, hpt⟩
    · (first | exact .dead (dead_stuck _) | exact .dead (dead_rt _) | exact .dead (dead_bounds _ _ _ _) | (refine .dead (.halt _ ?_); exact True.intro) | exact .dead (dead_panic _) | exact .dead ((dead_stuck _).bind _) | exact .dead ((dead_rt _).bind _) | exact .dead ((dead_bounds _ _ _ _).bind _) | (refine .dead (Dead.bind (.halt _ ?_) _); exact True.intro))
    · simp only [eo]
      refine sr_if (fun _ => .pure rfl) fun _ => ?_
      split
      · exact .pure rfl
      · (first | exact .dead (dead_stuck _) | exact .dead (dead_rt _) | exact .dead (dead_bounds _ _ _ _) | (refine .dead (.halt _ ?_); exact True.intro) | exact .dead (dead_panic _) | exact .dead ((dead_stuck _).bind _) | exact .dead ((dead_rt _).bind _) | exact .dead ((dead_bounds _ _ _ _).bind _) | (refine .dead (Dead.bind (.halt _ ?_) _); exact True.intro))
    · exact absurd hpt (by rw [hr2.part, hr1.part]; exact hnp)
  · refine .program (.dead ?_)
    show Dead (Sem.bind (match P.info? ρ.bad with | some i => pure i | none => stuck "no such type") _)
    rw [hp.none]
    exact (dead_stuck _).bind _
theorem mild_bin (op : BinOp) (t : TypeId) (k k' : IntKind) (a b : Int) : Mild (binOp op t (.int k a) (.int k' b)) := by
  cases op <;> first
    | (unfold binOp; simp only; exact mild_shift _ _ _ _ _)
    | (unfold binOp; simp only; split <;> first | exact .dead (dead_stuck _) | exact mild_arith _ _ _ _ | exact mild_div _ _ _ _ | exact mild_bits _ _ _ _ | exact mild_cmp _ _ _)
theorem VR.int_inv {v' : Value} {k : IntKind} {n : Int} (h : VR S ρ (.int k n) v') : v' = .int k n := by cases h; rfl
theorem VR.str_inv {v' : Value} {s : ByteArray} (h : VR S ρ (.string s) v') : v' = .string s := by cases h; rfl
theorem VR.int_back {v : Value} {k : IntKind} {n : Int} (h : VR S ρ v (.int k n)) : v = .int k n := by cases h; rfl
theorem VR.str_back {v : Value} {s : ByteArray} (h : VR S ρ v (.string s)) : v = .string s := by cases h; rfl
theorem VR.no_float {v v' : Value} (h : VR S ρ v v') : (∀ k n, v' ≠ .float k n) ∧ ∀ k n m, v' ≠ .complex k n m := by cases h <;> exact ⟨fun _ _ e => (by cases e), fun _ _ _ e => (by cases e)⟩
theorem bin_eq {op : BinOp} {t : TypeId} {x y : Value} (ho : op = .eql ∨ op = .neq) (hi : ¬ ((∃ k n, x = .int k n) ∧ ∃ k n, y = .int k n)) (hs : ¬ ((∃ s, x = .string s) ∧ ∃ s, y = .string s)) (hf : ∀ k n, x ≠ .float k n) (hc : ∀ k n m, x ≠ .complex k n m) :
    binOp op t x y = (Op.equal t x y >>= fun b => pure (.bool (if op = .eql then b else !b))) := by
  unfold binOp
  split
  all_goals try (exact absurd ⟨⟨_, _, rfl⟩, _, _, rfl⟩ hi)
  all_goals try (exact absurd ⟨⟨_, rfl⟩, _, rfl⟩ hs)
  all_goals try (exact absurd rfl (hf _ _))
  all_goals try (exact absurd rfl (hc _ _ _))
  all_goals try (rcases ho with ho | ho <;> cases ho; done)
  all_goals first | rfl | (rcases ho with rfl | rfl <;> simp_all)
theorem sr_binOp (hp : PR P ρ) (op : BinOp) (t : TypeId) {x x' y y' : Value} (hk : op = .eql ∨ op = .neq → ∀ d, P.underlying t = some d → EqOk P x y d) (hx : VR S ρ x x') (hy : VR S ρ y y') : SR S P (fun ρ a b => VR S ρ a b) ρ (binOp op t x y) (binOp op t x' y') := by
  by_cases hi : (∃ k n, x = .int k n) ∧ ∃ k n, y = .int k n
  · obtain ⟨⟨k, n, rfl⟩, k', n', rfl⟩ := hi
    rw [hx.int_inv, hy.int_inv]
    exact (mild_bin op t k k' n n').rel
  by_cases hs : (∃ s, x = .string s) ∧ ∃ s, y = .string s
  · obtain ⟨⟨s, rfl⟩, s', rfl⟩ := hs
    rw [hx.str_inv, hy.str_inv]
    have : Mild (binOp op t (.string s) (.string s')) := by cases op <;> (unfold binOp; simp only; exact mild_string _ _ _)
    exact this.rel
  have hfx : ∀ k n, x ≠ .float k n := fun k n e => by subst e; cases hx
  have hcx : ∀ k n m, x ≠ .complex k n m := fun k n m e => by subst e; cases hx
  have hx' := hx
  have hy' := hy
  have hi' : ¬ ((∃ k n, x' = .int k n) ∧ ∃ k n, y' = .int k n) := fun ⟨⟨k, n, e⟩, k', n', e'⟩ => hi ⟨⟨k, n, (e ▸ hx).int_back⟩, k', n', (e' ▸ hy).int_back⟩
  have hs' : ¬ ((∃ s, x' = .string s) ∧ ∃ s, y' = .string s) := fun ⟨⟨s, e⟩, s', e'⟩ => hs ⟨⟨s, (e ▸ hx).str_back⟩, s', (e' ▸ hy).str_back⟩
  by_cases ho : op = .eql ∨ op = .neq
  · rw [bin_eq ho hi hs hfx hcx, bin_eq ho hi' hs' hx.no_float.1 hx.no_float.2]
    exact (sr_equal hp t (hk ho) hx hy).bind fun _ a b _ e => by cases e; exact .pure (.bool _)
  generalize hL : binOp op t x y = s
  unfold binOp at hL
  split at hL
  all_goals try (exact absurd ⟨⟨_, _, rfl⟩, _, _, rfl⟩ hi)
  all_goals try (exact absurd ⟨⟨_, rfl⟩, _, rfl⟩ hs)
  all_goals try (exact absurd rfl (hfx _ _))
  all_goals try (exact absurd rfl (hcx _ _ _))
  case h_7 => exact absurd (.inl rfl) ho
  case h_8 => exact absurd (.inr rfl) ho
  all_goals subst hL
  case h_9 =>
    cases hy
    cases hx
    · refine (sr_underlying t).bind fun ρ1 d d' hr1 hd => ?_
      obtain ⟨rfl, hd⟩ := hd
      exact sr_if (fun _ => sr_movedPointer (hp.mono hr1) t (hx'.mono hr1) (hy'.mono hr1)) fun _ => sr_movedNumber (hp.mono hr1) t (hx'.mono hr1) (hy'.mono hr1)
    · refine (sr_underlying t).bind fun ρ1 d d' hr1 hd => ?_
      obtain ⟨rfl, hd⟩ := hd
      exact sr_if (fun _ => sr_movedPointer (hp.mono hr1) t (hx'.mono hr1) (hy'.mono hr1)) fun _ => sr_movedNumber (hp.mono hr1) t (hx'.mono hr1) (hy'.mono hr1)
  case h_10 => cases hx; cases hy <;> exact sr_movedNumber hp t hy' hx'
  case h_11 => cases hy; cases hx <;> exact sr_movedNumber hp t hx' (.int _ _)
  case h_12 =>
    cases hx with | ptr ha => cases hy with | ptr hb =>
    refine (sr_behind ha).bind fun ρ1 p q hr1 hpq => (sr_behind (hb.mono hr1)).bind fun ρ2 p2 q2 hr2 hpq2 => ?_
    exact sr_two ((hp.mono hr1).mono hr2) (hpq.1.mono hr2) hpq2.1
  case h_13 =>
    cases hx with | ptr ha => cases hy with | ptr hb =>
    refine (sr_behind ha).bind fun ρ1 p q hr1 hpq => (sr_behind (hb.mono hr1)).bind fun ρ2 p2 q2 hr2 hpq2 => ?_
    exact sr_two ((hp.mono hr1).mono hr2) (hpq.1.mono hr2) hpq2.1
  case h_14 =>
    cases hx with | ptr ha => cases hy with | ptr hb =>
    refine (sr_behind ha).bind fun ρ1 p q hr1 hpq => (sr_behind (hb.mono hr1)).bind fun ρ2 p2 q2 hr2 hpq2 => ?_
    exact sr_two ((hp.mono hr1).mono hr2) (hpq.1.mono hr2) hpq2.1
  case h_15 =>
    cases hx with | ptr ha => cases hy with | ptr hb =>
    refine (sr_behind ha).bind fun ρ1 p q hr1 hpq => (sr_behind (hb.mono hr1)).bind fun ρ2 p2 q2 hr2 hpq2 => ?_
    exact sr_two ((hp.mono hr1).mono hr2) (hpq.1.mono hr2) hpq2.1
  case h_16 =>
    cases hx with | ptr ha => cases hy with | ptr hb =>
    refine (sr_behind ha).bind fun ρ1 p q hr1 hpq => (sr_behind (hb.mono hr1)).bind fun ρ2 p2 q2 hr2 hpq2 => ?_
    exact sr_two ((hp.mono hr1).mono hr2) (hpq.1.mono hr2) hpq2.1
  case h_17 =>
    cases hx with | ptr ha => cases hy with | int k n =>
    exact (sr_behind ha).bind fun ρ1 p q hr1 hpq => sr_addrMod (hp.mono hr1) _ _ hpq.1
  case h_18 =>
    cases hx with | ptr ha => cases hy with | int k n =>
    exact (sr_behind ha).bind fun ρ1 p q hr1 hpq => sr_addrMod (hp.mono hr1) _ _ hpq.1
  case h_19 =>
    cases hy with | ptr ha => cases hx with | int k n =>
    exact (sr_behind ha).bind fun ρ1 p q hr1 hpq => sr_addrMod (hp.mono hr1) _ _ hpq.1
  all_goals (first | exact .dead (dead_stuck _) | exact .dead (dead_rt _) | exact .dead (dead_bounds _ _ _ _) | (refine .dead (.halt _ ?_); exact True.intro) | exact .dead (dead_panic _) | exact .dead ((dead_stuck _).bind _) | exact .dead ((dead_rt _).bind _) | exact .dead ((dead_bounds _ _ _ _).bind _) | (refine .dead (Dead.bind (.halt _ ?_) _); exact True.intro))
end
end Go.Proofs.Yticdjkkcfdbdcaa
namespace Go.Proofs.Yticdjkkcfdbdcaa
open Go.Conc
section
variable {S : FnSet} {P : Program} {ρ : Ren}
theorem mild_unary_int (op : UnOp) (k : IntKind) (n : Int) : Mild (Op.unary op (.int k n)) := by
  cases op <;> first | (exact mild_arith _ _ _ _) | (exact mild_bits _ _ _ _) | (unfold Op.unary; simp only; first | exact mild_arith _ _ _ _ | exact mild_bits _ _ _ _ | exact .dead (dead_stuck _))
theorem sr_unary (op : UnOp) {x x' : Value} (hx : VR S ρ x x') : SR S P (fun ρ a b => VR S ρ a b) ρ (Op.unary op x) (Op.unary op x') := by
  cases hx with
  | int k n => exact (mild_unary_int op k n).rel
  | bool b => cases op <;> first | exact .pure (.bool _) | (first | exact .dead (dead_stuck _) | exact .dead (dead_rt _) | exact .dead (dead_bounds _ _ _ _) | (refine .dead (.halt _ ?_); exact True.intro) | exact .dead (dead_panic _) | exact .dead ((dead_stuck _).bind _) | exact .dead ((dead_rt _).bind _) | exact .dead ((dead_bounds _ _ _ _).bind _) | (refine .dead (Dead.bind (.halt _ ?_) _); exact True.intro))
  | _ => cases op <;> (first | exact .dead (dead_stuck _) | exact .dead (dead_rt _) | exact .dead (dead_bounds _ _ _ _) | (refine .dead (.halt _ ?_); exact True.intro) | exact .dead (dead_panic _) | exact .dead ((dead_stuck _).bind _) | exact .dead ((dead_rt _).bind _) | exact .dead ((dead_bounds _ _ _ _).bind _) | (refine .dead (Dead.bind (.halt _ ?_) _); exact True.intro))
/-- From an int to an int. -/
theorem sr_convert {src dst : TypeId} {k k' : IntKind} (h1 : P.underlying src = some (.int k)) (h2 : P.underlying dst = some (.int k')) {x x' : Value} (hx : VR S ρ x x') : SR S P (fun ρ a b => VR S ρ a b) ρ (convert src dst x) (convert src dst x') := by
  unfold convert
  refine (sr_underlying src).bind fun ρ1 d d' hr1 hd => ?_
  obtain ⟨rfl, hd⟩ := hd
  rw [h1] at hd; cases hd
  refine (sr_underlying dst).bind fun ρ2 d d' hr2 hd => ?_
  obtain ⟨rfl, hd⟩ := hd
  rw [h2] at hd; cases hd
  cases hx with
  | int j n => exact .pure (.int _ _)
  | _ => (first | exact .dead (dead_stuck _) | exact .dead (dead_rt _) | exact .dead (dead_bounds _ _ _ _) | (refine .dead (.halt _ ?_); exact True.intro) | exact .dead (dead_panic _) | exact .dead ((dead_stuck _).bind _) | exact .dead ((dead_rt _).bind _) | exact .dead ((dead_bounds _ _ _ _).bind _) | (refine .dead (Dead.bind (.halt _ ?_) _); exact True.intro))
theorem sr_makeFunc {f : FuncId} (hf : S f) {x x' y y' : Array Value} (hx : VRs S ρ x x') (hy : VRs S ρ y y') : SR S P (fun ρ a b => VR S ρ a b) ρ (Instr.makeFunc (.func f) x y) (Instr.makeFunc (.func f) x' y') := .pure (.func hf hx.1 hx.2 hy.1 hy.2)
theorem sr_makeInterface (t : TypeId) {x x' : Value} (hx : VR S ρ x x') : SR S P (fun ρ a b => VR S ρ a b) ρ (Instr.makeInterface t x) (Instr.makeInterface t x') := by
  refine (sr_underlying t).bind fun ρ1 d d' hr1 hd => ?_
  obtain ⟨rfl, hd⟩ := hd
  cases d <;> first | exact .pure (.iface t (hx.mono hr1)) | (first | exact .dead (dead_stuck _) | exact .dead (dead_rt _) | exact .dead (dead_bounds _ _ _ _) | (refine .dead (.halt _ ?_); exact True.intro) | exact .dead (dead_panic _) | exact .dead ((dead_stuck _).bind _) | exact .dead ((dead_rt _).bind _) | exact .dead ((dead_bounds _ _ _ _).bind _) | (refine .dead (Dead.bind (.halt _ ?_) _); exact True.intro))
theorem sr_index (t : TypeId) {x x' i i' : Value} (hx : VR S ρ x x') (hi : VR S ρ i i') : SR S P (fun ρ a b => VR S ρ a b) ρ (Instr.index t x i) (Instr.index t x' i') := by
  unfold Instr.index
  refine (sr_int hi).bind fun ρ1 a b hr hab => ?_
  cases hab
  obtain ⟨k, n⟩ := a
  refine (sr_underlying t).bind fun ρ2 d d' hr2 hd => ?_
  obtain ⟨rfl, hd⟩ := hd
  have hx2 := (hx.mono hr).mono hr2
  cases d with
  | array len elem =>
    cases hx2 with
    | agg sx hxs =>
      refine sr_if (fun _ => ?_) fun _ => by (first | exact .dead (dead_stuck _) | exact .dead (dead_rt _) | exact .dead (dead_bounds _ _ _ _) | (refine .dead (.halt _ ?_); exact True.intro) | exact .dead (dead_panic _) | exact .dead ((dead_stuck _).bind _) | exact .dead ((dead_rt _).bind _) | exact .dead ((dead_bounds _ _ _ _).bind _) | (refine .dead (Dead.bind (.halt _ ?_) _); exact True.intro))
      refine (sr_sizeOf elem).bind fun ρ3 m m' hr3 e => ?_
      cases e
      exact sr_part elem (VRs.mono ⟨sx, hxs⟩ hr3) _
    | _ => (first | exact .dead (dead_stuck _) | exact .dead (dead_rt _) | exact .dead (dead_bounds _ _ _ _) | (refine .dead (.halt _ ?_); exact True.intro) | exact .dead (dead_panic _) | exact .dead ((dead_stuck _).bind _) | exact .dead ((dead_rt _).bind _) | exact .dead ((dead_bounds _ _ _ _).bind _) | (refine .dead (Dead.bind (.halt _ ?_) _); exact True.intro))
  | string =>
    cases hx2 with
    | string s =>
      simp only
      split
      · exact .pure (.int _ _)
      · (first | exact .dead (dead_stuck _) | exact .dead (dead_rt _) | exact .dead (dead_bounds _ _ _ _) | (refine .dead (.halt _ ?_); exact True.intro) | exact .dead (dead_panic _) | exact .dead ((dead_stuck _).bind _) | exact .dead ((dead_rt _).bind _) | exact .dead ((dead_bounds _ _ _ _).bind _) | (refine .dead (Dead.bind (.halt _ ?_) _); exact True.intro))
    | _ => (first | exact .dead (dead_stuck _) | exact .dead (dead_rt _) | exact .dead (dead_bounds _ _ _ _) | (refine .dead (.halt _ ?_); exact True.intro) | exact .dead (dead_panic _) | exact .dead ((dead_stuck _).bind _) | exact .dead ((dead_rt _).bind _) | exact .dead ((dead_bounds _ _ _ _).bind _) | (refine .dead (Dead.bind (.halt _ ?_) _); exact True.intro))
  | _ => (first | exact .dead (dead_stuck _) | exact .dead (dead_rt _) | exact .dead (dead_bounds _ _ _ _) | (refine .dead (.halt _ ?_); exact True.intro) | exact .dead (dead_panic _) | exact .dead ((dead_stuck _).bind _) | exact .dead ((dead_rt _).bind _) | exact .dead ((dead_bounds _ _ _ _).bind _) | (refine .dead (Dead.bind (.halt _ ?_) _); exact True.intro))
theorem sr_eqIn {t : TypeId} {x x' y y' : Value} (hk : ∀ d, P.underlying t = some d → EqOk P x y d) (hx : VR S ρ x x') (hy : VR S ρ y y') : SR S P QE ρ (Op.eqGuardIn Op.maxDepth t x y) (Op.eqGuardIn Op.maxDepth t x' y') := by
  by_cases hs : ∃ fs, P.underlying t = some (.struct fs)
  · obtain ⟨fs, hs⟩ := hs
    exact sr_guardS 9998 t (fun d hd => by rw [hs] at hd; cases hd; exact ⟨fs, rfl, hk _ hs⟩) hx hy
  unfold Op.maxDepth Op.eqGuardIn
  refine (sr_underlying t).bind fun ρ1 d d' hr1 hd => ?_
  obtain ⟨rfl, hd⟩ := hd
  have hk' := hk d hd
  have hx := hx.mono hr1
  have hy := hy.mono hr1
  cases d <;> first | exact .pure rfl | exact hk'.elim | skip
  case struct fs => exact absurd ⟨fs, hd⟩ hs
  rcases hk' with rfl | rfl
  · cases hx
    cases hy <;> exact .pure rfl
  · cases hy
    cases hx <;> exact .pure rfl
theorem guard_pure {op : BinOp} {t : TypeId} {xo yo : Operand} {x y : Value} (h1 : ¬ (x = .nilIface ∧ y = .nilIface)) (h2 : ¬ ((∃ c, x = .agg c) ∧ ∃ c, y = .agg c)) : eqGuard op t xo yo x y = pure () := by
  have key : ∀ b : Bool, b = true ∨ b = false := fun b => by cases b <;> simp
  unfold eqGuard
  by_cases hb : (!(match op with | .eql => true | .neq => true | _ => false)) = true
  · exact if_pos hb
  · refine (if_neg hb).trans ?_
    split
    · exact absurd ⟨rfl, rfl⟩ h1
    · exact absurd ⟨⟨_, rfl⟩, _, rfl⟩ h2
    · rfl
theorem sr_eqGuard (op : BinOp) (t : TypeId) (xo yo : Operand) {x x' y y' : Value} (hk : op = .eql ∨ op = .neq → ∀ d, P.underlying t = some d → EqOk P x y d) (hx : VR S ρ x x') (hy : VR S ρ y y') : SR S P QE ρ (eqGuard op t xo yo x y) (eqGuard op t xo yo x' y') := by
  by_cases ho : op = .eql ∨ op = .neq
  · have h0 := sr_eqIn (hk ho) hx hy
    by_cases h1 : x = .nilIface ∧ y = .nilIface
    · obtain ⟨rfl, rfl⟩ := h1
      cases hx; cases hy
      unfold eqGuard
      refine sr_if (fun _ => .pure rfl) fun _ => ?_
      refine sr_if (fun _ => .pure rfl) fun _ => ?_
      exact h0.bind fun _ a b _ e => by cases e; exact sr_if (fun _ => by (first | exact .dead (dead_stuck _) | exact .dead (dead_rt _) | exact .dead (dead_bounds _ _ _ _) | (refine .dead (.halt _ ?_); exact True.intro) | exact .dead (dead_panic _) | exact .dead ((dead_stuck _).bind _) | exact .dead ((dead_rt _).bind _) | exact .dead ((dead_bounds _ _ _ _).bind _) | (refine .dead (Dead.bind (.halt _ ?_) _); exact True.intro))) fun _ => .pure rfl
    by_cases h2 : (∃ c, x = .agg c) ∧ ∃ c, y = .agg c
    · obtain ⟨⟨c, rfl⟩, c', rfl⟩ := h2
      have hx0 := hx
      have hy0 := hy
      cases hx with | agg _ _ => cases hy with | agg _ _ =>
      unfold eqGuard
      refine sr_if (fun _ => .pure rfl) fun _ => .program (.program ?_)
      refine sr_if (fun _ => .pure rfl) fun _ => ?_
      exact h0.bind fun _ a b _ e => by cases e; exact sr_if (fun _ => by (first | exact .dead (dead_stuck _) | exact .dead (dead_rt _) | exact .dead (dead_bounds _ _ _ _) | (refine .dead (.halt _ ?_); exact True.intro) | exact .dead (dead_panic _) | exact .dead ((dead_stuck _).bind _) | exact .dead ((dead_rt _).bind _) | exact .dead ((dead_bounds _ _ _ _).bind _) | (refine .dead (Dead.bind (.halt _ ?_) _); exact True.intro))) fun _ => .pure rfl
    have h1' : ¬ (x' = .nilIface ∧ y' = .nilIface) := fun ⟨e, e'⟩ => h1 ⟨by subst e; cases hx; rfl, by subst e'; cases hy; rfl⟩
    have h2' : ¬ ((∃ c, x' = .agg c) ∧ ∃ c, y' = .agg c) := fun ⟨⟨c, e⟩, c', e'⟩ => h2 ⟨by subst e; cases hx; exact ⟨_, rfl⟩, by subst e'; cases hy; exact ⟨_, rfl⟩⟩
    rw [guard_pure h1 h2, guard_pure h1' h2']
    exact .pure rfl
  · have e : ∀ x y, eqGuard op t xo yo x y = pure () := fun x y => by
      cases op <;> first | rfl | exact absurd (.inl rfl) ho | exact absurd (.inr rfl) ho
    rw [e, e]
    exact .pure rfl
end
end Go.Proofs.Yticdjkkcfdbdcaa
namespace Go.Proofs.Yticdjkkcfdbdcaa
open Go.Conc
/-- What an operation hands on. -/
inductive NR (S : FnSet) (ρ : Ren) : Next → Next → Prop
  | value {v v' : Value} (h : VR S ρ v v') : NR S ρ (.value v) (.value v')
  | skip : NR S ρ .skip .skip
  | enter {f : FuncId} (hf : S.call f) {x x' : Array Value} (h : VRs S ρ x x') : NR S ρ (.enter f x) (.enter f x')
/-- The functions that are entered: they have bodies. -/
def Bodies (S : FnSet) (P : Program) : Prop := ∀ f, S.call f → ∃ fn, P.funcs[f]? = some fn ∧ (fn.name == "runtime.NumGoroutine") = false ∧ fn.body.isNone = false
section
variable (S : FnSet) (P : Program)
def okX : Operand → Prop
  | .tmp _ => True
  | .const v => Bare v
  | .func f => S f
  | .global _ => False
def okXo : Option Operand → Prop
  | none => True
  | some x => okX S x
/-- Operands of which it is told whether they are equal. -/
def EqOp (P : Program) (x y : Operand) : TypeDesc → Prop
  | .bool | .string | .int _ | .slice _ | .map _ _ | .func _ _ _ => True
  | .pointer _ => x = .const (.pointer none) ∨ y = .const (.pointer none)
  | .interface _ => x = .const .nilIface ∨ y = .const .nilIface
  | .struct fs => IntS P fs
  | _ => False
def okCallee (ats : Array TypeId) : Callee → Prop
  | .value (.func g) => S g ∧ S.call g
  | .value x => okX S x ∧ ∀ g, S g → S.call g
  | .invoke _ _ => False
  | .builtin b => match b with
    | .append => ∀ s elem, ats[0]? = some s → P.underlying s = some (.slice elem) → ZeroOk P elem
    | .copy | .max | .min => True
    | .len => ∀ d s, ats[0]? = some s → P.underlying s = some d → (∀ e b, d ≠ .chan e b) ∧ ∀ k v, d ≠ .map k v
    | .cap => ∀ d s, ats[0]? = some s → P.underlying s = some d → ∃ e, d = .slice e
    | .delete => ∀ t, ats[0]? = some t → MapOk P t
    | _ => False
def okOp : Op → Prop
  | .move x | .assign x | .box _ x | .load _ x | .nilCheck x | .unOp _ _ x | .makeInterface _ x | .field _ x _ | .extract x _ => okX S x
  | .pick c a b => okX S c ∧ okX S a ∧ okX S b
  | .alloc t => ZeroOk P t
  | .build t ps => ZeroOk P t ∧ ∀ p ∈ ps, okX S p.2
  | .buildSlice t _ ps => (∀ elem, P.underlying t = some (.slice elem) → ZeroOk P elem) ∧ ∀ p ∈ ps, okX S p.2
  | .store _ a x | .indexAddr _ a x | .index _ a x => okX S a ∧ okX S x
  | .binOp op t x y _ => (okX S x ∧ okX S y) ∧ (op = .eql ∨ op = .neq → ∀ d, P.underlying t = some d → EqOp P x y d)
  | .convert s d x => okX S x ∧ (∃ k, P.underlying s = some (.int k)) ∧ ∃ k, P.underlying d = some (.int k)
  | .makeFunc fn x y => (∃ f, fn = .func f ∧ S f) ∧ (∀ o ∈ x, okX S o) ∧ ∀ o ∈ y, okX S o
  | .makeSlice t l c => (okX S l ∧ okX S c) ∧ ∀ elem, P.underlying t = some (.slice elem) → ZeroOk P elem
  | .slice _ x l h m => okX S x ∧ okXo S l ∧ okXo S h ∧ okXo S m
  | .fieldAddr s x n => okX S x ∧ ∀ fs (f : Field) i, P.underlying s = some (.struct fs) → fs[n]? = some f → P.info? f.type = some i → i.size ≠ 0
  | .call c => okCallee S P c.argTypes c.callee ∧ ∀ o ∈ c.args, okX S o
  | .lookup t x i _ => MapOk P t ∧ okX S x ∧ okX S i
  | .mapUpdate t m k x => MapOk P t ∧ okX S m ∧ okX S k ∧ okX S x
  | .makeMap _ r => okXo S r
  | _ => False
end
section
variable {S : FnSet} {P : Program} {ρ : Ren} {e e' : Operand → Value}
def EvR (S : FnSet) (ρ : Ren) (e e' : Operand → Value) : Prop := (∀ x, okX S x → VR S ρ (e x) (e' x)) ∧ (∀ v, e (.const v) = v) ∧ ∀ g, e (.func g) = .func (.func g) #[] #[]
theorem sr_v {s s' : Sem Value} (h : SR S P (fun ρ a b => VR S ρ a b) ρ s s') : SR S P (fun ρ a b => NR S ρ a b) ρ (s >>= fun v => pure (.value v)) (s' >>= fun v => pure (.value v)) := h.bind fun _ _ _ _ h => .pure (.value h)
theorem sr_u {α β : Type} {s : Sem α} {s' : Sem β} {Q : Ren → α → β → Prop} (h : SR S P Q ρ s s') : SR S P (fun ρ a b => NR S ρ a b) ρ (s >>= fun _ => pure .skip) (s' >>= fun _ => pure .skip) := h.bind fun _ _ _ _ _ => .pure .skip
theorem sr_callFunc (hb : Bodies S P) {f : FuncId} (hf : S.call f) {x x' : Array Value} (h : VRs S ρ x x') : SR S P (fun ρ a b => NR S ρ a b) ρ (callFunc f x) (callFunc f x') := by
  obtain ⟨fn, h1, h2, h3⟩ := hb f hf
  have key : ∀ x : Array Value, ∃ k, callFunc f x = .program k ∧ k P = .pure (.enter f x) := fun x => by
    refine ⟨_, rfl, ?_⟩
    show (match P.funcs[f]? with | none => _ | some fn => _) = _
    simp only [h1, h2, h3]
    rfl
  obtain ⟨k, g1, g2⟩ := key x
  obtain ⟨k', g3, g4⟩ := key x'
  rw [g1, g3]
  refine .program ?_
  rw [g2, g4]
  exact .pure (.enter hf h)
theorem EvR.opt (h : EvR S ρ e e') : ∀ {x : Option Operand}, okXo S x → VO S ρ (x.map e) (x.map e')
  | none, _ => trivial
  | some x, hx => h.1 x hx
theorem EvR.all (h : EvR S ρ e e') {xs : Array Operand} (hx : ∀ o ∈ xs, okX S o) : VRs S ρ (xs.map e) (xs.map e') := VRs.map xs fun a ha => h.1 a (hx a ha)
theorem sr_builtin (hp : PR P ρ) {b : Builtin} {ats : Array TypeId} (hok : okCallee S P ats (.builtin b)) (t : TypeId) (cs cs' : Array Bool) {x x' : Array Value} (h : VRs S ρ x x') : SR S P (fun ρ a b => NR S ρ a b) ρ (builtin b ats t cs x) (builtin b ats t cs' x') := by
  cases b <;> first | exact hok.elim | skip
  · exact sr_v (sr_append ats hok t h)
  · exact sr_v (sr_cap ats t hok h)
  · exact sr_v (sr_copy ats t h)
  · exact sr_v (sr_delete hp ats hok t h)
  · exact sr_v (sr_len ats t hok h)
  · exact sr_v (sr_max ats t h)
  · exact sr_v (sr_min ats t h)
theorem sr_call (hb : Bodies S P) (hp : PR P ρ) (he : EvR S ρ e e') (c : Call) (t : TypeId) (h1 : okCallee S P c.argTypes c.callee) (h2 : ∀ o ∈ c.args, okX S o) :
    SR S P (fun ρ a b => NR S ρ a b) ρ (resolve e c t >>= fun d => invoke d.target d.args) (resolve e' c t >>= fun d => invoke d.target d.args) := by
  have ha := he.all h2
  obtain ⟨callee, args, ats⟩ := c
  cases callee with
  | invoke r n => exact h1.elim
  | builtin b => exact sr_builtin hp h1 t _ _ ha
  | value f =>
    have hk : okX S f ∧ ∀ g x y, e f = .func (.func g) x y → S g → S.call g := by
      cases f with
      | func g => exact ⟨h1.1, fun g' x y hg _ => by rw [he.2.2 g] at hg; cases hg; exact h1.2⟩
      | tmp t => exact ⟨h1.1, fun g _ _ _ hg => h1.2 g hg⟩
      | const v => exact ⟨h1.1, fun g _ _ _ hg => h1.2 g hg⟩
      | global g => exact ⟨h1.1, fun g _ _ _ hg => h1.2 g hg⟩
    obtain ⟨hk1, hk2⟩ := hk
    have hf := he.1 f hk1
    unfold resolve
    simp only
    generalize e f = v at hf hk2
    generalize e' f = v' at hf
    cases hf with
    | nilFunc => exact .dead (show Dead (runtimePanic RuntimeError.nilDeref) from dead_rt _)
    | func hs sx hx sy hy =>
      have hx' : VRs S ρ _ _ := ⟨sx, hx⟩
      have hy' : VRs S ρ _ _ := ⟨sy, hy⟩
      exact sr_callFunc hb (hk2 _ _ _ rfl hs) ((hx'.append ha).append hy')
    | _ => exact .dead ((dead_stuck _).bind _)
/-- ████ AN OPERATION, IN TWO WORLDS. ████ -/
theorem sr_exec (hb : Bodies S P) (hp : PR P ρ) (he : EvR S ρ e e') (hc : ∀ v, e' (.const v) = v) (o : Oper) (ok : okOp S P o.op) : SR S P (fun ρ a b => NR S ρ a b) ρ (execOp e o) (execOp e' o) := by
  obtain ⟨dst, op, ty, pos, after, guard⟩ := o
  simp only at ok
  unfold execOp
  simp only
  cases op <;> simp only [okOp] at ok <;> first | exact ok.elim | skip
  case move x => exact .pure (.value (he.1 x ok))
  case assign x => exact .pure (.value (he.1 x ok))
  case pick c a b =>
    refine (sr_bool (he.1 c ok.1)).bind fun ρ1 v v' hr h => ?_
    cases h
    refine .pure (.value ?_)
    split
    · exact (he.1 a ok.2.1).mono hr
    · exact (he.1 b ok.2.2).mono hr
  case alloc t => exact sr_v (sr_alloc ok _ _)
  case box t x => exact sr_v (sr_box t (he.1 x ok))
  case build t ps => exact sr_v (sr_build ok.1 ps fun p hp => he.1 p.2 (ok.2 p hp))
  case buildSlice t l ps => exact sr_v (sr_buildSlice t ok.1 l ps fun p hp => he.1 p.2 (ok.2 p hp))
  case load t a => exact sr_v (sr_loadAt t (he.1 a ok))
  case store t a x => exact sr_u (sr_storeAt t (he.1 a ok.1) (he.1 x ok.2))
  case nilCheck x =>
    dsimp only
    have hx := he.1 x ok
    generalize e x = v at hx
    generalize e' x = v' at hx
    cases hx with
    | nilPtr => exact .dead (show Dead (runtimePanic RuntimeError.nilDeref) from dead_rt _)
    | nilIface => exact .dead (show Dead (runtimePanic RuntimeError.nilDeref) from dead_rt _)
    | nilFunc => exact .dead (show Dead (runtimePanic RuntimeError.nilDeref) from dead_rt _)
    | func hf sx hx sy hy => exact .pure (.value (.func hf sx hx sy hy))
    | bool b => exact .pure (.value (.bool b))
    | int k n => exact .pure (.value (.int k n))
    | string s => exact .pure (.value (.string s))
    | ptr h => exact .pure (.value (.ptr h))
    | nilSlice l c => exact .pure (.value (.nilSlice l c))
    | slice h l c => exact .pure (.value (.slice h l c))
    | void b o s a' => exact .pure (.value (.void b o s a'))
    | nilMap => exact .pure (.value .nilMap)
    | map h => exact .pure (.value (.map h))
    | nilChan => exact .pure (.value .nilChan)
    | chan h => exact .pure (.value (.chan h))
    | iface t h => exact .pure (.value (.iface t h))
    | agg sx hx => exact .pure (.value (.agg sx hx))
    | tuple sx hx => exact .pure (.value (.tuple sx hx))
  case binOp op t x y yt =>
    have hx := he.1 x ok.1.1
    have hy := he.1 y ok.1.2
    have hk : op = .eql ∨ op = .neq → ∀ d, P.underlying t = some d → EqOk P (e x) (e y) d := fun ho d hd => by
      have := ok.2 ho d hd
      cases d <;> first | trivial | exact this | exact this.elim | skip
      · exact this.imp (fun h => by rw [h, he.2.1]) (fun h => by rw [h, he.2.1])
      · exact this.imp (fun h => by rw [h, he.2.1]) (fun h => by rw [h, he.2.1])
    refine sr_v ((sr_eqGuard op t x y hk hx hy).bind fun ρ1 _ _ hr _ => ?_)
    exact sr_binOp (hp.mono hr) op t hk (hx.mono hr) (hy.mono hr)
  case unOp op t x => exact sr_v (sr_unary op (he.1 x ok))
  case convert s d x =>
    obtain ⟨k1, k2, k3⟩ := ok
    obtain ⟨k, hk⟩ := k2
    obtain ⟨k', hk'⟩ := k3
    exact sr_v (sr_convert hk hk' (he.1 x k1))
  case makeInterface t x => exact sr_v (sr_makeInterface t (he.1 x ok))
  case makeFunc fn x y =>
    obtain ⟨⟨f, rfl, hf⟩, h1, h2⟩ := ok
    exact sr_v (sr_makeFunc hf (he.all h1) (he.all h2))
  case makeSlice t l c => exact sr_v (sr_makeSlice t ok.2 (he.1 l ok.1.1) (he.1 c ok.1.2))
  case slice t x l h m => exact sr_v (sr_sliceAt t (he.1 x ok.1) (he.opt ok.2.1) (he.opt ok.2.2.1) (he.opt ok.2.2.2))
  case fieldAddr s x n => exact sr_v (sr_fieldAt s n ok.2 (he.1 x ok.1))
  case field s x n => exact sr_v (sr_field s n (he.1 x ok))
  case indexAddr t x i => exact sr_v (sr_indexAt t (he.1 x ok.1) (he.1 i ok.2))
  case index t x i => exact sr_v (sr_index t (he.1 x ok.1) (he.1 i ok.2))
  case extract x n => exact sr_v (sr_extract (he.1 x ok) n)
  case call c => exact sr_call hb hp he c ty ok.1 ok.2
  case lookup t x i b => exact sr_v (sr_lookup hp t ok.1 (he.1 x ok.2.1) (he.1 i ok.2.2) b)
  case mapUpdate t m k x => exact sr_u (sr_mapUpdate hp t ok.1 (he.1 m ok.2.1) (he.1 k ok.2.2.1) (he.1 x ok.2.2.2))
  case makeMap t r => exact sr_v (sr_makeMap t (he.opt ok))
end
end Go.Proofs.Yticdjkkcfdbdcaa
