/- Jobs that hang on others, done by workers: who is where. Plain; no program. -/
import Derived.Test.YticdjkkcfdbdcaaAtom
import Derived.Test.YticdjkkcfdbdcaaFamP
namespace Go.Proofs.Yticdjkkcfdbdcaa
open Go.Conc Go.ConcN
/-- A round of jobs: how many; whom each waits for; who waits for it, in order. -/
structure GPar where
  N : Nat
  aft : Nat → List Nat
  nxt : Nat → List Nat
  rk : Nat → Nat
structure GWf (P : GPar) : Prop where
  lt : ∀ a, a < P.N → ∀ k ∈ P.nxt a, k < P.N
  tot : ∀ k, k < P.N → ((List.range P.N).map fun a => (P.nxt a).count k).sum = (P.aft k).length
  mem : ∀ k, k < P.N → ∀ a ∈ P.aft k, a < P.N ∧ k ∈ P.nxt a ∧ P.rk a < P.rk k
/-- A worker at a job: it reckons; it is about to tell the p-th; it has told the p-th, who can begin now. -/
inductive GPh where
  | comp | put (p : Nat) | send (p : Nat)
inductive GSt where
  | idle | busy (k : Nat) (ph : GPh) | last
/-- Where a job is. -/
inductive JSt where
  | wait | hand (i : Nat) | que | busy (i : Nat) | fin
deriving DecidableEq
structure GGh where
  st : Nat → JSt
  d : Nat → Nat
  q : List Nat
  cl : Bool
/-- How many of those that k waits for have told it. -/
def cnt (P : GPar) (d : Nat → Nat) (k : Nat) : Nat := ((List.range P.N).map fun a => ((P.nxt a).take (d a)).count k).sum
theorem msum_le {f g : Nat → Nat} : ∀ (l : List Nat), (∀ i ∈ l, f i ≤ g i) → (l.map f).sum ≤ (l.map g).sum
  | [], _ => Nat.le_refl _
  | i :: l, h => by
    have h1 := msum_le l fun j hj => h j (List.mem_cons_of_mem _ hj)
    have h2 := h i (List.mem_cons_self ..)
    simp only [List.map_cons, List.sum_cons]
    omega
theorem msum_eq {f g : Nat → Nat} : ∀ (l : List Nat), (∀ i ∈ l, f i ≤ g i) → (l.map f).sum = (l.map g).sum → ∀ i ∈ l, f i = g i
  | [], _, _, _, hi => by cases hi
  | j :: l, h, e, i, hi => by
    have h1 := msum_le l fun j hj => h j (List.mem_cons_of_mem _ hj)
    have h2 := h j (List.mem_cons_self ..)
    simp only [List.map_cons, List.sum_cons] at e
    rcases List.mem_cons.1 hi with rfl | hi
    · omega
    · exact msum_eq l (fun j hj => h j (List.mem_cons_of_mem _ hj)) (by omega) i hi
theorem msum_one {f g : Nat → Nat} (k : Nat) (h1 : ∀ i, i ≠ k → f i = g i) {x : Nat} (h2 : f k = g k + x) : ∀ (l : List Nat), l.Nodup → k ∈ l → (l.map f).sum = (l.map g).sum + x
  | [], _, hk => by cases hk
  | i :: l, hn, hk => by
    rw [List.nodup_cons] at hn
    simp only [List.map_cons, List.sum_cons]
    rcases List.mem_cons.1 hk with rfl | hk
    · have : (l.map f).sum = (l.map g).sum := by
        congr 1
        refine List.map_congr_left fun j hj => h1 j fun e => hn.1 (e ▸ hj)
      omega
    · have := msum_one k h1 h2 l hn.2 hk
      have : f i = g i := h1 i fun e => hn.1 (e ▸ hk)
      omega
section
variable {P : GPar} {d : Nat → Nat} {k : Nat}
theorem take_count_le (l : List Nat) (n k : Nat) : (l.take n).count k ≤ l.count k := (List.take_sublist n l).count_le k
theorem cnt_le (hw : GWf P) (hk : k < P.N) : cnt P d k ≤ (P.aft k).length := by
  rw [← hw.tot k hk]
  exact msum_le _ fun a _ => take_count_le _ _ _
/-- Where all have told it. -/
theorem cnt_full (hw : GWf P) (hk : k < P.N) (h : cnt P d k = (P.aft k).length) {a : Nat} (ha : a < P.N) : ((P.nxt a).take (d a)).count k = (P.nxt a).count k := by
  rw [← hw.tot k hk] at h
  exact msum_eq _ (fun a _ => take_count_le _ _ _) h a (List.mem_range.2 ha)
theorem cnt_pos (hw : GWf P) (hk : k < P.N) (h : cnt P d k = (P.aft k).length) {a : Nat} (ha : a ∈ P.aft k) : 0 < d a := by
  obtain ⟨h1, h2, _⟩ := hw.mem k hk a ha
  have h3 := cnt_full hw hk h h1
  refine Nat.pos_of_ne_zero fun e => ?_
  rw [e, List.take_zero, List.count_nil] at h3
  have := List.count_pos_iff.2 h2
  omega
theorem cnt_all (hw : GWf P) (hk : k < P.N) (h : ∀ a ∈ P.aft k, d a = (P.nxt a).length) (hm : ∀ a, a < P.N → k ∈ P.nxt a → a ∈ P.aft k) : cnt P d k = (P.aft k).length := by
  rw [← hw.tot k hk]
  unfold cnt
  congr 1
  refine List.map_congr_left fun a ha => ?_
  by_cases hka : k ∈ P.nxt a
  · rw [h a (hm a (List.mem_range.1 ha) hka), List.take_length]
  · rw [List.count_eq_zero.2 hka, List.count_eq_zero.2 fun h => hka (List.mem_of_mem_take h)]
theorem cnt_step (hd : ∀ a, a < P.N → d a ≤ (P.nxt a).length) {a : Nat} (ha : a < P.N) (hp : d a < (P.nxt a).length) (j : Nat) : cnt P (upd d a (d a + 1)) j = cnt P d j + if (P.nxt a)[d a] = j then 1 else 0 := by
  unfold cnt
  refine msum_one a (fun i hi => by rw [upd_ne d _ hi]) ?_ _ List.nodup_range (List.mem_range.2 ha)
  rw [upd_same, List.take_succ_eq_append_getElem hp, List.count_append]
  congr 1
  rw [List.count_singleton]
  by_cases e : (P.nxt a)[d a] = j <;> simp [e]
end
/-- Of a list one place turns. -/
theorem filt_upd {p p' : Nat → Bool} {k : Nat} (h : ∀ m, m ≠ k → p' m = p m) : ∀ (l : List Nat), l.Nodup → k ∈ l → (l.filter p').length + (p k).toNat = (l.filter p).length + (p' k).toNat
  | [], _, hk => by cases hk
  | i :: l, hn, hk => by
    rw [List.nodup_cons] at hn
    have same : k ∉ l → l.filter p' = l.filter p := fun hkl => List.filter_congr fun m hm => h m fun e => hkl (e ▸ hm)
    by_cases e : i = k
    · subst e
      rw [List.filter_cons, List.filter_cons, same hn.1]
      cases p i <;> cases p' i <;> simp <;> omega
    · have ih := filt_upd h l hn.2 ((List.mem_cons.1 hk).resolve_left fun e2 => e e2.symm)
      rw [List.filter_cons, List.filter_cons, h i e]
      cases p i <;> simp <;> omega
def JSt.un : JSt → Bool
  | .wait | .que | .hand _ => true
  | _ => false
/-- How many nobody has taken; how many are done. -/
def nUn (P : GPar) (gh : GGh) : Nat := ((List.range P.N).filter fun k => (gh.st k).un).length
def nFin (P : GPar) (gh : GGh) : Nat := ((List.range P.N).filter fun k => decide (gh.st k = .fin)).length
theorem nUn_upd {P : GPar} {gh gh' : GGh} {k : Nat} (hk : k < P.N) {x : JSt} (h : gh'.st = upd gh.st k x) : nUn P gh' + (gh.st k).un.toNat = nUn P gh + x.un.toNat := by
  have := filt_upd (p := fun m => (gh.st m).un) (p' := fun m => (gh'.st m).un) (k := k) (fun m hm => by rw [h, upd_ne _ _ hm]) (List.range P.N) List.nodup_range (List.mem_range.2 hk)
  simp only [h, upd_same] at this
  unfold nUn
  rw [h]
  exact this
theorem nFin_upd {P : GPar} {gh gh' : GGh} {k : Nat} (hk : k < P.N) {x : JSt} (h : gh'.st = upd gh.st k x) : nFin P gh' + (decide (gh.st k = .fin)).toNat = nFin P gh + (decide (x = .fin)).toNat := by
  have := filt_upd (p := fun m => decide (gh.st m = .fin)) (p' := fun m => decide (gh'.st m = .fin)) (k := k) (fun m hm => by rw [h, upd_ne _ _ hm]) (List.range P.N) List.nodup_range (List.mem_range.2 hk)
  simp only [h, upd_same] at this
  unfold nFin
  rw [h]
  exact this
theorem nFin_all {P : GPar} {gh : GGh} : nFin P gh = P.N ↔ ∀ k, k < P.N → gh.st k = .fin := by
  unfold nFin
  constructor
  · intro h k hk
    have h2 : ((List.range P.N).filter fun k => decide (gh.st k = .fin)) = List.range P.N := (List.filter_sublist (p := fun k => decide (gh.st k = .fin))).eq_of_length (by rw [h, List.length_range])
    have h3 := List.mem_range.2 hk
    rw [← h2, List.mem_filter] at h3
    simpa using h3.2
  · intro h
    rw [List.filter_eq_self.2 fun k hk => by simpa using h k (List.mem_range.1 hk), List.length_range]
/-- Who is where. -/
structure GA (P : GPar) (gh : GGh) (n : Nat) (T : Nat → Option GSt) : Prop where
  dle : ∀ a, a < P.N → gh.d a ≤ (P.nxt a).length
  early : ∀ k, k < P.N → (∀ i, gh.st k ≠ .busy i) → gh.st k ≠ .fin → gh.d k = 0
  done : ∀ k, k < P.N → gh.st k = .fin → gh.d k = (P.nxt k).length
  que : ∀ k, k ∈ gh.q ↔ (k < P.N ∧ gh.st k = .que)
  nodup : gh.q.Nodup
  busy : ∀ k i, k < P.N → gh.st k = .busy i → i < n ∧ ∃ ph, T i = some (.busy k ph)
  work : ∀ i k ph, i < n → T i = some (.busy k ph) → k < P.N ∧ gh.st k = .busy i ∧ (match ph with
    | .comp => gh.d k = 0
    | .put p => gh.d k = p
    | .send p => gh.d k = p + 1 ∧ ∃ j, (P.nxt k)[p]? = some j ∧ gh.st j = .hand i)
  hand : ∀ j i, j < P.N → gh.st j = .hand i → i < n ∧ ∃ k p, T i = some (.busy k (.send p)) ∧ (P.nxt k)[p]? = some j
  wait : ∀ k, k < P.N → (gh.st k = .wait ↔ cnt P gh.d k < (P.aft k).length)
  shut : gh.cl = true → ∀ k, k < P.N → gh.st k = .fin
  last : ∀ i, i < n → T i = some .last → gh.cl = false ∧ (∀ k, k < P.N → gh.st k = .fin) ∧ ∀ j, j < n → T j = some .last → j = i
  need : gh.cl = false → (∀ k, k < P.N → gh.st k = .fin) → ∃ i, i < n ∧ T i = some .last
section
variable {P : GPar} {gh : GGh} {n : Nat} {T : Nat → Option GSt}
/-- Somebody can go on. -/
theorem GA.live (hw : GWf P) (hm : ∀ k, k < P.N → ∀ a, a < P.N → k ∈ P.nxt a → a ∈ P.aft k) (h : GA P gh n T) (hq : gh.q = []) (hc : gh.cl = false) : ∃ i, i < n ∧ T i ≠ none ∧ T i ≠ some .idle := by
  by_cases hf : ∀ k, k < P.N → gh.st k = .fin
  · obtain ⟨i, hi, ht⟩ := h.need hc hf
    exact ⟨i, hi, by rw [ht]; simp, by rw [ht]; simp⟩
  · refine Classical.byContradiction fun hno => hf ?_
    have idle : ∀ i, i < n → T i = none ∨ T i = some .idle := fun i hi => Classical.byContradiction fun hx => hno ⟨i, hi, fun e => hx (.inl e), fun e => hx (.inr e)⟩
    have wf : ∀ k, k < P.N → gh.st k = .wait ∨ gh.st k = .fin := fun k hk => by
      cases hs : gh.st k with
      | wait => exact .inl rfl
      | fin => exact .inr rfl
      | que => have := (h.que k).2 ⟨hk, hs⟩; rw [hq] at this; cases this
      | busy i =>
        obtain ⟨hi, ph, e⟩ := h.busy k i hk hs
        rcases idle i hi with e2 | e2 <;> rw [e] at e2 <;> cases e2
      | hand i =>
        obtain ⟨hi, k2, p, e, _⟩ := h.hand k i hk hs
        rcases idle i hi with e2 | e2 <;> rw [e] at e2 <;> cases e2
    have key : ∀ m k, P.rk k = m → k < P.N → gh.st k = .fin := by
      intro m
      induction m using Nat.strongRecOn with
      | _ m ih =>
        intro k hr hk
        rcases wf k hk with hs | hs
        · have h1 := (h.wait k hk).1 hs
          have h2 := cnt_all (d := gh.d) hw hk (fun a ha => by
            obtain ⟨a1, _, a3⟩ := hw.mem k hk a ha
            exact h.done a a1 (ih (P.rk a) (by omega) a rfl a1)) (hm k hk)
          omega
        · exact hs
    exact fun k hk => key _ k rfl hk
/-- A job is taken. -/
theorem GA.recv (h : GA P gh n T) {k : Nat} {q : List Nat} (hq : gh.q = k :: q) {i : Nat} (hi : i < n) (ht : T i = some .idle) : GA P { gh with st := upd gh.st k (.busy i), q := q } n (upd T i (some (.busy k .comp))) := by
  have hk : k < P.N ∧ gh.st k = .que := (h.que k).1 (by rw [hq]; exact List.mem_cons_self ..)
  have hn := h.nodup
  rw [hq, List.nodup_cons] at hn
  have hd : gh.d k = 0 := h.early k hk.1 (fun i e => by rw [hk.2] at e; cases e) (by rw [hk.2]; simp)
  refine ⟨h.dle, fun j hj hb hf => ?_, fun j hj hs => ?_, fun j => ?_, hn.2, fun j i' hj hs => ?_, fun i' j ph hi' ht' => ?_, fun j i' hj hs => ?_, fun j hj => ?_, fun hc j hj => ?_, fun i' hi' ht' => ?_, fun hc hall => ?_⟩
  · by_cases e : j = k
    · subst e; exact hd
    · simp only [upd_ne _ _ e] at hb hf
      exact h.early j hj hb hf
  · by_cases e : j = k
    · subst e; simp only [upd_same] at hs; cases hs
    · simp only [upd_ne _ _ e] at hs
      exact h.done j hj hs
  · by_cases e : j = k
    · subst e
      simp only [upd_same]
      exact ⟨fun hm => absurd hm hn.1, fun ⟨_, e⟩ => by cases e⟩
    · simp only [upd_ne _ _ e]
      rw [← h.que j, hq]
      simp [e]
  · by_cases e : j = k
    · subst e
      simp only [upd_same] at hs
      cases hs
      exact ⟨hi, .comp, upd_same _ _ _⟩
    · simp only [upd_ne _ _ e] at hs
      obtain ⟨h1, ph, h2⟩ := h.busy j i' hj hs
      have : i' ≠ i := fun e => by subst e; rw [ht] at h2; cases h2
      exact ⟨h1, ph, by rw [upd_ne T _ this]; exact h2⟩
  · by_cases e : i' = i
    · subst e
      rw [upd_same] at ht'
      cases ht'
      exact ⟨hk.1, upd_same _ _ _, hd⟩
    · rw [upd_ne T _ e] at ht'
      obtain ⟨h1, h2, h3⟩ := h.work i' j ph hi' ht'
      have hjk : j ≠ k := fun e => by subst e; rw [hk.2] at h2; cases h2
      refine ⟨h1, by simp only [upd_ne _ _ hjk]; exact h2, ?_⟩
      cases ph with
      | comp => exact h3
      | put p => exact h3
      | send p =>
        obtain ⟨a1, m, a2, a3⟩ := h3
        have : m ≠ k := fun e => by subst e; rw [hk.2] at a3; cases a3
        exact ⟨a1, m, a2, by simp only [upd_ne _ _ this]; exact a3⟩
  · by_cases e : j = k
    · subst e; simp only [upd_same] at hs; cases hs
    · simp only [upd_ne _ _ e] at hs
      obtain ⟨h1, k2, p, h2, h3⟩ := h.hand j i' hj hs
      have : i' ≠ i := fun e => by subst e; rw [ht] at h2; cases h2
      exact ⟨h1, k2, p, by rw [upd_ne T _ this]; exact h2, h3⟩
  · by_cases e : j = k
    · subst e
      simp only [upd_same]
      have := h.wait j hj
      rw [hk.2] at this
      exact ⟨fun e => (by cases e), fun e => (by have := this.2 e; cases this)⟩
    · simp only [upd_ne _ _ e]
      exact h.wait j hj
  · have := h.shut hc k hk.1
    rw [hk.2] at this; cases this
  · have : i' ≠ i := fun e => by subst e; rw [upd_same] at ht'; cases ht'
    rw [upd_ne T _ this] at ht'
    have := (h.last i' hi' ht').2.1 k hk.1
    rw [hk.2] at this; cases this
  · have := hall k hk.1
    simp only [upd_same] at this; cases this
/-- Which step of telling. -/
def GPh.at : GPh → Nat → Prop
  | .comp, p => p = 0
  | .put p', p => p = p'
  | .send _, _ => False
theorem GA.d_at (h : GA P gh n T) {i k : Nat} {ph : GPh} (hi : i < n) (ht : T i = some (.busy k ph)) {p : Nat} (hp : ph.at p) : k < P.N ∧ gh.st k = .busy i ∧ gh.d k = p := by
  obtain ⟨h1, h2, h3⟩ := h.work i k ph hi ht
  refine ⟨h1, h2, ?_⟩
  cases ph with
  | comp => exact h3.trans (Eq.symm hp)
  | put p' => exact h3.trans (Eq.symm hp)
  | send _ => exact hp.elim
theorem GA.who (h : GA P gh n T) {i k m i' : Nat} {ph : GPh} (ht : T i = some (.busy k ph)) (hm : m < P.N) (hs : gh.st m = .busy i') : i' = i → m = k := by
  rintro rfl
  obtain ⟨_, ph', h2⟩ := h.busy m i' hm hs
  rw [ht] at h2
  cases h2
  rfl
/-- Who is told waits, till then. -/
theorem GA.told (hw : GWf P) (h : GA P gh n T) {i k : Nat} {ph : GPh} (hi : i < n) (ht : T i = some (.busy k ph)) {p j : Nat} (hp : ph.at p) (hj : (P.nxt k)[p]? = some j) : j < P.N ∧ gh.st j = .wait ∧ j ≠ k ∧ ∀ m, cnt P (upd gh.d k (p + 1)) m = cnt P gh.d m + if j = m then 1 else 0 := by
  obtain ⟨h1, h2, h3⟩ := h.d_at hi ht hp
  obtain ⟨hpl, rfl⟩ := List.getElem?_eq_some_iff.1 hj
  have hjn : (P.nxt k)[p] < P.N := hw.lt k h1 _ (List.getElem_mem hpl)
  have hst : ∀ m, cnt P (upd gh.d k (p + 1)) m = cnt P gh.d m + if (P.nxt k)[p] = m then 1 else 0 := fun m => by
    have := cnt_step (P := P) (d := gh.d) h.dle h1 (by rw [h3]; exact hpl) m
    simp only [h3] at this
    exact this
  have hwj : gh.st (P.nxt k)[p] = .wait := by
    refine (h.wait _ hjn).2 ?_
    have h5 := cnt_le (d := upd gh.d k (p + 1)) hw hjn
    rw [hst, if_pos rfl] at h5
    omega
  exact ⟨hjn, hwj, fun e => (by rw [e, h2] at hwj; cases hwj), hst⟩
/-- It is told, and waits on. -/
theorem GA.decN (hw : GWf P) (h : GA P gh n T) {i k : Nat} {ph : GPh} (hi : i < n) (ht : T i = some (.busy k ph)) {p j : Nat} (hp : ph.at p) (hj : (P.nxt k)[p]? = some j) (hne : cnt P (upd gh.d k (p + 1)) j ≠ (P.aft j).length) :
    GA P { gh with d := upd gh.d k (p + 1) } n (upd T i (some (.busy k (.put (p + 1))))) := by
  obtain ⟨hk, hs, hd⟩ := h.d_at hi ht hp
  obtain ⟨hjn, hwj, hjk, hct⟩ := h.told hw hi ht hp hj
  have hpl := (List.getElem?_eq_some_iff.1 hj).1
  have nofin : ¬ ∀ m, m < P.N → gh.st m = .fin := fun ha => by have := ha k hk; rw [hs] at this; cases this
  refine ⟨fun a ha => ?_, fun m hm hb hf => ?_, fun m hm hf => ?_, h.que, h.nodup, fun m i' hm hb => ?_, fun i' m ph' hi' ht' => ?_, fun m i' hm hh => ?_, fun m hm => ?_, fun hc => absurd (h.shut hc) nofin, fun i' hi' ht' => ?_, fun hc ha => absurd ha nofin⟩
  · by_cases e : a = k
    · subst e; simp only [upd_same]; omega
    · simp only [upd_ne _ _ e]; exact h.dle a ha
  · have e : m ≠ k := fun e => hb i (by rw [e]; exact hs)
    simp only [upd_ne _ _ e]
    exact h.early m hm hb hf
  · have e : m ≠ k := fun e => by subst e; have hf : gh.st m = .fin := hf; rw [hs] at hf; cases hf
    simp only [upd_ne _ _ e]
    exact h.done m hm hf
  · by_cases e : i' = i
    · have := h.who ht hm hb e
      subst e this
      exact ⟨hi, _, upd_same _ _ _⟩
    · obtain ⟨q1, ph', q2⟩ := h.busy m i' hm hb
      exact ⟨q1, ph', by rw [upd_ne T _ e]; exact q2⟩
  · by_cases e : i' = i
    · subst e
      rw [upd_same] at ht'
      cases ht'
      exact ⟨hk, hs, upd_same _ _ _⟩
    · rw [upd_ne T _ e] at ht'
      obtain ⟨q1, q2, q3⟩ := h.work i' m ph' hi' ht'
      have e2 : m ≠ k := fun e2 => by subst e2; rw [hs] at q2; cases q2; exact e rfl
      refine ⟨q1, q2, ?_⟩
      simp only [upd_ne _ _ e2]
      exact q3
  · obtain ⟨q1, k2, p2, q2, q3⟩ := h.hand m i' hm hh
    have : i' ≠ i := fun e => by subst e; rw [ht] at q2; cases q2; exact hp
    exact ⟨q1, k2, p2, by rw [upd_ne T _ this]; exact q2, q3⟩
  · show gh.st m = .wait ↔ cnt P (upd gh.d k (p + 1)) m < _
    by_cases e : j = m
    · subst e
      have := cnt_le (d := upd gh.d k (p + 1)) hw hm
      exact ⟨fun _ => by omega, fun _ => hwj⟩
    · rw [hct, if_neg e]; exact h.wait m hm
  · have : i' ≠ i := fun e => by subst e; rw [upd_same] at ht'; cases ht'
    rw [upd_ne T _ this] at ht'
    exact absurd (h.last i' hi' ht').2.1 nofin
/-- It is told, and can begin. -/
theorem GA.decZ (hw : GWf P) (h : GA P gh n T) {i k : Nat} {ph : GPh} (hi : i < n) (ht : T i = some (.busy k ph)) {p j : Nat} (hp : ph.at p) (hj : (P.nxt k)[p]? = some j) (heq : cnt P (upd gh.d k (p + 1)) j = (P.aft j).length) :
    GA P { gh with d := upd gh.d k (p + 1), st := upd gh.st j (.hand i) } n (upd T i (some (.busy k (.send p)))) := by
  obtain ⟨hk, hs, hd⟩ := h.d_at hi ht hp
  obtain ⟨hjn, hwj, hjk, hct⟩ := h.told hw hi ht hp hj
  have hpl := (List.getElem?_eq_some_iff.1 hj).1
  have nofin : ¬ ∀ m, m < P.N → gh.st m = .fin := fun ha => by have := ha k hk; rw [hs] at this; cases this
  have nofin' : ¬ ∀ m, m < P.N → upd gh.st j (.hand i) m = .fin := fun ha => by have := ha k hk; rw [upd_ne _ _ (fun e => hjk e.symm), hs] at this; cases this
  have hkj : k ≠ j := fun e => hjk e.symm
  refine ⟨fun a ha => ?_, fun m hm hb hf => ?_, fun m hm hf => ?_, fun m => ?_, h.nodup, fun m i' hm hb => ?_, fun i' m ph' hi' ht' => ?_, fun m i' hm hh => ?_, fun m hm => ?_, fun hc => absurd (h.shut hc) nofin, fun i' hi' ht' => ?_, fun hc ha => absurd ha nofin'⟩
  · by_cases e : a = k
    · subst e; simp only [upd_same]; omega
    · simp only [upd_ne _ _ e]; exact h.dle a ha
  · have e : m ≠ k := fun e => hb i (by rw [e]; simp only [upd_ne _ _ hkj]; exact hs)
    simp only [upd_ne _ _ e]
    by_cases e2 : m = j
    · subst e2; exact h.early m hm (fun i' e => by rw [hwj] at e; cases e) (by rw [hwj]; simp)
    · simp only [upd_ne _ _ e2] at hb hf
      exact h.early m hm hb hf
  · by_cases e2 : m = j
    · subst e2; simp only [upd_same] at hf; cases hf
    · simp only [upd_ne _ _ e2] at hf
      have e : m ≠ k := fun e => by subst e; rw [hs] at hf; cases hf
      simp only [upd_ne _ _ e]
      exact h.done m hm hf
  · by_cases e2 : m = j
    · subst e2
      simp only [upd_same]
      exact ⟨fun hm => (by have := ((h.que m).1 hm).2; rw [hwj] at this; cases this), fun ⟨_, e⟩ => (by cases e)⟩
    · simp only [upd_ne _ _ e2]; exact h.que m
  · by_cases e2 : m = j
    · subst e2; simp only [upd_same] at hb; cases hb
    · simp only [upd_ne _ _ e2] at hb
      by_cases e : i' = i
      · have := h.who ht hm hb e
        subst e this
        exact ⟨hi, _, upd_same _ _ _⟩
      · obtain ⟨q1, ph', q2⟩ := h.busy m i' hm hb
        exact ⟨q1, ph', by rw [upd_ne T _ e]; exact q2⟩
  · by_cases e : i' = i
    · subst e
      rw [upd_same] at ht'
      cases ht'
      exact ⟨hk, by simp only [upd_ne _ _ hkj]; exact hs, upd_same _ _ _, j, hj, upd_same _ _ _⟩
    · rw [upd_ne T _ e] at ht'
      obtain ⟨q1, q2, q3⟩ := h.work i' m ph' hi' ht'
      have e2 : m ≠ k := fun e2 => by subst e2; rw [hs] at q2; cases q2; exact e rfl
      have e3 : m ≠ j := fun e3 => by subst e3; rw [hwj] at q2; cases q2
      refine ⟨q1, by simp only [upd_ne _ _ e3]; exact q2, ?_⟩
      simp only [upd_ne _ _ e2]
      cases ph' with
      | comp => exact q3
      | put p => exact q3
      | send p =>
        obtain ⟨a1, m2, a2, a3⟩ := q3
        have : m2 ≠ j := fun e => by subst e; rw [hwj] at a3; cases a3
        exact ⟨a1, m2, a2, by simp only [upd_ne _ _ this]; exact a3⟩
  · by_cases e2 : m = j
    · subst e2
      simp only [upd_same] at hh
      cases hh
      exact ⟨hi, k, p, upd_same _ _ _, hj⟩
    · simp only [upd_ne _ _ e2] at hh
      obtain ⟨q1, k2, p2, q2, q3⟩ := h.hand m i' hm hh
      have : i' ≠ i := fun e => by subst e; rw [ht] at q2; cases q2; exact hp
      exact ⟨q1, k2, p2, by rw [upd_ne T _ this]; exact q2, q3⟩
  · show upd gh.st j (.hand i) m = .wait ↔ cnt P (upd gh.d k (p + 1)) m < _
    by_cases e : j = m
    · subst e
      rw [upd_same, heq]
      exact ⟨fun e => (by cases e), fun e => (by omega)⟩
    · rw [hct, if_neg e, upd_ne _ _ (fun e2 => e e2.symm)]; exact h.wait m hm
  · have : i' ≠ i := fun e => by subst e; rw [upd_same] at ht'; cases ht'
    rw [upd_ne T _ this] at ht'
    exact absurd (h.last i' hi' ht').2.1 nofin
/-- It is sent on. -/
theorem GA.send (h : GA P gh n T) {i k p j : Nat} (hi : i < n) (ht : T i = some (.busy k (.send p))) (hj : (P.nxt k)[p]? = some j) (hjn : j < P.N) :
    GA P { gh with st := upd gh.st j .que, q := gh.q ++ [j] } n (upd T i (some (.busy k (.put (p + 1))))) := by
  obtain ⟨hk, hs, hd, j', hj', hsj⟩ := h.work i k _ hi ht
  obtain rfl : j = j' := Option.some.inj (hj.symm.trans hj')
  have hkj : k ≠ j := fun e => by subst e; rw [hs] at hsj; cases hsj
  have nofin : ¬ ∀ m, m < P.N → gh.st m = .fin := fun ha => by have := ha k hk; rw [hs] at this; cases this
  have nofin' : ¬ ∀ m, m < P.N → upd gh.st j .que m = .fin := fun ha => by have := ha k hk; rw [upd_ne _ _ hkj, hs] at this; cases this
  have hjq : j ∉ gh.q := fun hm => by have := ((h.que j).1 hm).2; rw [hsj] at this; cases this
  refine ⟨h.dle, fun m hm hb hf => ?_, fun m hm hf => ?_, fun m => ?_, ?_, fun m i' hm hb => ?_, fun i' m ph' hi' ht' => ?_, fun m i' hm hh => ?_, fun m hm => ?_, fun hc => absurd (h.shut hc) nofin, fun i' hi' ht' => ?_, fun hc ha => absurd ha nofin'⟩
  · by_cases e2 : m = j
    · subst e2; exact h.early m hm (fun i' e => by rw [hsj] at e; cases e) (by rw [hsj]; simp)
    · simp only [upd_ne _ _ e2] at hb hf
      exact h.early m hm hb hf
  · by_cases e2 : m = j
    · subst e2; simp only [upd_same] at hf; cases hf
    · simp only [upd_ne _ _ e2] at hf
      exact h.done m hm hf
  · by_cases e2 : m = j
    · subst e2
      simp only [upd_same]
      exact ⟨fun _ => ⟨hjn, trivial⟩, fun _ => List.mem_append_right _ (List.mem_singleton.2 rfl)⟩
    · simp only [upd_ne _ _ e2]
      rw [← h.que m]
      simp [e2]
  · refine List.nodup_append.2 ⟨h.nodup, by simp, fun a ha b hb e => ?_⟩
    rw [List.mem_singleton.1 hb] at e
    exact hjq (e ▸ ha)
  · by_cases e2 : m = j
    · subst e2; simp only [upd_same] at hb; cases hb
    · simp only [upd_ne _ _ e2] at hb
      by_cases e : i' = i
      · have := h.who ht hm hb e
        subst e this
        exact ⟨hi, _, upd_same _ _ _⟩
      · obtain ⟨q1, ph', q2⟩ := h.busy m i' hm hb
        exact ⟨q1, ph', by rw [upd_ne T _ e]; exact q2⟩
  · by_cases e : i' = i
    · subst e
      rw [upd_same] at ht'
      cases ht'
      exact ⟨hk, by simp only [upd_ne _ _ hkj]; exact hs, hd⟩
    · rw [upd_ne T _ e] at ht'
      obtain ⟨q1, q2, q3⟩ := h.work i' m ph' hi' ht'
      have e3 : m ≠ j := fun e3 => by subst e3; rw [hsj] at q2; cases q2
      refine ⟨q1, by simp only [upd_ne _ _ e3]; exact q2, ?_⟩
      cases ph' with
      | comp => exact q3
      | put p => exact q3
      | send p =>
        obtain ⟨a1, m2, a2, a3⟩ := q3
        have : m2 ≠ j := fun e4 => by subst e4; rw [hsj] at a3; cases a3; exact e rfl
        exact ⟨a1, m2, a2, by simp only [upd_ne _ _ this]; exact a3⟩
  · by_cases e2 : m = j
    · subst e2; simp only [upd_same] at hh; cases hh
    · simp only [upd_ne _ _ e2] at hh
      obtain ⟨q1, k2, p2, q2, q3⟩ := h.hand m i' hm hh
      have : i' ≠ i := fun e => by
        subst e
        rw [ht] at q2
        cases q2
        exact e2 (Option.some.inj (q3.symm.trans hj))
      exact ⟨q1, k2, p2, by rw [upd_ne T _ this]; exact q2, q3⟩
  · show upd gh.st j .que m = .wait ↔ _
    by_cases e : m = j
    · subst e
      rw [upd_same]
      refine ⟨fun e => (by cases e), fun hl => ?_⟩
      have := (h.wait m hm).2 hl
      rw [hsj] at this
      cases this
    · rw [upd_ne _ _ e]; exact h.wait m hm
  · have : i' ≠ i := fun e => by subst e; rw [upd_same] at ht'; cases ht'
    rw [upd_ne T _ this] at ht'
    exact absurd (h.last i' hi' ht').2.1 nofin
/-- A job is done. -/
theorem GA.over (h : GA P gh n T) {i k : Nat} {ph : GPh} (hi : i < n) (ht : T i = some (.busy k ph)) (hp : ph.at (P.nxt k).length) {x : GSt} (hx : (x = .idle ∧ ¬ ∀ m, m < P.N → upd gh.st k .fin m = .fin) ∨ (x = .last ∧ ∀ m, m < P.N → upd gh.st k .fin m = .fin)) :
    GA P { gh with st := upd gh.st k .fin } n (upd T i (some x)) := by
  obtain ⟨hk, hs, hd⟩ := h.d_at hi ht hp
  have nofin : ¬ ∀ m, m < P.N → gh.st m = .fin := fun ha => by have := ha k hk; rw [hs] at this; cases this
  have hxb : ∀ k2 ph2, x ≠ .busy k2 ph2 := fun k2 ph2 e => by rcases hx with ⟨rfl, _⟩ | ⟨rfl, _⟩ <;> cases e
  refine ⟨h.dle, fun m hm hb hf => ?_, fun m hm hf => ?_, fun m => ?_, h.nodup, fun m i' hm hb => ?_, fun i' m ph' hi' ht' => ?_, fun m i' hm hh => ?_, fun m hm => ?_, fun hc => absurd (h.shut hc) nofin, fun i' hi' ht' => ?_, fun hc ha => ?_⟩
  · by_cases e2 : m = k
    · subst e2; simp only [upd_same] at hf; exact absurd rfl hf
    · simp only [upd_ne _ _ e2] at hb hf
      exact h.early m hm hb hf
  · by_cases e2 : m = k
    · subst e2; exact hd
    · simp only [upd_ne _ _ e2] at hf
      exact h.done m hm hf
  · by_cases e2 : m = k
    · subst e2
      simp only [upd_same]
      exact ⟨fun hm => (by have := ((h.que m).1 hm).2; rw [hs] at this; cases this), fun ⟨_, e⟩ => (by cases e)⟩
    · simp only [upd_ne _ _ e2]; exact h.que m
  · by_cases e2 : m = k
    · subst e2; simp only [upd_same] at hb; cases hb
    · simp only [upd_ne _ _ e2] at hb
      have e : i' ≠ i := fun e => e2 (h.who ht hm hb e)
      obtain ⟨q1, ph', q2⟩ := h.busy m i' hm hb
      exact ⟨q1, ph', by rw [upd_ne T _ e]; exact q2⟩
  · have e : i' ≠ i := fun e => by subst e; rw [upd_same] at ht'; exact hxb _ _ (Option.some.inj ht')
    rw [upd_ne T _ e] at ht'
    obtain ⟨q1, q2, q3⟩ := h.work i' m ph' hi' ht'
    have e2 : m ≠ k := fun e2 => by subst e2; rw [hs] at q2; cases q2; exact e rfl
    refine ⟨q1, by simp only [upd_ne _ _ e2]; exact q2, ?_⟩
    cases ph' with
    | comp => exact q3
    | put p => exact q3
    | send p =>
      obtain ⟨a1, m2, a2, a3⟩ := q3
      have : m2 ≠ k := fun e4 => by subst e4; rw [hs] at a3; cases a3
      exact ⟨a1, m2, a2, by simp only [upd_ne _ _ this]; exact a3⟩
  · by_cases e2 : m = k
    · subst e2; simp only [upd_same] at hh; cases hh
    · simp only [upd_ne _ _ e2] at hh
      obtain ⟨q1, k2, p2, q2, q3⟩ := h.hand m i' hm hh
      have : i' ≠ i := fun e => by subst e; rw [ht] at q2; cases q2; exact hp
      exact ⟨q1, k2, p2, by rw [upd_ne T _ this]; exact q2, q3⟩
  · show upd gh.st k .fin m = .wait ↔ _
    by_cases e : m = k
    · subst e
      rw [upd_same]
      refine ⟨fun e => (by cases e), fun hl => ?_⟩
      have := (h.wait m hm).2 hl
      rw [hs] at this
      cases this
    · rw [upd_ne _ _ e]; exact h.wait m hm
  · have others : ∀ j', j' < n → j' ≠ i → upd T i (some x) j' ≠ some .last := fun j' h1 h2 h3 => by
      rw [upd_ne T _ h2] at h3
      exact nofin (h.last j' h1 h3).2.1
    by_cases e : i' = i
    · subst e
      rw [upd_same] at ht'
      have hx2 := hx.resolve_left fun e => by rw [e.1] at ht'; cases ht'
      refine ⟨?_, hx2.2, fun j' h1 h2 => Classical.byContradiction fun h3 => others j' h1 h3 h2⟩
      cases hcl : gh.cl with
      | false => rfl
      | true => exact absurd (h.shut hcl) nofin
    · exact absurd ht' (others i' hi' e)
  · rcases hx with ⟨_, hx⟩ | ⟨rfl, _⟩
    · exact absurd ha hx
    · exact ⟨i, hi, upd_same _ _ _⟩
/-- The queue is closed. -/
theorem GA.close (h : GA P gh n T) {i : Nat} (hi : i < n) (ht : T i = some .last) : GA P { gh with cl := true } n (upd T i (some .idle)) := by
  obtain ⟨hc, hall, hone⟩ := h.last i hi ht
  refine ⟨h.dle, h.early, h.done, h.que, h.nodup, fun m i' hm hb => ?_, fun i' m ph' hi' ht' => ?_, fun m i' hm hh => ?_, h.wait, fun _ => hall, fun i' hi' ht' => ?_, fun hc => by cases hc⟩
  · have := hall m hm
    rw [show gh.st m = .busy i' from hb] at this; cases this
  · have e : i' ≠ i := fun e => by subst e; rw [upd_same] at ht'; cases ht'
    rw [upd_ne T _ e] at ht'
    exact h.work i' m ph' hi' ht'
  · have := hall m hm
    rw [show gh.st m = .hand i' from hh] at this; cases this
  · have e : i' ≠ i := fun e => by subst e; rw [upd_same] at ht'; cases ht'
    rw [upd_ne T _ e] at ht'
    exact absurd (hone i' hi' ht') e
/-- A worker leaves. -/
theorem GA.leave (h : GA P gh n T) {i : Nat} (ht : T i = some .idle) : GA P gh n (upd T i none) := by
  have ne : ∀ {i' x}, T i' = some x → x ≠ .idle → i' ≠ i := fun h1 h2 e => by subst e; rw [ht] at h1; exact h2 (Option.some.inj h1).symm
  have ne2 : ∀ {i' x}, upd T i none i' = some x → i' ≠ i := fun h1 e => by subst e; rw [upd_same] at h1; cases h1
  refine ⟨h.dle, h.early, h.done, h.que, h.nodup, fun m i' hm hb => ?_, fun i' m ph' hi' ht' => ?_, fun m i' hm hh => ?_, h.wait, h.shut, fun i' hi' ht' => ?_, fun hc ha => ?_⟩
  · obtain ⟨q1, ph', q2⟩ := h.busy m i' hm hb
    exact ⟨q1, ph', by rw [upd_ne T _ (ne q2 (by simp))]; exact q2⟩
  · have e := ne2 ht'
    rw [upd_ne T _ e] at ht'
    exact h.work i' m ph' hi' ht'
  · obtain ⟨q1, k2, p2, q2, q3⟩ := h.hand m i' hm hh
    exact ⟨q1, k2, p2, by rw [upd_ne T _ (ne q2 (by simp))]; exact q2, q3⟩
  · have e := ne2 ht'
    rw [upd_ne T _ e] at ht'
    obtain ⟨q1, q2, q3⟩ := h.last i' hi' ht'
    refine ⟨q1, q2, fun j hj hjt => ?_⟩
    have e2 := ne2 hjt
    rw [upd_ne T _ e2] at hjt
    exact q3 j hj hjt
  · obtain ⟨j, hj, hjt⟩ := h.need hc ha
    exact ⟨j, hj, by rw [upd_ne T _ (ne hjt (by simp))]; exact hjt⟩
/-- A worker more. -/
theorem GA.fork (h : GA P gh n T) : GA P gh (n + 1) (upd T n (some .idle)) := by
  have lt : ∀ {i' x}, i' < n + 1 → upd T n (some .idle) i' = some x → x ≠ .idle → i' < n ∧ T i' = some x := fun {i' x} h1 h2 h3 => by
    by_cases e : i' = n
    · subst e; rw [upd_same] at h2; exact absurd (Option.some.inj h2).symm h3
    · rw [upd_ne T _ e] at h2; exact ⟨by omega, h2⟩
  refine ⟨h.dle, h.early, h.done, h.que, h.nodup, fun m i' hm hb => ?_, fun i' m ph' hi' ht' => ?_, fun m i' hm hh => ?_, h.wait, h.shut, fun i' hi' ht' => ?_, fun hc ha => ?_⟩
  · obtain ⟨q1, ph', q2⟩ := h.busy m i' hm hb
    exact ⟨by omega, ph', by rw [upd_ne T _ (by omega)]; exact q2⟩
  · obtain ⟨e1, e2⟩ := lt hi' ht' (by simp)
    exact h.work i' m ph' e1 e2
  · obtain ⟨q1, k2, p2, q2, q3⟩ := h.hand m i' hm hh
    exact ⟨by omega, k2, p2, by rw [upd_ne T _ (by omega)]; exact q2, q3⟩
  · obtain ⟨e1, e2⟩ := lt hi' ht' (by simp)
    obtain ⟨q1, q2, q3⟩ := h.last i' e1 e2
    refine ⟨q1, q2, fun j hj hjt => ?_⟩
    obtain ⟨e3, e4⟩ := lt hj hjt (by simp)
    exact q3 j e3 e4
  · obtain ⟨j, hj, hjt⟩ := h.need hc ha
    exact ⟨j, by omega, by rw [upd_ne T _ (by omega)]; exact hjt⟩
end
end Go.Proofs.Yticdjkkcfdbdcaa

/- The family of workers that do jobs: what lies in memory, what the trace tells. No program; no conditions but those named. -/
namespace Go.Proofs.Yticdjkkcfdbdcaa
open Go.Conc Go.ConcN
/-- Where it all lies: the channel, the numbers' row, the counters, the count of those done; what each job comes to. -/
structure GLoc where
  c : Nat
  nb : Nat
  la : Nat → Addr
  ov : Addr
  val : Nat → Int
def numL (M : GLoc) (k : Nat) : Loc := .cell ⟨M.nb, k, none⟩
/-- Its number is written. -/
def written (gh : GGh) (T : Nat → Option GSt) (k : Nat) : Prop := gh.st k = .fin ∨ ∃ i ph, gh.st k = .busy i ∧ T i = some (.busy k ph) ∧ ph ≠ .comp
/-- Nobody has it. -/
def resting (gh : GGh) (k : Nat) : Prop := gh.st k = .wait ∨ gh.st k = .que ∨ ∃ i, gh.st k = .hand i
/-- Every write of the place is Before p. -/
def PermWAt (t : Trace) (l : Loc) (p : Nat) : Prop := ∀ u a, touchAt t u = some a → a.loc = l → a.write = true → Before t u p
/-- Which of those it waits for have told it. -/
def toldTo (P : GPar) (gh : GGh) (a k : Nat) : Prop := k ∈ (P.nxt a).take (gh.d a)
theorem PermWAt.app {t u : Trace} {l : Loc} {p : Nat} (h : PermWAt t l p) (hu : ∀ op ∈ u, ∀ b, op.act.touch? = some b → b.loc = l → b.write = false) : PermWAt (t ++ u) l p := by
  intro v a ha hl hw
  obtain ⟨x, hx, hxa⟩ := touch_of ha
  rcases getElem?_append_cases hx with ⟨hi, hx'⟩ | ⟨_, hxu⟩
  · exact (h v a (by rw [touchAt_of hx']; exact hxa) hl hw).app u
  · rw [hu x hxu a hxa hl] at hw; cases hw
theorem PermWAt.knows {t : Trace} {l : Loc} {p g : Nat} (h : PermWAt t l p) (hp : Knows t g p) : PermW t g l := fun v a ha hl hw => Knows.of_before (h v a ha hl hw) hp
theorem PermWAt.on {t : Trace} {l : Loc} {p p' : Nat} (h : PermWAt t l p) (hp : Before t p p') : PermWAt t l p' := fun v a ha hl hw => (h v a ha hl hw).trans hp
/-- Who knows all writes does something: they are Before that. -/
theorem PermW.at_ {t : Trace} {g : Nat} {l : Loc} {y : MemOp} (h : PermW t g l) (hg : y.g = g) (hy : ∀ b, y.act.touch? = some b → b.loc = l → b.write = false) : PermWAt (t ++ #[y]) l t.size := by
  intro v a ha hl hw
  have hlast : (t ++ #[y])[t.size]? = some y := by rw [Array.getElem?_append_right (Nat.le_refl _)]; simp
  obtain ⟨x, hx, hxa⟩ := touch_of ha
  rcases getElem?_append_cases hx with ⟨hi, hx'⟩ | ⟨_, hxu⟩
  · exact .inr ((h v a (by rw [touchAt_of hx']; exact hxa) hl hw).hb_new (Nat.le_refl _) hlast hg)
  · have : x = y := by simpa using hxu
    rw [hy a (this ▸ hxa) hl] at hw; cases hw
structure GI (P : GPar) (M : GLoc) (m0 : Nat) (gh : GGh) (s r : Nat) (n : Nat) (T : Nat → Option GSt) (K : Nat → LK) (w : World) (t : Trace) : Prop where
  ga : GA P gh n T
  ch : w.heap[M.c]? = some (.chan P.N (gh.q.map fun k => .int .i64 (k : Int)).toArray gh.cl s r false)
  sr : s = r + gh.q.length
  un : r + nUn P gh = P.N
  noC : ∀ i, i < n → ¬ (K i).W (.obj M.c) ∧ ¬ (K i).R (.obj M.c)
  left : ∀ k, k < P.N → w.cell? (M.la k) = some (.int .i64 (((P.aft k).length : Int) - (cnt P gh.d k : Int)))
  over : w.cell? M.ov = some (.int .i64 (nFin P gh : Int))
  atom : ∀ i, i < n → (i = 0 ∨ T i ≠ none) → (∀ k, k < P.N → (K i).A (.cell (M.la k))) ∧ (K i).A (.cell M.ov) ∧ (K i).A (.obj M.c)
  noA : ∀ i, i < n → ∀ k, k < P.N → ¬ (K i).A (numL M k)
  num : ∀ k, k < P.N → written gh T k → w.cell? ⟨M.nb, k, none⟩ = some (.int .i64 (M.val k))
  free : ∀ k, k < P.N → written gh T k → ∀ i, i < n → ¬ (K i).W (numL M k)
  rest : ∀ k, k < P.N → resting gh k → ∀ i, i < n → ¬ (K i).W (numL M k) ∧ ¬ (K i).R (numL M k)
  perm : ∀ k, k < P.N → resting gh k → ∀ i, i < n → (i = 0 ∨ (m0 ≤ i ∧ T i ≠ none)) → Perm t i (numL M k)
  ownR : ∀ i, i < n → ∀ k ph, T i = some (.busy k ph) → ph ≠ .comp → (K i).R (numL M k)
  hb1 : ∀ k, k < P.N → gh.st k = .wait → (∃ a, a < P.N ∧ toldTo P gh a k) → ∃ p, LastWrite t (M.la k) p ∧ t.heard p ∧ ∀ a, a < P.N → toldTo P gh a k → PermWAt t (numL M a) p
  hb2 : ∀ k i, k < P.N → gh.st k = .hand i → ∀ a ∈ P.aft k, PermW t i (numL M a)
  hb3 : ∀ m k, gh.q[m]? = some k → P.aft k ≠ [] → ∃ p, t.act? p = some (.send M.c (r + m)) ∧ t.heard p ∧ ∀ a ∈ P.aft k, PermWAt t (numL M a) p
  out : ∀ i, m0 ≤ i → i < n → T i = none → gh.cl = true
theorem upd_none {T : Nat → Option GSt} {i k : Nat} {x : GSt} (h : upd T i (some x) k = none) : T k = none := by
  by_cases e : k = i
  · subst e; rw [upd_same] at h; cases h
  · rwa [upd_ne T _ e] at h
section
variable {P : GPar} {M : GLoc} {m0 : Nat} {gh : GGh} {s r n : Nat} {T : Nat → Option GSt} {K K' : Nat → LK} {w w' : World} {t u : Trace}
/-- Who is waited for and has told is written. -/
theorem GA.wrote (h : GA P gh n T) {a : Nat} (ha : a < P.N) (hd : 0 < gh.d a) : written gh T a := by
  cases hs : gh.st a with
  | fin => exact .inl hs
  | busy i =>
    obtain ⟨hi, ph, ht⟩ := h.busy a i ha hs
    refine .inr ⟨i, ph, hs, ht, fun e => ?_⟩
    subst e
    have h3 : gh.d a = 0 := (h.work i a .comp hi ht).2.2
    omega
  | wait => have := h.early a ha (fun i e => by rw [hs] at e; cases e) (by rw [hs]; simp); omega
  | que => have := h.early a ha (fun i e => by rw [hs] at e; cases e) (by rw [hs]; simp); omega
  | hand i => have := h.early a ha (fun i e => by rw [hs] at e; cases e) (by rw [hs]; simp); omega
theorem told_pos {a k : Nat} (h : toldTo P gh a k) : 0 < gh.d a := Nat.pos_of_ne_zero fun e => by
  unfold toldTo at h
  rw [e, List.take_zero] at h
  cases h
/-- All that is waited for has been written, where a job waits no more. -/
theorem GA.ready (hw : GWf P) (h : GA P gh n T) {k : Nat} (hk : k < P.N) (hs : gh.st k ≠ .wait) {a : Nat} (ha : a ∈ P.aft k) : a < P.N ∧ written gh T a ∧ toldTo P gh a k := by
  have h1 : cnt P gh.d k = (P.aft k).length := by
    have h2 := cnt_le (d := gh.d) hw hk
    have h3 : ¬ cnt P gh.d k < (P.aft k).length := fun h4 => hs ((h.wait k hk).2 h4)
    omega
  obtain ⟨a1, a2, _⟩ := hw.mem k hk a ha
  refine ⟨a1, h.wrote a1 (cnt_pos hw hk h1 ha), ?_⟩
  have := cnt_full hw hk h1 a1
  unfold toldTo
  rw [← List.count_pos_iff, this]
  exact List.count_pos_iff.2 a2
/-- A step that leaves all this alone. -/
theorem GI.ext (hw : GWf P) (h : GI P M m0 gh s r n T K w t) (hch : w'.heap[M.c]? = w.heap[M.c]?) (hla : ∀ k, k < P.N → w'.cell? (M.la k) = w.cell? (M.la k)) (hov : w'.cell? M.ov = w.cell? M.ov) (hnum : ∀ k, k < P.N → written gh T k → w'.cell? ⟨M.nb, k, none⟩ = w.cell? ⟨M.nb, k, none⟩)
    (hKW : ∀ j, j < n → ∀ l, (l = .obj M.c ∨ ∃ k, k < P.N ∧ l = numL M k) → (K' j).W l → (K j).W l) (hKR : ∀ j, j < n → (K' j).R = (K j).R) (hKA : ∀ j, j < n → (K' j).A = (K j).A)
    (hu : ∀ op ∈ u, ∀ b, op.act.touch? = some b → (∀ k, k < P.N → b.loc ≠ .cell (M.la k)) ∧ (∀ k, k < P.N → resting gh k → b.loc ≠ numL M k) ∧ ∀ k, k < P.N → written gh T k → b.loc = numL M k → b.write = false) : GI P M m0 gh s r n T K' w' (t ++ u) where
  ga := h.ga
  ch := hch.trans h.ch
  sr := h.sr
  un := h.un
  noC i hi := ⟨fun hx => (h.noC i hi).1 (hKW i hi _ (.inl rfl) hx), fun hx => (h.noC i hi).2 (by rw [hKR i hi] at hx; exact hx)⟩
  left k hk := (hla k hk).trans (h.left k hk)
  over := hov.trans h.over
  atom i hi hT := by rw [hKA i hi]; exact h.atom i hi hT
  noA i hi k hk := by rw [hKA i hi]; exact h.noA i hi k hk
  num k hk hwr := (hnum k hk hwr).trans (h.num k hk hwr)
  free k hk hwr i hi hx := h.free k hk hwr i hi (hKW i hi _ (.inr ⟨k, hk, rfl⟩) hx)
  rest k hk hr i hi := ⟨fun hx => (h.rest k hk hr i hi).1 (hKW i hi _ (.inr ⟨k, hk, rfl⟩) hx), fun hx => (h.rest k hk hr i hi).2 (by rw [hKR i hi] at hx; exact hx)⟩
  perm k hk hr i hi hT := (h.perm k hk hr i hi hT).app fun op hop b hb hbl => absurd hbl ((hu op hop b hb).2.1 k hk hr)
  ownR i hi k ph hT hp := by rw [hKR i hi]; exact h.ownR i hi k ph hT hp
  hb1 k hk hs ht := by
    obtain ⟨p, p1, p2, p3⟩ := h.hb1 k hk hs ht
    have hp := lt_of_act? p1.1
    refine ⟨p, p1.app fun op hop sync e => ?_, (heard_old hp).2 p2, fun a ha hta => (p3 a ha hta).app fun op hop b hb hbl => (hu op hop b hb).2.2 a ha (h.ga.wrote ha (told_pos hta)) hbl⟩
    exact (hu op hop ⟨.cell (M.la k), true, if sync then .atomic else .plain⟩ (by rw [e]; rfl)).1 k hk rfl
  hb2 k i hk hs a ha := by
    obtain ⟨a1, a2, _⟩ := h.ga.ready hw hk (by rw [hs]; simp) ha
    exact (h.hb2 k i hk hs a ha).app fun op hop b hb hbl hbw => by rw [(hu op hop b hb).2.2 a a1 a2 hbl] at hbw; cases hbw
  hb3 m k hm hne := by
    obtain ⟨p, p1, p2, p3⟩ := h.hb3 m k hm hne
    have hp := lt_of_act? p1
    have hq := (h.ga.que k).1 (List.mem_of_getElem? hm)
    refine ⟨p, (act?_old hp).trans p1, (heard_old hp).2 p2, fun a ha => ?_⟩
    obtain ⟨a1, a2, _⟩ := h.ga.ready hw hq.1 (by rw [hq.2]; simp) ha
    exact (p3 a ha).app fun op hop b hb hbl => (hu op hop b hb).2.2 a a1 a2 hbl
  out := h.out
end
end Go.Proofs.Yticdjkkcfdbdcaa

/- The family of workers that do jobs keeps its protocol. No program; no conditions but those named. -/
namespace Go.Proofs.Yticdjkkcfdbdcaa
open Go.Conc Go.ConcN
def ShutW (P : GPar) (M : GLoc) (w : World) : Prop := ∃ s r, w.heap[M.c]? = some (.chan P.N #[] true s r false)
/-- So many at least have been taken. -/
def Recvd (M : GLoc) (w : World) (r : Nat) : Prop := r = 0 ∨ ∃ cap buf cl s r' tm, w.heap[M.c]? = some (.chan cap buf cl s r' tm) ∧ r ≤ r'
theorem Recvd.chan {M : GLoc} {w w' : World} {r : Nat} (h : Recvd M w r) (e : w'.heap[M.c]? = w.heap[M.c]?) : Recvd M w' r := h.imp id fun ⟨a1, a2, a3, a4, a5, a6, a7, a8⟩ => ⟨a1, a2, a3, a4, a5, a6, e.trans a7, a8⟩
def famG (P : GPar) (M : GLoc) (X Rl : Loc → Prop) (w0 : World) (m0 : Nat) : Fam where
  τ := GSt
  G n T K w t := (Rely (keepK X) w0 w ∧ (∀ i, i < n → ∀ l, X l → ¬ (K i).W l) ∧ (∀ l, X l → MemLoc w0.heap.size l) ∧ RelIn Rl t ∧ 0 < m0) ∧ ∃ gh s r, GI P M m0 gh s r n T K w t
  GR _ w w₁ := (ShutW P M w → ShutW P M w₁) ∧ ∀ r, Recvd M w r → Recvd M w₁ r
  Q _ x _ w := x = .idle ∧ ShutW P M w
  idle x c := x = .idle ∧ c = M.c
/-- What lies where. -/
structure GOk (P : GPar) (M : GLoc) (X : Loc → Prop) (Wg : Nat) (w0 : World) : Prop where
  wf : GWf P
  back : ∀ k, k < P.N → ∀ a, a < P.N → k ∈ P.nxt a → a ∈ P.aft k
  XW : ∀ l, X l → ¬ WgLoc Wg l ∧ l ≠ .obj Wg
  Xc : ∀ l, X l → l ≠ .obj M.c ∧ (∀ k, k < P.N → l ≠ .cell (M.la k)) ∧ l ≠ .cell M.ov ∧ ∀ k, k < P.N → l ≠ numL M k
  cW : M.c ≠ Wg
  nW : M.nb ≠ Wg
  lW : ∀ k, k < P.N → (M.la k).block ≠ Wg
  oW : M.ov.block ≠ Wg
  laI : ∀ k, k < P.N → ∀ m, m < P.N → M.la k = M.la m → k = m
  lo : ∀ k, k < P.N → M.la k ≠ M.ov
  ln : ∀ k, k < P.N → (M.la k).block ≠ M.nb
  on : M.ov.block ≠ M.nb
  cm : M.c < w0.heap.size
  nm : M.nb < w0.heap.size
  lm : ∀ k, k < P.N → (M.la k).block < w0.heap.size
  om : M.ov.block < w0.heap.size
section
variable {P : GPar} {M : GLoc} {m0 : Nat} {gh : GGh} {s r n : Nat} {T T' : Nat → Option GSt} {K K' : Nat → LK} {w w' w0 : World} {t u : Trace} {X Rl : Loc → Prop} {Wg : Nat}
/-- One that is idle leaves: nothing else turns. -/
theorem GI.leave (h : GI P M m0 gh s r n T K w t) {i : Nat} (ht : T i = some .idle) (hcl : gh.cl = true) : GI P M m0 gh s r n (upd T i none) K w t := by
  have wr : ∀ k, written gh (upd T i none) k → written gh T k := fun k hk => hk.imp id fun ⟨j, ph, h1, h2, h3⟩ => by
    refine ⟨j, ph, h1, ?_, h3⟩
    have : j ≠ i := fun e => by subst e; rw [upd_same] at h2; cases h2
    rwa [upd_ne T _ this] at h2
  have nn : ∀ j, upd T i none j ≠ none → T j ≠ none := fun j hj => by
    have : j ≠ i := fun e => by subst e; rw [upd_same] at hj; exact hj rfl
    rwa [upd_ne T _ this] at hj
  exact ⟨h.ga.leave ht, h.ch, h.sr, h.un, h.noC, h.left, h.over, fun j hj hT => h.atom j hj (hT.imp id (nn j)), h.noA, fun k hk hw => h.num k hk (wr k hw), fun k hk hw => h.free k hk (wr k hw), h.rest, fun k hk hr j hj hT => h.perm k hk hr j hj (hT.imp id fun x => ⟨x.1, nn j x.2⟩), fun j hj k ph hT => h.ownR j hj k ph (by
    have : j ≠ i := fun e => by subst e; rw [upd_same] at hT; cases hT
    rwa [upd_ne T _ this] at hT), h.hb1, h.hb2, h.hb3, fun _ _ _ _ => hcl⟩
theorem sw_permWAt {a b x y : MemOp} (hb : CommOp b.act) (hx : CommOp x.act) (hg : b.g ≠ x.g) {l : Loc} {p : Nat} (hp : sw (t.size + 1) p = p) (h : PermWAt (t ++ #[a, b, x, y]) l p) : PermWAt (t ++ #[a, x, b, y]) l p := fun v z hz hl hw => by
  rw [sw_touch] at hz
  rcases h _ z hz hl hw with e | e
  · refine .inl ?_
    rw [← hp, ← e, sw_sw]
  · have := sw_hb hb hx hg e
    rw [sw_sw, hp] at this
    exact .inr this
/-- Two words of a hand-over change places. -/
theorem GI.swap {a b x y : MemOp} (ha : CommOp a.act) (hb : CommOp b.act) (hx : CommOp x.act) (hy : CommOp y.act) (hg : b.g ≠ x.g) (hb2 : ∃ c k, b.act = .sendDone c k) (hx2 : ∃ c k cap, x.act = .recv c k cap) (h : GI P M m0 gh s r n T K w (t ++ #[a, b, x, y])) : GI P M m0 gh s r n T K w (t ++ #[a, x, b, y]) where
  ga := h.ga
  ch := h.ch
  sr := h.sr
  un := h.un
  noC := h.noC
  left := h.left
  over := h.over
  atom := h.atom
  noA := h.noA
  num := h.num
  free := h.free
  rest := h.rest
  perm k hk hr i hi hT := sw_perm hb hx hg (h.perm k hk hr i hi hT)
  ownR := h.ownR
  hb1 k hk hs ht := by
    obtain ⟨p, p1, p2, p3⟩ := h.hb1 k hk hs ht
    obtain ⟨e, n1, n2⟩ := sw_fix hb hx (.inl ⟨_, rfl⟩) p1.1
    have q1 := sw_act t a b x y p
    have q2 := sw_heard hb hx p2
    rw [e] at q1 q2
    refine ⟨p, ⟨q1.trans p1.1, fun v sync hv hva => p1.2 _ sync (sw_lt n1 n2 hv) ((sw_act' t a b x y v).trans hva)⟩, q2, fun a' ha' hta => sw_permWAt hb hx hg e (p3 a' ha' hta)⟩
  hb2 k i hk hs a' ha' := sw_permW hb hx hg (h.hb2 k i hk hs a' ha')
  hb3 m k hm hne := by
    obtain ⟨p, p1, p2, p3⟩ := h.hb3 m k hm hne
    have e : sw (t.size + 1) p = p := by
      have n1 : p ≠ t.size + 1 := fun e => by
        subst e
        rw [act_b] at p1
        obtain ⟨_, _, e2⟩ := hb2
        rw [e2] at p1; cases p1
      have n2 : p ≠ t.size + 1 + 1 := fun e => by
        subst e
        rw [act_x] at p1
        obtain ⟨_, _, _, e2⟩ := hx2
        rw [e2] at p1; cases p1
      unfold sw
      rw [if_neg n1, if_neg n2]
    have q1 := sw_act t a b x y p
    have q2 := sw_heard hb hx p2
    rw [e] at q1 q2
    exact ⟨p, q1.trans p1, q2, fun a' ha' => sw_permWAt hb hx hg e (p3 a' ha')⟩
  out := h.out
/-- ████ THE FAMILY KEEPS ITS PROTOCOL. ████ -/
theorem famG_ok (hO : GOk P M X Wg w0) : (famG P M X Rl w0 m0).Ok Wg where
  refl _ _ := ⟨id, fun _ => id⟩
  trans _ _ _ _ h h' := ⟨fun x => h'.1 (h.1 x), fun r x => h'.2 r (h.2 r x)⟩
  at_ _ _ _ := ⟨id, fun _ => id⟩
  gAt n T K w t d h := by
    obtain ⟨h1, gh, s, r, h2⟩ := h
    exact ⟨⟨h1.1.trans (.at _ _ d), h1.2⟩, gh, s, r, h2.ga, h2.ch, h2.sr, h2.un, h2.noC, h2.left, h2.over, h2.atom, h2.noA, h2.num, h2.free, h2.rest, h2.perm, h2.ownR, h2.hb1, h2.hb2, h2.hb3, h2.out⟩
  mute n T K w t i u h hT hu := by
    obtain ⟨⟨h1, h2, h3, h4, h5⟩, gh, s, r, h6⟩ := h
    refine ⟨⟨h1, h2, h3, h4.app fun op hop => (hu op hop).2.2, h5⟩, gh, s, r, h6.ext hO.wf rfl (fun _ _ => rfl) rfl (fun _ _ _ => rfl) (fun _ _ _ _ h => h) (fun _ _ => rfl) (fun _ _ => rfl) fun op hop b hb => ?_⟩
    rw [(hu op hop).2.1] at hb; cases hb
  own n T K w w' t i es fn pos h hl hi hT ho := by
    obtain ⟨⟨h1, h2, h3, h4, h5⟩, gh, s, r, h6⟩ := h
    have hm : ∀ l, X l → MemLoc w.heap.size l := fun l hx => (h3 l hx).mono h1.size
    have hz := h1.size
    obtain ⟨hA1, hA2, _⟩ := h6.atom i hi hT
    have hch : w'.heap[M.c]? = w.heap[M.c]? := by rw [h6.ch]; exact ho.chg.obj M.c _ h6.ch not_cells_chan (h6.noC i hi).1
    have hcs := hO.cm
    have hns := hO.nm
    refine ⟨⟨⟨h1.trans (keep_chg ho.chg (h2 i hi) hm), fun j hj l hx => ?_, h3, h4.app fun op hop a => ?_, h5⟩, gh, s, r, h6.ext hO.wf hch (fun k hk => ?_) ?_ (fun k hk hwr => ?_) (fun j hj l hx hW => ?_) (fun j hj => ?_) (fun j hj => ?_) fun op hop b hb => ?_⟩, fun j _ _ => ⟨fun hsh => ?_, fun r0 hr0 => ?_⟩⟩
    · by_cases e : j = i
      · subst e
        rw [upd_same]
        rintro (hw | hw)
        · exact h2 j hj l hx hw
        · exact hw.mem.2 (hm l hx)
      · rw [upd_ne K _ e]; exact h2 j hj l hx
    · obtain ⟨e, he, rfl⟩ := Go.Conc.mem_ofEvents hop
      exact (ho.evs e he).noRelease a
    · exact ho.chg.cell _ (Nat.lt_of_lt_of_le (hO.lm k hk) hz) fun hW => hl.wa i i hi hi _ (.inl hW) (hA1 k hk)
    · exact ho.chg.cell _ (Nat.lt_of_lt_of_le hO.om hz) fun hW => hl.wa i i hi hi _ (.inl hW) hA2
    · exact ho.chg.cell _ (show M.nb < _ by omega) (h6.free k hk hwr i hi)
    · by_cases e : j = i
      · subst e
        rw [upd_same] at hW
        rcases hW with hW | hW
        · exact hW
        · exfalso
          rcases hx with rfl | ⟨k, _, rfl⟩
          · exact hW.mem.2 (show M.c < _ by omega)
          · exact hW.mem.2 (show M.nb < _ by omega)
      · rwa [upd_ne K _ e] at hW
    · by_cases e : j = i
      · subst e; rw [upd_same]; rfl
      · rw [upd_ne K _ e]
    · by_cases e : j = i
      · subst e; rw [upd_same]; rfl
      · rw [upd_ne K _ e]
    · obtain ⟨ev, he, rfl⟩ := Go.Conc.mem_ofEvents hop
      obtain ⟨_, _, h7⟩ := (ho.evs ev he).touch hb
      refine ⟨fun k hk e => ?_, fun k hk hr e => ?_, fun k hk hwr e => ?_⟩
      · rw [e] at h7
        rcases h7 with x | x | x
        · exact x.mem.2 (Nat.lt_of_lt_of_le (hO.lm k hk) hz)
        · exact hl.wa i i hi hi _ (.inl x) (hA1 k hk)
        · exact hl.wa i i hi hi _ (.inr x.2) (hA1 k hk)
      · rw [e] at h7
        rcases h7 with x | x | x
        · exact x.mem.2 (show M.nb < _ by omega)
        · exact (h6.rest k hk hr i hi).1 x
        · exact (h6.rest k hk hr i hi).2 x.2
      · rw [e] at h7
        rcases h7 with x | x | x
        · exact absurd (show M.nb < _ by omega) x.mem.2
        · exact absurd x (h6.free k hk hwr i hi)
        · exact x.1
    · obtain ⟨s', r', h7⟩ := hsh
      exact ⟨s', r', hch.trans h7⟩
    · exact hr0.chan hch
  wg n T K w w' t i u h hl hi hA ht hcl hal hu := by
    obtain ⟨⟨h1, h2, h3, h4, h5⟩, gh, s, r, h6⟩ := h
    have hcell : ∀ a : Addr, a.block ≠ Wg → w'.cell? a = w.cell? a := fun a ha => cell_block (ht.block _ ha)
    have shape : ∀ (b : Nat) (o : Obj), w.heap[b]? = some o → ∃ o₁, w'.heap[b]? = some o₁ ∧ Alike o o₁ := fun b o ho => by
      by_cases e : b = Wg
      · subst e; exact hal o ho
      · exact ⟨o, (ht.block b e).trans ho, .refl o⟩
    refine ⟨⟨⟨h1.trans ⟨Nat.le_of_eq ht.size.symm, ht.tape, ht.os, ht.output, shape, fun a ha => ?_, fun b o ho hn ha => ?_⟩, h2, h3, h4.app fun op hop => (hu op hop).2.1, h5⟩, gh, s, r, h6.ext hO.wf (ht.block _ hO.cW) (fun k hk => hcell _ (hO.lW k hk)) (hcell _ hO.oW) (fun k hk _ => hcell _ hO.nW) (fun _ _ _ _ h => h) (fun _ _ => rfl) (fun _ _ => rfl) fun op hop b hb => ?_⟩, fun j _ _ => ⟨fun hsh => ?_, fun r0 hr0 => ?_⟩⟩
    · have hx : X (.cell a) := ha.elim False.elim id
      exact hcell a fun e => (hO.XW _ hx).1 ⟨a.off, a.spot, by subst e; rfl⟩
    · have hx : X (.obj b) := ha.elim False.elim id
      exact (ht.block b fun e => (hO.XW _ hx).2 (by rw [e])).trans ho
    · obtain ⟨o, sp, hb2⟩ := (hu op hop).2.2 b hb
      refine ⟨fun k hk e => ?_, fun k hk _ e => ?_, fun k hk _ e => ?_⟩
      · rw [e] at hb2; exact hO.lW k hk (by have := congrArg (fun l => match l with | Loc.cell a => a.block | _ => 0) hb2; exact this)
      · rw [e] at hb2; exact absurd (by have := congrArg (fun l => match l with | Loc.cell a => a.block | _ => 0) hb2; exact this) hO.nW
      · rw [e] at hb2; exact absurd (by have := congrArg (fun l => match l with | Loc.cell a => a.block | _ => 0) hb2; exact this) hO.nW
    · obtain ⟨s', r', h7⟩ := hsh
      exact ⟨s', r', (ht.block _ hO.cW).trans h7⟩
    · exact hr0.chan (ht.block _ hO.cW)
  leave n T K w t i x h hl hi hTi hq := by
    obtain ⟨h1, gh, s, r, h6⟩ := h
    obtain ⟨rfl, s1, r1, hc⟩ := hq
    refine ⟨h1, gh, s, r, h6.leave hTi ?_⟩
    rw [h6.ch] at hc
    simp only [Option.some.injEq, Obj.chan.injEq] at hc
    exact hc.2.2.1
  live n T K w t h hl hex := by
    obtain ⟨h1, gh, s, r, h6⟩ := h
    by_cases hm : ChanMt w M.c
    · obtain ⟨cap, s', r', tm, hm⟩ := hm
      rw [h6.ch] at hm
      simp only [Option.some.injEq, Obj.chan.injEq] at hm
      obtain ⟨i, hi, hT, hT2⟩ := h6.ga.live hO.wf hO.back (by
        have := congrArg Array.size hm.2.1
        simp at this
        exact this) hm.2.2.1
      exact ⟨i, hi, hT, fun x hx c hid => by obtain ⟨rfl, _⟩ := hid; exact absurd hx hT2⟩
    · obtain ⟨i, hi, hT⟩ := hex
      exact ⟨i, hi, hT, fun x _ c hid => by obtain ⟨_, rfl⟩ := hid; exact hm⟩
  noC n T K w t i j x c h hi _ _ hid := by
    obtain ⟨h1, gh, s, r, h6⟩ := h
    obtain ⟨_, rfl⟩ := hid
    exact (h6.noC i hi).1
  swap _ n T K w t a b x y _ h hg ha hb hx hy hb2 hx2 := by
    obtain ⟨⟨h1, h2, h3, h4, h5⟩, gh, s, r, h6⟩ := h
    refine ⟨⟨h1, h2, h3, fun op hop a' => h4 op ?_ a', h5⟩, gh, s, r, h6.swap ha hb hx hy hg hb2 hx2⟩
    rcases Array.mem_append.1 hop with q | q
    · exact Array.mem_append_left _ q
    · refine Array.mem_append_right _ ?_
      simp only [List.mem_toArray, List.mem_cons, List.not_mem_nil, or_false] at q ⊢
      rcases q with q | q | q | q
      · exact .inl q
      · exact .inr (.inr (.inl q))
      · exact .inr (.inl q)
      · exact .inr (.inr (.inr q))
end
end Go.Proofs.Yticdjkkcfdbdcaa
