/- The reference's order of letters, plain. No program. -/
import Derived.Test.YticdjkkcfdbdcaaAcA
namespace Go.Proofs.Yticdjkkcfdbdcaa
structure SentR where
  x : LetR
  when_ : Int
  by_ : Int
  no : Int
/-- Does one come ahead of another one? -/
def soonerR (a b : SentR) : Prop :=
  a.x.time < b.x.time ∨ (a.x.time = b.x.time ∧ (a.x.to < b.x.to ∨ (a.x.to = b.x.to ∧ (a.when_ < b.when_ ∨ (a.when_ = b.when_ ∧ (a.by_ < b.by_ ∨ (a.by_ = b.by_ ∧ a.no < b.no)))))))
instance (a b : SentR) : Decidable (soonerR a b) := inferInstanceAs (Decidable (_ ∨ _))
theorem soonerR.irrefl (a : SentR) : ¬ soonerR a a := fun h => by unfold soonerR at h; omega
theorem soonerR.trans {a b c : SentR} (h : soonerR a b) (h' : soonerR b c) : soonerR a c := by unfold soonerR at *; omega
/-- What is left when one is taken out and the last put in its place. -/
theorem swap_out {l : List SentR} {f : Nat} (hf : f < l.length) : (l[f] :: (l.set f (l[l.length - 1]'(by omega))).dropLast).Perm l := by
  by_cases e : f = l.length - 1
  · subst e
    rw [List.set_getElem_self]
    have hne : l ≠ [] := fun h => by subst h; simp at hf
    have : l.dropLast ++ [l[l.length - 1]] = l := by
      rw [← List.getLast_eq_getElem hne]; exact List.dropLast_concat_getLast hne
    calc (l[l.length - 1] :: l.dropLast).Perm (l.dropLast ++ [l[l.length - 1]]) := (List.perm_append_singleton _ _).symm
      _ = l := this
  · have hne : l ≠ [] := fun h => by subst h; simp at hf
    have hd : l.dropLast ++ [l[l.length - 1]] = l := by
      rw [← List.getLast_eq_getElem hne]; exact List.dropLast_concat_getLast hne
    have hfd : f < l.dropLast.length := by rw [List.length_dropLast]; omega
    have h1 : (l.set f (l[l.length - 1]'(by omega))).dropLast = l.dropLast.set f (l[l.length - 1]'(by omega)) := by
      apply List.ext_getElem
      · simp
      · intro i a b
        simp [List.getElem_set]
    have hget : l[f] = l.dropLast[f] := by simp
    rw [h1, hget]
    generalize l[l.length - 1]'(by omega) = z at hd
    generalize l.dropLast = m at hd hfd
    rw [← hd]
    have h2 : (m[f] :: m.set f z).Perm (z :: m) := by
      clear hd h1 hget hf e hne
      induction m generalizing f with
      | nil => simp at hfd
      | cons y m ih =>
        cases f with
        | zero => exact List.Perm.swap _ _ _
        | succ f =>
          have := ih (f := f) (by simpa using hfd)
          simp only [List.getElem_cons_succ, List.set_cons_succ]
          exact (List.Perm.swap _ _ _).trans ((this.cons y).trans (List.Perm.swap _ _ _))
    exact h2.trans (List.perm_append_singleton _ _).symm
end Go.Proofs.Yticdjkkcfdbdcaa

/- What is still to come, in order, plain. No program. -/
namespace Go.Proofs.Yticdjkkcfdbdcaa
abbrev ComeS := Nat → Int → List SentR
def ComeS.add (c : ComeS) (y : SentR) : ComeS := fun i t => if (i : Int) = y.x.to ∧ t = y.x.time then c i t ++ [y] else c i t
/-- All that comes at a time, actor by actor, from one actor on. -/
def pendT (c : ComeS) (n i : Nat) (t : Int) : List SentR := ((List.range (n - i)).map (i + ·)).flatMap fun j => c j t
/-- All that comes from a time on, so many times. -/
def pendA (c : ComeS) (n : Nat) : Int → Nat → List SentR
  | _, 0 => []
  | t, k + 1 => pendT c n 0 t ++ pendA c n (t + 1) k
theorem pendT_succ (c : ComeS) {n i : Nat} (h : i < n) (t : Int) : pendT c n i t = c i t ++ pendT c n (i + 1) t := by
  unfold pendT
  obtain ⟨m, hm⟩ : ∃ m, n - i = m + 1 := ⟨n - i - 1, by omega⟩
  rw [hm, show n - (i + 1) = m by omega, List.range_succ_eq_map, List.map_cons, List.flatMap_cons, List.map_map]
  simp only [Nat.add_zero]
  congr 2
  refine List.map_congr_left fun j _ => ?_
  simp only [Function.comp]
  omega
theorem pendT_end (c : ComeS) (n : Nat) (t : Int) : pendT c n n t = [] := by simp [pendT]
theorem pendT_add_other (c : ComeS) (y : SentR) (n i : Nat) {t : Int} (h : t ≠ y.x.time) : pendT (c.add y) n i t = pendT c n i t := by
  unfold pendT
  congr 1
  funext j
  exact if_neg fun e => h e.2
theorem pendT_add (c : ComeS) (y : SentR) (n : Nat) : ∀ (k i : Nat), n - i = k → (y.x.to < (i : Int) → (pendT (c.add y) n i y.x.time) = pendT c n i y.x.time) ∧
    ((i : Int) ≤ y.x.to → y.x.to < n → (pendT (c.add y) n i y.x.time).Perm (pendT c n i y.x.time ++ [y]))
  | 0, i, hk => ⟨fun _ => by simp [pendT, hk], fun h1 h2 => absurd hk (by omega)⟩
  | k + 1, i, hk => by
    have hi : i < n := by omega
    obtain ⟨q1, q2⟩ := pendT_add c y n k (i + 1) (by omega)
    rw [pendT_succ (c.add y) hi, pendT_succ c hi]
    refine ⟨fun h => ?_, fun h1 h2 => ?_⟩
    · rw [q1 (by omega)]
      congr 1
      exact if_neg fun e => by have := e.1; omega
    · by_cases e : (i : Int) = y.x.to
      · rw [q1 (by omega), show c.add y i y.x.time = c i y.x.time ++ [y] from if_pos ⟨e, rfl⟩, List.append_assoc, List.append_assoc]
        exact List.Perm.append_left _ List.perm_append_comm
      · rw [show c.add y i y.x.time = c i y.x.time from if_neg fun h => e h.1, List.append_assoc]
        exact (q2 (by omega) h2).append_left _
theorem pendA_add (c : ComeS) (y : SentR) (n : Nat) (h0 : 0 ≤ y.x.to) (hn : y.x.to < n) : ∀ (k : Nat) (t : Int), (y.x.time < t → pendA (c.add y) n t k = pendA c n t k) ∧
    (t ≤ y.x.time → y.x.time < t + k → (pendA (c.add y) n t k).Perm (pendA c n t k ++ [y])) ∧ (t + k ≤ y.x.time → pendA (c.add y) n t k = pendA c n t k)
  | 0, t => ⟨fun _ => rfl, fun h1 h2 => absurd h2 (by omega), fun _ => rfl⟩
  | k + 1, t => by
    obtain ⟨q1, q2, q3⟩ := pendA_add c y n h0 hn k (t + 1)
    simp only [pendA]
    refine ⟨fun h => ?_, fun h1 h2 => ?_, fun h => ?_⟩
    · rw [q1 (by omega), pendT_add_other c y n 0 (by omega)]
    · by_cases e : t = y.x.time
      · subst e
        rw [q1 (by omega), List.append_assoc]
        refine (((pendT_add c y n n 0 (by omega)).2 (by omega) hn).append_right _).trans ?_
        rw [List.append_assoc]
        exact List.Perm.append_left _ List.perm_append_comm
      · rw [pendT_add_other c y n 0 e, List.append_assoc]
        exact (q2 (by omega) (by omega)).append_left _
    · rw [q3 (by omega), pendT_add_other c y n 0 (by omega)]
theorem pendT_mem {c : ComeS} {n i : Nat} {t : Int} {p : SentR} (h : p ∈ pendT c n i t) : ∃ j, i ≤ j ∧ j < n ∧ p ∈ c j t := by
  unfold pendT at h
  obtain ⟨j, hj, hp⟩ := List.mem_flatMap.1 h
  obtain ⟨m, hm, rfl⟩ := List.mem_map.1 hj
  have := List.mem_range.1 hm
  exact ⟨i + m, by omega, by omega, hp⟩
theorem pendA_mem {c : ComeS} {n : Nat} {p : SentR} : ∀ {k : Nat} {t : Int}, p ∈ pendA c n t k → ∃ j s, j < n ∧ t ≤ s ∧ s < t + k ∧ p ∈ c j s
  | 0, _, h => by cases h
  | k + 1, t, h => by
    rcases List.mem_append.1 h with h | h
    · obtain ⟨j, _, h2, h3⟩ := pendT_mem h
      exact ⟨j, t, h2, by omega, by omega, h3⟩
    · obtain ⟨j, s, h1, h2, h3, h4⟩ := pendA_mem h
      exact ⟨j, s, h1, by omega, by omega, h4⟩
/-- What is to come lies in order; all of it was sent up to a time, at that time by actors up to one. -/
structure WFc (c : ComeS) (t b no : Int) : Prop where
  sorted : ∀ j s, (c j s).Pairwise soonerR
  place : ∀ j s, ∀ p ∈ c j s, p.x.time = s ∧ p.x.to = (j : Int) ∧ (p.when_ < t ∨ (p.when_ = t ∧ p.by_ ≤ b)) ∧ p.no < no
theorem WFc.later {c : ComeS} {t b no t' b' no' : Int} (h : WFc c t b no) (hl : t < t' ∨ (t = t' ∧ b ≤ b')) (hn : no ≤ no') : WFc c t' b' no' :=
  ⟨h.sorted, fun j s p hp => by
    obtain ⟨h1, h2, h3, h4⟩ := h.place j s p hp
    exact ⟨h1, h2, by omega, by omega⟩⟩
theorem WFc.add {c : ComeS} {t b no : Int} (h : WFc c t b no) {y : SentR} (hw : y.when_ = t) (hb : y.by_ = b) (hn : y.no = no) : WFc (c.add y) t b (no + 1) where
  sorted := fun j s => by
    unfold ComeS.add
    split
    · rename_i e
      refine List.pairwise_append.2 ⟨h.sorted j s, List.pairwise_singleton _ _, fun p hp q hq => ?_⟩
      obtain rfl := List.mem_singleton.1 hq
      obtain ⟨h1, h2, h3, h4⟩ := h.place j s p hp
      unfold soonerR
      omega
    · exact h.sorted j s
  place := fun j s p hp => by
    unfold ComeS.add at hp
    split at hp
    · rename_i e
      rcases List.mem_append.1 hp with hp | hp
      · obtain ⟨h1, h2, h3, h4⟩ := h.place j s p hp
        exact ⟨h1, h2, h3, by omega⟩
      · obtain rfl := List.mem_singleton.1 hp
        exact ⟨e.2.symm, e.1.symm, by omega, by omega⟩
    · obtain ⟨h1, h2, h3, h4⟩ := h.place j s p hp
      exact ⟨h1, h2, h3, by omega⟩
theorem WFc.pendT {c : ComeS} {t b no : Int} (h : WFc c t b no) (n : Nat) (s : Int) : ∀ (k i : Nat), n - i = k → (pendT c n i s).Pairwise soonerR
  | 0, i, hk => by
    have : Go.Proofs.Yticdjkkcfdbdcaa.pendT c n i s = [] := by simp [Go.Proofs.Yticdjkkcfdbdcaa.pendT, hk]
    rw [this]; exact List.Pairwise.nil
  | k + 1, i, hk => by
    rw [pendT_succ c (by omega)]
    refine List.pairwise_append.2 ⟨h.sorted i s, WFc.pendT h n s k (i + 1) (by omega), fun p hp q hq => ?_⟩
    obtain ⟨j, hj, _, hq'⟩ := pendT_mem hq
    obtain ⟨h1, h2, _⟩ := h.place i s p hp
    obtain ⟨g1, g2, _⟩ := h.place j s q hq'
    unfold soonerR
    omega
theorem WFc.pendA {c : ComeS} {t b no : Int} (h : WFc c t b no) (n : Nat) : ∀ (k : Nat) (s : Int), (pendA c n s k).Pairwise soonerR
  | 0, _ => List.Pairwise.nil
  | k + 1, s => by
    refine List.pairwise_append.2 ⟨h.pendT n s n 0 (by omega), WFc.pendA h n k (s + 1), fun p hp q hq => ?_⟩
    obtain ⟨j, _, _, hp'⟩ := pendT_mem hp
    obtain ⟨j', s', _, hs, _, hq'⟩ := pendA_mem hq
    obtain ⟨h1, _⟩ := h.place j s p hp'
    obtain ⟨g1, _⟩ := h.place j' s' q hq'
    unfold soonerR
    omega
/-- What is to come from within an actor's letters of a time on. -/
def pendR (c : ComeS) (n i : Nat) (t : Int) (k : Nat) (rest : List SentR) : List SentR := rest ++ (pendT c n (i + 1) t ++ pendA c n (t + 1) k)
theorem WFc.pendR {c : ComeS} {t b no : Int} (h : WFc c t b no) {n i : Nat} {s : Int} {k : Nat} {rest : List SentR} (hr : ∃ d, rest = (c i s).drop d) : (pendR c n i s k rest).Pairwise soonerR := by
  obtain ⟨d, rfl⟩ := hr
  refine List.pairwise_append.2 ⟨(h.sorted i s).drop, List.pairwise_append.2 ⟨h.pendT n s _ (i + 1) rfl, h.pendA n k (s + 1), fun p hp q hq => ?_⟩, fun p hp q hq => ?_⟩
  · obtain ⟨j, _, _, hp'⟩ := pendT_mem hp
    obtain ⟨j', s', _, hs, _, hq'⟩ := pendA_mem hq
    obtain ⟨h1, _⟩ := h.place j s p hp'
    obtain ⟨g1, _⟩ := h.place j' s' q hq'
    unfold soonerR
    omega
  · obtain ⟨h1, h2, _⟩ := h.place i s p (List.mem_of_mem_drop hp)
    rcases List.mem_append.1 hq with hq | hq
    · obtain ⟨j, hj, _, hq'⟩ := pendT_mem hq
      obtain ⟨g1, g2, _⟩ := h.place j s q hq'
      unfold soonerR
      omega
    · obtain ⟨j', s', _, hs, _, hq'⟩ := pendA_mem hq
      obtain ⟨g1, _⟩ := h.place j' s' q hq'
      unfold soonerR
      omega
end Go.Proofs.Yticdjkkcfdbdcaa

/- The reference picks what is first in order, plain. No program. -/
namespace Go.Proofs.Yticdjkkcfdbdcaa
/-- What matters up to an end. -/
def upTo (E : Int) (l : List SentR) : List SentR := l.filter fun p => decide (p.x.time ≤ E)
theorem pick_head {P l : List SentR} {p : SentR} {E : Int} (hs : (p :: P).Pairwise soonerR) (hp : (upTo E l).Perm (p :: P)) {f : Nat} (hf : f < l.length) (hmin : ∀ (i : Nat) (h : i < l.length), ¬ soonerR l[i] l[f]) : l[f] = p := by
  have h2 : p ∈ upTo E l := hp.symm.subset (List.mem_cons_self ..)
  obtain ⟨h3, h4⟩ := List.mem_filter.1 h2
  have h4 : p.x.time ≤ E := of_decide_eq_true h4
  obtain ⟨i, hi, e⟩ := List.getElem_of_mem h3
  have hm := hmin i hi
  rw [e] at hm
  by_cases hr : l[f].x.time ≤ E
  · have h5 : l[f] ∈ p :: P := hp.subset (List.mem_filter.2 ⟨List.getElem_mem hf, decide_eq_true hr⟩)
    rcases List.mem_cons.1 h5 with h | h
    · exact h
    · exact absurd ((List.pairwise_cons.1 hs).1 _ h) hm
  · exact absurd (.inl (by omega)) hm
/-- The first taken out, the last put in its place. -/
def outR (l : List SentR) (f : Nat) (h : f < l.length) : List SentR := (l.set f (l[l.length - 1]'(by omega))).dropLast
theorem out_upTo {P l : List SentR} {p : SentR} {E : Int} (hp : (upTo E l).Perm (p :: P)) {f : Nat} (hf : f < l.length) (he : l[f] = p) (ht : p.x.time ≤ E) : (upTo E (outR l f hf)).Perm P := by
  have h1 : (upTo E (l[f] :: outR l f hf)).Perm (upTo E l) := (swap_out hf).filter _
  have h2 : upTo E (l[f] :: outR l f hf) = p :: upTo E (outR l f hf) := by
    rw [he]; exact List.filter_cons_of_pos (decide_eq_true ht)
  rw [h2] at h1
  exact (h1.trans hp).cons_inv
/-- One that is past the end is taken out without a trace. -/
theorem out_late {l : List SentR} {E : Int} {f : Nat} (hf : f < l.length) (ht : ¬ l[f].x.time ≤ E) : (upTo E (outR l f hf)).Perm (upTo E l) := by
  have h1 : (upTo E (l[f] :: outR l f hf)).Perm (upTo E l) := (swap_out hf).filter _
  have h2 : upTo E (l[f] :: outR l f hf) = upTo E (outR l f hf) := List.filter_cons_of_neg (by simpa using ht)
  rw [h2] at h1
  exact h1
theorem late_first {l : List SentR} {E : Int} {f : Nat} (hf : f < l.length) (hmin : ∀ (i : Nat) (h : i < l.length), ¬ soonerR l[i] l[f]) (h : upTo E l = []) : ¬ l[f].x.time ≤ E := fun ht => by
  have : l[f] ∈ upTo E l := List.mem_filter.2 ⟨List.getElem_mem hf, decide_eq_true ht⟩
  rw [h] at this
  cases this
theorem upTo_add (E : Int) (l : List SentR) (y : SentR) : upTo E (l ++ [y]) = upTo E l ++ (if y.x.time ≤ E then [y] else []) := by
  unfold upTo
  rw [List.filter_append]
  congr 1
  by_cases h : y.x.time ≤ E
  · rw [if_pos h]; simp [h]
  · rw [if_neg h]; simp [h]
/-- A letter sent to a later time joins what is to come. -/
theorem pendR_add (c : ComeS) (y : SentR) {n : Nat} (h0 : 0 ≤ y.x.to) (hn : y.x.to < n) (i : Nat) {t : Int} (ht : t < y.x.time) (k : Nat) (rest : List SentR) :
    (pendR (c.add y) n i t k rest).Perm (pendR c n i t k rest ++ (if y.x.time ≤ t + k then [y] else [])) := by
  unfold pendR
  rw [pendT_add_other c y n (i + 1) (by omega)]
  obtain ⟨_, q2, q3⟩ := pendA_add c y n h0 hn k (t + 1)
  by_cases h : y.x.time ≤ t + k
  · rw [if_pos h, List.append_assoc, List.append_assoc]
    exact ((q2 (by omega) (by omega)).append_left _).append_left _
  · rw [if_neg h, q3 (by omega), List.append_nil]
/-- ONE LETTER: the reference's todo goes with what is to come. -/
theorem step_letter {l : List SentR} {c : ComeS} {n i : Nat} {t : Int} {k : Nat} {p : SentR} {rest : List SentR} (hp : (upTo (t + k) l).Perm (pendR c n i t k (p :: rest))) {f : Nat} (hf : f < l.length) (he : l[f] = p) (ht : p.x.time = t) :
    (upTo (t + k) (outR l f hf)).Perm (pendR c n i t k rest) ∧ ∀ y : SentR, 0 ≤ y.x.to → y.x.to < n → t < y.x.time → (upTo (t + k) (outR l f hf ++ [y])).Perm (pendR (c.add y) n i t k rest) := by
  have h1 : (upTo (t + k) (outR l f hf)).Perm (pendR c n i t k rest) := out_upTo hp hf he (by omega)
  refine ⟨h1, fun y h0 hn hy => ?_⟩
  rw [upTo_add]
  exact (h1.append_right _).trans (pendR_add c y h0 hn i hy k rest).symm
end Go.Proofs.Yticdjkkcfdbdcaa

/- An actor's letters one by one (the reference) and all at once (the program), plain. No program. -/
namespace Go.Proofs.Yticdjkkcfdbdcaa
def strip (c : ComeS) : Come := fun i t => (c i t).map (·.x)
theorem strip_add (c : ComeS) (y : SentR) : strip (c.add y) = (strip c).add y.x := by
  funext i t
  unfold strip ComeS.add Come.add
  split <;> simp
/-- Letter by letter: what is sent joins what is to come. -/
def procS (rs : List RuleR) (t : Int) (i : Nat) : Int → ComeS → Int → List SentR → Int × ComeS × Int
  | num, c, no, [] => (num, c, no)
  | num, c, no, p :: l => match takeR rs num p.x with
    | (m, none) => procS rs t i m c no l
    | (m, some y) => procS rs t i m (c.add ⟨y, t, i, no⟩) (no + 1) l
theorem procS_at (rs : List RuleR) (t : Int) (i : Nat) : ∀ (l : List SentR) (num : Int) (c : ComeS) (no : Int),
    (procS rs t i num c no l).1 = (atR rs num (l.map (·.x))).1 ∧ strip (procS rs t i num c no l).2.1 = (strip c).addAll (atR rs num (l.map (·.x))).2
  | [], num, c, no => ⟨rfl, rfl⟩
  | p :: l, num, c, no => by
    simp only [procS, List.map_cons, atR]
    cases h : takeR rs num p.x with
    | mk m o =>
      cases o with
      | none =>
        obtain ⟨h1, h2⟩ := procS_at rs t i l m c no
        exact ⟨h1, by simpa using h2⟩
      | some y =>
        obtain ⟨h1, h2⟩ := procS_at rs t i l m (c.add ⟨y, t, i, no⟩) (no + 1)
        refine ⟨h1, ?_⟩
        rw [strip_add] at h2
        simpa [Come.addAll] using h2
/-- What is sent is for later times: what comes now stays. -/
theorem procS_now {rs : List RuleR} {n : Nat} (hr : ∀ r ∈ rs, ruleOk n r) {t : Int} {i : Nat} : ∀ (l : List SentR) (num : Int) (c : ComeS) (no : Int), (∀ p ∈ l, p.x.time = t) → ∀ j, (procS rs t i num c no l).2.1 j t = c j t
  | [], _, _, _, _, _ => rfl
  | p :: l, num, c, no, ht, j => by
    simp only [procS]
    cases h : takeR rs num p.x with
    | mk m o =>
      cases o with
      | none => exact procS_now hr l m c no (fun q hq => ht q (List.mem_cons_of_mem _ hq)) j
      | some y =>
        have hy := takeR_later hr (x := p.x) (y := y) (num := num) (by rw [h])
        rw [ht p (List.mem_cons_self ..)] at hy
        refine (procS_now hr l m _ _ (fun q hq => ht q (List.mem_cons_of_mem _ hq)) j).trans ?_
        exact if_neg fun e => by have := e.2; simp only at this; omega
theorem procS_wf {rs : List RuleR} {t : Int} {i : Nat} : ∀ (l : List SentR) (num : Int) (c : ComeS) (no : Int), WFc c t i no → WFc (procS rs t i num c no l).2.1 t i (procS rs t i num c no l).2.2 ∧ no ≤ (procS rs t i num c no l).2.2
  | [], _, _, _, h => ⟨h, Int.le_refl _⟩
  | p :: l, num, c, no, h => by
    simp only [procS]
    cases takeR rs num p.x with
    | mk m o =>
      cases o with
      | none => exact procS_wf l m c no h
      | some y =>
        obtain ⟨h1, h2⟩ := procS_wf l m _ _ (h.add (y := ⟨y, t, i, no⟩) rfl rfl rfl)
        exact ⟨h1, Int.le_trans (by omega) h2⟩
end Go.Proofs.Yticdjkkcfdbdcaa

/- All actors of a time, one behind the other, plain. No program. -/
namespace Go.Proofs.Yticdjkkcfdbdcaa
/-- Actor i's turn. -/
def actS (R : List (List RuleR)) (t : Int) (i : Nat) (s : List Int × ComeS × Int) : List Int × ComeS × Int :=
  let r := procS (R.getD i []) t i (s.1.getD i 0) s.2.1 s.2.2 (s.2.1 i t)
  (s.1.set i r.1, r.2.1, r.2.2)
/-- So many actors' turns. -/
def timeS (R : List (List RuleR)) (t : Int) : Nat → List Int × ComeS × Int → List Int × ComeS × Int
  | 0, s => s
  | i + 1, s => actS R t i (timeS R t i s)
theorem timeS_is {R : List (List RuleR)} (hr : ∀ rs ∈ R, ∀ r ∈ rs, ruleOk R.length r) {t : Int} {nums : List Int} {c : ComeS} {no : Int} (hw : WFc c t (-1) no) : ∀ (i : Nat), i ≤ nums.length →
    (∀ j, (timeS R t i (nums, c, no)).1[j]? = if j < i then (nums[j]?).map (fun n => (atR (R.getD j []) n (strip c j t)).1) else nums[j]?) ∧
    (∀ j, (timeS R t i (nums, c, no)).2.1 j t = c j t) ∧
    strip (timeS R t i (nums, c, no)).2.1 = (strip c).addAll ((List.range i).flatMap fun j => (atR (R.getD j []) (nums.getD j 0) (strip c j t)).2) ∧
    WFc (timeS R t i (nums, c, no)).2.1 t ((i : Int) - 1) (timeS R t i (nums, c, no)).2.2
  | 0, _ => ⟨fun j => by simp [timeS], fun j => rfl, rfl, hw⟩
  | i + 1, hi => by
    obtain ⟨h1, h2, h3, h4⟩ := timeS_is (nums := nums) hr hw i (by omega)
    have hri : ∀ r ∈ R.getD i [], ruleOk R.length r := fun r h => by
      rw [List.getD_eq_getElem?_getD] at h
      by_cases e : i < R.length
      · rw [List.getElem?_eq_getElem e] at h; exact hr _ (List.getElem_mem e) r h
      · rw [List.getElem?_eq_none (show R.length ≤ i by omega)] at h; cases h
    have hni : (timeS R t i (nums, c, no)).1.getD i 0 = nums.getD i 0 := by
      rw [List.getD_eq_getElem?_getD, List.getD_eq_getElem?_getD, h1 i, if_neg (Nat.lt_irrefl i)]
    have hlen : (timeS R t i (nums, c, no)).1.length = nums.length := by
      refine Nat.le_antisymm (Nat.le_of_not_lt fun h => ?_) (Nat.le_of_not_lt fun h => ?_)
      · have := h1 nums.length
        rw [List.getElem?_eq_getElem h, if_neg (by omega)] at this
        simp at this
      · have := h1 (timeS R t i (nums, c, no)).1.length
        rw [List.getElem?_eq_none (Nat.le_refl _), List.getElem?_eq_getElem h] at this
        split at this <;> simp at this
    simp only [timeS, actS]
    rw [hni, h2 i]
    generalize hS : timeS R t i (nums, c, no) = s at *
    obtain ⟨ns, c1, no1⟩ := s
    simp only at h1 h2 h3 h4 hlen ⊢
    obtain ⟨q1, q2⟩ := procS_at (R.getD i []) t i (c i t) (nums.getD i 0) c1 no1
    have q3 := procS_now hri (t := t) (i := i) (c i t) (nums.getD i 0) c1 no1 (fun p hp => (hw.place i t p hp).1)
    obtain ⟨q4, _⟩ := procS_wf (rs := R.getD i []) (t := t) (i := i) (c i t) (nums.getD i 0) c1 no1 (h4.later (.inr ⟨rfl, by omega⟩) (Int.le_refl _))
    refine ⟨fun j => ?_, fun j => (q3 j).trans (h2 j), ?_, by rw [show ((i + 1 : Nat) : Int) - 1 = (i : Int) by omega]; exact q4⟩
    · rw [List.getElem?_set, q1]
      by_cases e : i = j
      · subst e
        have hin : i < nums.length := by omega
        have hg : nums.getD i 0 = nums[i] := by rw [List.getD_eq_getElem?_getD, List.getElem?_eq_getElem hin]; rfl
        rw [if_pos rfl, if_pos (by omega), if_pos (by omega), List.getElem?_eq_getElem hin, Option.map_some, hg]
        rfl
      · rw [if_neg e, h1 j]
        by_cases e2 : j < i
        · rw [if_pos e2, if_pos (by omega)]
        · rw [if_neg e2, if_neg (by omega)]
    · rw [q2, h3, List.range_succ, List.flatMap_append, Come.addAll_append]
      simp only [List.flatMap_cons, List.flatMap_nil, List.append_nil]
      rfl
/-- All turns of a time are what the program makes of it. -/
theorem timeS_time {R : List (List RuleR)} (hr : ∀ rs ∈ R, ∀ r ∈ rs, ruleOk R.length r) {t : Int} {nums : List Int} {c : ComeS} {no : Int} (hw : WFc c t (-1) no) :
    (timeS R t nums.length (nums, c, no)).1 = (timeR R (strip c) t nums).1 ∧ strip (timeS R t nums.length (nums, c, no)).2.1 = (strip c).addAll (timeR R (strip c) t nums).2 := by
  obtain ⟨h1, _, h3, _⟩ := timeS_is (nums := nums) hr hw nums.length (Nat.le_refl _)
  refine ⟨List.ext_getElem? fun j => ?_, ?_⟩
  · rw [h1 j]
    simp only [timeR, List.getElem?_map, List.getElem?_mapIdx]
    by_cases e : j < nums.length
    · rw [if_pos e, List.getElem?_eq_getElem e]; rfl
    · rw [if_neg e, List.getElem?_eq_none (by omega)]; rfl
  · rw [h3]
    congr 1
    simp only [timeR, List.flatMap_def]
    congr 1
    refine List.ext_getElem? fun j => ?_
    simp only [List.getElem?_map, List.getElem?_mapIdx]
    by_cases e : j < nums.length
    · rw [List.getElem?_range e, List.getElem?_eq_getElem e]
      simp [List.getD_eq_getElem?_getD, List.getElem?_eq_getElem e]
    · rw [List.getElem?_eq_none (by simpa using e), List.getElem?_eq_none (by omega)]; rfl
/-- The program's way, time by time: so many times from one on; none: too many letters. -/
def runA (R : List (List RuleR)) : Nat → Int → List Int → Come → List LetR → Option (List Int × List LetR)
  | 0, _, nums, _, log => some (nums, log)
  | k + 1, t, nums, c, log =>
    let log' := log ++ logR R.length c t
    if 100000 < log'.length then none else
    let r := timeR R c t nums
    runA R k (t + 1) r.1 (c.addAll r.2) log'
end Go.Proofs.Yticdjkkcfdbdcaa

/- The reference's way, letter by letter, plain. No program. -/
namespace Go.Proofs.Yticdjkkcfdbdcaa
/-- f is the place of a first one. -/
def IsFirst (l : List SentR) (f : Nat) : Prop := ∃ h : f < l.length, ∀ (i : Nat) (hi : i < l.length), ¬ soonerR l[i] (l[f]'h)
/-- What the reference comes to: numbers and log; none: too many letters. -/
inductive RefRun (R : List (List RuleR)) (E : Int) : List SentR → List Int → Int → List LetR → Option (List Int × List LetR) → Prop
  | done {nums : List Int} {no : Int} {log : List LetR} : RefRun R E [] nums no log (some (nums, log))
  | late {l : List SentR} {nums : List Int} {no : Int} {log : List LetR} {res : Option (List Int × List LetR)} {f : Nat} (hf : f < l.length) (h1 : IsFirst l f) (h2 : E < l[f].x.time) (h3 : RefRun R E (outR l f hf) nums no log res) : RefRun R E l nums no log res
  | large {l : List SentR} {nums : List Int} {no : Int} {log : List LetR} {f : Nat} (hf : f < l.length) (h1 : IsFirst l f) (h2 : l[f].x.time ≤ E) (h3 : 100000 < log.length + 1) : RefRun R E l nums no log none
  | quiet {l : List SentR} {nums : List Int} {no : Int} {log : List LetR} {res : Option (List Int × List LetR)} {f : Nat} {m : Int} (hf : f < l.length) (h1 : IsFirst l f) (h2 : l[f].x.time ≤ E) (h3 : log.length + 1 ≤ 100000)
      (h4 : takeR (R.getD l[f].x.to.toNat []) (nums.getD l[f].x.to.toNat 0) l[f].x = (m, none)) (h5 : RefRun R E (outR l f hf) (nums.set l[f].x.to.toNat m) no (log ++ [l[f].x]) res) : RefRun R E l nums no log res
  | send {l : List SentR} {nums : List Int} {no : Int} {log : List LetR} {res : Option (List Int × List LetR)} {f : Nat} {m : Int} {y : LetR} (hf : f < l.length) (h1 : IsFirst l f) (h2 : l[f].x.time ≤ E) (h3 : log.length + 1 ≤ 100000)
      (h4 : takeR (R.getD l[f].x.to.toNat []) (nums.getD l[f].x.to.toNat 0) l[f].x = (m, some y)) (h5 : RefRun R E (outR l f hf ++ [⟨y, l[f].x.time, l[f].x.to, no⟩]) (nums.set l[f].x.to.toNat m) (no + 1) (log ++ [l[f].x]) res) : RefRun R E l nums no log res
/-- Where nothing is to come any more, numbers and log stand. -/
theorem RefRun.over {R : List (List RuleR)} {E : Int} {l : List SentR} {nums : List Int} {no : Int} {log : List LetR} {res : Option (List Int × List LetR)} (h : RefRun R E l nums no log res) (hu : upTo E l = []) : res = some (nums, log) := by
  induction h with
  | done => rfl
  | late hf h1 h2 _ ih =>
    refine ih ?_
    have := out_late hf (E := E) (by omega)
    rw [hu] at this
    exact this.eq_nil
  | large hf h1 h2 h3 => obtain ⟨_, hm⟩ := h1; exact absurd h2 (late_first hf hm hu)
  | quiet hf h1 h2 h3 h4 _ _ => obtain ⟨_, hm⟩ := h1; exact absurd h2 (late_first hf hm hu)
  | send hf h1 h2 h3 h4 _ _ => obtain ⟨_, hm⟩ := h1; exact absurd h2 (late_first hf hm hu)
/-- One letter of the reference's way. -/
theorem RefRun.letter {R : List (List RuleR)} {c : ComeS} {i : Nat} {t : Int} {k : Nat} {p : SentR} {rest l : List SentR} {nums : List Int} {no : Int} {log : List LetR} {res : Option (List Int × List LetR)}
    (h : RefRun R (t + k) l nums no log res) (hp : (upTo (t + k) l).Perm (pendR c R.length i t k (p :: rest))) (hs : (pendR c R.length i t k (p :: rest)).Pairwise soonerR) (ht : p.x.time = t) (hi : p.x.to = (i : Int)) (hr : ∀ r ∈ R.getD i [], ruleOk R.length r) :
    (100000 < log.length + 1 ∧ res = none) ∨ (log.length + 1 ≤ 100000 ∧ ∃ l', (∃ m, takeR (R.getD i []) (nums.getD i 0) p.x = (m, none) ∧ (upTo (t + k) l').Perm (pendR c R.length i t k rest) ∧ RefRun R (t + k) l' (nums.set i m) no (log ++ [p.x]) res) ∨
      ∃ l' m y, log.length + 1 ≤ 100000 ∧ takeR (R.getD i []) (nums.getD i 0) p.x = (m, some y) ∧ (upTo (t + k) l').Perm (pendR (c.add ⟨y, t, i, no⟩) R.length i t k rest) ∧ RefRun R (t + k) l' (nums.set i m) (no + 1) (log ++ [p.x]) res) := by
  have hpk : ∀ {f : Nat} (hf : f < l.length), IsFirst l f → l[f] = p := fun hf ⟨_, hm⟩ => pick_head hs hp hf hm
  have hti : p.x.to.toNat = i := by rw [hi]; rfl
  cases h with
  | done =>
    have := hp.symm.subset (show p ∈ pendR c R.length i t k (p :: rest) from List.mem_cons_self ..)
    cases this
  | late hf h1 h2 h3 => have e := hpk hf h1; rw [e, ht] at h2; omega
  | large hf h1 h2 h3 => exact .inl ⟨h3, rfl⟩
  | @quiet _ _ _ _ _ f m hf h1 h2 h3 h4 h5 =>
    have e := hpk hf h1
    rw [e, hti] at h4 h5
    exact .inr ⟨h3, _, .inl ⟨m, h4, (step_letter hp hf e ht).1, h5⟩⟩
  | @send _ _ _ _ _ f m y hf h1 h2 h3 h4 h5 =>
    have e := hpk hf h1
    rw [e, hti, ht, hi] at h5
    rw [e, hti] at h4
    have hy := takeR_later hr (x := p.x) (y := y) (num := nums.getD i 0) (by rw [h4])
    exact .inr ⟨h3, outR l f hf, .inr ⟨_, m, y, h3, h4, (step_letter hp hf e ht).2 ⟨y, t, i, no⟩ hy.2.2.1 hy.2.2.2.1 (by have := hy.1; rw [ht] at this; exact this), h5⟩⟩
end Go.Proofs.Yticdjkkcfdbdcaa

/- The reference's way through an actor's letters of a time, plain. No program. -/
namespace Go.Proofs.Yticdjkkcfdbdcaa
theorem RefRun.actor {R : List (List RuleR)} {i : Nat} {t : Int} {k : Nat} {res : Option (List Int × List LetR)} (hr : ∀ r ∈ R.getD i [], ruleOk R.length r) :
    ∀ (rest : List SentR) {c : ComeS} {l : List SentR} {nums : List Int} {no : Int} {log : List LetR}, i < nums.length → WFc c t i no → (∃ d, rest = (c i t).drop d) →
    RefRun R (t + k) l nums no log res → (upTo (t + k) l).Perm (pendR c R.length i t k rest) → log.length ≤ 100000 →
    (100000 < log.length + rest.length ∧ res = none) ∨ (log.length + rest.length ≤ 100000 ∧ ∃ l', (upTo (t + k) l').Perm (pendR (procS (R.getD i []) t i (nums.getD i 0) c no rest).2.1 R.length i t k []) ∧
      RefRun R (t + k) l' (nums.set i (procS (R.getD i []) t i (nums.getD i 0) c no rest).1) (procS (R.getD i []) t i (nums.getD i 0) c no rest).2.2 (log ++ rest.map (·.x)) res)
  | [], c, l, nums, no, log, hi, hw, hd, h, hp, hl => by
    refine .inr ⟨by simpa using hl, l, hp, ?_⟩
    have : nums.set i (nums.getD i 0) = nums := by
      rw [List.getD_eq_getElem?_getD, List.getElem?_eq_getElem hi]
      exact List.set_getElem_self hi
    simp only [procS, this, List.map_nil, List.append_nil]
    exact h
  | p :: rest, c, l, nums, no, log, hi, hw, hd, h, hp, hl => by
    obtain ⟨d, hd⟩ := hd
    have hmem : p ∈ c i t := List.mem_of_mem_drop (i := d) (hd ▸ List.mem_cons_self ..)
    obtain ⟨ht, hto, _⟩ := hw.place i t p hmem
    have hd' : rest = (c i t).drop (d + 1) := by
      have := congrArg List.tail hd
      simpa [List.tail_drop] using this
    have hset : ∀ m, (nums.set i m).getD i 0 = m := fun m => by
      rw [List.getD_eq_getElem?_getD, List.getElem?_set_self hi]; rfl
    rcases h.letter hp (hw.pendR ⟨d, hd⟩) ht hto hr with ⟨h1, h2⟩ | ⟨h1, l', ⟨m, h2, h3, h4⟩ | ⟨l2, m, y, _, h2, h3, h4⟩⟩
    · exact .inl ⟨by simp only [List.length_cons]; omega, h2⟩
    · have ih := RefRun.actor hr rest (by simpa using hi) hw ⟨d + 1, hd'⟩ h4 h3 (by simpa using h1)
      rw [hset, List.set_set] at ih
      simp only [procS, h2, List.map_cons, List.length_cons]
      rcases ih with ⟨g1, g2⟩ | ⟨g1, l3, g2, g3⟩
      · exact .inl ⟨by simp at g1; omega, g2⟩
      · exact .inr ⟨by simp at g1; omega, l3, g2, by rw [List.append_assoc] at g3; exact g3⟩
    · have hw' := hw.add (y := ⟨y, t, i, no⟩) rfl rfl rfl
      have hy := takeR_later hr (x := p.x) (y := y) (num := nums.getD i 0) (by rw [h2])
      have hci : (c.add ⟨y, t, i, no⟩) i t = c i t := if_neg fun e => by have := e.2; simp only at this; omega
      have ih := RefRun.actor hr rest (by simpa using hi) hw' ⟨d + 1, by rw [hci]; exact hd'⟩ h4 h3 (by simpa using h1)
      rw [hset, List.set_set] at ih
      simp only [procS, h2, List.map_cons, List.length_cons]
      rcases ih with ⟨g1, g2⟩ | ⟨g1, l3, g2, g3⟩
      · exact .inl ⟨by simp at g1; omega, g2⟩
      · exact .inr ⟨by simp at g1; omega, l3, g2, by rw [List.append_assoc] at g3; exact g3⟩
end Go.Proofs.Yticdjkkcfdbdcaa

/- The reference's way through a time, plain. No program. -/
namespace Go.Proofs.Yticdjkkcfdbdcaa
/-- What was told by so many actors. -/
def logTo (c : Come) (t : Int) (j : Nat) : List LetR := (List.range j).flatMap fun i => c i t
theorem logTo_succ (c : Come) (t : Int) (j : Nat) : logTo c t (j + 1) = logTo c t j ++ c j t := by
  unfold logTo
  rw [List.range_succ, List.flatMap_append]
  simp
theorem RefRun.actors {R : List (List RuleR)} (hr : ∀ rs ∈ R, ∀ r ∈ rs, ruleOk R.length r) {t : Int} {k : Nat} {res : Option (List Int × List LetR)} {c : ComeS} {l : List SentR} {nums : List Int} {no : Int} {log : List LetR}
    (hw : WFc c t (-1) no) (hn : nums.length = R.length) (h : RefRun R (t + k) l nums no log res) (hp : (upTo (t + k) l).Perm (pendT c R.length 0 t ++ pendA c R.length (t + 1) k)) (hl : log.length ≤ 100000) :
    ∀ (j : Nat), j ≤ R.length → (100000 < log.length + (logTo (strip c) t j).length ∧ res = none) ∨ (log.length + (logTo (strip c) t j).length ≤ 100000 ∧
      ∃ l', (upTo (t + k) l').Perm (pendT (timeS R t j (nums, c, no)).2.1 R.length j t ++ pendA (timeS R t j (nums, c, no)).2.1 R.length (t + 1) k) ∧
        RefRun R (t + k) l' (timeS R t j (nums, c, no)).1 (timeS R t j (nums, c, no)).2.2 (log ++ logTo (strip c) t j) res)
  | 0, _ => .inr ⟨by simpa [logTo] using hl, l, hp, by simpa [logTo, timeS] using h⟩
  | j + 1, hj => by
    rcases RefRun.actors hr hw hn h hp hl j (by omega) with ⟨g1, g2⟩ | ⟨g1, l1, g2, g3⟩
    · exact .inl ⟨by rw [logTo_succ, List.length_append]; omega, g2⟩
    obtain ⟨h1, h2, h3, h4⟩ := timeS_is (nums := nums) hr hw j (by omega)
    have hri : ∀ r ∈ R.getD j [], ruleOk R.length r := fun r h => by
      rw [List.getD_eq_getElem?_getD, List.getElem?_eq_getElem (show j < R.length by omega)] at h
      exact hr _ (List.getElem_mem _) r h
    have hlen : j < (timeS R t j (nums, c, no)).1.length := by
      have := h1 j
      rw [if_neg (Nat.lt_irrefl j), List.getElem?_eq_getElem (show j < nums.length by omega)] at this
      exact (List.getElem?_eq_some_iff.1 this).1
    have hcj := h2 j
    simp only [timeS, actS]
    generalize hS : timeS R t j (nums, c, no) = s at *
    obtain ⟨ns, c1, no1⟩ := s
    simp only at h4 hlen hcj g2 g3 ⊢
    have hpr : (upTo (t + k) l1).Perm (pendR c1 R.length j t k (c1 j t)) := by
      rw [pendT_succ c1 (show j < R.length by omega), List.append_assoc] at g2
      exact g2
    have ha := RefRun.actor (k := k) hri (c1 j t) hlen (h4.later (.inr ⟨rfl, by omega⟩) (Int.le_refl _)) ⟨0, rfl⟩ g3 hpr (by rw [List.length_append]; exact g1)
    have hll : (logTo (strip c) t (j + 1)).length = (logTo (strip c) t j).length + (c1 j t).length := by
      rw [logTo_succ, List.length_append, hcj]
      simp [strip]
    rcases ha with ⟨q1, q2⟩ | ⟨q1, l2, q2, q3⟩
    · exact .inl ⟨by rw [hll]; rw [List.length_append] at q1; omega, q2⟩
    · refine .inr ⟨by rw [hll]; rw [List.length_append] at q1; omega, l2, q2, ?_⟩
      rw [logTo_succ, ← List.append_assoc]
      rw [hcj] at q3 ⊢
      exact q3
end Go.Proofs.Yticdjkkcfdbdcaa

/- THE REFERENCE's WAY IS THE PROGRAM's, plain. No program. -/
namespace Go.Proofs.Yticdjkkcfdbdcaa
theorem RefRun.times {R : List (List RuleR)} (hr : ∀ rs ∈ R, ∀ r ∈ rs, ruleOk R.length r) {res : Option (List Int × List LetR)} :
    ∀ (k : Nat) (t : Int) {c : ComeS} {l : List SentR} {nums : List Int} {no : Int} {log : List LetR}, WFc c t (-1) no → nums.length = R.length → RefRun R (t + k) l nums no log res → (upTo (t + k) l).Perm (pendA c R.length t (k + 1)) → log.length ≤ 100000 →
    res = runA R (k + 1) t nums (strip c) log
  | k, t, c, l, nums, no, log, hw, hn, h, hp, hl => by
    have hlog : logTo (strip c) t R.length = logR R.length (strip c) t := rfl
    obtain ⟨e1, e2⟩ := timeS_time (nums := nums) hr hw
    obtain ⟨_, _, _, hw4⟩ := timeS_is (nums := nums) hr hw nums.length (Nat.le_refl _)
    have hlen : (timeS R t nums.length (nums, c, no)).1.length = R.length := by rw [e1]; simp [timeR, hn]
    rw [hn] at e1 e2 hw4 hlen
    simp only [runA]
    rcases RefRun.actors hr hw hn h hp hl R.length (Nat.le_refl _) with ⟨g1, g2⟩ | ⟨g1, l1, g2, g3⟩
    · rw [if_pos (by rw [List.length_append, ← hlog]; exact g1)]
      exact g2
    · rw [if_neg (by rw [List.length_append, ← hlog]; omega), ← e1, ← e2, ← hlog]
      rw [pendT_end, List.nil_append] at g2
      cases k with
      | zero => exact g3.over g2.eq_nil
      | succ k =>
        have hE : t + ((k + 1 : Nat) : Int) = (t + 1) + (k : Int) := by omega
        rw [hE] at g3 g2
        exact RefRun.times hr k (t + 1) (hw4.later (.inl (by omega)) (Int.le_refl _)) hlen g3 g2 (by rw [List.length_append]; exact g1)
end Go.Proofs.Yticdjkkcfdbdcaa

/- What is to come at the start, plain. No program. -/
namespace Go.Proofs.Yticdjkkcfdbdcaa
def noCome : ComeS := fun _ _ => []
theorem pendA_none (n : Nat) : ∀ (k : Nat) (t : Int), pendA noCome n t k = []
  | 0, _ => rfl
  | k + 1, t => by
    have : pendT noCome n 0 t = [] := by simp [pendT, noCome]
    simp only [pendA, this, pendA_none n k, List.append_nil]
theorem start_fold {n k : Nat} : ∀ (l : List SentR) (c : ComeS), (∀ p ∈ l, 0 ≤ p.x.to ∧ p.x.to < n ∧ 0 ≤ p.x.time) → (pendA (l.foldl ComeS.add c) n 0 (k + 1)).Perm (pendA c n 0 (k + 1) ++ upTo k l)
  | [], c, _ => by simp [upTo]
  | y :: l, c, h => by
    obtain ⟨h1, h2, h3⟩ := h y (List.mem_cons_self ..)
    refine (start_fold l (c.add y) fun p hp => h p (List.mem_cons_of_mem _ hp)).trans ?_
    obtain ⟨_, q2, q3⟩ := pendA_add c y n h1 h2 (k + 1) 0
    unfold upTo
    by_cases e : y.x.time ≤ (k : Int)
    · rw [List.filter_cons_of_pos (by simpa using e)]
      refine ((q2 h3 (by omega)).append_right _).trans ?_
      rw [List.append_assoc]
      exact .refl _
    · rw [List.filter_cons_of_neg (by simpa using e), q3 (by omega)]
theorem start_wf : ∀ (l : List LetR) (c : ComeS) (no : Int), WFc c (-1) (-1) no → ∀ (f : LetR → Int → SentR), (∀ x j, f x j = ⟨x, -1, -1, j⟩) →
    WFc ((l.mapIdx fun j x => f x (no + j)).foldl ComeS.add c) (-1) (-1) (no + l.length)
  | [], c, no, h, f, _ => by simpa using h
  | x :: l, c, no, h, f, hf => by
    have h1 := h.add (y := f x no) (by rw [hf]) (by rw [hf]) (by rw [hf])
    have h2 := start_wf l (c.add (f x no)) (no + 1) h1 f hf
    have e : (l.mapIdx fun j y => f y (no + 1 + (j : Int))) = l.mapIdx fun j y => f y (no + ((j + 1 : Nat) : Int)) := by
      refine List.ext_getElem? fun i => ?_
      simp only [List.getElem?_mapIdx]
      congr 1
      funext y
      congr 1
      omega
    rw [e] at h2
    simp only [List.mapIdx_cons, List.foldl_cons, List.length_cons]
    rw [show no + ((0 : Nat) : Int) = no by omega, show no + ((l.length + 1 : Nat) : Int) = no + 1 + (l.length : Int) by omega]
    exact h2
theorem noCome_wf : WFc noCome (-1) (-1) 0 := ⟨fun _ _ => List.Pairwise.nil, fun _ _ _ h => by cases h⟩
end Go.Proofs.Yticdjkkcfdbdcaa

/- What is to come, the past taken out, plain. No program. -/
namespace Go.Proofs.Yticdjkkcfdbdcaa
/-- What is to come from a time on, some actors done with that time. -/
def cutD (c : Come) (t : Int) (D : List Nat) : Come := fun i s => if s < t ∨ (s = t ∧ i ∈ D) then [] else c i s
theorem cutD_start {c : Come} (h : ∀ i s, s < 0 → c i s = []) : cutD c 0 [] = c := by
  funext i s
  unfold cutD
  split
  · rename_i e
    rcases e with e | ⟨_, e⟩
    · exact (h i s e).symm
    · cases e
  · rfl
theorem cutD_add {c : Come} {t : Int} {D : List Nat} {y : LetR} (h : t < y.time) : (cutD c t D).add y = cutD (c.add y) t D := by
  funext i s
  unfold cutD Come.add
  by_cases e : (i : Int) = y.to ∧ s = y.time
  · have hn : ¬ (s < t ∨ (s = t ∧ i ∈ D)) := by rintro (h2 | ⟨h2, _⟩) <;> omega
    simp only [if_pos e, if_neg hn]
  · simp only [if_neg e]
theorem cutD_del (c : Come) (t : Int) (D : List Nat) (i : Nat) : (fun j s => if j = i ∧ s = t then [] else cutD c t D j s) = cutD c t (i :: D) := by
  funext j s
  unfold cutD
  by_cases e : j = i ∧ s = t
  · rw [if_pos e, if_pos (.inr ⟨e.2, by rw [e.1]; exact List.mem_cons_self ..⟩)]
  · rw [if_neg e]
    by_cases e2 : s < t ∨ (s = t ∧ j ∈ D)
    · rw [if_pos e2, if_pos (e2.imp (fun h => h) fun h => ⟨h.1, List.mem_cons_of_mem _ h.2⟩)]
    · rw [if_neg e2, if_neg]
      rintro (h | ⟨h1, h2⟩)
      · exact e2 (.inl h)
      · rcases List.mem_cons.1 h2 with h2 | h2
        · exact e ⟨h2, h1⟩
        · exact e2 (.inr ⟨h1, h2⟩)
theorem cutD_now (c : Come) (t : Int) (i : Nat) : cutD c t [] i t = c i t := by
  unfold cutD
  rw [if_neg]
  rintro (h | ⟨_, h⟩)
  · omega
  · cases h
end Go.Proofs.Yticdjkkcfdbdcaa

/- How many letters there are, plain. No program. -/
namespace Go.Proofs.Yticdjkkcfdbdcaa
theorem sum_le {f g : Nat → Nat} : ∀ (l : List Nat), (∀ i, f i ≤ g i) → (l.map f).sum ≤ (l.map g).sum
  | [], _ => Nat.le_refl _
  | i :: l, h => by
    have := sum_le l h
    have := h i
    simp only [List.map_cons, List.sum_cons]
    omega
theorem sum_one {f g : Nat → Nat} (k : Nat) (h1 : ∀ i, i ≠ k → f i ≤ g i) (h2 : f k ≤ g k + 1) : ∀ (l : List Nat), l.Nodup → (l.map f).sum ≤ (l.map g).sum + 1
  | [], _ => by simp
  | i :: l, hn => by
    rw [List.nodup_cons] at hn
    simp only [List.map_cons, List.sum_cons]
    by_cases e : i = k
    · subst e
      have : (l.map f).sum ≤ (l.map g).sum := by
        have hl : ∀ j ∈ l, f j ≤ g j := fun j hj => h1 j fun e => hn.1 (e ▸ hj)
        clear hn h1 h2
        induction l with
        | nil => exact Nat.le_refl _
        | cons a l ih =>
          have := ih fun j hj => hl j (List.mem_cons_of_mem _ hj)
          have := hl a (List.mem_cons_self ..)
          simp only [List.map_cons, List.sum_cons]
          omega
      omega
    · have := sum_one k h1 h2 l hn.2
      have := h1 i e
      omega
theorem sum_add (c : Come) (y : LetR) (n : Nat) (s : Int) : ((List.range n).map fun i => ((c.add y) i s).length).sum ≤ ((List.range n).map fun i => (c i s).length).sum + 1 := by
  refine sum_one y.to.toNat (fun i hi => ?_) ?_ _ List.nodup_range
  · unfold Come.add
    rw [if_neg (fun h => hi (by omega))]
    exact Nat.le_refl _
  · unfold Come.add
    split <;> simp
theorem sum_addAll : ∀ (l : List LetR) (c : Come) (n : Nat) (s : Int), ((List.range n).map fun i => ((c.addAll l) i s).length).sum ≤ ((List.range n).map fun i => (c i s).length).sum + l.length
  | [], c, n, s => Nat.le_refl _
  | y :: l, c, n, s => by
    have h1 := sum_addAll l (c.add y) n s
    have h2 := sum_add c y n s
    show ((List.range n).map fun i => (((c.add y).addAll l) i s).length).sum ≤ _
    simp only [List.length_cons]
    omega
theorem one_le_sum (c : Come) (n : Nat) (s : Int) {i : Nat} (hi : i < n) : (c i s).length ≤ ((List.range n).map fun j => (c j s).length).sum := by
  have : ∀ (l : List Nat), i ∈ l → (c i s).length ≤ (l.map fun j => (c j s).length).sum := fun l => by
    induction l with
    | nil => intro h; cases h
    | cons a l ih =>
      intro h
      simp only [List.map_cons, List.sum_cons]
      rcases List.mem_cons.1 h with rfl | h
      · omega
      · have := ih h; omega
  exact this _ (List.mem_range.2 hi)
theorem logR_len (n : Nat) (c : Come) (t : Int) : (logR n c t).length = ((List.range n).map fun i => (c i t).length).sum := by
  simp [logR, List.length_flatMap]
theorem atR_len (rs : List RuleR) : ∀ (l : List LetR) (num : Int), (atR rs num l).2.length ≤ l.length
  | [], _ => Nat.le_refl _
  | x :: l, num => by
    have h := atR_len rs l (takeR rs num x).1
    have h2 : (takeR rs num x).2.toList.length ≤ 1 := by cases (takeR rs num x).2 <;> simp
    simp only [atR, List.length_append, List.length_cons]
    omega
/-- No more is sent than came. -/
theorem timeR_len (R : List (List RuleR)) (c : Come) (t : Int) (nums : List Int) : (timeR R c t nums).2.length ≤ (logR nums.length c t).length := by
  rw [logR_len]
  have h1 : (timeR R c t nums).2.length = ((List.range nums.length).map fun i => (atR (R.getD i []) (nums.getD i 0) (c i t)).2.length).sum := by
    simp only [timeR, List.length_flatMap]
    congr 1
    apply List.ext_getElem?
    intro j
    simp only [List.getElem?_map, List.getElem?_mapIdx]
    by_cases e : j < nums.length
    · rw [List.getElem?_eq_getElem e, List.getElem?_range e]
      simp [List.getD_eq_getElem?_getD, List.getElem?_eq_getElem e]
    · rw [List.getElem?_eq_none (by omega), List.getElem?_eq_none (by simpa using e)]
      rfl
  rw [h1]
  exact sum_le _ fun i => atR_len _ _ _
/-- The bound goes on from time to time. -/
theorem sum_time {R : List (List RuleR)} {c : Come} {t : Int} {nums : List Int} {log : List LetR} (hn : nums.length = R.length) (h : ∀ s, ((List.range R.length).map fun i => (c i s).length).sum ≤ 200 + log.length) :
    ∀ s, ((List.range R.length).map fun i => ((c.addAll (timeR R c t nums).2) i s).length).sum ≤ 200 + (log ++ logR R.length c t).length := fun s => by
  have h1 := sum_addAll (timeR R c t nums).2 c R.length s
  have h2 := timeR_len R c t nums
  rw [hn] at h2
  have := h s
  rw [List.length_append]
  omega
end Go.Proofs.Yticdjkkcfdbdcaa
