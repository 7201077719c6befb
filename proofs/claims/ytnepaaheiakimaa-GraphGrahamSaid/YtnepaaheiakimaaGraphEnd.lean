/- The longest way to each job, in plain Lean: there is one solution of its equation, and it is bounded. No conditions. -/
import Derived.Test.YtnepaaheiakimaaGraphOrd
namespace Go.Proofs.Ytnepaaheiakimaa
open Go.ChangeShapes Go.WideShapes Go.ChangeAt Go.RowKit

def lenOf (J : List JobR) (k : Nat) : Int := ((J[k]?).map (·.len)).getD 0
theorem lenOf_eq {J : List JobR} {k : Nat} (h : k < J.length) : lenOf J k = J[k].len := by simp [lenOf, h]
/-- The greatest of E, among the first q that job i waits for. -/
def mxTo (J : List JobR) (E : Nat → Int) (i q : Nat) : Int := ((aft J i).take q).foldl (fun m a => max m (E a.toNat)) 0
theorem mxTo_zero (J : List JobR) (E : Nat → Int) (i : Nat) : mxTo J E i 0 = 0 := by simp [mxTo]
theorem mxTo_succ {J : List JobR} {E : Nat → Int} {i q : Nat} (h : q < (aft J i).length) : mxTo J E i (q + 1) = max (mxTo J E i q) (E (aft J i)[q].toNat) := by
  rw [mxTo, List.take_succ_eq_append_getElem h, List.foldl_append]; rfl
def mxOf (J : List JobR) (E : Nat → Int) (i : Nat) : Int := mxTo J E i (aft J i).length
structure IsEnd (J : List JobR) (E : Nat → Int) : Prop where
  eq : ∀ i, i < J.length → E i = mxOf J E i + lenOf J i
  lo : ∀ i, i < J.length → 0 ≤ E i
  hi : ∀ i, i < J.length → E i ≤ 1000 * J.length

theorem foldl_congr_mem {α β : Type} {f g : β → α → β} {l : List α} (h : ∀ b a, a ∈ l → f b a = g b a) (b : β) : l.foldl f b = l.foldl g b := by
  induction l generalizing b with
  | nil => rfl
  | cons a l ih =>
    simp only [List.foldl_cons]
    rw [h b a (by simp)]
    exact ih (fun b a ha => h b a (by simp [ha])) _
theorem mxOf_congr {J : List JobR} {E F : Nat → Int} {i : Nat} (h : ∀ a ∈ aft J i, E a.toNat = F a.toNat) : mxOf J E i = mxOf J F i := by
  unfold mxOf mxTo
  rw [List.take_length]
  exact foldl_congr_mem (fun b a ha => by rw [h a ha]) 0
theorem foldl_max_le {l : List Int} {E : Nat → Int} {b c : Int} (hb : b ≤ c) (h : ∀ a ∈ l, E a.toNat ≤ c) : l.foldl (fun m a => max m (E a.toNat)) b ≤ c := by
  induction l generalizing b with
  | nil => exact hb
  | cons a l ih =>
    simp only [List.foldl_cons]
    exact ih (by have := h a (by simp); omega) fun x hx => h x (by simp [hx])
theorem le_foldl_max (l : List Int) (E : Nat → Int) (b : Int) : b ≤ l.foldl (fun m a => max m (E a.toNat)) b := by
  induction l generalizing b with
  | nil => exact Int.le_refl _
  | cons a l ih =>
    simp only [List.foldl_cons]
    exact Int.le_trans (by omega) (ih (max b (E a.toNat)))
theorem mem_le_foldl_max {l : List Int} {E : Nat → Int} {b a : Int} (ha : a ∈ l) : E a.toNat ≤ l.foldl (fun m a => max m (E a.toNat)) b := by
  induction l generalizing b with
  | nil => cases ha
  | cons x l ih =>
    simp only [List.foldl_cons]
    rcases List.mem_cons.1 ha with rfl | h
    · exact Int.le_trans (by omega) (le_foldl_max l E _)
    · exact ih h
theorem foldl_max_mono {l : List Int} {E F : Nat → Int} {b c : Int} (hb : b ≤ c) (h : ∀ a ∈ l, E a.toNat ≤ F a.toNat) : l.foldl (fun m a => max m (E a.toNat)) b ≤ l.foldl (fun m a => max m (F a.toNat)) c := by
  induction l generalizing b c with
  | nil => exact hb
  | cons a l ih =>
    simp only [List.foldl_cons]
    exact ih (by have := h a (by simp); omega) fun x hx => h x (by simp [hx])

/-- There is an order of good jobs. -/
theorem next_of {J : List JobR} {out : List Int} (hr : ∀ i, ∀ a ∈ aft J i, okIn J.length a) {i : Nat} (hc : Can J i) (hn : (i : Int) ∉ out) : ∃ j, j < J.length ∧ (j : Int) ∉ out ∧ ∀ a ∈ aft J j, a ∈ out := by
  induction hc with
  | mk i hi _ ih =>
    by_cases h : ∀ a ∈ aft J i, a ∈ out
    · exact ⟨i, hi, hn, h⟩
    · have ⟨a, ha, hno⟩ : ∃ a, a ∈ aft J i ∧ a ∉ out := Classical.byContradiction fun hx => h fun a ha => Classical.byContradiction fun hh => hx ⟨a, ha, hh⟩
      have := (hr i a ha).1
      exact ih a ha (by rwa [show ((a.toNat : Nat) : Int) = a by omega])
theorem exists_ord {J : List JobR} (hr : ∀ i, ∀ a ∈ aft J i, okIn J.length a) (hc : ∀ i, i < J.length → Can J i) : ∀ m, m ≤ J.length → ∃ out, Ord J out ∧ out.length = m
  | 0, _ => ⟨[], ⟨List.nodup_nil, (fun a h => by cases h), (fun p h => absurd h (by simp))⟩, rfl⟩
  | m + 1, hm => by
    obtain ⟨out, ho, hl⟩ := exists_ord hr hc m (by omega)
    have ⟨i, hi, hn⟩ : ∃ i, i < J.length ∧ (i : Int) ∉ out := Classical.byContradiction fun hx => by
      have := (nodup_allI J.length).length_le_of_subset (l₂ := out) (fun a ha => by
        obtain ⟨h0, h1⟩ := mem_allI.1 ha
        exact Classical.byContradiction fun hh => hx ⟨a.toNat, by omega, by rwa [show ((a.toNat : Nat) : Int) = a by omega]⟩)
      rw [length_allI] at this
      omega
    obtain ⟨j, hj, hjn, hja⟩ := next_of hr (hc i hi) hn
    exact ⟨out ++ [(j : Int)], ho.snoc hj hjn hja, by simp [hl]⟩
theorem Ord.has {J : List JobR} {out : List Int} (h : Ord J out) (hl : out.length = J.length) {i : Nat} (hi : i < J.length) : ∃ (p : Nat) (hp : p < out.length), out[p] = (i : Int) := by
  have hm : (i : Int) ∈ out := Classical.byContradiction fun hn => by
    have h1 : ((i : Int) :: out).Nodup := List.nodup_cons.2 ⟨hn, h.nodup⟩
    have := h1.length_le_of_subset (l₂ := allI J.length) (fun a ha => by
      rcases List.mem_cons.1 ha with rfl | ha
      · exact mem_allI.2 ⟨by omega, by omega⟩
      · exact mem_allI.2 (h.inR a ha))
    simp [length_allI] at this
    omega
  obtain ⟨p, hp, e⟩ := List.getElem_of_mem hm
  exact ⟨p, hp, e⟩
/-- Whoever waits stands behind those that are waited for. -/
theorem Ord.before {J : List JobR} {out : List Int} (h : Ord J out) {p : Nat} (hp : p < out.length) {a : Int} (ha : a ∈ aft J out[p].toNat) : ∃ (q : Nat) (hq : q < out.length), q < p ∧ out[q] = a := by
  have := h.topo p hp a ha
  obtain ⟨q, hq, e⟩ := List.getElem_of_mem this
  rw [List.length_take] at hq
  rw [List.getElem_take] at e
  exact ⟨q, by omega, by omega, e⟩

def ef (J : List JobR) : Nat → Nat → Int
  | 0, _ => 0
  | f + 1, i => mxOf J (ef J f) i + lenOf J i
theorem ef_stable {J : List JobR} {out : List Int} (h : Ord J out) : ∀ (p : Nat) (hp : p < out.length) (f : Nat), p < f → ef J f out[p].toNat = ef J (p + 1) out[p].toNat := by
  intro p
  induction p using Nat.strongRecOn with
  | _ p ih =>
    intro hp f hf
    obtain ⟨f, rfl⟩ : ∃ g, f = g + 1 := ⟨f - 1, by omega⟩
    simp only [ef]
    congr 1
    refine mxOf_congr fun a ha => ?_
    obtain ⟨q, hq, hqp, rfl⟩ := h.before hp ha
    rw [ih q hqp hq f (by omega), ih q hqp hq p hqp]
theorem ef_bound {J : List JobR} (hl : ∀ i, i < J.length → 1 ≤ lenOf J i ∧ lenOf J i ≤ 1000) (hr : ∀ i, ∀ a ∈ aft J i, okIn J.length a) : ∀ (f i : Nat), i < J.length → 0 ≤ ef J f i ∧ ef J f i ≤ 1000 * f
  | 0, i, _ => by simp [ef]
  | f + 1, i, hi => by
    have h1 := hl i hi
    have h2 : mxOf J (ef J f) i ≤ 1000 * f := by
      unfold mxOf mxTo
      rw [List.take_length]
      refine foldl_max_le (by omega) fun a ha => (ef_bound hl hr f a.toNat ?_).2
      have := hr i a ha
      simp only [okIn] at this; omega
    have h3 : 0 ≤ mxOf J (ef J f) i := le_foldl_max _ _ _
    simp only [ef]
    omega
theorem exists_end {J : List JobR} (hl : ∀ i, i < J.length → 1 ≤ lenOf J i ∧ lenOf J i ≤ 1000) (hr : ∀ i, ∀ a ∈ aft J i, okIn J.length a) (hc : ∀ i, i < J.length → Can J i) : ∃ E, IsEnd J E := by
  obtain ⟨out, ho, hlen⟩ := exists_ord hr hc J.length (Nat.le_refl _)
  refine ⟨ef J J.length, ⟨fun i hi => ?_, fun i hi => (ef_bound hl hr _ i hi).1, fun i hi => (ef_bound hl hr _ i hi).2⟩⟩
  obtain ⟨p, hp, e⟩ := ho.has hlen hi
  have e' : i = out[p].toNat := by omega
  rw [e', ef_stable ho p hp _ (by omega)]
  simp only [ef]
  congr 1
  refine mxOf_congr fun a ha => ?_
  obtain ⟨q, hq, hqp, rfl⟩ := ho.before hp ha
  rw [ef_stable ho q hq p hqp, ef_stable ho q hq J.length (by omega)]
/-- The sum of lengths of the first k, and of the whole. -/
def workTo (J : List JobR) : Nat → Int
  | 0 => 0
  | k + 1 => workTo J k + lenOf J k
def spanTo (E : Nat → Int) : Nat → Int
  | 0 => 0
  | k + 1 => max (spanTo E k) (E k)
theorem workTo_bound {J : List JobR} (hl : ∀ i, i < J.length → 1 ≤ lenOf J i ∧ lenOf J i ≤ 1000) : ∀ k, k ≤ J.length → 0 ≤ workTo J k ∧ workTo J k ≤ 1000 * k
  | 0, _ => by simp [workTo]
  | k + 1, hk => by
    have := workTo_bound hl k (by omega)
    have := hl k (by omega)
    simp only [workTo]; omega
theorem spanTo_bound {J : List JobR} {E : Nat → Int} (h : IsEnd J E) : ∀ k, k ≤ J.length → 0 ≤ spanTo E k ∧ spanTo E k ≤ 1000 * J.length
  | 0, _ => by simp [spanTo]; omega
  | k + 1, hk => by
    have := spanTo_bound h k (by omega)
    have := h.lo k (by omega)
    have := h.hi k (by omega)
    simp only [spanTo]; omega

def wS (J : List JobR) (l : List Int) : Int := l.foldr (fun a s => s + lenOf J a.toNat) 0
def mS (E : Nat → Int) (l : List Int) : Int := l.foldr (fun a s => max s (E a.toNat)) 0
theorem wS_perm {J : List JobR} {l m : List Int} (h : l.Perm m) : wS J l = wS J m := by
  induction h with
  | nil => rfl
  | cons a _ ih => simp only [wS, List.foldr_cons] at ih ⊢; rw [ih]
  | swap a b l => simp only [wS, List.foldr_cons]; omega
  | trans _ _ h1 h2 => exact h1.trans h2
theorem mS_perm {E : Nat → Int} {l m : List Int} (h : l.Perm m) : mS E l = mS E m := by
  induction h with
  | nil => rfl
  | cons a _ ih => simp only [mS, List.foldr_cons] at ih ⊢; rw [ih]
  | swap a b l => simp only [mS, List.foldr_cons]; omega
  | trans _ _ h1 h2 => exact h1.trans h2
theorem wS_snoc (J : List JobR) (l : List Int) (a : Int) : wS J (l ++ [a]) = wS J l + lenOf J a.toNat := by
  induction l with
  | nil => simp [wS]
  | cons b l ih => simp only [wS, List.cons_append, List.foldr_cons] at ih ⊢; omega
theorem mS_snoc (E : Nat → Int) (l : List Int) (a : Int) : mS E (l ++ [a]) = max (mS E l) (E a.toNat) := by
  induction l with
  | nil => simp [mS]
  | cons b l ih => simp only [mS, List.cons_append, List.foldr_cons] at ih ⊢; omega
theorem wS_all (J : List JobR) : ∀ n, wS J (allI n) = workTo J n
  | 0 => rfl
  | n + 1 => by rw [allI_succ, wS_snoc, wS_all J n, workTo]; simp
theorem mS_all (E : Nat → Int) : ∀ n, mS E (allI n) = spanTo E n
  | 0 => rfl
  | n + 1 => by rw [allI_succ, mS_snoc, mS_all E n, spanTo]; simp
theorem Whole.perm {J : List JobR} {out : List Int} (h : Whole J out) (hc : ∀ i, i < J.length → Can J i) : out.Perm (allI J.length) :=
  (List.perm_ext_iff_of_nodup h.nodup (nodup_allI _)).2 fun a => ⟨fun ha => mem_allI.2 (h.inR a ha), fun ha => by
    obtain ⟨h0, h1⟩ := mem_allI.1 ha
    have := h.all a.toNat (hc _ (by omega))
    rwa [show ((a.toNat : Nat) : Int) = a by omega] at this⟩
theorem wS_bound {J : List JobR} (hl : ∀ i, i < J.length → 1 ≤ lenOf J i ∧ lenOf J i ≤ 1000) : ∀ (l : List Int), (∀ a ∈ l, okIn J.length a) → 0 ≤ wS J l ∧ wS J l ≤ 1000 * l.length
  | [], _ => by simp [wS]
  | a :: l, h => by
    have h1 := wS_bound hl l fun x hx => h x (by simp [hx])
    have h2 := h a (by simp)
    simp only [okIn] at h2
    have h3 := hl a.toNat (by omega)
    simp only [wS, List.foldr_cons, List.length_cons] at h1 ⊢
    omega
theorem mS_bound {J : List JobR} {E : Nat → Int} (hE : IsEnd J E) : ∀ (l : List Int), (∀ a ∈ l, okIn J.length a) → 0 ≤ mS E l ∧ mS E l ≤ 1000 * J.length
  | [], _ => by simp [mS]; omega
  | a :: l, h => by
    have h1 := mS_bound hE l fun x hx => h x (by simp [hx])
    have h2 := h a (by simp)
    simp only [okIn] at h2
    have h3 := hE.lo a.toNat (by omega)
    have h4 := hE.hi a.toNat (by omega)
    simp only [mS, List.foldr_cons] at h1 ⊢
    omega
theorem mxTo_bound {J : List JobR} {E : Nat → Int} (hE : IsEnd J E) (hr : ∀ i, ∀ a ∈ aft J i, okIn J.length a) (i q : Nat) : 0 ≤ mxTo J E i q ∧ mxTo J E i q ≤ 1000 * J.length :=
  ⟨le_foldl_max _ _ _, foldl_max_le (by omega) fun a ha => hE.hi _ (by have := hr i a (List.mem_of_mem_take ha); simp only [okIn] at this; omega)⟩
/-- The longest ways over and over: r rounds are over, in this one those below i. -/
structure Lng (J : List JobR) (E : Nat → Int) (out : List Int) (r i : Nat) (L : Nat → Int) : Prop where
  bd : ∀ j, j < J.length → 0 ≤ L j ∧ L j ≤ E j
  old : ∀ (p : Nat) (hp : p < out.length), p < r → L out[p].toNat = E out[p].toNat
  new : ∀ (hr : r < out.length), out[r].toNat < i → L out[r].toNat = E out[r].toNat
theorem Lng.step {J : List JobR} {E : Nat → Int} {out : List Int} {r i : Nat} {L L' : Nat → Int} (h : Lng J E out r i L) (hE : IsEnd J E) (ho : Ord J out) (hl : ∀ i, i < J.length → 1 ≤ lenOf J i ∧ lenOf J i ≤ 1000)
    (hr : ∀ i, ∀ a ∈ aft J i, okIn J.length a) (hi : i < J.length) (h1 : L' i = mxOf J L i + lenOf J i) (h2 : ∀ j, j < J.length → j ≠ i → L' j = L j) : Lng J E out r (i + 1) L' := by
  have hm : mxOf J L i ≤ mxOf J E i := by
    unfold mxOf mxTo
    rw [List.take_length]
    exact foldl_max_mono (Int.le_refl _) fun a ha => (h.bd _ (by have := hr i a ha; simp only [okIn] at this; omega)).2
  have hm0 : 0 ≤ mxOf J L i := le_foldl_max _ _ _
  have hlen := hl i hi
  have heq := hE.eq i hi
  have hex : (∀ a ∈ aft J i, L a.toNat = E a.toNat) → L' i = E i := fun hh => by rw [h1, heq, mxOf_congr hh]
  have hin : ∀ (p : Nat) (hp : p < out.length), out[p].toNat < J.length := fun p hp => by have := ho.inR _ (List.getElem_mem hp); simp only [okIn] at this; omega
  refine ⟨fun j hj => ?_, fun p hp hpr => ?_, fun hro hri => ?_⟩
  · by_cases e : j = i
    · subst e; rw [h1]; omega
    · rw [h2 j hj e]; exact h.bd j hj
  · by_cases e : out[p].toNat = i
    · rw [e]
      refine hex fun a ha => ?_
      rw [← e] at ha
      obtain ⟨q, hq, hqp, rfl⟩ := ho.before hp ha
      exact h.old q hq (by omega)
    · rw [h2 _ (hin p hp) e]; exact h.old p hp hpr
  · by_cases e : out[r].toNat = i
    · rw [e]
      refine hex fun a ha => ?_
      rw [← e] at ha
      obtain ⟨q, hq, hqp, rfl⟩ := ho.before hro ha
      exact h.old q hq (by omega)
    · rw [h2 _ (hin r hro) e]; exact h.new hro (by omega)
theorem Lng.next {J : List JobR} {E : Nat → Int} {out : List Int} {r i : Nat} {L : Nat → Int} (h : Lng J E out r i L) (ho : Ord J out) (hi : J.length ≤ i) : Lng J E out (r + 1) 0 L where
  bd := h.bd
  old := fun p hp hpr => by
    by_cases e : p < r
    · exact h.old p hp e
    · have e : p = r := by omega
      subst e
      exact h.new hp (by have := ho.inR _ (List.getElem_mem hp); simp only [okIn] at this; omega)
  new := fun _ h => by omega
theorem Lng.all {J : List JobR} {E : Nat → Int} {out : List Int} {r i : Nat} {L : Nat → Int} (h : Lng J E out r i L) (ho : Ord J out) (hl : out.length = J.length) (hr : J.length ≤ r) : ∀ j, j < J.length → L j = E j := fun j hj => by
  obtain ⟨p, hp, e⟩ := ho.has hl hj
  have := h.old p hp (by omega)
  rwa [e, Int.toNat_natCast] at this
theorem mxTo_bound2 {J : List JobR} {E L : Nat → Int} (hE : IsEnd J E) (hb : ∀ j, j < J.length → 0 ≤ L j ∧ L j ≤ E j) (hr : ∀ i, ∀ a ∈ aft J i, okIn J.length a) (i q : Nat) : 0 ≤ mxTo J L i q ∧ mxTo J L i q ≤ 1000 * J.length :=
  ⟨le_foldl_max _ _ _, foldl_max_le (by omega) fun a ha => by
    have h1 := hr i a (List.mem_of_mem_take ha)
    simp only [okIn] at h1
    have := hb a.toNat (by omega); have := hE.hi a.toNat (by omega); omega⟩
theorem IsEnd.unique {J : List JobR} {E F : Nat → Int} (hE : IsEnd J E) (hF : IsEnd J F) : ∀ i, Can J i → E i = F i := by
  intro i hc
  induction hc with
  | mk i hi _ ih => rw [hE.eq i hi, hF.eq i hi, mxOf_congr ih]
theorem IsEnd.span {J : List JobR} {E F : Nat → Int} (hE : IsEnd J E) (hF : IsEnd J F) (hc : ∀ i, i < J.length → Can J i) : ∀ k, k ≤ J.length → spanTo E k = spanTo F k
  | 0, _ => rfl
  | k + 1, hk => by rw [spanTo, spanTo, hE.span hF hc k (by omega), hE.unique hF k (hc k (by omega))]
end Go.Proofs.Ytnepaaheiakimaa
