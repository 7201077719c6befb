/- Kahn's order of jobs, in plain Lean: what the counters, the lists of those that wait, and the order hold. No conditions. -/
import Derived.Test.YticdjkkcfdbdcaaGraphDefs
namespace Go.Proofs.Yticdjkkcfdbdcaa
open Go.ChangeShapes Go.WideShapes Go.ChangeAt Go.RowKit
/-- Those that wait for x, among the first i jobs; and of job number i for the first q that it waits for. -/
def nxTo (J : List JobR) (x : Nat) : Nat → List Int
  | 0 => []
  | i + 1 => nxTo J x i ++ List.replicate ((aft J i).count (x : Int)) (i : Int)
def nxAt (J : List JobR) (x i q : Nat) : List Int := nxTo J x i ++ List.replicate (((aft J i).take q).count (x : Int)) (i : Int)
def nx (J : List JobR) (x : Nat) : List Int := nxTo J x J.length
theorem nxAt_zero (J : List JobR) (x i : Nat) : nxAt J x i 0 = nxTo J x i := by simp [nxAt]
theorem nxAt_full (J : List JobR) (x i q : Nat) (h : (aft J i).length ≤ q) : nxAt J x i q = nxTo J x (i + 1) := by rw [nxAt, List.take_of_length_le h, nxTo]
theorem nxAt_succ_eq (J : List JobR) (x i q : Nat) (h : q < (aft J i).length) (he : (aft J i)[q] = (x : Int)) : nxAt J x i (q + 1) = nxAt J x i q ++ [(i : Int)] := by
  rw [nxAt, nxAt, List.take_succ_eq_append_getElem h, List.count_append, he]
  simp only [List.count_singleton_self, List.append_assoc]
  rw [List.replicate_succ']
theorem nxAt_succ_ne (J : List JobR) (x i q : Nat) (h : q < (aft J i).length) (he : (aft J i)[q] ≠ (x : Int)) : nxAt J x i (q + 1) = nxAt J x i q := by
  rw [nxAt, nxAt, List.take_succ_eq_append_getElem h, List.count_append]
  simp [List.count_singleton, he]
theorem mem_nxTo {J : List JobR} {x i : Nat} {a : Int} (h : a ∈ nxTo J x i) : ∃ k : Nat, a = k ∧ k < i := by
  induction i with
  | zero => cases h
  | succ i ih =>
    rw [nxTo, List.mem_append] at h
    rcases h with h | h
    · obtain ⟨k, e, hk⟩ := ih h; exact ⟨k, e, by omega⟩
    · exact ⟨i, List.eq_of_mem_replicate h, by omega⟩
theorem count_nxTo (J : List JobR) (x i k : Nat) : (nxTo J x i).count (k : Int) = if k < i then (aft J k).count (x : Int) else 0 := by
  induction i with
  | zero => simp [nxTo]
  | succ i ih =>
    rw [nxTo, List.count_append, ih, List.count_replicate]
    by_cases e : k = i
    · subst e; simp
    · have e' : ¬ ((i : Int) = (k : Int)) := by omega
      by_cases hk : k < i
      · simp [hk, e', show k < i + 1 by omega]
      · simp [hk, e', show ¬ k < i + 1 by omega]
theorem count_nx (J : List JobR) (x k : Nat) (hk : k < J.length) : (nx J x).count (k : Int) = (aft J k).count (x : Int) := by rw [nx, count_nxTo, if_pos hk]
theorem length_nxTo (J : List JobR) (hs : ∀ k, (aft J k).length ≤ 200) (x i : Nat) : (nxTo J x i).length ≤ 200 * i := by
  induction i with
  | zero => simp [nxTo]
  | succ i ih =>
    have := List.count_le_length (a := (x : Int)) (l := aft J i)
    have := hs i
    simp [nxTo]; omega
theorem length_nxAt (J : List JobR) (hs : ∀ k, (aft J k).length ≤ 200) (x i q : Nat) : (nxAt J x i q).length ≤ 200 * i + 200 := by
  have := length_nxTo J hs x i
  have := List.count_le_length (a := (x : Int)) (l := (aft J i).take q)
  have := hs i
  simp only [nxAt, List.length_append, List.length_replicate]
  rw [List.length_take] at *
  omega
theorem length_nx (J : List JobR) (hs : ∀ k, (aft J k).length ≤ 200) (x : Nat) : (nx J x).length ≤ 200 * J.length := length_nxTo J hs x _
/-- How many of those ahead of job j are not in a list. -/
def cntU (J : List JobR) (done : List Int) (j : Nat) : Nat := (aft J j).countP fun a => !done.contains a
theorem cntU_nil (J : List JobR) (j : Nat) : cntU J [] j = (aft J j).length := by simp [cntU]
theorem cntU_snoc (J : List JobR) (done : List Int) (x : Int) (j : Nat) (hx : x ∉ done) : cntU J (done ++ [x]) j + (aft J j).count x = cntU J done j := by
  unfold cntU
  generalize aft J j = l
  induction l with
  | nil => simp
  | cons a l ih =>
    simp only [List.countP_cons, List.count_cons]
    by_cases e : a = x
    · subst e
      have h1 : (done ++ [a]).contains a = true := by simp
      have h2 : done.contains a = false := by simpa using hx
      rw [h1, h2]
      simp only [Bool.not_true, Bool.not_false, Bool.false_eq_true, ↓reduceIte, beq_self_eq_true]
      omega
    · have h1 : (done ++ [x]).contains a = done.contains a := by simp [e]
      have h2 : (a == x) = false := by simpa using e
      rw [h1, h2]
      simp only [Bool.false_eq_true, ↓reduceIte]
      omega
theorem cntU_zero {J : List JobR} {done : List Int} {j : Nat} (h : cntU J done j = 0) : ∀ a ∈ aft J j, a ∈ done := by
  intro a ha
  have := (List.countP_eq_zero.1 h) a ha
  simpa using this
theorem cntU_of {J : List JobR} {done : List Int} {j : Nat} (h : ∀ a ∈ aft J j, a ∈ done) : cntU J done j = 0 := by
  rw [cntU, List.countP_eq_zero]
  intro a ha
  simp [h a ha]
structure Ord (J : List JobR) (out : List Int) : Prop where
  nodup : out.Nodup
  inR : ∀ a ∈ out, okIn J.length a
  topo : ∀ (p : Nat) (h : p < out.length), ∀ a ∈ aft J out[p].toNat, a ∈ out.take p
theorem Ord.snoc {J : List JobR} {out : List Int} (h : Ord J out) {j : Nat} (hj : j < J.length) (hn : (j : Int) ∉ out) (ha : ∀ a ∈ aft J j, a ∈ out) : Ord J (out ++ [(j : Int)]) where
  nodup := by
    rw [List.nodup_append]
    exact ⟨h.nodup, by simp, fun a ha b hb => by simp at hb; subst hb; rintro rfl; exact hn ha⟩
  inR := fun a ha' => by
    rw [List.mem_append] at ha'
    rcases ha' with h1 | h1
    · exact h.inR a h1
    · simp at h1; subst h1; exact ⟨by omega, by omega⟩
  topo := fun p hp a hap => by
    by_cases e : p < out.length
    · rw [List.getElem_append_left e] at hap
      rw [List.take_append_of_le_length (by omega)]
      exact h.topo p e a hap
    · have e' : p = out.length := by simp at hp; omega
      subst e'
      simp at hap
      simp
      exact ha a hap
theorem Ord.can {J : List JobR} {out : List Int} (h : Ord J out) : ∀ (p : Nat) (hp : p < out.length), Can J out[p].toNat := by
  intro p
  induction p using Nat.strongRecOn with
  | _ p ih =>
    intro hp
    obtain ⟨h0, h1⟩ := h.inR _ (List.getElem_mem hp)
    refine .mk _ (by omega) fun a ha => ?_
    have := h.topo p hp a ha
    obtain ⟨q, hq, e⟩ := List.getElem_of_mem this
    rw [List.length_take] at hq
    rw [List.getElem_take] at e
    subst e
    exact ih q (by omega) (by omega)
theorem Ord.mem_can {J : List JobR} {out : List Int} (h : Ord J out) {i : Nat} (hi : (i : Int) ∈ out) : Can J i := by
  obtain ⟨p, hp, e⟩ := List.getElem_of_mem hi
  have := h.can p hp
  rw [e] at this
  simpa using this
/-- All numbers of jobs. -/
def allI (n : Nat) : List Int := (List.range n).map Int.ofNat
theorem mem_allI {n : Nat} {a : Int} : a ∈ allI n ↔ okIn n a := by
  simp only [allI, List.mem_map, List.mem_range, okIn]
  constructor
  · rintro ⟨k, hk, rfl⟩; exact ⟨Int.natCast_nonneg _, by simpa using hk⟩
  · rintro ⟨h0, h1⟩; exact ⟨a.toNat, by omega, by simp; omega⟩
theorem nodup_allI (n : Nat) : (allI n).Nodup := by
  have := List.nodup_range (n := n)
  exact List.Pairwise.map Int.ofNat (fun a b h e => h (Int.ofNat.inj e)) this
theorem length_allI (n : Nat) : (allI n).length = n := by simp [allI]
theorem allI_succ (n : Nat) : allI (n + 1) = allI n ++ [(n : Int)] := by simp [allI, List.range_succ]
/-- Those that wait for nobody, among the first k. -/
def roots (J : List JobR) (k : Nat) : List Int := (allI k).filter fun a => (aft J a.toNat).isEmpty
theorem roots_t {J : List JobR} {k : Nat} (h : aft J k = []) : roots J (k + 1) = roots J k ++ [(k : Int)] := by simp [roots, allI_succ, List.filter_append, h]
theorem roots_f {J : List JobR} {k : Nat} (h : aft J k ≠ []) : roots J (k + 1) = roots J k := by simp [roots, allI_succ, List.filter_append, h]
theorem length_roots (J : List JobR) (k : Nat) : (roots J k).length ≤ k := by
  have := List.length_filter_le (fun a : Int => (aft J a.toNat).isEmpty) (allI k)
  simpa [roots, allI] using this
theorem mem_roots {J : List JobR} {k j : Nat} : (j : Int) ∈ roots J k ↔ j < k ∧ aft J j = [] := by
  simp [roots, mem_allI, okIn]
theorem Ord.length_le {J : List JobR} {out : List Int} (h : Ord J out) : out.length ≤ J.length := by
  have := h.nodup.length_le_of_subset (l₂ := allI J.length) (fun a ha => mem_allI.2 (h.inR a ha))
  simpa [length_allI] using this
/-- The whole order: those that can be done. -/
structure Whole (J : List JobR) (out : List Int) : Prop extends Ord J out where
  all : ∀ i, Can J i → (i : Int) ∈ out
theorem Whole.ok {J : List JobR} {out : List Int} (h : Whole J out) : out.length = J.length ↔ ∀ i, i < J.length → Can J i := by
  constructor
  · intro hl i hi
    refine h.mem_can (Classical.byContradiction fun hn => ?_)
    have h1 : ((i : Int) :: out).Nodup := List.nodup_cons.2 ⟨hn, h.nodup⟩
    have := h1.length_le_of_subset (l₂ := allI J.length) (fun a ha => by
      rcases List.mem_cons.1 ha with rfl | ha
      · exact mem_allI.2 ⟨by omega, by omega⟩
      · exact mem_allI.2 (h.inR a ha))
    simp [length_allI] at this
    omega
  · intro hc
    refine Nat.le_antisymm h.length_le ?_
    have := (nodup_allI J.length).length_le_of_subset (l₂ := out) (fun a ha => by
      obtain ⟨h0, h1⟩ := mem_allI.1 ha
      have := h.all a.toNat (hc _ (by omega))
      rwa [show ((a.toNat : Nat) : Int) = a by omega] at this)
    simpa [length_allI] using this
structure Outer (J : List JobR) (k : Nat) (out : List Int) : Prop where
  ord : Ord J out
  le : k ≤ out.length
  iff : ∀ j, j < J.length → ((j : Int) ∈ out ↔ cntU J (out.take k) j = 0)
theorem Outer.start (J : List JobR) (hr : ∀ a ∈ roots J J.length, okIn J.length a) : Outer J 0 (roots J J.length) where
  ord := by
    refine ⟨(nodup_allI _).sublist List.filter_sublist, hr, fun p hp a ha => ?_⟩
    have hm := List.getElem_mem hp
    have h0 := (hr _ hm).1
    have h1 := hm
    rw [show (roots J J.length)[p] = (((roots J J.length)[p].toNat : Nat) : Int) by omega] at h1
    rw [(mem_roots.1 h1).2] at ha
    cases ha
  le := Nat.zero_le _
  iff := fun j hj => by
    rw [List.take_zero, cntU_nil, mem_roots]
    simp [hj]
theorem roots_in (J : List JobR) : ∀ a ∈ roots J J.length, okIn J.length a := fun a ha => by
  exact mem_allI.1 (List.mem_filter.1 ha).1
theorem Outer.finish {J : List JobR} {out : List Int} {k : Nat} (hr : ∀ i, ∀ a ∈ aft J i, okIn J.length a) (h : Outer J k out) (hk : out.length ≤ k) : Whole J out where
  toOrd := h.ord
  all := fun i hc => by
    induction hc with
    | mk i hi _ ih =>
      rw [h.iff i hi, List.take_of_length_le hk]
      refine cntU_of fun a ha => ?_
      have h1 := ih a ha
      have := (hr i a ha).1
      rwa [show ((a.toNat : Nat) : Int) = a by omega] at h1
/-- The counters within a round: x has just been taken; m of those that wait for it were told. -/
def Lf (J : List JobR) (done : List Int) (x m : Nat) (j : Nat) : Int := (cntU J done j : Int) - (((nx J x).take m).count (j : Int) : Nat)
theorem Lf_zero (J : List JobR) (done : List Int) (x j : Nat) : Lf J done x 0 j = cntU J done j := by simp [Lf]
theorem count_le_cntU {J : List JobR} {done : List Int} {x : Nat} (hx : (x : Int) ∉ done) (j : Nat) : (aft J j).count (x : Int) ≤ cntU J done j := by
  have := cntU_snoc J done x j hx; omega
theorem count_take_le (l : List Int) (m : Nat) (a : Int) : (l.take m).count a ≤ l.count a := (List.take_sublist m l).count_le a
theorem Lf_pos {J : List JobR} {done : List Int} {x m j : Nat} (hx : (x : Int) ∉ done) (hj : j < J.length) (hm : m < (nx J x).length) (he : (nx J x)[m] = (j : Int)) : 1 ≤ Lf J done x m j := by
  have h1 := count_take_le (nx J x) (m + 1) (j : Int)
  rw [List.take_succ_eq_append_getElem hm, List.count_append, he, count_nx J x j hj, List.count_singleton_self] at h1
  have := count_le_cntU (J := J) hx j
  simp only [Lf]
  omega
theorem Lf_eq {J : List JobR} {done : List Int} {x m j : Nat} (hm : m < (nx J x).length) (he : (nx J x)[m] = (j : Int)) : Lf J done x (m + 1) j = Lf J done x m j - 1 := by
  simp only [Lf]
  rw [List.take_succ_eq_append_getElem hm, List.count_append, he]
  simp
  omega
theorem Lf_ne {J : List JobR} {done : List Int} {x m j y : Nat} (hm : m < (nx J x).length) (he : (nx J x)[m] = (j : Int)) (hy : y ≠ j) : Lf J done x (m + 1) y = Lf J done x m y := by
  simp only [Lf]
  rw [List.take_succ_eq_append_getElem hm, List.count_append, he]
  have : ([(j : Int)]).count (y : Int) = 0 := by
    rw [List.count_eq_zero]
    intro h
    rw [List.mem_singleton] at h
    omega
  omega
theorem Lf_end {J : List JobR} {done : List Int} {x m : Nat} (hx : (x : Int) ∉ done) (hm : (nx J x).length ≤ m) {y : Nat} (hy : y < J.length) : Lf J done x m y = cntU J (done ++ [(x : Int)]) y := by
  have := cntU_snoc J done x y hx
  simp only [Lf]
  rw [List.take_of_length_le hm, count_nx J x y hy]
  omega
theorem Lf_done {J : List JobR} {done : List Int} {x m j : Nat} (hx : (x : Int) ∉ done) (hj : j < J.length) (h : Lf J done x m j = 0) : ∀ a ∈ aft J j, a ∈ done ++ [(x : Int)] := by
  refine cntU_zero ?_
  have h1 := count_take_le (nx J x) m (j : Int)
  rw [count_nx J x j hj] at h1
  have := cntU_snoc J done x j hx
  simp only [Lf] at h
  omega
structure Mid (J : List JobR) (done : List Int) (x m : Nat) (out : List Int) : Prop where
  ord : Ord J out
  pre : out.take (done.length + 1) = done ++ [(x : Int)]
  new : (x : Int) ∉ done
  iff : ∀ j, j < J.length → ((j : Int) ∈ out ↔ Lf J done x m j = 0)
theorem Outer.mid {J : List JobR} {out : List Int} {k x : Nat} (h : Outer J k out) (hk : k < out.length) (hx : out[k] = (x : Int)) : Mid J (out.take k) x 0 out where
  ord := h.ord
  pre := by rw [List.length_take, Nat.min_eq_left h.le, List.take_succ_eq_append_getElem hk, hx]
  new := fun hm => by
    have := h.ord.nodup
    rw [← List.take_append_drop k out] at this
    have h2 := (List.nodup_append.1 this).2.2 _ hm (x : Int) (by rw [List.drop_eq_getElem_cons hk, hx]; simp)
    exact h2 rfl
  iff := fun j hj => by rw [Lf_zero, h.iff j hj]; omega
theorem Mid.keep {J : List JobR} {done out : List Int} {x m j : Nat} (h : Mid J done x m out) (hm : m < (nx J x).length) (he : (nx J x)[m] = (j : Int)) (hne : Lf J done x m j - 1 ≠ 0) (hj : j < J.length) : Mid J done x (m + 1) out where
  ord := h.ord
  pre := h.pre
  new := h.new
  iff := fun y hy => by
    by_cases e : y = j
    · subst e
      have := Lf_pos h.new hj hm he
      rw [Lf_eq hm he, h.iff y hy]
      omega
    · rw [Lf_ne hm he e]; exact h.iff y hy
theorem Mid.push {J : List JobR} {done out : List Int} {x m j : Nat} (h : Mid J done x m out) (hm : m < (nx J x).length) (he : (nx J x)[m] = (j : Int)) (hz : Lf J done x m j - 1 = 0) (hj : j < J.length) : Mid J done x (m + 1) (out ++ [(j : Int)]) where
  ord := by
    have h1 : (j : Int) ∉ out := fun hh => by have := (h.iff j hj).1 hh; omega
    have h2 := Lf_done h.new hj (show Lf J done x (m + 1) j = 0 by rw [Lf_eq hm he]; exact hz)
    exact h.ord.snoc hj h1 fun a ha => by
      have := h2 a ha
      rw [← h.pre] at this
      exact List.mem_of_mem_take this
  pre := by
    have hl : done.length + 1 ≤ out.length := by
      have := congrArg List.length h.pre
      rw [List.length_take] at this
      simp at this
      omega
    rw [List.take_append_of_le_length hl]; exact h.pre
  new := h.new
  iff := fun y hy => by
    by_cases e : y = j
    · subst e
      rw [Lf_eq hm he]
      simp
      omega
    · rw [Lf_ne hm he e, ← h.iff y hy]
      have : ¬ ((y : Int) = (j : Int)) := by omega
      simp [this]
theorem Mid.outer {J : List JobR} {done out : List Int} {x m : Nat} (h : Mid J done x m out) (hm : (nx J x).length ≤ m) : Outer J (done.length + 1) out where
  ord := h.ord
  le := by
    have := congrArg List.length h.pre
    rw [List.length_take] at this
    simp at this
    omega
  iff := fun j hj => by
    rw [h.pre, h.iff j hj, Lf_end h.new hm hj]
    omega
end Go.Proofs.Yticdjkkcfdbdcaa
