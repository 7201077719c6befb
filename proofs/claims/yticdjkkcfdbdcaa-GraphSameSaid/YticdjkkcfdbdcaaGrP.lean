/- A round of jobs out of what is read; what each job comes to. Plain; no conditions. -/
import Derived.Test.YticdjkkcfdbdcaaGrK
import Derived.Test.YticdjkkcfdbdcaaGraphOrd
namespace Go.Proofs.Yticdjkkcfdbdcaa
open Go.Conc Go.ConcN
/-- Its way back ends within n steps. -/
def CanN (J : List JobR) : Nat → Nat → Prop
  | 0, _ => False
  | n + 1, i => i < J.length ∧ ∀ a ∈ aft J i, CanN J n a.toNat
theorem CanN.up {J : List JobR} : ∀ {n i : Nat}, CanN J n i → CanN J (n + 1) i
  | 0, _, h => h.elim
  | n + 1, i, h => ⟨h.1, fun a ha => (h.2 a ha).up⟩
theorem CanN.mono {J : List JobR} {n m i : Nat} (h : CanN J n i) (hm : n ≤ m) : CanN J m i := by
  induction hm with
  | refl => exact h
  | step _ ih => exact ih.up
theorem canN_list {J : List JobR} : ∀ (l : List Int), (∀ a ∈ l, ∃ n, CanN J n a.toNat) → ∃ n, ∀ a ∈ l, CanN J n a.toNat
  | [], _ => ⟨0, fun a h => by cases h⟩
  | a :: l, h => by
    obtain ⟨n, hn⟩ := h a (List.mem_cons_self ..)
    obtain ⟨m, hm⟩ := canN_list l fun b hb => h b (List.mem_cons_of_mem _ hb)
    refine ⟨max n m, fun b hb => ?_⟩
    rcases List.mem_cons.1 hb with rfl | hb
    · exact hn.mono (Nat.le_max_left ..)
    · exact (hm b hb).mono (Nat.le_max_right ..)
theorem canN_of {J : List JobR} {i : Nat} (h : Can J i) : ∃ n, CanN J n i := by
  induction h with
  | mk i hi _ ih =>
    obtain ⟨n, hn⟩ := canN_list (aft J i) ih
    exact ⟨n + 1, hi, hn⟩
theorem canN_all {J : List JobR} (h : ∀ i, i < J.length → Can J i) : ∃ n, ∀ i, i < J.length → CanN J n i := by
  have : ∀ m, m ≤ J.length → ∃ n, ∀ i, i < m → CanN J n i := by
    intro m
    induction m with
    | zero => exact fun _ => ⟨0, fun i hi => absurd hi (Nat.not_lt_zero _)⟩
    | succ m ih =>
      intro hm
      obtain ⟨n, hn⟩ := ih (by omega)
      obtain ⟨n', hn'⟩ := canN_of (h m (by omega))
      refine ⟨max n n', fun i hi => ?_⟩
      rcases Nat.lt_or_ge i m with h1 | h1
      · exact (hn i h1).mono (Nat.le_max_left ..)
      · obtain rfl : i = m := by omega
        exact hn'.mono (Nat.le_max_right ..)
  exact this _ (Nat.le_refl _)
def numJ (J : List JobR) (k : Nat) : Int := ((J[k]?).map (·.n)).getD 0
theorem numJ_eq {J : List JobR} {k : Nat} (h : k < J.length) : numJ J k = J[k].n := by simp [numJ, h]
/-- What a job comes to, looked back n steps. -/
def valN (J : List JobR) : Nat → Nat → Int
  | 0, _ => 0
  | n + 1, k => (aft J k).foldl (fun s a => step31 s (valN J n a.toNat)) (numJ J k)
theorem foldl_same {α β : Type} {f g : β → α → β} : ∀ (l : List α) (b : β), (∀ a ∈ l, ∀ b, f b a = g b a) → l.foldl f b = l.foldl g b
  | [], _, _ => rfl
  | a :: l, b, h => by
    rw [List.foldl_cons, List.foldl_cons, h a (List.mem_cons_self ..) b]
    exact foldl_same l _ fun x hx => h x (List.mem_cons_of_mem _ hx)
theorem valN_up {J : List JobR} : ∀ {n i : Nat}, CanN J n i → valN J (n + 1) i = valN J n i
  | 0, _, h => h.elim
  | n + 1, i, h => by
    show (aft J i).foldl (fun s a => step31 s (valN J (n + 1) a.toNat)) _ = (aft J i).foldl (fun s a => step31 s (valN J n a.toNat)) _
    exact foldl_same _ _ fun a ha b => by rw [valN_up (h.2 a ha)]
theorem least_of {p : Nat → Prop} (h : ∃ n, p n) : ∃ n, p n ∧ ∀ m, p m → n ≤ m := by
  obtain ⟨n, hn⟩ := h
  induction n using Nat.strongRecOn with
  | _ n ih =>
    by_cases hx : ∃ m, m < n ∧ p m
    · obtain ⟨m, h1, h2⟩ := hx
      exact ih m h1 h2
    · exact ⟨n, hn, fun m hm => Nat.le_of_not_lt fun hlt => hx ⟨m, hlt, hm⟩⟩
open Classical in
/-- Its rank. -/
noncomputable def rkJ (J : List JobR) (k : Nat) : Nat := if h : ∃ n, CanN J n k ∧ ∀ m, CanN J m k → n ≤ m then Classical.choose h else 0
theorem rkJ_lt {J : List JobR} {k : Nat} (h : ∃ n, CanN J n k) {a : Int} (ha : a ∈ aft J k) : rkJ J a.toNat < rkJ J k := by
  have hk := least_of h
  unfold rkJ
  rw [dif_pos hk]
  obtain ⟨hs, hm⟩ := Classical.choose_spec hk
  generalize Classical.choose hk = r at hs hm
  cases r with
  | zero => exact hs.elim
  | succ n =>
    have h1 := hs.2 a ha
    have h2 := least_of (p := fun m => CanN J m a.toNat) ⟨n, h1⟩
    rw [dif_pos h2]
    exact Nat.lt_succ_of_le ((Classical.choose_spec h2).2 n h1)
open Classical in
/-- How far one must look back. -/
noncomputable def topJ (J : List JobR) : Nat := if h : ∃ n, ∀ i, i < J.length → CanN J n i then Classical.choose h else 0
noncomputable def valJ (J : List JobR) (k : Nat) : Int := valN J (topJ J) k
theorem topJ_all {J : List JobR} (h : ∀ i, i < J.length → Can J i) {i : Nat} (hi : i < J.length) : CanN J (topJ J) i := by
  unfold topJ
  rw [dif_pos (canN_all h)]
  exact Classical.choose_spec (canN_all h) i hi
theorem valJ_eq {J : List JobR} (h : ∀ i, i < J.length → Can J i) {k : Nat} (hk : k < J.length) : valJ J k = (aft J k).foldl (fun s a => step31 s (valJ J a.toNat)) (numJ J k) := by
  unfold valJ
  rw [← valN_up (topJ_all h hk)]
  rfl
/-- The round. -/
noncomputable def parJ (J : List JobR) : GPar := ⟨J.length, fun k => (aft J k).map Int.toNat, fun a => (nx J a).map Int.toNat, rkJ J⟩
theorem count_toNat (l : List Int) (h : ∀ a ∈ l, 0 ≤ a) (x : Nat) : (l.map Int.toNat).count x = l.count (x : Int) := by
  induction l with
  | nil => rfl
  | cons a l ih =>
    rw [List.map_cons, List.count_cons, List.count_cons, ih fun b hb => h b (List.mem_cons_of_mem _ hb)]
    have := h a (List.mem_cons_self ..)
    congr 1
    by_cases e : a.toNat = x
    · have : a = (x : Int) := by omega
      simp [this]
    · have : ¬ a = (x : Int) := by omega
      simp [this, e]
theorem sum_count (l : List Int) (N : Nat) (h : ∀ a ∈ l, 0 ≤ a ∧ a < (N : Int)) : ((List.range N).map fun (x : Nat) => l.count (x : Int)).sum = l.length := by
  induction l with
  | nil => simp; induction N with
    | zero => rfl
    | succ n ih => rw [List.range_succ, List.map_append, List.sum_append, ih fun a ha => by cases ha]; rfl
  | cons a l ih =>
    have ih := ih fun b hb => h b (List.mem_cons_of_mem _ hb)
    obtain ⟨h0, h1⟩ := h a (List.mem_cons_self ..)
    have := msum_one (f := fun (x : Nat) => (a :: l).count (x : Int)) (g := fun (x : Nat) => l.count (x : Int)) a.toNat (fun i hi => by
      rw [List.count_cons]
      have : ¬ a = (i : Int) := fun e => hi (by omega)
      simp [this]) (x := 1) (by
      have e : ((a.toNat : Nat) : Int) = a := Int.toNat_of_nonneg h0
      rw [List.count_cons, e]
      simp) (List.range N) List.nodup_range (List.mem_range.2 (by omega))
    rw [this, ih, List.length_cons]
structure GoodJ (J : List JobR) : Prop where
  inR : ∀ k, ∀ a ∈ aft J k, 0 ≤ a ∧ a < (J.length : Int)
  can : ∀ i, i < J.length → Can J i
theorem Good.toJ {J : List JobR} (h : Good J) : GoodJ J := by
  refine ⟨fun k a ha => ?_, h.can⟩
  by_cases hk : k < J.length
  · rw [aft_eq hk] at ha
    exact (h.ok k hk).2 a ha
  · unfold aft at ha
    rw [List.getElem?_eq_none (Nat.le_of_not_lt hk)] at ha
    cases ha
section
variable {J : List JobR}
theorem nx_mem {x : Nat} {a : Int} (h : a ∈ nx J x) : ∃ k : Nat, a = k ∧ k < J.length := mem_nxTo h
theorem parJ_wf (h : GoodJ J) : GWf (parJ J) where
  lt a _ k hk := by
    obtain ⟨y, hy, rfl⟩ := List.mem_map.1 (show k ∈ (nx J a).map Int.toNat from hk)
    obtain ⟨z, rfl, hz⟩ := nx_mem hy
    exact hz
  tot k hk := by
    have hk' : k < J.length := hk
    show ((List.range J.length).map fun a => ((nx J a).map Int.toNat).count k).sum = ((aft J k).map Int.toNat).length
    rw [List.length_map, ← sum_count (aft J k) J.length (h.inR k)]
    congr 1
    refine List.map_congr_left fun x _ => ?_
    rw [count_toNat _ fun a ha => by obtain ⟨z, rfl, _⟩ := nx_mem ha; omega]
    exact count_nx J x k hk'
  mem k hk a ha := by
    have hk' : k < J.length := hk
    obtain ⟨y, hy, rfl⟩ := List.mem_map.1 (show a ∈ (aft J k).map Int.toNat from ha)
    obtain ⟨h0, h1⟩ := h.inR k y hy
    refine ⟨show y.toNat < J.length by omega, ?_, rkJ_lt (canN_of (h.can k hk')) hy⟩
    show k ∈ (nx J y.toNat).map Int.toNat
    refine List.mem_map.2 ⟨(k : Int), ?_, by simp⟩
    rw [← List.count_pos_iff, count_nx J _ k hk', Int.toNat_of_nonneg h0]
    exact List.count_pos_iff.2 hy
theorem parJ_back (k : Nat) (hk : k < (parJ J).N) (a : Nat) (h : k ∈ (parJ J).nxt a) : a ∈ (parJ J).aft k := by
  have hk' : k < J.length := hk
  obtain ⟨y, hy, rfl⟩ := List.mem_map.1 (show k ∈ (nx J a).map Int.toNat from h)
  obtain ⟨z, rfl, hz⟩ := nx_mem hy
  have := List.count_pos_iff.2 hy
  rw [count_nx J a z hz] at this
  show a ∈ (aft J z).map Int.toNat
  exact List.mem_map.2 ⟨(a : Int), List.count_pos_iff.1 this, by simp⟩
theorem parJ_val (h : GoodJ J) {k : Nat} (hk : k < J.length) : valJ J k = ((parJ J).aft k).foldl (fun n a => step31 n (valJ J a)) (numJ J k) := by
  rw [valJ_eq h.can hk]
  show _ = ((aft J k).map Int.toNat).foldl _ _
  rw [List.foldl_map]
end
end Go.Proofs.Yticdjkkcfdbdcaa
