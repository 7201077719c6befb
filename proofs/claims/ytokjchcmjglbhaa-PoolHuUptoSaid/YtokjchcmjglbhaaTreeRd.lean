/- Trees and ints as arguments are read: what the reading says of memory, where it is of bounded bulk. No conditions but that bound. -/
import Derived.Test.YtokjchcmjglbhaaLaw
import Derived.Test.YtokjchcmjglbhaaRows
import Derived.Deep.Slices
import Derived.Deep.Strs
import Derived.Deep.Fields
import Derived.ChangeSame
import Derived.OpenShut
namespace Go.Proofs.Ytokjchcmjglbhaa
open Go.ChangeShapes Go.WideShapes Go.ChangeAt Go.RowKit Go.Deep

theorem cell_block_lt {w : World} {p : Addr} {v : Value} (h : w.cell? p = some v) : p.block < w.heap.size := by
  rcases Nat.lt_or_ge p.block w.heap.size with hl | hl
  · exact hl
  · simp [World.cell?, Array.getElem?_eq_none hl] at h
theorem list_of_each {α : Type} {p : Nat → α → Prop} : ∀ {n : Nat}, (∀ i, i < n → ∃ x, p i x) → ∃ l : List α, l.length = n ∧ ∀ (k : Nat) (h : k < l.length), p k l[k]
  | 0, _ => ⟨[], rfl, fun k h => absurd h (by simp)⟩
  | n + 1, h => by
    obtain ⟨l, hl, hp⟩ := list_of_each (p := p) (n := n) fun i hi => h i (by omega)
    obtain ⟨x, hx⟩ := h n (by omega)
    refine ⟨l ++ [x], by simp [hl], fun k hk => ?_⟩
    rw [List.length_append, List.length_singleton] at hk
    by_cases e : k < l.length
    · rw [List.getElem_append_left e]; exact hp k e
    · obtain rfl : k = n := by omega
      rw [List.getElem_append_right (by omega)]
      simpa [hl] using hx
theorem bulk_one {H : Type} (d : DataW H) : 1 ≤ Rows.uptoBulk d := by
  cases d with
  | lit l => cases l <;> simp [Rows.uptoBulk]
  | nil => simp [Rows.uptoBulk]
  | ptr d => simp [Rows.uptoBulk]
  | slice elems spare => simp [Rows.uptoBulk]
  | agg parts => simp [Rows.uptoBulk]
  | iface t d => simp [Rows.uptoBulk]
  | map entries => simp [Rows.uptoBulk]
  | held h => simp [Rows.uptoBulk]
theorem bulk_part {H : Type} {d : DataW H} {l : List (DataW H)} (h : d ∈ l) : Rows.uptoBulk d ≤ Rows.uptoBulkAll l := by
  induction l with
  | nil => cases h
  | cons x r ih =>
    simp only [Rows.uptoBulkAll]
    cases List.mem_cons.1 h with
    | inl e => subst e; omega
    | inr e => have := ih e; omega
theorem bulk_length {H : Type} (l : List (DataW H)) : l.length ≤ Rows.uptoBulkAll l := by
  induction l with
  | nil => simp
  | cons x r ih => have := bulk_one x; simp only [Rows.uptoBulkAll, List.length_cons]; omega
theorem bulk_nodes {H : Type} {D : Nat → DataW H} : ∀ (l : List TreeR) (a : Nat), (∀ (k : Nat) (h : k < l.length), l[k].nodes ≤ Rows.uptoBulk (D (a + k))) → nodesL l ≤ Rows.uptoBulkAll ((List.range' a l.length).map D)
  | [], _, _ => by simp [nodesL]
  | t :: l, a, h => by
    have h0 := h 0 (by simp)
    have ih := bulk_nodes l (a + 1) fun k hk => by
      have := h (k + 1) (by simpa using hk)
      simp only [List.getElem_cons_succ] at this
      rwa [show a + 1 + k = a + (k + 1) by omega]
    simp only [List.getElem_cons_zero, Nat.add_zero] at h0
    simp only [nodesL, List.length_cons, List.range'_succ, List.map_cons, Rows.uptoBulkAll]
    omega
/-- A list of ints, read. -/
theorem ints_read {H : Type} {enc : TypeId × Value → H} {w : World} {base : Nat} {held : Bool} {fuel : Nat} {v : Value} {y : DataW H × List MemPlace}
    (h : DataW.trod enc Try.prog w base (fun _ => true) held fuel 25 [v] = some y) (hz : Rows.uptoBulk y.1 ≤ 1048576) :
    ∃ (A : Option Addr) (c : Nat) (zs : List Int), v = .slice A zs.length c ∧ Rd w w.heap.size A (ints zs) ∧ Fits zs.length := by
  rcases open_ints Try.underlying25 Try.underlying3 (by kernel_rfl) h with ⟨hcs, hx⟩ | ⟨a, len, cap, zs, hcs, _, hl, hm, hzl, hx, hcell, hwz⟩
  · simp at hcs
    subst hcs
    exact ⟨none, 0, [], rfl, Rd.nil _ _ _, by simp [Fits]⟩
  · simp at hcs
    subst hcs
    simp only [if_true] at hzl
    have hlz : (zs.take len).length = len := by rw [List.length_take]; omega
    refine ⟨some a, cap, zs.take len, by rw [hlz], fun hne => ?_, ?_⟩
    · have h0 : 0 < len := by
        rcases Nat.eq_zero_or_pos len with h | h
        · subst h; simp [ints] at hne
        · exact h
      have hc0 := hcell 0 (by omega)
      obtain ⟨b, o, sp⟩ := a
      have hs : sp = none := by simpa [Addr.add] using World.cell?_spot hc0
      subst hs
      have hb := cell_block_lt hc0
      rw [add_block] at hb
      refine ⟨b, o, rfl, hb, fun i u hu => ?_⟩
      have hi : i < len := by
        have := (List.getElem?_eq_some_iff.1 hu).1
        simp [ints] at this; omega
      rw [← Addr.add_lit', hcell i (by omega), ← hu]
      simp [ints, hi, show i < zs.length by omega, List.getD]
    · subst hx
      simp only [Rows.uptoBulk] at hz
      have h1 := bulk_length (lits (H := H) .i64 (zs.take len))
      have h2 : (lits (H := H) .i64 (zs.take len)).length = len := by simp [lits]; omega
      rw [hlz]
      unfold Fits
      omega
/-- A tree, read. -/
theorem tree_read {H : Type} {enc : TypeId × Value → H} {w : World} {base : Nat} {held : Bool} : ∀ (m : Nat) {fuel : Nat} {cs : List Value} {y : DataW H × List MemPlace},
    DataW.trod enc Try.prog w base (fun _ => true) held fuel 24 cs = some y → Rows.uptoBulk y.1 ≤ m → m ≤ 1048576 → ∃ t : TreeR, cs = t.cells ∧ RdT w w.heap.size t ∧ t.nodes ≤ Rows.uptoBulk y.1 := by
  intro m
  induction m with
  | zero => intro fuel cs y _ hz; have := bulk_one y.1; omega
  | succ m ih =>
    intro fuel cs y h hz hm
    obtain ⟨y0, y1, y2, n, rfl, hl, h0, h1, h2⟩ := trod_struct3 Try.underlying24 h
    have hl3 : cs.length = 3 := by rw [hl]; kernel_rfl
    match cs, hl3 with
    | [v0, v1, v2], _ =>
    change DataW.trod enc Try.prog w base (fun _ => true) held n 3 [v0] = some y0 at h0
    change DataW.trod enc Try.prog w base (fun _ => true) held n 2 [v1] = some y1 at h1
    change DataW.trod enc Try.prog w base (fun _ => true) held n 22 [v2] = some y2 at h2
    obtain ⟨n0, e0, -, -⟩ := DataW.trod_int (Try.underlying3) h0
    obtain ⟨n1, e1, -, -⟩ := DataW.trod_int (Try.underlying2) h1
    simp only [List.cons.injEq, and_true] at e0 e1
    subst e0 e1
    simp only [Rows.uptoBulk, Rows.uptoBulkAll] at hz ⊢
    have hb0 := bulk_one y0.1
    have hb1 := bulk_one y1.1
    rcases open_slice Try.underlying22 h2 with ⟨hcs, hx⟩ | ⟨a, len, cap, mm, nn, D, Pl, hcs, _, hlc, hcm, hmm, hx, hi⟩
    · simp at hcs
      subst hcs
      refine ⟨.mk n0 n1 none 0 [], rfl, ⟨_, fun h => absurd rfl h, fun _ h => (by cases h), by simp [Fits, TreeR.kids]⟩, ?_⟩
      simp only [TreeR.nodes, nodesL]
      omega
    · simp at hcs
      subst hcs
      simp only [if_true] at hmm
      subst hmm
      subst hx
      simp only [Rows.uptoBulk] at hz ⊢
      rw [show Try.prog.cellsOf 24 = 3 by kernel_rfl] at hi
      have each : ∀ i, i < len → ∃ t : TreeR, (∀ j, j < 3 → w.cell? (a.add (i * 3 + j)) = t.cells[j]?) ∧ RdT w w.heap.size t ∧ t.nodes ≤ Rows.uptoBulk (D i) := fun i hil => by
        obtain ⟨cs', hc, ht'⟩ := hi i (by omega)
        have hdi : Rows.uptoBulk (D i) ≤ Rows.uptoBulkAll ((List.range len).map D) := bulk_part (List.mem_map.2 ⟨i, List.mem_range.2 hil, rfl⟩)
        obtain ⟨t, rfl, hr, hnd⟩ := ih ht' (by show Rows.uptoBulk (D i) ≤ m; omega) (by omega)
        obtain ⟨_, hcl, hat⟩ := World.cells?_some hc
        refine ⟨t, fun j hj => ?_, hr, hnd⟩
        rw [← Go.Deep.add_add, hat j hj]
      obtain ⟨K, hK, hp⟩ := list_of_each each
      have hKn := bulk_nodes (D := D) K 0 fun k hk => by rw [Nat.zero_add]; exact (hp k hk).2.2
      rw [hK, ← List.range_eq_range'] at hKn
      have hlen := len_le K
      refine ⟨.mk n0 n1 (some a) mm K, by rw [← hK]; rfl, ⟨_, fun hne => ?_, fun k hk => ?_, by simp only [TreeR.kids, Fits]; omega⟩, ?_⟩
      · simp only [TreeR.kids, TreeR.sA] at hne ⊢
        have h0 : 0 < K.length := List.length_pos_iff.2 hne
        have hc0 := (hp 0 h0).1 0 (by omega)
        obtain ⟨b, o, sp⟩ := a
        have hs : sp = none := by simpa [Addr.add] using World.cell?_spot (hc0.trans rfl)
        subst hs
        have hb := cell_block_lt (hc0.trans rfl)
        rw [add_block] at hb
        refine ⟨b, o, rfl, hb, fun i hi => ?_⟩
        obtain ⟨hc, _, _⟩ := hp i hi
        have k0 := hc 0 (by omega)
        have k1 := hc 1 (by omega)
        have k2 := hc 2 (by omega)
        simp only [Addr.add_lit', TreeR.cells, List.getElem?_cons_zero, List.getElem?_cons_succ] at k0 k1 k2
        exact ⟨k0, k1, k2⟩
      · obtain ⟨k', hk', rfl⟩ := List.getElem_of_mem hk
        exact (hp k' hk').2.1
      · simp only [TreeR.nodes]
        omega
end Go.Proofs.Ytokjchcmjglbhaa
