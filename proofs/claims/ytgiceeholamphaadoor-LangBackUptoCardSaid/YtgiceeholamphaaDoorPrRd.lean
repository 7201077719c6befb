/- Programs as arguments are read: what the reading says of memory, where it is of bounded bulk. No conditions but that bound. -/
import Derived.Test.YtgiceeholamphaaDoorApt
import Derived.Test.YtgiceeholamphaaDoorRows
import Derived.Deep.Slices
import Derived.Deep.Strs
import Derived.Deep.SlicePairs
import Derived.Deep.Fields
import Derived.Lib.SmallJoins
import Derived.ChangeSame
import Derived.OpenShut
namespace Go.Proofs.YtgiceeholamphaaDoor
open Go.ChangeShapes Go.WideShapes Go.ChangeAt Go.RowKit Go.Deep Go.Joins

theorem cell_block_lt {w : World} {p : Addr} {v : Value} (h : w.cell? p = some v) : p.block < w.heap.size := by
  rcases Nat.lt_or_ge p.block w.heap.size with hl | hl
  · exact hl
  · simp [World.cell?, Array.getElem?_eq_none hl] at h
theorem list1 {α : Type} {cs : List α} (h : cs.length = 1) : ∃ a, cs = [a] := by
  match cs, h with
  | [a], _ => exact ⟨a, rfl⟩
theorem list2 {α : Type} {cs : List α} (h : cs.length = 2) : ∃ a b, cs = [a, b] := by
  match cs, h with
  | [a, b], _ => exact ⟨a, b, rfl⟩
theorem list4 {α : Type} {cs : List α} (h : cs.length = 4) : ∃ a b c d, cs = [a, b, c, d] := by
  match cs, h with
  | [a, b, c, d], _ => exact ⟨a, b, c, d, rfl⟩
theorem list8 {α : Type} {cs : List α} (h : cs.length = 8) : ∃ a b c d e f g k, cs = [a, b, c, d, e, f, g, k] := by
  match cs, h with
  | [a, b, c, d, e, f, g, k], _ => exact ⟨a, b, c, d, e, f, g, k, rfl⟩
theorem list_of_each {α : Type} {p : Nat → α → Prop} : ∀ {n : Nat}, (∀ i, i < n → ∃ x, p i x) → ∃ l : List α, l.length = n ∧ ∀ (k : Nat) (h : k < l.length), p k l[k]
  | 0, _ => ⟨[], rfl, fun k h => absurd h (by simp)⟩
  | n + 1, h => by
    obtain ⟨l, hl, hp⟩ := list_of_each (p := p) (n := n) fun i hi => h i (by omega)
    obtain ⟨x, hx⟩ := h n (by omega)
    refine ⟨l ++ [x], by simp [hl], fun k hk => ?_⟩
    rw [List.length_append, List.length_singleton] at hk
    by_cases e : k < l.length
    · rw [List.getElem_append_left e]; exact hp k e
    · obtain rfl : k = n := by omega
      rw [List.getElem_append_right (by omega)]
      simpa [hl] using hx
theorem bulk_one {H : Type} (d : DataW H) : 1 ≤ Rows.uptoBulk d := by
  cases d with
  | lit l => cases l <;> simp [Rows.uptoBulk]
  | nil => simp [Rows.uptoBulk]
  | ptr d => simp [Rows.uptoBulk]
  | slice elems spare => simp [Rows.uptoBulk]
  | agg parts => simp [Rows.uptoBulk]
  | iface t d => simp [Rows.uptoBulk]
  | map entries => simp [Rows.uptoBulk]
  | held h => simp [Rows.uptoBulk]
theorem bulk_part {H : Type} {d : DataW H} {l : List (DataW H)} (h : d ∈ l) : Rows.uptoBulk d ≤ Rows.uptoBulkAll l := by
  induction l with
  | nil => cases h
  | cons x r ih =>
    simp only [Rows.uptoBulkAll]
    cases List.mem_cons.1 h with
    | inl e => subst e; omega
    | inr e => have := ih e; omega
theorem bulk_length {H : Type} (l : List (DataW H)) : l.length ≤ Rows.uptoBulkAll l := by
  induction l with
  | nil => simp
  | cons x r ih => have := bulk_one x; simp only [Rows.uptoBulkAll, List.length_cons]; omega
theorem bulk_sum {H α : Type} {f : α → Nat} {D : Nat → DataW H} : ∀ (l : List α) (a : Nat), (∀ (k : Nat) (h : k < l.length), f l[k] ≤ Rows.uptoBulk (D (a + k))) → (l.map f).sum ≤ Rows.uptoBulkAll ((List.range' a l.length).map D)
  | [], _, _ => by simp
  | t :: l, a, h => by
    have h0 := h 0 (by simp)
    have ih := bulk_sum l (a + 1) fun k hk => by
      have := h (k + 1) (by simpa using hk)
      simp only [List.getElem_cons_succ] at this
      rwa [show a + 1 + k = a + (k + 1) by omega]
    simp only [List.getElem_cons_zero, Nat.add_zero] at h0
    simp only [List.map_cons, List.sum_cons, List.length_cons, List.range'_succ, Rows.uptoBulkAll]
    omega
theorem nodesE_sum (l : List ExprR) : nodesE l = (l.map ExprR.nodes).sum := by
  induction l with
  | nil => simp [nodesE]
  | cons x l ih => simp [nodesE, ih]
theorem nodesS_sum (l : List StatR) : nodesS l = (l.map StatR.nodes).sum := by
  induction l with
  | nil => simp [nodesS]
  | cons x l ih => simp [nodesS, ih]
theorem nodesB_sum (l : List BlockR) : nodesB l = (l.map BlockR.nodes).sum := by
  induction l with
  | nil => simp [nodesB]
  | cons x l ih => simp [nodesB, ih]
section
variable {H : Type} {enc : TypeId × Value → H} {P : Program} {w : World} {base : Nat} {spare : Nat → Bool} {held : Bool}
theorem trod_struct5 {t : TypeId} {f0 f1 f2 f3 f4 : Field} {fuel : Nat} {cs : List Value} {x : DataW H × List MemPlace} (ht : P.underlying t = some (.struct #[f0, f1, f2, f3, f4])) (h : DataW.trod enc P w base spare held fuel t cs = some x) :
    ∃ y0 y1 y2 y3 y4 n, x = (.agg [y0.1, y1.1, y2.1, y3.1, y4.1], y0.2 ++ (y1.2 ++ (y2.2 ++ (y3.2 ++ y4.2)))) ∧ cs.length = P.cellsOf t ∧ DataW.trod enc P w base spare held n f0.type ((cs.drop f0.offset).take (P.cellsOf f0.type)) = some y0 ∧
      DataW.trod enc P w base spare held n f1.type ((cs.drop f1.offset).take (P.cellsOf f1.type)) = some y1 ∧ DataW.trod enc P w base spare held n f2.type ((cs.drop f2.offset).take (P.cellsOf f2.type)) = some y2 ∧
      DataW.trod enc P w base spare held n f3.type ((cs.drop f3.offset).take (P.cellsOf f3.type)) = some y3 ∧ DataW.trod enc P w base spare held n f4.type ((cs.drop f4.offset).take (P.cellsOf f4.type)) = some y4 := by
  obtain ⟨xs, n, _, rfl, hl, hlen, hf⟩ := DataW.trod_struct ht h
  match xs, hlen with
  | [y0, y1, y2, y3, y4], _ => exact ⟨y0, y1, y2, y3, y4, n, by simp, hl, by simpa using hf 0 f0 rfl, by simpa using hf 1 f1 rfl, by simpa using hf 2 f2 rfl, by simpa using hf 3 f3 rfl, by simpa using hf 4 f4 rfl⟩
end
/-- A slice, read: its elements one behind the other, each by its own law; of bounded bulk. -/
theorem slice_read {H : Type} {enc : TypeId × Value → H} {w : World} {base : Nat} {held : Bool} {t e : TypeId} {α : Type} (sz : Nat) (hsz : 0 < sz) (cells : α → List Value) (size : α → Nat) (ok : α → Prop)
    (ht : Tryd.prog.underlying t = some (.slice e)) (hc : Tryd.prog.cellsOf e = sz) {fuel : Nat} {v : Value} {y : DataW H × List MemPlace} (h : DataW.trod enc Tryd.prog w base (fun _ => true) held fuel t [v] = some y)
    (hl : ∀ x : α, ∃ u r, cells x = u :: r)
    (each : ∀ (n : Nat) (cs : List Value) (z : DataW H × List MemPlace), DataW.trod enc Tryd.prog w base (fun _ => true) held n e cs = some z → Rows.uptoBulk z.1 < Rows.uptoBulk y.1 → ∃ x, cs = cells x ∧ ok x ∧ size x ≤ Rows.uptoBulk z.1) :
    ∃ (A : Option Addr) (c : Nat) (l : List α), v = .slice A l.length c ∧ l.length ≤ c ∧ l.length + 1 ≤ Rows.uptoBulk y.1 ∧ (l.map size).sum + 1 ≤ Rows.uptoBulk y.1 ∧ (∀ x ∈ l, ok x) ∧
      (l ≠ [] → ∃ b o, A = some ⟨b, o, none⟩ ∧ b < w.heap.size ∧ ∀ (i : Nat) (hi : i < l.length) (j : Nat), j < sz → w.cell? ⟨b, o + (i * sz + j), none⟩ = (cells l[i])[j]?) := by
  rcases open_slice ht h with ⟨hcs, hx⟩ | ⟨a, len, cap, mm, nn, D, Pl, hcs, _, hlc, hcm, hmm, hx, hi⟩
  · simp at hcs
    subst hcs
    subst hx
    exact ⟨none, 0, [], rfl, Nat.le_refl _, by simp [Rows.uptoBulk], by simp [Rows.uptoBulk], (fun x hx => by cases hx), fun hn => absurd rfl hn⟩
  · simp at hcs
    subst hcs
    simp only [if_true] at hmm
    subst hmm
    rw [hc] at hi
    have hb : Rows.uptoBulk y.1 = Rows.uptoBulkAll ((List.range len).map D) + Rows.uptoBulkAll ((List.range (mm - len)).map fun j => D (len + j)) + 1 := by rw [hx]; simp only [Rows.uptoBulk]
    have each' : ∀ i, i < len → ∃ x : α, (∀ j, j < sz → w.cell? (a.add (i * sz + j)) = (cells x)[j]?) ∧ ok x ∧ size x ≤ Rows.uptoBulk (D i) := fun i hil => by
      obtain ⟨cs', hcc, ht'⟩ := hi i (by omega)
      have hdi : Rows.uptoBulk (D i) ≤ Rows.uptoBulkAll ((List.range len).map D) := bulk_part (List.mem_map.2 ⟨i, List.mem_range.2 hil, rfl⟩)
      obtain ⟨x, rfl, hok, hsx⟩ := each _ _ _ ht' (by show Rows.uptoBulk (D i) < _; omega)
      obtain ⟨_, hcl, hat⟩ := World.cells?_some hcc
      exact ⟨x, fun j hj => by rw [← Go.Deep.add_add, hat j hj], hok, hsx⟩
    obtain ⟨K, hK, hp⟩ := list_of_each each'
    have hKn := bulk_sum (f := size) (D := D) K 0 fun k hk => by rw [Nat.zero_add]; exact (hp k hk).2.2
    rw [hK, ← List.range_eq_range'] at hKn
    have hlen := bulk_length ((List.range len).map D)
    simp only [List.length_map, List.length_range] at hlen
    refine ⟨some a, mm, K, by rw [hK], by omega, by omega, by omega, fun x hx => ?_, fun hne => ?_⟩
    · obtain ⟨k, hk, rfl⟩ := List.getElem_of_mem hx
      exact (hp k hk).2.1
    · have h0 : 0 < K.length := List.length_pos_iff.2 hne
      obtain ⟨u, r, hur⟩ := hl K[0]
      have hc0 := (hp 0 h0).1 0 hsz
      rw [hur] at hc0
      have hc0 : w.cell? (a.add (0 * sz + 0)) = some u := hc0
      obtain ⟨b, o, sp⟩ := a
      have hs : sp = none := by simpa [Addr.add] using World.cell?_spot hc0
      subst hs
      have hbl := cell_block_lt hc0
      rw [add_block] at hbl
      refine ⟨b, o, rfl, hbl, fun i hi j hj => ?_⟩
      rw [← Addr.add_lit']
      exact (hp i hi).1 j hj
set_option maxRecDepth 100000 in
/-- An expression, read. -/
theorem expr_read {H : Type} {enc : TypeId × Value → H} {w : World} {base : Nat} {held : Bool} : ∀ (m : Nat) {fuel : Nat} {cs : List Value} {y : DataW H × List MemPlace},
    DataW.trod enc Tryd.prog w base (fun _ => true) held fuel 46 cs = some y → Rows.uptoBulk y.1 ≤ m → m ≤ 1048576 → ∃ e : ExprR, cs = e.cells ∧ RdE w w.heap.size e ∧ e.nodes ≤ Rows.uptoBulk y.1 := by
  intro m
  induction m with
  | zero => intro fuel cs y _ hz; have := bulk_one y.1; omega
  | succ m ih =>
    intro fuel cs y h hz hm
    obtain ⟨y0, y1, y2, y3, n, rfl, hl, h0, h1, h2, h3⟩ := trod_struct4 Tryd.underlying46 h
    have hl4 : cs.length = 4 := by rw [hl]; kernel_rfl
    obtain ⟨v0, v1, v2, v3, rfl⟩ := list4 hl4
    change DataW.trod enc Tryd.prog w base (fun _ => true) held n 3 [v0] = some y0 at h0
    change DataW.trod enc Tryd.prog w base (fun _ => true) held n 2 [v1] = some y1 at h1
    change DataW.trod enc Tryd.prog w base (fun _ => true) held n 9 [v2] = some y2 at h2
    change DataW.trod enc Tryd.prog w base (fun _ => true) held n 44 [v3] = some y3 at h3
    obtain ⟨n0, e0, -, -⟩ := DataW.trod_int (Tryd.underlying3) h0
    obtain ⟨n1, e1, -, -⟩ := DataW.trod_int (Tryd.underlying2) h1
    obtain ⟨s2, e2, -, -⟩ := DataW.trod_string (Tryd.underlying9) h2
    simp only [List.cons.injEq, and_true] at e0 e1 e2
    subst e0 e1 e2
    simp only [Rows.uptoBulk, Rows.uptoBulkAll] at hz ⊢
    have hb0 := bulk_one y0.1
    obtain ⟨A, c, l, rfl, _, hlen, hsum, hok, hrow⟩ := slice_read 4 (by decide) ExprR.cells ExprR.nodes (RdE w w.heap.size) Tryd.underlying44 (by kernel_rfl) h3 (fun x => ⟨_, _, rfl⟩) fun n cs z hz' hlt => by
      obtain ⟨e, he, hr, hn⟩ := ih hz' (by omega) (by omega)
      exact ⟨e, he, hr, hn⟩
    refine ⟨.mk n0 n1 s2 A c l, rfl, ⟨_, fun hne => ?_, hok, by simp only [ExprR.kids, Fits]; omega⟩, ?_⟩
    · simp only [ExprR.kids, ExprR.sA] at hne ⊢
      obtain ⟨b, o, e, hb, hc⟩ := hrow hne
      exact ⟨b, o, e, hb, fun i hi => ExprAt.of_get fun j hj => by rw [Nat.add_assoc]; exact hc i hi j hj⟩
    · rw [ExprR.nodes_eq]
      simp only [ExprR.kids]
      rw [nodesE_sum]
      omega
/-- A block, read, where its statements are. -/
theorem block_read {H : Type} {enc : TypeId × Value → H} {w : World} {base : Nat} {held : Bool} {fuel : Nat} {v : Value} {y : DataW H × List MemPlace} (h : DataW.trod enc Tryd.prog w base (fun _ => true) held fuel 22 [v] = some y) (hz : Rows.uptoBulk y.1 ≤ 1048576)
    (each : ∀ (n : Nat) (cs : List Value) (z : DataW H × List MemPlace), DataW.trod enc Tryd.prog w base (fun _ => true) held n 49 cs = some z → Rows.uptoBulk z.1 < Rows.uptoBulk y.1 → ∃ x : StatR, cs = x.cells ∧ (RdS w w.heap.size x ∧ CapS x) ∧ x.nodes ≤ Rows.uptoBulk z.1) :
    ∃ k : BlockR, v = k.val ∧ RdB w w.heap.size k ∧ CapL k.l ∧ k.nodes ≤ Rows.uptoBulk y.1 := by
  obtain ⟨A, c, l, rfl, _, hlen, hsum, hok, hrow⟩ := slice_read 8 (by decide) StatR.cells StatR.nodes (fun x => RdS w w.heap.size x ∧ CapS x) Tryd.underlying22 (by kernel_rfl) h (fun x => ⟨_, _, rfl⟩) each
  refine ⟨.mk A c l, rfl, ⟨fun hne => ?_, fun x hx => (hok x hx).1, by simp only [BlockR.l, Fits]; omega⟩, fun x hx => (hok x hx).2, ?_⟩
  · simp only [BlockR.l, BlockR.A] at hne ⊢
    obtain ⟨b, o, e, hb, hc⟩ := hrow hne
    exact ⟨b, o, e, hb, fun i hi => StatAt.of_get fun j hj => by rw [Nat.add_assoc]; exact hc i hi j hj⟩
  · rw [BlockR.nodes_eq]
    simp only [BlockR.l]
    rw [nodesS_sum]
    omega
set_option maxRecDepth 100000 in
/-- A statement, read. -/
theorem stat_read {H : Type} {enc : TypeId × Value → H} {w : World} {base : Nat} {held : Bool} : ∀ (m : Nat) {fuel : Nat} {cs : List Value} {y : DataW H × List MemPlace},
    DataW.trod enc Tryd.prog w base (fun _ => true) held fuel 49 cs = some y → Rows.uptoBulk y.1 ≤ m → m ≤ 1048576 → ∃ x : StatR, cs = x.cells ∧ (RdS w w.heap.size x ∧ CapS x) ∧ x.nodes ≤ Rows.uptoBulk y.1 := by
  intro m
  induction m with
  | zero => intro fuel cs y _ hz; have := bulk_one y.1; omega
  | succ m ih =>
    intro fuel cs y h hz hm
    obtain ⟨y0, y1, y2, y3, y4, n, rfl, hl, h0, h1, h2, h3, h4⟩ := trod_struct5 Tryd.underlying49 h
    have hl8 : cs.length = 8 := by rw [hl]; kernel_rfl
    obtain ⟨v0, v1, v2, v3, v4, v5, v6, v7, rfl⟩ := list8 hl8
    change DataW.trod enc Tryd.prog w base (fun _ => true) held n 3 [v0] = some y0 at h0
    change DataW.trod enc Tryd.prog w base (fun _ => true) held n 9 [v1] = some y1 at h1
    change DataW.trod enc Tryd.prog w base (fun _ => true) held n 46 [v2, v3, v4, v5] = some y2 at h2
    change DataW.trod enc Tryd.prog w base (fun _ => true) held n 2 [v6] = some y3 at h3
    change DataW.trod enc Tryd.prog w base (fun _ => true) held n 47 [v7] = some y4 at h4
    obtain ⟨n0, e0, -, -⟩ := DataW.trod_int (Tryd.underlying3) h0
    obtain ⟨s1, e1, -, -⟩ := DataW.trod_string (Tryd.underlying9) h1
    obtain ⟨n3, e3, -, -⟩ := DataW.trod_int (Tryd.underlying2) h3
    simp only [List.cons.injEq, and_true] at e0 e1 e3
    subst e0 e1 e3
    simp only [Rows.uptoBulk, Rows.uptoBulkAll] at hz ⊢
    have hb0 := bulk_one y0.1
    have hb4 := bulk_one y4.1
    obtain ⟨e, he, hre, hne⟩ := expr_read (Rows.uptoBulk y2.1) h2 (Nat.le_refl _) (by omega)
    have hb2 := bulk_one y2.1
    obtain ⟨A, c, l, rfl, hcap, hlen, hsum, hok, hrow⟩ := slice_read 1 (by decide) (fun b : BlockR => [b.val]) BlockR.nodes (fun b => RdB w w.heap.size b ∧ CapL b.l) Tryd.underlying47 (by kernel_rfl) h4 (fun x => ⟨_, _, rfl⟩) fun n' cs z hz' hlt => by
      have hl1 : cs.length = 1 := by
        rcases open_slice Tryd.underlying22 hz' with ⟨hcs, _⟩ | ⟨_, _, _, _, _, _, _, hcs, _⟩ <;> simp [hcs]
      obtain ⟨u, rfl⟩ := list1 hl1
      obtain ⟨k, hk, hr, hcl, hn⟩ := block_read hz' (by omega) fun n2 cs2 z2 h2 hlt2 => ih h2 (by omega) (by omega)
      exact ⟨k, by rw [hk], ⟨hr, hcl⟩, hn⟩
    refine ⟨.mk n0 s1 e n3 A c l, ?_, ⟨⟨_, hre, fun hne => ?_, fun b hb => ⟨(hok b hb).1.row, (hok b hb).1.fits⟩, fun b hb y hy => (hok b hb).1.each y hy, by simp only [StatR.blocks, Fits]; omega⟩, ⟨_, hcap, fun b hb y hy => (hok b hb).2 y hy⟩⟩, ?_⟩
    · obtain ⟨k, m, s, sA, sc, ks⟩ := e
      simp only [ExprR.cells, List.cons.injEq, and_true] at he
      obtain ⟨rfl, rfl, rfl, rfl⟩ := he
      rfl
    · simp only [StatR.blocks, StatR.bA] at hne ⊢
      obtain ⟨b, o, e, hb, hc⟩ := hrow hne
      exact ⟨b, o, e, hb, fun i hi => by have := hc i hi 0 (by decide); simpa using this⟩
    · rw [StatR.nodes_eq]
      simp only [StatR.blocks, StatR.e]
      rw [nodesB_sum]
      omega
/-- A program, read. -/
theorem prog_read {H : Type} {enc : TypeId × Value → H} {w : World} {base : Nat} {held : Bool} {fuel : Nat} {v : Value} {y : DataW H × List MemPlace} (h : DataW.trod enc Tryd.prog w base (fun _ => true) held fuel 22 [v] = some y) (hz : Rows.uptoBulk y.1 ≤ 1048576) :
    ∃ k : BlockR, v = k.val ∧ RdB w w.heap.size k ∧ CapL k.l ∧ nodesS k.l ≤ Rows.uptoBulk y.1 := by
  obtain ⟨k, h1, h2, h3, h4⟩ := block_read h hz fun n cs z hz' hlt => stat_read (Rows.uptoBulk z.1) hz' (Nat.le_refl _) (by omega)
  exact ⟨k, h1, h2, h3, by rw [← BlockR.nodes_eq]; exact h4⟩
end Go.Proofs.YtgiceeholamphaaDoor
