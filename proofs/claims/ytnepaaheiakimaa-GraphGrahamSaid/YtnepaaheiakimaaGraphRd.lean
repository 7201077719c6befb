/- Jobs as an argument is read: what the reading says of memory (RdJobs), for a row. No conditions. -/
import Derived.Test.YtnepaaheiakimaaGraphPl
import Derived.Deep.Slices
import Derived.Deep.Fields
import Derived.ChangeSame
import Derived.SizedLaws
import Derived.OpenShut
import Derived.Conc.Holds
import Derived.Leaving
namespace Go.Proofs.Ytnepaaheiakimaa
open Go.ChangeShapes Go.WideShapes Go.ChangeAt Go.RowKit Go.Deep

theorem leaving_of_handed {a : Assume} {C : Checked} {os : Os} {f : FuncId} {r : Reach} {Pre : World → Array Value → Prop} {Post : World → Array Value → Value → World → Prop} (h : ReturnsInHanded a C os f r Pre Post) : ReturnsInLeavingWide a C os f r Pre Post :=
  fun enter => ReturnsInOpen.mono (fun _ _ _ x => ⟨x.2.1, onlyLeaving_of_quiet x.1, x.2.2⟩) (fun _ x => x) (h enter)
section
variable {H : Type} {enc : TypeId × Value → H} {P : Program} {w : World} {base : Nat} {spare : Nat → Bool} {held : Bool}
theorem open_slice_fields {t e : TypeId} {fs : Array Field} {fuel : Nat} {cs : List Value} {x : DataW H × List MemPlace} (ht : P.underlying t = some (.slice e)) (he : P.underlying e = some (.struct fs))
    (hone : oneCellFields P fs = true) (hC : P.cellsOf e = fs.size) (h : DataW.trod enc P w base spare held fuel t cs = some x) :
    (cs = [.slice none 0 0] ∧ x = (.nil, [])) ∨
    ∃ (a : Addr) (len cap m : Nat) (D : Nat → DataW H) (Pl : Nat → List MemPlace), cs = [.slice (some a) len cap] ∧ base ≤ a.block ∧ len ≤ cap ∧ cap ≤ maxLen ∧ m = (if spare a.block then cap else len) ∧
      x = (.slice ((List.range len).map D) ((List.range (m - len)).map fun j => D (len + j)), MemPlace.row a (m * fs.size) ++ (List.range m).flatMap Pl) ∧
      ∀ i, i < m → ∃ (ys : List (DataW H × List MemPlace)) (n : Nat), D i = .agg (ys.map (·.1)) ∧ Pl i = ys.flatMap (·.2) ∧ ys.length = fs.size ∧
        ∀ (j : Nat) (f : Field), fs[j]? = some f → ∃ (v : Value) (y : DataW H × List MemPlace), w.cell? (a.add (i * fs.size + j)) = some v ∧ ys[j]? = some y ∧ DataW.trod enc P w base spare held n f.type [v] = some y := by
  rcases open_slice ht h with h0 | ⟨a, len, cap, m, n, D, Pl, hcs, hb, hl, hm, hmm, hx, hi⟩
  · exact .inl h0
  · refine .inr ⟨a, len, cap, m, D, Pl, hcs, hb, hl, hm, hmm, by rw [hC] at hx; exact hx, fun i him => ?_⟩
    obtain ⟨cs', hc, ht'⟩ := hi i him
    rw [hC] at hc
    obtain ⟨ys, n', hn', hy, hlen, hyl, hf⟩ := DataW.trod_struct he ht'
    obtain ⟨_, hcl, hat⟩ := World.cells?_some hc
    simp only [Prod.mk.injEq] at hy
    refine ⟨ys, n', hy.1, hy.2, hyl, fun j f hj => ?_⟩
    obtain ⟨ho, hk⟩ := hone_of hone j f hj
    have hjl : j < fs.size := (Array.getElem?_eq_some_iff.1 hj).1
    have hcell := hat j hjl
    have hv : cs'[j]? = some (cs'[j]'(by omega)) := List.getElem?_eq_getElem (by omega)
    have h1 := hf j f hj
    rw [ho, hk] at h1
    have hone' : (cs'.drop j).take 1 = [cs'[j]'(by omega)] := by
      rw [List.drop_eq_getElem_cons (by omega)]
      rfl
    rw [hone'] at h1
    have hys : ys[j]? = some (ys[j]'(by omega)) := List.getElem?_eq_getElem (by omega)
    refine ⟨_, _, ?_, hys, h1.trans hys⟩
    rw [← Go.Deep.add_add, hcell, hv]
end
theorem cell_block_lt {w : World} {p : Addr} {v : Value} (h : w.cell? p = some v) : p.block < w.heap.size := by
  rcases Nat.lt_or_ge p.block w.heap.size with hl | hl
  · exact hl
  · simp [World.cell?, Array.getElem?_eq_none hl] at h
theorem list_of_each {α : Type} {p : Nat → α → Prop} : ∀ {n : Nat}, (∀ i, i < n → ∃ x, p i x) → ∃ l : List α, l.length = n ∧ ∀ (k : Nat) (h : k < l.length), p k l[k]
  | 0, _ => ⟨[], rfl, fun k h => absurd h (by simp)⟩
  | n + 1, h => by
    obtain ⟨l, hl, hp⟩ := list_of_each (p := p) (n := n) fun i hi => h i (by omega)
    obtain ⟨x, hx⟩ := h n (by omega)
    refine ⟨l ++ [x], by simp [hl], fun k hk => ?_⟩
    rw [List.length_append, List.length_singleton] at hk
    by_cases e : k < l.length
    · rw [List.getElem_append_left e]; exact hp k e
    · obtain rfl : k = n := by omega
      rw [List.getElem_append_right (by omega)]
      simpa [hl] using hx
theorem weights_all {H : Type} {P : Program} {e : TypeId} : ∀ {ds : List (DataW H)} {d : DataW H}, d ∈ ds → ∀ n ∈ d.weights P e, n ∈ DataW.weightsAll P e ds
  | x :: r, d, hd, n, hn => by
    simp only [DataW.weightsAll, List.mem_append]
    rcases List.mem_cons.1 hd with rfl | h
    · exact .inl hn
    · exact .inr (weights_all h n hn)
/-- A list of ints, read. -/
theorem ints_read {H : Type} {enc : TypeId × Value → H} {w : World} {base : Nat} {held : Bool} {fuel : Nat} {v : Value} {y : DataW H × List MemPlace}
    (h : DataW.trod enc Try.prog w base (fun _ => true) held fuel 38 [v] = some y) (hz : ∀ n ∈ y.1.weights Try.prog 38, n ≤ reachBytes) :
    ∃ (A : Option Addr) (c : Nat) (zs : List Int), v = .slice A zs.length c ∧ Rd w w.heap.size A (ints zs) ∧ Fits zs.length := by
  rcases open_ints Try.underlying38 Try.underlying3 (by kernel_rfl) h with ⟨hcs, hx⟩ | ⟨a, len, cap, zs, hcs, _, hl, hm, hzl, hx, hcell, hwz⟩
  · simp at hcs
    subst hcs
    exact ⟨none, 0, [], rfl, Rd.nil _ _ _, by simp [Fits]⟩
  · simp at hcs
    subst hcs
    simp only [if_true] at hzl
    have hlz : (zs.take len).length = len := by rw [List.length_take]; omega
    refine ⟨some a, cap, zs.take len, by rw [hlz], fun hne => ?_, ?_⟩
    · have h0 : 0 < len := by
        rcases Nat.eq_zero_or_pos len with h | h
        · subst h; simp [ints] at hne
        · exact h
      have hc0 := hcell 0 (by omega)
      obtain ⟨b, o, sp⟩ := a
      have hs : sp = none := by simpa [Addr.add] using World.cell?_spot hc0
      subst hs
      have hb := cell_block_lt hc0
      rw [add_block] at hb
      refine ⟨b, o, rfl, hb, fun i u hu => ?_⟩
      have hi : i < len := by
        have := (List.getElem?_eq_some_iff.1 hu).1
        simp [ints] at this; omega
      rw [← Addr.add_lit', hcell i (by omega), ← hu]
      simp [ints, hi, show i < zs.length by omega, List.getD]
    · subst hx
      have := hz ((zs.take len).length + (zs.drop len).length |>.mul (Try.prog.bytesOf 3)) (by simp [DataW.weights, Try.underlying38, lits])
      rw [show Try.prog.bytesOf 3 = 8 by kernel_rfl] at this
      simp only [reachBytes, Fits, Nat.mul_eq] at this ⊢
      omega
/-- Jobs, read. -/
theorem jobs_read {H : Type} {enc : TypeId × Value → H} {w : World} {base : Nat} {held : Bool} {fuel : Nat} {v : Value} {y : DataW H × List MemPlace}
    (h : DataW.trod enc Try.prog w base (fun _ => true) held fuel 25 [v] = some y) (hz : ∀ n ∈ y.1.weights Try.prog 25, n ≤ reachBytes) :
    ∃ (A : Option Addr) (c : Nat) (J : List JobR), v = .slice A J.length c ∧ RdJobs w w.heap.size A J := by
  rcases open_slice_fields Try.underlying25 Try.underlying40 (by kernel_rfl) (by kernel_rfl) h with ⟨hcs, hx⟩ | ⟨a, len, cap, m, D, Pl, hcs, _, hl, hm, hmm, hx, hi⟩
  · simp at hcs
    subst hcs
    exact ⟨none, 0, [], rfl, ⟨fun h => absurd rfl h, fun k h => absurd h (by simp), fun k h => absurd h (by simp), by simp [Fits]⟩⟩
  · simp at hcs
    subst hcs
    simp only [if_true] at hmm
    subst hmm
    subst hx
    have hzl := hz ((((List.range len).map D).length + ((List.range (m - len)).map fun j => D (len + j)).length) * Try.prog.bytesOf 40) (by simp [DataW.weights, Try.underlying25])
    rw [show Try.prog.bytesOf 40 = 48 by kernel_rfl] at hzl
    simp only [List.length_map, List.length_range, reachBytes] at hzl
    have hze : ∀ i, i < len → ∀ n ∈ (D i).weights Try.prog 40, n ≤ reachBytes := fun i hil n hn => hz n (by
      simp only [DataW.weights, Try.underlying25, List.mem_cons, List.mem_append]
      exact .inr (.inl (weights_all (List.mem_map.2 ⟨i, List.mem_range.2 hil, rfl⟩) n hn)))
    have each : ∀ i, i < len → ∃ j : JobR, w.cell? (a.add (i * 4)) = some (.int .i64 j.len) ∧ w.cell? (a.add (i * 4 + 1)) = some (.int .i64 j.urg) ∧
        w.cell? (a.add (i * 4 + 2)) = some (.slice j.sA j.after.length j.sc) ∧ w.cell? (a.add (i * 4 + 3)) = some (.int .i64 j.n) ∧ Rd w w.heap.size j.sA (ints j.after) ∧ Fits j.after.length := fun i hil => by
      obtain ⟨ys, n, hD, _, hyl, hf⟩ := hi i (by omega)
      obtain ⟨v0, y0, c0, hy0, t0⟩ := hf 0 _ rfl
      obtain ⟨v1, y1, c1, hy1, t1⟩ := hf 1 _ rfl
      obtain ⟨v2, y2, c2, hy2, t2⟩ := hf 2 _ rfl
      obtain ⟨v3, y3, c3, hy3, t3⟩ := hf 3 _ rfl
      obtain ⟨n0, e0, -, -⟩ := DataW.trod_int (Try.underlying3) t0
      obtain ⟨n1, e1, -, -⟩ := DataW.trod_int (Try.underlying3) t1
      obtain ⟨n3, e3, -, -⟩ := DataW.trod_int (Try.underlying2) t3
      simp only [List.cons.injEq, and_true] at e0 e1 e3
      subst e0 e1 e3
      obtain ⟨A2, cc, zs, rfl, hrd, hfit⟩ := ints_read t2 (fun n hn => hze i hil n (by
        rw [hD]
        simp only [DataW.weights, Try.underlying40]
        refine DataW.weights_mem_each (j := 2) rfl ?_ n hn
        simp [hy2]))
      exact ⟨⟨n0, n1, n3, A2, cc, zs⟩, c0, c1, c2, c3, hrd, hfit⟩
    obtain ⟨J, hJ, hp⟩ := list_of_each each
    refine ⟨some a, m, J, by rw [hJ], ⟨fun hne => ?_, fun k hk => (hp k hk).2.2.2.2.1, fun k hk => (hp k hk).2.2.2.2.2, ?_⟩⟩
    · have h0 : 0 < J.length := List.length_pos_iff.2 hne
      have hc0 := (hp 0 h0).1
      obtain ⟨b, o, sp⟩ := a
      have hs : sp = none := by simpa [Addr.add] using World.cell?_spot hc0
      subst hs
      have hb := cell_block_lt hc0
      rw [add_block] at hb
      refine ⟨b, o, rfl, hb, fun k hk => ?_⟩
      obtain ⟨k0, k1, k2, k3, -⟩ := hp k hk
      simp only [Addr.add_lit'] at k0 k1 k2 k3
      exact ⟨k0, k1, k2, k3⟩
    · simp only [Fits]; omega
end Go.Proofs.Ytnepaaheiakimaa
