/- Lists of rules, letters, as arguments, are read: what the reading says of memory, for a row. No conditions. -/
import Derived.Test.YticdjkkcfdbdcaaAcR
import Derived.Test.YticdjkkcfdbdcaaImpX
import Derived.Test.YticdjkkcfdbdcaaAcLa
namespace Go.Proofs.Yticdjkkcfdbdcaa
open Go.ChangeShapes Go.WideShapes Go.ChangeAt Go.RowKit Go.Deep
/-- Letters, read. -/
theorem lets_read {H : Type} {enc : TypeId × Value → H} {w : World} {base : Nat} {held : Bool} {fuel : Nat} {v : Value} {y : DataW H × List MemPlace}
    (h : DataW.trod enc Try.prog w base (fun _ => true) held fuel 44 [v] = some y) (hz : ∀ n ∈ y.1.weights Try.prog 44, n ≤ reachBytes) :
    ∃ (A : Option Addr) (c : Nat) (l : List LetR), v = .slice A l.length c ∧ CellN w v (l.flatMap cellsX) ∧ l.length ≤ c ∧ Fits l.length := by
  rcases open_slice_fields Try.underlying44 Try.underlying49 (by kernel_rfl) (by kernel_rfl) h with ⟨hcs, hx⟩ | ⟨a, len, cap, m, D, Pl, hcs, _, hl, hm, hmm, hx, hi⟩
  · simp at hcs
    subst hcs
    exact ⟨none, 0, [], rfl, .bare (.nilSlice _ _), Nat.le_refl _, by simp [Fits]⟩
  · simp at hcs
    subst hcs
    simp only [if_true] at hmm
    subst hmm
    subst hx
    have hzl := hz ((((List.range len).map D).length + ((List.range (m - len)).map fun j => D (len + j)).length) * Try.prog.bytesOf 49) (by simp [DataW.weights, Try.underlying44])
    rw [show Try.prog.bytesOf 49 = 32 by kernel_rfl] at hzl
    simp only [List.length_map, List.length_range, reachBytes] at hzl
    have each : ∀ i, i < m → ∃ j : LetR, w.cell? (a.add (i * 4)) = some (.int .i64 j.time) ∧ w.cell? (a.add (i * 4 + 1)) = some (.int .i64 j.to) ∧ w.cell? (a.add (i * 4 + 2)) = some (.int .i64 j.kind) ∧ w.cell? (a.add (i * 4 + 3)) = some (.int .i64 j.n) := fun i hil => by
      obtain ⟨ys, n, hD, _, hyl, hf⟩ := hi i hil
      obtain ⟨v0, y0, c0, hy0, t0⟩ := hf 0 _ rfl
      obtain ⟨v1, y1, c1, hy1, t1⟩ := hf 1 _ rfl
      obtain ⟨v2, y2, c2, hy2, t2⟩ := hf 2 _ rfl
      obtain ⟨v3, y3, c3, hy3, t3⟩ := hf 3 _ rfl
      obtain ⟨n0, e0, -, -⟩ := DataW.trod_int (Try.underlying3) t0
      obtain ⟨n1, e1, -, -⟩ := DataW.trod_int (Try.underlying3) t1
      obtain ⟨n2, e2, -, -⟩ := DataW.trod_int (Try.underlying3) t2
      obtain ⟨n3, e3, -, -⟩ := DataW.trod_int (Try.underlying2) t3
      simp only [List.cons.injEq, and_true] at e0 e1 e2 e3
      subst e0 e1 e2 e3
      exact ⟨⟨n0, n1, n2, n3⟩, c0, c1, c2, c3⟩
    obtain ⟨J, hJ, hp⟩ := list_of_each each
    have hlen : (J.take len).length = len := by rw [List.length_take, hJ]; omega
    refine ⟨some a, m, J.take len, by simp only [hlen], ?_, by simp only [hlen]; exact hl, by simp only [hlen, Fits]; omega⟩
    by_cases hm0 : m = 0
    · obtain rfl : len = 0 := by omega
      subst hm0
      simp only [List.take_zero, List.flatMap_nil]
      exact .void a
    · have hc0 := (hp 0 (by omega)).1
      obtain ⟨hs, x, e, fz, hx, _⟩ := cell_row hc0
      obtain ⟨b, o, sp⟩ := a
      have hs' : sp = none := by simpa [Addr.add] using hs
      subst hs'
      rw [add_block] at hx
      refine .row b o len m _ hm0 ⟨x, e, fz, hx, fun j u hu => ?_⟩ fun u hu => ?_
      · have hjl : j < len * 4 := by
          have := (List.getElem?_eq_some_iff.1 hu).1
          rw [flat_len (f := cellsX) (s := 4) (fun _ => rfl), hlen] at this
          exact this
        have hk : j / 4 < (J.take len).length := by rw [hlen]; omega
        have hk2 : j / 4 < J.length := by omega
        have hq := hp (j / 4) hk2
        have hfa := flat_at (f := cellsX) (s := 4) (fun _ => rfl) (J.take len) (j / 4) (j % 4) hk (by omega)
        rw [show j / 4 * 4 + j % 4 = j by omega] at hfa
        rw [hfa] at hu
        simp only [List.getElem_take] at hu
        simp only [Addr.add_lit', World.cell?, hx, Option.isSome_none, Bool.false_eq_true, if_false] at hq
        obtain ⟨q0, q1, q2, q3⟩ := hq
        obtain h3 | h3 | h3 | h3 : j % 4 = 0 ∨ j % 4 = 1 ∨ j % 4 = 2 ∨ j % 4 = 3 := by omega
        · rw [h3] at hu
          rw [show j = j / 4 * 4 by omega, q0, ← hu]
          rfl
        · rw [h3] at hu
          rw [show j = j / 4 * 4 + 1 by omega, q1, ← hu]
          rfl
        · rw [h3] at hu
          rw [show j = j / 4 * 4 + 2 by omega, q2, ← hu]
          rfl
        · rw [h3] at hu
          rw [show j = j / 4 * 4 + 3 by omega, q3, ← hu]
          rfl
      · obtain ⟨z, _, hz⟩ := List.mem_flatMap.1 hu
        simp only [cellsX, List.mem_cons, List.not_mem_nil, or_false] at hz
        rcases hz with rfl | rfl | rfl | rfl <;> exact .int _ _
/-- One list of rules, read. -/
theorem rules_read1 {H : Type} {enc : TypeId × Value → H} {w : World} {base : Nat} {held : Bool} {fuel : Nat} {v : Value} {y : DataW H × List MemPlace}
    (h : DataW.trod enc Try.prog w base (fun _ => true) held fuel 52 [v] = some y) (hz : ∀ n ∈ y.1.weights Try.prog 52, n ≤ reachBytes) :
    ∃ (A : Option Addr) (c : Nat) (l : List RuleR), v = .slice A l.length c ∧ CellN w v (l.flatMap cellsRu) ∧ l.length ≤ c ∧ Fits l.length := by
  rcases open_slice_fields Try.underlying52 Try.underlying54 (by kernel_rfl) (by kernel_rfl) h with ⟨hcs, hx⟩ | ⟨a, len, cap, m, D, Pl, hcs, _, hl, hm, hmm, hx, hi⟩
  · simp at hcs
    subst hcs
    exact ⟨none, 0, [], rfl, .bare (.nilSlice _ _), Nat.le_refl _, by simp [Fits]⟩
  · simp at hcs
    subst hcs
    simp only [if_true] at hmm
    subst hmm
    subst hx
    have hzl := hz ((((List.range len).map D).length + ((List.range (m - len)).map fun j => D (len + j)).length) * Try.prog.bytesOf 54) (by simp [DataW.weights, Try.underlying52])
    rw [show Try.prog.bytesOf 54 = 56 by kernel_rfl] at hzl
    simp only [List.length_map, List.length_range, reachBytes] at hzl
    have each : ∀ i, i < m → ∃ j : RuleR, w.cell? (a.add (i * 7)) = some (.int .i64 j.kind) ∧ w.cell? (a.add (i * 7 + 1)) = some (.int .i64 j.times) ∧ w.cell? (a.add (i * 7 + 2)) = some (.int .i64 j.plus) ∧ w.cell? (a.add (i * 7 + 3)) = some (.int .i64 j.mod) ∧ w.cell? (a.add (i * 7 + 4)) = some (.int .i64 j.send) ∧ w.cell? (a.add (i * 7 + 5)) = some (.int .i64 j.to) ∧ w.cell? (a.add (i * 7 + 6)) = some (.int .i64 j.after) := fun i hil => by
      obtain ⟨ys, n, hD, _, hyl, hf⟩ := hi i hil
      obtain ⟨v0, y0, c0, hy0, t0⟩ := hf 0 _ rfl
      obtain ⟨v1, y1, c1, hy1, t1⟩ := hf 1 _ rfl
      obtain ⟨v2, y2, c2, hy2, t2⟩ := hf 2 _ rfl
      obtain ⟨v3, y3, c3, hy3, t3⟩ := hf 3 _ rfl
      obtain ⟨v4, y4, c4, hy4, t4⟩ := hf 4 _ rfl
      obtain ⟨v5, y5, c5, hy5, t5⟩ := hf 5 _ rfl
      obtain ⟨v6, y6, c6, hy6, t6⟩ := hf 6 _ rfl
      obtain ⟨n0, e0, -, -⟩ := DataW.trod_int (Try.underlying3) t0
      obtain ⟨n1, e1, -, -⟩ := DataW.trod_int (Try.underlying2) t1
      obtain ⟨n2, e2, -, -⟩ := DataW.trod_int (Try.underlying2) t2
      obtain ⟨n3, e3, -, -⟩ := DataW.trod_int (Try.underlying2) t3
      obtain ⟨n4, e4, -, -⟩ := DataW.trod_int (Try.underlying3) t4
      obtain ⟨n5, e5, -, -⟩ := DataW.trod_int (Try.underlying3) t5
      obtain ⟨n6, e6, -, -⟩ := DataW.trod_int (Try.underlying3) t6
      simp only [List.cons.injEq, and_true] at e0 e1 e2 e3 e4 e5 e6
      subst e0 e1 e2 e3 e4 e5 e6
      exact ⟨⟨n0, n1, n2, n3, n4, n5, n6⟩, c0, c1, c2, c3, c4, c5, c6⟩
    obtain ⟨J, hJ, hp⟩ := list_of_each each
    have hlen : (J.take len).length = len := by rw [List.length_take, hJ]; omega
    refine ⟨some a, m, J.take len, by simp only [hlen], ?_, by simp only [hlen]; exact hl, by simp only [hlen, Fits]; omega⟩
    by_cases hm0 : m = 0
    · obtain rfl : len = 0 := by omega
      subst hm0
      simp only [List.take_zero, List.flatMap_nil]
      exact .void a
    · have hc0 := (hp 0 (by omega)).1
      obtain ⟨hs, x, e, fz, hx, _⟩ := cell_row hc0
      obtain ⟨b, o, sp⟩ := a
      have hs' : sp = none := by simpa [Addr.add] using hs
      subst hs'
      rw [add_block] at hx
      refine .row b o len m _ hm0 ⟨x, e, fz, hx, fun j u hu => ?_⟩ fun u hu => ?_
      · have hjl : j < len * 7 := by
          have := (List.getElem?_eq_some_iff.1 hu).1
          rw [flat_len (f := cellsRu) (s := 7) (fun _ => rfl), hlen] at this
          exact this
        have hk : j / 7 < (J.take len).length := by rw [hlen]; omega
        have hk2 : j / 7 < J.length := by omega
        have hq := hp (j / 7) hk2
        have hfa := flat_at (f := cellsRu) (s := 7) (fun _ => rfl) (J.take len) (j / 7) (j % 7) hk (by omega)
        rw [show j / 7 * 7 + j % 7 = j by omega] at hfa
        rw [hfa] at hu
        simp only [List.getElem_take] at hu
        simp only [Addr.add_lit', World.cell?, hx, Option.isSome_none, Bool.false_eq_true, if_false] at hq
        obtain ⟨q0, q1, q2, q3, q4, q5, q6⟩ := hq
        obtain h3 | h3 | h3 | h3 | h3 | h3 | h3 : j % 7 = 0 ∨ j % 7 = 1 ∨ j % 7 = 2 ∨ j % 7 = 3 ∨ j % 7 = 4 ∨ j % 7 = 5 ∨ j % 7 = 6 := by omega
        · rw [h3] at hu
          rw [show j = j / 7 * 7 by omega, q0, ← hu]
          rfl
        · rw [h3] at hu
          rw [show j = j / 7 * 7 + 1 by omega, q1, ← hu]
          rfl
        · rw [h3] at hu
          rw [show j = j / 7 * 7 + 2 by omega, q2, ← hu]
          rfl
        · rw [h3] at hu
          rw [show j = j / 7 * 7 + 3 by omega, q3, ← hu]
          rfl
        · rw [h3] at hu
          rw [show j = j / 7 * 7 + 4 by omega, q4, ← hu]
          rfl
        · rw [h3] at hu
          rw [show j = j / 7 * 7 + 5 by omega, q5, ← hu]
          rfl
        · rw [h3] at hu
          rw [show j = j / 7 * 7 + 6 by omega, q6, ← hu]
          rfl
      · obtain ⟨z, _, hz⟩ := List.mem_flatMap.1 hu
        simp only [cellsRu, List.mem_cons, List.not_mem_nil, or_false] at hz
        rcases hz with rfl | rfl | rfl | rfl | rfl | rfl | rfl <;> exact .int _ _
/-- The lists, read. -/
theorem rules_read {H : Type} {enc : TypeId × Value → H} {w : World} {base : Nat} {held : Bool} {fuel : Nat} {v : Value} {y : DataW H × List MemPlace}
    (h : DataW.trod enc Try.prog w base (fun _ => true) held fuel 43 [v] = some y) (hz : ∀ n ∈ y.1.weights Try.prog 43, n ≤ reachBytes) :
    v = .slice none 0 0 ∨ (∃ a, v = .slice (some a) 0 0) ∨ ∃ (b o c : Nat) (x : Array Value) (e : TypeId) (fz : Nat × Nat) (D : List RulR), v = .slice (some ⟨b, o, none⟩) D.length c ∧ w.heap[b]? = some (.cells x e fz) ∧ Fits D.length ∧
      ∀ (k : Nat) (h : k < D.length), x[o + k]? = some (.slice D[k].A D[k].rs.length D[k].c) ∧ CellN w (.slice D[k].A D[k].rs.length D[k].c) (D[k].rs.flatMap cellsRu) ∧ D[k].rs.length ≤ D[k].c ∧ Fits D[k].rs.length := by
  rcases open_slice1 Try.underlying43 (by kernel_rfl) h with ⟨hcs, hx⟩ | ⟨a, len, cap, m, n, V, D, Pl, hcs, _, hl, hm, hmm, hx, hi⟩
  · simp at hcs
    exact .inl hcs
  · simp at hcs
    subst hcs
    simp only [if_true] at hmm
    subst hmm
    subst hx
    by_cases hm0 : m = 0
    · obtain rfl : len = 0 := by omega
      subst hm0
      exact .inr (.inl ⟨a, rfl⟩)
    · have hzl := hz ((((List.range len).map D).length + ((List.range (m - len)).map fun j => D (len + j)).length) * Try.prog.bytesOf 52) (by simp [DataW.weights, Try.underlying43])
      rw [show Try.prog.bytesOf 52 = 24 by kernel_rfl] at hzl
      simp only [List.length_map, List.length_range, reachBytes] at hzl
      have each : ∀ i, i < len → ∃ j : RulR, w.cell? (a.add i) = some (.slice j.A j.rs.length j.c) ∧ CellN w (.slice j.A j.rs.length j.c) (j.rs.flatMap cellsRu) ∧ j.rs.length ≤ j.c ∧ Fits j.rs.length := fun i hil => by
        obtain ⟨c0, t0⟩ := hi i (by omega)
        obtain ⟨x, c, l, e, q1, q2, q3⟩ := rules_read1 t0 (fun n hn => hz n (by
          simp only [DataW.weights, Try.underlying43, List.mem_cons, List.mem_append]
          exact .inr (.inl (weights_all (List.mem_map.2 ⟨i, List.mem_range.2 hil, rfl⟩) n hn))))
        rw [e] at c0 q1
        exact ⟨⟨x, c, l⟩, c0, q1, q2, q3⟩
      obtain ⟨J, hJ, hp⟩ := list_of_each each
      obtain ⟨c0, _⟩ := hi 0 (by omega)
      obtain ⟨hs, x, e, fz, hx, _⟩ := cell_row c0
      obtain ⟨b, o, sp⟩ := a
      have hs' : sp = none := by simpa [Addr.add] using hs
      subst hs'
      rw [add_block] at hx
      refine .inr (.inr ⟨b, o, m, x, e, fz, J, by rw [hJ], hx, by rw [hJ]; simp only [Fits]; omega, fun k hk => ?_⟩)
      obtain ⟨q0, q1, q2, q3⟩ := hp k hk
      rw [Addr.add_lit'] at q0
      simp only [World.cell?, hx, Option.isSome_none, Bool.false_eq_true, if_false] at q0
      exact ⟨q0, q1, q2, q3⟩
end Go.Proofs.Yticdjkkcfdbdcaa

/- Lists of rules and letters come into a small lone world. No conditions but that what is read is there. -/
namespace Go.Proofs.Yticdjkkcfdbdcaa
open Go.Conc Go.ConcN Go.RowKit Go.ChangeShapes Go.WideShapes Go.ChangeAt
theorem no_globals : Try.prog.globals.size = 0 := by kernel_rfl
/-- What a row's arguments are, read. -/
def RulesArg (w : World) (v : Value) : Prop :=
  v = .slice none 0 0 ∨ (∃ a, v = .slice (some a) 0 0) ∨ ∃ (b o c : Nat) (x : Array Value) (e : TypeId) (fz : Nat × Nat) (D : List RulR), v = .slice (some ⟨b, o, none⟩) D.length c ∧ w.heap[b]? = some (.cells x e fz) ∧ Fits D.length ∧
      ∀ (k : Nat) (h : k < D.length), x[o + k]? = some (.slice D[k].A D[k].rs.length D[k].c) ∧ CellN w (.slice D[k].A D[k].rs.length D[k].c) (D[k].rs.flatMap cellsRu) ∧ D[k].rs.length ≤ D[k].c ∧ Fits D[k].rs.length
def LetsArg (w : World) (v : Value) : Prop := ∃ (A : Option Addr) (c : Nat) (l : List LetR), v = .slice A l.length c ∧ CellN w v (l.flatMap cellsX) ∧ l.length ≤ c ∧ Fits l.length
def inP (N i : Nat) (A : Option Addr) (c : Nat) : Option Addr := match A with
  | none => none
  | some _ => if c = 0 then some ⟨0, 0, some 0⟩ else some ⟨N + 1 + i, 0, none⟩
theorem loneV_sl (N i n c : Nat) (A : Option Addr) (h : n ≤ c) : loneV N i (.slice A n c) = .slice (inP N i A c) n c := by
  cases A with
  | none => rfl
  | some a =>
    simp only [loneV, inP]
    split
    · rename_i h0
      subst h0
      simp only [Nat.le_zero] at h
      rw [h]
    · rfl
theorem cellN_ne {W : World} {A : Option Addr} {n c : Nat} {cs : List Value} (h : CellN W (.slice A n c) cs) (hne : cs ≠ []) : (∃ a, A = some a) ∧ c ≠ 0 := by
  cases h with
  | bare _ => exact absurd rfl hne
  | void _ => exact absurd rfl hne
  | row b o l c cs hc _ _ => exact ⟨⟨_, rfl⟩, hc⟩
theorem rdX {P : Program} {bad : TypeId} {W : World} {l ex : List (Value × List Value)} {i n c : Nat} {A : Option Addr} {cs : List Value} (h : (l ++ ex)[i]? = some (.slice A n c, cs)) (hN : CellN W (.slice A n c) cs) :
    Rd (partsW P bad (rowsX P.globals.size l ex) W) (partsW P bad (rowsX P.globals.size l ex) W).heap.size (inP P.globals.size i A c) cs := by
  intro hne
  obtain ⟨⟨a, rfl⟩, hc⟩ := cellN_ne hN hne
  have hi := (List.getElem?_eq_some_iff.1 h).1
  rw [List.length_append] at hi
  refine ⟨P.globals.size + 1 + i, 0, by simp only [inP, if_neg hc], by rw [sizeX]; omega, fun j u hj => ?_⟩
  rw [Nat.zero_add]
  exact cellX_inner l ex h hj
theorem rdRules_nil (w : World) (B : Nat) (A : Option Addr) : RdRules w B A [] := ⟨fun h => absurd rfl h, fun k h => absurd h (by simp), fun k h => absurd h (by simp), by simp [Fits]⟩
/-- The world of both arguments. -/
theorem act_imp1 {W : World} {po : Option (Nat × Nat)} {D : List RulR} {u : Value} {AX : Option Addr} {cl : Nat} {ls : List LetR}
    (hpo : ∀ b o, po = some (b, o) → ∃ x e fz, W.heap[b]? = some (.cells x e fz) ∧ ∀ (k : Nat) (h : k < D.length), x[o + k]? = some (.slice D[k].A D[k].rs.length D[k].c))
    (hD : ∀ (k : Nat) (h : k < D.length), CellN W (.slice D[k].A D[k].rs.length D[k].c) (D[k].rs.flatMap cellsRu) ∧ D[k].rs.length ≤ D[k].c ∧ Fits D[k].rs.length) (hfit : Fits D.length)
    (hu : u = .slice AX ls.length cl) (hcu : CellN W u (ls.flatMap cellsX)) (hlc : ls.length ≤ cl) :
    ∃ (ρ : Ren) (AX' : Option Addr) (D' : List RulR) (L : World), Mir (InV acL acV) Try.prog ρ (readAll W.heap.size) L W ∧ VR (InV acL acV) ρ (.slice AX' ls.length cl) u ∧ Rd L L.heap.size AX' (flatX ls) ∧
      RdRules L L.heap.size (some ⟨Try.prog.globals.size, 0, none⟩) D' ∧ D'.length = D.length ∧ ∀ b o, po = some (b, o) → ∀ n c, VR (InV acL acV) ρ (.slice (some ⟨Try.prog.globals.size, 0, none⟩) n c) (.slice (some ⟨b, o, none⟩) n c) := by
  obtain ⟨l, hldef⟩ : ∃ l : List (Value × List Value), D.map (fun y : RulR => (Value.slice y.A y.rs.length y.c, y.rs.flatMap cellsRu)) = l := ⟨_, rfl⟩
  have hl : ∀ (k : Nat) (h : k < D.length), l[k]? = some (.slice D[k].A D[k].rs.length D[k].c, D[k].rs.flatMap cellsRu) := fun k hk => by
    subst hldef
    rw [List.getElem?_map, List.getElem?_eq_getElem hk]
    rfl
  have hll : l.length = D.length := by subst hldef; simp
  subst hu
  obtain ⟨ex, hex⟩ : ∃ ex : List (Value × List Value), [(Value.slice AX ls.length cl, ls.flatMap cellsX)] = ex := ⟨_, rfl⟩
  have hexl : ex.length = 1 := by subst hex; rfl
  have hle : ∀ (k : Nat) (h : k < D.length), (l ++ ex)[k]? = some (.slice D[k].A D[k].rs.length D[k].c, D[k].rs.flatMap cellsRu) := fun k hk => by
    rw [List.getElem?_append_left (by omega)]
    exact hl k hk
  have hlu : (l ++ ex)[D.length]? = some (.slice AX ls.length cl, ls.flatMap cellsX) := by
    rw [List.getElem?_append_right (by omega), hll, Nat.sub_self, ← hex]
    rfl
  have hall : ∀ (i : Nat) v cs, (l ++ ex)[i]? = some (v, cs) → CellN W v cs := fun i v cs hi => by
    by_cases e : i < D.length
    · rw [hle i e] at hi
      cases hi
      exact (hD i e).1
    · have hlt := (List.getElem?_eq_some_iff.1 hi).1
      rw [List.length_append] at hlt
      obtain rfl : i = D.length := by omega
      rw [hlu] at hi
      cases hi
      exact hcu
  have hm := mir_x (S := InV acL acV) bad_ty no_globals (po := po) (l := l) (ex := ex) (W := W) (fun b o e => by
    obtain ⟨x, ty, fz, h1, h2⟩ := hpo b o e
    refine ⟨x, ty, fz, h1, fun i v cs hi => ?_⟩
    have hi' : i < D.length := by rw [← hll]; exact (List.getElem?_eq_some_iff.1 hi).1
    rw [hl i hi'] at hi
    cases hi
    exact h2 i hi') hall
  refine ⟨_, inP Try.prog.globals.size D.length AX cl, D.mapIdx fun i x => ⟨inP Try.prog.globals.size i x.A x.c, x.c, x.rs⟩, _, hm, ?_, rdX hlu hcu, ?_, by simp, fun b o e n c => ?_⟩
  · have := nameV (S := InV acL acV) (bad := badTy) no_globals po l ex hlu hcu
    rwa [loneV_sl _ _ _ _ _ hlc] at this
  · refine ⟨fun _ => ⟨Try.prog.globals.size, 0, rfl, by rw [sizeX]; omega, fun k hk => ?_⟩, fun k hk => ?_, fun k hk => ?_, by simpa using hfit⟩
    · have hk' : k < D.length := by simpa using hk
      rw [Nat.zero_add, cellX_outer l ex (hl k hk'), loneV_sl _ _ _ _ _ (hD k hk').2.1]
      simp
    · have hk' : k < D.length := by simpa using hk
      simp only [List.getElem_mapIdx]
      exact rdX (hle k hk') (hD k hk').1
    · have hk' : k < D.length := by simpa using hk
      simp only [List.getElem_mapIdx]
      exact (hD k hk').2.2
  · subst e
    exact nameX no_globals l ex n c
/-- Both arguments come in. -/
theorem act_imp {W : World} {v u : Value} (h : RulesArg W v) (h2 : LetsArg W u) : ∃ (A AX : Option Addr) (n c m cl : Nat) (R : List RulR) (ls : List LetR) (ρ : Ren) (k : LK) (L : World), Mir (InV acL acV) Try.prog ρ k L W ∧ VR (InV acL acV) ρ (.slice A n c) v ∧ VR (InV acL acV) ρ (.slice AX m cl) u ∧
    RdRules L L.heap.size A R ∧ Rd L L.heap.size AX (flatX ls) ∧ R.length = n ∧ ls.length = m ∧ Fits m ∧ (∀ l, k.W l → False) ∧ ∀ l, k.R l → MemLoc W.heap.size l := by
  obtain ⟨AX, cl, ls, hu, hcu, hlc, hfm⟩ := h2
  have hk : ∀ l, (readAll W.heap.size).R l → MemLoc W.heap.size l := by
    rintro l ⟨b, i, rfl, hb⟩
    exact hb
  rcases h with rfl | ⟨a, rfl⟩ | ⟨b, o, c, x, e, fz, D, rfl, hW, hfit, hD⟩
  · obtain ⟨ρ, AX', D', L, q1, q2, q3, _⟩ := act_imp1 (W := W) (po := none) (D := []) (fun b o h => by cases h) (fun k h => absurd h (by simp)) (by simp [Fits]) hu hcu hlc
    exact ⟨none, AX', 0, 0, ls.length, cl, [], ls, ρ, _, L, q1, .nilSlice _ _, q2, rdRules_nil _ _ _, q3, rfl, rfl, hfm, fun l hl => hl, hk⟩
  · obtain ⟨ρ, AX', D', L, q1, q2, q3, _⟩ := act_imp1 (W := W) (po := none) (D := []) (fun b o h => by cases h) (fun k h => absurd h (by simp)) (by simp [Fits]) hu hcu hlc
    exact ⟨some ⟨0, 0, some 0⟩, AX', 0, 0, ls.length, cl, [], ls, ρ, _, L, q1, .void _ _ _ _, q2, rdRules_nil _ _ _, q3, rfl, rfl, hfm, fun l hl => hl, hk⟩
  · obtain ⟨ρ, AX', D', L, q1, q2, q3, q4, q5, q6⟩ := act_imp1 (W := W) (po := some (b, o)) (D := D) (fun b' o' h => by
      cases h
      exact ⟨x, e, fz, hW, fun k hk => (hD k hk).1⟩) (fun k hk => (hD k hk).2) hfit hu hcu hlc
    exact ⟨_, AX', D.length, c, ls.length, cl, D', ls, ρ, _, L, q1, q6 b o rfl _ _, q2, q4, q3, q5, rfl, hfm, fun l hl => hl, hk⟩
end Go.Proofs.Yticdjkkcfdbdcaa
