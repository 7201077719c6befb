/- A small lone world of rows that are parts of the company's blocks. No program; no conditions but those named. -/
import Derived.Test.YticdjkkcfdbdcaaDrawE
import Derived.Deep.Slices
import Derived.Deep.Fields
import Derived.ChangeSame
import Derived.ChangeAt
import Derived.WideShapes
import Derived.SizedLaws
import Derived.OpenShut
namespace Go.Proofs.Yticdjkkcfdbdcaa
open Go.Conc Go.ConcN
section
variable (P : Program) (bad : TypeId)
/-- The rows' blocks, one behind the other. -/
def renP (pl : List (Option (Nat × Nat))) (h : ∀ p, some p ∈ pl → P.globals.size ≤ p.1) : Ren where
  to := fun x => if P.globals.size ≤ x then (pl[x - P.globals.size]?).join else none
  base := P.globals.size
  own := fun _ => False
  isChan := fun _ => False
  bad := bad
  part := fun x => P.globals.size ≤ x ∧ x < P.globals.size + pl.length
  ok := fun x p hx => by
    by_cases e : P.globals.size ≤ x
    · rw [if_pos e] at hx
      refine ⟨e, h p ?_⟩
      cases hg : pl[x - P.globals.size]? with
      | none => rw [hg] at hx; cases hx
      | some q => rw [hg] at hx; simp at hx; subst hx; exact List.mem_of_getElem? hg
    · rw [if_neg e] at hx; cases hx
/-- A row: its cells; whether it may only be read. -/
def rowObj (bad : TypeId) (r : List Value × Bool) : Obj := .cells r.1.toArray bad (0, if r.2 then r.1.length else 0)
def partsW (rows : List (List Value × Bool)) (w : World) : World := { w with heap := Array.replicate P.globals.size (.cells #[] bad) ++ (rows.map (rowObj bad)).toArray }
end
section
variable {S : FnSet} {P : Program} {bad : TypeId} {pl : List (Option (Nat × Nat))} {rows : List (List Value × Bool)}
theorem partsW_size (w : World) : (partsW P bad rows w).heap.size = P.globals.size + rows.length := by simp [partsW]
theorem partsW_at (w : World) (j : Nat) : (partsW P bad rows w).heap[P.globals.size + j]? = (rows[j]?).map (rowObj bad) := by
  unfold partsW
  simp only [Array.getElem?_append, Array.size_replicate]
  rw [if_neg (by omega)]
  simp
theorem partsW_obj {w : World} {x : Nat} {ob : Obj} (h : (partsW P bad rows w).heap[x]? = some ob) : ∃ c e f, ob = .cells c e f := by
  have hx := Array.mem_of_getElem? h
  unfold partsW at hx
  rcases Array.mem_append.1 hx with hx | hx
  · rw [Array.mem_replicate] at hx
    exact ⟨_, _, _, hx.2⟩
  · simp only [List.mem_toArray, List.mem_map] at hx
    obtain ⟨r, _, rfl⟩ := hx
    exact ⟨_, _, _, rfl⟩
theorem mir_parts (hb : BadT P bad) (hlen : rows.length = pl.length) (hg : ∀ p, some p ∈ pl → P.globals.size ≤ p.1) {k : LK} {W : World} (hW0 : P.globals.size ≤ W.heap.size)
    (hc : ∀ (j c s : Nat) vs fr, pl[j]? = some (some (c, s)) → rows[j]? = some (vs, fr) → ∃ x e fz, W.heap[c]? = some (.cells x e fz) ∧ ∀ (i : Nat) v, vs[i]? = some v → ∃ v', x[s + i]? = some v' ∧ VR S (renP P bad pl hg) v v' ∧ (k.W (.cell ⟨c, s + i, none⟩) ∨ k.R (.cell ⟨c, s + i, none⟩)) ∧ (fr = false → k.W (.cell ⟨c, s + i, none⟩) ∧ ¬ (fz.1 ≤ s + i ∧ s + i < fz.2)))
    (hap : ∀ (j j' c s s' : Nat) vs vs' fr', pl[j]? = some (some (c, s)) → pl[j']? = some (some (c, s')) → rows[j]? = some (vs, false) → rows[j']? = some (vs', fr') → ∀ i i', i < vs.length → i' < vs'.length → s + i = s' + i' → j = j') :
    Mir S P (renP P bad pl hg) k (partsW P bad rows W) W := by
  have to : ∀ y c s, (renP P bad pl hg) y = some (c, s) → ∃ j, y = P.globals.size + j ∧ pl[j]? = some (some (c, s)) := fun y c s h => by
    have h' : (if P.globals.size ≤ y then (pl[y - P.globals.size]?).join else none) = some (c, s) := h
    by_cases e : P.globals.size ≤ y
    · rw [if_pos e] at h'
      refine ⟨y - P.globals.size, by omega, ?_⟩
      cases hq : pl[y - P.globals.size]? with
      | none => rw [hq] at h'; cases h'
      | some q => rw [hq] at h'; simp at h'; subst h'; rfl
    · rw [if_neg e] at h'; cases h'
  have hrow : ∀ j c s, pl[j]? = some (some (c, s)) → ∃ vs fr, rows[j]? = some (vs, fr) := fun j c s h => by
    have hj : j < rows.length := by rw [hlen]; exact (List.getElem?_eq_some_iff.1 h).1
    exact ⟨rows[j].1, rows[j].2, List.getElem?_eq_getElem hj⟩
  refine ⟨?_, ⟨Nat.le_refl _, hb.cell, hb.none⟩⟩
  constructor
  · exact fun y ob ho => .inl (partsW_obj ho)
  · exact ⟨by rw [partsW_size]; exact Nat.le_add_right _ _, hW0⟩
  · intro y n z c s r t h
    obtain ⟨_, _, _, e⟩ := partsW_obj h
    cases e
  · rintro y (h | h)
    · exact h.elim
    · rw [partsW_size, hlen]; exact h.2
  · intro y c s h
    obtain ⟨j, rfl, hj⟩ := to y c s h
    obtain ⟨vs, fr, hr⟩ := hrow j c s hj
    obtain ⟨x, e, fz, hx, _⟩ := hc j c s vs fr hj hr
    refine ⟨?_, (Array.getElem?_eq_some_iff.1 hx).1⟩
    rw [partsW_size, hlen]
    have := (List.getElem?_eq_some_iff.1 hj).1
    omega
  · intro y c s z e' fz h h2
    obtain ⟨j, rfl, hj⟩ := to y c s h
    obtain ⟨vs, fr, hr⟩ := hrow j c s hj
    obtain ⟨x, e, fz', hx, _⟩ := hc j c s vs fr hj hr
    rw [partsW_at, hr] at h2
    have e2 := Option.some.inj h2
    simp only [rowObj, Obj.cells.injEq] at e2
    refine ⟨_, _, _, hx, .inr ⟨⟨Nat.le_add_right _ _, ?_⟩, e2.2.1.symm⟩⟩
    have := (List.getElem?_eq_some_iff.1 hj).1
    omega
  · intro y c s z e' fz h h2 i v hi
    obtain ⟨j, rfl, hj⟩ := to y c s h
    obtain ⟨vs, fr, hr⟩ := hrow j c s hj
    obtain ⟨x, e, fz', hx, hcs⟩ := hc j c s vs fr hj hr
    rw [partsW_at, hr] at h2
    have e2 := Option.some.inj h2
    simp only [rowObj, Obj.cells.injEq] at e2
    obtain ⟨rfl, rfl, rfl⟩ := e2
    have hi' : vs[i]? = some v := by simpa using hi
    have hil : i < vs.length := (List.getElem?_eq_some_iff.1 hi').1
    obtain ⟨v', g1, g2, g3, g4⟩ := hcs i v hi'
    refine ⟨_, _, _, v', hx, g1, g2, g3, fun hn => g4 ?_⟩
    cases fr with
    | false => rfl
    | true => exact absurd ⟨Nat.zero_le _, by simpa using hil⟩ hn
  · intro y c s ob h h2 hn
    obtain ⟨_, _, _, e⟩ := partsW_obj h2
    exact absurd e (hn _ _ _)
  · intro y c s ob h h2 ⟨o', hor⟩
    obtain ⟨_, _, _, e⟩ := partsW_obj h2
    exact absurd e (hor.notCells.1 _ _ _)
  · exact fun y ob h => h.elim
  · intro y y' c s s' z z' e1 e2 f1 f2 i i' h1 h2 h3 h4 h5 h6 h7 h8
    obtain ⟨j, rfl, hj⟩ := to y c s h1
    obtain ⟨j', rfl, hj'⟩ := to y' c s' h2
    obtain ⟨vs, fr, hr⟩ := hrow j c s hj
    obtain ⟨vs', fr', hr'⟩ := hrow j' c s' hj'
    rw [partsW_at, hr] at h3
    rw [partsW_at, hr'] at h4
    have q1 := Option.some.inj h3
    have q2 := Option.some.inj h4
    simp only [rowObj, Obj.cells.injEq] at q1 q2
    obtain ⟨rfl, rfl, rfl⟩ := q1
    obtain ⟨rfl, rfl, rfl⟩ := q2
    cases fr with
    | true => exact absurd ⟨Nat.zero_le _, by simpa using h5⟩ h8
    | false => rw [hap j j' c s s' vs vs' fr' hj hj' hr hr' i i' (by simpa using h5) (by simpa using h6) h7]
  · intro y y' c s s' o1 o2 h1 h2 h3 h4 h5 h6
    obtain ⟨_, _, _, e⟩ := partsW_obj h3
    exact absurd e (h5 _ _ _)
  · intro y c s n z cl sn rc t h h2
    obtain ⟨_, _, _, e⟩ := partsW_obj h2
    cases e
end
end Go.Proofs.Yticdjkkcfdbdcaa

/- A small lone world of a row whose cells are bare or name rows of bare cells. No program; no conditions but those named. -/
namespace Go.Proofs.Yticdjkkcfdbdcaa
open Go.Conc Go.ConcN
/-- Whatever lies in memory may be read, nothing written. -/
def readAll (n : Nat) : LK := ⟨fun _ => False, fun l => ∃ b i, l = .cell ⟨b, i, none⟩ ∧ b < n, fun _ => False⟩
def loneV (N i : Nat) : Value → Value
  | .slice (some a) l c => if c = 0 then .slice (some ⟨0, 0, some 0⟩) 0 0 else .slice (some ⟨N + 1 + i, 0, none⟩) l c
  | v => v
def plV : Value → Option (Nat × Nat)
  | .slice (some a) _ c => if c = 0 then none else some (a.block, a.off)
  | _ => none
/-- A cell: bare, or an empty slice that lies nowhere, or a slice of bare cells. -/
inductive CellN (W : World) : Value → List Value → Prop
  | bare {v : Value} (h : Bare v) : CellN W v []
  | void (a : Addr) : CellN W (.slice (some a) 0 0) []
  | row (b o l c : Nat) (cs : List Value) (hc : c ≠ 0) (hx : ∃ x e fz, W.heap[b]? = some (.cells x e fz) ∧ ∀ (j : Nat) u, cs[j]? = some u → x[o + j]? = some u) (hb : ∀ u ∈ cs, Bare u) : CellN W (.slice (some ⟨b, o, none⟩) l c) cs
section
variable {S : FnSet} {P : Program} {bad : TypeId} {W : World}
def rowsN (N : Nat) (l : List (Value × List Value)) : List (List Value × Bool) := (l.mapIdx fun i y => loneV N i y.1, true) :: l.map fun y => (y.2, true)
def plN (b o : Nat) (l : List (Value × List Value)) : List (Option (Nat × Nat)) := some (b, o) :: l.map fun y => plV y.1
theorem plN_ok (h0 : P.globals.size = 0) (b o : Nat) (l : List (Value × List Value)) : ∀ p, some p ∈ plN b o l → P.globals.size ≤ p.1 := fun p _ => by rw [h0]; exact Nat.zero_le _
theorem bare_lone {N i : Nat} {v : Value} (h : Bare v) : loneV N i v = v ∧ plV v = none := by
  cases h <;> exact ⟨rfl, rfl⟩
theorem mir_n (hbad : BadT P bad) (h0 : P.globals.size = 0) {b o : Nat} {x : Array Value} {e : TypeId} {fz : Nat × Nat} (hW : W.heap[b]? = some (.cells x e fz)) {l : List (Value × List Value)}
    (hl : ∀ (i : Nat) v cs, l[i]? = some (v, cs) → x[o + i]? = some v ∧ CellN W v cs) :
    Mir S P (renP P bad (plN b o l) (plN_ok h0 b o l)) (readAll W.heap.size) (partsW P bad (rowsN P.globals.size l) W) W := by
  refine mir_parts hbad (by simp [rowsN, plN]) (plN_ok h0 b o l) (by rw [h0]; exact Nat.zero_le _) (fun j c s vs fr hj hr => ?_) (fun j j' c s s' vs vs' fr' _ _ hr _ => ?_)
  · cases j with
    | zero =>
      simp only [plN, List.getElem?_cons_zero, Option.some.injEq, Prod.mk.injEq] at hj
      obtain ⟨rfl, rfl⟩ := hj
      simp only [rowsN, List.getElem?_cons_zero, Option.some.injEq, Prod.mk.injEq] at hr
      obtain ⟨rfl, rfl⟩ := hr
      refine ⟨x, e, fz, hW, fun i v hv => ?_⟩
      rw [List.getElem?_mapIdx] at hv
      obtain ⟨⟨v', cs⟩, h1, h2⟩ := Option.map_eq_some_iff.1 hv
      obtain ⟨q1, q2⟩ := hl i v' cs h1
      refine ⟨v', q1, ?_, .inr ⟨_, _, rfl, (Array.getElem?_eq_some_iff.1 hW).1⟩, fun h => by cases h⟩
      subst h2
      cases q2 with
      | bare h => rw [(bare_lone h).1]; exact h.rel
      | void a => simp only [loneV, if_true]; exact .void _ _ _ _
      | row b' o' l' c' cs hc hx hb =>
        simp only [loneV, if_neg hc]
        refine .slice ⟨⟨rfl, id⟩, b', o', ?_, by simp⟩ _ _
        show (if P.globals.size ≤ P.globals.size + 1 + i then ((plN _ o l)[P.globals.size + 1 + i - P.globals.size]?).join else none) = _
        rw [if_pos (by omega), show P.globals.size + 1 + i - P.globals.size = i + 1 by omega]
        simp only [plN, List.getElem?_cons_succ, List.getElem?_map, h1, Option.map_some, Option.join_some, plV, if_neg hc]
    | succ j =>
      simp only [plN, List.getElem?_cons_succ, List.getElem?_map] at hj
      simp only [rowsN, List.getElem?_cons_succ, List.getElem?_map] at hr
      obtain ⟨⟨v, cs⟩, h1, h2⟩ := Option.map_eq_some_iff.1 hr
      simp only [Prod.mk.injEq] at h2
      obtain ⟨rfl, rfl⟩ := h2
      rw [h1] at hj
      simp only [Option.map_some, Option.some.injEq] at hj
      obtain ⟨q1, q2⟩ := hl j v cs h1
      cases q2 with
      | bare h => rw [(bare_lone (N := 0) (i := 0) h).2] at hj; cases hj
      | void a => simp only [plV, if_true] at hj; cases hj
      | row b' o' l' c' cs hc hx hb =>
        simp only [plV, if_neg hc, Option.some.injEq, Prod.mk.injEq] at hj
        obtain ⟨rfl, rfl⟩ := hj
        obtain ⟨x', e', fz', g1, g2⟩ := hx
        exact ⟨x', e', fz', g1, fun i u hu => ⟨u, g2 i u hu, (hb u (List.mem_of_getElem? hu)).rel, .inr ⟨_, _, rfl, (Array.getElem?_eq_some_iff.1 g1).1⟩, fun h => by cases h⟩⟩
  · exfalso
    cases j with
    | zero => simp [rowsN] at hr
    | succ j =>
      simp only [rowsN, List.getElem?_cons_succ, List.getElem?_map] at hr
      obtain ⟨_, _, h2⟩ := Option.map_eq_some_iff.1 hr
      simp at h2
theorem cellN_outer (l : List (Value × List Value)) {i : Nat} {v : Value} {cs : List Value} (h : l[i]? = some (v, cs)) : (partsW P bad (rowsN P.globals.size l) W).cell? ⟨P.globals.size, i, none⟩ = some (loneV P.globals.size i v) := by
  have := partsW_at (P := P) (bad := bad) (rows := rowsN P.globals.size l) W 0
  rw [Nat.add_zero] at this
  simp only [World.cell?, this]
  simp [rowsN, rowObj, List.getElem?_mapIdx, h]
theorem cellN_inner (l : List (Value × List Value)) {i j : Nat} {v u : Value} {cs : List Value} (h : l[i]? = some (v, cs)) (hj : cs[j]? = some u) : (partsW P bad (rowsN P.globals.size l) W).cell? ⟨P.globals.size + 1 + i, j, none⟩ = some u := by
  have := partsW_at (P := P) (bad := bad) (rows := rowsN P.globals.size l) W (i + 1)
  rw [show P.globals.size + (i + 1) = P.globals.size + 1 + i by omega] at this
  simp only [World.cell?, this]
  simp [rowsN, rowObj, h, hj]
theorem sizeN (l : List (Value × List Value)) : (partsW P bad (rowsN P.globals.size l) W).heap.size = P.globals.size + 1 + l.length := by
  rw [partsW_size]; simp [rowsN]; omega
theorem nameN (h0 : P.globals.size = 0) {b o : Nat} (l : List (Value × List Value)) (n c : Nat) : VR S (renP P bad (plN b o l) (plN_ok h0 b o l)) (.slice (some ⟨P.globals.size, 0, none⟩) n c) (.slice (some ⟨b, o, none⟩) n c) := by
  refine .slice ⟨⟨rfl, id⟩, b, o, ?_, by simp⟩ _ _
  show (if P.globals.size ≤ P.globals.size then ((plN b o l)[P.globals.size - P.globals.size]?).join else none) = _
  rw [if_pos (Nat.le_refl _), Nat.sub_self]
  rfl
end
end Go.Proofs.Yticdjkkcfdbdcaa

/- How an argument is read: a slice of structs; lists of what there is. No program; no conditions. -/
namespace Go.Proofs.Yticdjkkcfdbdcaa
open Go.ChangeShapes Go.WideShapes Go.ChangeAt Go.RowKit Go.Deep
section
variable {H : Type} {enc : TypeId × Value → H} {P : Program} {w : World} {base : Nat} {spare : Nat → Bool} {held : Bool}
theorem open_slice_fields {t e : TypeId} {fs : Array Field} {fuel : Nat} {cs : List Value} {x : DataW H × List MemPlace} (ht : P.underlying t = some (.slice e)) (he : P.underlying e = some (.struct fs))
    (hone : oneCellFields P fs = true) (hC : P.cellsOf e = fs.size) (h : DataW.trod enc P w base spare held fuel t cs = some x) :
    (cs = [.slice none 0 0] ∧ x = (.nil, [])) ∨
    ∃ (a : Addr) (len cap m : Nat) (D : Nat → DataW H) (Pl : Nat → List MemPlace), cs = [.slice (some a) len cap] ∧ base ≤ a.block ∧ len ≤ cap ∧ cap ≤ maxLen ∧ m = (if spare a.block then cap else len) ∧
      x = (.slice ((List.range len).map D) ((List.range (m - len)).map fun j => D (len + j)), MemPlace.row a (m * fs.size) ++ (List.range m).flatMap Pl) ∧
      ∀ i, i < m → ∃ (ys : List (DataW H × List MemPlace)) (n : Nat), D i = .agg (ys.map (·.1)) ∧ Pl i = ys.flatMap (·.2) ∧ ys.length = fs.size ∧
        ∀ (j : Nat) (f : Field), fs[j]? = some f → ∃ (v : Value) (y : DataW H × List MemPlace), w.cell? (a.add (i * fs.size + j)) = some v ∧ ys[j]? = some y ∧ DataW.trod enc P w base spare held n f.type [v] = some y := by
  rcases open_slice ht h with h0 | ⟨a, len, cap, m, n, D, Pl, hcs, hb, hl, hm, hmm, hx, hi⟩
  · exact .inl h0
  · refine .inr ⟨a, len, cap, m, D, Pl, hcs, hb, hl, hm, hmm, by rw [hC] at hx; exact hx, fun i him => ?_⟩
    obtain ⟨cs', hc, ht'⟩ := hi i him
    rw [hC] at hc
    obtain ⟨ys, n', hn', hy, hlen, hyl, hf⟩ := DataW.trod_struct he ht'
    obtain ⟨_, hcl, hat⟩ := World.cells?_some hc
    simp only [Prod.mk.injEq] at hy
    refine ⟨ys, n', hy.1, hy.2, hyl, fun j f hj => ?_⟩
    obtain ⟨ho, hk⟩ := hone_of hone j f hj
    have hjl : j < fs.size := (Array.getElem?_eq_some_iff.1 hj).1
    have hcell := hat j hjl
    have hv : cs'[j]? = some (cs'[j]'(by omega)) := List.getElem?_eq_getElem (by omega)
    have h1 := hf j f hj
    rw [ho, hk] at h1
    have hone' : (cs'.drop j).take 1 = [cs'[j]'(by omega)] := by
      rw [List.drop_eq_getElem_cons (by omega)]
      rfl
    rw [hone'] at h1
    have hys : ys[j]? = some (ys[j]'(by omega)) := List.getElem?_eq_getElem (by omega)
    refine ⟨_, _, ?_, hys, h1.trans hys⟩
    rw [← Go.Deep.add_add, hcell, hv]
end
theorem list_of_each {α : Type} {p : Nat → α → Prop} : ∀ {n : Nat}, (∀ i, i < n → ∃ x, p i x) → ∃ l : List α, l.length = n ∧ ∀ (k : Nat) (h : k < l.length), p k l[k]
  | 0, _ => ⟨[], rfl, fun k h => absurd h (by simp)⟩
  | n + 1, h => by
    obtain ⟨l, hl, hp⟩ := list_of_each (p := p) (n := n) fun i hi => h i (by omega)
    obtain ⟨x, hx⟩ := h n (by omega)
    refine ⟨l ++ [x], by simp [hl], fun k hk => ?_⟩
    rw [List.length_append, List.length_singleton] at hk
    by_cases e : k < l.length
    · rw [List.getElem_append_left e]; exact hp k e
    · obtain rfl : k = n := by omega
      rw [List.getElem_append_right (by omega)]
      simpa [hl] using hx
theorem weights_all {H : Type} {P : Program} {e : TypeId} : ∀ {ds : List (DataW H)} {d : DataW H}, d ∈ ds → ∀ n ∈ d.weights P e, n ∈ DataW.weightsAll P e ds
  | x :: r, d, hd, n, hn => by
    simp only [DataW.weightsAll, List.mem_append]
    rcases List.mem_cons.1 hd with rfl | h
    · exact .inl hn
    · exact .inr (weights_all h n hn)
theorem cell_row {w : World} {a : Addr} {v : Value} (h : w.cell? a = some v) : a.spot = none ∧ ∃ x e fz, w.heap[a.block]? = some (.cells x e fz) ∧ x[a.off]? = some v := by
  refine ⟨World.cell?_spot h, ?_⟩
  unfold World.cell? at h
  split at h
  · rename_i x e fz hx
    split at h
    · cases h
    · exact ⟨x, e, fz, hx, h⟩
  · cases h
end Go.Proofs.Yticdjkkcfdbdcaa
