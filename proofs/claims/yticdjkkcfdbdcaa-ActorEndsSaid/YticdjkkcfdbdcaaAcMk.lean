/- The contract of actor.Make. No conditions but that what is read is there. -/
import Derived.Test.YticdjkkcfdbdcaaAcPv
import Derived.Test.YticdjkkcfdbdcaaAcC
import Derived.Test.YticdjkkcfdbdcaaPhN
namespace Go.Proofs.Yticdjkkcfdbdcaa
open Go.ChangeShapes Go.WideShapes Go.ChangeAt Go.RowKit Go.Conc Go.ConcN
theorem info_acz : (Try.prog.info? 140).map (fun i => (i.zero, i.size, i.bytes)) = some (some (.agg #[.int .i64 0, .map none, .map none, .slice none 0 0]), 4, 48) := by kernel_rfl
def zc4 : List Value := [.int .i64 0, .map none, .map none, .slice none 0 0]
/-- The actors' cells, some of them not made yet. -/
def cellsK (l : List AL) (n : Nat) : List Value := cellsA l ++ (List.replicate (n - l.length) zc4).flatten
theorem flatten_rep (n j i : Nat) (hj : j < n) (hi : i < 4) : ((List.replicate n zc4).flatten)[j * 4 + i]? = zc4[i]? := by
  have := flat_at (f := fun (_ : Unit) => zc4) (s := 4) (fun _ => rfl) (List.replicate n ()) j i (by simpa using hj) hi
  rw [List.flatMap_replicate] at this
  exact this
theorem flatten_len (n : Nat) : ((List.replicate n zc4).flatten).length = n * 4 := by simp [zc4]
theorem made_ac (n : Nat) : (madeCells #[.int .i64 0, .map none, .map none, .slice none 0 0] (n * 4)).toList = cellsK [] n := by
  apply List.ext_getElem?
  intro j
  show _ = ((List.replicate n zc4).flatten)[j]?
  by_cases h : j < n * 4
  · obtain ⟨q, i, hi, rfl⟩ : ∃ q i, i < 4 ∧ j = q * 4 + i := ⟨j / 4, j % 4, by omega, by omega⟩
    rw [flatten_rep n q i (by omega) hi]
    have : (q * 4 + i) % 4 = i := by omega
    obtain rfl | rfl | rfl | rfl : i = 0 ∨ i = 1 ∨ i = 2 ∨ i = 3 := by omega
    all_goals
      (try simp only [Nat.add_zero] at h this ⊢)
      simp [madeCells, h, Value.cells, this, zc4]
  · rw [List.getElem?_eq_none (by simpa [madeCells] using h), List.getElem?_eq_none (by rw [flatten_len]; omega)]
theorem make_ac (n : Nat) (hn : n ≤ 140737488351232) (w : World) (h2 : n ≤ 1000) : (Instr.makeSlice 135 (.int .i64 (n : Int)) (.int .i64 (n : Int))).run Try.prog w = .ok (.slice (some ⟨w.heap.size, 0, none⟩) n n) (w.alloc (.cells (madeCells #[.int .i64 0, .map none, .map none, .slice none 0 0] (n * 4)) 140)) := by
  obtain ⟨i, hi, hz⟩ := Option.map_eq_some_iff.1 info_acz
  simp only [Prod.mk.injEq] at hz
  have := run_make_cells (P := Try.prog) 135 140 i _ Try.underlying135 hi hz.1 .i64 .i64 n (by rw [hz.2.2]; omega) (by omega) w
  rwa [hz.2.1] at this
/-- An actor as Make leaves it. -/
def mkA (h : Nat) (ra : Assoc) : AL := ⟨0, h, h + 1, ra, [], .slice none 0 0, []⟩
theorem cellsK_full (l : List AL) : cellsK l l.length = cellsA l := by simp [cellsK]
theorem cellsK_zero {l : List AL} {n : Nat} (h : l.length < n) (i : Nat) (hi : i < 4) : (cellsK l n)[l.length * 4 + i]? = zc4[i]? := by
  unfold cellsK
  rw [List.getElem?_append_right (by rw [cellsA_length]; omega), cellsA_length, show l.length * 4 + i - l.length * 4 = 0 * 4 + i by omega]
  exact flatten_rep _ 0 i (by omega) hi
theorem cellsK_next {l : List AL} {n h : Nat} (ra : Assoc) (hl : l.length < n) : ((cellsK l n).set (l.length * 4 + 1) (.map (some h))).set (l.length * 4 + 2) (.map (some (h + 1))) = cellsK (l ++ [mkA h ra]) n := by
  have e : n - l.length = (n - (l.length + 1)) + 1 := by omega
  unfold cellsK
  have hc : cellsA (l ++ [mkA h ra]) = cellsA l ++ [.int .i64 0, .map (some h), .map (some (h + 1)), .slice none 0 0] := by simp [cellsA, AL.cells, mkA]
  rw [hc, List.length_append, List.length_singleton, List.append_assoc, e, List.replicate_succ, List.flatten_cons]
  rw [List.set_append_right _ _ (by rw [cellsA_length]; omega), List.set_append_right _ _ (by rw [cellsA_length]; omega), cellsA_length]
  rw [show l.length * 4 + 1 - l.length * 4 = 1 by omega, show l.length * 4 + 2 - l.length * 4 = 2 by omega]
  rfl
theorem rulesAs_nil : RulesAs [] [] := fun _ => rfl
theorem rulesAs_put {ra : Assoc} {rs : List RuleR} {q : Nat} (h : RulesAs ra (rs.take q)) (hq : q < rs.length) (hn : (rs.map (·.kind)).Nodup) : RulesAs (putI ra rs[q].kind (aggRu rs[q])) (rs.take (q + 1)) := fun k => by
  rw [List.take_succ_eq_append_getElem hq, List.find?_append]
  by_cases e : k = rs[q].kind
  · subst e
    rw [getI_put_same]
    have hno : (rs.take q).find? (fun r => r.kind == rs[q].kind) = none := by
      rw [List.find?_eq_none]
      intro r hr
      rw [beq_iff_eq]
      obtain ⟨j, hj, rfl⟩ := List.getElem_of_mem hr
      rw [List.getElem_take]
      intro e
      rw [List.length_take] at hj
      have h1 : (rs.map (·.kind))[j]'(by rw [List.length_map]; omega) = (rs.map (·.kind))[q]'(by rw [List.length_map]; omega) := by rw [List.getElem_map, List.getElem_map]; exact e
      have := (List.getElem_inj hn).1 h1
      omega
    rw [hno]
    simp
  · rw [getI_put_other _ _ e, h k]
    cases hf : (rs.take q).find? (fun r => r.kind == k) with
    | some r => simp
    | none => simp [show ¬ rs[q].kind = k from fun h => e h.symm]
/-- What Make has made so far: the rules of the first m. -/
structure MkSt (w0 w : World) (n : Nat) (R : List (List RuleR)) (m : Nat) (l : List AL) : Prop where
  below : RowKit.Below w0.heap.size w0 w
  blk : Blk w w0.heap.size 140 (cellsK l n)
  rules : ∀ (i : Nat) x, i < m → l[i]? = some x → MapI w x.rb x.ra ∧ RulesAs x.ra (R.getD i []) ∧ ∀ p ∈ x.ra, ∃ r, p.2 = aggRu r
  comes : ∀ (i : Nat) x, l[i]? = some x → MapI w x.cb [] ∧ x = mkA x.rb x.ra
  maps : ∀ (i j : Nat) x y, i < j → l[i]? = some x → l[j]? = some y → x.rb + 1 < y.rb
  high : ∀ (i : Nat) x, l[i]? = some x → w0.heap.size < x.rb ∧ x.rb + 1 < w.heap.size
section
variable {w0 w w' : World} {n m : Nat} {R : List (List RuleR)} {l : List AL}
theorem MkSt.lt (h : MkSt w0 w n R m l) : w0.heap.size < w.heap.size := (Array.getElem?_eq_some_iff.1 h.blk).1
theorem MkSt.cb (h : MkSt w0 w n R m l) {i : Nat} {x : AL} (hx : l[i]? = some x) : x.cb = x.rb + 1 := by rw [(h.comes i x hx).2]; rfl
theorem MkSt.keep (h : MkSt w0 w n R m l) (hb : RowKit.Below w.heap.size w w') : MkSt w0 w' n R m l where
  below := h.below.trans (hb.mono h.below.size)
  blk := (hb.block _ h.lt).trans h.blk
  rules := fun i x hi hx => ⟨(h.rules i x hi hx).1.keep (hb.block _ (by have := h.high i x hx; omega)), (h.rules i x hi hx).2⟩
  comes := fun i x hx => ⟨(h.comes i x hx).1.keep (hb.block _ (by have := h.high i x hx; have := h.cb hx; omega)), (h.comes i x hx).2⟩
  maps := h.maps
  high := fun i x hx => by have := h.high i x hx; have := hb.size; omega
theorem MkSt.cells (h : MkSt w0 w n R m l) {i : Nat} {v : Value} (hv : (cellsK l n)[i]? = some v) : w.cell? ⟨w0.heap.size, i, none⟩ = some v ∧ w.frozen? ⟨w0.heap.size, i, none⟩ = false :=
  ⟨by rw [cell_of_row _ _ _ _ _ _ h.blk]; simpa using hv, frozen_at h.blk i⟩
/-- The maps of the next actor are laid, and told to it. -/
def setW (w : World) (gl k : Nat) : World := (w.setCell ⟨gl, k * 4 + 1, none⟩ (.map (some w.heap.size))).setCell ⟨gl, k * 4 + 2, none⟩ (.map (some (w.heap.size + 1)))
theorem setW_size (w : World) (gl k : Nat) : (setW w gl k).heap.size = w.heap.size := by simp [setW, setCell_size]
def nextW (w : World) (gl k : Nat) : World := ((setW w gl k).alloc (.map #[] 0)).alloc (.map #[] 0)
theorem nextW_size (w : World) (gl k : Nat) : (nextW w gl k).heap.size = w.heap.size + 2 := by simp [nextW, setW_size]
theorem nextW_lt {gl k b : Nat} (hb2 : b < w.heap.size) : (nextW w gl k).heap[b]? = (setW w gl k).heap[b]? := by
  unfold nextW
  rw [Below.heap_alloc _ _ _ (by simp [setW_size]; omega), Below.heap_alloc _ _ _ (by rw [setW_size]; exact hb2)]
theorem nextW_ne {gl k b : Nat} (hb : b ≠ gl) (hb2 : b < w.heap.size) : (nextW w gl k).heap[b]? = w.heap[b]? := by
  rw [nextW_lt hb2]
  unfold setW
  rw [setCell_ne hb, setCell_ne hb]
theorem nextW_maps {gl k : Nat} : MapI (nextW w gl k) w.heap.size [] ∧ MapI (nextW w gl k) (w.heap.size + 1) [] := by
  constructor
  · refine ⟨#[], 0, ?_, rfl⟩
    unfold nextW
    rw [Below.heap_alloc _ _ _ (by simp [setW_size])]
    have := heap_alloc_new (setW w gl k) (.map #[] 0)
    rwa [setW_size] at this
  · refine ⟨#[], 0, ?_, rfl⟩
    unfold nextW
    have := heap_alloc_new ((setW w gl k).alloc (.map #[] 0)) (.map #[] 0)
    rwa [show ((setW w gl k).alloc (.map #[] 0)).heap.size = w.heap.size + 1 by simp [setW_size]] at this
theorem snoc_cases {l : List AL} {z x : AL} {i : Nat} (hx : (l ++ [z])[i]? = some x) : (l[i]? = some x ∧ i < l.length) ∨ (i = l.length ∧ x = z) := by
  by_cases e : i < l.length
  · rw [List.getElem?_append_left e] at hx; exact .inl ⟨hx, e⟩
  · rw [List.getElem?_append_right (by omega)] at hx
    by_cases e2 : i = l.length
    · subst e2; simp at hx; exact .inr ⟨rfl, hx.symm⟩
    · rw [List.getElem?_eq_none (by simp; omega)] at hx; cases hx
/-- One more actor; its rules have still to come. -/
structure MkIn (w0 w : World) (n : Nat) (R : List (List RuleR)) (l : List AL) (h : Nat) (ra : Assoc) (rs : List RuleR) (q : Nat) : Prop where
  st : MkSt w0 w n R l.length (l ++ [mkA h ra])
  map : MapI w h ra
  as_ : RulesAs ra (rs.take q)
  agg : ∀ p ∈ ra, ∃ r, p.2 = aggRu r
theorem MkSt.next (h : MkSt w0 w n R l.length l) (hl : l.length < n) (rs : List RuleR) : MkIn w0 (nextW w w0.heap.size l.length) n R l w.heap.size [] rs 0 where
  st := by
    have hlt := h.lt
    have hsz := nextW_size w w0.heap.size l.length
    obtain ⟨m1, m2⟩ := nextW_maps (w := w) (gl := w0.heap.size) (k := l.length)
    have hne : ∀ b, b ≠ w0.heap.size → b < w.heap.size → (nextW w w0.heap.size l.length).heap[b]? = w.heap[b]? := fun b hb hb2 => nextW_ne hb hb2
    refine ⟨?_, ?_, fun i x hi hx => ?_, fun i x hx => ?_, fun i j x y hij hx hy => ?_, fun i x hx => ?_⟩
    · exact ⟨h.below.os, h.below.tape, h.below.output, by rw [hsz]; omega, fun b hb => (hne b (by omega) (by omega)).trans (h.below.block b hb)⟩
    · show (nextW w w0.heap.size l.length).heap[w0.heap.size]? = _
      rw [nextW_lt hlt]
      unfold setW
      rw [setCell_get (a := ⟨w0.heap.size, l.length * 4 + 2, none⟩) rfl (setCell_get (a := ⟨w0.heap.size, l.length * 4 + 1, none⟩) rfl h.blk), ← cellsK_next (h := w.heap.size) [] hl]
      simp
    · rcases snoc_cases hx with ⟨hx, hi⟩ | ⟨rfl, rfl⟩
      · have := h.high i x hx
        exact ⟨(h.rules i x hi hx).1.keep (hne _ (by omega) (by omega)), (h.rules i x hi hx).2⟩
      · omega
    · rcases snoc_cases hx with ⟨hx, hi⟩ | ⟨rfl, rfl⟩
      · have := h.high i x hx
        have e := h.cb hx
        exact ⟨(h.comes i x hx).1.keep (hne _ (by omega) (by omega)), (h.comes i x hx).2⟩
      · exact ⟨m2, rfl⟩
    · rcases snoc_cases hx with ⟨hx, hi⟩ | ⟨rfl, rfl⟩
      · rcases snoc_cases hy with ⟨hy, hj⟩ | ⟨rfl, rfl⟩
        · exact h.maps i j x y hij hx hy
        · exact (h.high i x hx).2
      · rcases snoc_cases hy with ⟨hy, hj⟩ | ⟨rfl, rfl⟩ <;> omega
    · rcases snoc_cases hx with ⟨hx, hi⟩ | ⟨rfl, rfl⟩
      · have := h.high i x hx; omega
      · exact ⟨hlt, by rw [hsz]; show w.heap.size + 1 < _; omega⟩
  map := nextW_maps.1
  as_ := rulesAs_nil
  agg := fun p hp => by cases hp
theorem MkIn.hi {h : Nat} {ra : Assoc} {rs : List RuleR} {q : Nat} (hi : MkIn w0 w n R l h ra rs q) : w0.heap.size < h ∧ h + 1 < w.heap.size := hi.st.high l.length (mkA h ra) (by simp)
theorem MkIn.cell {h : Nat} {ra : Assoc} {rs : List RuleR} {q : Nat} (hi : MkIn w0 w n R l h ra rs q) : w.cell? ⟨w0.heap.size, l.length * 4 + 1, none⟩ = some (.map (some h)) := by
  refine (hi.st.cells ?_).1
  unfold cellsK
  have := cellsA_at (l ++ [mkA h ra]) l.length (by simp) 1 (by omega)
  rw [List.getElem?_append_left (by rw [cellsA_length]; simp; omega), this]
  simp [mkA, AL.cells]
theorem MkIn.keep {h : Nat} {ra : Assoc} {rs : List RuleR} {q : Nat} (hi : MkIn w0 w n R l h ra rs q) (hb : RowKit.Below w.heap.size w w') : MkIn w0 w' n R l h ra rs q where
  st := hi.st.keep hb
  map := hi.map.keep (hb.block _ (by have := hi.hi; omega))
  as_ := hi.as_
  agg := hi.agg
/-- One more rule. -/
theorem MkIn.put {h : Nat} {ra : Assoc} {rs : List RuleR} {q : Nat} (hi : MkIn w0 w n R l h ra rs q) (hq : q < rs.length) (hn : (rs.map (·.kind)).Nodup) {es : Array MapEntry} {c : Nat} (he : EntI es.toList (putI ra rs[q].kind (aggRu rs[q])))
    (hw : w'.heap = (setMap w h es c).heap) (h1 : w'.os = w.os) (h2 : w'.tape = w.tape) (h3 : w'.output = w.output) : MkIn w0 w' n R l h (putI ra rs[q].kind (aggRu rs[q])) rs (q + 1) := by
  have hne : ∀ b, b ≠ h → w'.heap[b]? = w.heap[b]? := fun b hb => by rw [hw]; exact setMap_ne w es c hb
  have hsz : w'.heap.size = w.heap.size := by rw [hw]; exact setMap_size ..
  have hh := hi.hi
  have hup : ∀ (i : Nat) x, (l ++ [mkA h (putI ra rs[q].kind (aggRu rs[q]))])[i]? = some x → i < l.length → (l ++ [mkA h ra])[i]? = some x ∧ x.rb + 1 < h := fun i x hx hl => by
    rw [List.getElem?_append_left hl] at hx
    have h4 : (l ++ [mkA h ra])[i]? = some x := by rw [List.getElem?_append_left hl]; exact hx
    exact ⟨h4, hi.st.maps i l.length x (mkA h ra) hl h4 (by simp)⟩
  have hcl : ∀ r1 r2 : Assoc, cellsK (l ++ [mkA h r1]) n = cellsK (l ++ [mkA h r2]) n := fun r1 r2 => by simp [cellsK, cellsA, mkA, AL.cells]
  refine ⟨⟨?_, ?_, fun i x hil hx => ?_, fun i x hx => ?_, fun i j x y hij hx hy => ?_, fun i x hx => ?_⟩, ?_, rulesAs_put hi.as_ hq hn, fun p hp => ?_⟩
  · exact ⟨h1.trans hi.st.below.os, h2.trans hi.st.below.tape, h3.trans hi.st.below.output, by rw [hsz]; exact hi.st.below.size, fun b hb => (hne b (by omega)).trans (hi.st.below.block b hb)⟩
  · rw [hcl _ ra]
    exact (hne _ (by omega)).trans hi.st.blk
  · obtain ⟨h4, h5⟩ := hup i x hx hil
    exact ⟨(hi.st.rules i x hil h4).1.keep (hne _ (by omega)), (hi.st.rules i x hil h4).2⟩
  · rcases snoc_cases hx with ⟨_, hil⟩ | ⟨rfl, rfl⟩
    · obtain ⟨h4, h5⟩ := hup i x hx hil
      have := hi.st.cb h4
      exact ⟨(hi.st.comes i x h4).1.keep (hne _ (by omega)), (hi.st.comes i x h4).2⟩
    · exact ⟨(hi.st.comes l.length (mkA h ra) (by simp)).1.keep (hne _ (by show h + 1 ≠ h; omega)), rfl⟩
  · rcases snoc_cases hy with ⟨_, hjl⟩ | ⟨rfl, rfl⟩
    · exact hi.st.maps i j x y hij (hup i x hx (by omega)).1 (hup j y hy hjl).1
    · exact (hup i x hx hij).2
  · rcases snoc_cases hx with ⟨_, hil⟩ | ⟨rfl, rfl⟩
    · rw [hsz]; exact hi.st.high i x (hup i x hx hil).1
    · rw [hsz]; exact hh
  · exact (setMap_eq (w := w) (c := c) (by omega) he).keep (by rw [hw])
  · rcases mem_putI hp with rfl | hp
    · exact ⟨_, rfl⟩
    · exact hi.agg p hp
theorem MkIn.fin {h : Nat} {ra : Assoc} {rs : List RuleR} (hi : MkIn w0 w n R l h ra rs rs.length) (hr : R.getD l.length [] = rs) : MkSt w0 w n R (l.length + 1) (l ++ [mkA h ra]) where
  below := hi.st.below
  blk := hi.st.blk
  rules := fun i x hil hx => by
    rcases snoc_cases hx with ⟨_, hil⟩ | ⟨rfl, rfl⟩
    · exact hi.st.rules i x hil hx
    · refine ⟨hi.map, ?_, hi.agg⟩
      have := hi.as_
      rw [List.take_length] at this
      rw [hr]; exact this
  comes := hi.st.comes
  maps := hi.st.maps
  high := hi.st.high
/-- They lie as actor.Run wants them. -/
theorem MkSt.lies (h : MkSt w0 w n R n l) (hl : l.length = n) (hn : R.length = n) : LiesA w w0.heap.size (w0.heap.size + 1) w0.heap.size R (fun _ _ => []) l ∧ ∀ x ∈ l, x.num = 0 ∧ x.sent = [] ∧ x.sv = .slice none 0 0 ∧ x.ca = [] := by
  have hx0 : ∀ (i : Nat) x, l[i]? = some x → x.ca = [] ∧ x.sv = .slice none 0 0 ∧ x.sent = [] ∧ x.num = 0 := fun i x hx => by rw [(h.comes i x hx).2]; exact ⟨rfl, rfl, rfl, rfl⟩
  have hlt := h.lt
  have hcv : ∀ (i : Nat) x t, l[i]? = some x → cvA x t = .slice none 0 0 := fun i x t hx => by unfold cvA; rw [(hx0 i x hx).1]; rfl
  refine ⟨⟨?_, by omega, fun i x hx => ?_, fun i x hx => ?_, fun i x t hx => ?_, fun i j x y t u hx _ _ => ?_, fun i j x y hx hy => ?_, fun x hx => ?_, fun x hx => ?_, Nat.le_refl _, by omega, by omega⟩, fun x hx => ?_⟩
  · have := h.blk
    rw [← hl, cellsK_full] at this
    exact this
  · exact h.rules i x (by have := (List.getElem?_eq_some_iff.1 hx).1; omega) hx
  · rw [(hx0 i x hx).1]; exact ⟨(h.comes i x hx).1, by simp⟩
  · rw [hcv i x t hx]; exact World.ownsRow_nil ..
  · left; rw [hcv i x t hx]; rfl
  · have e1 := h.cb hx
    have e2 := h.cb hy
    by_cases e : i < j
    · have := h.maps i j x y e hx hy; exact ⟨by omega, fun _ => by omega⟩
    · by_cases e3 : j < i
      · have := h.maps j i y x e3 hy hx; exact ⟨by omega, fun _ => by omega⟩
      · obtain rfl : i = j := by omega
        rw [hx] at hy; cases hy
        exact ⟨by omega, fun h => absurd rfl h⟩
  · obtain ⟨i, hi, rfl⟩ := List.getElem_of_mem hx
    have hx' := List.getElem?_eq_getElem hi
    have := h.high i _ hx'
    have := h.cb hx'
    exact ⟨by omega, by omega⟩
  · obtain ⟨i, hi, rfl⟩ := List.getElem_of_mem hx
    have := hx0 i _ (List.getElem?_eq_getElem hi)
    exact .inl ⟨this.2.2.1, this.2.1⟩
  · obtain ⟨i, hi, rfl⟩ := List.getElem_of_mem hx
    have := hx0 i _ (List.getElem?_eq_getElem hi)
    exact ⟨this.2.2.2, this.2.2.1, this.2.1, this.1⟩
end
def VM9 (gl n k0 h xb : Nat) (r : RuleR) : Nat → Value := fun i => match i with
  | 0 => .slice (some ⟨gl, 0, none⟩) n n
  | 1 => .int .i64 k0
  | 2 => .pointer (some ⟨gl, k0 * 4, none⟩)
  | 3 => .pointer (some ⟨gl, k0 * 4 + 1, none⟩)
  | 4 => .map (some h)
  | 5 => .pointer (some ⟨xb, 0, none⟩)
  | 6 => .int .i64 r.kind
  | 7 => aggRu r
  | _ => undef
set_option maxRecDepth 100000 in
theorem m9_ok : drawOk (opsOf Try.f62 9) 8 = true := by kernel_rfl
set_option maxRecDepth 100000 in
theorem m9_ch : chainOk (opsOf Try.f62 9) 8 [] = true := by kernel_rfl
set_option maxRecDepth 100000 in
theorem m9_wp {ops : Array Oper} (hops : ops = opsOf Try.f62 9) {a : Act} {W : World} {gl n k0 h xb : Nat} {ra : Assoc} {r : RuleR}
    (hz : a.tmps.size = 45) (t3 : a.eval (.tmp 3) = .slice (some ⟨gl, 0, none⟩) n n) (t4 : a.eval (.tmp 4) = .int .i64 k0) (t6 : a.eval (.tmp 6) = .pointer (some ⟨xb, 0, none⟩)) (hi : k0 < n)
    (h1 : W.cell? ⟨gl, k0 * 4 + 1, none⟩ = some (.map (some h))) (hx : W.heap[xb]? = some (.cells (cellsRu r).toArray 54 (0, 0))) (hm : MapI W h ra) {Q : Exit → Act → World → Prop} {id : Nat}
    (hQ : ∀ w' es c, EntI es.toList (putI ra r.kind (aggRu r)) → w'.heap = (setMap W h es c).heap → w'.os = W.os → w'.tape = W.tape → w'.output = W.output → Q .normal (putsV ops (VE [] (VM9 gl n k0 h xb r) []) (List.range 8) a) w') : (Code.region id ops true).wp Try.prog Q a W := by
  subst hops
  have hdd := drawOk_d m9_ok
  have nw : ∀ (V : Nat → Value) t j, prodOf (opsOf Try.f62 9) t = some j → j < 8 → t < 45 → (putsV (opsOf Try.f62 9) V (List.range 8) a).eval (.tmp t) = V j := fun V t j h1 h2 h3 => puts_new hdd h1 h2 (by rw [hz]; exact h3)
  have od : ∀ (V : Nat → Value) t, prodOf (opsOf Try.f62 9) t = none → (putsV (opsOf Try.f62 9) V (List.range 8) a).eval (.tmp t) = a.eval (.tmp t) := fun V t h => puts_old hdd h
  have hsz : (opsOf Try.f62 9).size = 9 := by kernel_rfl
  refine wp_drawnE mixed_orders m9_ok m9_ch (fun vs w => w.heap = W.heap ∧ w.os = W.os ∧ w.tape = W.tape ∧ w.output = W.output) (VM9 gl n k0 h xb r) (fun i o hio him hiE vs w hS0 => ?_) (fun q i o hq hio vs w hl hS => ?_) (fun vs w hl hS => ?_) (fun d => ⟨rfl, rfl, rfl, rfl⟩)
  · have hS := hS0.1
    have hil : i < 9 := by have := (Array.getElem?_eq_some_iff.1 hio).1; omega
    obtain rfl | rfl | rfl | rfl | rfl | rfl | rfl | rfl : i = 0 ∨ i = 1 ∨ i = 2 ∨ i = 3 ∨ i = 4 ∨ i = 5 ∨ i = 6 ∨ i = 7 := by omega
    · exact a_mv (op_of (p := .move (.tmp 3)) (by kernel_rfl) hio) ((od _ 3 (by kernel_rfl)).trans t3)
    · exact a_mv (op_of (p := .move (.tmp 4)) (by kernel_rfl) hio) ((od _ 4 (by kernel_rfl)).trans t4)
    · exact a_index (op_of (p := .indexAddr 135 (.tmp 34) (.tmp 35)) (by kernel_rfl) hio) (nw _ 34 0 (by kernel_rfl) (by decide) (by decide)) (nw _ 35 1 (by kernel_rfl) (by decide) (by decide)) hi Try.underlying135 (fun w => Try.sizeOf140 w) (by omega)
    · exact a_fac (op_of (p := .fieldAddr 140 (.tmp 36) 1) (by kernel_rfl) hio) (nw _ 36 2 (by kernel_rfl) (by decide) (by decide)) (by decide) rfl
    · exact q_load (op_of (p := .load 137 (.tmp 37)) (by kernel_rfl) hio) (nw _ 37 3 (by kernel_rfl) (by decide) (by decide)) (fun w => Try.isAgg137 w) ((World.cell?_of_block (by rw [hS])).trans h1)
    · exact a_fru (op_of (p := .fieldAddr 54 (.tmp 6) 0) (by kernel_rfl) hio) ((od _ 6 (by kernel_rfl)).trans t6) (by decide) rfl
    · exact q_load (op_of (p := .load 3 (.tmp 39)) (by kernel_rfl) hio) (nw _ 39 5 (by kernel_rfl) (by decide) (by decide)) (fun w => Try.isAgg3 w) ((World.cell?_of_block (by rw [hS])).trans (cells_at hx 0 _ rfl))
    · exact a_loadRu (op_of (p := .load 54 (.tmp 6)) (by kernel_rfl) hio) ((od _ 6 (by kernel_rfl)).trans t6) (fun j u hu => by rw [Nat.zero_add]; exact (World.cell?_of_block (by rw [hS])).trans (cells_at hx j u hu))
  · simp at hq
  · obtain rfl : vs = [] := List.eq_nil_of_length_eq_zero hl
    obtain ⟨hS, ho1, ho2, ho3⟩ := hS
    have e38 : (putsV (opsOf Try.f62 9) (VE [] (VM9 gl n k0 h xb r) []) (List.range 8) a).eval (.tmp 38) = .map (some h) := nw _ 38 4 (by kernel_rfl) (by decide) (by decide)
    have e40 : (putsV (opsOf Try.f62 9) (VE [] (VM9 gl n k0 h xb r) []) (List.range 8) a).eval (.tmp 40) = .int .i64 r.kind := nw _ 40 6 (by kernel_rfl) (by decide) (by decide)
    have e41 : (putsV (opsOf Try.f62 9) (VE [] (VM9 gl n k0 h xb r) []) (List.range 8) a).eval (.tmp 41) = aggRu r := nw _ 41 7 (by kernel_rfl) (by decide) (by decide)
    obtain ⟨o, ho8, hop, hgd, hdst⟩ := op_ex (ops := (opsOf Try.f62 9)) (i := 8) (p := .mapUpdate 137 (.tmp 38) (.tmp 40) (.tmp 41)) (d := none) (by kernel_rfl)
    obtain ⟨es, c, he, hr⟩ := q_update (P := Try.prog) Try.underlying137 Try.underlying3 (hm.keep (w' := w) (by rw [hS])) hop e38 e40 e41
    simp only [wpOps, ho8, yld hgd, if_true]
    refine .inl ?_
    unfold Oper.wp
    rw [hr, Oper.upon_skip, hdst, put_none]
    exact hQ _ es c he (by simp [setMap, hS]) ho1 ho2 ho3
set_option maxRecDepth 100000 in
set_option maxHeartbeats 4000000 in
theorem make_any (w : World) (B n : Nat) (A : Option Addr) (c : Nat) (R : List RulR) (hR : RdRules w B A R) (hB : B ≤ w.heap.size) (hn : R.length = n) (h2 : n ≤ 1000) (hk : ∀ r ∈ R, (r.rs.map (·.kind)).Nodup) :
    Calls Try.prog 62 #[.slice A n c] w fun e w' => e = .returned (.slice (some ⟨w.heap.size, 0, none⟩) n n) ∧ ∃ l, l.length = n ∧ MkSt w w' n (R.map (·.rs)) n l := by
  have HR := Lib.hid (And.intro hR (And.intro hn hk)); clear hR hn hk
  have hma := make_ac n (by omega) w h2
  have hst0 : MkSt w (w.alloc (.cells (madeCells #[.int .i64 0, .map none, .map none, .slice none 0 0] (n * 4)) 140)) n (R.map (·.rs)) 0 [] :=
    ⟨(RowKit.Below.refl _ _).alloc (Nat.le_refl _) _, by
      have := heap_alloc_new w (.cells (madeCells #[.int .i64 0, .map none, .map none, .slice none 0 0] (n * 4)) 140)
      show _ = some (Obj.cells (cellsK [] n).toArray _ _)
      rw [← made_ac, Array.toArray_toList]
      exact this, fun i x h => absurd h (by omega), fun i x h => by simp at h, fun i j x y _ h => by simp at h, fun i x h => by simp at h⟩
  have Hst0 := Lib.hid hst0; clear hst0
  go_enter Try.func62, Try.ntmps62
  go_wp2
  clear hma
  go_loopg [12] n (fun gk i wr => ∃ (k : Nat) (l : List AL), gk + k = n ∧ i = .int .i64 k ∧ l.length = k ∧ MkSt w wr n (R.map (·.rs)) k l)
  case atStart => exact ⟨0, [], by omega, rfl, rfl, Hst0.out⟩
  case round =>
    clear Hst0
    obtain ⟨k, l, hgk, rfl, hlk, hst⟩ := hrel
    subst hlk
    by_cases hlt : l.length < n
    · have hkR : l.length < R.length := by rw [HR.out.2.1]; exact hlt
      obtain ⟨ob, oo, rfl, hob, _⟩ := HR.out.1.at_ hkR
      have hz1 := hst.cells (cellsK_zero hlt 1 (by omega))
      have hz2 := hst.cells (cellsK_zero hlt 2 (by omega))
      have hglt := hst.lt
      obtain ⟨⟨a1, a2⟩, b1, b2⟩ := And.intro hz1 hz2
      clear hz1 hz2
      have hbg : ob < w.heap.size := by omega
      obtain ⟨rs, hrs⟩ : ∃ rs, R[l.length].rs = rs := ⟨_, rfl⟩
      have hnx := hst.next hlt rs
      have hbw := hnx.st.below
      have hRw := HR.out.1.keep (w' := wr) (fun p hp => (hst.below.mono hB).cell hp)
      have hsm := HR.out.1.small _ hkR
      have hrd := HR.out.1.each _ hkR
      obtain ⟨_, _, he, _, c0⟩ := hRw.at_ hkR
      obtain ⟨rfl, rfl⟩ : ob = _ ∧ oo = _ := by simp only [Option.some.injEq, Addr.mk.injEq] at he; exact ⟨he.1, he.2.1⟩
      have hnd := HR.out.2.2 _ (List.getElem_mem hkR)
      obtain ⟨jA, hjA⟩ : ∃ jA, R[l.length].A = jA := ⟨_, rfl⟩
      obtain ⟨jc, hjc⟩ : ∃ jc, R[l.length].c = jc := ⟨_, rfl⟩
      have hget : (R.map (·.rs)).getD l.length [] = rs := by rw [List.getD_eq_getElem?_getD, List.getElem?_map, List.getElem?_eq_getElem hkR, ← hrs]; rfl
      rw [hrs] at hsm hrd c0 hnd
      rw [hjA] at hrd c0
      rw [hjc] at c0
      unfold Fits at hsm
      have hsz := nextW_size wr w.heap.size l.length
      clear hrs hjA hjc he hRw
      have HN := Lib.hid (And.intro hnx (And.intro hrd (And.intro hnd (And.intro hget (And.intro hst hsz))))); clear hnx hbw hrd hnd hget hst hsz
      have hmk := @run_makeMap Try.prog
      have c1 : ((((wr.setCell ⟨w.heap.size, l.length * 4 + 1, none⟩ (.map (some wr.heap.size))).setCell ⟨w.heap.size, l.length * 4 + 2, none⟩ (.map (some (wr.heap.size + 1)))).alloc (.map #[] 0)).alloc (.map #[] 0)).cell? ⟨ob, oo + l.length, none⟩ = some (.slice jA rs.length jc) := by
        show (nextW wr w.heap.size l.length).cell? _ = _
        rw [World.cell?_of_block (a := ⟨ob, oo + l.length, none⟩) (w := wr) (nextW_ne (show ob ≠ w.heap.size by omega) (show ob < wr.heap.size by omega))]
        exact c0
      go_wp2
      clear hmk c0 c1 a1 a2 b1 b2
      obtain ⟨wo, rfl⟩ : ∃ wo : World, wo = wr := ⟨_, rfl⟩
      obtain ⟨go, rfl⟩ : ∃ go : Nat, go = gk := ⟨_, rfl⟩
      go_loopg [30] rs.length (fun gk i wr => ∃ (q : Nat) (ra : Assoc), gk + q = rs.length ∧ i = .int .i64 q ∧ MkIn w wr n (R.map (·.rs)) l wo.heap.size ra rs q)
      case atStart => exact ⟨0, [], by omega, rfl, HN.out.1⟩
      case round =>
        obtain ⟨q, ra, hgq, rfl, hin⟩ := hrel
        by_cases hq : q < rs.length
        · have hrd2 := HN.out.2.1.below (hin.st.below.mono hB)
          obtain ⟨rb, ro, rfl, hrb2, hcr⟩ := rd_flat (f := cellsRu) (s := 7) (by decide) (fun _ => rfl) hrd2 hq
          obtain ⟨x, hx⟩ : ∃ x, rs[q] = x := ⟨_, rfl⟩
          rw [hx] at hcr
          obtain ⟨kd, ti, pl, md, sd, dt, af⟩ := x
          have d0 := hcr 0 _ rfl
          have d1 := hcr 1 _ rfl
          have d2 := hcr 2 _ rfl
          have d3 := hcr 3 _ rfl
          have d4 := hcr 4 _ rfl
          have d5 := hcr 5 _ rfl
          have d6 := hcr 6 _ rfl
          rw [Nat.add_zero] at d0
          simp only at d0 d1 d2 d3 d4 d5 d6
          have hal := hin.keep ((RowKit.Below.refl _ _).alloc (Nat.le_refl _) (.cells #[.int .i64 kd, .int .i64 ti, .int .i64 pl, .int .i64 md, .int .i64 sd, .int .i64 dt, .int .i64 af] 54))
          have hnew := heap_alloc_new wr (.cells #[.int .i64 kd, .int .i64 ti, .int .i64 pl, .int .i64 md, .int .i64 sd, .int .i64 dt, .int .i64 af] 54)
          have HQ := Lib.hid (And.intro hx (And.intro hal hnew)); clear hx hal hnew hin hcr hrd2
          go_wp2
          refine m9_wp (gl := w.heap.size) (n := n) (k0 := l.length) (h := wo.heap.size) (xb := wr.heap.size) (ra := ra) (r := ⟨kd, ti, pl, md, sd, dt, af⟩) (by kernel_rfl) rfl rfl rfl rfl hlt HQ.out.2.1.cell HQ.out.2.2 HQ.out.2.1.map fun w' es c he hw h1 h2 h3 => ?_
          have hput := HQ.out.2.1.put hq HN.out.2.2.1 (es := es) (c := c) (by rw [HQ.out.1]; exact he) hw h1 h2 h3
          have HP := Lib.hid hput; clear hput he hw h1 h2 h3
          rw [show List.range 8 = [0, 1, 2, 3, 4, 5, 6, 7] from rfl]
          simp only [putsV, VM9, VE, List.findIdx?_nil, List.getElem?_toArray, List.getElem?_cons_succ, List.getElem?_cons_zero, Option.bind_some]
          go_simp
          go_wp2
          go_roundg (gk - 1)
          case measure => omega
          case rel => exact ⟨q + 1, _, by omega, by go_num, HP.out⟩
        · have hqe : q = rs.length := by omega
          subst hqe
          have hfin := hin.fin HN.out.2.2.2.1
          have HF := Lib.hid hfin; clear hfin hin
          go_wp2
          go_roundg (go - 1)
          case measure => omega
          case rel => exact ⟨l.length + 1, _, by omega, by go_num, by simp, HF.out⟩
    · have hln : l.length = n := by omega
      have HS := Lib.hid (And.intro hln hst); clear hst
      go_wp2
      go_ret
      exact ⟨rfl, l, hln, HS.out.1 ▸ HS.out.2⟩
end Go.Proofs.Yticdjkkcfdbdcaa
