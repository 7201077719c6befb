/- An actor's small lone world; a call of 'at' in company. No conditions but those named. -/
import Derived.Test.YticdjkkcfdbdcaaAcPv
import Derived.Test.YticdjkkcfdbdcaaCut
import Derived.Test.YticdjkkcfdbdcaaSpawnB
import Derived.Test.YticdjkkcfdbdcaaAcDn
import Derived.Test.YticdjkkcfdbdcaaPhR
namespace Go.Proofs.Yticdjkkcfdbdcaa
open Go.Conc Go.ConcN Go.RowKit
theorem arr_back {x x' : Array Value} (sx : x.size = x'.size) (h : ∀ (i : Nat) v v', x[i]? = some v → x'[i]? = some v' → v' = v) : x' = x := by
  apply Array.ext_getElem?
  intro i
  by_cases e : i < x.size
  · rw [Array.getElem?_eq_getElem e, Array.getElem?_eq_getElem (by rw [← sx]; exact e)]
    rw [h i _ _ (Array.getElem?_eq_getElem e) (Array.getElem?_eq_getElem (by rw [← sx]; exact e))]
  · rw [Array.getElem?_eq_none (by rw [← sx]; omega), Array.getElem?_eq_none (by omega)]
theorem Bare.back {S : FnSet} {ρ : Ren} {v v' : Value} (h : Bare v) (hv : VR S ρ v v') : v' = v := by
  induction h generalizing v' with
  | iface t _ ih => cases hv with
    | iface _ hv => rw [ih hv]
  | agg _ ih => cases hv with
    | agg sx hx =>
      rw [arr_back sx fun i u u' h1 h2 => ih i u h1 (hx i u u' h1 h2)]
  | tuple _ ih => cases hv with
    | tuple sx hx =>
      rw [arr_back sx fun i u u' h1 h2 => ih i u h1 (hx i u u' h1 h2)]
  | bool b => cases hv; rfl
  | int k n => cases hv; rfl
  | string s => cases hv; rfl
  | nilPtr => cases hv; rfl
  | nilSlice l c => cases hv; rfl
  | nilMap => cases hv; rfl
  | nilChan => cases hv; rfl
  | nilFunc => cases hv; rfl
  | nilIface => cases hv; rfl
theorem Bare.any {S : FnSet} {ρ ρ' : Ren} {v v' : Value} (h : Bare v) (hv : VR S ρ v v') : VR S ρ' v v' := by rw [h.back hv]; exact h.rel
theorem bare_ru (r : RuleR) : Bare (aggRu r) := by
  refine .agg fun i v h => ?_
  have hm := Array.mem_of_getElem? h
  simp [cellsRu] at hm
  rcases hm with rfl | rfl | rfl | rfl | rfl | rfl | rfl <;> exact .int _ _
theorem flatX_bare {l : List LetR} {v : Value} (h : v ∈ flatX l) : Bare v := by
  obtain ⟨x, _, hx⟩ := List.mem_flatMap.1 h
  simp [cellsX] at hx
  rcases hx with rfl | rfl | rfl | rfl <;> exact .int _ _
def lenV : Value → Nat
  | .slice _ n _ => n
  | _ => 0
/-- What is kept of the lone world for an actor. -/
def keepA (x : AL) (b : Nat) : Option Nat := if b = x.rb ∨ b = x.cb then some 0 else (x.ca.find? fun p => p.2.ownBlock == some b).map fun p => 4 * lenV p.2
section
variable {L : World} {B base gl : Nat} {R : List (List RuleR)} {c : Come} {l : List AL} {j : Nat} {x : AL}
theorem LiesA.map_ne (h : LiesA L B base gl R c l) (hj : l[j]? = some x) : gl ≠ x.rb ∧ gl ≠ x.cb := ⟨(h.rules j x hj).1.not_cells h.blk, (h.comes j x hj).1.not_cells h.blk⟩
theorem LiesA.cv_mem (h : LiesA L B base gl R c l) (hj : l[j]? = some x) {p : Int × Value} (hp : p ∈ x.ca) : cvA x p.1 = p.2 := by
  unfold cvA
  rw [mem_getI (h.comes j x hj).2 hp]
  rfl
theorem LiesA.cv_len (h : LiesA L B base gl R c l) (hj : l[j]? = some x) (t : Int) : lenV (cvA x t) = (c j t).length := by
  have := h.own j x t hj
  rcases this.2 with ⟨e, e2⟩ | ⟨g, cap, cur, e, _⟩
  · rw [e]; exact e2.symm
  · rw [e]; rfl
theorem LiesA.keep_of (h : LiesA L B base gl R c l) (hj : l[j]? = some x) {b m : Nat} (hK : keepA x b = some m) : (b = x.rb ∨ b = x.cb) ∨ ∃ t, (cvA x t).ownBlock = some b ∧ m = 4 * (c j t).length := by
  unfold keepA at hK
  split at hK
  · rename_i e; exact .inl e
  · obtain ⟨p, hp, rfl⟩ := Option.map_eq_some_iff.1 hK
    have hm := List.mem_of_find?_eq_some hp
    have hb := List.find?_some hp
    simp only [beq_iff_eq] at hb
    have e := h.cv_mem hj hm
    refine .inr ⟨p.1, by rw [e]; exact hb, ?_⟩
    rw [← h.cv_len hj, e]
theorem LiesA.keep_gl (h : LiesA L B base gl R c l) (hj : l[j]? = some x) : keepA x gl = none := by
  cases hK : keepA x gl with
  | none => rfl
  | some m =>
    exfalso
    rcases h.keep_of hj hK with (e | e) | ⟨t, ht, _⟩
    · exact (h.map_ne hj).1 e
    · exact (h.map_ne hj).2 e
    · have := (own_block_at (h.own j x t hj) ht).1
      have := h.below
      omega
theorem LiesA.keep_at (h : LiesA L B base gl R c l) (hj : l[j]? = some x) {t : Int} {b : Nat} (hb : (cvA x t).ownBlock = some b) : keepA x b = some (4 * (c j t).length) := by
  have hne : ¬ (b = x.rb ∨ b = x.cb) := by
    obtain ⟨_, cur, h2⟩ := own_block_at (h.own j x t hj) hb
    rintro (e | e)
    · exact (h.rules j x hj).1.not_cells h2 e
    · exact (h.comes j x hj).1.not_cells h2 e
  have hget : ∃ v, getI x.ca t = some v := by
    cases hg : getI x.ca t with
    | some v => exact ⟨v, rfl⟩
    | none => unfold cvA at hb; rw [hg] at hb; cases hb
  obtain ⟨v, hv⟩ := hget
  have hcv : cvA x t = v := by unfold cvA; rw [hv]; rfl
  cases hK : keepA x b with
  | none =>
    unfold keepA at hK
    rw [if_neg hne, Option.map_eq_none_iff, List.find?_eq_none] at hK
    have := hK _ (getI_mem hv)
    rw [hcv] at hb
    simp [hb] at this
  | some m =>
    rcases h.keep_of hj hK with e | ⟨t', ht', rfl⟩
    · exact absurd e hne
    · by_cases e : t = t'
      · rw [e]
      · rcases h.apart j j x x t t' hj hj (.inr e) with h1 | h1
        · rw [h1] at hb; cases hb
        · exact absurd (hb.trans ht'.symm) h1
/-- The small lone world. -/
abbrev cutA (L : World) (gl : Nat) (bad : TypeId) (j : Nat) (x : AL) : World := cutW (keepA x) gl (j * 4) 4 bad L
theorem LiesA.ask (h : LiesA L B base gl R c l) (hj : l[j]? = some x) (hnil : x.sv = .slice none 0 0) {t : Int} {bad : TypeId} {T : Nat → Question → Nat} (hmd : ∀ r ∈ R.getD j [], 0 ≤ r.mod ∧ (r.mod ≠ 0 → 0 ≤ r.after ∧ r.after ≤ 1000)) (hfew : (c j t).length < 900000) (hti : ∀ y ∈ c j t, 0 ≤ y.time ∧ y.time ≤ 1000000) :
    ∃ A cc, AtAsk { cutA L gl bad j x with tape := T } gl 0 x.rb x.cb x.num (R.getD j []) x.ra x.ca t (c j t) A cc L.heap.size := by
  obtain ⟨hjl, hx⟩ := List.getElem?_eq_some_iff.1 hj
  obtain ⟨A, cc, hA, _⟩ : ∃ A cc, cvA x t = .slice A (c j t).length cc ∧ True := by
    rcases (h.own j x t hj).2 with ⟨e, e2⟩ | ⟨g, cap, cur, e, _⟩
    · exact ⟨none, 0, by rw [e, e2], trivial⟩
    · exact ⟨_, _, e, trivial⟩
  have hnum : ∀ i, i < 4 → ((cellsA l).toArray.extract (j * 4) (j * 4 + 4))[i]? = x.cells[i]? := fun i hi => by
    rw [Array.getElem?_extract, if_pos (by simp only [List.size_toArray, cellsA_length]; omega)]
    have := cellsA_at l j hjl i hi
    rw [hx] at this
    simpa using this
  have hgl : (cutA L gl bad j x).heap[gl]? = some (.cells ((cellsA l).toArray.extract (j * 4) (j * 4 + 4)) bad (0, 0)) := cutW_g h.blk
  have hcell : ∀ i, i < 4 → (cutA L gl bad j x).cell? ⟨gl, i, none⟩ = x.cells[i]? := fun i hi => by rw [cell_of_row _ _ _ _ _ _ hgl, hnum i hi]
  have hmap : ∀ {b : Nat} {a : Assoc}, (b = x.rb ∨ b = x.cb) → MapI L b a → MapI (cutA L gl bad j x) b a := fun {b a} hb hm => by
    refine hm.keep ?_
    obtain ⟨es, ck, h1, _⟩ := hm
    rw [h1]
    refine cutW_obj (m := 0) (by unfold keepA; rw [if_pos hb]) (fun e => ?_) h1 fun _ _ _ e => by cases e
    rw [e, show L.heap[gl]? = _ from h.blk] at h1
    cases h1
  refine ⟨A, cc, ⟨AtSt.refl hgl ((hnum 0 (by omega)).trans rfl) ((hnum 3 (by omega)).trans (by rw [← hnil]; rfl)), hcell 1 (by omega), hcell 2 (by omega), hmap (.inl rfl) (h.rules j x hj).1, (h.rules j x hj).2.1, hmd, hmap (.inr rfl) (h.comes j x hj).1, hA, ?_, by rw [show ({ cutA L gl bad j x with tape := T } : World).heap.size = L.heap.size from cutW_size ..]; exact Nat.le_refl _, ?_, hfew, hti⟩⟩
  · intro hne
    have hpos : c j t ≠ [] := fun e => hne (by rw [e]; rfl)
    rcases (h.own j x t hj).2 with ⟨_, e⟩ | ⟨g, cap, cur, e, e2, e3, e4, _, e5, e6⟩
    · exact absurd (List.length_eq_zero_iff.1 e) hpos
    · rw [hA] at e
      cases e
      refine ⟨g, 0, rfl, (Array.getElem?_eq_some_iff.1 e3).1, fun i v hv => ?_⟩
      have hK := h.keep_at hj (t := t) (b := g) (by rw [hA]; rfl)
      have hgg : g ≠ gl := fun e => by have := h.below; omega
      have hrow := cutW_row (sh := j * 4) (n := 4) (bad := bad) hK hgg e3
      have : (cutA L gl bad j x).cell? ⟨g, i, none⟩ = some v := by
        rw [cell_of_row _ _ _ _ _ _ hrow, Array.getElem?_extract]
        have hil := (List.getElem?_eq_some_iff.1 hv).1
        rw [flatX_len] at hil
        have hc : cur[i]? = some v := by
          rw [← e6, List.getElem?_take, if_pos (by omega)] at hv
          simpa using hv
        have := (Array.getElem?_eq_some_iff.1 hc).1
        rw [if_pos (by omega), Nat.zero_add]
        exact hc
      rw [Nat.zero_add]
      exact this
  · intro b o e
    have := own_block_at (h.own j x t hj) (b := b) (by rw [hA, e]; rfl)
    have := h.below
    omega
end
section
variable {ρ : Ren} {k : LK} {L W : World} {B base gl lb : Nat} {R : List (List RuleR)} {c : Come} {l : List AL}
/-- What an actor's worker owns. -/
def ItA (ρ : Ren) (lb : Nat) (l : List AL) (j : Nat) (q : Loc) : Prop := (∃ i, i < 4 ∧ q = .cell ⟨lb, j * 4 + i, none⟩) ∨ ∃ x r, l[j]? = some x ∧ (ρ x.rb = some (r, 0) ∨ ρ x.cb = some (r, 0)) ∧ q = .obj r
theorem LiesA.only_of {x : AL} {b m : Nat} {p : Nat × Nat} (h1 : keepA x b = some m) (h2 : ρ b = some p) : (ρ.only (keepA x)) b = some p := Ren.only_to.2 ⟨by rw [h1]; rfl, h2⟩
theorem LiesA.cv_only (hL : LiesA L B base gl R c l) {j : Nat} {x : AL} (hj : l[j]? = some x) (t : Int) (v' : Value) (hv : VR (InV acL acV) ρ (cvA x t) v') : VR (InV acL acV) (ρ.only (keepA x)) (cvA x t) v' := by
  rcases (hL.own j x t hj).2 with ⟨e, _⟩ | ⟨g, cap, cur, e, _⟩
  · rw [e] at hv ⊢
    cases hv
    exact .nilSlice _ _
  · have hK := hL.keep_at hj (t := t) (b := g) (by rw [e]; rfl)
    rw [e] at hv ⊢
    cases hv with
    | slice hA _ _ =>
      obtain ⟨h1, c', s', h2, h3⟩ := hA
      exact VR.slice (ρ := ρ.only (keepA x)) ⟨h1, c', s', LiesA.only_of hK h2, h3⟩ _ _
theorem LiesA.obj_only (hL : LiesA L B base gl R c l) {j : Nat} {x : AL} (hj : l[j]? = some x) {b m : Nat} {o o' : Obj} (hK : keepA x b = some m) (ho : L.heap[b]? = some o) (hor : OR (InV acL acV) ρ o o') : OR (InV acL acV) (ρ.only (keepA x)) o o' := by
  have hcases : (b = x.rb ∨ b = x.cb) ∨ ∃ t, (cvA x t).ownBlock = some b := by
    rcases hL.keep_of hj hK with e | ⟨t', ht', _⟩
    · exact .inl e
    · exact .inr ⟨t', ht'⟩
  rcases hcases with hb | ⟨t', ht'⟩
  · have hent : ∃ es ck, o = .map es ck ∧ ∀ e ∈ es.toList, Bare e.key ∧ (Bare e.val ∨ ∃ t, e.val = cvA x t) := by
      rcases hb with e | e
      · subst e
        obtain ⟨es, ck, h1, h2⟩ := (hL.rules j x hj).1
        rw [h1] at ho
        cases ho
        refine ⟨es, ck, rfl, fun e he => ?_⟩
        have : (e.key, e.val) ∈ x.ra.map fun p => (Value.int .i64 p.1, p.2) := by rw [← h2]; exact List.mem_map.2 ⟨e, he, rfl⟩
        obtain ⟨p, hp, hpe⟩ := List.mem_map.1 this
        simp only [Prod.mk.injEq] at hpe
        obtain ⟨r, hr⟩ := (hL.rules j x hj).2.2 p hp
        exact ⟨by rw [← hpe.1]; exact .int _ _, .inl (by rw [← hpe.2, hr]; exact bare_ru r)⟩
      · subst e
        obtain ⟨es, ck, h1, h2⟩ := (hL.comes j x hj).1
        rw [h1] at ho
        cases ho
        refine ⟨es, ck, rfl, fun e he => ?_⟩
        have : (e.key, e.val) ∈ x.ca.map fun p => (Value.int .i64 p.1, p.2) := by rw [← h2]; exact List.mem_map.2 ⟨e, he, rfl⟩
        obtain ⟨p, hp, hpe⟩ := List.mem_map.1 this
        simp only [Prod.mk.injEq] at hpe
        exact ⟨by rw [← hpe.1]; exact .int _ _, .inr ⟨p.1, by rw [hL.cv_mem hj hp, hpe.2]⟩⟩
    obtain ⟨es, ck, rfl, hent⟩ := hent
    cases hor with
    | map _ se he =>
      refine .map ck se fun i e e' q1 q2 => ?_
      obtain ⟨z1, z2, z3⟩ := he i e e' q1 q2
      obtain ⟨y1, y2⟩ := hent e (by simpa using Array.mem_of_getElem? q1)
      refine ⟨y1.any z1, ?_, z3⟩
      rcases y2 with y2 | ⟨t, y2⟩
      · exact y2.any z2
      · rw [y2] at z2 ⊢
        exact hL.cv_only hj t _ z2
  · obtain ⟨_, cur, h1⟩ := own_block_at (hL.own j x t' hj) ht'
    rw [h1] at ho
    cases ho
    exact absurd rfl (hor.notCells.1 _ _ _)
theorem LiesA.cutR (hM : Mir (InV acL acV) Try.prog ρ k L W) (hL : LiesA L B base gl R c l) (hW : LiesAW (InV acL acV) ρ k W gl lb l) {j : Nat} {x : AL} (hj : l[j]? = some x) (hnil : x.sv = .slice none 0 0) {R0 : Loc → Prop} (hR0 : ∀ p, Lik k p → (∀ i, i < l.length * 4 → p ≠ ⟨lb, i, none⟩) → R0 (.cell p)) :
    WR (InV acL acV) (ρ.cut (keepA x) gl (j * 4) L.heap) ⟨ItA ρ lb l j, R0, fun _ => False⟩ (cutA L gl ρ.bad j x) W := by
  obtain ⟨hjl, hx⟩ := List.getElem?_eq_some_iff.1 hj
  have hgl : L.heap[gl]? = some (.cells (cellsA l).toArray 140 (0, 0)) := hL.blk
  have onlyOf : ∀ {b m p}, keepA x b = some m → ρ b = some p → (ρ.only (keepA x)) b = some p := fun {b m p} h1 h2 => Ren.only_to.2 ⟨by rw [h1]; rfl, h2⟩
  have krb : keepA x x.rb = some 0 := by unfold keepA; rw [if_pos (.inl rfl)]
  have kcb : keepA x x.cb = some 0 := by unfold keepA; rw [if_pos (.inr rfl)]
  refine hM.wr.cut hW.at_ (hL.keep_gl hj) hgl (by simp only [List.size_toArray, cellsA_length]; omega) (fun b m o hK ho => ?_) (fun i v h1 h2 hv v' hvr => ?_) (fun b m y e f hK ho i v him hv v' hvr => ?_) (fun b m o hK ho o' hor => ?_) (fun i h1 h2 _ => ?_) (fun b c' s' m y e f hK hb ho i him hil hkk => ?_) (fun b c' s' m o hK hb ho hor _ => ?_)
  · rcases hM.wr.kinds b o ho with h1 | h1 | ⟨n, y, c', s', r, t, rfl⟩
    · exact .inl h1
    · exact .inr h1
    · exfalso
      rcases hL.keep_of hj hK with (e | e) | ⟨t', ht', _⟩
      · subst e
        obtain ⟨es, ck, h1, _⟩ := (hL.rules j x hj).1
        rw [h1] at ho; cases ho
      · subst e
        obtain ⟨es, ck, h1, _⟩ := (hL.comes j x hj).1
        rw [h1] at ho; cases ho
      · obtain ⟨_, cur, h1⟩ := own_block_at (hL.own j x t' hj) ht'
        rw [h1] at ho; cases ho
  · obtain ⟨i', rfl⟩ := Nat.exists_eq_add_of_le h1
    have hc := cellsA_at l j hjl i' (by omega)
    rw [hx] at hc
    have hv' : x.cells[i']? = some v := by rw [← hc]; simpa using hv
    obtain rfl | rfl | rfl | rfl : i' = 0 ∨ i' = 1 ∨ i' = 2 ∨ i' = 3 := by omega
    · simp [AL.cells] at hv'
      subst hv'
      exact (Bare.int _ _).any hvr
    · simp [AL.cells] at hv'
      subst hv'
      cases hvr with
      | map h => exact .map (onlyOf krb h)
    · simp [AL.cells] at hv'
      subst hv'
      cases hvr with
      | map h => exact .map (onlyOf kcb h)
    · simp [AL.cells] at hv'
      subst hv'
      rw [hnil] at hvr ⊢
      exact (Bare.nilSlice _ _).any hvr
  · rcases hL.keep_of hj hK with (e | e) | ⟨t', ht', rfl⟩
    · subst e
      obtain ⟨es, ck, h1, _⟩ := (hL.rules j x hj).1
      rw [h1] at ho; cases ho
    · subst e
      obtain ⟨es, ck, h1, _⟩ := (hL.comes j x hj).1
      rw [h1] at ho; cases ho
    · rcases (hL.own j x t' hj).2 with ⟨e1, _⟩ | ⟨g, cap, cur, e1, e2, e3, e4, _, e5, e6⟩
      · rw [e1] at ht'; cases ht'
      · rw [e1] at ht'
        cases ht'
        rw [e3] at ho
        cases ho
        have : (flatX (c j t'))[i]? = some v := by
          rw [← e6, List.getElem?_take, if_pos (by omega)]
          simpa using hv
        exact (flatX_bare (List.mem_of_getElem? this)).any hvr
  · exact hL.obj_only hj hK ho hor
  · rw [Nat.zero_add]
    exact .inl ⟨i - j * 4, by omega, by rw [show j * 4 + (i - j * 4) = i by omega]⟩
  · refine .inr (hR0 _ hkk fun i' hi' => ?_)
    have hne : b ≠ gl := fun e => by rw [e, hL.keep_gl hj] at hK; cases hK
    have hcl : L.cell? ⟨b, i, none⟩ = some y[i] := by rw [cell_of_row _ _ _ _ _ _ ho]; exact Array.getElem?_eq_getElem hil
    exact hW.far hM hL hb hne hcl i' hi'
  · have hs : s' = 0 := by
      obtain ⟨o1, hor⟩ := hor
      exact (hM.wr.others b c' s' o hb ho hor.notCells.1).1
    subst hs
    refine .inr ⟨x, c', hj, ?_, rfl⟩
    rcases hL.keep_of hj hK with (e | e) | ⟨t', ht', _⟩
    · subst e; exact .inl hb
    · subst e; exact .inr hb
    · exfalso
      obtain ⟨_, cur, h1⟩ := own_block_at (hL.own j x t' hj) ht'
      rw [h1] at ho
      cases ho
      obtain ⟨o1, hor⟩ := hor
      exact absurd rfl (hor.notCells.1 _ _ _)
/-- What is known of an actor whose time was done. -/
def AtQ (ρ : Ren) (L : World) (gl lb N : Nat) (R : List (List RuleR)) (c : Come) (t : Int) (l : List AL) (j : Nat) (k : LK) (w : World) : Prop :=
  ∃ (x : AL) (ρ1 : Ren) (k1 : LK) (L1 : World) (v : Value), l[j]? = some x ∧ (ρ.cut (keepA x) gl (j * 4) L.heap).sub ρ1 ∧ WR (InV acL acV) ρ1 k1 L1 w ∧ (∀ q, k1.W q → k.W q) ∧ (∀ q, k1.R q → k.R q) ∧ (∀ q, k1.W q → ItA ρ lb l j q ∨ ¬ MemLoc N q) ∧
    AtSt (cutA L gl ρ.bad j x) L1 gl 0 (atR (R.getD j []) x.num (c j t)).1 v ∧ ownX L1 L.heap.size v (atR (R.getD j []) x.num (c j t)).2 ∧ ((atR (R.getD j []) x.num (c j t)).2 = [] → v = .slice none 0 0)
theorem AtQ.rely {N : Nat} {t : Int} {j : Nat} {k : LK} {w w' : World} (h : AtQ ρ L gl lb N R c t l j k w) (hr : Rely k w w') : AtQ ρ L gl lb N R c t l j k w' := by
  obtain ⟨x, ρ1, k1, L1, v, h1, h2, h3, h4, h5, h6⟩ := h
  exact ⟨x, ρ1, k1, L1, v, h1, h2, h3.rely (hr.mono ⟨fun q hq => h4 q hq, fun q hq => .inr (h5 q hq)⟩), h4, h5, h6⟩
theorem AtQ.up {N : Nat} {t : Int} {j : Nat} {k k' : LK} {w : World} (h : AtQ ρ L gl lb N R c t l j k w) (hW : ∀ q, k.W q → k'.W q) (hR : ∀ q, k.R q → k'.R q) : AtQ ρ L gl lb N R c t l j k' w := by
  obtain ⟨x, ρ1, k1, L1, v, h1, h2, h3, h4, h5, h6⟩ := h
  exact ⟨x, ρ1, k1, L1, v, h1, h2, h3, fun q hq => hW q (h4 q hq), fun q hq => hR q (h5 q hq), h6⟩
/-- A call of 'at' in company, by the small lone world. -/
theorem ac_item (hM : Mir (InV acL acV) Try.prog ρ k L W) (hL : LiesA L B base gl R c l) (hW : LiesAW (InV acL acV) ρ k W gl lb l) {j : Nat} {x : AL} (hj : l[j]? = some x) (hnil : x.sv = .slice none 0 0) {t : Int} (hmd : ∀ r ∈ R.getD j [], 0 ≤ r.mod ∧ (r.mod ≠ 0 → 0 ≤ r.after ∧ r.after ≤ 1000)) (hfew : (c j t).length < 900000) (hti : ∀ y ∈ c j t, 0 ≤ y.time ∧ y.time ≤ 1000000)
    {R0 : Loc → Prop} (hR0 : ∀ p, Lik k p → (∀ i, i < l.length * 4 → p ≠ ⟨lb, i, none⟩) → R0 (.cell p)) {J : LK → Goroutine → World → Prop} {main : Bool} {Rl : LK → World → World → Prop} (hJ : JOk Try.prog main Rl J) {c' : Frame} {cs : List Frame} {w : World} (hr : Rely ⟨ItA ρ lb l j, R0, fun _ => False⟩ W w)
    (hk : ∀ k1 w1, Up ⟨ItA ρ lb l j, R0, fun _ => False⟩ w.heap.size k1 w1.heap.size → AtQ ρ L gl lb W.heap.size R c t l j k1 w1 → J k1 (G (c'.finish (.tuple #[])) cs) w1) :
    J ⟨ItA ρ lb l j, R0, fun _ => False⟩ (G (Frame.enter Try.prog 64 #[.pointer (some ⟨lb, j * 4, none⟩), .int .i64 t] .normal) (c' :: cs)) w := by
  have hwr := (hL.cutR hM hW hj hnil hR0).rely hr
  have hpr : PR Try.prog (ρ.cut (keepA x) gl (j * 4) L.heap) := ⟨hM.pr.base, hM.pr.bad, hM.pr.none⟩
  have hC := MCalls.lone hJ ac_ok (f := 64) (args := #[.pointer (some ⟨gl, 0, none⟩), .int .i64 t]) (up := true) (L := cutA L gl ρ.bad j x) (by unfold InV acL; decide)
    (R' := fun v L1 => v = .tuple #[] ∧ ∃ v, AtSt (cutA L gl ρ.bad j x) L1 gl 0 (atR (R.getD j []) x.num (c j t)).1 v ∧ ownX L1 L.heap.size v (atR (R.getD j []) x.num (c j t)).2 ∧ ((atR (R.getD j []) x.num (c j t)).2 = [] → v = .slice none 0 0))
    (fun T => by
      obtain ⟨A, cc, ha⟩ := hL.ask hj hnil (bad := ρ.bad) (T := T) hmd hfew hti
      refine (at_any _ _ _ _ _ _ _ _ _ _ _ _ _ _ ha).mono ?_
      rintro e w' ⟨rfl, v, h1, h2, h3⟩
      refine ⟨rfl, v, ⟨h1.size, h1.other, h1.row⟩, ?_, h3⟩
      rw [show ({ cutA L gl ρ.bad j x with tape := T } : World).heap.size = L.heap.size from cutW_size ..] at h2
      exact h2)
  refine hC c' cs _ _ w _ ⟨hwr, hpr⟩ ⟨rfl, fun i v v' e1 e2 => ?_⟩ fun v v' L1 ρ1 k1 W1 hq hs hu hm hv => ?_
  · match i, e1, e2 with
    | 0, e1, e2 =>
      simp at e1 e2
      subst e1 e2
      exact .ptr ⟨⟨rfl, hW.nch⟩, lb, j * 4, by rw [Ren.cut_g hW.at_, Nat.zero_add], by simp⟩
    | 1, e1, e2 =>
      simp at e1 e2
      subst e1 e2
      exact .int _ _
    | i + 2, e1, _ => simp at e1
  · obtain ⟨rfl, u, a1, a2⟩ := hq
    have hv' : v' = .tuple #[] := by
      cases hv with
      | tuple sx _ =>
        have := sx.symm
        rw [Array.eq_empty_of_size_eq_zero this]
    rw [hv']
    have hU := hu rfl
    refine hk k1 W1 hU ⟨x, ρ1, k1, L1, u, hj, hs, hm.wr, fun _ h => h, fun _ h => h, fun q hq => ?_, a1, a2⟩
    rcases hU.new q hq with h1 | h1
    · exact .inl h1
    · exact .inr fun hm => h1.mem.2 (hm.mono hr.size)
end
end Go.Proofs.Yticdjkkcfdbdcaa

/- A worker of actor.Run in company: it takes every so manieth of the actors of a time. No conditions but those named. -/
namespace Go.Proofs.Yticdjkkcfdbdcaa
open Go.Conc Go.ConcN Go.RowKit
noncomputable def LBA : Code := .seq (.seq (.region 2 (opsOf Try.f63 2) false) (.cond (.tmp 10) .skip (.exit 0))) (.seq (.block 1 (.region 4 (opsOf Try.f63 4) true)) (.region 3 (opsOf Try.f63 3) false))
set_option maxRecDepth 100000 in
theorem body_ac : (Try.f63).body = some (.seq (.region 0 (opsOf Try.f63 0) false) (.seq (.region 1 (opsOf Try.f63 1) false) (.block 0 (.loop LBA)))) := by kernel_rfl
set_option maxRecDepth 100000 in
theorem wk_r4 : drawOk (opsOf Try.f63 4) 5 = true := by kernel_rfl
/-- The worker's temporaries. -/
structure AWA (wg bn bw bt : Nat) (i : Nat) (a : Act) : Prop where
  size : a.tmps.size = 20
  d : a.defers = [dcall 50 #[.pointer (some ⟨wg, 0, none⟩)]]
  t2 : a.eval (.tmp 2) = .pointer (some ⟨bn, 0, none⟩)
  t3 : a.eval (.tmp 3) = .pointer (some ⟨bw, 0, none⟩)
  t4 : a.eval (.tmp 4) = .pointer (some ⟨bt, 0, none⟩)
  t5 : a.eval (.tmp 5) = .int .i64 i
theorem AWA.put {wg bn bw bt i : Nat} {a : Act} (h : AWA wg bn bw bt i a) {d : Nat} (hd : d ≠ 2 ∧ d ≠ 3 ∧ d ≠ 4 ∧ d ≠ 5) (v : Value) : AWA wg bn bw bt i (a.put (some d) v) :=
  ⟨(put_size _ _ _).trans h.size, h.d, (eval_put_ne _ hd.1 _).trans h.t2, (eval_put_ne _ hd.2.1 _).trans h.t3, (eval_put_ne _ hd.2.2.1 _).trans h.t4, (eval_put_ne _ hd.2.2.2 _).trans h.t5⟩
theorem run_lenN (e : Operand → Value) (o : Oper) {x : Operand} {A : Option Addr} {n c : Nat} (hop : o.op = .call { callee := .builtin .len, args := #[x], argTypes := #[141] }) (hx : e x = .slice A n c) (w : World) : (execOp e o).runT Try.prog w #[] = (.ok (.value (.int .i64 n)) w, #[]) := by
  simp [go_sem, hop, hx, execOp]
/-- What the workers read: the box of the actors that have something to do, their number, the time. -/
structure NowAt (w0 : World) (R0 : Loc → Prop) (bn bw bt lb : Nat) (m : Nat) (t : Int) (bs : List Nat) (A : Option Addr) (nc : Nat) : Prop where
  now : w0.cell? ⟨bn, 0, none⟩ = some (.slice A bs.length nc) ∧ R0 (.cell ⟨bn, 0, none⟩)
  wk : w0.cell? ⟨bw, 0, none⟩ = some (.int .i64 m) ∧ R0 (.cell ⟨bw, 0, none⟩)
  tm : w0.cell? ⟨bt, 0, none⟩ = some (.int .i64 t) ∧ R0 (.cell ⟨bt, 0, none⟩)
  at_ : ∀ r, r < bs.length → ∃ nr no, A = some ⟨nr, no, none⟩ ∧ w0.cell? ⟨nr, no + r, none⟩ = some (.pointer (some ⟨lb, bs.getD r 0 * 4, none⟩)) ∧ R0 (.cell ⟨nr, no + r, none⟩)
  few : bs.length ≤ 100000
/-- What a call on an item does, in company. -/
def ItemAct (It : Nat → Loc → Prop) (w0 : World) (R0 : Loc → Prop) (Q : Nat → LK → World → Prop) (lb : Nat) (t : Int) (j : Nat) : Prop :=
  ∀ (J : LK → Goroutine → World → Prop) (main : Bool) (R : LK → World → World → Prop), JOk Try.prog main R J → ∀ c' cs w, Rely ⟨It j, R0, fun _ => False⟩ w0 w →
    (∀ k1 w1, Up ⟨It j, R0, fun _ => False⟩ w.heap.size k1 w1.heap.size → Q j k1 w1 → J k1 (G (c'.finish (.tuple #[])) cs) w1) → J ⟨It j, R0, fun _ => False⟩ (G (Frame.enter Try.prog 64 #[.pointer (some ⟨lb, j * 4, none⟩), .int .i64 t] .normal) (c' :: cs)) w
section
variable {X Rl : Loc → Prop} {It : Nat → Loc → Prop} {bs : List Nat} {w0 : World} {m0 p0 m tot wg bn bw bt lb bx i0 nc : Nat} {t : Int} {A : Option Addr} {Q : Nat → LK → World → Prop} {Shun : Loc → Prop} {Anc : Goroutine → World → Prop} {R0 : Loc → Prop}
/-- What worker i0 of m owns. -/
def OwA (It : Nat → Loc → Prop) (bs : List Nat) (m i0 : Nat) (q : Loc) : Prop := ∃ r, r < bs.length ∧ r % m = i0 ∧ It (bs.getD r 0) q
/-- What it leaves. -/
def QwA (Q : Nat → LK → World → Prop) (bs : List Nat) (m : Nat) (i0 : Nat) (k : LK) (w : World) : Prop := ∀ r, r < bs.length → r % m = i0 → Q (bs.getD r 0) k w
/-- What the worker knows ahead of item r. -/
structure WA (It : Nat → Loc → Prop) (bs : List Nat) (w0 : World) (R0 : Loc → Prop) (wg m i0 bx : Nat) (Q : Nat → LK → World → Prop) (r : Nat) (k : LK) (w : World) : Prop where
  R : k.R = R0
  A : k.A = WgLoc wg
  own : ∀ l, OwA It bs m i0 l → k.W l
  W : ∀ l, k.W l → OwA It bs m i0 l ∨ ¬ MemLoc w0.heap.size l
  mem : ∀ l, k.W l → MemLoc w.heap.size l
  rel : Rely (keepK R0) w0 w
  did : ∀ q, q < r → q < bs.length → q % m = i0 → Q (bs.getD q 0) k w
  rest : ∀ q, r ≤ q → q < bs.length → q % m = i0 → Rely ⟨It (bs.getD q 0), R0, fun _ => False⟩ w0 w
theorem WA.rely (hQ' : ∀ j k w w', Q j k w → Rely k w w' → Q j k w') {r : Nat} {k : LK} {w w₁ : World} (h : WA It bs w0 R0 wg m i0 bx Q r k w) (hr : Rely k w w₁) : WA It bs w0 R0 wg m i0 bx Q r k w₁ :=
  ⟨h.R, h.A, h.own, h.W, fun l hl => (h.mem l hl).mono hr.size, h.rel.trans (hr.mono (k := keepK R0) ⟨fun l hl => hl.elim, fun l hl => .inr (by rw [h.R]; exact hl)⟩), fun q h1 h2 h3 => hQ' _ k w w₁ (h.did q h1 h2 h3) hr, fun q h1 h2 h3 => (h.rest q h1 h2 h3).trans (hr.mono ⟨fun l hl => h.own l ⟨q, h2, h3, hl⟩, fun l hl => .inr (by rw [h.R]; exact hl)⟩)⟩
/-- The licence but for an item. -/
def lessK (k : LK) (U : Loc → Prop) : LK := ⟨fun l => k.W l ∧ ¬ U l, k.R, k.A⟩
theorem plus_less {k : LK} {U : Loc → Prop} (hU : ∀ l, U l → k.W l) (hR : k.R = R0) : (lessK k U).plus ⟨U, R0, fun _ => False⟩ = k := by
  obtain ⟨W, R, A⟩ := k
  simp only at hR hU
  subst hR
  simp only [LK.plus, lessK, or_self, or_false, LK.mk.injEq, and_true]
  funext l
  exact propext ⟨fun h => h.elim (fun h => h.1) (hU l), fun h => (Classical.em (U l)).elim .inr fun hn => .inl ⟨h, hn⟩⟩
def VWk (A : Option Addr) (n nc : Nat) (r lb j : Nat) (nr no : Nat) (t : Int) : Nat → Value := fun i => match i with
  | 0 => .slice A n nc
  | 1 => .int .i64 r
  | 2 => .pointer (some ⟨nr, no + r, none⟩)
  | 3 => .pointer (some ⟨lb, j * 4, none⟩)
  | 4 => .int .i64 t
  | _ => undef
set_option maxHeartbeats 1000000 in
set_option maxRecDepth 100000 in
theorem wkA_loop (ok : (famX X Rl w0 m0 (QwA Q bs m)).Ok wg) (hQ' : ∀ j k w w', Q j k w → Rely k w w' → Q j k w') (hQu : ∀ j k k' w, Q j k w → (∀ l, k.W l → k'.W l) → (∀ l, k.R l → k'.R l) → Q j k' w) (hm : 1 ≤ m ∧ m ≤ 16)
    (hIm : ∀ r l, r < bs.length → It (bs.getD r 0) l → MemLoc w0.heap.size l) (hdis : ∀ r r', r < bs.length → r' < bs.length → r ≠ r' → ∀ l, It (bs.getD r 0) l → ¬ It (bs.getD r' 0) l) (hR0 : ∀ l, R0 l → MemLoc w0.heap.size l ∧ ∀ r, r < bs.length → ¬ It (bs.getD r 0) l)
    (hN : NowAt w0 R0 bn bw bt lb m t bs A nc) (hcall : ∀ r, r < bs.length → ItemAct It w0 R0 Q lb t (bs.getD r 0)) (hQl : ∀ q r, q < bs.length → r < bs.length → q ≠ r → ∀ k w, Q (bs.getD q 0) k w → Q (bs.getD q 0) (lessK k (It (bs.getD r 0))) w) {n : Nat} (hn0 : n ≠ 0) (hni : n - m0 = i0) (hi0 : i0 < m) {cs : List Frame} (hcs : cs = [bornBelow Try.prog]) :
    ∀ (d r : Nat) (a : Act) (k : LK) (w : World), bs.length - r ≤ d → r % m = i0 → r ≤ bs.length + m → AWA wg bn bw bt r a → WA It bs w0 R0 wg m i0 bx Q r k w →
      WP (wgProto Try.prog (famX X Rl w0 m0 (QwA Q bs m)) 114 wg m0 p0 tot Shun Anc) n k (.work ()) (G ((baseD 63).at a (.code LBA :: .inLoop LBA :: .inBlock 0 :: [])) cs) w := by
  intro d
  induction d using Nat.strongRecOn with
  | _ d ih =>
  intro r a k w hd hrm hrb ha hwi
  have hb : (baseD 63).kind ≠ .early := by decide
  have hJ : JOk Try.prog (n == 0) _ _ := wp_jok (P := Try.prog) (ty := 114) (m0 := m0) (p0 := p0) (tot := tot) (Shun := Shun) (Anc := Anc) ok n (s := .work ()) id
  have hSR : ∀ r k w w₁, WA It bs w0 R0 wg m i0 bx Q r k w → (Rely k w w₁ ∧ (famX X Rl w0 m0 (QwA Q bs m)).GR n w w₁) → WA It bs w0 R0 wg m i0 bx Q r k w₁ := fun r k w w₁ h hR => h.rely hQ' hR.1
  have hfew := hN.few
  have under : Try.prog.underlying 3 = some (.int .i64) := Try.underlying3
  -- the test
  refine js_seq hJ _ (hSR r) (fun k w hS => js_seq hJ _ (hSR r) (fun k w hS => j_ctl hJ (fun w => stepG_region) fun w₁ hR => ?_) hS) hwi
  replace hS := hSR r _ _ _ hS hR
  clear hR hwi
  have hsz2 : List.range (opsOf Try.f63 2).size = [0, 1, 2, 3] := by kernel_rfl
  rw [hsz2]
  obtain ⟨o0, ho0, hop0, hg0, hd0⟩ := op_ex (ops := opsOf Try.f63 2) (i := 0) (p := .move (.tmp 5)) (d := some 7) (by kernel_rfl)
  obtain ⟨o1, ho1, hop1, hg1, hd1⟩ := op_ex (ops := opsOf Try.f63 2) (i := 1) (p := .load 141 (.tmp 2)) (d := some 8) (by kernel_rfl)
  obtain ⟨o2, ho2, hop2, hg2, hd2⟩ := op_ex (ops := opsOf Try.f63 2) (i := 2) (p := .call { callee := .builtin .len, args := #[.tmp 8], argTypes := #[141] }) (d := some 9) (by kernel_rfl)
  obtain ⟨o3, ho3, hop3, hg3, hd3⟩ := op_ex (ops := opsOf Try.f63 2) (i := 3) (p := .binOp .lss 3 (.tmp 7) (.tmp 9) 3) (d := some 10) (by kernel_rfl)
  refine j_val hJ _ (hSR r) hb ho0 (yld hg0 _) (fun k w hS => opv_move (x := .tmp 5) (.inl hop0)) (fun k1 w hS => ?_) hS
  rw [hd0, ha.t5]
  have z7 : (a.put (some 7) (.int .i64 r)).eval (.tmp 7) = .int .i64 r := eval_put_eq _ (by rw [ha.size]; decide) _
  have ha1 := ha.put (d := 7) (by decide) (.int .i64 r)
  generalize a.put (some 7) _ = a1 at z7 ha1
  refine j_val hJ _ (hSR r) hb ho1 (yld hg1 _) (v := .slice A bs.length nc) (fun k w hS => opv_load hop1 ha1.t2 (fun w => Try.isAgg141 w) ((hS.rel.cell _ (.inr hN.now.2)).trans hN.now.1) (.inr (by rw [hS.R]; exact hN.now.2))) (fun k1 w hS => ?_) hS
  rw [hd1]
  have z8 : (a1.put (some 8) (.slice A bs.length nc)).eval (.tmp 8) = .slice A bs.length nc := eval_put_eq _ (by rw [ha1.size]; decide) _
  have z7' : (a1.put (some 8) (.slice A bs.length nc)).eval (.tmp 7) = .int .i64 r := (eval_put_ne _ (by decide) _).trans z7
  have ha2 := ha1.put (d := 8) (by decide) (.slice A bs.length nc)
  generalize a1.put (some 8) _ = a2 at z8 z7' ha2
  refine j_val hJ _ (hSR r) hb ho2 (yld hg2 _) (v := .int .i64 bs.length) (fun k w hS => opv_run fun w => run_lenN _ _ hop2 z8 w) (fun k1 w hS => ?_) hS
  rw [hd2]
  have z9 : (a2.put (some 9) (.int .i64 bs.length)).eval (.tmp 9) = .int .i64 bs.length := eval_put_eq _ (by rw [ha2.size]; decide) _
  have z7'' : (a2.put (some 9) (.int .i64 bs.length)).eval (.tmp 7) = .int .i64 r := (eval_put_ne _ (by decide) _).trans z7'
  have ha3 := ha2.put (d := 9) (by decide) (.int .i64 bs.length)
  generalize a2.put (some 9) _ = a3 at z9 z7'' ha3
  refine j_val hJ _ (hSR r) hb ho3 (yld hg3 _) (v := .bool (decide ((r : Int) < (bs.length : Int)))) (fun k w hS => opv_lss (P := Try.prog) (k := k) (w := w) hop3 z7'' z9 under) (fun k1 w hS => ?_) hS
  rw [hd3]
  have hdec : decide ((r : Int) < (bs.length : Int)) = decide (r < bs.length) := by simp
  rw [hdec]
  have z10 : (a3.put (some 10) (.bool (decide (r < bs.length)))).eval (.tmp 10) = .bool (decide (r < bs.length)) := eval_put_eq _ (by rw [ha3.size]; decide) _
  have ha4 := ha3.put (d := 10) (by decide) (.bool (decide (r < bs.length)))
  generalize a3.put (some 10) _ = a4 at z10 ha4
  refine js_regend hJ _ (hSR r) (fun k1 w hS => js_cond hJ _ (hSR r) z10 (fun k1 w hS => ?_) hS) hS
  by_cases hlt : r < bs.length
  · rw [decide_eq_true hlt]
    refine js_skip hJ _ (hSR r) (fun k1 w hS => js_seq hJ _ (hSR r) (fun k1 w hS => js_block hJ _ (hSR r) (fun k1 w hS => ?_) hS) hS) hS
    obtain ⟨nr, no, rfl, hc1, hc2⟩ := hN.at_ r hlt
    have hdd := drawOk_d wk_r4
    have nw : ∀ t' j, prodOf (opsOf Try.f63 4) t' = some j → j < 5 → t' < 20 → (putsV (opsOf Try.f63 4) (VWk (some ⟨nr, no, none⟩) bs.length nc r lb (bs.getD r 0) nr no t) (List.range 5) a4).eval (.tmp t') = VWk (some ⟨nr, no, none⟩) bs.length nc r lb (bs.getD r 0) nr no t j := fun t' j h1 h2 h3 => puts_new hdd h1 h2 (by rw [ha4.size]; exact h3)
    have od : ∀ t', prodOf (opsOf Try.f63 4) t' = none → (putsV (opsOf Try.f63 4) (VWk (some ⟨nr, no, none⟩) bs.length nc r lb (bs.getD r 0) nr no t) (List.range 5) a4).eval (.tmp t') = a4.eval (.tmp t') := fun t' h => puts_old hdd h
    have hsz4 : (opsOf Try.f63 4).size = 6 := by kernel_rfl
    refine j_draw hJ mixed_orders wk_r4 _ (hSR r) (fun k w d hS => hS.rely hQ' (.at k w d)) (VWk (some ⟨nr, no, none⟩) bs.length nc r lb (bs.getD r 0) nr no t) hb (fun i o hio him => .inl fun k w hS => ?_) (fun k1 w hS => ?_) hS
    · have hil : i < 6 := by have := (Array.getElem?_eq_some_iff.1 hio).1; omega
      obtain rfl | rfl | rfl | rfl | rfl : i = 0 ∨ i = 1 ∨ i = 2 ∨ i = 3 ∨ i = 4 := by omega
      · exact opv_load (op_of (p := .load 141 (.tmp 2)) (by kernel_rfl) hio) ((od 2 (by kernel_rfl)).trans ha4.t2) (fun w => Try.isAgg141 w) ((hS.rel.cell _ (.inr hN.now.2)).trans hN.now.1) (.inr (by rw [hS.R]; exact hN.now.2))
      · have := opv_move (P := Try.prog) (fn := (baseD 63).fn) (k := k) (w := w) (x := .tmp 5) (.inl (op_of (p := .move (.tmp 5)) (by kernel_rfl) hio)) (e := (putsV (opsOf Try.f63 4) (VWk (some ⟨nr, no, none⟩) bs.length nc r lb (bs.getD r 0) nr no t) (List.range 5) a4).eval)
        rw [(od 5 (by kernel_rfl)).trans ha4.t5] at this
        exact this
      · have := opv_index (P := Try.prog) (fn := (baseD 63).fn) (k := k) (w := w) (op_of (p := .indexAddr 141 (.tmp 14) (.tmp 15)) (by kernel_rfl) hio) (nw 14 0 (by kernel_rfl) (by decide) (by decide)) (nw 15 1 (by kernel_rfl) (by decide) (by decide)) (by omega) (by omega) Try.underlying141 (fun w => Try.sizeOf142 w)
        rw [show ((⟨nr, no, none⟩ : Addr).add (((r : Nat) : Int).toNat * 1)) = ⟨nr, no + r, none⟩ by simp [Addr.add_lit']] at this
        exact this
      · exact opv_load (op_of (p := .load 142 (.tmp 16)) (by kernel_rfl) hio) (nw 16 2 (by kernel_rfl) (by decide) (by decide)) (fun w => Try.isAgg142 w) ((hS.rel.cell _ (.inr hc2)).trans hc1) (.inr (by rw [hS.R]; exact hc2))
      · exact opv_load (op_of (p := .load 3 (.tmp 4)) (by kernel_rfl) hio) ((od 4 (by kernel_rfl)).trans ha4.t4) (fun w => Try.isAgg3 w) ((hS.rel.cell _ (.inr hN.tm.2)).trans hN.tm.1) (.inr (by rw [hS.R]; exact hN.tm.2))
    · have ha5 : AWA wg bn bw bt r (putsV (opsOf Try.f63 4) (VWk (some ⟨nr, no, none⟩) bs.length nc r lb (bs.getD r 0) nr no t) (List.range 5) a4) := by
        obtain ⟨q1, q2, _⟩ := putsV_val (V := VWk (some ⟨nr, no, none⟩) bs.length nc r lb (bs.getD r 0) nr no t) (ops := opsOf Try.f63 4) (fun i o ho d hd => hdd i o ho d hd) (List.range 5) a4
        exact ⟨q1.trans ha4.size, q2.trans ha4.d, (od 2 (by kernel_rfl)).trans ha4.t2, (od 3 (by kernel_rfl)).trans ha4.t3, (od 4 (by kernel_rfl)).trans ha4.t4, (od 5 (by kernel_rfl)).trans ha4.t5⟩
      have y17 := nw 17 3 (by kernel_rfl) (by decide) (by decide)
      have y18 := nw 18 4 (by kernel_rfl) (by decide) (by decide)
      generalize putsV (opsOf Try.f63 4) (VWk (some ⟨nr, no, none⟩) bs.length nc r lb (bs.getD r 0) nr no t) (List.range 5) a4 = a5 at ha5 y17 y18
      clear nw od
      obtain ⟨o5, ho5, hop5, hg5, hd5⟩ := op_ex (ops := opsOf Try.f63 4) (i := 5) (p := .call { callee := .value (.func 64), args := #[.tmp 17, .tmp 18], argTypes := #[142, 3] }) (d := some 19) (by kernel_rfl)
      have hcl := op_call (P := Try.prog) (e := a5.eval) (n := 64) (first := #[]) (captured := #[]) hop5 rfl ⟨_, Try.func64, by kernel_rfl, by kernel_rfl⟩
      have hargs : (#[] ++ #[Operand.tmp 17, .tmp 18].map a5.eval ++ #[] : Array Value) = #[.pointer (some ⟨lb, bs.getD r 0 * 4, none⟩), .int .i64 t] := by simp [y17, y18, VWk]
      rw [hargs] at hcl
      refine j_ctl hJ (fun w => (stepG_enter ho5 (yld hg5 _) hb (hcl w).1).trans (by rw [listed, (hcl w).2, seen_empty])) fun w₂ hR => ?_
      replace hS := hSR r _ _ _ hS hR
      clear hR
      have hIk : ∀ l, It (bs.getD r 0) l → k1.W l := fun l hl => hS.own l ⟨r, hlt, hrm, hl⟩
      have hF : ∀ l, (lessK k1 (It (bs.getD r 0))).W l ∨ (lessK k1 (It (bs.getD r 0))).R l → MemLoc w₂.heap.size l := fun l hl => hl.elim (fun h => hS.mem l h.1) fun x => (hR0 l (by rw [← hS.R]; exact x)).1.mono hS.rel.size
      have hfin := hcall r hlt _ _ _ (JF.ok (F := lessK k1 (It (bs.getD r 0))) (W0 := w₂) hJ hF) ((baseD 63).at a5 (.inRegion (opsOf Try.f63 4) [5] :: .inBlock 1 :: .code (.region 3 (opsOf Try.f63 3) false) :: .inLoop LBA :: .inBlock 0 :: [])) cs w₂ (hS.rest r (Nat.le_refl _) hlt hrm) (fun k2 w2 hu hq => ?_)
      · have := hfin (.refl _ _) fun l hl hI => by
          rcases hl with hl | hl
          · exact hl.2 hI
          · exact (hR0 l (by rw [← hS.R]; exact hl)).2 r hlt hI
        rw [plus_less hIk hS.R] at this
        exact this
      · intro hrel1 hdj
        have hun : ∀ l, ((lessK k1 (It (bs.getD r 0))).plus k2).W l → (k1.W l ∨ NewLoc w₂.heap.size w2.heap.size l) := fun l hl => by
          rcases hl with hl | hl
          · exact .inl hl.1
          · exact (hu.new l hl).imp (hIk l) id
        have hup : ∀ l, k1.W l → ((lessK k1 (It (bs.getD r 0))).plus k2).W l := fun l hl => (Classical.em (It (bs.getD r 0) l)).elim (fun h => .inr (hu.W l h)) fun h => .inl ⟨hl, h⟩
        have hrR : Rely (keepK R0) w₂ w2 := hrel1.mono (k := keepK R0) ⟨fun l hl => hl.elim, fun l hl => .inr (by show k1.R l; rw [hS.R]; exact hl)⟩
        have hwi2 : WA It bs w0 R0 wg m i0 bx Q (r + m) ((lessK k1 (It (bs.getD r 0))).plus k2) w2 := by
          refine ⟨?_, ?_, fun l hl => hup l (hS.own l hl), fun l hl => ?_, fun l hl => ?_, hS.rel.trans hrR, fun q h1 h2 h3 => ?_, fun q h1 h2 h3 => ?_⟩
          · show (fun l => k1.R l ∨ k2.R l) = R0
            rw [hS.R, hu.R]; funext l; simp
          · show (fun l => k1.A l ∨ k2.A l) = WgLoc wg
            rw [hS.A, hu.A]; funext l; simp
          · rcases hun l hl with h | h
            · exact hS.W l h
            · exact .inr fun hm => h.mem.2 (hm.mono hS.rel.size)
          · rcases hun l hl with h | h
            · exact (hS.mem l h).mono hrel1.size
            · exact h.mem.1
          · by_cases e : q = r
            · subst e
              exact hQu _ k2 _ w2 hq (fun l hl => .inr hl) (fun l hl => .inr hl)
            · have hqr : q < r := by
                rcases Nat.lt_or_ge q r with h | h
                · exact h
                · exfalso
                  have h5 : (q - r) % m = 0 := by
                    have := Nat.sub_mod_eq_zero_of_mod_eq (h3.trans hrm.symm)
                    exact this
                  have h6 : q - r < m := by omega
                  rw [Nat.mod_eq_of_lt h6] at h5
                  omega
              have h4 := hS.did q hqr h2 h3
              have h7 : Q (bs.getD q 0) (lessK k1 (It (bs.getD r 0))) w₂ := hQl q r h2 hlt (by omega) _ _ h4
              exact hQu _ _ _ w2 (hQ' _ _ _ _ h7 hrel1) (fun l hl => .inl hl) (fun l hl => .inl hl)
          · refine (hS.rest q (by omega) h2 h3).trans (hrel1.mono ⟨fun l hl => ⟨hS.own l ⟨q, h2, h3, hl⟩, fun hI => hdis q r h2 hlt (by omega) l hl hI⟩, fun l hl => .inr (by show k1.R l; rw [hS.R]; exact hl)⟩)
        rw [show ((baseD 63).at a5 (.inRegion (opsOf Try.f63 4) [5] :: .inBlock 1 :: .code (.region 3 (opsOf Try.f63 3) false) :: .inLoop LBA :: .inBlock 0 :: [])).finish (.tuple #[]) = (baseD 63).at (a5.put o5.dst (.tuple #[])) (.inRegion (opsOf Try.f63 4) [] :: .inBlock 1 :: .code (.region 3 (opsOf Try.f63 3) false) :: .inLoop LBA :: .inBlock 0 :: []) by rw [Frame.finish_at, ho5]; rfl, hd5]
        have ha6 := ha5.put (d := 19) (by decide) (.tuple #[])
        generalize a5.put (some 19) _ = a6 at ha6
        refine js_regend hJ _ (hSR (r + m)) (fun k w hS => js_inBlock hJ _ (hSR (r + m)) (fun k w hS => j_ctl hJ (fun w => stepG_region) fun w₁ hR => ?_) hS) hwi2
        replace hS := hSR (r + m) _ _ _ hS hR
        clear hR hwi2 hun hup hrR hrel1 hdj hq hu
        have hsz3 : List.range (opsOf Try.f63 3).size = [0, 1, 2, 3] := by kernel_rfl
        rw [hsz3]
        obtain ⟨p0', hp0, hq0, hh0, he0⟩ := op_ex (ops := opsOf Try.f63 3) (i := 0) (p := .move (.tmp 5)) (d := some 11) (by kernel_rfl)
        obtain ⟨p1, hp1, hq1, hh1, he1⟩ := op_ex (ops := opsOf Try.f63 3) (i := 1) (p := .load 3 (.tmp 3)) (d := some 12) (by kernel_rfl)
        obtain ⟨p2, hp2, hq2, hh2, he2⟩ := op_ex (ops := opsOf Try.f63 3) (i := 2) (p := .binOp .add 3 (.tmp 11) (.tmp 12) 3) (d := some 13) (by kernel_rfl)
        obtain ⟨p3, hp3, hq3, hh3, he3⟩ := op_ex (ops := opsOf Try.f63 3) (i := 3) (p := .assign (.tmp 13)) (d := some 5) (by kernel_rfl)
        refine j_val hJ _ (hSR (r + m)) hb hp0 (yld hh0 _) (fun k w hS => opv_move (x := .tmp 5) (.inl hq0)) (fun k1 w hS => ?_) hS
        rw [he0, ha6.t5]
        have x11 : (a6.put (some 11) (.int .i64 r)).eval (.tmp 11) = .int .i64 r := eval_put_eq _ (by rw [ha6.size]; decide) _
        have hb1 := ha6.put (d := 11) (by decide) (.int .i64 r)
        generalize a6.put (some 11) _ = c1 at x11 hb1
        refine j_val hJ _ (hSR (r + m)) hb hp1 (yld hh1 _) (v := .int .i64 m) (fun k w hS => opv_load hq1 hb1.t3 (fun w => Try.isAgg3 w) ((hS.rel.cell _ (.inr hN.wk.2)).trans hN.wk.1) (.inr (by rw [hS.R]; exact hN.wk.2))) (fun k1 w hS => ?_) hS
        rw [he1]
        have x12 : (c1.put (some 12) (.int .i64 m)).eval (.tmp 12) = .int .i64 m := eval_put_eq _ (by rw [hb1.size]; decide) _
        have x11' : (c1.put (some 12) (.int .i64 m)).eval (.tmp 11) = .int .i64 r := (eval_put_ne _ (by decide) _).trans x11
        have hb2 := hb1.put (d := 12) (by decide) (.int .i64 m)
        generalize c1.put (some 12) _ = c2 at x12 x11' hb2
        have wadd : IntKind.i64.wrap ((r : Int) + (m : Int)) = ((r + m : Nat) : Int) := by rw [IntKind.wrap_i64]; omega
        refine j_val hJ _ (hSR (r + m)) hb hp2 (yld hh2 _) (v := .int .i64 (IntKind.i64.wrap ((r : Int) + (m : Int)))) (fun k w hS => opv_add (P := Try.prog) (k := k) (w := w) hq2 x11' x12 under) (fun k1 w hS => ?_) hS
        rw [he2, wadd]
        have x13 : (c2.put (some 13) (.int .i64 (r + m : Nat))).eval (.tmp 13) = .int .i64 (r + m : Nat) := eval_put_eq _ (by rw [hb2.size]; decide) _
        have hb3 := hb2.put (d := 13) (by decide) (.int .i64 (r + m : Nat))
        generalize c2.put (some 13) _ = c3 at x13 hb3
        refine j_val hJ _ (hSR (r + m)) hb hp3 (yld hh3 _) (fun k w hS => opv_move (x := .tmp 13) (.inr hq3)) (fun k1 w hS => ?_) hS
        rw [he3, x13]
        have hb4 : AWA wg bn bw bt (r + m) (c3.put (some 5) (.int .i64 (r + m : Nat))) := ⟨(put_size _ _ _).trans hb3.size, hb3.d, (eval_put_ne _ (by decide) _).trans hb3.t2, (eval_put_ne _ (by decide) _).trans hb3.t3, (eval_put_ne _ (by decide) _).trans hb3.t4, eval_put_eq _ (by rw [hb3.size]; decide) _⟩
        generalize c3.put (some 5) _ = c4 at hb4
        refine js_regend hJ _ (hSR (r + m)) (fun k w hS => js_inLoop hJ _ (hSR (r + m)) (fun k w hS => ?_) hS) hS
        exact ih (bs.length - (r + m)) (by omega) (r + m) _ k w (Nat.le_refl _) (by rw [Nat.add_mod_right]; exact hrm) (by omega) hb4 hS
  · rw [decide_eq_false hlt]
    refine js_exit hJ _ (hSR r) (K1 := []) rfl (fun k1 w hS => js_end hJ _ (hSR r) (fun k1 w hS => ?_) hS) hS
    obtain ⟨g0, q, hdn⟩ := done_actor wg a4.tmps []
    have hb0 : (n == 0) = false := by simpa using hn0
    have e : dnIn Try.prog 63 50 wg a4.tmps [] = G { (baseD 63).at a4 [] with mode := .returning } cs := by
      rw [hcs]
      show _ = G { (baseD 63).at a4 [] with mode := .returning } [bornBelow Try.prog]
      unfold dnIn Frame.at
      rw [ha4.d]
      rfl
    rw [e] at q
    refine wp_still ok (by simp) rfl (by rw [hb0]; exact q) (wp_done ok hn0 hdn fun w₁ hr hgr => ?_)
    show QwA Q bs m (n - m0) _ _
    rw [hni]
    exact fun q hq1 hq2 => hQ' _ _ _ _ (hS.did q (by omega) hq1 hq2) hr
set_option maxHeartbeats 1000000 in
theorem wkA_born (ok : (famX X Rl w0 m0 (QwA Q bs m)).Ok wg) (hQ' : ∀ j k w w', Q j k w → Rely k w w' → Q j k w') (hQu : ∀ j k k' w, Q j k w → (∀ l, k.W l → k'.W l) → (∀ l, k.R l → k'.R l) → Q j k' w) (hm : 1 ≤ m ∧ m ≤ 16)
    (hIm : ∀ r l, r < bs.length → It (bs.getD r 0) l → MemLoc w0.heap.size l) (hdis : ∀ r r', r < bs.length → r' < bs.length → r ≠ r' → ∀ l, It (bs.getD r 0) l → ¬ It (bs.getD r' 0) l) (hR0 : ∀ l, R0 l → MemLoc w0.heap.size l ∧ ∀ r, r < bs.length → ¬ It (bs.getD r 0) l)
    (hN : NowAt w0 R0 bn bw bt lb m t bs A nc) (hcall : ∀ r, r < bs.length → ItemAct It w0 R0 Q lb t (bs.getD r 0)) (hQl : ∀ q r, q < bs.length → r < bs.length → q ≠ r → ∀ k w, Q (bs.getD q 0) k w → Q (bs.getD q 0) (lessK k (It (bs.getD r 0))) w) {n : Nat} (hn0 : n ≠ 0) (hni : n - m0 = i0) (hi0 : i0 < m)
    (hbx : w0.heap.size ≤ bx) {w : World} (hw : Rely ⟨OwA It bs m i0, R0, fun _ => False⟩ w0 w) (hbc : w.cell? ⟨bx, 0, none⟩ = some (.int .i64 i0)) :
    WP (wgProto Try.prog (famX X Rl w0 m0 (QwA Q bs m)) 114 wg m0 p0 tot Shun Anc) n ⟨fun l => OwA It bs m i0 l ∨ l = .cell ⟨bx, 0, none⟩, R0, WgLoc wg⟩ (.work ()) (born Try.prog { target := .fn (.func 63) #[.pointer (some ⟨wg, 0, none⟩), .pointer (some ⟨bx, 0, none⟩), .pointer (some ⟨bn, 0, none⟩), .pointer (some ⟨bw, 0, none⟩), .pointer (some ⟨bt, 0, none⟩)], args := #[] }) w := by
  have hb : (baseD 63).kind ≠ .early := by decide
  have hJ : JOk Try.prog (n == 0) _ _ := wp_jok (P := Try.prog) (ty := 114) (m0 := m0) (p0 := p0) (tot := tot) (Shun := Shun) (Anc := Anc) ok n (s := .work ()) id
  have hbl := cell_lt hbc
  simp only at hbl
  have hwi : WA It bs w0 R0 wg m i0 bx Q i0 ⟨fun l => OwA It bs m i0 l ∨ l = .cell ⟨bx, 0, none⟩, R0, WgLoc wg⟩ w := by
    refine ⟨rfl, rfl, fun l hl => .inl hl, fun l hl => hl.imp id fun e => ?_, fun l hl => ?_, hw.mono (k := keepK R0) ⟨fun l hl => hl.elim, fun l hl => .inr hl⟩, fun q h1 h2 h3 => ?_, fun q h1 h2 h3 => hw.mono ⟨fun l hl => ⟨q, h2, h3, hl⟩, fun l hl => .inr hl⟩⟩
    · subst e
      intro hm
      have : bx < w0.heap.size := hm
      omega
    · rcases hl with ⟨q, h1, _, h2⟩ | e
      · exact (hIm q l h1 h2).mono hw.size
      · subst e; exact hbl
    · rw [Nat.mod_eq_of_lt (by omega)] at h3
      omega
  have hS0 : WA It bs w0 R0 wg m i0 bx Q i0 ⟨fun l => OwA It bs m i0 l ∨ l = .cell ⟨bx, 0, none⟩, R0, WgLoc wg⟩ w ∧ w.cell? ⟨bx, 0, none⟩ = some (.int .i64 i0) ∧ (⟨fun l => OwA It bs m i0 l ∨ l = .cell ⟨bx, 0, none⟩, R0, WgLoc wg⟩ : LK).W (.cell ⟨bx, 0, none⟩) := ⟨hwi, hbc, .inr rfl⟩
  have hSR : ∀ k w w₁, (WA It bs w0 R0 wg m i0 bx Q i0 k w ∧ w.cell? ⟨bx, 0, none⟩ = some (.int .i64 i0) ∧ k.W (.cell ⟨bx, 0, none⟩)) → (Rely k w w₁ ∧ (famX X Rl w0 m0 (QwA Q bs m)).GR n w w₁) → (WA It bs w0 R0 wg m i0 bx Q i0 k w₁ ∧ w₁.cell? ⟨bx, 0, none⟩ = some (.int .i64 i0) ∧ k.W (.cell ⟨bx, 0, none⟩)) := fun k w w₁ h hR => ⟨h.1.rely hQ' hR.1, (hR.1.cell _ (.inl h.2.2)).trans h.2.1, h.2.2⟩
  refine hJ.own _ _ _ rfl rfl fun w₁ hR => ⟨_, _, _, stepG_first Try.func63 (by kernel_rfl) body_ac w₁, .idle _ _, ?_⟩
  rw [grow_self, Array.empty_append]
  replace hS0 := hSR _ _ _ hS0 hR
  clear hR hw hwi hbc hbl w
  rw [enter_atD _ Try.func63 body_ac, show (Try.f63).ntmps = 20 by kernel_rfl]
  generalize ha0 : (⟨#[.pointer (some ⟨wg, 0, none⟩), .pointer (some ⟨bx, 0, none⟩), .pointer (some ⟨bn, 0, none⟩), .pointer (some ⟨bw, 0, none⟩), .pointer (some ⟨bt, 0, none⟩)] ++ Array.replicate (20 - #[Value.pointer (some ⟨wg, 0, none⟩), .pointer (some ⟨bx, 0, none⟩), .pointer (some ⟨bn, 0, none⟩), .pointer (some ⟨bw, 0, none⟩), .pointer (some ⟨bt, 0, none⟩)].size) undef, []⟩ : Act) = a0
  have z : a0.tmps.size = 20 := by subst ha0; simp
  have zd : a0.defers = [] := by subst ha0; rfl
  have z0 : a0.eval (.tmp 0) = .pointer (some ⟨wg, 0, none⟩) := by subst ha0; exact eval_args _ _ 0 _ (by simp)
  have z1 : a0.eval (.tmp 1) = .pointer (some ⟨bx, 0, none⟩) := by subst ha0; exact eval_args _ _ 1 _ (by simp)
  have z2 : a0.eval (.tmp 2) = .pointer (some ⟨bn, 0, none⟩) := by subst ha0; exact eval_args _ _ 2 _ (by simp)
  have z3 : a0.eval (.tmp 3) = .pointer (some ⟨bw, 0, none⟩) := by subst ha0; exact eval_args _ _ 3 _ (by simp)
  have z4 : a0.eval (.tmp 4) = .pointer (some ⟨bt, 0, none⟩) := by subst ha0; exact eval_args _ _ 4 _ (by simp)
  clear ha0
  refine js_seq hJ _ hSR (fun k w hS => j_ctl hJ (fun w => stepG_region) fun w₁ hR => ?_) hS0
  replace hS := hSR _ _ _ hS hR
  clear hR
  have hsz0 : List.range (opsOf Try.f63 0).size = [0] := by kernel_rfl
  rw [hsz0]
  obtain ⟨o, ho0, hop, hg, hdst⟩ := op_ex (ops := opsOf Try.f63 0) (i := 0) (p := .defer { callee := .value (.func 50), args := #[.tmp 0], argTypes := #[114] }) (d := none) (by kernel_rfl)
  refine j_ctl hJ (fun w => stepG_defer ho0 (by unfold Region.wanted; rw [hg]) hb hop) fun w₂ hR => ?_
  replace hS := hSR _ _ _ hS hR
  clear hR
  rw [hdst, put_none, zd]
  have hargs : (#[Operand.tmp 0].map a0.eval) = #[.pointer (some ⟨wg, 0, none⟩)] := by simp [z0]
  rw [hargs]
  generalize ha1 : (⟨a0.tmps, [dcall 50 #[.pointer (some ⟨wg, 0, none⟩)]]⟩ : Act) = a1
  have y : a1.tmps.size = 20 := by subst ha1; exact z
  have yd : a1.defers = [dcall 50 #[.pointer (some ⟨wg, 0, none⟩)]] := by subst ha1; rfl
  have y1 : a1.eval (.tmp 1) = .pointer (some ⟨bx, 0, none⟩) := by subst ha1; exact z1
  have y2 : a1.eval (.tmp 2) = .pointer (some ⟨bn, 0, none⟩) := by subst ha1; exact z2
  have y3 : a1.eval (.tmp 3) = .pointer (some ⟨bw, 0, none⟩) := by subst ha1; exact z3
  have y4 : a1.eval (.tmp 4) = .pointer (some ⟨bt, 0, none⟩) := by subst ha1; exact z4
  clear ha1 z zd z0 z1 z2 z3 z4 hargs
  refine js_regend hJ _ hSR (fun k w hS => js_seq hJ _ hSR (fun k w hS => j_ctl hJ (fun w => stepG_region) fun w₁ hR => ?_) hS) hS
  replace hS := hSR _ _ _ hS hR
  clear hR
  have hsz1 : List.range (opsOf Try.f63 1).size = [0, 1] := by kernel_rfl
  rw [hsz1]
  obtain ⟨o1, ho1, hop1, hg1, hd1⟩ := op_ex (ops := opsOf Try.f63 1) (i := 0) (p := .load 3 (.tmp 1)) (d := some 6) (by kernel_rfl)
  obtain ⟨o2, ho2, hop2, hg2, hd2⟩ := op_ex (ops := opsOf Try.f63 1) (i := 1) (p := .assign (.tmp 6)) (d := some 5) (by kernel_rfl)
  refine j_val hJ _ hSR hb ho1 (yld hg1 _) (v := .int .i64 i0) (fun k w hS => opv_load hop1 y1 (fun w => Try.isAgg3 w) hS.2.1 (.inl hS.2.2)) (fun k1 w hS => ?_) hS
  rw [hd1]
  have x6 : (a1.put (some 6) (.int .i64 i0)).eval (.tmp 6) = .int .i64 i0 := eval_put_eq _ (by rw [y]; decide) _
  refine j_val hJ _ hSR hb ho2 (yld hg2 _) (fun k w hS => opv_move (x := .tmp 6) (.inr hop2)) (fun k1 w hS => ?_) hS
  rw [hd2, x6]
  have hA : AWA wg bn bw bt i0 ((a1.put (some 6) (.int .i64 i0)).put (some 5) (.int .i64 i0)) := ⟨(put_size _ _ _).trans ((put_size _ _ _).trans y), yd, (eval_put_ne _ (by decide) _).trans ((eval_put_ne _ (by decide) _).trans y2), (eval_put_ne _ (by decide) _).trans ((eval_put_ne _ (by decide) _).trans y3), (eval_put_ne _ (by decide) _).trans ((eval_put_ne _ (by decide) _).trans y4), eval_put_eq _ (by rw [put_size, y]; decide) _⟩
  generalize (a1.put (some 6) (.int .i64 i0)).put (some 5) (.int .i64 i0) = a2 at hA
  refine js_regend hJ _ hSR (fun k w hS => js_block hJ _ hSR (fun k w hS => js_loop hJ _ hSR (fun k w hS => ?_) hS) hS) hS
  exact wkA_loop ok hQ' hQu hm hIm hdis hR0 hN hcall hQl hn0 hni hi0 rfl _ i0 _ k w (Nat.le_refl _) (Nat.mod_eq_of_lt hi0) (by omega) hA hS.1
end
end Go.Proofs.Yticdjkkcfdbdcaa
