/- Plain: how what is seen of a statement, of a list, grows part by part. No conditions. -/
import Derived.Test.YtgiceeholamphaaDoorSize
namespace Go.Proofs.YtgiceeholamphaaDoor
open Go.ChangeShapes Go.WideShapes Go.ChangeAt Go.RowKit

theorem take_snocA {α : Type} {l : List α} {q : Nat} (h : q < l.length) : l.take (q + 1) = l.take q ++ [l[q]] := by
  rw [List.take_succ_eq_append_getElem h]
theorem nodesB_append (a b : List BlockR) : nodesB (a ++ b) = nodesB a + nodesB b := by
  induction a with
  | nil => simp [nodesB]
  | cons x a ih => simp [nodesB, ih]; omega
theorem cntB_append (a b : List BlockR) : cntB (a ++ b) = cntB a + cntB b := by
  induction a with
  | nil => simp [cntB]
  | cons x a ih => simp [cntB, ih]; omega
theorem depthB_append (a b : List BlockR) : depthB (a ++ b) = max (depthB a) (depthB b) := by
  induction a with
  | nil => simp [depthB]
  | cons x a ih => simp only [List.cons_append, depthB, ih]; omega
theorem nodesS_take (l : List StatR) (q : Nat) : nodesS (l.take q) ≤ nodesS l := by
  conv => rhs; rw [← List.take_append_drop q l, nodesS_append]
  omega
theorem nodesB_take (l : List BlockR) (q : Nat) : nodesB (l.take q) ≤ nodesB l := by
  conv => rhs; rw [← List.take_append_drop q l, nodesB_append]
  omega
theorem depthS_nil {l : List StatR} : depthS l = 0 ↔ l = [] := by
  constructor
  · intro h
    cases l with
    | nil => rfl
    | cons x l => have := depthS_pos x; simp only [depthS] at h; omega
  · rintro rfl; rfl
theorem SawL.start {lev n d : Nat} (hd : d ≤ 52) : SawL [] lev n d true n d :=
  ⟨⟨Nat.le_refl _, Nat.le_add_right _ _⟩, ⟨Nat.le_refl _, hd⟩, fun _ => ⟨rfl, fun h => absurd rfl h, fun _ => rfl, fun _ => by simp [cntS]⟩, fun _ _ x hx => by cases hx⟩
theorem SawL.snoc {l : List StatR} {q lev n d n1 d1 n2 d2 : Nat} (hq : q < l.length) (hl : 1 ≤ lev) (hl2 : lev ≤ 52) (h : SawL (l.take q) lev n d true n1 d1) (hs : SawS l[q] lev n1 d1 true n2 d2) : SawL (l.take (q + 1)) lev n d true n2 d2 := by
  have e := take_snocA hq
  have hn : nodesS (l.take (q + 1)) = nodesS (l.take q) + l[q].nodes := by rw [e, nodesS_append]; simp [nodesS]
  have hdp : depthS (l.take (q + 1)) = max (depthS (l.take q)) l[q].depth := by rw [e, depthS_append]; simp [depthS]
  have hc : cntS (l.take (q + 1)) = cntS (l.take q) + l[q].cnt := by rw [e, cntS_append]; simp [cntS]
  have := h.up
  have := h.deep
  have := hs.up
  have := hs.deep
  have hp := depthS_pos l[q]
  refine ⟨by omega, by omega, fun ha => ?_, fun hle _ x hx => ?_⟩
  rotate_left
  · rw [e] at hx
    rcases List.mem_append.1 hx with hx | hx
    · exact h.back (by omega) rfl x hx
    · rw [List.mem_singleton.1 hx]
      exact hs.back (by omega) rfl
  have h1 := h.ok fun x hx => ha x (by rw [e]; exact List.mem_append_left _ hx)
  have h2 := hs.ok (ha _ (by rw [e]; exact List.mem_append_right _ (List.mem_singleton_self _)))
  have h4 : d1 = max d (if depthS (l.take q) = 0 then 0 else min (lev - 1 + depthS (l.take q)) 52) := by
    by_cases hnl : l.take q = []
    · rw [h1.2.2.1 hnl, if_pos (depthS_nil.2 hnl)]; omega
    · rw [h1.2.1 hnl, if_neg (fun h => hnl (depthS_nil.1 h))]
  refine ⟨rfl, fun _ => ?_, fun hnl => ?_, fun hle => ?_⟩
  · rw [h2.2.1, h4, hdp]
    split <;> omega
  · rw [e] at hnl; exact absurd hnl (by intro h; exact List.cons_ne_nil _ _ (List.append_eq_nil_iff.1 h).2)
  · have := h1.2.2.2 (by omega); have := h2.2.2 (by omega); omega
theorem SawL.stop {l : List StatR} {q lev n d n1 d1 n2 d2 : Nat} (hq : q < l.length) (h : SawL (l.take q) lev n d true n1 d1) (hs : SawS l[q] lev n1 d1 false n2 d2) : SawL l lev n d false n2 d2 := by
  have e := take_snocA hq
  have hn : nodesS (l.take (q + 1)) = nodesS (l.take q) + l[q].nodes := by rw [e, nodesS_append]; simp [nodesS]
  have := nodesS_take l (q + 1)
  have := h.up
  have := h.deep
  have := hs.up
  have := hs.deep
  exact ⟨by omega, by omega, (fun ha => by have := (hs.ok (ha _ (List.getElem_mem hq))).1; cases this), fun _ hb => by cases hb⟩
/-- Behind the head of a statement and k of its blocks. -/
structure SawH (x : StatR) (lev n d : Nat) (b : Bool) (n' d' k : Nat) : Prop where
  up : n + 1 ≤ n' ∧ n' ≤ n + 1 + x.e.nodes + nodesB (x.blocks.take k)
  deep : max d lev ≤ d' ∧ d' ≤ 52
  ok : AllS x → b = true ∧ d' = max d (min (lev + max (if x.kind ≤ 3 then x.e.depth else 0) (depthB (x.blocks.take k))) 52) ∧
    (lev + max (if x.kind ≤ 3 then x.e.depth else 0) (depthB (x.blocks.take k)) ≤ 51 → n' = n + 1 + (if x.kind ≤ 3 then x.e.nodes else 0) + cntB (x.blocks.take k))
  back : b = true → okS x ∧ (x.kind ≤ 3 → lev + x.e.depth ≤ 51 → AllE x.e) ∧ ∀ k' ∈ x.blocks.take k, lev + depthS k'.l ≤ 51 → AllL k'.l
theorem SawH.ofE {x : StatR} {lev n d n1 d1 : Nat} {b : Bool} (hl2 : lev ≤ 51) (hk : x.kind ≤ 3) (hok : okS x) (h : SawE x.e (lev + 1) (n + 1) (max d lev) b n1 d1) : SawH x lev n d b n1 d1 0 := by
  have := h.up
  have := h.deep
  have := depthE_pos x.e
  refine ⟨by omega, by omega, fun ha => ?_, fun hb => ⟨hok, fun _ hle => h.back (by omega) hb, fun k' hk' => by simp at hk'⟩⟩
  have h1 := h.ok (ha.e hk)
  rw [if_pos hk, if_pos hk]
  simp only [List.take_zero, depthB, cntB]
  exact ⟨h1.1, by omega, fun hle => by have := h1.2.2 (by omega); omega⟩
theorem SawH.bare {x : StatR} {lev n d : Nat} {b : Bool} (hl2 : lev ≤ 51) (hd : d ≤ 52) (h : AllS x → b = true ∧ ¬ x.kind ≤ 3) (hb : b = true → okS x ∧ ¬ x.kind ≤ 3) : SawH x lev n d b (n + 1) (max d lev) 0 := by
  refine ⟨by omega, by omega, fun ha => ?_, fun h' => ⟨(hb h').1, fun h3 => absurd h3 (hb h').2, fun k' hk' => by simp at hk'⟩⟩
  have h1 := h ha
  rw [if_neg h1.2, if_neg h1.2]
  simp only [List.take_zero, depthB, cntB]
  exact ⟨h1.1, by simp only [Nat.max_self, Nat.add_zero]; omega, fun _ => trivial⟩
theorem max_law {d lev ed db dk : Nat} (hl : 1 ≤ lev) : max (max d (min (lev + max ed db) 52)) (if dk = 0 then 0 else min (lev + dk) 52) = max d (min (lev + max ed (max db dk)) 52) := by
  by_cases h : dk = 0
  · subst h; simp
  · rw [if_neg h]; omega
theorem SawH.next {x : StatR} {lev n d n1 d1 n2 d2 k : Nat} {b : Bool} (hl : 1 ≤ lev) (hl2 : lev ≤ 51) (hk : k < x.blocks.length) (h : SawH x lev n d true n1 d1 k) (hs : SawL x.blocks[k].l (lev + 1) n1 d1 b n2 d2) : SawH x lev n d b n2 d2 (k + 1) := by
  have e := take_snocA hk
  have hn : nodesB (x.blocks.take (k + 1)) = nodesB (x.blocks.take k) + nodesS x.blocks[k].l := by rw [e, nodesB_append]; simp [nodesB, BlockR.nodes_eq]
  have hdp : depthB (x.blocks.take (k + 1)) = max (depthB (x.blocks.take k)) (depthS x.blocks[k].l) := by rw [e, depthB_append]; simp [depthB, BlockR.depth_eq]
  have hc : cntB (x.blocks.take (k + 1)) = cntB (x.blocks.take k) + cntS x.blocks[k].l := by rw [e, cntB_append]; simp [cntB, BlockR.cnt_eq]
  have := h.up
  have := h.deep
  have := hs.up
  have := hs.deep
  refine ⟨by omega, by omega, fun ha => ?_, fun hb => ⟨(h.back rfl).1, (h.back rfl).2.1, fun k' hk' hle => ?_⟩⟩
  rotate_left
  · rw [e] at hk'
    rcases List.mem_append.1 hk' with hk' | hk'
    · exact (h.back rfl).2.2 k' hk' hle
    · rw [List.mem_singleton.1 hk'] at hle ⊢
      exact hs.back (by omega) hb
  have h1 := h.ok ha
  have h2 := hs.ok fun y hy => ha.in_ (List.getElem_mem hk) hy
  rw [hdp, hc]
  have h4 : d2 = max d1 (if depthS x.blocks[k].l = 0 then 0 else min (lev + depthS x.blocks[k].l) 52) := by
    by_cases hnl : x.blocks[k].l = []
    · rw [h2.2.2.1 hnl, if_pos (depthS_nil.2 hnl)]; omega
    · rw [h2.2.1 hnl, if_neg (fun h => hnl (depthS_nil.1 h))]; omega
  generalize (if x.kind ≤ 3 then x.e.depth else 0) = ed at *
  refine ⟨h2.1, ?_, fun hle => ?_⟩
  · rw [h4, h1.2.1, max_law hl]
  · have := h1.2.2 (by omega); have := h2.2.2.2 (by omega); omega
theorem SawH.skip {x : StatR} {lev n d n1 d1 k : Nat} (hk : k < x.blocks.length) (h : SawH x lev n d false n1 d1 k) : SawH x lev n d false n1 d1 (k + 1) := by
  have e := take_snocA hk
  have hn : nodesB (x.blocks.take (k + 1)) = nodesB (x.blocks.take k) + nodesS x.blocks[k].l := by rw [e, nodesB_append]; simp [nodesB, BlockR.nodes_eq]
  have := h.up
  exact ⟨by omega, h.deep, (fun ha => by have := (h.ok ha).1; cases this), fun hb => by cases hb⟩
theorem SawH.end_ {x : StatR} {lev n d n1 d1 k : Nat} {b : Bool} (hl : 1 ≤ lev) (hk : x.blocks.length ≤ k) (h : SawH x lev n d b n1 d1 k) : SawS x lev n d b n1 d1 := by
  obtain ⟨h1, h2, h3, h4⟩ := h
  rw [List.take_of_length_le hk] at h1 h3 h4
  have hn := x.nodes_eq
  have hd := x.depth_eq
  have hc := x.cnt_eq
  have hdb : ∀ k' ∈ x.blocks, depthS k'.l ≤ depthB x.blocks := by
    intro k' hk'
    obtain ⟨s, t, e⟩ := List.append_of_mem hk'
    rw [e, depthB_append]
    simp only [depthB, BlockR.depth_eq]
    omega
  refine ⟨by omega, by omega, fun ha => ?_, fun hle hb => ?_⟩
  rotate_left
  · obtain ⟨a1, a2, a3⟩ := h4 hb
    exact ⟨x, a1, fun h => a2 h (by rw [if_pos h] at hd; omega), fun k' hk' y hy => a3 k' hk' (by have := hdb k' hk'; omega) y hy⟩
  have h4 := h3 ha
  exact ⟨h4.1, by rw [h4.2.1, hd]; congr 2; omega, fun hle => by have := h4.2.2 (by omega); omega⟩
end Go.Proofs.YtgiceeholamphaaDoor
