/- Plain: what lang.shallow looks at: a statement, an expression, bare. No conditions. -/
import Derived.Test.YtgiceeholamphaaDoorSizeL
namespace Go.Proofs.YtgiceeholamphaaDoor
open Go.ChangeShapes Go.WideShapes Go.ChangeAt Go.RowKit

def numE : ExprR := .mk 1 0 ⟨#[]⟩ none 0 []
noncomputable def bareE (e : ExprR) : ExprR := if noneE e then e else numE
def nilB : BlockR := .mk none 0 []
noncomputable def bareS (x : StatR) (A : Option Addr) : StatR := .mk x.kind x.name (bareE x.e) x.n A x.blocks.length (List.replicate x.blocks.length nilB)
def flatB (l : List BlockR) : List StatR := l.flatMap BlockR.l
theorem flatB_append (a b : List BlockR) : flatB (a ++ b) = flatB a ++ flatB b := by simp [flatB]
theorem nodes_flatB (l : List BlockR) : nodesS (flatB l) = nodesB l := by
  induction l with
  | nil => rfl
  | cons b l ih => rw [flatB, List.flatMap_cons, nodesS_append, ← flatB, ih, nodesB, b.nodes_eq]
theorem okE_num : okE numE := .inl ⟨rfl, by decide, by decide, rfl, rfl⟩
theorem allE_num : AllE numE := ⟨_, okE_num, fun k hk => by cases hk⟩
theorem notNone_num : ¬ noneE numE := fun h => by have := h.1; simp [numE, ExprR.kind] at this
theorem bareE_none (e : ExprR) : noneE (bareE e) ↔ noneE e := by
  unfold bareE
  split
  · exact Iff.rfl
  · exact ⟨fun h => absurd h notNone_num, fun h => absurd h (by assumption)⟩
theorem bareE_all (e : ExprR) : AllE (bareE e) ↔ ¬ noneE e := by
  unfold bareE
  split
  · rename_i h
    exact ⟨fun ha => absurd ha.ok h.notOk, fun h' => absurd h h'⟩
  · rename_i h
    exact ⟨fun _ => h, fun _ => allE_num⟩
theorem okS_bare (x : StatR) (A : Option Addr) : okS (bareS x A) ↔ okS x := by
  unfold okS bareS
  simp only [StatR.kind, StatR.name, StatR.n, StatR.blocks, StatR.e, List.length_replicate]
  rw [bareE_none]
theorem bareS_all (x : StatR) (A : Option Addr) : AllS (bareS x A) ↔ okS x ∧ (x.kind ≤ 3 → ¬ noneE x.e) := by
  constructor
  · intro h
    exact ⟨(okS_bare x A).1 h.ok, fun hk => (bareE_all _).1 (h.e hk)⟩
  · rintro ⟨h1, h2⟩
    refine ⟨_, (okS_bare x A).2 h1, fun hk => (bareE_all _).2 (h2 hk), fun b hb y hy => ?_⟩
    have : b ∈ List.replicate x.blocks.length nilB := hb
    rw [(List.mem_replicate.1 this).2] at hy
    cases hy
theorem bareE_depth (e : ExprR) : (bareE e).depth = 1 ∧ (bareE e).nodes = 1 := by
  unfold bareE
  split
  · rename_i h
    have hk : e.kids = [] := List.eq_nil_of_length_eq_zero h.2.2.2
    rw [e.depth_eq, e.nodes_eq, hk]
    simp [depthE, nodesE]
  · simp [numE, ExprR.depth, ExprR.nodes, depthE, nodesE]
theorem nilB_small (n : Nat) : depthB (List.replicate n nilB) = 0 ∧ nodesB (List.replicate n nilB) = 0 := by
  induction n with
  | zero => exact ⟨rfl, rfl⟩
  | succ n ih => simp [List.replicate_succ, depthB, nodesB, BlockR.depth, BlockR.nodes, nilB, depthS, nodesS] at ih ⊢; exact ih
theorem bareS_small (x : StatR) (A : Option Addr) : (bareS x A).depth ≤ 2 ∧ (bareS x A).nodes ≤ 2 := by
  obtain ⟨h1, h2⟩ := bareE_depth x.e
  obtain ⟨h3, h4⟩ := nilB_small x.blocks.length
  rw [StatR.depth_eq, StatR.nodes_eq]
  have e1 : (bareS x A).e = bareE x.e := rfl
  have e2 : (bareS x A).blocks = List.replicate x.blocks.length nilB := rfl
  rw [e1, e2, h1, h2, h3, h4]
  split <;> omega
theorem AllS.iff {x : StatR} (h : okS x) (hk : x.kind ≤ 3 → ¬ noneE x.e) : AllS x ↔ (noneE x.e ∨ AllE x.e) ∧ AllL (flatB x.blocks) := by
  have h4 : 3 < x.kind → noneE x.e := fun h3 => by
    rcases h with h | h | h | h
    · have := h.1; omega
    · have := h.1; omega
    · exact h.2.2.2.2.2
    · exact h.2.2.2.2.2
  have hf : AllL (flatB x.blocks) ↔ ∀ b ∈ x.blocks, ∀ y ∈ b.l, AllS y := by
    unfold AllL flatB
    simp only [List.mem_flatMap]
    exact ⟨fun h b hb y hy => h y ⟨b, hb, hy⟩, fun h y ⟨b, hb, hy⟩ => h b hb y hy⟩
  rw [hf]
  constructor
  · intro ha
    refine ⟨?_, fun b hb y hy => ha.in_ hb hy⟩
    by_cases h3 : x.kind ≤ 3
    · exact .inr (ha.e h3)
    · exact .inl (h4 (by omega))
  · rintro ⟨he, hb⟩
    exact ⟨_, h, fun h3 => he.resolve_left (hk h3), hb⟩
theorem AllL_append (a b : List StatR) : AllL (a ++ b) ↔ AllL a ∧ AllL b := by
  unfold AllL
  constructor
  · intro h
    exact ⟨fun x hx => h x (List.mem_append_left _ hx), fun x hx => h x (List.mem_append_right _ hx)⟩
  · rintro ⟨h1, h2⟩ x hx
    rcases List.mem_append.1 hx with h | h
    · exact h1 x h
    · exact h2 x h
theorem AllL_one (x : StatR) : AllL [x] ↔ AllS x := by simp [AllL]
/-- An expression, bare. -/
noncomputable def bareK (e : ExprR) (A : Option Addr) : ExprR := if e.kids.length = 2 then .mk e.kind e.n e.name A 2 [numE, numE] else e
theorem bareK_ok (e : ExprR) (A : Option Addr) : okE (bareK e A) ↔ okE e := by
  unfold bareK
  split
  · rename_i h
    obtain ⟨kind, n, name, sA, sc, kids⟩ := e
    simp only [ExprR.kids] at h
    unfold okE
    simp only [ExprR.kind, ExprR.n, ExprR.name, ExprR.kids, List.length_cons, List.length_nil, h]
  · exact Iff.rfl
theorem bareK_all (e : ExprR) (A : Option Addr) (h : okE e) : AllE (bareK e A) := by
  refine ⟨_, (bareK_ok e A).2 h, fun k hk => ?_⟩
  unfold bareK at hk
  split at hk
  · simp [ExprR.kids] at hk
    subst hk
    exact allE_num
  · rename_i h2
    have : e.kids = [] := by
      rcases h with h | h | h
      · exact List.eq_nil_of_length_eq_zero h.2.2.2.2
      · exact List.eq_nil_of_length_eq_zero h.2.2.2
      · exact absurd h.2.2.2.2 h2
    rw [this] at hk
    cases hk
theorem AllE.iff {e : ExprR} (h : okE e) : AllE e ↔ ∀ k ∈ e.kids, AllE k := ⟨fun ha k hk => ha.kid hk, fun hk => ⟨_, h, hk⟩⟩
theorem AllS.bare {x : StatR} (h : AllS x) (A : Option Addr) : AllS (bareS x A) := (bareS_all x A).2 ⟨h.ok, fun hk hn => hn.notOk (h.e hk).ok⟩
theorem shal_step {l' : List StatR} {es : List ExprR} {x : StatR} (h : okS x) (hk : x.kind ≤ 3 → ¬ noneE x.e) :
    (AllL (l' ++ flatB x.blocks) ∧ ∀ e ∈ (if noneE x.e then es else es ++ [x.e]), AllE e) ↔ (AllL (l' ++ [x]) ∧ ∀ e ∈ es, AllE e) := by
  rw [AllL_append, AllL_append, AllL_one, AllS.iff h hk]
  by_cases hn : noneE x.e
  · rw [if_pos hn]
    exact ⟨fun ⟨⟨a, b⟩, c⟩ => ⟨⟨a, .inl hn, b⟩, c⟩, fun ⟨⟨a, _, b⟩, c⟩ => ⟨⟨a, b⟩, c⟩⟩
  · rw [if_neg hn]
    constructor
    · rintro ⟨⟨a, b⟩, c⟩
      exact ⟨⟨a, .inr (c _ (by simp)), b⟩, fun e he => c e (List.mem_append_left _ he)⟩
    · rintro ⟨⟨a, b, c⟩, d⟩
      refine ⟨⟨a, c⟩, fun e he => ?_⟩
      rcases List.mem_append.1 he with he | he
      · exact d e he
      · rw [List.mem_singleton.1 he]
        exact b.resolve_left hn
theorem kal_step {es : List ExprR} {e : ExprR} (h : okE e) : (∀ k ∈ es ++ e.kids, AllE k) ↔ ∀ k ∈ es ++ [e], AllE k := by
  constructor
  · intro hk k hm
    rcases List.mem_append.1 hm with hm | hm
    · exact hk k (List.mem_append_left _ hm)
    · rw [List.mem_singleton.1 hm]
      exact (AllE.iff h).2 fun k hk' => hk k (List.mem_append_right _ hk')
  · intro hk k hm
    rcases List.mem_append.1 hm with hm | hm
    · exact hk k (List.mem_append_left _ hm)
    · exact (hk e (by simp)).kid hm
end Go.Proofs.YtgiceeholamphaaDoor
