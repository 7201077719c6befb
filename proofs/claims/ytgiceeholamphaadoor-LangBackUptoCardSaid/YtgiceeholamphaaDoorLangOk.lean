/- What a program is: each statement and expression by itself; how many there are, how deep: plain Lean. No conditions. -/
import Derived.Test.YtgiceeholamphaaDoorLang
namespace Go.Proofs.YtgiceeholamphaaDoor
open Go.ChangeShapes Go.WideShapes Go.ChangeAt Go.RowKit

/-! ### Depth, number -/
mutual
def ExprR.depth : ExprR → Nat | .mk _ _ _ _ _ l => 1 + depthE l
def depthE : List ExprR → Nat
  | [] => 0
  | e :: l => max e.depth (depthE l)
end
mutual
def StatR.depth : StatR → Nat | .mk k _ e _ _ _ l => 1 + max (if k ≤ 3 then e.depth else 0) (depthB l)
def depthB : List BlockR → Nat
  | [] => 0
  | b :: l => max b.depth (depthB l)
def BlockR.depth : BlockR → Nat | .mk _ _ l => depthS l
def depthS : List StatR → Nat
  | [] => 0
  | x :: l => max x.depth (depthS l)
end
mutual
def StatR.cnt : StatR → Nat | .mk k _ e _ _ _ l => 1 + (if k ≤ 3 then e.nodes else 0) + cntB l
def cntB : List BlockR → Nat
  | [] => 0
  | b :: l => b.cnt + cntB l
def BlockR.cnt : BlockR → Nat | .mk _ _ l => cntS l
def cntS : List StatR → Nat
  | [] => 0
  | x :: l => x.cnt + cntS l
end
theorem ExprR.depth_eq (e : ExprR) : e.depth = 1 + depthE e.kids := by cases e; simp [ExprR.depth, ExprR.kids]
theorem StatR.depth_eq (x : StatR) : x.depth = 1 + max (if x.kind ≤ 3 then x.e.depth else 0) (depthB x.blocks) := by cases x; rw [StatR.depth]; rfl
theorem BlockR.depth_eq (b : BlockR) : b.depth = depthS b.l := by cases b; simp [BlockR.depth, BlockR.l]
theorem StatR.cnt_eq (x : StatR) : x.cnt = 1 + (if x.kind ≤ 3 then x.e.nodes else 0) + cntB x.blocks := by cases x; rw [StatR.cnt]; rfl
theorem BlockR.cnt_eq (b : BlockR) : b.cnt = cntS b.l := by cases b; simp [BlockR.cnt, BlockR.l]
theorem cntS_append (a b : List StatR) : cntS (a ++ b) = cntS a + cntS b := by
  induction a with
  | nil => simp [cntS]
  | cons x a ih => simp [cntS, ih]; omega
theorem depthS_append (a b : List StatR) : depthS (a ++ b) = max (depthS a) (depthS b) := by
  induction a with
  | nil => simp [depthS]
  | cons x a ih => simp only [List.cons_append, depthS, ih]; omega
theorem depthE_append (a b : List ExprR) : depthE (a ++ b) = max (depthE a) (depthE b) := by
  induction a with
  | nil => simp [depthE]
  | cons x a ih => simp only [List.cons_append, depthE, ih]; omega
theorem depthE_pos (e : ExprR) : 1 ≤ e.depth := by rw [e.depth_eq]; omega
theorem depthS_pos (x : StatR) : 1 ≤ x.depth := by rw [x.depth_eq]; omega
theorem StatR.cnt_le : ∀ x : StatR, x.cnt ≤ x.nodes := by
  refine StatR.ind fun x ih => ?_
  have hS : ∀ l : List StatR, (∀ y ∈ l, y.cnt ≤ y.nodes) → cntS l ≤ nodesS l := fun l h => by
    induction l with
    | nil => simp [cntS]
    | cons y l ih => have := h y (by simp); have := ih fun z hz => h z (by simp [hz]); simp only [cntS, nodesS]; omega
  have hB : ∀ l : List BlockR, (∀ b ∈ l, ∀ y ∈ b.l, y.cnt ≤ y.nodes) → cntB l ≤ nodesB l := fun l h => by
    induction l with
    | nil => simp [cntB]
    | cons b l ih =>
      have h1 := hS b.l (h b (by simp))
      have := ih fun z hz => h z (by simp [hz])
      simp only [cntB, nodesB, b.cnt_eq, b.nodes_eq]; omega
  have := hB x.blocks ih
  rw [x.cnt_eq, x.nodes_eq]
  split <;> omega

/-! ### By itself -/
/-- "if", "else", "repeat", "par", "and". -/
def ownWord (s : ByteArray) : Prop := s = ⟨#[105, 102]⟩ ∨ s = ⟨#[101, 108, 115, 101]⟩ ∨ s = ⟨#[114, 101, 112, 101, 97, 116]⟩ ∨ s = ⟨#[112, 97, 114]⟩ ∨ s = ⟨#[97, 110, 100]⟩
instance (s : ByteArray) : Decidable (ownWord s) := inferInstanceAs (Decidable (_ ∨ _))
def named (s : ByteArray) : Prop := 1 ≤ s.size ∧ s.size ≤ 8 ∧ ¬ ownWord s ∧ ∀ (i : Nat) (h : i < s.size), 97 ≤ (s[i]'h).toNat ∧ (s[i]'h).toNat ≤ 122
noncomputable instance (s : ByteArray) : Decidable (named s) := Classical.propDecidable _
def okE (e : ExprR) : Prop :=
  (e.kind = 1 ∧ 0 ≤ e.n ∧ e.n ≤ 1000000000 ∧ e.name.size = 0 ∧ e.kids.length = 0) ∨ (e.kind = 2 ∧ e.n = 0 ∧ named e.name ∧ e.kids.length = 0) ∨ (3 ≤ e.kind ∧ e.kind ≤ 5 ∧ e.n = 0 ∧ e.name.size = 0 ∧ e.kids.length = 2)
noncomputable instance (e : ExprR) : Decidable (okE e) := inferInstanceAs (Decidable (_ ∨ _))
def noneE (e : ExprR) : Prop := e.kind = 0 ∧ e.n = 0 ∧ e.name.size = 0 ∧ e.kids.length = 0
instance (e : ExprR) : Decidable (noneE e) := inferInstanceAs (Decidable (_ ∧ _))
def okS (x : StatR) : Prop :=
  ((x.kind = 1 ∨ x.kind = 2) ∧ named x.name ∧ x.n = 0 ∧ x.blocks.length = 0) ∨ (x.kind = 3 ∧ x.name.size = 0 ∧ x.n = 0 ∧ 1 ≤ x.blocks.length ∧ x.blocks.length ≤ 2) ∨
  (x.kind = 4 ∧ x.name.size = 0 ∧ 0 ≤ x.n ∧ x.n ≤ 1000 ∧ x.blocks.length = 1 ∧ noneE x.e) ∨ (x.kind = 5 ∧ x.name.size = 0 ∧ x.n = 0 ∧ 1 ≤ x.blocks.length ∧ x.blocks.length ≤ 8 ∧ noneE x.e)
noncomputable instance (x : StatR) : Decidable (okS x) := inferInstanceAs (Decidable (_ ∨ _))
inductive AllE : ExprR → Prop
  | mk (e : ExprR) (ok : okE e) (each : ∀ k ∈ e.kids, AllE k) : AllE e
inductive AllS : StatR → Prop
  | mk (x : StatR) (ok : okS x) (he : x.kind ≤ 3 → AllE x.e) (each : ∀ b ∈ x.blocks, ∀ y ∈ b.l, AllS y) : AllS x
theorem AllE.ok {e : ExprR} (h : AllE e) : okE e := by cases h with | mk _ r _ => exact r
theorem AllE.kid {e k : ExprR} (h : AllE e) (hk : k ∈ e.kids) : AllE k := by cases h with | mk _ _ r => exact r k hk
theorem AllS.ok {x : StatR} (h : AllS x) : okS x := by cases h with | mk _ r _ _ => exact r
theorem AllS.e {x : StatR} (h : AllS x) (hk : x.kind ≤ 3) : AllE x.e := by cases h with | mk _ _ r _ => exact r hk
theorem AllS.in_ {x y : StatR} {b : BlockR} (h : AllS x) (hb : b ∈ x.blocks) (hy : y ∈ b.l) : AllS y := by cases h with | mk _ _ _ r => exact r b hb y hy
theorem noneE.notOk {e : ExprR} (h : noneE e) : ¬ okE e := by
  obtain ⟨h1, _⟩ := h
  unfold okE
  omega
def AllL (l : List StatR) : Prop := ∀ x ∈ l, AllS x

/-! ### What a look that ends at level 52 makes of it (n: how many so far; d: how deep so far) -/
structure SawE (e : ExprR) (lev n d : Nat) (b : Bool) (n' d' : Nat) : Prop where
  up : n ≤ n' ∧ n' ≤ n + e.nodes
  deep : d ≤ d' ∧ d' ≤ 52
  ok : AllE e → b = true ∧ d' = max d (min (lev - 1 + e.depth) 52) ∧ (lev - 1 + e.depth ≤ 51 → n' = n + e.nodes)
  back : lev + e.depth ≤ 52 → b = true → AllE e
  top : lev ≤ 51 → b = true → okE e
structure SawL (l : List StatR) (lev n d : Nat) (b : Bool) (n' d' : Nat) : Prop where
  up : n ≤ n' ∧ n' ≤ n + nodesS l
  deep : d ≤ d' ∧ d' ≤ 52
  ok : AllL l → b = true ∧ (l ≠ [] → d' = max d (min (lev - 1 + depthS l) 52)) ∧ (l = [] → d' = d) ∧ (lev - 1 + depthS l ≤ 51 → n' = n + cntS l)
  back : lev + depthS l ≤ 52 → b = true → AllL l
structure SawS (x : StatR) (lev n d : Nat) (b : Bool) (n' d' : Nat) : Prop where
  up : n ≤ n' ∧ n' ≤ n + x.nodes
  deep : d ≤ d' ∧ d' ≤ 52
  ok : AllS x → b = true ∧ d' = max d (min (lev - 1 + x.depth) 52) ∧ (lev - 1 + x.depth ≤ 51 → n' = n + x.cnt)
  back : lev + x.depth ≤ 52 → b = true → AllS x
/-- What is wrong with a program: 0, 1 (what is none), 2 (too large). -/
noncomputable def wrong (l : List StatR) : Nat := open Classical in if AllL l then (if 1000 < cntS l ∨ 50 < depthS l then 2 else 0) else 1
theorem SawL.wrong_of {l : List StatR} {b : Bool} {n' d' : Nat} (h : SawL l 1 0 0 b n' d') : (b = false → wrong l = 1) ∧ (AllL l → wrong l = if 1000 < n' ∨ 50 < d' then 2 else 0) := by
  refine ⟨fun hb => ?_, fun ha => ?_⟩
  · unfold wrong
    rw [if_neg]
    intro ha
    have := (h.ok ha).1
    rw [hb] at this
    cases this
  · obtain ⟨_, h1, h2, h3⟩ := h.ok ha
    unfold wrong
    rw [if_pos ha]
    by_cases hd : 50 < depthS l
    · have : d' = max 0 (min (1 - 1 + depthS l) 52) := h1 (by rintro rfl; simp [depthS] at hd)
      rw [if_pos (.inr hd), if_pos (.inr (by omega))]
    · have e := h3 (by omega)
      have : d' ≤ 50 := by
        by_cases hl : l = []
        · rw [h2 hl]; omega
        · rw [h1 hl]; omega
      rw [Nat.zero_add] at e
      rw [e]
      by_cases hc : 1000 < cntS l
      · rw [if_pos (.inl hc), if_pos (.inl hc)]
      · rw [if_neg (by omega), if_neg (by omega)]
end Go.Proofs.YtgiceeholamphaaDoor
