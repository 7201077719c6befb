/- Plain: a program, one depth behind the other. No conditions. -/
import Derived.Test.YtgiceeholamphaaDoorShal
namespace Go.Proofs.YtgiceeholamphaaDoor
open Go.ChangeShapes Go.WideShapes Go.ChangeAt Go.RowKit

def nextS (l : List StatR) : List StatR := l.flatMap fun x => flatB x.blocks
def moreS (l : List StatR) : List ExprR := l.flatMap fun x => if x.kind ≤ 3 then [x.e] else []
def kidsE (l : List ExprR) : List ExprR := l.flatMap ExprR.kids
theorem nextS_append (a b : List StatR) : nextS (a ++ b) = nextS a ++ nextS b := by simp [nextS]
theorem moreS_append (a b : List StatR) : moreS (a ++ b) = moreS a ++ moreS b := by simp [moreS]
theorem kidsE_append (a b : List ExprR) : kidsE (a ++ b) = kidsE a ++ kidsE b := by simp [kidsE]
theorem okS_none {x : StatR} (h : okS x) (hk : 3 < x.kind) : noneE x.e := by
  rcases h with h | h | h | h
  · have := h.1; omega
  · have := h.1; omega
  · exact h.2.2.2.2.2
  · exact h.2.2.2.2.2
theorem allS_lev (l : List StatR) (h : ∀ x ∈ l, okS x) : AllL l ↔ AllL (nextS l) ∧ ∀ e ∈ moreS l, AllE e := by
  induction l with
  | nil => exact ⟨fun _ => ⟨(fun x hx => by cases hx), fun e he => by cases he⟩, fun _ x hx => by cases hx⟩
  | cons x l ih =>
    have ih := ih fun y hy => h y (List.mem_cons_of_mem _ hy)
    have hx := h x (by simp)
    have e1 : nextS (x :: l) = flatB x.blocks ++ nextS l := by simp [nextS]
    have e2 : moreS (x :: l) = (if x.kind ≤ 3 then [x.e] else []) ++ moreS l := by simp [moreS]
    rw [show x :: l = [x] ++ l from rfl, AllL_append, AllL_one, ih, show [x] ++ l = x :: l from rfl, e1, e2, AllL_append]
    have hf : AllL (flatB x.blocks) ↔ ∀ b ∈ x.blocks, ∀ y ∈ b.l, AllS y := by
      unfold AllL flatB
      simp only [List.mem_flatMap]
      exact ⟨fun h b hb y hy => h y ⟨b, hb, hy⟩, fun h y ⟨b, hb, hy⟩ => h b hb y hy⟩
    have key : AllS x ↔ AllL (flatB x.blocks) ∧ ∀ e ∈ (if x.kind ≤ 3 then [x.e] else []), AllE e := by
      rw [hf]
      constructor
      · intro ha
        refine ⟨fun b hb y hy => ha.in_ hb hy, fun e he => ?_⟩
        split at he
        · rename_i h3
          rw [List.mem_singleton.1 he]
          exact ha.e h3
        · cases he
      · rintro ⟨h1, h2⟩
        exact ⟨_, hx, fun h3 => h2 _ (by rw [if_pos h3]; simp), h1⟩
    rw [key]
    constructor
    · rintro ⟨⟨a, b⟩, c, d⟩
      refine ⟨⟨a, c⟩, fun e he => ?_⟩
      rcases List.mem_append.1 he with he | he
      · exact b e he
      · exact d e he
    · rintro ⟨⟨a, c⟩, d⟩
      exact ⟨⟨a, fun e he => d e (List.mem_append_left _ he)⟩, c, fun e he => d e (List.mem_append_right _ he)⟩
theorem allE_lev (l : List ExprR) (h : ∀ e ∈ l, okE e) : (∀ e ∈ l, AllE e) ↔ ∀ e ∈ kidsE l, AllE e := by
  constructor
  · intro ha e he
    simp only [kidsE, List.mem_flatMap] at he
    obtain ⟨x, hx, he⟩ := he
    exact (ha x hx).kid he
  · intro ha e he
    exact (AllE.iff (h e he)).2 fun k hk => ha k (by simp only [kidsE, List.mem_flatMap]; exact ⟨e, he, hk⟩)
theorem cntS_flat (l : List BlockR) : cntS (flatB l) = cntB l := by
  induction l with
  | nil => rfl
  | cons b l ih => rw [flatB, List.flatMap_cons, cntS_append, ← flatB, ih, cntB, b.cnt_eq]
theorem depthS_flat (l : List BlockR) : depthS (flatB l) = depthB l := by
  induction l with
  | nil => rfl
  | cons b l ih => rw [flatB, List.flatMap_cons, depthS_append, ← flatB, ih, depthB, b.depth_eq]
theorem cnt_lev (l : List StatR) : cntS l = l.length + cntS (nextS l) + nodesE (moreS l) := by
  induction l with
  | nil => rfl
  | cons x l ih =>
    have e1 : nextS (x :: l) = flatB x.blocks ++ nextS l := by simp [nextS]
    have e2 : moreS (x :: l) = (if x.kind ≤ 3 then [x.e] else []) ++ moreS l := by simp [moreS]
    rw [e1, e2, cntS_append, nodesE_append, cntS, ih, cntS_flat, x.cnt_eq, List.length_cons]
    split <;> simp [nodesE] <;> omega
theorem nodes_lev (l : List StatR) : l.length + nodesS (nextS l) + nodesE (moreS l) ≤ nodesS l := by
  induction l with
  | nil => simp [nextS, moreS, nodesS, nodesE]
  | cons x l ih =>
    have e1 : nextS (x :: l) = flatB x.blocks ++ nextS l := by simp [nextS]
    have e2 : moreS (x :: l) = (if x.kind ≤ 3 then [x.e] else []) ++ moreS l := by simp [moreS]
    rw [e1, e2, nodesS_append, nodesE_append, nodesS, nodes_flatB, x.nodes_eq, List.length_cons]
    split <;> simp [nodesE] <;> omega
theorem nodesE_lev (l : List ExprR) : nodesE l = l.length + nodesE (kidsE l) := by
  induction l with
  | nil => rfl
  | cons x l ih =>
    have e1 : kidsE (x :: l) = x.kids ++ kidsE l := by simp [kidsE]
    rw [e1, nodesE_append, nodesE, ih, x.nodes_eq, List.length_cons]
    omega
theorem depthE_lev (l : List ExprR) (h : l ≠ []) : depthE l = 1 + depthE (kidsE l) := by
  induction l with
  | nil => exact absurd rfl h
  | cons x l ih =>
    have e1 : kidsE (x :: l) = x.kids ++ kidsE l := by simp [kidsE]
    rw [e1, depthE_append, depthE, x.depth_eq]
    by_cases hl : l = []
    · subst hl; simp [kidsE, depthE]
    · rw [ih hl]; omega
theorem depthS_lev (l : List StatR) (h : l ≠ []) : depthS l = 1 + max (depthS (nextS l)) (depthE (moreS l)) := by
  induction l with
  | nil => exact absurd rfl h
  | cons x l ih =>
    have e1 : nextS (x :: l) = flatB x.blocks ++ nextS l := by simp [nextS]
    have e2 : moreS (x :: l) = (if x.kind ≤ 3 then [x.e] else []) ++ moreS l := by simp [moreS]
    have e3 : depthE (if x.kind ≤ 3 then [x.e] else []) = if x.kind ≤ 3 then x.e.depth else 0 := by split <;> simp [depthE]
    rw [e1, e2, depthS_append, depthE_append, depthS, x.depth_eq, depthS_flat, e3]
    generalize (if x.kind ≤ 3 then x.e.depth else 0) = ed
    by_cases hl : l = []
    · subst hl; simp [nextS, moreS, depthS, depthE]; omega
    · rw [ih hl]; omega
/-- What is known at a depth. -/
structure Lev (L S : List StatR) (E : List ExprR) (n d : Nat) (lg : Bool) : Prop where
  all : AllL L ↔ AllL S ∧ ∀ e ∈ E, AllE e
  cnt : cntS L = n + cntS S + nodesE E
  deep : depthS L = d + max (depthS S) (depthE E)
  large : lg = true ↔ 1000 < n ∨ 50 < d
theorem Lev.start (L : List StatR) : Lev L L [] 0 0 false := ⟨⟨fun h => ⟨h, fun e he => by cases he⟩, fun h => h.1⟩, by simp [nodesE], by simp [depthE], by simp⟩
theorem Lev.next {L S : List StatR} {E : List ExprR} {n d : Nat} {lg : Bool} (h : Lev L S E n d lg) (hs : ∀ x ∈ S, okS x) (he : ∀ e ∈ E, okE e) (hp : 0 < S.length + E.length) :
    Lev L (nextS S) (moreS S ++ kidsE E) (n + (S.length + E.length)) (d + 1) (lg || decide (1000 < n + (S.length + E.length)) || decide (50 < d + 1)) := by
  refine ⟨?_, ?_, ?_, ?_⟩
  · rw [h.all, allS_lev S hs, allE_lev E he]
    constructor
    · rintro ⟨⟨a, b⟩, c⟩
      refine ⟨a, fun e he => ?_⟩
      rcases List.mem_append.1 he with he | he
      · exact b e he
      · exact c e he
    · rintro ⟨a, b⟩
      exact ⟨⟨a, fun e he => b e (List.mem_append_left _ he)⟩, fun e he => b e (List.mem_append_right _ he)⟩
  · rw [h.cnt, cnt_lev S, nodesE_lev E, nodesE_append]; omega
  · rw [h.deep, depthE_append]
    by_cases hS : S = []
    · subst hS
      have hE : E ≠ [] := by rintro rfl; simp at hp
      rw [depthE_lev E hE]
      simp [nextS, moreS, depthS, depthE]
      omega
    · rw [depthS_lev S hS]
      by_cases hE : E = []
      · subst hE; simp [kidsE, depthE]; omega
      · rw [depthE_lev E hE]; omega
  · simp only [Bool.or_eq_true, decide_eq_true_eq]
    rw [h.large]
    omega
theorem Lev.wrong {L : List StatR} {n d : Nat} {lg : Bool} (h : Lev L [] [] n d lg) : wrong L = if lg = true then 2 else 0 := by
  have ha : AllL L := h.all.2 ⟨(fun x hx => by cases hx), fun e he => by cases he⟩
  have h1 := h.cnt
  have h2 := h.deep
  simp only [cntS, nodesE, depthS, depthE] at h1 h2
  unfold Go.Proofs.YtgiceeholamphaaDoor.wrong
  rw [if_pos ha]
  by_cases hl : lg = true
  · rw [if_pos hl, if_pos (by have := h.large.1 hl; omega)]
  · rw [if_neg hl, if_neg (fun hc => hl (h.large.2 (by omega)))]
theorem Lev.bad {L S : List StatR} {E : List ExprR} {n d : Nat} {lg : Bool} (h : Lev L S E n d lg) {x : StatR} (hx : x ∈ S) (hb : ¬ okS x) : ¬ AllL L := fun ha => hb ((h.all.1 ha).1 x hx).ok
theorem Lev.badE {L S : List StatR} {E : List ExprR} {n d : Nat} {lg : Bool} (h : Lev L S E n d lg) {x : ExprR} (hx : x ∈ E) (hb : ¬ okE x) : ¬ AllL L := fun ha => hb ((h.all.1 ha).2 x hx).ok
/-! ### A statement by itself, in three looks -/
def look1 (x : StatR) : Prop := 1 ≤ x.kind ∧ x.kind ≤ 5 ∧ (x.kind ≤ 2 → x.blocks.length = 0) ∧ (x.kind = 3 → 1 ≤ x.blocks.length ∧ x.blocks.length ≤ 2) ∧ (x.kind = 4 → x.blocks.length = 1) ∧ (x.kind = 5 → 1 ≤ x.blocks.length ∧ x.blocks.length ≤ 8)
instance (x : StatR) : Decidable (look1 x) := inferInstanceAs (Decidable (_ ∧ _))
def look2 (x : StatR) : Prop := (x.kind ≤ 2 → named x.name) ∧ (2 < x.kind → x.name.toList = []) ∧ (x.kind ≠ 4 → x.n = 0) ∧ 0 ≤ x.n ∧ x.n ≤ 1000
noncomputable instance (x : StatR) : Decidable (look2 x) := inferInstanceAs (Decidable (_ ∧ _))
theorem size_zero' {s : ByteArray} : s.size = 0 ↔ s.toList = [] := size_zero
theorem looks {x : StatR} : okS x ↔ look1 x ∧ look2 x ∧ (3 < x.kind → noneE x.e) := by
  unfold okS look1 look2
  constructor
  · rintro (⟨h1, h2, h3, h4⟩ | ⟨h1, h2, h3, h4, h5⟩ | ⟨h1, h2, h3, h4, h5, h6⟩ | ⟨h1, h2, h3, h4, h5, h6⟩)
    · exact ⟨⟨by omega, by omega, fun _ => h4, by omega, by omega, by omega⟩, ⟨fun _ => h2, by omega, fun _ => h3, by omega, by omega⟩, by omega⟩
    · exact ⟨⟨by omega, by omega, by omega, by omega, by omega, by omega⟩, ⟨by omega, fun _ => size_zero.1 h2, fun _ => h3, by omega, by omega⟩, by omega⟩
    · exact ⟨⟨by omega, by omega, by omega, by omega, by omega, by omega⟩, ⟨by omega, fun _ => size_zero.1 h2, by omega, by omega, by omega⟩, fun _ => h6⟩
    · exact ⟨⟨by omega, by omega, by omega, by omega, by omega, by omega⟩, ⟨by omega, fun _ => size_zero.1 h2, fun _ => h3, by omega, by omega⟩, fun _ => h6⟩
  · rintro ⟨⟨a1, a2, a3, a4, a5, a6⟩, ⟨b1, b2, b3, b4, b5⟩, c⟩
    by_cases k2 : x.kind ≤ 2
    · exact .inl ⟨by omega, b1 k2, b3 (by omega), a3 k2⟩
    have hn := size_zero.2 (b2 (by omega))
    by_cases k3 : x.kind = 3
    · exact .inr (.inl ⟨k3, hn, b3 (by omega), (a4 k3).1, (a4 k3).2⟩)
    by_cases k4 : x.kind = 4
    · exact .inr (.inr (.inl ⟨k4, hn, b4, b5, a5 k4, c (by omega)⟩))
    · have k5 : x.kind = 5 := by omega
      exact .inr (.inr (.inr ⟨k5, hn, b3 k4, (a6 k5).1, (a6 k5).2, c (by omega)⟩))
end Go.Proofs.YtgiceeholamphaaDoor
