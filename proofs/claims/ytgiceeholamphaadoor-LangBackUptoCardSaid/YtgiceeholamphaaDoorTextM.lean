/- The text of a program: plain. No conditions. -/
import Derived.Test.YtgiceeholamphaaDoorApt
import Derived.Lib.ItoaNum
import Derived.Lib.ItoaLen
namespace Go.Proofs.YtgiceeholamphaaDoor
open Go.ChangeShapes Go.WideShapes Go.ChangeAt Go.RowKit Go.Maps

/-- " + ", " - ", " * ". -/
def opT (k : Int) : List UInt8 := if k = 3 then [32, 43, 32] else if k = 4 then [32, 45, 32] else [32, 42, 32]
mutual
/-- An expression's text; tight: 0: all; 1: no sum; 2: no product. -/
def ExprR.txt : ExprR → Nat → List UInt8
  | .mk k n s _ _ l => fun t =>
    if k = 1 then Lib.itoa n else if k = 2 then s.data.toList else
      if (if k = 5 then 1 else 0) < t then 40 :: (sidesT k l ++ [41]) else sidesT k l
def sidesT (k : Int) : List ExprR → List UInt8
  | a :: l => a.txt (if k = 5 then 1 else 0) ++ (opT k ++ side2T k l)
  | [] => []
def side2T (k : Int) : List ExprR → List UInt8
  | b :: _ => b.txt (if k = 5 then 2 else 1)
  | [] => []
end
/-- What stands ahead of a statement's blocks. -/
def headT (k : Int) (s : ByteArray) (e : ExprR) (n : Int) : List UInt8 :=
  if k = 1 then s.data.toList ++ ([32, 61, 32] ++ e.txt 0) else if k = 2 then s.data.toList ++ ([32, 43, 61, 32] ++ e.txt 0) else
  if k = 3 then [105, 102, 32] ++ (e.txt 0 ++ [32]) else if k = 4 then [114, 101, 112, 101, 97, 116, 32] ++ (Lib.itoa n ++ [32]) else [112, 97, 114, 32]
/-- What stands between its blocks. -/
def betweenT (k : Int) : List UInt8 := if k = 5 then [32, 97, 110, 100, 32] else [32, 101, 108, 115, 101, 32]
mutual
def StatR.txt : StatR → List UInt8 | .mk k s e n _ _ l => headT k s e n ++ blocksT (betweenT k) l
def blocksT (btw : List UInt8) : List BlockR → List UInt8
  | [] => []
  | b :: l => b.txt ++ moreT btw l
def moreT (btw : List UInt8) : List BlockR → List UInt8
  | [] => []
  | b :: l => btw ++ (b.txt ++ moreT btw l)
def BlockR.txt : BlockR → List UInt8 | .mk _ _ l => [123, 32] ++ (textS l ++ (if l.length = 0 then [125] else [32, 125]))
def textS : List StatR → List UInt8
  | [] => []
  | x :: l => x.txt ++ tailT l
def tailT : List StatR → List UInt8
  | [] => []
  | x :: l => [59, 32] ++ (x.txt ++ tailT l)
end
end Go.Proofs.YtgiceeholamphaaDoor

/- How long the text of a program is: plain. No conditions. -/
namespace Go.Proofs.YtgiceeholamphaaDoor
open Go.ChangeShapes Go.WideShapes Go.ChangeAt Go.RowKit Go.Maps

theorem opT_len (k : Int) : (opT k).length = 3 := by unfold opT; split <;> (try split) <;> rfl
theorem ExprR.txt_num {e : ExprR} (h : e.kind = 1) (t : Nat) : e.txt t = Lib.itoa e.n := by
  cases e; simp only [ExprR.kind] at h; subst h; simp [ExprR.txt, ExprR.n]
theorem ExprR.txt_name {e : ExprR} (h : e.kind = 2) (t : Nat) : e.txt t = e.name.data.toList := by
  cases e; simp only [ExprR.kind] at h; subst h; simp [ExprR.txt, ExprR.name]
/-- The text of a sum, a difference, a product, without what is about it. -/
def ExprR.bare (e : ExprR) (a b : ExprR) : List UInt8 := a.txt (if e.kind = 5 then 1 else 0) ++ (opT e.kind ++ b.txt (if e.kind = 5 then 2 else 1))
theorem ExprR.txt_op {e a b : ExprR} (h : 3 ≤ e.kind) (hk : e.kids = [a, b]) (t : Nat) :
    e.txt t = if (if e.kind = 5 then 1 else 0) < t then 40 :: (e.bare a b ++ [41]) else e.bare a b := by
  cases e with | mk k n s A c l =>
  simp only [ExprR.kids] at hk
  subst hk
  simp only [ExprR.kind] at h
  simp only [ExprR.txt, ExprR.kind, ExprR.bare, sidesT, side2T]
  rw [if_neg (by omega), if_neg (by omega)]
  rfl
theorem kids2 {l : List ExprR} (h : l.length = 2) : ∃ a b, l = [a, b] := by
  match l, h with
  | [a, b], _ => exact ⟨a, b, rfl⟩
theorem txt_len : ∀ e : ExprR, AllE e → ∀ t, (e.txt t).length ≤ 26 * e.nodes := by
  refine ExprR.ind fun e ih h t => ?_
  have hp := nodesE_pos e
  rcases h.ok with ⟨h1, h2, h3, _⟩ | ⟨h1, _, h3, _⟩ | ⟨h1, _, _, _, h2⟩
  · rw [e.txt_num h1]
    have := Lib.itoa_length_le e.n (by omega) (by omega)
    omega
  · rw [e.txt_name h1]
    have h4 : e.name.size ≤ 8 := h3.2.1
    have h5 : e.name.data.toList.length = e.name.size := by rw [Array.length_toList]; rfl
    omega
  · obtain ⟨a, b, hk⟩ := kids2 h2
    rw [e.txt_op h1 hk]
    have ha := ih a (by rw [hk]; simp) (h.kid (by rw [hk]; simp)) (if e.kind = 5 then 1 else 0)
    have hb := ih b (by rw [hk]; simp) (h.kid (by rw [hk]; simp)) (if e.kind = 5 then 2 else 1)
    have ho := opT_len e.kind
    have hn : e.nodes = 1 + (a.nodes + b.nodes) := by rw [e.nodes_eq, hk]; simp [nodesE]
    have hl : (e.bare a b).length ≤ 26 * a.nodes + (3 + 26 * b.nodes) := by simp only [ExprR.bare, List.length_append]; omega
    generalize e.bare a b = z at hl ⊢
    generalize (if e.kind = 5 then 1 else 0) = m
    split <;> (try simp only [List.length_cons, List.length_append, List.length_nil]) <;> omega
theorem StatR.txt_eq (x : StatR) : x.txt = headT x.kind x.name x.e x.n ++ blocksT (betweenT x.kind) x.blocks := by cases x; rw [StatR.txt]; rfl
theorem BlockR.txt_eq (b : BlockR) : b.txt = [123, 32] ++ (textS b.l ++ (if b.l.length = 0 then [125] else [32, 125])) := by cases b; rw [BlockR.txt]; rfl
theorem betweenT_len (k : Int) : (betweenT k).length ≤ 6 := by unfold betweenT; split <;> simp
theorem tailT_len : ∀ l : List StatR, (∀ x ∈ l, x.txt.length + 2 ≤ 140 * x.cnt) → (tailT l).length ≤ 140 * cntS l
  | [], _ => by simp [tailT]
  | x :: l, h => by
    have h1 := h x (by simp)
    have h2 := tailT_len l fun y hy => h y (by simp [hy])
    simp only [tailT, cntS, List.length_append, List.length_cons, List.length_nil]
    omega
theorem textS_len' (l : List StatR) (h : ∀ x ∈ l, x.txt.length + 2 ≤ 140 * x.cnt) : (textS l).length ≤ 140 * cntS l := by
  cases l with
  | nil => simp [textS]
  | cons x l =>
    have h1 := h x (by simp)
    have h2 := tailT_len l fun y hy => h y (by simp [hy])
    simp only [textS, cntS, List.length_append]
    omega
theorem block_len (b : BlockR) (h : ∀ x ∈ b.l, x.txt.length + 2 ≤ 140 * x.cnt) : b.txt.length ≤ 4 + 140 * b.cnt := by
  have := textS_len' b.l h
  rw [b.txt_eq, b.cnt_eq]
  split <;> simp only [List.length_append, List.length_cons, List.length_nil] <;> omega
theorem moreT_len (btw : List UInt8) (hb : btw.length ≤ 6) : ∀ l : List BlockR, (∀ b ∈ l, ∀ x ∈ b.l, x.txt.length + 2 ≤ 140 * x.cnt) → (moreT btw l).length ≤ 10 * l.length + 140 * cntB l
  | [], _ => by simp [moreT]
  | b :: l, h => by
    have h1 := block_len b (h b (by simp))
    have h2 := moreT_len btw hb l fun y hy => h y (by simp [hy])
    simp only [moreT, cntB, List.length_append, List.length_cons]
    omega
theorem blocksT_len (btw : List UInt8) (hb : btw.length ≤ 6) (l : List BlockR) (h : ∀ b ∈ l, ∀ x ∈ b.l, x.txt.length + 2 ≤ 140 * x.cnt) : (blocksT btw l).length ≤ 10 * l.length + 140 * cntB l := by
  cases l with
  | nil => simp [blocksT]
  | cons b l =>
    have h1 := block_len b (h b (by simp))
    have h2 := moreT_len btw hb l fun y hy => h y (by simp [hy])
    simp only [blocksT, cntB, List.length_append, List.length_cons]
    omega
theorem headT_len {x : StatR} (h : AllS x) : (headT x.kind x.name x.e x.n).length ≤ 29 + 26 * (if x.kind ≤ 3 then x.e.nodes else 0) ∧ x.blocks.length ≤ 8 := by
  have hnm : x.name.data.toList.length = x.name.size := by rw [Array.length_toList]; rfl
  unfold headT
  rcases h.ok with ⟨h1, h2, h3, h4⟩ | ⟨h1, _, _, _, h4⟩ | ⟨h1, _, h2, h3, h4, _⟩ | ⟨h1, _, _, _, h4, _⟩
  · have h8 : x.name.size ≤ 8 := h2.2.1
    have hk : x.kind ≤ 3 := by omega
    have he := txt_len x.e (h.e hk) 0
    rw [if_pos hk]
    refine ⟨?_, by omega⟩
    rcases h1 with h1 | h1
    · rw [if_pos h1]; simp only [List.length_append, List.length_cons, List.length_nil]; omega
    · rw [if_neg (by omega), if_pos h1]; simp only [List.length_append, List.length_cons, List.length_nil]; omega
  · have hk : x.kind ≤ 3 := by omega
    have he := txt_len x.e (h.e hk) 0
    rw [if_pos hk, if_neg (by omega), if_neg (by omega), if_pos h1]
    refine ⟨?_, by omega⟩
    simp only [List.length_append, List.length_cons, List.length_nil]; omega
  · have := Lib.itoa_length_le x.n (by omega) (by omega)
    rw [if_neg (show ¬ x.kind ≤ 3 by omega), if_neg (by omega), if_neg (by omega), if_neg (by omega), if_pos h1]
    refine ⟨?_, by omega⟩
    simp only [List.length_append, List.length_cons, List.length_nil]; omega
  · rw [if_neg (show ¬ x.kind ≤ 3 by omega), if_neg (by omega), if_neg (by omega), if_neg (by omega), if_neg (by omega)]
    refine ⟨?_, by omega⟩
    simp only [List.length_cons, List.length_nil]; omega
theorem stat_len : ∀ x : StatR, AllS x → x.txt.length + 2 ≤ 140 * x.cnt := by
  refine StatR.ind fun x ih h => ?_
  have h1 := headT_len h
  have h2 := blocksT_len _ (betweenT_len x.kind) x.blocks fun b hb y hy => ih b hb y hy (h.in_ hb hy)
  rw [x.txt_eq, List.length_append, x.cnt_eq]
  split at h1 <;> rename_i hk
  · rw [if_pos hk]; omega
  · rw [if_neg hk]; omega
/-- A program's text is no longer than 140 bytes for each of its nodes. -/
theorem textS_len {l : List StatR} (h : AllL l) : (textS l).length ≤ 140 * cntS l := textS_len' l fun x hx => stat_len x (h x hx)
end Go.Proofs.YtgiceeholamphaaDoor
