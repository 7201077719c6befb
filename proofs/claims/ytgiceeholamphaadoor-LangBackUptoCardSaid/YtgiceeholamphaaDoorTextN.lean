/- The text of a program, statement by statement, block by block: plain. No conditions. -/
import Derived.Test.YtgiceeholamphaaDoorTextM
import Derived.Test.YtgiceeholamphaaDoorSizeL
namespace Go.Proofs.YtgiceeholamphaaDoor
open Go.ChangeShapes Go.WideShapes Go.ChangeAt Go.RowKit Go.Maps

theorem tailT_append : ∀ a b : List StatR, tailT (a ++ b) = tailT a ++ tailT b
  | [], b => by simp [tailT]
  | x :: a, b => by simp [tailT, tailT_append a b]
theorem moreT_append (btw : List UInt8) : ∀ a b : List BlockR, moreT btw (a ++ b) = moreT btw a ++ moreT btw b
  | [], b => by simp [moreT]
  | x :: a, b => by simp [moreT, moreT_append btw a b]
theorem textS_snoc (l : List StatR) (x : StatR) : textS (l ++ [x]) = textS l ++ ((if l.length = 0 then [] else [59, 32]) ++ x.txt) := by
  cases l with
  | nil => simp [textS, tailT]
  | cons y l => simp [textS, tailT, tailT_append]
theorem blocksT_snoc (btw : List UInt8) (l : List BlockR) (b : BlockR) : blocksT btw (l ++ [b]) = blocksT btw l ++ ((if l.length = 0 then [] else btw) ++ b.txt) := by
  cases l with
  | nil => simp [blocksT, moreT]
  | cons y l => simp [blocksT, moreT, moreT_append]
theorem textS_step {l : List StatR} {q : Nat} (h : q < l.length) : textS (l.take (q + 1)) = textS (l.take q) ++ ((if q = 0 then [] else [59, 32]) ++ l[q].txt) := by
  rw [List.take_succ_eq_append_getElem h, textS_snoc, List.length_take, Nat.min_eq_left (Nat.le_of_lt h)]
theorem blocksT_step (btw : List UInt8) {l : List BlockR} {q : Nat} (h : q < l.length) : blocksT btw (l.take (q + 1)) = blocksT btw (l.take q) ++ ((if q = 0 then [] else btw) ++ l[q].txt) := by
  rw [List.take_succ_eq_append_getElem h, blocksT_snoc, List.length_take, Nat.min_eq_left (Nat.le_of_lt h)]
theorem AllL.take {l : List StatR} (h : AllL l) (q : Nat) : AllL (l.take q) := fun x hx => h x (List.mem_of_mem_take hx)
theorem cntS_take (l : List StatR) (q : Nat) : cntS (l.take q) ≤ cntS l := by
  conv => rhs; rw [← List.take_append_drop q l, cntS_append]
  omega
theorem textS_take_len {l : List StatR} (h : AllL l) (q : Nat) : (textS (l.take q)).length ≤ 140 * cntS l :=
  Nat.le_trans (textS_len (h.take q)) (Nat.mul_le_mul_left _ (cntS_take l q))
theorem blocksT_take_len {x : StatR} (h : AllS x) (q : Nat) : (blocksT (betweenT x.kind) (x.blocks.take q)).length ≤ 10 * x.blocks.length + 140 * cntB x.blocks := by
  have h1 := blocksT_len _ (betweenT_len x.kind) (x.blocks.take q) fun b hb y hy => stat_len y (h.in_ (List.mem_of_mem_take hb) hy)
  have h2 : cntB (x.blocks.take q) ≤ cntB x.blocks := by
    conv => rhs; rw [← List.take_append_drop q x.blocks, cntB_append]
    omega
  have h3 : (x.blocks.take q).length ≤ x.blocks.length := by rw [List.length_take]; omega
  omega
end Go.Proofs.YtgiceeholamphaaDoor
