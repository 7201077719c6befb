/- The text of a program: plain. No conditions. -/
import Derived.Test.YtgiceeholamphaaDoorApt
import Derived.Lib.ItoaNum
namespace Go.Proofs.YtgiceeholamphaaDoor
open Go.ChangeShapes Go.WideShapes Go.ChangeAt Go.RowKit Go.Maps

/-- " + ", " - ", " * ". -/
def opT (k : Int) : List UInt8 := if k = 3 then [32, 43, 32] else if k = 4 then [32, 45, 32] else [32, 42, 32]
mutual
/-- An expression's text; tight: 0: all; 1: no sum; 2: no product. -/
def ExprR.txt : ExprR → Nat → List UInt8
  | .mk k n s _ _ l => fun t =>
    if k = 1 then Lib.itoa n else if k = 2 then s.data.toList else
      if (if k = 5 then 1 else 0) < t then 40 :: (sidesT k l ++ [41]) else sidesT k l
def sidesT (k : Int) : List ExprR → List UInt8
  | a :: l => a.txt (if k = 5 then 1 else 0) ++ (opT k ++ side2T k l)
  | [] => []
def side2T (k : Int) : List ExprR → List UInt8
  | b :: _ => b.txt (if k = 5 then 2 else 1)
  | [] => []
end
/-- What stands ahead of a statement's blocks. -/
def headT (k : Int) (s : ByteArray) (e : ExprR) (n : Int) : List UInt8 :=
  if k = 1 then s.data.toList ++ ([32, 61, 32] ++ e.txt 0) else if k = 2 then s.data.toList ++ ([32, 43, 61, 32] ++ e.txt 0) else
  if k = 3 then [105, 102, 32] ++ (e.txt 0 ++ [32]) else if k = 4 then [114, 101, 112, 101, 97, 116, 32] ++ (Lib.itoa n ++ [32]) else [112, 97, 114, 32]
/-- What stands between its blocks. -/
def betweenT (k : Int) : List UInt8 := if k = 5 then [32, 97, 110, 100, 32] else [32, 101, 108, 115, 101, 32]
mutual
def StatR.txt : StatR → List UInt8 | .mk k s e n _ _ l => headT k s e n ++ blocksT (betweenT k) l
def blocksT (btw : List UInt8) : List BlockR → List UInt8
  | [] => []
  | b :: l => b.txt ++ moreT btw l
def moreT (btw : List UInt8) : List BlockR → List UInt8
  | [] => []
  | b :: l => btw ++ (b.txt ++ moreT btw l)
def BlockR.txt : BlockR → List UInt8 | .mk _ _ l => [123, 32] ++ (textS l ++ (if l.length = 0 then [125] else [32, 125]))
def textS : List StatR → List UInt8
  | [] => []
  | x :: l => x.txt ++ tailT l
def tailT : List StatR → List UInt8
  | [] => []
  | x :: l => [59, 32] ++ (x.txt ++ tailT l)
end
end Go.Proofs.YtgiceeholamphaaDoor
