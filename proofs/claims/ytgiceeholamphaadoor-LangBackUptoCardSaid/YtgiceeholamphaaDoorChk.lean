/- The contract of lang.Check: 0, 1 (what is no program), 2 (too large). No conditions but that what is read is there, and that it can be counted. -/
import Derived.Test.YtgiceeholamphaaDoorShallow
namespace Go.Proofs.YtgiceeholamphaaDoor
open Go.ChangeShapes Go.WideShapes Go.ChangeAt Go.RowKit

def ChkPost (l : List StatR) (w : World) (E : Ending) (w' : World) : Prop := E = .returned (.int .i64 (wrong l)) ∧ Below w.heap.size w w'
theorem wrong_one {l : List StatR} (h : ¬ AllL l) : wrong l = 1 := if_neg h
set_option maxRecDepth 100000 in
theorem check_any (k : BlockR) (w : World) (B : Nat) (hR : RdB w B k) (hB : B ≤ w.heap.size) (hn : nodesS k.l ≤ 1048576) :
    Calls Tryd.prog 14 #[k.val] w (ChkPost k.l w) := by
  obtain ⟨A, c, L⟩ := k
  simp only [BlockR.l] at hn
  have hsz : SizeAt (w.alloc (.cells #[.int .i64 0, .int .i64 0] 72)) w.heap.size 0 0 := Blk.new w 72 [.int .i64 ((0 : Nat) : Int), .int .i64 ((0 : Nat) : Int)]
  have hbl := block_any 51 (.mk A c L) _ B w.heap.size 0 0 1 (hR.keep fun p hp => World.cell?_alloc_lt w _ p (by omega)) hB hsz (by omega) (by omega) (by omega) (by simp only [BlockR.l]; omega)
  have HX := Lib.hid (And.intro hR (And.intro hbl hsz)); clear hR hbl hsz
  show Calls Tryd.prog 14 #[.slice A L.length c] w _
  go_enter Tryd.func14, Tryd.ntmps14
  go_wp2_with (first
    | (go_at_call 32; (
       refine (show Calls _ _ _ _ _ from HX.out.2.1).mono ?_
       rintro E w2 ⟨b2, n2, d2, rfl, hS2, hg2, hs2⟩
       have hbw : Below w.heap.size w w2 := ((Below.refl _ _).alloc (Nat.le_refl _) _).grown hg2 (by simp) (fun k e => by cases e; exact Nat.le_refl _)
       have z0 := hS2.cell 0
       have z1 := hS2.cell 1
       simp only [List.getElem?_cons_zero, List.getElem?_cons_succ] at z0 z1
       have hws := hbw.size
       have hgl := hS2.lt
       have H2 := Lib.hid (And.intro hS2 (And.intro hbw hs2)); clear hS2 hbw hs2 hg2
       cases b2))
    | (go_at_call 33; (
       refine (shallow_any (.mk A c L) _ B (HX.out.1.under (H2.out.2.1.mono hB)) (by omega) hn).mono ?_
       rintro E w3 ⟨b3, rfl, hi3, hb3⟩
       have z2 := (hb3.cell (p := ⟨w.heap.size, 0, none⟩) hgl).trans z0
       have z3 := (hb3.cell (p := ⟨w.heap.size, 1, none⟩) hgl).trans z1
       have H3 := Lib.hid (And.intro hi3 hb3); clear hi3 hb3
       cases b3)))
  · go_ret
    exact ⟨by rw [show wrong (BlockR.mk A c L).l = 1 from H2.out.2.2.wrong_of.1 rfl]; rfl, H2.out.2.1⟩
  · go_ret
    exact ⟨by rw [show wrong (BlockR.mk A c L).l = 1 from wrong_one fun h => by have := H3.out.1.2 h; cases this]; rfl, H2.out.2.1.trans (H3.out.2.mono hws)⟩
  all_goals
    go_ret
    refine ⟨?_, H2.out.2.1.trans (H3.out.2.mono hws)⟩
    rw [show wrong (BlockR.mk A c L).l = if 1000 < n2 ∨ 50 < d2 then 2 else 0 from H2.out.2.2.wrong_of.2 (H3.out.1.1 (by trivial))]
    first
      | (rw [if_pos (by omega)]; rfl)
      | (rw [if_neg (by omega)]; rfl)
end Go.Proofs.YtgiceeholamphaaDoor
