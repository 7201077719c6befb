/- The contracts of lang.none, size.stat, size.block. No conditions but that what is read is there, and that it can be counted. -/
import Derived.Test.YtgiceeholamphaaDoorSizeL
import Derived.Deep.CutBlock
namespace Go.Proofs.YtgiceeholamphaaDoor
open Go.ChangeShapes Go.WideShapes Go.ChangeAt Go.RowKit

def SeenS (x : StatR) (lev n d g : Nat) (w : World) (E : Ending) (w' : World) : Prop :=
  ∃ b n' d', E = .returned (.bool b) ∧ SizeAt w' g n' d' ∧ w.grownBy w' (some g) ∧ SawS x lev n d b n' d'
def SeenL (l : List StatR) (lev n d g : Nat) (w : World) (E : Ending) (w' : World) : Prop :=
  ∃ b n' d', E = .returned (.bool b) ∧ SizeAt w' g n' d' ∧ w.grownBy w' (some g) ∧ SawL l lev n d b n' d'
def StatC (r : Nat) : Prop := ∀ (x : StatR) (w : World) (B g n d lev : Nat), RdS w B x → B ≤ g → SizeAt w g n d → lev + r = 52 → 1 ≤ lev → d ≤ 52 → n + x.nodes ≤ 1099511627776 →
    Calls Tryd.prog 50 #[.pointer (some ⟨g, 0, none⟩), x.val, .int .i64 lev] w (SeenS x lev n d g w)
def BlockC (r : Nat) : Prop := ∀ (k : BlockR) (w : World) (B g n d lev : Nat), RdB w B k → B ≤ g → SizeAt w g n d → lev + r = 52 → 1 ≤ lev → d ≤ 52 → n + nodesS k.l ≤ 1099511627776 →
    Calls Tryd.prog 32 #[.pointer (some ⟨g, 0, none⟩), k.val, .int .i64 lev] w (SeenL k.l lev n d g w)
set_option maxRecDepth 100000 in
theorem none_any (w : World) (e : ExprR) : Calls Tryd.prog 52 #[e.val] w fun E w' => E = .returned (.bool (decide (noneE e))) ∧ Below w.heap.size w w' := by
  obtain ⟨kind, n, name, sA, sc, kids⟩ := e
  show Calls Tryd.prog 52 #[.agg #[.int .i64 kind, .int .i64 n, .string name, .slice sA kids.length sc]] w _
  have key : ∀ b, b = decide (noneE (.mk kind n name sA sc kids)) → Hid (b = decide (noneE (.mk kind n name sA sc kids))) := fun _ h => Lib.hid h
  by_cases k1 : kind = 0
  rotate_left
  · have H := key false (decide_eq_false fun h => k1 h.1).symm
    have k1' : (kind == 0) = false := beq_eq_false_iff_ne.2 k1
    clear k1 key
    go_enter Tryd.func52, Tryd.ntmps52
    go_wp2_with fail
    go_ret
    exact ⟨by rw [← H.out]; rfl, (Below.refl _ _).alloc (Nat.le_refl _) _⟩
  by_cases k2 : n = 0
  rotate_left
  · have H := key false (decide_eq_false fun h => k2 h.2.1).symm
    have k2' : (n == 0) = false := beq_eq_false_iff_ne.2 k2
    clear k2 key
    subst k1
    go_enter Tryd.func52, Tryd.ntmps52
    go_wp2_with fail
    go_ret
    exact ⟨by rw [← H.out]; rfl, (Below.refl _ _).alloc (Nat.le_refl _) _⟩
  by_cases k3 : name.toList = []
  rotate_left
  · have k3' : name.toList.isEmpty = false := by simpa using k3
    have H := key false (decide_eq_false fun h => k3 (size_zero.1 h.2.2.1)).symm
    clear key
    subst k1 k2
    go_enter Tryd.func52, Tryd.ntmps52
    go_wp2_with fail
    go_ret
    exact ⟨by rw [← H.out]; rfl, (Below.refl _ _).alloc (Nat.le_refl _) _⟩
  have H := key (((kids.length : Int)) == 0) (by
    rw [Bool.eq_iff_iff, beq_iff_eq, decide_eq_true_iff]
    exact ⟨fun h => ⟨k1, k2, size_zero.2 k3, by show kids.length = 0; omega⟩, fun h => by have : kids.length = 0 := h.2.2.2; omega⟩)
  clear key
  subst k1 k2
  go_enter Tryd.func52, Tryd.ntmps52
  go_wp2_with fail
  go_ret
  exact ⟨by rw [← H.out]; first | rfl | simp, (Below.refl _ _).alloc (Nat.le_refl _) _⟩
set_option maxRecDepth 100000 in
set_option maxHeartbeats 4000000 in
theorem block_of (r : Nat) (hs : StatC r) : BlockC r := by
  intro k w B g n d lev hR hB hS hlr hl hd hn
  obtain ⟨A, c, l⟩ := k
  have hrow : RowS w B A l := hR.row
  have heach : ∀ x ∈ l, RdS w B x := hR.each
  have hfit : Fits l.length := hR.fits
  unfold Fits at hfit
  simp only [BlockR.l] at hn
  have hlt := hS.lt
  have Hs := Lib.hid hs; clear hs
  have Hn := Lib.hid hn; clear hn
  have Heach := Lib.hid heach; clear heach
  have Hrow := Lib.hid hrow; clear hrow
  have HS := Lib.hid hS; clear hS
  clear hR
  show Calls Tryd.prog 32 #[.pointer (some ⟨g, 0, none⟩), .slice A l.length c, .int .i64 lev] w _
  go_enter Tryd.func32, Tryd.ntmps32
  go_wp2_with fail
  go_loopg [11] l.length (fun gk i wr => ∃ (q n1 d1 : Nat), gk + q = l.length ∧ i = .int .i64 q ∧ SizeAt wr g n1 d1 ∧ w.grownBy wr (some g) ∧ SawL (l.take q) lev n d true n1 d1)
  case atStart => exact ⟨0, n, d, by omega, rfl, HS.out, World.grownBy.refl _ _, SawL.start hd⟩
  case round =>
    obtain ⟨q, n1, d1, hgq, rfl, hS1, hg1, hw1⟩ := hrel
    by_cases hq : q < l.length
    · obtain ⟨b, o, rfl, hbB, hx⟩ := Hrow.out.at_ (i := q) hq
      have hk : ∀ p : Addr, p.block < B → wr.cell? p = w.cell? p := fun p hp => gb_cell hg1 (by omega) hlt
      have hz := hg1.size
      have hRx := (Heach.out _ (List.getElem_mem hq)).keep hk
      have hx := hx.keep (w' := wr) hbB hk
      obtain ⟨x, hxe⟩ : ∃ x, l[q] = x := ⟨_, rfl⟩
      have hsn : ∀ n2 d2, SawS x lev n1 d1 true n2 d2 → SawL (l.take (q + 1)) lev n d true n2 d2 := fun n2 d2 h => hw1.snoc hq hl (by omega) (by rw [hxe]; exact h)
      have hst : ∀ n2 d2, SawS x lev n1 d1 false n2 d2 → SawL l lev n d false n2 d2 := fun n2 d2 h => hw1.stop hq (by rw [hxe]; exact h)
      have hnx : n1 + x.nodes ≤ 1099511627776 := by
        have h1 := nodesS_take l (q + 1)
        rw [take_snocA hq, nodesS_append, hxe] at h1
        simp only [nodesS] at h1
        have := hw1.up
        have := Hn.out
        omega
      rw [hxe] at hx hRx
      have hd1 := hw1.deep.2
      clear hxe hw1
      obtain ⟨kind, name, ⟨ek, en, ename, eA, ec, ekids⟩, xn, xA, xc, blocks⟩ := x
      obtain ⟨c0, c1, c2, c3, c4, c5, c6, c7⟩ := hx
      simp only [StatR.kind, StatR.name, StatR.e, StatR.n, StatR.bA, StatR.bc, StatR.blocks, ExprR.kind, ExprR.n, ExprR.name, ExprR.sA, ExprR.sc, ExprR.kids] at c0 c1 c2 c3 c4 c5 c6 c7
      have hne : b ≠ wr.heap.size := by omega
      have H1 := Lib.hid (And.intro hS1 (And.intro hg1 (And.intro hRx (And.intro hsn (And.intro hst hk)))))
      clear hS1 hg1 hRx hsn hst hk
      go_wp2_with (go_at_call 50; (
        refine (Hs.out (.mk kind name (.mk ek en ename eA ec ekids) xn xA xc blocks) _ B g n1 d1 lev (H1.out.2.2.1.keep fun p hp => World.cell?_alloc_lt _ _ p (by omega)) hB (H1.out.1.alloc _) hlr hl hd1 hnx).mono ?_
        rintro E w2 ⟨b1, n2, d2, rfl, hS2, hg2, hs2⟩
        have H2 := Lib.hid (And.intro hS2 (And.intro (gb_trans (gb_alloc H1.out.2.1 _) hg2) hs2)); clear hS2 hg2 hs2
        cases b1))
      · go_ret
        exact ⟨_, _, _, rfl, H2.out.1, H2.out.2.1, H1.out.2.2.2.2.1 _ _ H2.out.2.2⟩
      · go_roundg (gk - 1)
        case measure => omega
        case rel => exact ⟨q + 1, n2, d2, by omega, by go_num, H2.out.1, H2.out.2.1, H1.out.2.2.2.1 _ _ H2.out.2.2⟩
    · have hend : l.take q = l := List.take_of_length_le (by omega)
      rw [hend] at hw1
      have H1 := Lib.hid (And.intro hS1 (And.intro hg1 hw1)); clear hS1 hg1 hw1 hend
      go_wp2_with fail
      go_ret
      exact ⟨_, _, _, rfl, H1.out.1, H1.out.2.1, H1.out.2.2⟩
set_option maxRecDepth 100000 in
set_option maxHeartbeats 1000000 in
theorem stat_zero : StatC 0 := by
  intro x w B g n d lev hR hB hS hlr hl hd hn
  obtain ⟨kind, name, ⟨ek, en, ename, eA, ec, ekids⟩, xn, xA, xc, blocks⟩ := x
  have h1 : (51 : Int) < lev := by omega
  have hw : wrap64 ((n : Int) + 1) = (n : Int) + 1 := by unfold wrap64; omega
  have hfin : SawS (.mk kind name (.mk ek en ename eA ec ekids) xn xA xc blocks) lev n d true (n + 1) (max d lev) := by
    have h1 := nodes_pos (.mk kind name (.mk ek en ename eA ec ekids) xn xA xc blocks)
    have h2 := depthS_pos (.mk kind name (.mk ek en ename eA ec ekids) xn xA xc blocks)
    exact ⟨by omega, by omega, fun _ => ⟨rfl, by omega, by omega⟩, fun h _ => by omega⟩
  have c0 := hS.cell 0
  have c1 := hS.cell 1
  have f0 := hS.frozen 0
  have f1 := hS.frozen 1
  have hlt := hS.lt
  simp only [List.getElem?_cons_zero, List.getElem?_cons_succ] at c0 c1
  have HS := Lib.hid hS; clear hS
  have Fin := Lib.hid hfin; clear hfin
  clear hR hn
  show Calls Tryd.prog 50 #[.pointer (some ⟨g, 0, none⟩), .agg #[.int .i64 kind, .string name, .int .i64 ek, .int .i64 en, .string ename, .slice eA ekids.length ec, .int .i64 xn, .slice xA blocks.length xc], .int .i64 lev] w _
  go_enter Tryd.func50, Tryd.ntmps50
  go_wp2_with fail
  all_goals
    rename_i hdl
    go_ret
    refine ⟨true, n + 1, max d lev, rfl, (size_end HS.out (by omega) (by omega)).alloc _, gb_alloc (gb_set (gb_set (World.grownBy.refl _ _) _ _) _ _) _, Fin.out⟩
/-- What stands in the box of a statement. -/
def BoxS (wr : World) (bx : Nat) (x : StatR) : Prop := Blk wr bx 49 x.cells
theorem boxS_new {w : World} {p q : Addr} {u v : Value} (x : StatR) : BoxS (((w.setCell p u).setCell q v).alloc (.cells x.cells.toArray 49)) w.heap.size x := by
  have h := Blk.new ((w.setCell p u).setCell q v) 49 x.cells
  rw [show ((w.setCell p u).setCell q v).heap.size = w.heap.size by simp [World.setCell]] at h
  exact h
set_option maxRecDepth 100000 in
set_option maxHeartbeats 8000000 in
theorem stat_succ (r : Nat) (hb : BlockC r) : StatC (r + 1) := by
  intro x w B g n d lev hR hB hS hlr hl hd hn
  obtain ⟨kind, name, ⟨ek, en, ename, eA, ec, ekids⟩, xn, xA, xc, blocks⟩ := x
  have h1 : ¬ (51 : Int) < lev := by omega
  have hw : wrap64 ((n : Int) + 1) = (n : Int) + 1 := by unfold wrap64; omega
  have hw2 : wrap64 ((lev : Int) + 1) = (lev : Int) + 1 := by unfold wrap64; omega
  have c0 := hS.cell 0
  have c1 := hS.cell 1
  have f0 := hS.frozen 0
  have f1 := hS.frozen 1
  have hlt := hS.lt
  simp only [List.getElem?_cons_zero, List.getElem?_cons_succ] at c0 c1
  have HS := Lib.hid hS; clear hS
  have HR := Lib.hid hR; clear hR
  have Hn := Lib.hid hn; clear hn
  have Hb := Lib.hid hb; clear hb
  show Calls Tryd.prog 50 #[.pointer (some ⟨g, 0, none⟩), .agg #[.int .i64 kind, .string name, .int .i64 ek, .int .i64 en, .string ename, .slice eA ekids.length ec, .int .i64 xn, .slice xA blocks.length xc], .int .i64 lev] w _
  go_enter Tryd.func50, Tryd.ntmps50
  go_upto_region 2 with (fail)
  go_cut [] from 10 (fun wr => SizeAt wr g (n + 1) (max d lev) ∧ w.grownBy wr (some g) ∧ BoxS wr w.heap.size (.mk kind name (.mk ek en ename eA ec ekids) xn xA xc blocks))
  case first =>
    by_cases hdl : d < lev
    all_goals
      go_wp2_with fail
      go_meet
      case rel =>
        exact ⟨(size_end HS.out (by omega) (by omega)).alloc _, gb_alloc (gb_set (gb_set (World.grownBy.refl _ _) _ _) _ _) _, boxS_new (StatR.mk kind name (.mk ek en ename eA ec ekids) xn xA xc blocks)⟩
  case rest =>
    obtain ⟨hS1, hg1, hx1⟩ := hcut
    have H1 := Lib.hid (And.intro hS1 hg1); clear hS1 hg1
    have x0 := hx1.cell 0
    have x1 := hx1.cell 1
    have x2 := hx1.cell 2
    have x3 := hx1.cell 3
    have x4 := hx1.cell 4
    have x5 := hx1.cell 5
    have x6 := hx1.cell 6
    have x7 := hx1.cell 7
    simp [StatR.cells, StatR.kind, StatR.name, StatR.e, StatR.n, StatR.bA, StatR.bc, StatR.blocks, ExprR.kind, ExprR.n, ExprR.name, ExprR.sA, ExprR.sc, ExprR.kids] at x0 x1 x2 x3 x4 x5 x6 x7
    have HX := Lib.hid hx1; clear hx1
    go_upto_block 0 with (fail)
    go_cut [7] from 28 (fun s7 wr => ∃ b n1 d1, s7 = .bool b ∧ SizeAt wr g n1 d1 ∧ w.grownBy wr (some g) ∧ BoxS wr w.heap.size (.mk kind name (.mk ek en ename eA ec ekids) xn xA xc blocks) ∧ SawH (.mk kind name (.mk ek en ename eA ec ekids) xn xA xc blocks) lev n d b n1 d1 0)
    case first =>
      have hz := H1.out.2.size
      have hgc : g < wc.heap.size := by omega
      have hbx := HX.out.lt
      have hgx : ¬ w.heap.size = g := by omega
      by_cases k12 : kind = 1 ∨ kind = 2
      · have hall : AllS (.mk kind name (.mk ek en ename eA ec ekids) xn xA xc blocks) → named name ∧ xn = 0 ∧ blocks.length = 0 := fun ha => by
          rcases ha.ok with h | h | h | h
          · exact ⟨h.2.1, h.2.2.1, h.2.2.2⟩
          all_goals have := h.1; simp only [StatR.kind] at this; omega
        have hk3 : kind ≤ 3 := by omega
        by_cases hnm : named name
        rotate_left
        · have Hno := Lib.hid (show ¬ AllS (.mk kind name (.mk ek en ename eA ec ekids) xn xA xc blocks) from fun ha => hnm (hall ha).1)
          clear hall
          have Hnm := Lib.hid hnm; clear hnm
          rcases k12 with rfl | rfl
          all_goals
            go_wp2_with (go_at_call 78; (refine (isName_any _ _).mono ?_; rintro E w2 ⟨rfl, hbw⟩; rw [decide_eq_false Hnm.out]; have Hbw := Lib.hid hbw; clear hbw))
            go_meet
            case rel => exact ⟨false, n + 1, max d lev, rfl, H1.out.1.below Hbw.out (by have := H1.out.1.lt; omega), gb_below H1.out.2 Hbw.out, HX.out.below Hbw.out HX.out.lt, SawH.bare (by omega) hd (fun ha => absurd ha Hno.out) fun hb => by cases hb⟩

        have Hnm := Lib.hid hnm; clear hnm
        by_cases q1 : xn = 0
        rotate_left
        · have Hno := Lib.hid (show ¬ AllS (.mk kind name (.mk ek en ename eA ec ekids) xn xA xc blocks) from fun ha => q1 (hall ha).2.1)
          have e1 : (xn == 0) = false := beq_eq_false_iff_ne.2 q1
          clear hall q1
          rcases k12 with rfl | rfl
          all_goals
            go_wp2_with (go_at_call 78; (refine (isName_any _ _).mono ?_; rintro E w2 ⟨rfl, hbw⟩; rw [decide_eq_true Hnm.out]; have hx2 := HX.out.below hbw hbx; have y6 := hx2.cell 6; simp [StatR.cells, StatR.n] at y6; have Hbw := Lib.hid hbw; clear hbw hx2))
            go_meet
            case rel => exact ⟨false, n + 1, max d lev, rfl, H1.out.1.below Hbw.out (by have := H1.out.1.lt; omega), gb_below H1.out.2 Hbw.out, HX.out.below Hbw.out HX.out.lt, SawH.bare (by omega) hd (fun ha => absurd ha Hno.out) fun hb => by cases hb⟩

        subst q1
        by_cases q2 : blocks.length = 0
        rotate_left
        · have Hno := Lib.hid (show ¬ AllS (.mk kind name (.mk ek en ename eA ec ekids) 0 xA xc blocks) from fun ha => q2 (hall ha).2.2)
          have e1 : ((blocks.length : Int) == 0) = false := beq_eq_false_iff_ne.2 (by omega)
          clear hall q2
          rcases k12 with rfl | rfl
          all_goals
            go_wp2_with (go_at_call 78; (refine (isName_any _ _).mono ?_; rintro E w2 ⟨rfl, hbw⟩; rw [decide_eq_true Hnm.out]; have hx2 := HX.out.below hbw hbx; have y6 := hx2.cell 6; have y7 := hx2.cell 7; simp [StatR.cells, StatR.n, StatR.bA, StatR.bc, StatR.blocks] at y6 y7; have Hbw := Lib.hid hbw; clear hbw hx2))
            go_meet
            case rel => exact ⟨false, n + 1, max d lev, rfl, H1.out.1.below Hbw.out (by have := H1.out.1.lt; omega), gb_below H1.out.2 Hbw.out, HX.out.below Hbw.out HX.out.lt, SawH.bare (by omega) hd (fun ha => absurd ha Hno.out) fun hb => by cases hb⟩

        obtain rfl := List.eq_nil_of_length_eq_zero q2
        have Hok := Lib.hid (show okS (.mk kind name (.mk ek en ename eA ec ekids) 0 xA xc []) from .inl ⟨k12, Hnm.out, rfl, rfl⟩)
        clear hall q2
        rcases k12 with rfl | rfl
        all_goals
          go_wp2_with (first
            | (go_at_call 78; (refine (isName_any _ _).mono ?_; rintro E w2 ⟨rfl, hbw⟩; rw [decide_eq_true Hnm.out]; have hx2 := HX.out.below hbw hbx; have y2 := hx2.cell 2; have y3 := hx2.cell 3; have y4 := hx2.cell 4; have y5 := hx2.cell 5; have y6 := hx2.cell 6; have y7 := hx2.cell 7; simp [StatR.cells, StatR.n, StatR.bA, StatR.bc, StatR.blocks, StatR.e, ExprR.kind, ExprR.n, ExprR.name, ExprR.sA, ExprR.sc, ExprR.kids] at y2 y3 y4 y5 y6 y7; have Hbw := Lib.hid hbw; clear hbw hx2))
            | (go_at_call 53; (
               refine (expr_any r (.mk ek en ename eA ec ekids) _ B g (n + 1) (max d lev) (lev + 1) (HR.out.e.keep fun p hp => (Hbw.out.cell (by omega)).trans (gb_cell H1.out.2 (by omega) hlt)) hB (H1.out.1.below Hbw.out hgc) (by omega) (by omega) (by omega) (by have := Hn.out; rw [StatR.nodes_eq] at this; simp only [StatR.e] at this; omega)).mono ?_
               rintro E w3 ⟨b1, n2, d2, rfl, hS2, hg2, hs2⟩
               have H4 := Lib.hid (And.intro hS2 (And.intro hg2 hs2)); clear hS2 hg2 hs2)))
          go_meet
          case rel => exact ⟨b1, n2, d2, rfl, H4.out.1, gb_trans (gb_below H1.out.2 Hbw.out) H4.out.2.1, (HX.out.below Hbw.out hbx).grown H4.out.2.1 (by simpa using hgx), SawH.ofE (by omega) hk3 Hok.out H4.out.2.2⟩
      by_cases k3 : kind = 3
      · subst k3
        have hall : AllS (.mk 3 name (.mk ek en ename eA ec ekids) xn xA xc blocks) → name.toList = [] ∧ xn = 0 ∧ (blocks.length = 1 ∨ blocks.length = 2) := fun ha => by
          rcases ha.ok with h | h | h | h
          · have := h.1; simp [StatR.kind] at this
          · exact ⟨size_zero.1 h.2.1, h.2.2.1, by have := h.2.2.2; simp only [StatR.blocks] at this; omega⟩
          all_goals have := h.1; simp [StatR.kind] at this
        clear k12
        by_cases q1 : name.toList = []
        rotate_left
        · have Hno := Lib.hid (show ¬ AllS (.mk 3 name (.mk ek en ename eA ec ekids) xn xA xc blocks) from fun ha => q1 (hall ha).1)
          have e1 : name.toList.isEmpty = false := by simpa using q1
          clear hall
          go_wp2_with fail
          go_meet
          case rel => exact ⟨false, n + 1, max d lev, rfl, H1.out.1, H1.out.2, HX.out, SawH.bare (by omega) hd (fun ha => absurd ha Hno.out) fun hb => by cases hb⟩

        by_cases q2 : xn = 0
        rotate_left
        · have Hno := Lib.hid (show ¬ AllS (.mk 3 name (.mk ek en ename eA ec ekids) xn xA xc blocks) from fun ha => q2 (hall ha).2.1)
          have e1 : (xn == 0) = false := beq_eq_false_iff_ne.2 q2
          clear hall q2
          go_wp2_with fail
          go_meet
          case rel => exact ⟨false, n + 1, max d lev, rfl, H1.out.1, H1.out.2, HX.out, SawH.bare (by omega) hd (fun ha => absurd ha Hno.out) fun hb => by cases hb⟩

        subst q2
        by_cases q3 : blocks.length = 1 ∨ blocks.length = 2
        rotate_left
        · have Hno := Lib.hid (show ¬ AllS (.mk 3 name (.mk ek en ename eA ec ekids) 0 xA xc blocks) from fun ha => q3 (hall ha).2.2)
          have e1 : ((blocks.length : Int) == 1) = false := beq_eq_false_iff_ne.2 (by omega)
          have e2 : ((blocks.length : Int) == 2) = false := beq_eq_false_iff_ne.2 (by omega)
          clear hall q3
          go_wp2_with fail
          go_meet
          case rel => exact ⟨false, n + 1, max d lev, rfl, H1.out.1, H1.out.2, HX.out, SawH.bare (by omega) hd (fun ha => absurd ha Hno.out) fun hb => by cases hb⟩

        have Hok := Lib.hid (show okS (.mk 3 name (.mk ek en ename eA ec ekids) 0 xA xc blocks) from .inr (.inl ⟨rfl, size_zero.2 q1, rfl, by simp only [StatR.blocks]; omega, by simp only [StatR.blocks]; omega⟩))
        clear hall
        have q4 : (((blocks.length : Int) == 1) = true) ∨ (((blocks.length : Int) == 1) = false ∧ ((blocks.length : Int) == 2) = true) := by
          rcases q3 with h | h
          · exact .inl (by rw [h]; rfl)
          · exact .inr ⟨by rw [h]; rfl, by rw [h]; rfl⟩
        clear q3
        rcases q4 with q4 | ⟨q4, q5⟩
        all_goals
          go_wp2_with (go_at_call 53; (
            refine (expr_any r (.mk ek en ename eA ec ekids) _ B g (n + 1) (max d lev) (lev + 1) (HR.out.e.keep fun p hp => gb_cell H1.out.2 (by omega) hlt) hB H1.out.1 (by omega) (by omega) (by omega) (by have := Hn.out; rw [StatR.nodes_eq] at this; simp only [StatR.e] at this; omega)).mono ?_
            rintro E w3 ⟨b1, n2, d2, rfl, hS2, hg2, hs2⟩
            have H4 := Lib.hid (And.intro hS2 (And.intro hg2 hs2)); clear hS2 hg2 hs2))
          go_meet
          case rel => exact ⟨b1, n2, d2, rfl, H4.out.1, gb_trans H1.out.2 H4.out.2.1, HX.out.grown H4.out.2.1 (by simpa using hgx), SawH.ofE (by omega) (by simp [StatR.kind]) Hok.out H4.out.2.2⟩
      by_cases k4 : kind = 4
      · subst k4
        have hall : AllS (.mk 4 name (.mk ek en ename eA ec ekids) xn xA xc blocks) → name.toList = [] ∧ (0 ≤ xn ∧ xn ≤ 1000 ∧ blocks.length = 1) ∧ noneE (.mk ek en ename eA ec ekids) := fun ha => by
          rcases ha.ok with h | h | h | h
          · have := h.1; simp [StatR.kind] at this
          · have := h.1; simp [StatR.kind] at this
          · exact ⟨size_zero.1 h.2.1, ⟨h.2.2.1, h.2.2.2.1, h.2.2.2.2.1⟩, h.2.2.2.2.2⟩
          · have := h.1; simp [StatR.kind] at this
        clear k12
        by_cases q1 : name.toList = []
        rotate_left
        · have Hno := Lib.hid (show ¬ AllS (.mk 4 name (.mk ek en ename eA ec ekids) xn xA xc blocks) from fun ha => q1 (hall ha).1)
          have e1 : name.toList.isEmpty = false := by simpa using q1
          clear hall
          go_wp2_with fail
          go_meet
          case rel => exact ⟨false, n + 1, max d lev, rfl, H1.out.1, H1.out.2, HX.out, SawH.bare (by omega) hd (fun ha => absurd ha Hno.out) fun hb => by cases hb⟩
        by_cases q2 : 0 ≤ xn
        rotate_left
        · have Hno := Lib.hid (show ¬ AllS (.mk 4 name (.mk ek en ename eA ec ekids) xn xA xc blocks) from fun ha => q2 (hall ha).2.1.1)
          have e1 : xn < 0 := by omega
          clear hall
          go_wp2_with fail
          go_meet
          case rel => exact ⟨false, n + 1, max d lev, rfl, H1.out.1, H1.out.2, HX.out, SawH.bare (by omega) hd (fun ha => absurd ha Hno.out) fun hb => by cases hb⟩
        have Q2 := Lib.hid q2
        by_cases q2 : xn ≤ 1000
        rotate_left
        · have Hno := Lib.hid (show ¬ AllS (.mk 4 name (.mk ek en ename eA ec ekids) xn xA xc blocks) from fun ha => q2 (hall ha).2.1.2.1)
          have e1 : 1000 < xn := by omega
          clear hall
          go_wp2_with fail
          go_meet
          case rel => exact ⟨false, n + 1, max d lev, rfl, H1.out.1, H1.out.2, HX.out, SawH.bare (by omega) hd (fun ha => absurd ha Hno.out) fun hb => by cases hb⟩
        have Q3 := Lib.hid q2
        by_cases q2 : blocks.length = 1
        rotate_left
        · have Hno := Lib.hid (show ¬ AllS (.mk 4 name (.mk ek en ename eA ec ekids) xn xA xc blocks) from fun ha => q2 (hall ha).2.1.2.2)
          have e1 : ((blocks.length : Int) == 1) = false := beq_eq_false_iff_ne.2 (by omega)
          clear hall
          go_wp2_with fail
          go_meet
          case rel => exact ⟨false, n + 1, max d lev, rfl, H1.out.1, H1.out.2, HX.out, SawH.bare (by omega) hd (fun ha => absurd ha Hno.out) fun hb => by cases hb⟩
        have e2 : ((blocks.length : Int) == 1) = true := by rw [q2]; rfl
        have Q4 := Lib.hid q2; clear q2
        by_cases hne : noneE (.mk ek en ename eA ec ekids)
        · have Hok := Lib.hid (show okS (.mk 4 name (.mk ek en ename eA ec ekids) xn xA xc blocks) from .inr (.inr (.inl ⟨rfl, size_zero.2 q1, Q2.out, Q3.out, Q4.out, hne⟩)))
          have Hne := Lib.hid hne; clear hne hall
          go_wp2_with (go_at_call 52; (refine (none_any _ (.mk ek en ename eA ec ekids)).mono ?_; rintro E w2 ⟨rfl, hbw⟩; rw [decide_eq_true Hne.out]; have Hbw := Lib.hid hbw; clear hbw))
          go_meet
          case rel => exact ⟨true, n + 1, max d lev, rfl, H1.out.1.below Hbw.out (by have := H1.out.1.lt; omega), gb_below H1.out.2 Hbw.out, HX.out.below Hbw.out HX.out.lt, SawH.bare (by omega) hd (fun ha => ⟨rfl, by simp [StatR.kind]⟩) fun hb => ⟨Hok.out, by simp [StatR.kind]⟩⟩
        · have Hno := Lib.hid (show ¬ AllS (.mk 4 name (.mk ek en ename eA ec ekids) xn xA xc blocks) from fun ha => hne (hall ha).2.2)
          have Hne := Lib.hid hne; clear hne hall
          go_wp2_with (go_at_call 52; (refine (none_any _ (.mk ek en ename eA ec ekids)).mono ?_; rintro E w2 ⟨rfl, hbw⟩; rw [decide_eq_false Hne.out]; have Hbw := Lib.hid hbw; clear hbw))
          go_meet
          case rel => exact ⟨false, n + 1, max d lev, rfl, H1.out.1.below Hbw.out (by have := H1.out.1.lt; omega), gb_below H1.out.2 Hbw.out, HX.out.below Hbw.out HX.out.lt, SawH.bare (by omega) hd (fun ha => absurd ha Hno.out) fun hb => by cases hb⟩
      by_cases k5 : kind = 5
      · subst k5
        have hall : AllS (.mk 5 name (.mk ek en ename eA ec ekids) xn xA xc blocks) → name.toList = [] ∧ (xn = 0 ∧ 1 ≤ blocks.length ∧ blocks.length ≤ 8) ∧ noneE (.mk ek en ename eA ec ekids) := fun ha => by
          rcases ha.ok with h | h | h | h
          · have := h.1; simp [StatR.kind] at this
          · have := h.1; simp [StatR.kind] at this
          · have := h.1; simp [StatR.kind] at this
          · exact ⟨size_zero.1 h.2.1, ⟨h.2.2.1, h.2.2.2.1, h.2.2.2.2.1⟩, h.2.2.2.2.2⟩
        clear k12
        by_cases q1 : name.toList = []
        rotate_left
        · have Hno := Lib.hid (show ¬ AllS (.mk 5 name (.mk ek en ename eA ec ekids) xn xA xc blocks) from fun ha => q1 (hall ha).1)
          have e1 : name.toList.isEmpty = false := by simpa using q1
          clear hall
          go_wp2_with fail
          go_meet
          case rel => exact ⟨false, n + 1, max d lev, rfl, H1.out.1, H1.out.2, HX.out, SawH.bare (by omega) hd (fun ha => absurd ha Hno.out) fun hb => by cases hb⟩
        by_cases q2 : xn = 0
        rotate_left
        · have Hno := Lib.hid (show ¬ AllS (.mk 5 name (.mk ek en ename eA ec ekids) xn xA xc blocks) from fun ha => q2 (hall ha).2.1.1)
          have e1 : (xn == 0) = false := beq_eq_false_iff_ne.2 q2
          clear hall
          go_wp2_with fail
          go_meet
          case rel => exact ⟨false, n + 1, max d lev, rfl, H1.out.1, H1.out.2, HX.out, SawH.bare (by omega) hd (fun ha => absurd ha Hno.out) fun hb => by cases hb⟩
        have e0 : (xn == 0) = true := by rw [q2]; rfl
        have Q2 := Lib.hid q2; clear q2
        by_cases q2 : 1 ≤ blocks.length
        rotate_left
        · have Hno := Lib.hid (show ¬ AllS (.mk 5 name (.mk ek en ename eA ec ekids) xn xA xc blocks) from fun ha => q2 (hall ha).2.1.2.1)
          have e1 : (blocks.length : Int) < 1 := by omega
          clear hall
          go_wp2_with fail
          go_meet
          case rel => exact ⟨false, n + 1, max d lev, rfl, H1.out.1, H1.out.2, HX.out, SawH.bare (by omega) hd (fun ha => absurd ha Hno.out) fun hb => by cases hb⟩
        have e3 : (1 : Int) ≤ blocks.length := by omega
        have Q3 := Lib.hid q2; clear q2
        by_cases q2 : blocks.length ≤ 8
        rotate_left
        · have Hno := Lib.hid (show ¬ AllS (.mk 5 name (.mk ek en ename eA ec ekids) xn xA xc blocks) from fun ha => q2 (hall ha).2.1.2.2)
          have e1 : (8 : Int) < blocks.length := by omega
          clear hall
          go_wp2_with fail
          go_meet
          case rel => exact ⟨false, n + 1, max d lev, rfl, H1.out.1, H1.out.2, HX.out, SawH.bare (by omega) hd (fun ha => absurd ha Hno.out) fun hb => by cases hb⟩
        have e4 : (blocks.length : Int) ≤ 8 := by omega
        have Q4 := Lib.hid q2; clear q2
        by_cases hne : noneE (.mk ek en ename eA ec ekids)
        · have Hok := Lib.hid (show okS (.mk 5 name (.mk ek en ename eA ec ekids) xn xA xc blocks) from .inr (.inr (.inr ⟨rfl, size_zero.2 q1, Q2.out, Q3.out, Q4.out, hne⟩)))
          have Hne := Lib.hid hne; clear hne hall
          go_wp2_with (go_at_call 52; (refine (none_any _ (.mk ek en ename eA ec ekids)).mono ?_; rintro E w2 ⟨rfl, hbw⟩; rw [decide_eq_true Hne.out]; have Hbw := Lib.hid hbw; clear hbw))
          go_meet
          case rel => exact ⟨true, n + 1, max d lev, rfl, H1.out.1.below Hbw.out (by have := H1.out.1.lt; omega), gb_below H1.out.2 Hbw.out, HX.out.below Hbw.out HX.out.lt, SawH.bare (by omega) hd (fun ha => ⟨rfl, by simp [StatR.kind]⟩) fun hb => ⟨Hok.out, by simp [StatR.kind]⟩⟩
        · have Hno := Lib.hid (show ¬ AllS (.mk 5 name (.mk ek en ename eA ec ekids) xn xA xc blocks) from fun ha => hne (hall ha).2.2)
          have Hne := Lib.hid hne; clear hne hall
          go_wp2_with (go_at_call 52; (refine (none_any _ (.mk ek en ename eA ec ekids)).mono ?_; rintro E w2 ⟨rfl, hbw⟩; rw [decide_eq_false Hne.out]; have Hbw := Lib.hid hbw; clear hbw))
          go_meet
          case rel => exact ⟨false, n + 1, max d lev, rfl, H1.out.1.below Hbw.out (by have := H1.out.1.lt; omega), gb_below H1.out.2 Hbw.out, HX.out.below Hbw.out HX.out.lt, SawH.bare (by omega) hd (fun ha => absurd ha Hno.out) fun hb => by cases hb⟩
      have Hno := Lib.hid (show ¬ AllS (.mk kind name (.mk ek en ename eA ec ekids) xn xA xc blocks) from fun ha => by
        rcases ha.ok with h | h | h | h <;> (have := h.1; simp only [StatR.kind] at this; omega))
      have e1 : (kind == 1) = false := beq_eq_false_iff_ne.2 (by omega)
      have e2 : (kind == 2) = false := beq_eq_false_iff_ne.2 (by omega)
      have e3 : (kind == 3) = false := beq_eq_false_iff_ne.2 k3
      have e4 : (kind == 4) = false := beq_eq_false_iff_ne.2 k4
      have e5 : (kind == 5) = false := beq_eq_false_iff_ne.2 k5
      clear k12 k3 k4 k5
      go_wp2_with fail
      go_meet
      case rel => exact ⟨false, n + 1, max d lev, rfl, H1.out.1, H1.out.2, HX.out, SawH.bare (by omega) hd (fun ha => absurd ha Hno.out) fun hb => by cases hb⟩
    case rest =>
      obtain ⟨b, n1, d1, rfl, hS1, hg1, hx1, hw1⟩ := hcut
      have y7 := hx1.cell 7
      simp [StatR.cells, StatR.bA, StatR.bc, StatR.blocks] at y7
      have hnb : ∀ q (h : q < blocks.length) n1 d1 b', SawH (.mk kind name (.mk ek en ename eA ec ekids) xn xA xc blocks) lev n d b' n1 d1 q → n1 + nodesS blocks[q].l ≤ 1099511627776 := fun q h n1 d1 b' hw => by
        have h1 := nodesB_take blocks (q + 1)
        rw [take_snocA h, nodesB_append] at h1
        simp only [nodesB, BlockR.nodes_eq] at h1
        have := hw.up
        have := Hn.out
        rw [StatR.nodes_eq] at this
        simp only [StatR.blocks, StatR.e] at *
        omega
      have H2 := Lib.hid (And.intro hS1 (And.intro hg1 (And.intro hx1 (And.intro hw1 hnb)))); clear hS1 hg1 hx1 hw1 hnb
      clear x0 x1 x2 x3 x4 x5 x6 x7 c0 c1 f0 f1
      go_wp2_with fail
      go_loopg [7, 141] blocks.length (fun gk s7 i wr => ∃ (q : Nat) (b : Bool) (n1 d1 : Nat), gk + q = blocks.length ∧ s7 = .bool b ∧ i = .int .i64 q ∧ SizeAt wr g n1 d1 ∧ w.grownBy wr (some g) ∧ SawH (.mk kind name (.mk ek en ename eA ec ekids) xn xA xc blocks) lev n d b n1 d1 q)
      case atStart => exact ⟨0, b, n1, d1, by omega, rfl, rfl, H2.out.1, H2.out.2.1, H2.out.2.2.2.1⟩
      case round =>
        have Hnb := Lib.hid H2.out.2.2.2.2; clear H2 y7
        clear b n1 d1
        obtain ⟨q, b, n1, d1, hgq, rfl, rfl, hS1, hg1, hw1⟩ := hrel
        have hfit := HR.out.fits
        unfold Fits at hfit
        simp only [StatR.blocks] at hfit
        by_cases hq : q < blocks.length
        · obtain ⟨bb, o, e0, hbB, hx⟩ := HR.out.row.at_ (i := q) hq
          simp only [StatR.bA, StatR.blocks] at e0 hx
          subst e0
          have hk : ∀ p : Addr, p.block < B → wr.cell? p = w.cell? p := fun p hp => gb_cell hg1 (by omega) hlt
          have hx := (hk _ hbB).trans hx
          have hRb := (HR.out.block (b := blocks[q]) (List.getElem_mem hq)).keep hk
          have hnk := Hnb.out q hq n1 d1 b hw1
          have hnx := fun (b' : Bool) n2 d2 (hbt : b = true) h => SawH.next (b := b') (n2 := n2) (d2 := d2) hl (by omega) hq (hbt ▸ hw1) h
          have hsk := fun (hbf : b = false) => SawH.skip hq (hbf ▸ hw1)
          have hd1 := hw1.deep.2
          obtain ⟨k, hke⟩ : ∃ k, blocks[q] = k := ⟨_, rfl⟩
          simp only [StatR.blocks] at hnx hsk
          rw [hke] at hx hRb hnk hnx
          obtain ⟨kA, kc, kl⟩ := k
          simp only [BlockR.val, BlockR.A, BlockR.l, BlockR.c] at hx hnk
          have hz := hg1.size
          have H3 := Lib.hid (And.intro hS1 (And.intro hg1 (And.intro hRb (And.intro hnx hsk)))); clear hS1 hg1 hRb hnx hsk hk hw1 hke
          cases b with
          | false =>
            go_wp2_with fail
            go_roundg (gk - 1)
            case measure => omega
            case rel => exact ⟨q + 1, false, n1, d1, by omega, rfl, by go_num, H3.out.1, H3.out.2.1, H3.out.2.2.2.2 trivial⟩
          | true =>
            go_wp2_with (go_at_call 32; (
              refine (Hb.out (.mk kA kc kl) _ B g n1 d1 (lev + 1) H3.out.2.2.1 hB H3.out.1 (by omega) (by omega) hd1 hnk).mono ?_
              rintro E w2 ⟨b1, n2, d2, rfl, hS2, hg2, hs2⟩
              have H4 := Lib.hid (And.intro hS2 (And.intro (gb_trans H3.out.2.1 hg2) hs2)); clear hS2 hg2 hs2))
            go_roundg (gk - 1)
            case measure => omega
            case rel => exact ⟨q + 1, b1, n2, d2, by omega, rfl, by go_num, H4.out.1, H4.out.2.1, H3.out.2.2.2.1 b1 n2 d2 trivial H4.out.2.2⟩
        · have hend := hw1.end_ hl (by simp only [StatR.blocks]; omega)
          have H3 := Lib.hid (And.intro hS1 (And.intro hg1 hend)); clear hS1 hg1 hend hw1
          go_wp2_with fail
          go_ret
          exact ⟨_, _, _, rfl, H3.out.1, H3.out.2.1, H3.out.2.2⟩
theorem stat_any : ∀ r, StatC r
  | 0 => stat_zero
  | r + 1 => stat_succ r (block_of r (stat_any r))
theorem block_any (r : Nat) : BlockC r := block_of r (stat_any r)
end Go.Proofs.YtgiceeholamphaaDoor

