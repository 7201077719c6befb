/- The contracts of stepref.Between, stepref.bare, stepref.Program: 0, 1, 2. No conditions but that what is read is there, and that it can be counted. -/
import Derived.Test.YtgiceeholamphaaDoorChk
import Derived.Test.YtgiceeholamphaaDoorPrL
import Derived.BigQuiet
namespace Go.Proofs.YtgiceeholamphaaDoor
open Go.ChangeShapes Go.WideShapes Go.ChangeAt Go.RowKit

def betB (lo hi n : Int) : Bool := decide (lo ≤ n ∧ n ≤ hi)
theorem between_any (w : World) (n lo hi : Int) : Calls Tryd.prog 17 #[.int .i64 n, .int .i64 lo, .int .i64 hi] w fun E w' => E = .returned (.bool (betB lo hi n)) ∧ w = w' := by
  have key : ∀ b, b = betB lo hi n → Hid (b = betB lo hi n) := fun _ h => Lib.hid h
  by_cases h1 : lo ≤ n
  · by_cases h2 : n ≤ hi
    · have H := key true (decide_eq_true ⟨h1, h2⟩).symm
      clear key
      go_enter Tryd.func17, Tryd.ntmps17
      go_wp2_with fail
      go_ret
      exact ⟨by rw [← H.out]; rfl, rfl⟩
    · have H := key false (decide_eq_false fun h => h2 h.2).symm
      clear key
      go_enter Tryd.func17, Tryd.ntmps17
      go_wp2_with fail
      go_ret
      exact ⟨by rw [← H.out]; rfl, rfl⟩
  · have H := key false (decide_eq_false fun h => h1 h.1).symm
    clear key
    go_enter Tryd.func17, Tryd.ntmps17
    go_wp2_with fail
    go_ret
    exact ⟨by rw [← H.out]; rfl, rfl⟩
theorem between_same (w : World) (n lo hi : Int) : Calls Tryd.prog 17 #[.int .i64 n, .int .i64 lo, .int .i64 hi] w fun E w' => E = .returned (.bool (betB lo hi n)) ∧ w' = w :=
  (between_any w n lo hi).mono fun _ _ ⟨h1, h2⟩ => ⟨h1, h2.symm⟩
theorem between_yes (w : World) {n lo hi : Int} (h : lo ≤ n ∧ n ≤ hi) : Calls Tryd.prog 17 #[.int .i64 n, .int .i64 lo, .int .i64 hi] w fun E w' => E = .returned (.bool true) ∧ w' = w :=
  (between_any w n lo hi).mono fun _ _ ⟨h1, h2⟩ => ⟨by rw [h1, show betB lo hi n = true from decide_eq_true h], h2.symm⟩
theorem between_no (w : World) {n lo hi : Int} (h : ¬ (lo ≤ n ∧ n ≤ hi)) : Calls Tryd.prog 17 #[.int .i64 n, .int .i64 lo, .int .i64 hi] w fun E w' => E = .returned (.bool false) ∧ w' = w :=
  (between_any w n lo hi).mono fun _ _ ⟨h1, h2⟩ => ⟨by rw [h1, show betB lo hi n = false from decide_eq_false h], h2.symm⟩
set_option maxRecDepth 100000 in
theorem bare_any (w : World) (e : ExprR) : Calls Tryd.prog 19 #[e.val] w fun E w' => E = .returned (.bool (decide (noneE e))) ∧ Below w.heap.size w w' := by
  obtain ⟨kind, n, name, sA, sc, kids⟩ := e
  show Calls Tryd.prog 19 #[.agg #[.int .i64 kind, .int .i64 n, .string name, .slice sA kids.length sc]] w _
  have key : ∀ b, b = decide (noneE (.mk kind n name sA sc kids)) → Hid (b = decide (noneE (.mk kind n name sA sc kids))) := fun _ h => Lib.hid h
  by_cases k1 : kind = 0
  rotate_left
  · have H := key false (decide_eq_false fun h => k1 h.1).symm
    have k1' : (kind == 0) = false := beq_eq_false_iff_ne.2 k1
    clear k1 key
    go_enter Tryd.func19, Tryd.ntmps19
    go_wp2_with fail
    go_ret
    exact ⟨by rw [← H.out]; rfl, (Below.refl _ _).alloc (Nat.le_refl _) _⟩
  by_cases k2 : n = 0
  rotate_left
  · have H := key false (decide_eq_false fun h => k2 h.2.1).symm
    have k2' : (n == 0) = false := beq_eq_false_iff_ne.2 k2
    clear k2 key
    subst k1
    go_enter Tryd.func19, Tryd.ntmps19
    go_wp2_with fail
    go_ret
    exact ⟨by rw [← H.out]; rfl, (Below.refl _ _).alloc (Nat.le_refl _) _⟩
  by_cases k3 : name.toList = []
  rotate_left
  · have k3' : name.toList.isEmpty = false := by simpa using k3
    have H := key false (decide_eq_false fun h => k3 (size_zero.1 h.2.2.1)).symm
    clear key
    subst k1 k2
    go_enter Tryd.func19, Tryd.ntmps19
    go_wp2_with fail
    go_ret
    exact ⟨by rw [← H.out]; rfl, (Below.refl _ _).alloc (Nat.le_refl _) _⟩
  have H := key (((kids.length : Int)) == 0) (by
    rw [Bool.eq_iff_iff, beq_iff_eq, decide_eq_true_iff]
    exact ⟨fun h => ⟨k1, k2, size_zero.2 k3, by show kids.length = 0; omega⟩, fun h => by have : kids.length = 0 := h.2.2.2; omega⟩)
  clear key
  subst k1 k2
  go_enter Tryd.func19, Tryd.ntmps19
  go_wp2_with fail
  go_ret
  exact ⟨by rw [← H.out]; first | rfl | simp, (Below.refl _ _).alloc (Nat.le_refl _) _⟩

/-- A depth's lists as they lie: read, not written. -/
structure LevAt (w wr : World) (B : Nat) (L S : List StatR) (E : List ExprR) (A3 A4 : Option Addr) (n d : Nat) (lg : Bool) (gk : Nat) : Prop where
  r3 : RowS wr wr.heap.size A3 S
  r4 : RowE wr wr.heap.size A4 E
  rd : ∀ x ∈ S, RdS w B x
  re : ∀ e ∈ E, RdE w B e
  below : Below w.heap.size w wr
  room : n + (nodesS S + nodesE E) ≤ 1048576
  deep : d + gk ≤ 1048577
  gas : nodesS S + nodesE E ≤ gk
  lev : Lev L S E n d lg
structure LevA (wl wr : World) (S : List StatR) (i : Nat) (v8 v9 : Value) : Prop where
  o8 : wr.ownsRow wl.heap.size 49 8 v8 (nextS (S.take i)).length (cellsS (nextS (S.take i)))
  o9 : wr.ownsRow wl.heap.size 46 4 v9 (moreS (S.take i)).length (cellsE (moreS (S.take i)))
  apart : ∀ g, v8.ownBlock = some g → v9.ownBlock ≠ some g
  below : Below wl.heap.size wl wr
  ok : ∀ x ∈ S.take i, okS x
structure LevB (wl wr : World) (S : List StatR) (E : List ExprR) (i : Nat) (v8 v9 : Value) : Prop where
  o8 : wr.ownsRow wl.heap.size 49 8 v8 (nextS S).length (cellsS (nextS S))
  o9 : wr.ownsRow wl.heap.size 46 4 v9 (moreS S ++ kidsE (E.take i)).length (cellsE (moreS S ++ kidsE (E.take i)))
  apart : ∀ g, v8.ownBlock = some g → v9.ownBlock ≠ some g
  below : Below wl.heap.size wl wr
  ok : ∀ x ∈ E.take i, okE x
theorem LevA.drewN {wl wr : World} {S : List StatR} {i : Nat} {v8 v9 : Value} (h : LevA wl wr S i v8 v9) (n : Nat) : LevA wl (wr.drewN n) S i v8 v9 := ⟨h.o8, h.o9, h.apart, ⟨h.below.os, h.below.tape, h.below.output, h.below.size, h.below.block⟩, h.ok⟩
theorem LevA.below_ {wl wr w2 : World} {S : List StatR} {i : Nat} {v8 v9 : Value} (h : LevA wl wr S i v8 v9) (hb : Below wr.heap.size wr w2) : LevA wl w2 S i v8 v9 :=
  ⟨own_below h.o8 hb, own_below h.o9 hb, h.apart, h.below.trans (hb.mono h.below.size), h.ok⟩
theorem LevA.alloc {wl wr : World} {S : List StatR} {i : Nat} {v8 v9 : Value} (h : LevA wl wr S i v8 v9) (o : Obj) : LevA wl (wr.alloc o) S i v8 v9 := h.below_ ((Below.refl _ _).alloc (Nat.le_refl _) _)
theorem arr_boxes {wr W3 : World} {c1 c2 c3 : List Value} {t u : TypeId} (h : ((wr.alloc (.cells c1.toArray t)).alloc (.cells c2.toArray u)).alloc (.cells c3.toArray u) = W3) :
    Below wr.heap.size wr W3 ∧ W3.heap.size = wr.heap.size + 3 ∧ Blk W3 wr.heap.size t c1 ∧ Blk W3 (wr.heap.size + 1) u c2 ∧ Blk W3 (wr.heap.size + 1 + 1) u c3 := by
  subst h
  refine ⟨(((Below.refl _ _).alloc (Nat.le_refl _) _).alloc (by simp) _).alloc (by simp; omega) _, by simp, ((Blk.new _ _ _).alloc _).alloc _, ?_, ?_⟩
  · refine Blk.alloc ?_ _
    have h := Blk.new (wr.alloc (.cells c1.toArray t)) u c2
    rwa [show (wr.alloc (.cells c1.toArray t)).heap.size = wr.heap.size + 1 by simp] at h
  · have h := Blk.new ((wr.alloc (.cells c1.toArray t)).alloc (.cells c2.toArray u)) u c3
    rwa [show ((wr.alloc (.cells c1.toArray t)).alloc (.cells c2.toArray u)).heap.size = wr.heap.size + 1 + 1 by simp] at h
def ProgPost (l : List StatR) (w : World) (E : Ending) (w' : World) : Prop := E = .returned (.int .i64 (wrong l)) ∧ Below w.heap.size w w'
set_option maxRecDepth 100000 in
set_option maxHeartbeats 4000000 in
theorem program_any (k : BlockR) (w : World) (B : Nat) (hR : RdB w B k) (hB : B ≤ w.heap.size) (hn : nodesS k.l ≤ 1048576) :
    Calls Tryd.prog 7 #[k.val] w (ProgPost k.l w) := by
  obtain ⟨iE, hi0, hz0, hz1, hz2⟩ := info_parts info_expr
  have HiE := Lib.hid (And.intro hi0 (And.intro hz0 (And.intro hz1 hz2))); clear hi0 hz0 hz1 hz2
  obtain ⟨iS, hi0, hz0, hz1, hz2⟩ := info_parts info_stat
  have HiS := Lib.hid (And.intro hi0 (And.intro hz0 (And.intro hz1 hz2))); clear hi0 hz0 hz1 hz2
  obtain ⟨A, c, L⟩ := k
  simp only [BlockR.l] at hn
  have HR := Lib.hid (And.intro hR hn); clear hR hn
  show Calls Tryd.prog 7 #[.slice A L.length c] w _
  go_enter Tryd.func7, Tryd.ntmps7
  go_wp2_with fail
  go_loopg [3, 4, 5, 6, 7] 1048576 (fun gk v3 v4 v5 v6 v7 wr => ∃ (S : List StatR) (E : List ExprR) (A3 A4 : Option Addr) (c3 c4 n d : Nat) (lg : Bool), v3 = .slice A3 S.length c3 ∧ v4 = .slice A4 E.length c4 ∧ v5 = .int .i64 n ∧ v6 = .int .i64 d ∧ v7 = .bool lg ∧ LevAt w wr B L S E A3 A4 n d lg gk)
  case atStart =>
    refine ⟨L, [], A, none, c, 0, 0, 0, false, rfl, rfl, rfl, rfl, rfl, ?_⟩
    exact ⟨HR.out.1.row.more hB, RowE.nil _ _ _, HR.out.1.each, (fun e he => by cases he), Below.refl _ _, by have := HR.out.2; simp only [nodesE]; omega, by omega, by have := HR.out.2; simp only [nodesE]; omega, Lev.start L⟩
  case round =>
    obtain ⟨S, E, A3, A4, c3, c4, n, d, lg, rfl, rfl, rfl, rfl, rfl, hl⟩ := hrel
    have hlS := length_leS S
    have hlE := length_leE E
    have hrm := hl.room
    have hdp := hl.deep
    by_cases hp : S.length + E.length = 0
    · obtain rfl : S = [] := List.eq_nil_of_length_eq_zero (by omega)
      obtain rfl : E = [] := List.eq_nil_of_length_eq_zero (by omega)
      have HX := Lib.hid hl; clear hl hlS hlE
      cases lg
      all_goals
        go_wp2_with fail
        go_ret
        exact ⟨by rw [show wrong (BlockR.mk A c L).l = _ from HX.out.lev.wrong]; rfl, HX.out.below⟩
    · have hgk1 : 0 < gk := by have := hl.gas; omega
      have HX := Lib.hid hl; clear hl
      have hp1 : 0 < (S.length : Int) + E.length := by omega
      go_upto_region 8 with (fail)
      go_cut [7] (fun s7 wc => s7 = .bool (lg || decide (1000 < n + (S.length + E.length)) || decide (50 < d + 1)) ∧ wr = wc)
      case first => as_aux_lemma =>
        cases lg
        · by_cases h1 : 1000 < n + (S.length + E.length)
          · have h1i : (1000 : Int) < n + (S.length + E.length) := by omega
            go_wp2_with fail
            go_meet
            case rel => exact ⟨by simp [h1], rfl⟩
          · have h1i : ¬ (1000 : Int) < n + (S.length + E.length) := by omega
            by_cases h2 : 50 < d + 1
            · have h2i : (50 : Int) < (d : Int) + 1 := by omega
              go_wp2_with fail
              go_meet
              case rel => exact ⟨by simp [h2], rfl⟩
            · have h2i : ¬ (50 : Int) < (d : Int) + 1 := by omega
              go_wp2_with fail
              go_meet
              case rel => exact ⟨by simp [h1, h2], rfl⟩
        · go_wp2_with fail
          go_meet
          case rel => exact ⟨by simp, rfl⟩
      case rest =>
        obtain ⟨rfl, rfl⟩ := hcut
        generalize hlg : (lg || decide (1000 < n + (S.length + E.length)) || decide (50 < d + 1)) = lg'
        have Hlg := Lib.hid hlg; clear hlg
        obtain ⟨wl, rfl⟩ : ∃ wl : World, wl = wr := ⟨_, rfl⟩
        obtain ⟨gq, hgq⟩ : ∃ gq, gq = gk := ⟨_, rfl⟩
        have HG := Lib.hid hgq; clear hgq
        go_wp2_with fail
        go_loopg [8, 9, 10] S.length (fun gk v8 v9 i wr => ∃ q : Nat, gk + q = S.length ∧ i = .int .i64 q ∧ LevA wl wr S q v8 v9)
        case atStart => exact ⟨0, by omega, rfl, ⟨rfl, .inl ⟨rfl, rfl⟩⟩, ⟨rfl, .inl ⟨rfl, rfl⟩⟩, (fun g h => by cases h), Below.refl _ _, fun x hx => by cases hx⟩
        case round =>
          obtain ⟨q, hgq, rfl, hla⟩ := hrel
          by_cases hq : q < S.length
          · have hz := hla.below.size
            obtain ⟨b, o, rfl, hbB, hx⟩ := (HX.out.r3.keep fun p hp => hla.below.cell hp).at_ (i := q) hq
            have hrd := HX.out.rd _ (List.getElem_mem hq)
            obtain ⟨x, hxe⟩ : ∃ x, S[q] = x := ⟨_, rfl⟩
            rw [hxe] at hx hrd
            have Hxe := Lib.hid hxe; clear hxe
            have HA := Lib.hid hla; clear hla
            have hbl : x.blocks.length ≤ 1048576 := hrd.fits
            have Hrd := Lib.hid hrd; clear hrd
            obtain ⟨kind, name, ⟨ek, en, ename, eA, ec, ekids⟩, xn, xA, xc, blocks⟩ := x
            obtain ⟨x0, x1, x2, x3, x4, x5, x6, x7⟩ := hx
            simp only [StatR.kind, StatR.name, StatR.e, StatR.n, StatR.bA, StatR.bc, StatR.blocks, ExprR.kind, ExprR.n, ExprR.name, ExprR.sA, ExprR.sc, ExprR.kids] at x0 x1 x2 x3 x4 x5 x6 x7 hbl
            have hbn : ¬ (b = wr.heap.size) := by omega
            go_upto_region 17 with (fail)
            generalize hW3 : ((wr.alloc (.cells #[.int .i64 kind, .string name, .int .i64 ek, .int .i64 en, .string ename, .slice eA ekids.length ec, .int .i64 xn, .slice xA blocks.length xc] 49)).alloc (.cells #[.int .i64 0, .int .i64 0, .int .i64 0, .int .i64 2, .int .i64 1, .int .i64 8] 50)).alloc (.cells #[.int .i64 0, .int .i64 0, .int .i64 0, .int .i64 1, .int .i64 1, .int .i64 1] 50) = W3
            obtain ⟨hb3, hz3, hx3, hq3, hm3⟩ := arr_boxes hW3
            clear x0 x1 x2 x3 x4 x5 x6 x7 hW3
            have HA3 := Lib.hid (HA.out.below_ hb3)
            go_cut [74] (fun s74 wc => s74 = .bool (!decide (look1 (.mk kind name (.mk ek en ename eA ec ekids) xn xA xc blocks))) ∧ LevA wl wc S q u8 u9 ∧ Blk wc wr.heap.size 49 (StatR.cells (.mk kind name (.mk ek en ename eA ec ekids) xn xA xc blocks)))
            case first => as_aux_lemma =>
              have y0 := hx3.cell 0
              have y7 := hx3.cell 7
              have a0 := hq3.cell 0
              have a1 := hq3.cell 1
              have a2 := hq3.cell 2
              have a3 := hq3.cell 3
              have a4 := hq3.cell 4
              have a5 := hq3.cell 5
              have b0 := hm3.cell 0
              have b1 := hm3.cell 1
              have b2 := hm3.cell 2
              have b3 := hm3.cell 3
              have b4 := hm3.cell 4
              have b5 := hm3.cell 5
              simp at y0 y7 a0 a1 a2 a3 a4 a5 b0 b1 b2 b3 b4 b5
              have Hx3 := Lib.hid hx3; clear hx3 hq3 hm3 hb3
              have key : ∀ b : Bool, (b = true ↔ look1 (.mk kind name (.mk ek en ename eA ec ekids) xn xA xc blocks)) → Hid ((!b) = !decide (look1 (.mk kind name (.mk ek en ename eA ec ekids) xn xA xc blocks))) := fun b h => Lib.hid (by congr 1; rw [Bool.eq_iff_iff, h, decide_eq_true_iff])
              by_cases hk : 1 ≤ kind ∧ kind ≤ 5
              rotate_left
              · have H4 := key false ⟨(fun h => by cases h), fun h => absurd ⟨h.1, h.2.1⟩ hk⟩
                have hB : betB 1 5 kind = false := decide_eq_false hk
                clear hk key
                go_quiet ((go_at_call 17; exact Calls.quiet_of_same (between_same _ _ _ _)))
                go_wp2_with fail
                go_meet
                case rel => exact ⟨by rw [← H4.out]; rfl, HA3.out.drewN _, Hx3.out⟩
              · have hk5 : kind = 1 ∨ kind = 2 ∨ kind = 3 ∨ kind = 4 ∨ kind = 5 := by omega
                clear hk
                rcases hk5 with rfl | rfl | rfl | rfl | rfl
                · by_cases h2 : (0 : Int) ≤ blocks.length ∧ (blocks.length : Int) ≤ 0
                  · have H4 := key true ⟨(fun _ => ⟨by simp [StatR.kind], by simp [StatR.kind], by simp only [StatR.kind, StatR.blocks]; omega, by simp only [StatR.kind, StatR.blocks]; omega, by simp only [StatR.kind, StatR.blocks]; omega, by simp only [StatR.kind, StatR.blocks]; omega⟩), fun _ => rfl⟩
                    have hB : betB 0 0 (blocks.length : Int) = true := decide_eq_true h2
                    have hB0 : betB 1 5 1 = true := by decide
                    clear h2 key
                    go_quiet ((go_at_call 17; exact Calls.quiet_of_same (between_same _ _ _ _)))
                    go_wp2_with fail
                    go_meet
                    case rel => exact ⟨by rw [← H4.out]; rfl, HA3.out.drewN _, Hx3.out⟩
                  · have H4 := key false ⟨(fun h => by cases h), fun h => by have := h.2.2.1 (by simp [StatR.kind]); simp only [StatR.blocks] at this; omega⟩
                    have hB : betB 0 0 (blocks.length : Int) = false := decide_eq_false h2
                    have hB0 : betB 1 5 1 = true := by decide
                    clear h2 key
                    go_quiet ((go_at_call 17; exact Calls.quiet_of_same (between_same _ _ _ _)))
                    go_wp2_with fail
                    go_meet
                    case rel => exact ⟨by rw [← H4.out]; rfl, HA3.out.drewN _, Hx3.out⟩
                · by_cases h2 : (0 : Int) ≤ blocks.length ∧ (blocks.length : Int) ≤ 0
                  · have H4 := key true ⟨(fun _ => ⟨by simp [StatR.kind], by simp [StatR.kind], by simp only [StatR.kind, StatR.blocks]; omega, by simp only [StatR.kind, StatR.blocks]; omega, by simp only [StatR.kind, StatR.blocks]; omega, by simp only [StatR.kind, StatR.blocks]; omega⟩), fun _ => rfl⟩
                    have hB : betB 0 0 (blocks.length : Int) = true := decide_eq_true h2
                    have hB0 : betB 1 5 2 = true := by decide
                    clear h2 key
                    go_quiet ((go_at_call 17; exact Calls.quiet_of_same (between_same _ _ _ _)))
                    go_wp2_with fail
                    go_meet
                    case rel => exact ⟨by rw [← H4.out]; rfl, HA3.out.drewN _, Hx3.out⟩
                  · have H4 := key false ⟨(fun h => by cases h), fun h => by have := h.2.2.1 (by simp [StatR.kind]); simp only [StatR.blocks] at this; omega⟩
                    have hB : betB 0 0 (blocks.length : Int) = false := decide_eq_false h2
                    have hB0 : betB 1 5 2 = true := by decide
                    clear h2 key
                    go_quiet ((go_at_call 17; exact Calls.quiet_of_same (between_same _ _ _ _)))
                    go_wp2_with fail
                    go_meet
                    case rel => exact ⟨by rw [← H4.out]; rfl, HA3.out.drewN _, Hx3.out⟩
                · by_cases h2 : (1 : Int) ≤ blocks.length ∧ (blocks.length : Int) ≤ 2
                  · have H4 := key true ⟨(fun _ => ⟨by simp [StatR.kind], by simp [StatR.kind], by simp only [StatR.kind, StatR.blocks]; omega, by simp only [StatR.kind, StatR.blocks]; omega, by simp only [StatR.kind, StatR.blocks]; omega, by simp only [StatR.kind, StatR.blocks]; omega⟩), fun _ => rfl⟩
                    have hB : betB 1 2 (blocks.length : Int) = true := decide_eq_true h2
                    have hB0 : betB 1 5 3 = true := by decide
                    clear h2 key
                    go_quiet ((go_at_call 17; exact Calls.quiet_of_same (between_same _ _ _ _)))
                    go_wp2_with fail
                    go_meet
                    case rel => exact ⟨by rw [← H4.out]; rfl, HA3.out.drewN _, Hx3.out⟩
                  · have H4 := key false ⟨(fun h => by cases h), fun h => by have := h.2.2.2.1 rfl; simp only [StatR.blocks] at this; omega⟩
                    have hB : betB 1 2 (blocks.length : Int) = false := decide_eq_false h2
                    have hB0 : betB 1 5 3 = true := by decide
                    clear h2 key
                    go_quiet ((go_at_call 17; exact Calls.quiet_of_same (between_same _ _ _ _)))
                    go_wp2_with fail
                    go_meet
                    case rel => exact ⟨by rw [← H4.out]; rfl, HA3.out.drewN _, Hx3.out⟩
                · by_cases h2 : (1 : Int) ≤ blocks.length ∧ (blocks.length : Int) ≤ 1
                  · have H4 := key true ⟨(fun _ => ⟨by simp [StatR.kind], by simp [StatR.kind], by simp only [StatR.kind, StatR.blocks]; omega, by simp only [StatR.kind, StatR.blocks]; omega, by simp only [StatR.kind, StatR.blocks]; omega, by simp only [StatR.kind, StatR.blocks]; omega⟩), fun _ => rfl⟩
                    have hB : betB 1 1 (blocks.length : Int) = true := decide_eq_true h2
                    have hB0 : betB 1 5 4 = true := by decide
                    clear h2 key
                    go_quiet ((go_at_call 17; exact Calls.quiet_of_same (between_same _ _ _ _)))
                    go_wp2_with fail
                    go_meet
                    case rel => exact ⟨by rw [← H4.out]; rfl, HA3.out.drewN _, Hx3.out⟩
                  · have H4 := key false ⟨(fun h => by cases h), fun h => by have := h.2.2.2.2.1 rfl; simp only [StatR.blocks] at this; omega⟩
                    have hB : betB 1 1 (blocks.length : Int) = false := decide_eq_false h2
                    have hB0 : betB 1 5 4 = true := by decide
                    clear h2 key
                    go_quiet ((go_at_call 17; exact Calls.quiet_of_same (between_same _ _ _ _)))
                    go_wp2_with fail
                    go_meet
                    case rel => exact ⟨by rw [← H4.out]; rfl, HA3.out.drewN _, Hx3.out⟩
                · by_cases h2 : (1 : Int) ≤ blocks.length ∧ (blocks.length : Int) ≤ 8
                  · have H4 := key true ⟨(fun _ => ⟨by simp [StatR.kind], by simp [StatR.kind], by simp only [StatR.kind, StatR.blocks]; omega, by simp only [StatR.kind, StatR.blocks]; omega, by simp only [StatR.kind, StatR.blocks]; omega, by simp only [StatR.kind, StatR.blocks]; omega⟩), fun _ => rfl⟩
                    have hB : betB 1 8 (blocks.length : Int) = true := decide_eq_true h2
                    have hB0 : betB 1 5 5 = true := by decide
                    clear h2 key
                    go_quiet ((go_at_call 17; exact Calls.quiet_of_same (between_same _ _ _ _)))
                    go_wp2_with fail
                    go_meet
                    case rel => exact ⟨by rw [← H4.out]; rfl, HA3.out.drewN _, Hx3.out⟩
                  · have H4 := key false ⟨(fun h => by cases h), fun h => by have := h.2.2.2.2.2 rfl; simp only [StatR.blocks] at this; omega⟩
                    have hB : betB 1 8 (blocks.length : Int) = false := decide_eq_false h2
                    have hB0 : betB 1 5 5 = true := by decide
                    clear h2 key
                    go_quiet ((go_at_call 17; exact Calls.quiet_of_same (between_same _ _ _ _)))
                    go_wp2_with fail
                    go_meet
                    case rel => exact ⟨by rw [← H4.out]; rfl, HA3.out.drewN _, Hx3.out⟩
            case rest =>
              obtain ⟨rfl, ha, hx⟩ := hcut
              have hbad : ¬ look1 (.mk kind name (.mk ek en ename eA ec ekids) xn xA xc blocks) → ¬ AllL L := fun h => HX.out.lev.bad (List.getElem_mem hq) (by rw [Hxe.out]; exact fun ho => h (looks.1 ho).1)
              by_cases hk1 : look1 (.mk kind name (.mk ek en ename eA ec ekids) xn xA xc blocks)
              rotate_left
              · rw [show (!decide (look1 (.mk kind name (.mk ek en ename eA ec ekids) xn xA xc blocks))) = true by simp [hk1]]
                have H4 := Lib.hid (And.intro (wrong_one (hbad hk1)) (HX.out.below.trans (ha.below.mono HX.out.below.size))); clear hbad hk1 ha hx
                go_wp2_with fail
                go_ret
                exact ⟨by rw [show wrong (BlockR.mk A c L).l = 1 from H4.out.1]; rfl, H4.out.2⟩
              rw [show (!decide (look1 (.mk kind name (.mk ek en ename eA ec ekids) xn xA xc blocks))) = false by simp [hk1]]
              have Hk1 := Lib.hid hk1; clear hk1 hbad
              have Ha := Lib.hid ha; clear ha
              have Hx := Lib.hid hx; clear hx
              obtain ⟨w1, rfl⟩ : ∃ w1 : World, w1 = wc := ⟨_, rfl⟩
              have y0 := Hx.out.cell 0
              have y1 := Hx.out.cell 1
              have y2 := Hx.out.cell 2
              have y3 := Hx.out.cell 3
              have y4 := Hx.out.cell 4
              have y5 := Hx.out.cell 5
              have y6 := Hx.out.cell 6
              have y7 := Hx.out.cell 7
              simp [StatR.cells, StatR.kind, StatR.name, StatR.e, StatR.n, StatR.bA, StatR.bc, StatR.blocks, ExprR.kind, ExprR.n, ExprR.name, ExprR.sA, ExprR.sc, ExprR.kids] at y0 y1 y2 y3 y4 y5 y6 y7
              clear hz3
              go_upto_region 19 with (fail)
              go_cut [14] (fun s14 wc => s14 = .bool (decide (kind ≤ 2)) ∧ w1 = wc)
              case first => as_aux_lemma =>
                by_cases h2 : kind ≤ 2
                all_goals
                  go_wp2_with fail
                  go_meet
                  case rel => exact ⟨by simp [h2], rfl⟩
              case rest =>
                obtain ⟨rfl, rfl⟩ := hcut
                generalize hnmk : decide (kind ≤ 2) = nm
                go_upto_region 20 with (fail)
                go_cut [114] (fun s114 wc => s114 = .bool (!decide (look2 (.mk kind name (.mk ek en ename eA ec ekids) xn xA xc blocks))) ∧ w1 = wc)
                case first => as_aux_lemma =>
                  have key : ∀ b : Bool, (b = false ↔ look2 (.mk kind name (.mk ek en ename eA ec ekids) xn xA xc blocks)) → Hid (b = !decide (look2 (.mk kind name (.mk ek en ename eA ec ekids) xn xA xc blocks))) := fun b h => Lib.hid (by rw [Bool.eq_iff_iff, Bool.not_eq_true', decide_eq_false_iff_not, ← h]; cases b <;> simp)
                  have key : ∀ b : Bool, (b = true → ¬ look2 (.mk kind name (.mk ek en ename eA ec ekids) xn xA xc blocks)) → (b = false → look2 (.mk kind name (.mk ek en ename eA ec ekids) xn xA xc blocks)) → Hid (b = !decide (look2 (.mk kind name (.mk ek en ename eA ec ekids) xn xA xc blocks))) := fun b h h' => key b ⟨h', fun hl => by cases b; rfl; exact absurd hl (h rfl)⟩
                  cases nm
                  rotate_left
                  · have h2 := of_decide_eq_true hnmk
                    clear hnmk
                    have hk4 : (kind != 4) = true := bne_iff_ne.2 (by omega)
                    by_cases hn0 : name.toList = []
                    · skip
                      have H4 := key true (fun _ h => by have := (h.1 h2).1; simp only [StatR.name] at this; rw [size_zero.2 hn0] at this; omega) (fun h => by cases h)
                      have e1 : (!name.toList.isEmpty) = false := by simp [hn0]
                      have e2 : name.toList.isEmpty = true := by simp [hn0]
                      clear key
                      go_wp2_with (fail)
                      go_meet
                      case rel => exact ⟨by rw [← H4.out], rfl⟩
                    have e1 : name.toList.isEmpty = false := by simpa using hn0
                    by_cases hnm : named name
                    rotate_left
                    · have Hnm := Lib.hid hnm
                      have H4 := key true (fun _ h => hnm (h.1 h2)) (fun h => by cases h)
                      clear hnm
                      clear key
                      go_wp2_with ((go_at_call 18; (refine (named_any _ _).mono ?_; rintro E w2 ⟨rfl, rfl⟩; rw [decide_eq_false Hnm.out])))
                      go_meet
                      case rel => exact ⟨by rw [← H4.out], rfl⟩
                    have Hnm := Lib.hid hnm
                    by_cases q1 : xn = 0
                    rotate_left
                    · have e4 : (xn != 0) = true := bne_iff_ne.2 q1
                      have H4 := key true (fun _ h => q1 (h.2.2.1 (by simp only [StatR.kind]; omega))) (fun h => by cases h)
                      clear q1 hnm
                      clear key
                      go_wp2_with ((go_at_call 18; (refine (named_any _ _).mono ?_; rintro E w2 ⟨rfl, rfl⟩; rw [decide_eq_true Hnm.out])))
                      go_meet
                      case rel => exact ⟨by rw [← H4.out], rfl⟩
                    subst q1
                    have HB : Hid (betB 0 1000 0 = true) := Lib.hid (by decide)
                    have H4 := key false (fun h => by cases h) (fun _ => ⟨fun _ => Hnm.out, fun h => by simp only [StatR.kind] at h; omega, fun _ => rfl, Int.le_refl 0, by show (0 : Int) ≤ 1000; decide⟩)
                    clear hnm
                    clear key
                    go_wp2_with (first | (go_at_call 18; (refine (named_any _ _).mono ?_; rintro E w2 ⟨rfl, rfl⟩; rw [decide_eq_true Hnm.out])) | (go_at_call 17; (refine (between_any _ _ _ _).mono ?_; rintro E w2 ⟨rfl, rfl⟩; rw [HB.out])))
                    go_meet
                    case rel => exact ⟨by rw [← H4.out], rfl⟩
                  · have h2 := of_decide_eq_false hnmk
                    clear hnmk
                    by_cases hn0 : name.toList = []
                    rotate_left
                    · have e1 : name.toList.isEmpty = false := by simpa using hn0
                      have H4 := key true (fun _ h => hn0 (h.2.1 (by simp only [StatR.kind]; omega))) (fun h => by cases h)
                      clear key
                      go_wp2_with (fail)
                      go_meet
                      case rel => exact ⟨by rw [← H4.out], rfl⟩
                    have e1 : name.toList.isEmpty = true := by simp [hn0]
                    by_cases h4 : kind = 4
                    · subst h4
                      by_cases hb : 0 ≤ xn ∧ xn ≤ 1000
                      · have HB : Hid (betB 0 1000 xn = true) := Lib.hid (decide_eq_true hb)
                        have H4 := key false (fun h => by cases h) (fun _ => ⟨fun h => by simp only [StatR.kind] at h; omega, fun _ => hn0, fun h => absurd rfl h, hb.1, hb.2⟩)
                        clear h2
                        clear key
                        go_wp2_with ((go_at_call 17; (refine (between_any _ _ _ _).mono ?_; rintro E w2 ⟨rfl, rfl⟩; rw [HB.out])))
                        go_meet
                        case rel => exact ⟨by rw [← H4.out], rfl⟩
                      · have HB : Hid (betB 0 1000 xn = false) := Lib.hid (decide_eq_false hb)
                        have H4 := key true (fun _ h => hb ⟨h.2.2.2.1, h.2.2.2.2⟩) (fun h => by cases h)
                        clear h2 hb
                        clear key
                        go_wp2_with ((go_at_call 17; (refine (between_any _ _ _ _).mono ?_; rintro E w2 ⟨rfl, rfl⟩; rw [HB.out])))
                        go_meet
                        case rel => exact ⟨by rw [← H4.out], rfl⟩
                    · have e4 : (kind != 4) = true := bne_iff_ne.2 h4
                      by_cases q1 : xn = 0
                      · subst q1
                        have HB : Hid (betB 0 1000 0 = true) := Lib.hid (by decide)
                        have H4 := key false (fun h => by cases h) (fun _ => ⟨fun h => by simp only [StatR.kind] at h; omega, fun _ => hn0, fun _ => rfl, Int.le_refl 0, by show (0 : Int) ≤ 1000; decide⟩)
                        clear h2
                        clear key
                        go_wp2_with ((go_at_call 17; (refine (between_any _ _ _ _).mono ?_; rintro E w2 ⟨rfl, rfl⟩; rw [HB.out])))
                        go_meet
                        case rel => exact ⟨by rw [← H4.out], rfl⟩
                      · have e5 : (xn != 0) = true := bne_iff_ne.2 q1
                        have H4 := key true (fun _ h => q1 (h.2.2.1 h4)) (fun h => by cases h)
                        clear q1
                        clear key
                        go_wp2_with (fail)
                        go_meet
                        case rel => exact ⟨by rw [← H4.out], rfl⟩
                case rest =>
                  obtain ⟨rfl, rfl⟩ := hcut
                  have hbad : ¬ look2 (.mk kind name (.mk ek en ename eA ec ekids) xn xA xc blocks) → ¬ AllL L := fun h => HX.out.lev.bad (List.getElem_mem hq) (by rw [Hxe.out]; exact fun ho => h (looks.1 ho).2.1)
                  by_cases hk2 : look2 (.mk kind name (.mk ek en ename eA ec ekids) xn xA xc blocks)
                  rotate_left
                  · rw [show (!decide (look2 (.mk kind name (.mk ek en ename eA ec ekids) xn xA xc blocks))) = true by simp [hk2]]
                    have H4 := Lib.hid (And.intro (wrong_one (hbad hk2)) (HX.out.below.trans (Ha.out.below.mono HX.out.below.size))); clear hbad hk2
                    go_wp2_with fail
                    go_ret
                    exact ⟨by rw [show wrong (BlockR.mk A c L).l = 1 from H4.out.1]; rfl, H4.out.2⟩
                  rw [show (!decide (look2 (.mk kind name (.mk ek en ename eA ec ekids) xn xA xc blocks))) = false by simp [hk2]]
                  have Hk2 := Lib.hid hk2; clear hk2 hbad
                  have hok : (3 < kind → noneE (.mk ek en ename eA ec ekids)) → okS (.mk kind name (.mk ek en ename eA ec ekids) xn xA xc blocks) := fun h => looks.2 ⟨Hk1.out, Hk2.out, h⟩
                  have hno : ¬ (3 < kind → noneE (.mk ek en ename eA ec ekids)) → ¬ AllL L := fun h => HX.out.lev.bad (List.getElem_mem hq) (by rw [Hxe.out]; exact fun ho => h (looks.1 ho).2.2)
                  have Hok := Lib.hid (And.intro hok hno); clear hok hno
                  clear hnmk
                  obtain ⟨wa, rfl⟩ : ∃ wa : World, wa = wr := ⟨_, rfl⟩
                  have hlm : (moreS (S.take q)).length ≤ 1048576 := by
                    have h1 := nodes_lev S
                    have h2 := length_leE (moreS S)
                    have h3 : moreS S = moreS (S.take q) ++ moreS (S.drop q) := by rw [← moreS_append, List.take_append_drop]
                    rw [h3, List.length_append] at h2
                    rw [h3] at h1
                    omega
                  have hlm1 : (moreS (S.take q)).length + 1 ≤ 1048577 := by omega
                  go_upto_if 117 with (fail)
                  go_cut [9] (fun v9 wc => ∃ (es : List ExprR), es = (if kind ≤ 3 then [.mk ek en ename eA ec ekids] else []) ∧ (3 < kind → noneE (.mk ek en ename eA ec ekids)) ∧ wc.ownsRow wl.heap.size 49 8 u8 (nextS (S.take q)).length (cellsS (nextS (S.take q))) ∧ wc.ownsRow wl.heap.size 46 4 v9 (moreS (S.take q) ++ es).length (cellsE (moreS (S.take q) ++ es)) ∧ (∀ g, u8.ownBlock = some g → v9.ownBlock ≠ some g) ∧ Below wl.heap.size wl wc ∧ Blk wc wa.heap.size 49 (StatR.cells (.mk kind name (.mk ek en ename eA ec ekids) xn xA xc blocks)))
                  case first => as_aux_lemma =>
                    by_cases h4 : 4 ≤ kind
                    · by_cases hne : noneE (.mk ek en ename eA ec ekids)
                      · have Hne := Lib.hid hne; clear hne
                        go_wp2_with (go_at_call 19; (refine (bare_any _ (.mk ek en ename eA ec ekids)).mono ?_; rintro E2 w2 ⟨rfl, hb2⟩; rw [decide_eq_true Hne.out]; have Hb2 := Lib.hid hb2; clear hb2))
                        go_meet
                        case rel =>
                          have h := Ha.out.below_ Hb2.out
                          exact ⟨[], by rw [if_neg (by omega)], fun _ => Hne.out, h.o8, by rw [List.append_nil]; exact h.o9, h.apart, h.below, Hx.out.below Hb2.out Hx.out.lt⟩
                      · have H5 := Lib.hid (Hok.out.2 fun h => hne (h (by omega)))
                        have Hne := Lib.hid hne; clear hne
                        go_wp2_with (go_at_call 19; (refine (bare_any _ (.mk ek en ename eA ec ekids)).mono ?_; rintro E2 w2 ⟨rfl, hb2⟩; rw [decide_eq_false Hne.out]; have Hb2 := Lib.hid hb2; clear hb2))
                        go_ret
                        exact ⟨by rw [show wrong (BlockR.mk A c L).l = 1 from wrong_one H5.out]; rfl, HX.out.below.trans ((Ha.out.below_ Hb2.out).below.mono HX.out.below.size)⟩
                    · have hnw : Blk (w1.alloc (.cells #[.int .i64 ek, .int .i64 en, .string ename, .slice eA ekids.length ec] 46)) w1.heap.size 46 (cellsE [.mk ek en ename eA ec ekids]) := Blk.new w1 46 (cellsE [.mk ek en ename eA ec ekids])
                      have hsr : SrcAt (w1.alloc (.cells #[.int .i64 ek, .int .i64 en, .string ename, .slice eA ekids.length ec] 46)) (some ⟨w1.heap.size, 0, none⟩) (cellsE [.mk ek en ename eA ec ekids]) := fun _ => ⟨_, _, rfl, fun j u hu => by rw [hnw.cellAdd]; exact hu⟩
                      have hal := Ha.out.alloc (.cells #[.int .i64 ek, .int .i64 en, .string ename, .slice eA ekids.length ec] 46)
                      have H6 := Lib.hid (And.intro hal hsr); clear hal hsr hnw
                      go_wp2_with (at_builtin; go_loud (
                        refine wpList_append_src rfl (.tmp 122) (.tmp 125) _ rfl wl.heap.size 46 iE _ 4 56 Tryd.underlying44 HiE.out.1 HiE.out.2.1 HiE.out.2.2.1 HiE.out.2.2.2 rfl (by decide) u9 _ _ rfl H6.out.1.o9 (some ⟨w1.heap.size, 0, none⟩) 1 1 _ rfl (cellsE_length _) H6.out.2 (cellsE_one _) (by unfold maxLen; omega) (by omega) H6.out.1.below.size ?_
                        intro v5 w5 hown5 hg5 hloc
                        have H7 := Lib.hid (And.intro hown5 (And.intro hg5 hloc)); clear hown5 hg5 hloc))
                      go_meet
                      case rel =>
                        obtain ⟨q4, qg, ql⟩ := H7.out
                        have ha := H6.out.1
                        refine ⟨[.mk ek en ename eA ec ekids], by rw [if_pos (by omega)], fun h => by omega, own_grown ha.o8 qg (fun k hk e => ha.apart k hk e), by rw [List.length_append, cellsE_append]; exact q4, fun k hk e => ?_, ha.below.grown qg ha.below.size (fun k hk => (own_lt ha.o9 hk).2), (Hx.out.alloc _).grown qg (fun e => ?_)⟩
                        · rcases ql with ql | ql
                          · exact ha.apart k hk (ql.symm.trans e)
                          · rw [ql] at e
                            cases e
                            have := (own_lt ha.o8 hk).1
                            omega
                        · have := (own_lt HA.out.o9 e.symm).1
                          omega
                  case rest =>
                    obtain ⟨es, hes, hne, h8, h9, hap, hbw, hbx⟩ := hcut
                    have H6 := Lib.hid (And.intro hes (And.intro hne (And.intro h8 (And.intro h9 (And.intro hap (And.intro hbw hbx)))))); clear hes hne h8 h9 hap hbw hbx
                    clear y0 y1 y2 y3 y4 y5 y6 y7
                    obtain ⟨gr, hgr⟩ : ∃ gr, gr = gk := ⟨_, rfl⟩
                    have HG2 := Lib.hid hgr; clear hgr
                    go_wp2_with fail
                    have hnb : nodesS (nextS (S.take q)) + nodesB blocks ≤ 1048576 := by
                      have h1 := nodes_lev S
                      have h3 : nextS S = nextS (S.take (q + 1)) ++ nextS (S.drop (q + 1)) := by rw [← nextS_append, List.take_append_drop]
                      have h4 : nextS (S.take (q + 1)) = nextS (S.take q) ++ flatB blocks := by rw [take_snocA hq, nextS_append, Hxe.out]; simp [nextS, StatR.blocks]
                      rw [h3, nodesS_append, h4, nodesS_append, nodes_flatB] at h1
                      omega
                    go_loopg [8, 15] blocks.length (fun gk v8 i wr => ∃ r : Nat, gk + r = blocks.length ∧ i = .int .i64 r ∧ wr.ownsRow wl.heap.size 49 8 v8 (nextS (S.take q) ++ flatB (blocks.take r)).length (cellsS (nextS (S.take q) ++ flatB (blocks.take r))) ∧ wr.ownsRow wl.heap.size 46 4 u9 (moreS (S.take q) ++ es).length (cellsE (moreS (S.take q) ++ es)) ∧ (∀ g, v8.ownBlock = some g → u9.ownBlock ≠ some g) ∧ Below wl.heap.size wl wr ∧ Blk wr wa.heap.size 49 (StatR.cells (.mk kind name (.mk ek en ename eA ec ekids) xn xA xc blocks)) ∧ (∀ g, v8.ownBlock = some g → g ≠ wa.heap.size))
                    case atStart => exact ⟨0, by omega, rfl, by simpa [flatB] using H6.out.2.2.1, H6.out.2.2.2.1, H6.out.2.2.2.2.1, H6.out.2.2.2.2.2.1, H6.out.2.2.2.2.2.2, fun g h => by have := (own_lt HA.out.o8 h).1; omega⟩
                    case round =>
                      obtain ⟨r, hgr, rfl, ho8, ho9, hap, hbw, hbx, hnx⟩ := hrel
                      have y7 := hbx.cell 7
                      simp [StatR.cells, StatR.bA, StatR.bc, StatR.blocks] at y7
                      by_cases hr : r < blocks.length
                      · obtain ⟨bb, oo, e0, hbB2, hx2⟩ := Hrd.out.row.at_ (i := r) hr
                        simp only [StatR.bA, StatR.blocks] at e0 hx2
                        subst e0
                        have hbw2 := HX.out.below.trans (hbw.mono HX.out.below.size)
                        have hx2 := (hbw2.cell (p := ⟨bb, oo + r, none⟩) (Nat.lt_of_lt_of_le hbB2 hB)).trans hx2
                        have hRb := (Hrd.out.block (b := blocks[r]) (List.getElem_mem hr)).under (hbw2.mono hB)
                        have hfl : flatB (blocks.take (r + 1)) = flatB (blocks.take r) ++ blocks[r].l := by rw [take_snocA hr, flatB_append]; simp [flatB]
                        have hle : nodesS (nextS (S.take q) ++ flatB (blocks.take (r + 1))) ≤ 1048576 := by
                          rw [nodesS_append, nodes_flatB]
                          have := nodesB_take blocks (r + 1)
                          omega
                        rw [hfl, ← List.append_assoc] at hle
                        have hle2 := length_leS (nextS (S.take q) ++ flatB (blocks.take r) ++ blocks[r].l)
                        obtain ⟨kk, hke⟩ : ∃ kk, blocks[r] = kk := ⟨_, rfl⟩
                        rw [hke] at hx2 hRb hfl hle hle2
                        obtain ⟨kA, kc, kl⟩ := kk
                        simp only [BlockR.val, BlockR.A, BlockR.l, BlockR.c] at hx2 hfl hle hle2
                        rw [List.length_append] at hle2
                        have hsr : SrcAt wr kA (cellsS kl) := hRb.row.src
                        have hwz := hbw.size
                        have HE := Lib.hid (And.intro ho8 (And.intro ho9 (And.intro hap (And.intro hbw (And.intro hsr (And.intro hfl (And.intro hbx hnx))))))); clear hnx ho8 ho9 hap hbw hsr hfl hRb hke hbx hbw2
                        go_wp2_with (at_builtin; go_loud (
                          refine wpList_append_src rfl (.tmp 134) (.tmp 139) _ rfl wl.heap.size 49 iS _ 8 112 Tryd.underlying22 HiS.out.1 HiS.out.2.1 HiS.out.2.2.1 HiS.out.2.2.2 rfl (by decide) u8 _ _ rfl HE.out.1 kA kl.length kc (cellsS kl) rfl (cellsS_length kl) HE.out.2.2.2.2.1 (cellsS_one kl) (by unfold maxLen; omega) (by omega) hwz ?_
                          intro v6 w6 hown6 hg6 hloc
                          have H7 := Lib.hid (And.intro hown6 (And.intro hg6 hloc)); clear hown6 hg6 hloc))
                        go_roundg (gk - 1)
                        case measure => omega
                        case rel =>
                          obtain ⟨q3, qg, ql⟩ := H7.out
                          obtain ⟨p3, p4, pa, pw, _, pf, px, pn⟩ := HE.out
                          refine ⟨r + 1, by omega, by go_num, ?_, own_grown p4 qg (fun k hk e => pa k e hk), fun k hk e => ?_, pw.grown qg hwz (fun k hk => (own_lt p3 hk).2), px.grown qg (fun e => pn _ e.symm rfl), fun k hk => ?_⟩
                          · rw [pf, ← List.append_assoc, List.length_append, cellsS_append]
                            exact q3
                          · rcases ql with ql | ql
                            · exact pa k (ql.symm.trans hk) e
                            · rw [ql] at hk
                              cases hk
                              have := (own_lt p4 e).1
                              omega
                          · rcases ql with ql | ql
                            · exact pn k (ql.symm.trans hk)
                            · rw [ql] at hk
                              cases hk
                              have := px.lt
                              omega
                      · have hend : blocks.take r = blocks := List.take_of_length_le (by omega)
                        rw [hend] at ho8
                        have HE := Lib.hid (And.intro ho8 (And.intro ho9 (And.intro hap hbw))); clear ho8 ho9 hap hbw hend hbx hnx
                        go_wp2_with fail
                        go_roundg (gr - 1)
                        case measure =>
                          have := HG2.out
                          omega
                        case rel =>
                          obtain ⟨p8, p9, pa, pw⟩ := HE.out
                          have h4 : nextS (S.take (q + 1)) = nextS (S.take q) ++ flatB blocks := by rw [take_snocA hq, nextS_append, Hxe.out]; simp [nextS, StatR.blocks]
                          have h5 : moreS (S.take (q + 1)) = moreS (S.take q) ++ es := by rw [take_snocA hq, moreS_append, Hxe.out, H6.out.1]; by_cases h3 : kind ≤ 3 <;> simp [moreS, StatR.kind, StatR.e, h3]
                          refine ⟨q + 1, by have := HG2.out; omega, by go_num, by rw [h4]; exact p8, by rw [h5]; exact p9, pa, pw, fun y hy => ?_⟩
                          rw [take_snocA hq] at hy
                          rcases List.mem_append.1 hy with hy | hy
                          · exact HA.out.ok y hy
                          · rw [List.mem_singleton.1 hy, Hxe.out]
                            exact Hok.out.1 H6.out.2.1
          · have hend : S.take q = S := List.take_of_length_le (by omega)
            have h8 := hla.o8
            have h9 := hla.o9
            have hok := hla.ok
            rw [hend] at h8 h9 hok
            have HA := Lib.hid (And.intro h8 (And.intro h9 (And.intro hla.apart (And.intro hla.below hok)))); clear h8 h9 hok hla hend
            go_wp2_with fail
            go_loopg [9, 16] E.length (fun gk v9 i wr => ∃ q : Nat, gk + q = E.length ∧ i = .int .i64 q ∧ LevB wl wr S E q u8 v9)
            case atStart => exact ⟨0, by omega, rfl, HA.out.1, by simpa [kidsE] using HA.out.2.1, HA.out.2.2.1, HA.out.2.2.2.1, fun e he => by cases he⟩
            case round =>
              obtain ⟨q, hgq, rfl, hlb⟩ := hrel
              have hz := hlb.below.size
              by_cases hq : q < E.length
              · obtain ⟨b, o, rfl, hbB, hx⟩ := (HX.out.r4.keep fun p hp => hlb.below.cell hp).at_ (i := q) hq
                have hrd := HX.out.re _ (List.getElem_mem hq)
                obtain ⟨x, hxe⟩ : ∃ x, E[q] = x := ⟨_, rfl⟩
                rw [hxe] at hx hrd
                have Hxe := Lib.hid hxe; clear hxe
                have HB := Lib.hid hlb; clear hlb
                have hkl : x.kids.length ≤ 1048576 := hrd.fits
                have Hrd := Lib.hid hrd; clear hrd
                obtain ⟨ek, en, ename, eA, ec, ekids⟩ := x
                obtain ⟨x0, x1, x2, x3⟩ := hx
                simp only [ExprR.kind, ExprR.n, ExprR.name, ExprR.sA, ExprR.sc, ExprR.kids] at x0 x1 x2 x3 hkl
                have hbn : ¬ (b = wr.heap.size) := by omega
                obtain ⟨wa, rfl⟩ : ∃ wa : World, wa = wr := ⟨_, rfl⟩
                obtain ⟨gr, hgr⟩ : ∃ gr, gr = gk := ⟨_, rfl⟩
                have HG2 := Lib.hid hgr; clear hgr
                have hkb : (kidsE (E.take q)).length + ekids.length + (moreS S).length ≤ 1048576 := by
                  have h1 := nodes_lev S
                  have h2 := length_leE (moreS S)
                  have h3 : kidsE E = kidsE (E.take (q + 1)) ++ kidsE (E.drop (q + 1)) := by rw [← kidsE_append, List.take_append_drop]
                  have h4 : kidsE (E.take (q + 1)) = kidsE (E.take q) ++ ekids := by rw [take_snocA hq, kidsE_append, Hxe.out]; simp [kidsE, ExprR.kids]
                  have h5 := nodesE_lev E
                  rw [h3, nodesE_append, h4, nodesE_append] at h5
                  have h6 := length_leE (kidsE (E.take q))
                  have h7 := length_leE ekids
                  omega
                have Hkb := Lib.hid hkb; clear hkb
                have hbad : ¬ okE (.mk ek en ename eA ec ekids) → ¬ AllL L := fun h => HX.out.lev.badE (List.getElem_mem hq) (by rw [Hxe.out]; exact h)
                have Hbad := Lib.hid hbad; clear hbad
                go_upto_region 34 with (fail)
                generalize hW3 : wa.alloc (.cells #[.int .i64 ek, .int .i64 en, .string ename, .slice eA ekids.length ec] 46) = W3
                have hb3 : Below wa.heap.size wa W3 := by rw [← hW3]; exact (Below.refl _ _).alloc (Nat.le_refl _) _
                have hx3 : Blk W3 wa.heap.size 46 [.int .i64 ek, .int .i64 en, .string ename, .slice eA ekids.length ec] := by rw [← hW3]; exact Blk.new wa 46 [.int .i64 ek, .int .i64 en, .string ename, .slice eA ekids.length ec]
                clear x0 x1 x2 x3 hW3
                have y0 := hx3.cell 0
                have y1 := hx3.cell 1
                have y2 := hx3.cell 2
                have y3 := hx3.cell 3
                simp at y0 y1 y2 y3
                have H3 := Lib.hid (And.intro hb3 hx3); clear hb3 hx3
                go_cut [18] (fun s18 wc => s18 = .bool (decide (ek = 1 ∧ 0 ≤ en ∧ en ≤ 1000000000 ∧ ename.toList = [] ∧ ekids.length = 0)) ∧ W3 = wc)
                case first => as_aux_lemma =>
                  have key : ∀ b : Bool, (b = true ↔ (ek = 1 ∧ 0 ≤ en ∧ en ≤ 1000000000 ∧ ename.toList = [] ∧ ekids.length = 0)) → Hid (b = decide (ek = 1 ∧ 0 ≤ en ∧ en ≤ 1000000000 ∧ ename.toList = [] ∧ ekids.length = 0)) := fun b h => Lib.hid (by rw [Bool.eq_iff_iff, h, decide_eq_true_iff])
                  by_cases q1 : ek = 1
                  rotate_left
                  · have H4 := key false ⟨(fun h => by cases h), fun h => absurd h.1 q1⟩
                    have e1 : (ek == 1) = false := beq_eq_false_iff_ne.2 q1
                    clear key q1
                    go_wp2_with fail
                    go_meet
                    case rel => exact ⟨by rw [← H4.out], rfl⟩
                  have e1 : (ek == 1) = true := by rw [q1]; rfl
                  by_cases q2 : 0 ≤ en
                  rotate_left
                  · have H4 := key false ⟨(fun h => by cases h), fun h => absurd h.2.1 q2⟩
                    clear key q1
                    go_wp2_with fail
                    go_meet
                    case rel => exact ⟨by rw [← H4.out], rfl⟩
                  by_cases q3 : en ≤ 1000000000
                  rotate_left
                  · have H4 := key false ⟨(fun h => by cases h), fun h => absurd h.2.2.1 q3⟩
                    clear key q1
                    go_wp2_with fail
                    go_meet
                    case rel => exact ⟨by rw [← H4.out], rfl⟩
                  by_cases q4 : ename.toList = []
                  rotate_left
                  · have H4 := key false ⟨(fun h => by cases h), fun h => absurd h.2.2.2.1 q4⟩
                    have e4 : ename.toList.isEmpty = false := by simpa using q4
                    clear key q1 q4
                    go_wp2_with fail
                    go_meet
                    case rel => exact ⟨by rw [← H4.out], rfl⟩
                  have e4 : ename.toList.isEmpty = true := by simp [q4]
                  have H4 := key ((ekids.length : Int) == 0) ⟨fun h => ⟨q1, q2, q3, q4, by have := beq_iff_eq.1 h; omega⟩, fun h => beq_iff_eq.2 (by omega)⟩
                  clear key q1 q4
                  go_wp2_with fail
                  go_meet
                  case rel => exact ⟨by rw [← H4.out], rfl⟩
                case rest =>
                  obtain ⟨rfl, rfl⟩ := hcut
                  generalize hp1 : decide (ek = 1 ∧ 0 ≤ en ∧ en ≤ 1000000000 ∧ ename.toList = [] ∧ ekids.length = 0) = p1
                  have Hp1 := Lib.hid hp1; clear hp1
                  go_upto_region 35 with (fail)
                  go_cut [18] (fun s18 wc => s18 = .bool (p1 || decide (ek = 2 ∧ en = 0 ∧ named ename ∧ ekids.length = 0)) ∧ W3 = wc)
                  case first => as_aux_lemma =>
                    cases p1
                    rotate_left
                    · clear Hp1
                      go_wp2_with fail
                      go_meet
                      case rel => exact ⟨by rw [Bool.true_or], rfl⟩
                    clear Hp1
                    have key : ∀ b : Bool, (b = true ↔ (ek = 2 ∧ en = 0 ∧ named ename ∧ ekids.length = 0)) → Hid (b = decide (ek = 2 ∧ en = 0 ∧ named ename ∧ ekids.length = 0)) := fun b h => Lib.hid (by rw [Bool.eq_iff_iff, h, decide_eq_true_iff])
                    by_cases q1 : ek = 2
                    rotate_left
                    · have H4 := key false ⟨(fun h => by cases h), fun h => absurd h.1 q1⟩
                      have e1 : (ek == 2) = false := beq_eq_false_iff_ne.2 q1
                      clear key q1
                      go_wp2_with fail
                      go_meet
                      case rel => exact ⟨by rw [Bool.false_or, ← H4.out], rfl⟩
                    have e1 : (ek == 2) = true := by rw [q1]; rfl
                    by_cases q2 : en = 0
                    rotate_left
                    · have H4 := key false ⟨(fun h => by cases h), fun h => absurd h.2.1 q2⟩
                      have e2 : (en == 0) = false := beq_eq_false_iff_ne.2 q2
                      clear key q1 q2
                      go_wp2_with fail
                      go_meet
                      case rel => exact ⟨by rw [Bool.false_or, ← H4.out], rfl⟩
                    have e2 : (en == 0) = true := by rw [q2]; rfl
                    by_cases q3 : named ename
                    rotate_left
                    · have H4 := key false ⟨(fun h => by cases h), fun h => absurd h.2.2.1 q3⟩
                      have Hnm := Lib.hid q3
                      clear key q1 q2 q3
                      go_wp2_with (go_at_call 18; (refine (named_any _ _).mono ?_; rintro E2 w2 ⟨rfl, rfl⟩; rw [decide_eq_false Hnm.out]))
                      go_meet
                      case rel => exact ⟨by rw [Bool.false_or, ← H4.out], rfl⟩
                    have H4 := key ((ekids.length : Int) == 0) ⟨fun h => ⟨q1, q2, q3, by have := beq_iff_eq.1 h; omega⟩, fun h => beq_iff_eq.2 (by omega)⟩
                    have Hnm := Lib.hid q3
                    clear key q1 q2 q3
                    go_wp2_with (go_at_call 18; (refine (named_any _ _).mono ?_; rintro E2 w2 ⟨rfl, rfl⟩; rw [decide_eq_true Hnm.out]))
                    go_meet
                    case rel => exact ⟨by rw [Bool.false_or, ← H4.out], rfl⟩
                  case rest =>
                    obtain ⟨rfl, rfl⟩ := hcut
                    generalize hp2 : (p1 || decide (ek = 2 ∧ en = 0 ∧ named ename ∧ ekids.length = 0)) = p2
                    have Hp2 := Lib.hid hp2; clear hp2
                    go_upto_region 36 with (fail)
                    go_cut [18] (fun s18 wc => s18 = .bool (p2 || decide (3 ≤ ek ∧ ek ≤ 5 ∧ en = 0 ∧ ename.toList = [] ∧ ekids.length = 2)) ∧ W3 = wc)
                    case first => as_aux_lemma =>
                      cases p2
                      rotate_left
                      · clear Hp2
                        go_wp2_with fail
                        go_meet
                        case rel => exact ⟨by rw [Bool.true_or], rfl⟩
                      clear Hp2
                      have key : ∀ b : Bool, (b = true ↔ (3 ≤ ek ∧ ek ≤ 5 ∧ en = 0 ∧ ename.toList = [] ∧ ekids.length = 2)) → Hid (b = decide (3 ≤ ek ∧ ek ≤ 5 ∧ en = 0 ∧ ename.toList = [] ∧ ekids.length = 2)) := fun b h => Lib.hid (by rw [Bool.eq_iff_iff, h, decide_eq_true_iff])
                      by_cases q1 : 3 ≤ ek ∧ ek ≤ 5
                      rotate_left
                      · have H4 := key false ⟨(fun h => by cases h), fun h => absurd ⟨h.1, h.2.1⟩ q1⟩
                        have hB : Hid (betB 3 5 ek = false) := Lib.hid (decide_eq_false q1)
                        clear key q1
                        go_wp2_with (go_at_call 17; (refine (between_any _ _ _ _).mono ?_; rintro E2 w2 ⟨rfl, rfl⟩; rw [hB.out]))
                        go_meet
                        case rel => exact ⟨by rw [Bool.false_or, ← H4.out], rfl⟩
                      have hB : Hid (betB 3 5 ek = true) := Lib.hid (decide_eq_true q1)
                      by_cases q2 : en = 0
                      rotate_left
                      · have H4 := key false ⟨(fun h => by cases h), fun h => absurd h.2.2.1 q2⟩
                        have e2 : (en == 0) = false := beq_eq_false_iff_ne.2 q2
                        clear key q1 q2
                        go_wp2_with (go_at_call 17; (refine (between_any _ _ _ _).mono ?_; rintro E2 w2 ⟨rfl, rfl⟩; rw [hB.out]))
                        go_meet
                        case rel => exact ⟨by rw [Bool.false_or, ← H4.out], rfl⟩
                      have e2 : (en == 0) = true := by rw [q2]; rfl
                      by_cases q4 : ename.toList = []
                      rotate_left
                      · have H4 := key false ⟨(fun h => by cases h), fun h => absurd h.2.2.2.1 q4⟩
                        have e4 : ename.toList.isEmpty = false := by simpa using q4
                        clear key q1 q2 q4
                        go_wp2_with (go_at_call 17; (refine (between_any _ _ _ _).mono ?_; rintro E2 w2 ⟨rfl, rfl⟩; rw [hB.out]))
                        go_meet
                        case rel => exact ⟨by rw [Bool.false_or, ← H4.out], rfl⟩
                      have e4 : ename.toList.isEmpty = true := by simp [q4]
                      have H4 := key ((ekids.length : Int) == 2) ⟨fun h => ⟨q1.1, q1.2, q2, q4, by have := beq_iff_eq.1 h; omega⟩, fun h => beq_iff_eq.2 (by omega)⟩
                      clear key q1 q2 q4
                      go_wp2_with (go_at_call 17; (refine (between_any _ _ _ _).mono ?_; rintro E2 w2 ⟨rfl, rfl⟩; rw [hB.out]))
                      go_meet
                      case rel => exact ⟨by rw [Bool.false_or, ← H4.out], rfl⟩
                    case rest =>
                      obtain ⟨rfl, rfl⟩ := hcut
                      have hok : (p2 || decide (3 ≤ ek ∧ ek ≤ 5 ∧ en = 0 ∧ ename.toList = [] ∧ ekids.length = 2)) = true ↔ okE (.mk ek en ename eA ec ekids) := by
                        rw [← Hp2.out, ← Hp1.out]
                        simp only [Bool.or_eq_true, decide_eq_true_eq, okE, ExprR.kind, ExprR.n, ExprR.name, ExprR.kids, size_zero, or_assoc]
                      generalize hp3 : (p2 || decide (3 ≤ ek ∧ ek ≤ 5 ∧ en = 0 ∧ ename.toList = [] ∧ ekids.length = 2)) = p3 at *
                      have Hok := Lib.hid hok; clear hok hp3
                      have hal : LevB wl W3 S E q u8 u9 := ⟨own_below HB.out.o8 H3.out.1, own_below HB.out.o9 H3.out.1, HB.out.apart, HB.out.below.trans (H3.out.1.mono HB.out.below.size), HB.out.ok⟩
                      have hsr : SrcAt W3 eA (cellsE ekids) := (Hrd.out.row.keep fun p hp => ((HX.out.below.trans (hal.below.mono HX.out.below.size)).cell (Nat.lt_of_lt_of_le hp hB))).src
                      have hwz := hal.below.size
                      have H6 := Lib.hid (And.intro hal hsr); clear hal hsr
                      cases p3
                      · go_wp2_with fail
                        go_ret
                        exact ⟨by rw [show wrong (BlockR.mk A c L).l = 1 from wrong_one (Hbad.out fun h => by have := Hok.out.2 h; cases this)]; rfl, HX.out.below.trans (H6.out.1.below.mono HX.out.below.size)⟩
                      · go_wp2_with (at_builtin; go_loud (
                          refine wpList_append_src rfl (.tmp 221) (.tmp 223) _ rfl wl.heap.size 46 iE _ 4 56 Tryd.underlying44 HiE.out.1 HiE.out.2.1 HiE.out.2.2.1 HiE.out.2.2.2 rfl (by decide) u9 _ _ rfl H6.out.1.o9 eA ekids.length ec (cellsE ekids) rfl (cellsE_length ekids) H6.out.2 (cellsE_one ekids) (by unfold maxLen; rw [List.length_append]; have := Hkb.out; omega) (by rw [List.length_append]; have := Hkb.out; omega) hwz ?_
                          intro v6 w6 hown6 hg6 hloc
                          have H7 := Lib.hid (And.intro hown6 (And.intro hg6 hloc)); clear hown6 hg6 hloc))
                        go_roundg (gr - 1)
                        case measure =>
                          have := HG2.out
                          omega
                        case rel =>
                          obtain ⟨q4, qg, ql⟩ := H7.out
                          have ha := H6.out.1
                          have h4 : kidsE (E.take (q + 1)) = kidsE (E.take q) ++ ekids := by rw [take_snocA hq, kidsE_append, Hxe.out]; simp [kidsE, ExprR.kids]
                          refine ⟨q + 1, by have := HG2.out; omega, by go_num, own_grown ha.o8 qg (fun k hk e => ha.apart k hk e), by rw [h4, ← List.append_assoc, List.length_append, cellsE_append]; exact q4, fun k hk e => ?_, ha.below.grown qg ha.below.size (fun k hk => (own_lt ha.o9 hk).2), fun y hy => ?_⟩
                          · rcases ql with ql | ql
                            · exact ha.apart k hk (ql.symm.trans e)
                            · rw [ql] at e
                              cases e
                              have := (own_lt ha.o8 hk).1
                              omega
                          · rw [take_snocA hq] at hy
                            rcases List.mem_append.1 hy with hy | hy
                            · exact ha.ok y hy
                            · rw [List.mem_singleton.1 hy, Hxe.out]
                              exact Hok.out.1 (by trivial)
              · have hend : E.take q = E := List.take_of_length_le (by omega)
                have h9 := hlb.o9
                have hok := hlb.ok
                rw [hend] at h9 hok
                have h8 := hlb.o8
                have hbw := hlb.below
                clear hlb
                obtain ⟨A8, c8, rfl, _, _⟩ := own_form h8
                obtain ⟨A9, c9, rfl, _, _⟩ := own_form h9
                have HE := Lib.hid (And.intro h8 (And.intro h9 (And.intro hbw hok))); clear h8 h9 hbw hok hend
                go_wp2_with fail
                go_roundg (gq - 1)
                case measure =>
                  have := HG.out
                  omega
                case rel =>
                  obtain ⟨p8, p9, pw, po⟩ := HE.out
                  have hn1 := nodes_lev S
                  have hn2 := nodesE_lev E
                  have hg := HX.out.gas
                  have hgq := HG.out
                  refine ⟨nextS S, moreS S ++ kidsE E, A8, A9, c8, c9, n + (S.length + E.length), d + 1, lg', rfl, rfl, by go_num, by go_num, rfl, ?_⟩
                  refine ⟨?_, ?_, fun y hy => ?_, fun e he => ?_, HX.out.below.trans (pw.mono HX.out.below.size), by rw [nodesE_append]; omega, by omega, by rw [nodesE_append]; omega, by rw [← Hlg.out]; exact HX.out.lev.next HA.out.2.2.2.2 po (by omega)⟩
                  · intro hne
                    obtain ⟨g, c', e, _, hlt, _, _⟩ := own_top p8 (List.length_pos_iff.2 hne)
                    cases e
                    exact ⟨g, 0, rfl, hlt, fun i hi => by rw [Nat.zero_add]; exact own_statAt p8 hi⟩
                  · intro hne
                    obtain ⟨g, c', e, _, hlt, _, _⟩ := own_top p9 (List.length_pos_iff.2 hne)
                    cases e
                    exact ⟨g, 0, rfl, hlt, fun i hi => by rw [Nat.zero_add]; exact own_exprAt p9 hi⟩
                  · simp only [nextS, List.mem_flatMap, flatB] at hy
                    obtain ⟨x, hx, b, hb, hy⟩ := hy
                    exact ((HX.out.rd x hx).block hb).each y hy
                  · rcases List.mem_append.1 he with he | he
                    · simp only [moreS, List.mem_flatMap] at he
                      obtain ⟨x, hx, he⟩ := he
                      split at he
                      · rw [List.mem_singleton.1 he]
                        exact (HX.out.rd x hx).e
                      · cases he
                    · simp only [kidsE, List.mem_flatMap] at he
                      obtain ⟨x, hx, he⟩ := he
                      exact (HX.out.re x hx).kid he
end Go.Proofs.YtgiceeholamphaaDoor
