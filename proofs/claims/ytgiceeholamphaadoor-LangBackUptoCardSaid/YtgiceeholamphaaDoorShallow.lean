/- The contracts of slices.Clone at statements, lang.shallow. No conditions but that what is read is there, and that it can be counted. -/
import Derived.Test.YtgiceeholamphaaDoorSizeS
import Derived.Test.YtgiceeholamphaaDoorShal
import Derived.Test.YtgiceeholamphaaDoorOwn
import Derived.Deep.DeepCutAuto
import Derived.Lib.SliceRun
namespace Go.Proofs.YtgiceeholamphaaDoor
open Go.ChangeShapes Go.WideShapes Go.ChangeAt Go.RowKit

def CloneS (l : List StatR) (w : World) (E : Ending) (w' : World) : Prop :=
  ∃ v, E = .returned v ∧ w'.ownsRow w.heap.size 49 8 v l.length (cellsS l) ∧ Below w.heap.size w w'
theorem clone_any (k : BlockR) (w : World) (B : Nat) (hR : RowS w B k.A k.l) (hB : B ≤ w.heap.size) (hn : k.l.length ≤ 1048576) :
    Calls Tryd.prog 51 #[k.val] w (CloneS k.l w) := by
  obtain ⟨A, c, l⟩ := k
  simp only [BlockR.A, BlockR.l] at hR hn
  obtain ⟨i0, hi0, hz0, hz1, hz2⟩ := info_parts info_stat
  have Hi0 := Lib.hid (And.intro hi0 (And.intro hz0 (And.intro hz1 hz2))); clear hi0 hz0 hz1 hz2
  have HR := Lib.hid hR; clear hR
  show Calls Tryd.prog 51 #[.slice A l.length c] w _
  cases A with
  | none =>
    have hl : l = [] := by
      rcases l with _ | ⟨x, l⟩
      · rfl
      · obtain ⟨b, o, e, _⟩ := HR.out (by simp)
        cases e
    subst hl
    have he := fun (w : World) (a : Option Addr) (n c n' c' : Nat) => Lib.run_eql_slice_nil (P := Tryd.prog) w _ _ a n c n' c' Tryd.underlying22
    go_enter Tryd.func51, Tryd.ntmps51
    go_wp2_with fail
    go_ret
    exact ⟨_, rfl, ⟨rfl, .inl ⟨rfl, rfl⟩⟩, Below.refl _ _⟩
  | some a =>
    have he := fun (w : World) (a : Option Addr) (n c n' c' : Nat) => Lib.run_eql_slice_nil (P := Tryd.prog) w _ _ a n c n' c' Tryd.underlying22
    go_enter Tryd.func51, Tryd.ntmps51
    have hlit := World.ownsRow_lit (base := w.heap.size) (e := 49) (size := 8) w #[] 0 (Nat.le_refl _) (by unfold maxLen; omega) rfl
    have hsrc : SrcAt (w.alloc (.cells #[] 49)) (some a) (cellsS l) := (HR.out.keep fun p hp => World.cell?_alloc_lt w _ p (by omega)).src
    have HL := Lib.hid (And.intro hlit hsrc); clear hlit hsrc
    go_wp2_with (at_builtin; go_loud (
      refine wpList_append_src rfl (.tmp 5) (.tmp 6) _ rfl w.heap.size 49 i0 _ 8 112 Tryd.underlying22 Hi0.out.1 Hi0.out.2.1 Hi0.out.2.2.1 Hi0.out.2.2.2 rfl (by decide) (.slice (some ⟨w.heap.size, 0, none⟩) 0 0) 0 _ rfl HL.out.1 (some a) l.length c (cellsS l) rfl (cellsS_length l) HL.out.2 (cellsS_one l) (by unfold maxLen; omega) (by omega) (by simp) ?_
      intro v1 w3 hown3 hg3 _
      have H3 := Lib.hid (And.intro hown3 hg3); clear hown3 hg3))
    go_ret
    refine ⟨_, rfl, by have h := H3.out.1; rw [Nat.zero_add] at h; exact h, ((Below.refl _ _).alloc (Nat.le_refl _) _).grown H3.out.2 (by simp) (fun g h => by cases h; exact Nat.le_refl _)⟩

theorem run_make_blocks (w : World) (n : Nat) (hn : n ≤ 1048576) : (Instr.makeSlice 47 (.int .i64 (n : Int)) (.int .i64 (n : Int))).run Tryd.prog w =
    .ok (.slice (some ⟨w.heap.size, 0, none⟩) n n) (w.alloc (.cells (List.replicate n (.slice none 0 0)).toArray 22)) := by
  obtain ⟨i, hi, hz0, hz1, hz2⟩ := info_parts info_block
  have hr := run_make (P := Tryd.prog) w 47 22 i _ Tryd.underlying47 hi hz0 .i64 .i64 n n (by omega) (by omega) (by rw [hz2]; omega) (by omega)
  simp only [Int.toNat_natCast] at hr
  rw [hr]
  have e : madeCells (Value.slice none 0 0).cells (n * i.size) = (List.replicate n (.slice none 0 0)).toArray := by
    apply Array.ext'
    rw [hz1, Nat.mul_one]
    show (madeCells #[.slice none 0 0] n).toList = _
    rw [made_one]
  rw [e]
theorem own_lt {w : World} {base size n g : Nat} {e : TypeId} {v : Value} {vs : List Value} (h : w.ownsRow base e size v n vs) (hg : v.ownBlock = some g) : g < w.heap.size ∧ base ≤ g := by
  rcases h.2 with ⟨rfl, _⟩ | ⟨g', cap, cur, rfl, hb, hh, _⟩
  · cases hg
  · cases hg
    exact ⟨(Array.getElem?_eq_some_iff.1 hh).1, hb⟩
/-- A row's owner stands by a step that turns another block, a new one. -/
theorem own_new {w w' : World} {base size n g : Nat} {e : TypeId} {v : Value} {vs : List Value} (h : w.ownsRow base e size v n vs) (hb : w.grownBy w' (some g)) (hg : w.heap.size ≤ g) : w'.ownsRow base e size v n vs :=
  own_grown h hb fun k hk e => by cases e; have := (own_lt h hk).1; omega
theorem below_new {b g : Nat} {w w' : World} (hb : w.grownBy w' (some g)) (hg : b ≤ g) (hs : b ≤ w.heap.size) : Below b w w' := (Below.refl b w).grown hb hs (fun k e => by cases e; exact hg)
theorem three_boxes {wr W3 : World} {c1 c2 : List Value} {n : Nat} {t u : TypeId} (h : ((wr.alloc (.cells c1.toArray t)).alloc (.cells c2.toArray t)).alloc (.cells (Array.replicate n (.slice none 0 0)) u) = W3) :
    Below wr.heap.size wr W3 ∧ W3.heap.size = wr.heap.size + 3 ∧ Blk W3 wr.heap.size t c1 ∧ Blk W3 (wr.heap.size + 1) t c2 ∧ Blk W3 (wr.heap.size + 2) u (List.replicate n (.slice none 0 0)) := by
  subst h
  refine ⟨(((Below.refl _ _).alloc (Nat.le_refl _) _).alloc (by simp) _).alloc (by simp; omega) _, by simp, ((Blk.new _ _ _).alloc _).alloc _, ?_, ?_⟩
  · refine Blk.alloc ?_ _
    have h := Blk.new (wr.alloc (.cells c1.toArray t)) t c2
    rwa [show (wr.alloc (.cells c1.toArray t)).heap.size = wr.heap.size + 1 by simp] at h
  · have h := Blk.newArr ((wr.alloc (.cells c1.toArray t)).alloc (.cells c2.toArray t)) u (cs := Array.replicate n (.slice none 0 0)) (vs := List.replicate n (.slice none 0 0)) (by simp)
    rwa [show ((wr.alloc (.cells c1.toArray t)).alloc (.cells c2.toArray t)).heap.size = wr.heap.size + 2 by simp] at h
theorem store4 {w2 : World} {s : Nat} {t : TypeId} {cs : List Value} (h : Blk w2 s t cs) (v0 v1 v2 v3 : Value) :
    Blk ((((w2.setCell ⟨s, 2, none⟩ v0).setCell ⟨s, 3, none⟩ v1).setCell ⟨s, 4, none⟩ v2).setCell ⟨s, 5, none⟩ v3) s t ((((cs.set 2 v0).set 3 v1).set 4 v2).set 5 v3) ∧
    w2.grownBy ((((w2.setCell ⟨s, 2, none⟩ v0).setCell ⟨s, 3, none⟩ v1).setCell ⟨s, 4, none⟩ v2).setCell ⟨s, 5, none⟩ v3) (some s) :=
  ⟨(((h.set_ 2 v0).set_ 3 v1).set_ 4 v2).set_ 5 v3, gb_set (gb_set (gb_set (gb_set (World.grownBy.refl _ _) _ _) _ _) _ _) _ _⟩
section
variable {kind ek en xn : Int} {name ename : ByteArray} {eA xA A : Option Addr} {ec xc : Nat} {ekids : List ExprR} {blocks : List BlockR}
theorem bareS_cells_none (h : noneE (.mk ek en ename eA ec ekids)) : (bareS (.mk kind name (.mk ek en ename eA ec ekids) xn xA xc blocks) A).cells =
    [.int .i64 kind, .string name, .int .i64 ek, .int .i64 en, .string ename, .slice eA ekids.length ec, .int .i64 xn, .slice A blocks.length blocks.length] := by
  have e : bareE (.mk ek en ename eA ec ekids) = .mk ek en ename eA ec ekids := if_pos h
  simp only [bareS, StatR.cells, StatR.kind, StatR.name, StatR.e, StatR.n, StatR.bA, StatR.bc, StatR.blocks, e, List.length_replicate, ExprR.kind, ExprR.n, ExprR.name, ExprR.sA, ExprR.sc, ExprR.kids]
theorem bareS_cells_some (h : ¬ noneE (.mk ek en ename eA ec ekids)) : (bareS (.mk kind name (.mk ek en ename eA ec ekids) xn xA xc blocks) A).cells =
    [.int .i64 kind, .string name, .int .i64 1, .int .i64 0, .string ⟨#[]⟩, .slice none 0 0, .int .i64 xn, .slice A blocks.length blocks.length] := by
  have e : bareE (.mk ek en ename eA ec ekids) = numE := if_neg h
  simp only [bareS, StatR.cells, StatR.kind, StatR.name, StatR.e, StatR.n, StatR.bA, StatR.bc, StatR.blocks, e, numE, List.length_replicate, ExprR.kind, ExprR.n, ExprR.name, ExprR.sA, ExprR.sc, ExprR.kids, List.length_nil]
end
theorem two_boxes {wr W3 : World} {c1 c2 : List Value} {t : TypeId} (h : (wr.alloc (.cells c1.toArray t)).alloc (.cells c2.toArray t) = W3) :
    Below wr.heap.size wr W3 ∧ W3.heap.size = wr.heap.size + 2 ∧ Blk W3 wr.heap.size t c1 ∧ Blk W3 (wr.heap.size + 1) t c2 := by
  subst h
  refine ⟨((Below.refl _ _).alloc (Nat.le_refl _) _).alloc (by simp) _, by simp, (Blk.new _ _ _).alloc _, ?_⟩
  have h := Blk.new (wr.alloc (.cells c1.toArray t)) t c2
  rwa [show (wr.alloc (.cells c1.toArray t)).heap.size = wr.heap.size + 1 by simp] at h
/-- Behind the making of the bare expression. -/
structure KalMid (w wc : World) (s : Nat) (e : ExprR) (v4 : Value) (l : List ExprR) : Prop where
  o4 : wc.ownsRow w.heap.size 46 4 v4 l.length (cellsE l)
  below : Below w.heap.size w wc
  bx : Blk wc s 46 e.cells
  bb : Blk wc (s + 1) 46 (bareK e (some ⟨s + 2, 0, none⟩)).cells
  bm : e.kids.length = 2 → Blk wc (s + 2) 46 (cellsE [numE, numE])
def ShalPost (l : List StatR) (w : World) (E : Ending) (w' : World) : Prop := ∃ b : Bool, E = .returned (.bool b) ∧ (b = true ↔ AllL l) ∧ Below w.heap.size w w'
/-- What the first loop keeps: the statements and the expressions that are still to be looked at. -/
structure ShalRel (w wr : World) (B : Nat) (L : List StatR) (v3 v4 : Value) (l : List StatR) (es : List ExprR) : Prop where
  o3 : wr.ownsRow w.heap.size 49 8 v3 l.length (cellsS l)
  o4 : wr.ownsRow w.heap.size 46 4 v4 es.length (cellsE es)
  apart : ∀ g, v3.ownBlock = some g → v4.ownBlock ≠ some g
  below : Below w.heap.size w wr
  rd : ∀ x ∈ l, RdS w B x
  re : ∀ e ∈ es, RdE w B e
  room : nodesE es + nodesS l ≤ 1048576
  iff_ : (AllL l ∧ ∀ e ∈ es, AllE e) ↔ AllL L
/-- Behind the look at a statement's expression. -/
structure ShalMid (w wc : World) (s : Nat) (x : StatR) (es es2 : List ExprR) (v3 v4 : Value) (l : List StatR) : Prop where
  o3 : wc.ownsRow w.heap.size 49 8 v3 l.length (cellsS l)
  o4 : wc.ownsRow w.heap.size 46 4 v4 es2.length (cellsE es2)
  apart : ∀ g, v3.ownBlock = some g → v4.ownBlock ≠ some g
  below : Below w.heap.size w wc
  bx : Blk wc s 49 x.cells
  bb : Blk wc (s + 1) 49 (bareS x (some ⟨s + 2, 0, none⟩)).cells
  bm : Blk wc (s + 2) 22 (List.replicate x.blocks.length (.slice none 0 0))
  eq : es2 = if noneE x.e then es else es ++ [x.e]
set_option maxRecDepth 100000 in
set_option maxHeartbeats 4000000 in
theorem shallow_any (k : BlockR) (w : World) (B : Nat) (hR : RdB w B k) (hB : B ≤ w.heap.size) (hn : nodesS k.l ≤ 1048576) :
    Calls Tryd.prog 33 #[k.val] w (ShalPost k.l w) := by
  obtain ⟨iE, hi0, hz0, hz1, hz2⟩ := info_parts info_expr
  have HiE := Lib.hid (And.intro hi0 (And.intro hz0 (And.intro hz1 hz2))); clear hi0 hz0 hz1 hz2
  obtain ⟨iS, hi0, hz0, hz1, hz2⟩ := info_parts info_stat
  have HiS := Lib.hid (And.intro hi0 (And.intro hz0 (And.intro hz1 hz2))); clear hi0 hz0 hz1 hz2
  obtain ⟨A, c, L⟩ := k
  have hlen := length_leS L
  simp only [BlockR.l] at hn
  have HR := Lib.hid hR; clear hR
  have Hn := Lib.hid hn; clear hn
  have Hlen := Lib.hid hlen; clear hlen
  show Calls Tryd.prog 33 #[.slice A L.length c] w _
  go_enter Tryd.func33, Tryd.ntmps33
  go_wp2_with (go_at_call 51; (
    refine (clone_any (.mk A c L) _ B HR.out.row hB (by have := Hn.out; have := Hlen.out; simp only [BlockR.l]; omega)).mono ?_
    rintro E w1 ⟨v1, rfl, ho1, hb1⟩
    have H1 := Lib.hid (And.intro ho1 hb1); clear ho1 hb1))
  go_loopg [3, 4] 1048576 (fun gk v3 v4 wr => ∃ (l : List StatR) (es : List ExprR), nodesS l ≤ gk ∧ ShalRel w wr B L v3 v4 l es)
  case atStart => exact ⟨L, [], Hn.out, H1.out.1, ⟨rfl, .inl ⟨rfl, rfl⟩⟩, fun g _ h => by (cases h), H1.out.2, HR.out.each, (fun e he => by cases he), by simpa [nodesE] using Hn.out, ⟨fun h => h.1, fun h => ⟨h, fun e he => by cases he⟩⟩⟩
  case round =>
    obtain ⟨l, es, hgk, hrl⟩ := hrel
    rcases List.eq_nil_or_concat l with rfl | ⟨l', x, rfl⟩
    · obtain ⟨A3, c3, rfl, _, _⟩ := own_form hrl.o3
      obtain ⟨A4, c4, rfl, _, _⟩ := own_form hrl.o4
      have HX := Lib.hid hrl; clear hrl
      obtain ⟨gq, hgq⟩ : ∃ gq, gq = gk := ⟨_, rfl⟩
      clear hgq hgk
      go_wp2_with fail
      go_loopg [4] 1048576 (fun gk v4 wi => ∃ es' : List ExprR, nodesE es' ≤ gk ∧ gk ≤ 1048576 ∧ wi.ownsRow w.heap.size 46 4 v4 es'.length (cellsE es') ∧ Below w.heap.size w wi ∧ (∀ e ∈ es', RdE w B e) ∧ ((∀ e ∈ es', AllE e) ↔ AllL L))
      case atStart => exact ⟨es, by have := HX.out.room; omega, by omega, HX.out.o4, HX.out.below, HX.out.re, ⟨fun h => HX.out.iff_.1 ⟨(fun x hx => by cases hx), h⟩, fun h => (HX.out.iff_.2 h).2⟩⟩
      case round =>
        clear HX
        obtain ⟨es', hgk, hgm, ho4, hbw, hre, hif⟩ := hrel
        rcases List.eq_nil_or_concat es' with rfl | ⟨es', x, rfl⟩
        · obtain ⟨A4, c4, rfl, _, _⟩ := own_form ho4
          have HX := Lib.hid (And.intro hbw hif); clear hbw hif ho4 hre
          go_wp2_with fail
          go_ret
          exact ⟨true, rfl, ⟨fun _ => HX.out.2.1 (fun e he => by cases he), fun _ => rfl⟩, HX.out.1⟩
        · rw [List.concat_eq_append] at *
          have hlen : (es' ++ [x]).length = es'.length + 1 := by simp
          rw [hlen] at ho4
          obtain ⟨g, c4, rfl, hg, hglt, hgc, hcm⟩ := own_top ho4 (by omega)
          have hx := own_exprAt (i := es'.length) (l := es' ++ [x]) ho4 (by simp)
          simp only [List.getElem_append_right (Nat.le_refl _), Nat.sub_self, List.getElem_cons_zero] at hx
          have hcut : wr.ownsRow w.heap.size 46 4 (.slice (some ⟨g, 0, none⟩) es'.length c4) es'.length (cellsE es') := own_cut (ys := cellsE [x]) (by rw [← cellsE_append]; exact ho4) (cellsE_length es')
          rw [nodesE_append] at hgk
          simp only [nodesE] at hgk
          have hl1 := length_leE es'
          have hrd := hre x (by simp)
          have hgs : w.heap.size ≤ wr.heap.size := hbw.size
          have hxn := x.nodes_eq
          have hkl := length_leE x.kids
          obtain ⟨ek, en, ename, eA, ec, ekids⟩ := x
          obtain ⟨x0, x1, x2, x3⟩ := hx
          simp only [ExprR.kind, ExprR.n, ExprR.name, ExprR.sA, ExprR.sc, ExprR.kids] at x0 x1 x2 x3 hxn hkl
          have hgn : ¬ (g = wr.heap.size) := by omega
          have HX := Lib.hid (And.intro hbw (And.intro hcut (And.intro hrd (And.intro hre hif)))); clear hbw hcut hrd hre hif ho4
          have HM := Lib.hid (And.intro hxn hgk); clear hxn hgk
          unfold maxLen at hcm
          have hkb : ekids.length ≤ 1048576 := by have := HM.out.1; have := HM.out.2; omega
          clear hkl
          go_upto_if 79 with (fail)
          generalize hW3 : (wr.alloc (.cells #[.int .i64 ek, .int .i64 en, .string ename, .slice eA ekids.length ec] 46)).alloc (.cells #[.int .i64 ek, .int .i64 en, .string ename, .slice eA ekids.length ec] 46) = W3
          obtain ⟨hb3, hz3, hx3, hq3⟩ := two_boxes hW3
          clear x0 x1 x2 x3
          go_cut [] (fun wc => KalMid w wc wr.heap.size (.mk ek en ename eA ec ekids) (.slice (some ⟨g, 0, none⟩) es'.length c4) es')
          case first =>
            have hbw := HX.out.1.trans (hb3.mono hgs)
            have ho4 := own_below HX.out.2.1 hb3
            by_cases h2 : ekids.length = 2
            · have h2i : ((ekids.length : Int) == 2) = true := by rw [h2]; rfl
              have e1 : (bareK (.mk ek en ename eA ec ekids) (some ⟨wr.heap.size + 2, 0, none⟩)).cells = [.int .i64 ek, .int .i64 en, .string ename, .slice (some ⟨wr.heap.size + 2, 0, none⟩) 2 2] := by
                have e0 : bareK (.mk ek en ename eA ec ekids) (some ⟨wr.heap.size + 2, 0, none⟩) = .mk ek en ename (some ⟨wr.heap.size + 2, 0, none⟩) 2 [numE, numE] := if_pos h2
                rw [e0]
                rfl
              have H4 := Lib.hid (And.intro hbw (And.intro ho4 (And.intro hx3 (And.intro hq3 (And.intro e1 h2))))); clear hbw ho4 hx3 e1 hW3 hb3
              have f3 := hq3.frozen 3
              have z3 := hq3.cell 3
              simp at z3
              have Hq := Lib.hid hq3; clear hq3
              go_wp2_with fail
              go_meet
              case rel =>
                obtain ⟨pw, p4, px, _, pe, _⟩ := H4.out
                have hg := gb_set (World.grownBy.refl W3 (some (wr.heap.size + 1))) 3 (.slice (some ⟨wr.heap.size + 2, 0, none⟩) 2 2)
                have hl4 := fun k (h : (Value.slice (some ⟨g, 0, none⟩) es'.length c4).ownBlock = some k) => (own_lt HX.out.2.1 h).1
                refine ⟨(own_grown p4 hg (fun k hk e => by cases e; have := hl4 _ hk; omega)).alloc _, (pw.grown hg (by omega) (fun k e => by cases e; omega)).alloc (by have := hg.size; omega) _, (px.grown hg (by simp)).alloc _, ?_, fun _ => ?_⟩
                · rw [pe]
                  exact (Hq.out.set_ 3 _).alloc _
                · have h := Blk.new (W3.setCell ⟨wr.heap.size + 1, 3, none⟩ (.slice (some ⟨wr.heap.size + 2, 0, none⟩) 2 2)) 46 (cellsE [numE, numE])
                  rwa [show (W3.setCell ⟨wr.heap.size + 1, 3, none⟩ (.slice (some ⟨wr.heap.size + 2, 0, none⟩) 2 2)).heap.size = wr.heap.size + 2 by simp [World.setCell, hz3]] at h
            · have h2i : ((ekids.length : Int) == 2) = false := beq_eq_false_iff_ne.2 (by omega)
              have e1 : (bareK (.mk ek en ename eA ec ekids) (some ⟨wr.heap.size + 2, 0, none⟩)) = (.mk ek en ename eA ec ekids) := if_neg h2
              have H4 := Lib.hid (And.intro hbw (And.intro ho4 (And.intro hx3 (And.intro hq3 (And.intro e1 h2))))); clear hbw ho4 hx3 hq3 e1 hW3 hb3
              go_wp2_with fail
              go_meet
              case rel => exact ⟨H4.out.2.1, H4.out.1, H4.out.2.2.1, by rw [H4.out.2.2.2.2.1]; exact H4.out.2.2.2.1, fun h => absurd h H4.out.2.2.2.2.2⟩
          case rest =>
            have hm := hcut
            clear hcut
            have hbb := hm.bb
            have c0 := hbb.cell 0
            have c1 := hbb.cell 1
            have c2 := hbb.cell 2
            have c3' := hbb.cell 3
            have x3 := hm.bx.cell 3
            simp only [ExprR.cells, List.getElem?_cons_zero, List.getElem?_cons_succ] at c0 c1 c2 c3' x3
            simp only [ExprR.kids, ExprR.sA, ExprR.sc] at x3
            generalize hxb : bareK (.mk ek en ename eA ec ekids) (some ⟨wr.heap.size + 2, 0, none⟩) = xb at *
            have hbz := hbb.lt
            clear hbb
            have hsz : SizeAt (wc.alloc (.cells #[.int .i64 0, .int .i64 0] 72)) wc.heap.size 0 0 := Blk.new wc 72 [.int .i64 ((0 : Nat) : Int), .int .i64 ((0 : Nat) : Int)]
            have hrx : RdE wc wc.heap.size xb := by
              rw [← hxb]
              have h0 := (HX.out.2.2.1.under (hm.below.mono hB)).more (B' := wc.heap.size) (by omega)
              unfold bareK
              split
              · rename_i h2
                have hnum : RdE wc wc.heap.size numE := ⟨_, RowE.nil _ _ _, (fun k hk => by cases hk), Nat.zero_le _⟩
                have hbm := hm.bm h2
                refine ⟨_, fun _ => ⟨wr.heap.size + 2, 0, rfl, hbm.lt, fun i hi => ExprAt.of_get fun j hj => ?_⟩, fun k hk => ?_, by show (2 : Nat) ≤ _; omega⟩
                · rw [show 0 + i * 4 + j = i * 4 + j by omega, hbm.cell]
                  exact cellsE_get [numE, numE] hi hj
                · have hk' : k ∈ [numE, numE] := hk
                  simp at hk'
                  subst hk'
                  exact hnum
              · exact h0
            have hnx : 0 + xb.nodes ≤ 1099511627776 := by
              rw [← hxb]
              unfold bareK
              have := HM.out.1
              have := HM.out.2
              split
              · simp [ExprR.nodes, nodesE, numE]
              · omega
            have hst := expr_any 51 xb _ wc.heap.size wc.heap.size 0 0 1 (hrx.keep fun p hp => World.cell?_alloc_lt wc _ p hp) (Nat.le_refl _) hsz (by omega) (by omega) (by omega) hnx
            have H8 := Lib.hid (And.intro hm (And.intro hst hxb)); clear hm hst hxb hsz hrx hnx
            have hsr0 : SrcAt w eA (cellsE ekids) := HX.out.2.2.1.row.src
            have hkB : RowE w B eA ekids := HX.out.2.2.1.row
            have Hk := Lib.hid hkB; clear hkB hsr0
            have hle : es'.length + ekids.length ≤ 1048576 := by
              have := HM.out.1
              have := HM.out.2
              have := length_leE ekids
              omega
            have Hle := Lib.hid hle; clear hle
            go_wp2_with (first
              | (go_at_call 53; (
                 refine (show Calls _ _ _ _ _ from H8.out.2.1).mono ?_
                 rintro E w5 ⟨b5, n5, d5, rfl, hS5, hg5, hs5⟩
                 have y3 := ((H8.out.1.bx.alloc (.cells #[.int .i64 0, .int .i64 0] 72)).grown hg5 (by simp; omega)).cell 3
                 simp only [ExprR.cells, List.getElem?_cons_zero, List.getElem?_cons_succ, ExprR.kids, ExprR.sA, ExprR.sc] at y3
                 have hbw := (H8.out.1.below.alloc (by have := H8.out.1.below.size; omega) (.cells #[.int .i64 0, .int .i64 0] 72)).grown hg5 (by have := H8.out.1.below.size; simp; omega) (fun k e => by cases e; exact H8.out.1.below.size)
                 have ho4 := own_new (H8.out.1.o4) ((World.grownBy_alloc wc (.cells #[.int .i64 0, .int .i64 0] 72) (some wc.heap.size)).trans hg5) (Nat.le_refl _)
                 have hsr : SrcAt w5 eA (cellsE ekids) := (Hk.out.keep fun p hp => hbw.cell (Nat.lt_of_lt_of_le hp hB)).src
                 have hwz := hbw.size
                 have H9 := Lib.hid (And.intro hS5 (And.intro hbw (And.intro ho4 (And.intro hsr hs5)))); clear hS5 hbw ho4 hsr hs5 hg5
                 cases b5))
              | (at_builtin; go_loud (
                 refine wpList_append_src rfl (.tmp 88) (.tmp 90) _ rfl w.heap.size 46 iE _ 4 56 Tryd.underlying44 HiE.out.1 HiE.out.2.1 HiE.out.2.2.1 HiE.out.2.2.2 rfl (by decide) (.slice (some ⟨g, 0, none⟩) es'.length c4) _ _ rfl H9.out.2.2.1 eA ekids.length ec (cellsE ekids) rfl (cellsE_length ekids) H9.out.2.2.2.1 (cellsE_one ekids) (by unfold maxLen; have := Hle.out; omega) (by have := Hle.out; omega) hwz ?_
                 intro v6 w6 hown6 hg6 hloc
                 have H7 := Lib.hid (And.intro hown6 hg6); clear hown6 hg6 hloc)))
            · go_ret
              refine ⟨false, rfl, ⟨fun h => (by cases h), fun h => ?_⟩, H9.out.2.1⟩
              have h1 := HX.out.2.2.2.2.2 h _ (List.mem_append_right es' (List.mem_singleton.2 rfl))
              have h2 := bareK_all (.mk ek en ename eA ec ekids) (some ⟨wr.heap.size + 2, 0, none⟩) h1.ok
              rw [H8.out.2.2] at h2
              have := (H9.out.2.2.2.2.ok h2).1
              cases this
            · have hok := H9.out.2.2.2.2.top (by omega) rfl
              rw [← H8.out.2.2] at hok
              have hok := (bareK_ok _ _).1 hok
              have hst := kal_step (es := es') hok
              go_roundg (gk - 1)
              case measure =>
                have := HM.out.1
                have := HM.out.2
                omega
              case rel =>
                have h1 := HM.out.1
                have h2 := HM.out.2
                refine ⟨es' ++ ekids, by rw [nodesE_append]; omega, by omega, by rw [List.length_append, cellsE_append]; exact H7.out.1, H9.out.2.1.grown H7.out.2 hwz (fun k hk => (own_lt H9.out.2.2.1 hk).2), fun e he => ?_, hst.trans HX.out.2.2.2.2⟩
                rcases List.mem_append.1 he with he | he
                · exact HX.out.2.2.2.1 e (List.mem_append_left _ he)
                · exact HX.out.2.2.1.kid he
    · rw [List.concat_eq_append] at *
      have hlen : (l' ++ [x]).length = l'.length + 1 := by simp
      have ho3 := hrl.o3
      rw [hlen] at ho3
      obtain ⟨g, c3, rfl, hg, hglt, hgc, hcm⟩ := own_top ho3 (by omega)
      have hx := own_statAt (i := l'.length) (l := l' ++ [x]) ho3 (by simp)
      simp only [List.getElem_append_right (Nat.le_refl _), Nat.sub_self, List.getElem_cons_zero] at hx
      have hcut : wr.ownsRow w.heap.size 49 8 (.slice (some ⟨g, 0, none⟩) l'.length c3) l'.length (cellsS l') := own_cut (ys := cellsS [x]) (by rw [← cellsS_append]; exact ho3) (cellsS_length l')
      have hnn := hgk
      rw [nodesS_append] at hnn
      simp only [nodesS] at hnn
      have hl1 := length_leS l'
      have hrd := hrl.rd x (by simp)
      have hgs : w.heap.size ≤ wr.heap.size := hrl.below.size
      have hroom := hrl.room
      rw [nodesS_append] at hroom
      simp only [nodesS] at hroom
      have hxn := x.nodes_eq
      have hbl : x.blocks.length ≤ 1048576 := hrd.fits
      obtain ⟨kind, name, ⟨ek, en, ename, eA, ec, ekids⟩, xn, xA, xc, blocks⟩ := x
      obtain ⟨x0, x1, x2, x3, x4, x5, x6, x7⟩ := hx
      simp only [StatR.kind, StatR.name, StatR.e, StatR.n, StatR.bA, StatR.bc, StatR.blocks, ExprR.kind, ExprR.n, ExprR.name, ExprR.sA, ExprR.sc, ExprR.kids] at x0 x1 x2 x3 x4 x5 x6 x7 hbl
      have hgn : ¬ (g = wr.heap.size) := by omega
      have HX := Lib.hid (And.intro hrl (And.intro hcut hrd)); clear hrl hcut hrd ho3
      have hmk := fun (w : World) => run_make_blocks w blocks.length (by omega)
      have HM := Lib.hid (And.intro hxn hgk); clear hxn hgk
      unfold maxLen at hcm
      go_upto_region 8 with (fail)
      generalize hW3 : ((wr.alloc (.cells #[.int .i64 kind, .string name, .int .i64 ek, .int .i64 en, .string ename, .slice eA ekids.length ec, .int .i64 xn, .slice xA blocks.length xc] 49)).alloc (.cells #[.int .i64 kind, .string name, .int .i64 ek, .int .i64 en, .string ename, .slice eA ekids.length ec, .int .i64 xn, .slice (some ⟨wr.heap.size + 1 + 1, 0, none⟩) blocks.length blocks.length] 49)).alloc (.cells (Array.replicate blocks.length (.slice none 0 0)) 22) = W3
      obtain ⟨hb3, hz3, hx3, hq3, hm3⟩ := three_boxes hW3
      have hc2 := hx3.cell 2
      have hc3 := hx3.cell 3
      have hc4 := hx3.cell 4
      have hc5 := hx3.cell 5
      simp at hc2 hc3 hc4 hc5
      have H3 := Lib.hid (And.intro hb3 (And.intro hz3 (And.intro hx3 (And.intro hq3 hm3)))); clear hb3 hx3 hq3 hm3 hW3
      clear x0 x1 x2 x3 x4 x5 x6 x7
      go_upto_if 38 with (go_at_call 52; (
        refine (none_any _ (.mk ek en ename eA ec ekids)).mono ?_
        rintro E w2 ⟨rfl, hb2⟩
        have hbx := H3.out.2.2.1.below hb2 H3.out.2.2.1.lt
        have hbq := H3.out.2.2.2.1.below hb2 H3.out.2.2.2.1.lt
        have hbm := H3.out.2.2.2.2.below hb2 H3.out.2.2.2.2.lt
        have hbb := H3.out.1.trans (hb2.mono (by omega))
        clear hc2 hc3 hc4 hc5
        have y2 := hbx.cell 2
        have y3 := hbx.cell 3
        have y4 := hbx.cell 4
        have y5 := hbx.cell 5
        simp at y2 y3 y4 y5
        have hz2 := hb2.size
        have H4 := Lib.hid (And.intro hbx (And.intro hbq (And.intro hbm hbb))); clear hbx hbq hbm hbb hb2
        generalize hbn : decide (noneE (ExprR.mk ek en ename eA ec ekids)) = bn))
      go_cut [4] (fun v4 wc => ∃ es2 : List ExprR, ShalMid w wc wr.heap.size (.mk kind name (.mk ek en ename eA ec ekids) xn xA xc blocks) es es2 (.slice (some ⟨g, 0, none⟩) l'.length c3) v4 l')
      case first =>
        have hrl := HX.out.1
        have hcu := HX.out.2.1
        have ho3 := own_below hcu H4.out.2.2.2
        have ho4 := own_below hrl.o4 H4.out.2.2.2
        have hap := hrl.apart
        have hbw := hrl.below.trans (H4.out.2.2.2.mono hgs)
        have H5 := Lib.hid (And.intro ho3 (And.intro ho4 (And.intro hap hbw))); clear hrl hcu ho3 ho4 hap hbw
        cases bn with
        | true =>
          have hne := of_decide_eq_true hbn
          have Hne := Lib.hid hne; clear hne hbn
          go_wp2_with fail
          go_meet
          case rel => exact ⟨es, H5.out.1, H5.out.2.1, H5.out.2.2.1, H5.out.2.2.2, H4.out.1, by rw [bareS_cells_none Hne.out]; exact H4.out.2.1, H4.out.2.2.1, (if_pos Hne.out).symm⟩
        | false =>
          have hne := of_decide_eq_false hbn
          have Hne := Lib.hid hne; clear hne hbn
          have f2 := H4.out.2.1.frozen 2
          have f3 := H4.out.2.1.frozen 3
          have f4 := H4.out.2.1.frozen 4
          have f5 := H4.out.2.1.frozen 5
          have z2 := H4.out.2.1.cell 2
          have z3 := H4.out.2.1.cell 3
          have z4 := H4.out.2.1.cell 4
          have z5 := H4.out.2.1.cell 5
          simp at z2 z3 z4 z5
          have hst := store4 H4.out.2.1 (.int .i64 1) (.int .i64 0) (.string ⟨#[]⟩) (.slice none 0 0)
          have hl3 := fun k (h : (Value.slice (some ⟨g, 0, none⟩) l'.length c3).ownBlock = some k) => (own_lt HX.out.2.1 h).1
          have hl4 := fun k (h : u4.ownBlock = some k) => (own_lt HX.out.1.o4 h).1
          have hzs : w2.heap.size ≤ _ := hst.2.size
          have ho4 := (own_grown H5.out.2.1 hst.2 (fun k hk e => by cases e; have := hl4 _ hk; omega)).alloc (.cells #[.int .i64 ek, .int .i64 en, .string ename, .slice eA ekids.length ec] 46)
          have ho3 := (own_grown H5.out.1 hst.2 (fun k hk e => by cases e; have := hl3 _ hk; omega)).alloc (.cells #[.int .i64 ek, .int .i64 en, .string ename, .slice eA ekids.length ec] 46)
          have hbx := (H4.out.1.grown hst.2 (by simp)).alloc (.cells #[.int .i64 ek, .int .i64 en, .string ename, .slice eA ekids.length ec] 46)
          have hbm := (H4.out.2.2.1.grown hst.2 (by simp)).alloc (.cells #[.int .i64 ek, .int .i64 en, .string ename, .slice eA ekids.length ec] 46)
          have hbb := hst.1.alloc (.cells #[.int .i64 ek, .int .i64 en, .string ename, .slice eA ekids.length ec] 46)
          have hbw := (H5.out.2.2.2.grown hst.2 (by omega) (fun k e => by cases e; omega)).alloc (by omega) (.cells #[.int .i64 ek, .int .i64 en, .string ename, .slice eA ekids.length ec] 46)
          have hnw : Blk (((((w2.setCell ⟨wr.heap.size + 1, 2, none⟩ (.int .i64 1)).setCell ⟨wr.heap.size + 1, 3, none⟩ (.int .i64 0)).setCell ⟨wr.heap.size + 1, 4, none⟩ (.string ⟨#[]⟩)).setCell ⟨wr.heap.size + 1, 5, none⟩ (.slice none 0 0)).alloc (.cells #[.int .i64 ek, .int .i64 en, .string ename, .slice eA ekids.length ec] 46)) w2.heap.size 46 (cellsE [.mk ek en ename eA ec ekids]) := by
            have h := Blk.new ((((w2.setCell ⟨wr.heap.size + 1, 2, none⟩ (.int .i64 1)).setCell ⟨wr.heap.size + 1, 3, none⟩ (.int .i64 0)).setCell ⟨wr.heap.size + 1, 4, none⟩ (.string ⟨#[]⟩)).setCell ⟨wr.heap.size + 1, 5, none⟩ (.slice none 0 0)) 46 (cellsE [.mk ek en ename eA ec ekids])
            rwa [show ((((w2.setCell ⟨wr.heap.size + 1, 2, none⟩ (.int .i64 1)).setCell ⟨wr.heap.size + 1, 3, none⟩ (.int .i64 0)).setCell ⟨wr.heap.size + 1, 4, none⟩ (.string ⟨#[]⟩)).setCell ⟨wr.heap.size + 1, 5, none⟩ (.slice none 0 0)).heap.size = w2.heap.size by simp [World.setCell]] at h
          have hsr : SrcAt _ (some ⟨w2.heap.size, 0, none⟩) (cellsE [.mk ek en ename eA ec ekids]) := fun _ => ⟨_, _, rfl, fun j u hu => by rw [hnw.cellAdd]; exact hu⟩
          have hel := length_leE es
          have H6 := Lib.hid (And.intro ho4 (And.intro ho3 (And.intro hbx (And.intro hbm (And.intro hbb (And.intro hbw hsr)))))); clear ho4 ho3 hbx hbm hbb hbw hsr hnw hst
          clear hzs
          go_wp2_with (at_builtin; go_loud (
            refine wpList_append_src rfl (.tmp 41) (.tmp 44) _ rfl w.heap.size 46 iE _ 4 56 Tryd.underlying44 HiE.out.1 HiE.out.2.1 HiE.out.2.2.1 HiE.out.2.2.2 rfl (by decide) u4 es.length (cellsE es) rfl H6.out.1 (some ⟨w2.heap.size, 0, none⟩) 1 1 _ rfl (cellsE_length _) H6.out.2.2.2.2.2.2 (cellsE_one _) (by unfold maxLen; omega) (by omega) (by simp [World.setCell]; omega) ?_
            intro v5 w5 hown5 hg5 hloc
            have H7 := Lib.hid (And.intro hown5 (And.intro hg5 hloc)); clear hown5 hg5 hloc))
          go_meet
          case rel =>
            obtain ⟨p4, p3, px, pm, pb, pw, _⟩ := H6.out
            obtain ⟨q4, qg, ql⟩ := H7.out
            have ne4 : ∀ k, wr.heap.size ≤ k → some k ≠ u4.ownBlock := fun k hk e => by have := hl4 k e.symm; omega
            refine ⟨es ++ [.mk ek en ename eA ec ekids], own_grown p3 qg (fun k hk e => H5.out.2.2.1 k hk e), by rw [List.length_append, cellsE_append]; exact q4, fun k hk e => ?_, pw.grown qg (by have := pw.size; omega) (fun k hk => (own_lt HX.out.1.o4 hk).2), px.grown qg (ne4 _ (Nat.le_refl _)), ?_, pm.grown qg (ne4 _ (by omega)), (if_neg Hne.out).symm⟩
            · rcases ql with ql | ql
              · exact H5.out.2.2.1 k hk (ql.symm.trans e)
              · rw [ql] at e
                cases e
                have := hl3 _ hk
                simp [World.setCell] at this
                omega
            · rw [bareS_cells_some Hne.out]
              exact pb.grown qg (ne4 _ (by omega))
      case rest =>
        obtain ⟨es2, hm⟩ := hcut
        have hbb := hm.bb
        have c0 := hbb.cell 0
        have c1 := hbb.cell 1
        have c2 := hbb.cell 2
        have c3' := hbb.cell 3
        have c4 := hbb.cell 4
        have c5 := hbb.cell 5
        have c6 := hbb.cell 6
        have c7 := hbb.cell 7
        have x7 := hm.bx.cell 7
        simp only [StatR.cells, List.getElem?_cons_zero, List.getElem?_cons_succ] at c0 c1 c2 c3' c4 c5 c6 c7 x7
        simp only [StatR.blocks, StatR.bA, StatR.bc] at x7
        generalize hxb : bareS (.mk kind name (.mk ek en ename eA ec ekids) xn xA xc blocks) (some ⟨wr.heap.size + 2, 0, none⟩) = xb at *
        have hbz := hbb.lt
        have hmz := hm.bm.lt
        clear hbb
        have hsz : SizeAt (wc.alloc (.cells #[.int .i64 0, .int .i64 0] 72)) wc.heap.size 0 0 := Blk.new wc 72 [.int .i64 ((0 : Nat) : Int), .int .i64 ((0 : Nat) : Int)]
        have hrx : RdS wc wc.heap.size xb := by
          rw [← hxb]
          refine ⟨_, ?_, fun _ => ⟨wr.heap.size + 2, 0, rfl, hmz, fun i hi => ?_⟩, fun b hb => ?_, fun b hb y hy => ?_, ?_⟩
          · show RdE wc wc.heap.size (bareE (.mk ek en ename eA ec ekids))
            unfold bareE
            split
            · exact (HX.out.2.2.e.under (hm.below.mono hB)).more (by omega)
            · exact ⟨_, RowE.nil _ _ _, (fun k hk => by cases hk), Nat.zero_le _⟩
          · have hi' : i < (List.replicate blocks.length nilB).length := hi
            rw [Nat.zero_add, hm.bm.cell]
            simp only [bareS, StatR.blocks, List.getElem_replicate] at hi ⊢
            rw [List.getElem?_replicate, if_pos (by simpa using hi)]
            rfl
          · have : b ∈ List.replicate blocks.length nilB := hb
            rw [(List.mem_replicate.1 this).2]
            exact ⟨RowS.nil _ _ _, Nat.zero_le _⟩
          · have : b ∈ List.replicate blocks.length nilB := hb
            rw [(List.mem_replicate.1 this).2] at hy
            cases hy
          · show Fits (List.replicate blocks.length nilB).length
            rw [List.length_replicate]
            exact hbl
        have hst := stat_any 51 xb _ wc.heap.size wc.heap.size 0 0 1 (hrx.keep fun p hp => World.cell?_alloc_lt wc _ p hp) (Nat.le_refl _) hsz (by omega) (by omega) (by omega) (by have := (bareS_small (.mk kind name (.mk ek en ename eA ec ekids) xn xA xc blocks) (some ⟨wr.heap.size + 2, 0, none⟩)).2; rw [hxb] at this; omega)
        have H8 := Lib.hid (And.intro hm (And.intro hst hxb)); clear hm hst hxb hsz hrx
        go_wp2_with (go_at_call 50; (
          refine (show Calls _ _ _ _ _ from H8.out.2.1).mono ?_
          rintro E w5 ⟨b5, n5, d5, rfl, hS5, hg5, hs5⟩
          have y7 := ((H8.out.1.bx.alloc (.cells #[.int .i64 0, .int .i64 0] 72)).grown hg5 (by simp; omega)).cell 7
          simp only [StatR.cells, List.getElem?_cons_zero, List.getElem?_cons_succ, StatR.blocks, StatR.bA, StatR.bc] at y7
          have hgz := hg5.size
          have H9 := Lib.hid (And.intro hS5 (And.intro hg5 hs5)); clear hS5 hg5 hs5
          cases b5))
        · go_ret
          refine ⟨false, rfl, ⟨fun h => (by cases h), fun h => ?_⟩, ?_⟩
          · have h1 := (HX.out.1.iff_.2 h).1 _ (List.mem_append_right l' (List.mem_singleton.2 rfl))
            have h2 := h1.bare (some ⟨wr.heap.size + 2, 0, none⟩)
            rw [H8.out.2.2] at h2
            have := (H9.out.2.2.ok h2).1
            cases this
          · exact (H8.out.1.below.alloc (by have := H8.out.1.below.size; omega) _).grown H9.out.2.1 (by have := H8.out.1.below.size; simp; omega) (fun k e => by cases e; exact H8.out.1.below.size)
        · have hall := H9.out.2.2.back (by have := (bareS_small (.mk kind name (.mk ek en ename eA ec ekids) xn xA xc blocks) (some ⟨wr.heap.size + 2, 0, none⟩)).1; rw [H8.out.2.2] at this; omega) rfl
          rw [← H8.out.2.2] at hall
          obtain ⟨hok, hkn⟩ := (bareS_all _ _).1 hall
          have hst := shal_step (l' := l') (es := es) hok hkn
          rw [← H8.out.1.eq] at hst
          have hbw := (H8.out.1.below.alloc (by have := H8.out.1.below.size; omega) (.cells #[.int .i64 0, .int .i64 0] 72)).grown H9.out.2.1 (by have := H8.out.1.below.size; simp; omega) (fun k e => by cases e; exact H8.out.1.below.size)
          have ho3 := own_new (H8.out.1.o3) ((World.grownBy_alloc wc (.cells #[.int .i64 0, .int .i64 0] 72) (some wc.heap.size)).trans H9.out.2.1) (Nat.le_refl _)
          have ho4 := own_new (H8.out.1.o4) ((World.grownBy_alloc wc (.cells #[.int .i64 0, .int .i64 0] 72) (some wc.heap.size)).trans H9.out.2.1) (Nat.le_refl _)
          have HS := Lib.hid (And.intro hst (And.intro hbw (And.intro ho3 ho4))); clear hst hbw ho3 ho4 hall hok hkn
          obtain ⟨gq, hgq⟩ : ∃ gq, gq = gk := ⟨_, rfl⟩
          have HG := Lib.hid hgq; clear hgq
          have hnb : nodesS l' + nodesB blocks < 1048576 := by
            have := HM.out.1
            simp only [StatR.blocks] at this
            omega
          have Hnb := Lib.hid hnb; clear hnb
          clear c0 c1 c2 c3' c4 c5 c6 c7 x7
          go_wp2_with fail
          go_loopg [3, 53] blocks.length (fun gk v3 i wi => ∃ q : Nat, gk + q = blocks.length ∧ i = .int .i64 q ∧ wi.ownsRow w.heap.size 49 8 v3 (l' ++ flatB (blocks.take q)).length (cellsS (l' ++ flatB (blocks.take q))) ∧ wi.ownsRow w.heap.size 46 4 u4 es2.length (cellsE es2) ∧ (∀ g, v3.ownBlock = some g → u4.ownBlock ≠ some g) ∧ Below w.heap.size w wi)
          case atStart => exact ⟨0, by omega, rfl, by simpa [flatB] using HS.out.2.2.1, HS.out.2.2.2, H8.out.1.apart, HS.out.2.1⟩
          case round =>
            obtain ⟨q, hgq, rfl, ho3, ho4, hap, hbw⟩ := hrel
            by_cases hq : q < blocks.length
            · have hrb := HX.out.2.2.row
              obtain ⟨bb, o, e0, hbB, hx⟩ := hrb.at_ (i := q) hq
              simp only [StatR.bA, StatR.blocks] at e0 hx
              subst e0
              have hx := (hbw.cell (p := ⟨bb, o + q, none⟩) (Nat.lt_of_lt_of_le hbB hB)).trans hx
              have hRb := (HX.out.2.2.block (b := blocks[q]) (List.getElem_mem hq)).under (hbw.mono hB)
              have hfl : flatB (blocks.take (q + 1)) = flatB (blocks.take q) ++ blocks[q].l := by rw [take_snocA hq, flatB_append]; simp [flatB]
              have hle : nodesS (l' ++ flatB (blocks.take (q + 1))) ≤ 1048576 := by
                rw [nodesS_append, nodes_flatB]
                have := nodesB_take blocks (q + 1)
                have := Hnb.out
                omega
              rw [hfl, ← List.append_assoc] at hle
              have hle2 := length_leS (l' ++ flatB (blocks.take q) ++ blocks[q].l)
              obtain ⟨kk, hke⟩ : ∃ kk, blocks[q] = kk := ⟨_, rfl⟩
              rw [hke] at hx hRb hfl hle hle2
              obtain ⟨kA, kc, kl⟩ := kk
              simp only [BlockR.val, BlockR.A, BlockR.l, BlockR.c] at hx hfl hle hle2
              rw [List.length_append] at hle2
              have hsr : SrcAt wr kA (cellsS kl) := hRb.row.src
              have hwz := hbw.size
              have HE := Lib.hid (And.intro ho3 (And.intro ho4 (And.intro hap (And.intro hbw (And.intro hsr hfl))))); clear ho3 ho4 hap hbw hsr hfl hRb hke hrb
              go_wp2_with (at_builtin; go_loud (
                refine wpList_append_src rfl (.tmp 57) (.tmp 58) _ rfl w.heap.size 49 iS _ 8 112 Tryd.underlying22 HiS.out.1 HiS.out.2.1 HiS.out.2.2.1 HiS.out.2.2.2 rfl (by decide) u3 _ _ rfl HE.out.1 kA kl.length kc (cellsS kl) rfl (cellsS_length kl) HE.out.2.2.2.2.1 (cellsS_one kl) (by unfold maxLen; omega) (by omega) hwz ?_
                intro v6 w6 hown6 hg6 hloc
                have H7 := Lib.hid (And.intro hown6 (And.intro hg6 hloc)); clear hown6 hg6 hloc))
              go_roundg (gk - 1)
              case measure => omega
              case rel =>
                obtain ⟨q3, qg, ql⟩ := H7.out
                obtain ⟨p3, p4, pa, pw, _, pf⟩ := HE.out
                refine ⟨q + 1, by omega, by go_num, ?_, own_grown p4 qg (fun k hk e => pa k e hk), fun k hk e => ?_, pw.grown qg hwz (fun k hk => (own_lt p3 hk).2)⟩
                · rw [pf, ← List.append_assoc, List.length_append, cellsS_append]
                  exact q3
                · rcases ql with ql | ql
                  · exact pa k (ql.symm.trans hk) e
                  · rw [ql] at hk
                    cases hk
                    have := (own_lt p4 e).1
                    omega
            · have hend : blocks.take q = blocks := List.take_of_length_le (by omega)
              rw [hend] at ho3
              have HE := Lib.hid (And.intro ho3 (And.intro ho4 (And.intro hap hbw))); clear ho3 ho4 hap hbw hend
              go_wp2_with fail
              go_roundg (gq - 1)
              case measure =>
                have := HG.out
                have := HM.out.1
                have := HM.out.2
                rw [nodesS_append] at this
                simp only [nodesS] at this
                omega
              case rel =>
                obtain ⟨p3, p4, pa, pw⟩ := HE.out
                have hrl := HX.out.1
                have hg := HM.out.2
                rw [nodesS_append] at hg
                simp only [nodesS] at hg
                have hxn := HM.out.1
                simp only [StatR.blocks, StatR.e] at hxn
                refine ⟨l' ++ flatB blocks, es2, ?_, p3, p4, pa, pw, fun y hy => ?_, fun e he => ?_, ?_, HS.out.1.trans hrl.iff_⟩
                · rw [nodesS_append, nodes_flatB]
                  have := HG.out
                  omega
                · rcases List.mem_append.1 hy with hy | hy
                  · exact hrl.rd y (List.mem_append_left _ hy)
                  · simp only [flatB, List.mem_flatMap] at hy
                    obtain ⟨b, hb, hy⟩ := hy
                    exact (HX.out.2.2.block hb).each y hy
                · rw [H8.out.1.eq] at he
                  split at he
                  · exact hrl.re e he
                  · rcases List.mem_append.1 he with he | he
                    · exact hrl.re e he
                    · rw [List.mem_singleton.1 he]
                      exact HX.out.2.2.e
                · rw [H8.out.1.eq, nodesS_append, nodes_flatB]
                  split
                  · omega
                  · rw [nodesE_append]
                    simp only [nodesE, StatR.e]
                    omega
end Go.Proofs.YtgiceeholamphaaDoor
