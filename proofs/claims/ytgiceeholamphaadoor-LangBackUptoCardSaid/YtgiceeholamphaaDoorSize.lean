/- The contracts of lang's size: expr, stat, block: what a look makes of a program. No conditions but that what is read is there, and that it can be counted. -/
import Derived.Test.YtgiceeholamphaaDoorNamed
import Derived.Deep.LoopGhost
import Derived.Deep.QuietTactic
namespace Go.Proofs.YtgiceeholamphaaDoor
open Go.ChangeShapes Go.WideShapes Go.ChangeAt Go.RowKit

section
variable {a w w' : World} {row : Option Nat} {g : Nat}
theorem gb_trans (h : a.grownBy w row) (k : w.grownBy w' row) : a.grownBy w' row := ⟨k.os.trans h.os, k.tape.trans h.tape, k.output.trans h.output, Nat.le_trans h.size k.size, fun i hi hr => (k.block i (Nat.lt_of_lt_of_le hi h.size) hr).trans (h.block i hi hr)⟩
theorem gb_alloc (h : a.grownBy w row) (o : Obj) : a.grownBy (w.alloc o) row := gb_trans h (World.grownBy_alloc w o row)
theorem gb_below (h : a.grownBy w row) (k : Below w.heap.size w w') : a.grownBy w' row := gb_trans h ⟨k.os, k.tape, k.output, k.size, fun i hi _ => k.block i hi⟩
theorem gb_set (h : a.grownBy w (some g)) (i : Nat) (v : Value) : a.grownBy (w.setCell ⟨g, i, none⟩ v) (some g) :=
  gb_trans h ⟨rfl, rfl, rfl, by simp [World.setCell], fun k _ hr => Below.heap_setCell w _ v k (by rintro rfl; exact hr rfl)⟩
theorem gb_cell (h : a.grownBy w (some g)) {p : Addr} (hp : p.block < g) (hg : g < a.heap.size) : w.cell? p = a.cell? p := by
  simp only [World.cell?, h.block p.block (by omega) (by simp; omega)]
end
/-- The counter lies in block g. -/
def SizeAt (w : World) (g n d : Nat) : Prop := Blk w g 72 [.int .i64 n, .int .i64 d]
def SeenE (e : ExprR) (lev n d g : Nat) (w : World) (E : Ending) (w' : World) : Prop :=
  ∃ b n' d', E = .returned (.bool b) ∧ SizeAt w' g n' d' ∧ w.grownBy w' (some g) ∧ SawE e lev n d b n' d'
theorem depthE_two {e x y : ExprR} (h : e.kids = [x, y]) : e.depth = 1 + max x.depth y.depth ∧ e.nodes = 1 + x.nodes + y.nodes := by
  rw [e.depth_eq, e.nodes_eq, h]
  simp only [depthE, nodesE]
  omega
theorem size_zero {s : ByteArray} : s.size = 0 ↔ s.toList = [] := by
  rw [ByteArray.toList_eq]
  constructor
  · intro h
    exact List.eq_nil_of_length_eq_zero h
  · intro h
    show s.data.toList.length = 0
    rw [h]; rfl
theorem size_end {w : World} {g n d n' d' : Nat} {x y : Int} (h : SizeAt w g n d) (hx : x = (n' : Int)) (hy : y = (d' : Int)) : SizeAt ((w.setCell ⟨g, 0, none⟩ (.int .i64 x)).setCell ⟨g, 1, none⟩ (.int .i64 y)) g n' d' := by
  subst hx hy
  exact (Blk.set_ h 0 (.int .i64 n')).set_ 1 (.int .i64 d')
/-- What was boxed behind the counter's two stores is there behind a call, too. -/
theorem box_below {w w2 : World} {p q : Addr} {u v : Value} {C : Array Value} {t : TypeId} (hb : Below (((w.setCell p u).setCell q v).alloc (.cells C t)).heap.size (((w.setCell p u).setCell q v).alloc (.cells C t)) w2) (i : Nat) : w2.cell? ⟨w.heap.size, i, none⟩ = C[i]? := by
  have e : ((w.setCell p u).setCell q v).heap.size = w.heap.size := by simp [World.setCell]
  have h0 : (((w.setCell p u).setCell q v).alloc (.cells C t)).heap[w.heap.size]? = some (.cells C t (0, 0)) := by rw [← e]; exact heap_alloc_new _ _
  have h := (hb.block w.heap.size (by simp [World.alloc, World.setCell])).trans h0
  rw [cell_of_row w2 _ i _ _ _ h]
theorem box_grown {w w2 : World} {p q : Addr} {u v : Value} {C : Array Value} {t : TypeId} {g : Nat} (hb : (((w.setCell p u).setCell q v).alloc (.cells C t)).grownBy w2 (some g)) (hg : g < w.heap.size) (i : Nat) : w2.cell? ⟨w.heap.size, i, none⟩ = C[i]? := by
  have e : ((w.setCell p u).setCell q v).heap.size = w.heap.size := by simp [World.setCell]
  have h0 : (((w.setCell p u).setCell q v).alloc (.cells C t)).heap[w.heap.size]? = some (.cells C t (0, 0)) := by rw [← e]; exact heap_alloc_new _ _
  have h := (hb.block w.heap.size (by simp [World.alloc, World.setCell]) (by simp; omega)).trans h0
  rw [cell_of_row w2 _ i _ _ _ h]
theorem old_grown {w w2 : World} {g : Nat} {u v : Value} {o : Obj} (hb : (((w.setCell ⟨g, 0, none⟩ u).setCell ⟨g, 1, none⟩ v).alloc o).grownBy w2 (some g)) (hg : g < w.heap.size) : ∀ p : Addr, p.block < g → w2.cell? p = w.cell? p :=
  fun _ hp => gb_cell (gb_trans (gb_alloc (gb_set (gb_set (World.grownBy.refl _ _) _ _) _ _) _) hb) hp hg
theorem SawE.cut {e x y : ExprR} {lev n d n1 d1 : Nat} (hk : e.kids = [x, y]) (h : SawE x (lev + 1) (n + 1) (max d lev) false n1 d1) : SawE e lev n d false n1 d1 := by
  obtain ⟨h1, h2⟩ := depthE_two hk
  have := h.up
  have := h.deep
  exact ⟨by omega, by omega, (fun ha => by have := (h.ok (ha.kid (by rw [hk]; simp))).1; cases this), (fun _ hb => by cases hb), fun _ hb => by cases hb⟩
theorem SawE.two {e x y : ExprR} {lev n d n1 d1 n2 d2 : Nat} {b : Bool} (hl : 1 ≤ lev) (hok : okE e) (hk : e.kids = [x, y]) (h : SawE x (lev + 1) (n + 1) (max d lev) true n1 d1) (h' : SawE y (lev + 1) n1 d1 b n2 d2) : SawE e lev n d b n2 d2 := by
  obtain ⟨h1, h2⟩ := depthE_two hk
  have := h.up
  have := h.deep
  have := h'.up
  have := h'.deep
  have := depthE_pos x
  have := depthE_pos y
  refine ⟨by omega, by omega, fun ha => ?_, fun hle hb => ⟨e, hok, fun k hkm => ?_⟩, fun _ _ => hok⟩
  rotate_left
  · rw [hk] at hkm
    simp only [List.mem_cons, List.not_mem_nil, or_false] at hkm
    rcases hkm with rfl | rfl
    · exact h.back (by omega) rfl
    · exact h'.back (by omega) hb
  have a1 := h.ok (ha.kid (by rw [hk]; simp))
  have a2 := h'.ok (ha.kid (by rw [hk]; simp))
  exact ⟨a2.1, by omega, fun hle => by have := a1.2.2 (by omega); have := a2.2.2 (by omega); omega⟩
/-- A leaf. -/
theorem SawE.leaf {e : ExprR} {lev n d : Nat} {b : Bool} (hl : 1 ≤ lev) (hl2 : lev ≤ 51) (hd : d ≤ 52) (hb : AllE e → b = true ∧ e.kids = []) (hk : b = true → AllE e) : SawE e lev n d b (n + 1) (max d lev) := by
  have h1 := nodesE_pos e
  refine ⟨by omega, by omega, fun ha => ?_, fun _ => hk, fun _ hb => (hk hb).ok⟩
  obtain ⟨h2, h3⟩ := hb ha
  have h4 := e.depth_eq
  have h5 := e.nodes_eq
  rw [h3] at h4 h5
  simp only [depthE, nodesE] at h4 h5
  exact ⟨h2, by omega, by omega⟩
set_option maxRecDepth 100000 in
set_option maxHeartbeats 8000000 in
theorem expr_any : ∀ (r : Nat) (e : ExprR) (w : World) (B g n d lev : Nat), RdE w B e → B ≤ g → SizeAt w g n d → lev + r = 52 → 1 ≤ lev → d ≤ 52 → n + e.nodes ≤ 1099511627776 →
    Calls Tryd.prog 53 #[.pointer (some ⟨g, 0, none⟩), e.val, .int .i64 lev] w (SeenE e lev n d g w) := by
  intro r
  induction r with
  | zero =>
    intro e w B g n d lev hR hB hS hlr hl hd hn
    obtain ⟨kind, m, name, sA, sc, kids⟩ := e
    have h1 : (51 : Int) < lev := by omega
    have hw : wrap64 ((n : Int) + 1) = (n : Int) + 1 := by unfold wrap64; omega
    have hfin : SawE (.mk kind m name sA sc kids) lev n d true (n + 1) (max d lev) := by
      have h1 := nodesE_pos (.mk kind m name sA sc kids)
      have h2 := depthE_pos (.mk kind m name sA sc kids)
      exact ⟨by omega, by omega, fun _ => ⟨rfl, by omega, by omega⟩, (fun h _ => by omega), fun h _ => by omega⟩
    have c0 := hS.cell 0
    have c1 := hS.cell 1
    have f0 := hS.frozen 0
    have f1 := hS.frozen 1
    have hlt := hS.lt
    simp only [List.getElem?_cons_zero, List.getElem?_cons_succ] at c0 c1
    have HS := Lib.hid hS; clear hS
    have Fin := Lib.hid hfin; clear hfin
    clear hR hn
    show Calls Tryd.prog 53 #[.pointer (some ⟨g, 0, none⟩), .agg #[.int .i64 kind, .int .i64 m, .string name, .slice sA kids.length sc], .int .i64 lev] w _
    go_enter Tryd.func53, Tryd.ntmps53
    go_wp2_with fail
    all_goals
      rename_i hdl
      go_ret
      refine ⟨true, n + 1, max d lev, rfl, (size_end HS.out (by omega) (by omega)).alloc _, gb_alloc (gb_set (gb_set (World.grownBy.refl _ _) _ _) _ _) _, Fin.out⟩
  | succ r ih =>
    intro e w B g n d lev hR hB hS hlr hl hd hn
    have hw : wrap64 ((n : Int) + 1) = (n : Int) + 1 := by unfold wrap64; omega
    have hw2 : wrap64 ((lev : Int) + 1) = (lev : Int) + 1 := by unfold wrap64; omega
    have h1 : ¬ (51 : Int) < lev := by omega
    obtain ⟨kind, m, name, sA, sc, kids⟩ := e
    have c0 := hS.cell 0
    have c1 := hS.cell 1
    have f0 := hS.frozen 0
    have f1 := hS.frozen 1
    have hlt := hS.lt
    simp only [List.getElem?_cons_zero, List.getElem?_cons_succ] at c0 c1
    have HS := Lib.hid hS; clear hS
    have IH := Lib.hid ih; clear ih
    have HR := Lib.hid hR; clear hR
    have Hn := Lib.hid hn; clear hn
    by_cases k1 : kind = 1
    · subst k1
      have hb : AllE (.mk 1 m name sA sc kids) → 0 ≤ m ∧ m ≤ 1000000000 ∧ name.toList = [] ∧ kids = [] := fun ha => by
        rcases ha.ok with h | h | h
        · exact ⟨h.2.1, h.2.2.1, size_zero.1 h.2.2.2.1, List.length_eq_zero_iff.1 h.2.2.2.2⟩
        · have := h.1; simp [ExprR.kind] at this
        · have := h.1; simp [ExprR.kind] at this
      have Hb := Lib.hid hb; clear hb
      have Hm := Lib.hid (show 0 ≤ m → m ≤ 1000000000 → name.toList = [] → (kids.length : Int) = 0 → AllE (.mk 1 m name sA sc kids) from fun h1 h2 h3 h4 => by
        obtain rfl : kids = [] := List.eq_nil_of_length_eq_zero (by omega)
        exact ⟨_, .inl ⟨rfl, h1, h2, size_zero.2 h3, rfl⟩, fun k hk => by simp [ExprR.kids] at hk⟩)
      by_cases hdl : d < lev
      all_goals
        show Calls Tryd.prog 53 #[.pointer (some ⟨g, 0, none⟩), .agg #[.int .i64 1, .int .i64 m, .string name, .slice sA kids.length sc], .int .i64 lev] w _
        go_enter Tryd.func53, Tryd.ntmps53
        go_wp2_with fail
        all_goals
          go_ret
          refine ⟨_, n + 1, max d lev, rfl, (size_end HS.out (by omega) (by omega)).alloc _, gb_alloc (gb_set (gb_set (World.grownBy.refl _ _) _ _) _ _) _, SawE.leaf hl (by omega) hd (fun ha => ?_) fun hb' => ?_⟩
          · obtain ⟨q1, q2, q3, q4⟩ := Hb.out ha
            first | (exfalso; omega) | (exfalso; contradiction) | exact ⟨by simp [q4], q4⟩
          · first
              | (exfalso; revert hb'; simp; done)
              | exact Hm.out (by omega) (by omega) (by assumption) (by simpa using hb')
    by_cases k2 : kind = 2
    · subst k2
      clear k1
      have hb : AllE (.mk 2 m name sA sc kids) → m = 0 ∧ named name ∧ kids = [] := fun ha => by
        rcases ha.ok with h | h | h
        · have := h.1; simp [ExprR.kind] at this
        · exact ⟨h.2.1, h.2.2.1, List.length_eq_zero_iff.1 h.2.2.2⟩
        · have := h.1; simp [ExprR.kind] at this
      have Hb := Lib.hid hb; clear hb
      have Hmk := Lib.hid (show m = 0 → named name → (kids.length : Int) = 0 → AllE (.mk 2 m name sA sc kids) from fun h1 h2 h4 => by
        obtain rfl : kids = [] := List.eq_nil_of_length_eq_zero (by omega)
        exact ⟨_, .inr (.inl ⟨rfl, h1, h2, rfl⟩), fun k hk => by simp [ExprR.kids] at hk⟩)
      by_cases hm : m = 0
      · subst hm
        by_cases hnm : named name
        · have Hnm := Lib.hid hnm; clear hnm
          by_cases hdl : d < lev
          all_goals
            show Calls Tryd.prog 53 #[.pointer (some ⟨g, 0, none⟩), .agg #[.int .i64 2, .int .i64 0, .string name, .slice sA kids.length sc], .int .i64 lev] w _
            go_enter Tryd.func53, Tryd.ntmps53
            go_wp2_with (go_at_call 78; refine (isName_any _ _).mono ?_; rintro E w2 ⟨rfl, hbw⟩; rw [decide_eq_true Hnm.out]; have x3 := box_below hbw 3; have Hbw := Lib.hid hbw; clear hbw; simp at x3)
            go_ret
            refine ⟨_, n + 1, max d lev, rfl, Blk.below ((size_end HS.out (by omega) (by omega)).alloc _) Hbw.out (by simp [World.setCell]; omega), gb_below (gb_alloc (gb_set (gb_set (World.grownBy.refl _ _) _ _) _ _) _) Hbw.out, SawE.leaf hl (by omega) hd (fun ha => ?_) fun hb' => Hmk.out (by trivial) Hnm.out (by simpa using hb')⟩
            obtain ⟨q1, q2, q3⟩ := Hb.out ha
            exact ⟨by simp [q3], q3⟩
        · have Hnm := Lib.hid hnm; clear hnm
          by_cases hdl : d < lev
          all_goals
            show Calls Tryd.prog 53 #[.pointer (some ⟨g, 0, none⟩), .agg #[.int .i64 2, .int .i64 0, .string name, .slice sA kids.length sc], .int .i64 lev] w _
            go_enter Tryd.func53, Tryd.ntmps53
            go_wp2_with (go_at_call 78; refine (isName_any _ _).mono ?_; rintro E w2 ⟨rfl, hbw⟩; rw [decide_eq_false Hnm.out]; have Hbw := Lib.hid hbw; clear hbw)
            go_ret
            refine ⟨_, n + 1, max d lev, rfl, Blk.below ((size_end HS.out (by omega) (by omega)).alloc _) Hbw.out (by simp [World.setCell]; omega), gb_below (gb_alloc (gb_set (gb_set (World.grownBy.refl _ _) _ _) _ _) _) Hbw.out, SawE.leaf hl (by omega) hd (fun ha => ?_) fun hb' => by cases hb'⟩
            obtain ⟨q1, q2, q3⟩ := Hb.out ha
            exact absurd q2 Hnm.out
      · have hm' : (m == 0) = false := beq_eq_false_iff_ne.2 hm
        have Hm := Lib.hid hm; clear hm
        by_cases hdl : d < lev
        all_goals
          show Calls Tryd.prog 53 #[.pointer (some ⟨g, 0, none⟩), .agg #[.int .i64 2, .int .i64 m, .string name, .slice sA kids.length sc], .int .i64 lev] w _
          go_enter Tryd.func53, Tryd.ntmps53
          go_wp2_with fail
          go_ret
          refine ⟨_, n + 1, max d lev, rfl, (size_end HS.out (by omega) (by omega)).alloc _, gb_alloc (gb_set (gb_set (World.grownBy.refl _ _) _ _) _ _) _, SawE.leaf hl (by omega) hd (fun ha => ?_) fun hb' => by cases hb'⟩
          exact absurd (Hb.out ha).1 Hm.out
    by_cases k3 : kind < 3 ∨ 5 < kind
    · have hc : ¬ okE (.mk kind m name sA sc kids) := by rintro (h | h | h) <;> have := h.1 <;> simp only [ExprR.kind] at this <;> first | (exact k1 this) | (exact k2 this) | (have := h.2.1; simp only [ExprR.kind] at this; omega)
      have e1 : (kind == 1) = false := beq_eq_false_iff_ne.2 k1
      have e2 : (kind == 2) = false := beq_eq_false_iff_ne.2 k2
      have e3 : (kind == 3) = false := beq_eq_false_iff_ne.2 (by omega)
      have e4 : (kind == 4) = false := beq_eq_false_iff_ne.2 (by omega)
      have e5 : (kind == 5) = false := beq_eq_false_iff_ne.2 (by omega)
      have Hc := Lib.hid hc; clear hc k1 k2 k3
      by_cases hdl : d < lev
      all_goals
        show Calls Tryd.prog 53 #[.pointer (some ⟨g, 0, none⟩), .agg #[.int .i64 kind, .int .i64 m, .string name, .slice sA kids.length sc], .int .i64 lev] w _
        go_enter Tryd.func53, Tryd.ntmps53
        go_wp2_with fail
        go_ret
        exact ⟨_, n + 1, max d lev, rfl, (size_end HS.out (by omega) (by omega)).alloc _, gb_alloc (gb_set (gb_set (World.grownBy.refl _ _) _ _) _ _) _, SawE.leaf hl (by omega) hd (fun ha => absurd ha.ok Hc.out) fun hb' => by cases hb'⟩
    have hk : kind = 3 ∨ kind = 4 ∨ kind = 5 := by omega
    have hb : AllE (.mk kind m name sA sc kids) → m = 0 ∧ name.toList = [] ∧ kids.length = 2 := fun ha => by
      rcases ha.ok with h | h | h
      · exact absurd h.1 k1
      · exact absurd h.1 k2
      · exact ⟨h.2.2.1, size_zero.1 h.2.2.2.1, h.2.2.2.2⟩
    clear k1 k2 k3
    have Hb := Lib.hid hb; clear hb
    by_cases q1 : m = 0
    rotate_left
    · have hc : ¬ (m = 0 ∧ name.toList = [] ∧ kids.length = 2) := fun h => q1 h.1
      have e1 : (m == 0) = false := beq_eq_false_iff_ne.2 q1
      have Hc := Lib.hid hc; clear hc q1
      rcases hk with rfl | rfl | rfl
      all_goals by_cases hdl : d < lev
      all_goals
        show Calls Tryd.prog 53 #[.pointer (some ⟨g, 0, none⟩), .agg #[.int .i64 _, .int .i64 m, .string name, .slice sA kids.length sc], .int .i64 lev] w _
        go_enter Tryd.func53, Tryd.ntmps53
        go_wp2_with fail
        go_ret
        exact ⟨_, n + 1, max d lev, rfl, (size_end HS.out (by omega) (by omega)).alloc _, gb_alloc (gb_set (gb_set (World.grownBy.refl _ _) _ _) _ _) _, SawE.leaf hl (by omega) hd (fun ha => absurd (Hb.out ha) Hc.out) fun hb' => by first | cases hb' | (exfalso; revert hb'; simp; done) | (exfalso; simp at hb'; omega)⟩
    subst q1
    by_cases q2 : name.toList = []
    rotate_left
    · have hc : ¬ ((0 : Int) = 0 ∧ name.toList = [] ∧ kids.length = 2) := fun h => q2 h.2.1
      have Hc := Lib.hid hc; clear hc
      rcases hk with rfl | rfl | rfl
      all_goals by_cases hdl : d < lev
      all_goals
        show Calls Tryd.prog 53 #[.pointer (some ⟨g, 0, none⟩), .agg #[.int .i64 _, .int .i64 0, .string name, .slice sA kids.length sc], .int .i64 lev] w _
        go_enter Tryd.func53, Tryd.ntmps53
        go_wp2_with fail
        go_ret
        exact ⟨_, n + 1, max d lev, rfl, (size_end HS.out (by omega) (by omega)).alloc _, gb_alloc (gb_set (gb_set (World.grownBy.refl _ _) _ _) _ _) _, SawE.leaf hl (by omega) hd (fun ha => absurd (Hb.out ha) Hc.out) fun hb' => by first | cases hb' | (exfalso; revert hb'; simp; done) | (exfalso; simp at hb'; omega)⟩
    by_cases q3 : kids.length = 2
    rotate_left
    · have hc : ¬ ((0 : Int) = 0 ∧ name.toList = [] ∧ kids.length = 2) := fun h => q3 h.2.2
      have e1 : ((kids.length : Int) == 2) = false := beq_eq_false_iff_ne.2 (by omega)
      have Hc := Lib.hid hc; clear hc
      rcases hk with rfl | rfl | rfl
      all_goals by_cases hdl : d < lev
      all_goals
        show Calls Tryd.prog 53 #[.pointer (some ⟨g, 0, none⟩), .agg #[.int .i64 _, .int .i64 0, .string name, .slice sA kids.length sc], .int .i64 lev] w _
        go_enter Tryd.func53, Tryd.ntmps53
        go_wp2_with fail
        go_ret
        exact ⟨_, n + 1, max d lev, rfl, (size_end HS.out (by omega) (by omega)).alloc _, gb_alloc (gb_set (gb_set (World.grownBy.refl _ _) _ _) _ _) _, SawE.leaf hl (by omega) hd (fun ha => absurd (Hb.out ha) Hc.out) fun hb' => by first | cases hb' | (exfalso; revert hb'; simp; done) | (exfalso; simp at hb'; omega)⟩
    obtain ⟨x, y, rfl⟩ : ∃ x y, kids = [x, y] := by
      match kids, q3 with
      | [x, y], _ => exact ⟨x, y, rfl⟩
    clear q3
    have hRe : RowE w B sA [x, y] := HR.out.row
    obtain ⟨b, o, rfl, hbB, hx⟩ := hRe.at_ (i := 0) (by simp)
    obtain ⟨b', o', eq, _, hy⟩ := hRe.at_ (i := 1) (by simp)
    injection eq with eq
    injection eq with eq1 eq2
    subst eq1 eq2
    clear hRe
    simp only [Nat.zero_mul, Nat.add_zero, Nat.one_mul, List.getElem_cons_zero, List.getElem_cons_succ] at hx hy
    obtain ⟨x0, x1, x2, x3⟩ := hx
    obtain ⟨y0, y1, y2, y3⟩ := hy
    have hne : b ≠ g := by omega
    have hbl : b < w.heap.size := by omega
    have Y0 := Lib.hid y0; clear y0
    have Y1 := Lib.hid y1; clear y1
    have Y2 := Lib.hid y2; clear y2
    have Y3 := Lib.hid y3; clear y3
    have hnx : x.nodes + y.nodes + 1 = (ExprR.mk kind 0 name (some ⟨b, o, none⟩) sc [x, y]).nodes := by simp [ExprR.nodes, nodesE]; omega
    have Hnx := Lib.hid hnx; clear hnx
    have mk1 : Nat := 0
    have Hok := Lib.hid (show okE (.mk kind 0 name (some ⟨b, o, none⟩) sc [x, y]) from .inr (.inr ⟨by simp only [ExprR.kind]; omega, by simp only [ExprR.kind]; omega, rfl, size_zero.2 q2, rfl⟩))
    rcases hk with rfl | rfl | rfl
    all_goals by_cases hdl : d < lev
    all_goals
      show Calls Tryd.prog 53 #[.pointer (some ⟨g, 0, none⟩), .agg #[.int .i64 _, .int .i64 0, .string name, .slice (some ⟨b, o, none⟩) 2 sc], .int .i64 lev] w _
      go_enter Tryd.func53, Tryd.ntmps53
      go_wp2_with (go_at_call 53; first
        | (clear mk1
           show Calls _ _ #[.pointer (some ⟨g, 0, none⟩), x.val, .int .i64 ((lev + 1 : Nat) : Int)] _ _
           refine (IH.out x _ B g (n + 1) (max d lev) (lev + 1) ((HR.out.kid (by simp [ExprR.kids])).keep (fun p hp => gb_cell (gb_alloc (gb_set (gb_set (World.grownBy.refl _ _) _ _) _ _) _) (by omega) hlt)) hB ((size_end HS.out (by omega) (by omega)).alloc _) (by omega) (by omega) (by omega) (by have := Hn.out; have := Hnx.out; omega)).mono ?_
           rintro E w2 ⟨b1, n1, d1, rfl, hS1, hg1, hs1⟩
           have ho := old_grown hg1 hlt
           have b3 := box_grown hg1 hlt 3
           have z0 := (ho ⟨b, o + 4, none⟩ (by show b < g; omega)).trans Y0.out
           have z1 := (ho ⟨b, o + 5, none⟩ (by show b < g; omega)).trans Y1.out
           have z2 := (ho ⟨b, o + 6, none⟩ (by show b < g; omega)).trans Y2.out
           have z3 := (ho ⟨b, o + 7, none⟩ (by show b < g; omega)).trans Y3.out
           simp at b3
           have Hg1 := Lib.hid hg1; clear hg1
           have Ho := Lib.hid ho; clear ho
           have HS1 := Lib.hid hS1; clear hS1
           have Hs1 := Lib.hid hs1; clear hs1
           cases b1)
        | (show Calls _ _ #[.pointer (some ⟨g, 0, none⟩), y.val, .int .i64 ((lev + 1 : Nat) : Int)] _ _
           refine (IH.out y _ B g _ _ (lev + 1) ((HR.out.kid (by simp [ExprR.kids])).keep (fun p hp => Ho.out p (by omega))) hB HS1.out (by omega) (by omega) (by have := Hs1.out.deep; omega) (by have := Hs1.out.up; have := Hn.out; have := Hnx.out; omega)).mono ?_
           rintro E w3 ⟨b2, n2, d2, rfl, hS2, hg2, hs2⟩
           have Hg2 := Lib.hid hg2; clear hg2
           have HS2 := Lib.hid hS2; clear hS2
           have Hs2 := Lib.hid hs2; clear hs2))
      all_goals go_ret
      · exact ⟨_, _, _, rfl, HS1.out, gb_trans (gb_alloc (gb_set (gb_set (World.grownBy.refl _ _) _ _) _ _) _) Hg1.out, SawE.cut rfl Hs1.out⟩
      · exact ⟨_, _, _, rfl, HS2.out, gb_trans (gb_trans (gb_alloc (gb_set (gb_set (World.grownBy.refl _ _) _ _) _ _) _) Hg1.out) Hg2.out, SawE.two hl Hok.out rfl Hs1.out Hs2.out⟩
end Go.Proofs.YtgiceeholamphaaDoor
