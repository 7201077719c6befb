/- Rows of ints that begin somewhere in a block of the call's own: appended to, cut ahead, sorted. No conditions. -/
import Derived.Test.YtokjchcmjglbhaaOwn3
import Derived.Test.YtokjchcmjglbhaaChecked
import Derived.ArgAppend
import Derived.Shelf.SlSortCmp.Kit1
namespace Go.Proofs.Ytokjchcmjglbhaa
open Go.ChangeShapes Go.WideShapes Go.ChangeAt Go.RowKit Go.Sort

def OffR (w : World) (base : Nat) (v : Value) (l : List Int) : Prop :=
  (v = .slice none 0 0 ∧ l = []) ∨ ∃ g o cap cur, v = .slice (some ⟨g, o, none⟩) l.length cap ∧ base ≤ g ∧ w.heap[g]? = some (.cells cur 3 (0, 0)) ∧ l.length ≤ cap ∧ cap ≤ maxLen ∧ o + cap ≤ cur.size ∧ ∀ (j : Nat) (h : j < l.length), cur[o + j]? = some (.int .i64 l[j])
section
variable {w w' : World} {base : Nat} {v : Value} {l : List Int}
theorem OffR.nil (w : World) (base : Nat) : OffR w base (.slice none 0 0) [] := .inl ⟨rfl, rfl⟩
theorem OffR.form (h : OffR w base v l) : ∃ A c, v = .slice A l.length c ∧ l.length ≤ c ∧ c ≤ maxLen := by
  rcases h with ⟨rfl, rfl⟩ | ⟨g, o, cap, cur, rfl, _, _, h1, h2, _⟩
  · exact ⟨none, 0, rfl, Nat.le_refl _, Nat.zero_le _⟩
  · exact ⟨_, cap, rfl, h1, h2⟩
theorem OffR.lt (h : OffR w base v l) : ∀ g, v.ownBlock = some g → base ≤ g ∧ g < w.heap.size := fun g hg => by
  rcases h with ⟨rfl, rfl⟩ | ⟨g', o, cap, cur, rfl, hb, hh, _⟩
  · cases hg
  · obtain rfl : g' = g := by simpa [Value.ownBlock] using hg
    exact ⟨hb, (Array.getElem?_eq_some_iff.1 hh).1⟩
theorem OffR.keep (h : OffR w base v l) (hk : ∀ g, v.ownBlock = some g → w'.heap[g]? = w.heap[g]?) : OffR w' base v l := by
  rcases h with h1 | ⟨g, o, cap, cur, rfl, hb, hh, rest⟩
  · exact .inl h1
  · exact .inr ⟨g, o, cap, cur, rfl, hb, (hk g rfl).trans hh, rest⟩
theorem OffR.mono {base' : Nat} (h : OffR w base' v l) (hb : base ≤ base') : OffR w base v l := by
  rcases h with h1 | ⟨g, o, cap, cur, rfl, hb', rest⟩
  · exact .inl h1
  · exact .inr ⟨g, o, cap, cur, rfl, Nat.le_trans hb hb', rest⟩
theorem OffR.alloc (h : OffR w base v l) (o : Obj) : OffR (w.alloc o) base v l := h.keep fun g hg => Below.heap_alloc w o g (h.lt g hg).2
theorem OffR.own {n : Nat} (h : w.ownsRow base 3 1 v n (ints l)) (hn : n = l.length) : OffR w base v l := by
  subst hn
  rcases h.2 with ⟨rfl, h0⟩ | ⟨g, cap, cur, rfl, hb, hh, hnc, hcm, hs, ht⟩
  · exact .inl ⟨rfl, List.eq_nil_of_length_eq_zero h0⟩
  · refine .inr ⟨g, 0, cap, cur, rfl, hb, hh, hnc, hcm, by omega, fun j hj => ?_⟩
    have h1 : (cur.toList.take (l.length * 1))[j]? = (ints l)[j]? := by rw [ht]
    rw [List.getElem?_take_of_lt (by omega)] at h1
    rw [Nat.zero_add, ← Array.getElem?_toList, h1]
    simp [ints, hj]
theorem OffR.cells (h : OffR w base v l) : ∀ (j : Nat) (hj : j < l.length), ∃ g o cap, v = .slice (some ⟨g, o, none⟩) l.length cap ∧ w.cell? ⟨g, o + j, none⟩ = some (.int .i64 l[j]) := fun j hj => by
  rcases h with ⟨rfl, rfl⟩ | ⟨g, o, cap, cur, rfl, hb, hh, h1, h2, h3, h4⟩
  · simp at hj
  · exact ⟨g, o, cap, rfl, by rw [cell_of_row _ _ (o + j) cur _ (0, 0) hh]; exact h4 j hj⟩
/-- Cut ahead. -/
theorem OffR.cut {A : Option Addr} {c k : Nat} (h : OffR w base (.slice A l.length c) l) (hk : k ≤ l.length) : OffR w base (.slice (if c = k then A else A.map (·.add (k * 1))) (l.length - k) (c - k)) (l.drop k) := by
  rcases h with ⟨h0, rfl⟩ | ⟨g, o, cap, cur, hv, hb, hh, h1, h2, h3, h4⟩
  · simp only [Value.slice.injEq] at h0
    obtain ⟨rfl, _, rfl⟩ := h0
    obtain rfl : k = 0 := by simpa using hk
    exact .inl ⟨rfl, rfl⟩
  · simp only [Value.slice.injEq, true_and] at hv
    obtain ⟨rfl, rfl⟩ := hv
    refine .inr ⟨g, if c = k then o else o + k, c - k, cur, ?_, hb, hh, by rw [List.length_drop]; omega, by omega, by split <;> omega, fun j hj => ?_⟩
    · rw [List.length_drop]
      split <;> simp [Addr.add_lit']
    · rw [List.length_drop] at hj
      rw [if_neg (by omega), List.getElem_drop, ← h4 (k + j) (by omega), Nat.add_assoc]
end
/-! ### Sorted -/
section
variable {w : World} {base g o cap N : Nat} {l : List Int} {d d' : Array (Fin (N + 1))}
def encF (x : Fin (N + 1)) : Value := .int .i64 (x.val : Int)
def intsF (d : Array (Fin (N + 1))) : List Int := d.toList.map fun x => (x.val : Int)
theorem intsF_get (d : Array (Fin (N + 1))) (j : Nat) (h : j < d.size) : (intsF d)[j]? = some ((d[j]!).val : Int) := by
  rw [getElem!_pos d j h]
  simp [intsF, h]
theorem OffR.holds (h : OffR w base (.slice (some ⟨g, o, none⟩) l.length cap) l) (hd : l = intsF d) : Holds encF w g o d := fun j hj => by
  have hl : l.length = d.size := by rw [hd]; simp [intsF]
  rcases h with ⟨h0, _⟩ | ⟨g', o', cap', cur, hv, hb, hh, h1, h2, h3, h4⟩
  · cases h0
  · simp only [Value.slice.injEq, Option.some.injEq, Addr.mk.injEq, and_true, true_and] at hv
    obtain ⟨⟨rfl, rfl⟩, rfl⟩ := hv
    refine ⟨?_, ?_⟩
    · rw [cell_of_row _ _ (o + j) cur _ (0, 0) hh, h4 j (by omega)]
      have := intsF_get d j hj
      rw [← hd, List.getElem?_eq_getElem (by omega)] at this
      rw [Option.some.inj this]
      rfl
    · simp [World.frozen?, hh]
theorem OffR.sorted (h : OffR w base (.slice (some ⟨g, o, none⟩) l.length cap) l) (hd : l = intsF d) (hs : d'.size = d.size) (n : Nat) (os : Array Obj) :
    OffR (sortWorld encF w g o n d' os) base (.slice (some ⟨g, o, none⟩) l.length cap) (intsF d') ∧ w.grownBy (sortWorld encF w g o n d' os) (some g) := by
  have hH := h.holds hd
  have hl : l.length = d.size := by rw [hd]; simp [intsF]
  have hl' : (intsF d').length = l.length := by simp [intsF, hl, hs]
  rcases h with ⟨h0, _⟩ | ⟨g', o', cap', cur, hv, hb, hh, h1, h2, h3, h4⟩
  · cases h0
  · simp only [Value.slice.injEq, Option.some.injEq, Addr.mk.injEq, and_true, true_and] at hv
    obtain ⟨⟨rfl, rfl⟩, rfl⟩ := hv
    have hg := (Array.getElem?_eq_some_iff.1 hh).1
    have hblk : (sortWorld encF w g o n d' os).heap[g]? = some (.cells (putCells encF o d' cur) 3 (0, 0)) := by
      unfold sortWorld
      rw [heap_grow_old _ _ (by simpa using hg)]
      unfold putRow mapBlock
      simp [Array.getElem?_modify, hh, onCells]
    refine ⟨.inr ⟨g, o, cap, _, by rw [hl'], hb, hblk, by omega, h2, by simp [putCells]; omega, fun j hj => ?_⟩, rfl, rfl, rfl, by simp [sortWorld], fun k hk hne => ?_⟩
    · have hj' : j < d'.size := by omega
      have e := intsF_get d' j hj'
      rw [List.getElem?_eq_getElem hj] at e
      rw [Option.some.inj e]
      have hc : o + j < cur.size := by omega
      simp [putCells, hc, hj', encF]
    · unfold sortWorld
      rw [heap_grow_old _ _ (by simpa using hk)]
      unfold putRow mapBlock
      have : g ≠ k := fun e => hne (by rw [e])
      simp [Array.getElem?_modify, this]
end
/-! ### append -/
theorem info_int2 : (Try.prog.info? 3).map (fun i => (i.zero, i.size, i.bytes)) = some (some (.int .i64 0), 1, 8) := by kernel_rfl
theorem run_append_off {w : World} {base : Nat} {v : Value} {l : List Int} (h : OffR w base v l) (ty : TypeId) (x : Int) (a : Addr) (hx : w.cell? a = some (.int .i64 x)) (hl : l.length ≤ 1048576) (hbase : base ≤ w.heap.size) :
    ∃ v' w', (Builtin.append_ #[25, 25] ty #[v, .slice (some a) 1 1]).run Try.prog w = .ok v' w' ∧ OffR w' base v' (l ++ [x]) ∧ w.grownBy w' v.ownBlock ∧ (∀ g, v'.ownBlock = some g → v.ownBlock = some g ∨ w.heap.size ≤ g) := by
  obtain ⟨i0, hi0, hz0, hz1, hz2⟩ := info_parts info_int2
  have hnews : ∀ j u, [Value.int .i64 x][j]? = some u → w.cell? (a.add j) = some u := fun j u hj => by
    match j, hj with
    | 0, hj => simp at hj; subst hj; rw [add_zero]; exact hx
  rcases h with ⟨rfl, rfl⟩ | ⟨g, o, cap, cur, rfl, hb, hh, h1, h2, h3, h4⟩
  · obtain ⟨v', w', hr, r1, r2, _⟩ := run_append_own (P := Try.prog) w w.heap.size 25 ty 3 i0 _ 1 8 Try.underlying25 hi0 hz0 hz1 hz2 rfl (by decide) (.slice none 0 0) 0 [] (World.ownsRow_nil w _ _ _) a 1 1 [.int .i64 x] rfl hnews (by simp [Value.oneCell']) (by unfold maxLen; omega) (by omega) (Nat.le_refl _)
    have r3 : OffR w' w.heap.size v' [x] := OffR.own (n := 1) (l := [x]) (by simpa [ints] using r1) rfl
    exact ⟨v', w', hr, r3.mono hbase, r2, fun g hg => .inr (r3.lt g hg).1⟩
  · have hg := (Array.getElem?_eq_some_iff.1 hh).1
    by_cases hroom : l.length + 1 ≤ cap
    · have hcell : ∀ k, w.cell? ⟨g, k, none⟩ = cur[k]? := fun k => cell_of_row _ _ k cur _ (0, 0) hh
      have hlt : o + l.length < cur.size := by omega
      have hr := run_append_room_cells (P := Try.prog) w 25 ty 3 i0 Try.underlying25 hi0 g o l.length cap a 1 1 [.int .i64 x] (by rw [hz1]; rfl) hnews (by simp [Value.oneCell']) hroom
        (fun j hj => by simp at hj; subst hj; rw [hz1, hcell]; simp [hlt]) (fun j hj => by simp [World.frozen?, hh])
      rw [hz1, Nat.mul_one] at hr
      refine ⟨_, _, hr, .inr ⟨g, o, cap, cur.setIfInBounds (o + l.length) (.int .i64 x), by simp, hb, ?_, by simpa using hroom, h2, by simpa using h3, fun j hj => ?_⟩, ⟨rfl, rfl, rfl, by simp [World.setCells, World.setCell], fun k hk hne => ?_⟩, fun g' hg' => .inl hg'⟩
      · simp [World.setCells, World.setCell, Array.getElem?_modify, hh]
      · rw [List.length_append, List.length_singleton] at hj
        by_cases e : j < l.length
        · rw [Array.getElem?_setIfInBounds_ne (by omega), List.getElem_append_left e]
          exact h4 j e
        · obtain rfl : j = l.length := by omega
          rw [Array.getElem?_setIfInBounds_self_of_lt hlt]
          simp
      · have : g ≠ k := fun e => hne (by simp [Value.ownBlock, e])
        simp [World.setCells, World.setCell, Array.getElem?_modify, this]
    · obtain ⟨v', w', hr, r1, r2⟩ := run_append_arg_grows (P := Try.prog) w 25 ty 3 i0 _ 1 8 Try.underlying25 hi0 hz0 hz1 hz2 rfl (by decide) ⟨g, o, none⟩ l.length cap (ints l) (by simp)
        (fun j u hu => by
          obtain ⟨hj, rfl⟩ := List.getElem?_eq_some_iff.1 hu
          have hj' : j < l.length := by simpa using hj
          rw [Addr.add_lit', cell_of_row _ _ _ cur _ (0, 0) hh, h4 j hj']
          simp [ints]) a 1 1 [.int .i64 x] rfl hnews (by omega) (by unfold maxLen; omega) (by omega)
      have r3 : OffR w' w.heap.size v' (l ++ [x]) := OffR.own (n := l.length + 1) (by rw [show ints (l ++ [x]) = ints l ++ [.int .i64 x] by simp [ints]]; exact r1) (by simp)
      exact ⟨v', w', hr, r3.mono hbase, ⟨r2.os, r2.tape, r2.output, r2.size, fun k hk _ => r2.block k hk (by simp)⟩, fun g hg => .inr (r3.lt g hg).1⟩
/-- At the operation, for the walk. -/
theorem wpList_append_off (w : World) {ops : Array Oper} {rest : List Oper} {o : Oper} {a : Act} {Q : Exit → Act → World → Prop} (hgd : o.guard = none) (s y : Operand)
    (ho : o.op = .call { callee := .builtin .append, args := #[s, y], argTypes := #[25, 25] })
    (base : Nat) (v : Value) (l : List Int) (hs : a.eval s = v) (hown : OffR w base v l) (x : Int) (ad : Addr) (hy : a.eval y = .slice (some ad) 1 1) (hx : w.cell? ad = some (.int .i64 x))
    (hl : l.length ≤ 1048576) (hbase : base ≤ w.heap.size)
    (h : ∀ v' w', OffR w' base v' (l ++ [x]) → w.grownBy w' v.ownBlock → (∀ g, v'.ownBlock = some g → v.ownBlock = some g ∨ w.heap.size ≤ g) → wpList Try.prog ops Q rest (a.put o.dst v') w') : wpList Try.prog ops Q (o :: rest) a w := by
  refine wpList_plain hgd fun K hK => ?_
  obtain ⟨v', w', hr, h2, h3, h4⟩ := run_append_off hown o.type x ad hx hl hbase
  unfold Oper.wp execOp
  simp only [ho, resolve, invoke, builtin, Sem.run_bind, Sem.run_pure, Result.andThen_ok, List.map_toArray, List.map_cons, List.map_nil, hs, hy, hr]
  exact hK _ _ (h v' w' h2 h3 h4)
end Go.Proofs.Ytokjchcmjglbhaa
