/- strings.Builder as lang.writer holds it: the contracts of its methods. No conditions but that the writer is one, and that its text fits. -/
import Derived.Test.YtgiceeholamphaaDoorOwn
import Derived.Shelf.Strings.BuilderK
namespace Go.Proofs.YtgiceeholamphaaDoor
open Go.ChangeShapes Go.WideShapes Go.ChangeAt Go.RowKit Go.Maps

/-- The writer in block b holds bs; its bytes lie from block B on. -/
abbrev IsW (B b : Nat) (bs : List Value) (w : World) : Prop := Lib.IsBuilderF 41 5 B b bs w
abbrev WAt (B b : Nat) (p : Value) (bs : List Value) (w : World) : Prop := Lib.BuilderAtF 41 5 B b p bs w
/-- Behind a call the writer in block b holds bs. -/
def WPost (B b : Nat) (bs : List Value) (v : Value) (w : World) (E : Ending) (w' : World) : Prop :=
  E = .returned v ∧ WAt B b (.pointer (some ⟨b, 0, none⟩)) bs w' ∧ Below B w w' ∧ Lib.OthersKept 5 (some b) w w'
set_option maxHeartbeats 1000000 in
set_option maxRecDepth 100000 in
theorem copyCheck_any (B b : Nat) (bs : List Value) (w : World) (h : IsW B b bs w) : Calls Tryd.prog 54 #[.pointer (some ⟨b, 0, none⟩)] w (WPost B b bs (.tuple #[]) w) := by
  obtain ⟨j, hj, hjs⟩ : ∃ j, Tryd.prog.info? 39 = some j ∧ j.size = 2 := Option.map_eq_some_iff.1 (show (Tryd.prog.info? 39).map (·.size) = some 2 by kernel_rfl)
  have u1 : Tryd.prog.underlying 36 = some (.pointer 39) := by kernel_rfl
  have u2 : Tryd.prog.underlying 113 = some .unsafePointer := by kernel_rfl
  have hlies : liesAt Tryd.prog Tryd.prog.depth 41 (2 / Tryd.prog.cellsOf 41) 0 39 1 = true := by kernel_rfl
  rcases h with h | h
  · have h0 := h.cell0
    have hfz := h.frozen0
    have hsh := h.shape
    have hc1 := Lib.run_to_unsafe (P := Tryd.prog) w ⟨b, 0, none⟩ u1 u2 hj (by rw [hjs]; decide) hsh (Nat.zero_lt_succ 1)
    have hc2 := Lib.run_from_unsafe (P := Tryd.prog) w ⟨b, 0, none⟩ u2 u1 hj hsh hlies
    have hno : (callFunc 79 #[.pointer (some ⟨b, 0, none⟩)]).run Tryd.prog w = .ok (.value (.pointer (some ⟨b, 0, none⟩))) w := by
      rw [run_callFunc_extern Tryd.func79 (by kernel_rfl) (by kernel_rfl) (by kernel_rfl) (e := Extern.AbiNoEscape.same) (by kernel_rfl), Lib.run_noEscape]
      rfl
    have HB := Lib.hid h
    clear u1 u2 hlies hj hjs
    go_enter Tryd.func54, Tryd.ntmps54
    go_wp2_with fail
    go_end0
    exact ⟨rfl, HB.out.used _, (Below.refl B w).setCell (p := ⟨b, 0, none⟩) HB.out.1 _, (Lib.OthersKept.refl _ _ w).setCell ⟨b, 0, none⟩ rfl _⟩
  · have h0 := h.cell0
    have hne := Lib.run_neq_ptr_same (P := Tryd.prog) w ⟨b, 0, none⟩ u1 hj
    have HB := Lib.hid h
    clear u1 u2 hlies hj hjs
    go_enter Tryd.func54, Tryd.ntmps54
    go_wp2_with fail
    go_end0
    exact ⟨rfl, HB.out, Below.refl B _, Lib.OthersKept.refl _ _ _⟩
set_option maxHeartbeats 2000000 in
set_option maxRecDepth 100000 in
theorem writeString_any (B b : Nat) (bs : List Value) (s : ByteArray) (w : World) (h : IsW B b bs w) (hlen : bs.length + s.size ≤ 140737488355328) (hBw : B ≤ w.heap.size) :
    Calls Tryd.prog 34 #[.pointer (some ⟨b, 0, none⟩), .string s] w (WPost B b (bs ++ Lib.strCells s) (.tuple #[.int .i64 s.size, .nilIface]) w) := by
  obtain ⟨i0, hi, hz⟩ : ∃ i, Tryd.prog.info? 5 = some i ∧ (i.zero, i.size, i.bytes) = (some (.int .u8 0), 1, 1) := Option.map_eq_some_iff.1 (show (Tryd.prog.info? 5).map (fun i => (i.zero, i.size, i.bytes)) = some (some (.int .u8 0), 1, 1) by kernel_rfl)
  simp only [Prod.mk.injEq] at hz
  obtain ⟨hz0, hz1, hz2⟩ := hz
  have HI := Lib.hid (And.intro hi (And.intro hz0 (And.intro hz1 hz2))); clear hi hz0 hz1 hz2
  go_enter Tryd.func34, Tryd.ntmps34
  go_wp2_with (go_at_call 54; refine (copyCheck_any B b bs _ h).mono ?_)
  rintro e w1 ⟨rfl, h1, hb1, hk1⟩
  obtain ⟨hB, v, hbk, hown, hne⟩ := h1
  have c0 : w1.cell? ⟨b, 0, none⟩ = some (.pointer (some ⟨b, 0, none⟩)) := by rw [Lib.cell_of_heap hbk]; rfl
  have c1 : w1.cell? ⟨b, 1, none⟩ = some v := by rw [Lib.cell_of_heap hbk]; rfl
  go_wp2_with (at_builtin; refine Lib.wpList_append_own_stringF _ rfl _ _ 37 9 rfl B 5 i0 (by kernel_rfl) (by kernel_rfl) HI.out.1 HI.out.2.1 HI.out.2.2.1 HI.out.2.2.2 _ _ _ rfl hown s rfl ?c3 ?c4 ?c5 ?_)
  case c3 => unfold maxLen; omega
  case c4 => omega
  case c5 => have := hb1.size; omega
  intro v' w2 hown' hgrow _
  have hlt : b < w1.heap.size := by
    rcases Nat.lt_or_ge b w1.heap.size with h' | h'
    · exact h'
    · simp [Array.getElem?_eq_none h'] at hbk
  have hb2 : w2.heap[b]? = some (.cells #[.pointer (some ⟨b, 0, none⟩), v] 41 (0, 0)) := by
    rw [hgrow.block b hlt (fun e => hne e.symm)]
    exact hbk
  have d0 : w2.cell? ⟨b, 0, none⟩ = some (.pointer (some ⟨b, 0, none⟩)) := by rw [Lib.cell_of_heap hb2]; rfl
  have d1 : w2.cell? ⟨b, 1, none⟩ = some v := by rw [Lib.cell_of_heap hb2]; rfl
  have f1 : w2.frozen? ⟨b, 1, none⟩ = false := Lib.frozen_of_heap hb2 1
  obtain ⟨ao, n', cap, rfl⟩ : ∃ ao n' cap, v' = .slice ao n' cap := by
    rcases hown'.2 with ⟨hv, _⟩ | ⟨g, cap, cur, fz, hv, _⟩
    · exact ⟨_, _, _, hv⟩
    · exact ⟨_, _, _, hv⟩
  go_wp2_with fail
  go_ret2
  refine ⟨rfl, ?_, ?_, (hk1.grown hgrow (Lib.ownsRowF_kind hown)).setCell ⟨b, 1, none⟩ rfl _⟩
  · exact Lib.BuilderAtF.put (T := 41) (e := 5) hB hb2 (bs' := bs ++ Lib.strCells s) (by simpa [Lib.strCells_length] using hown') (by decide)
  · exact (hb1.grown hgrow (by have := hb1.size; omega) (fun k hk => (hown.lt k hk).1)).setCell (p := ⟨b, 1, none⟩) hB _
set_option maxHeartbeats 2000000 in
set_option maxRecDepth 100000 in
theorem writeByte_any (B b : Nat) (bs : List Value) (c : Int) (w : World) (h : IsW B b bs w) (hlen : bs.length + 1 ≤ 140737488355328) (hBw : B ≤ w.heap.size) :
    Calls Tryd.prog 56 #[.pointer (some ⟨b, 0, none⟩), .int .u8 c] w (WPost B b (bs ++ [.int .u8 c]) .nilIface w) := by
  obtain ⟨i0, hi, hz⟩ : ∃ i, Tryd.prog.info? 5 = some i ∧ (i.zero, i.size, i.bytes) = (some (.int .u8 0), 1, 1) := Option.map_eq_some_iff.1 (show (Tryd.prog.info? 5).map (fun i => (i.zero, i.size, i.bytes)) = some (some (.int .u8 0), 1, 1) by kernel_rfl)
  simp only [Prod.mk.injEq] at hz
  obtain ⟨hz0, hz1, hz2⟩ := hz
  have HI := Lib.hid (And.intro hi (And.intro hz0 (And.intro hz1 hz2))); clear hi hz0 hz1 hz2
  go_enter Tryd.func56, Tryd.ntmps56
  go_wp2_with (go_at_call 54; refine (copyCheck_any B b bs _ h).mono ?_)
  rintro e w1 ⟨rfl, h1, hb1, hk1⟩
  obtain ⟨hB, v, hbk, hown, hne⟩ := h1
  have c0 : w1.cell? ⟨b, 0, none⟩ = some (.pointer (some ⟨b, 0, none⟩)) := by rw [Lib.cell_of_heap hbk]; rfl
  have c1 : w1.cell? ⟨b, 1, none⟩ = some v := by rw [Lib.cell_of_heap hbk]; rfl
  go_wp2_with (at_builtin; refine wpList_append_ownF _ rfl _ _ 37 rfl B 5 i0 (.int .u8 0) 1 1 (by kernel_rfl) HI.out.1 HI.out.2.1 HI.out.2.2.1 HI.out.2.2.2 rfl (by decide) _ _ _ rfl (hown.alloc _) ⟨w1.heap.size, 0, none⟩ 1 1 [.int .u8 c] rfl rfl ?c1 ?c2 ?c3 ?c4 ?c5 ?_)
  case c1 =>
    intro j u hj
    match j, hj with
    | 0, hj => simp at hj; subst hj; simp [Addr.add]
  case c2 => intro u hu; simp at hu; subst hu; rfl
  case c3 => unfold maxLen; omega
  case c4 => omega
  case c5 => have := hb1.size; simp; omega
  intro v' w2 hown' hgrow _
  have hlt : b < w1.heap.size := by
    rcases Nat.lt_or_ge b w1.heap.size with h' | h'
    · exact h'
    · simp [Array.getElem?_eq_none h'] at hbk
  have hb2 : w2.heap[b]? = some (.cells #[.pointer (some ⟨b, 0, none⟩), v] 41 (0, 0)) := by
    rw [hgrow.block b (by simp; omega) (fun e => hne e.symm), Lib.alloc_old w1 _ b hlt]
    exact hbk
  have d0 : w2.cell? ⟨b, 0, none⟩ = some (.pointer (some ⟨b, 0, none⟩)) := by rw [Lib.cell_of_heap hb2]; rfl
  have d1 : w2.cell? ⟨b, 1, none⟩ = some v := by rw [Lib.cell_of_heap hb2]; rfl
  have f1 : w2.frozen? ⟨b, 1, none⟩ = false := Lib.frozen_of_heap hb2 1
  obtain ⟨g, cap, rfl⟩ : ∃ g cap, v' = .slice (some ⟨g, 0, none⟩) (bs.length + 1) cap := by
    rcases hown'.2 with ⟨_, h0⟩ | ⟨g, cap, cur, fz, hv, _⟩
    · omega
    · exact ⟨g, cap, hv⟩
  go_wp2_with fail
  go_ret
  refine ⟨rfl, ?_, ?_, ((hk1.alloc _).grown hgrow (Lib.ownsRowF_kind (hown.alloc _))).setCell ⟨b, 1, none⟩ rfl _⟩
  · exact Lib.BuilderAtF.put (T := 41) (e := 5) hB hb2 (bs' := bs ++ [.int .u8 c]) (by simpa using hown') (by decide)
  · exact ((hb1.alloc (by have := hb1.size; omega) _).grown hgrow (by have := hb1.size; simp; omega) (fun k hk => (hown.lt k hk).1)).setCell (p := ⟨b, 1, none⟩) hB _
set_option maxHeartbeats 1000000 in
set_option maxRecDepth 100000 in
/-- String, of a writer that holds something. -/
theorem string_any (B b : Nat) (l : List UInt8) (w : World) (h : IsW B b (Lib.byteCells l) w) (h0 : l ≠ []) :
    Calls Tryd.prog 16 #[.pointer (some ⟨b, 0, none⟩)] w fun e w' => e = .returned (.string ⟨l.toArray⟩) ∧ Below B w w' := by
  obtain ⟨p, hp, hAt⟩ : ∃ p, (p = .pointer none ∨ p = .pointer (some ⟨b, 0, none⟩)) ∧ WAt B b p (Lib.byteCells l) w := by
    rcases h with h | h
    · exact ⟨_, .inl rfl, h⟩
    · exact ⟨_, .inr rfl, h⟩
  obtain ⟨hB, v, hbk, hown, hne⟩ := hAt
  have hl0 : l.length ≠ 0 := by simpa using h0
  rw [Lib.byteCells_length] at hown
  obtain ⟨g, cap, cur, fz, rfl, hbg, hg, hfz, hnc, hcm, hcs, htake⟩ : ∃ g cap cur fz, v = .slice (some ⟨g, 0, none⟩) l.length cap ∧ B ≤ g ∧ w.heap[g]? = some (.cells cur 5 fz) ∧ fz.2 ≤ l.length * 1 ∧ l.length ≤ cap ∧ cap ≤ maxLen ∧ cur.size = cap * 1 ∧ cur.toList.take (l.length * 1) = Lib.byteCells l := by
    rcases hown.2 with ⟨_, hz⟩ | ⟨g, cap, cur, fz, hv, r⟩
    · exact absurd hz hl0
    · exact ⟨g, cap, cur, fz, hv, r⟩
  have c1 : w.drew.cell? ⟨b, 1, none⟩ = some (.slice (some ⟨g, 0, none⟩) l.length cap) := by
    have : w.drew.heap[b]? = some (.cells #[p, .slice (some ⟨g, 0, none⟩) l.length cap] 41 (0, 0)) := hbk
    rw [Lib.cell_of_heap this]; rfl
  have hSD : (Builtin.unsafeSliceData_ #[37] 80 #[.slice (some ⟨g, 0, none⟩) l.length cap]).run Tryd.prog w.drew = .ok (.pointer (some ⟨g, 0, none⟩)) w.drew :=
    Lib.run_unsafeSliceData_row _ _ _ _ _ _ (by omega)
  have hUS : (Builtin.unsafeString_ #[80, 3] 9 #[.pointer (some ⟨g, 0, none⟩), .int .i64 l.length]).run Tryd.prog w.drew = .ok (.string ⟨l.toArray⟩) (w.drew.freeze ⟨g, 0, none⟩ l.length) := by
    refine Lib.run_unsafeString_row w.drew 80 3 9 5 (by kernel_rfl) (by kernel_rfl) g cur.size (by have hg' : w.drew.heap[g]? = some (.cells cur 5 fz) := hg; simp [World.shape?, hg']) l h0 (by omega) (by unfold maxLen at hcm; omega) ?_
    intro j x hx
    have := hown.cells (g := g) rfl j (.int .u8 x.toNat) (by simp [Lib.byteCells, hx])
    exact this
  have HB := Lib.hid (And.intro hbg (And.intro hown (And.intro hbk hne))); clear hbg hown hbk hne htake hcs hfz
  go_enter Tryd.func16, Tryd.ntmps16
  go_wp2_with fail
  go_region
  all_goals (go_wp2_with fail; go_ret; exact ⟨rfl, Lib.below_freeze (Below.drew (Below.refl B w)) (p := ⟨g, 0, none⟩) HB.out.1 _⟩)
set_option maxHeartbeats 1000000 in
set_option maxRecDepth 100000 in
/-- String, of a writer that never was written. -/
theorem string_nil (b : Nat) (w : World) (h : w.heap[b]? = some (.cells #[.pointer none, .slice none 0 0] 41 (0, 0))) :
    Calls Tryd.prog 16 #[.pointer (some ⟨b, 0, none⟩)] w fun e w' => e = .returned (.string ⟨#[]⟩) ∧ w' = w.drew := by
  have c1 : w.drew.cell? ⟨b, 1, none⟩ = some (.slice none 0 0) := by
    have : w.drew.heap[b]? = some (.cells #[.pointer none, .slice none 0 0] 41 (0, 0)) := h
    rw [Lib.cell_of_heap this]; rfl
  have hSD : (Builtin.unsafeSliceData_ #[37] 80 #[.slice none 0 0]).run Tryd.prog w.drew = .ok (.pointer none) w.drew := rfl
  have hUS : (Builtin.unsafeString_ #[80, 3] 9 #[.pointer none, .int .i64 0]).run Tryd.prog w.drew = .ok (.string ⟨#[]⟩) w.drew := Lib.run_unsafeString_none _ _ _ _ none
  clear h
  go_enter Tryd.func16, Tryd.ntmps16
  go_wp2_with fail
  go_region
  all_goals (go_wp2_with fail; go_ret; exact ⟨rfl, rfl⟩)
end Go.Proofs.YtgiceeholamphaaDoor
