/- The law LangReads: whatever the text (of bounded length): what Read makes of it is what the reference makes of it. -/
import Derived.Test.YtgiceeholamphaaDoorPars
import Derived.Test.YtgiceeholamphaaDoorSmS
import Derived.Laws.StructEq
namespace Go.Proofs.YtgiceeholamphaaDoor
open Go.ChangeShapes Go.WideShapes Go.ChangeAt Go.RowKit Go.Maps

theorem Errs.below {w w' : World} (h : Errs w) (hb : Below w.heap.size w w') : Errs w' := by
  obtain ⟨⟨t1, p1, h1⟩, ⟨t2, p2, h2⟩⟩ := h
  exact ⟨⟨t1, p1, (hb.cell (p := ⟨3, 0, none⟩) (World.block_lt_of_cell? w _ h1)).trans h1⟩, ⟨t2, p2, (hb.cell (p := ⟨4, 0, none⟩) (World.block_lt_of_cell? w _ h2)).trans h2⟩⟩
def FormOk (o : ReadOut) (k : BlockR) (a b : Int) : Prop :=
  match o with | .syn n => k.l = [] ∧ a = 6 ∧ b = n | .large => k.l = [] ∧ a = 2 ∧ b = 0 | .fine l => plainS k.l = l ∧ a = 0 ∧ b = 0
theorem FormOk.same {o : ReadOut} {k k2 : BlockR} {a b a2 b2 : Int} (h : FormOk o k a b) (h2 : FormOk o k2 a2 b2) : a = a2 ∧ b = b2 ∧ plainS k.l = plainS k2.l := by
  cases o with
  | syn n => obtain ⟨e1, rfl, rfl⟩ := h; obtain ⟨e2, rfl, rfl⟩ := h2; exact ⟨rfl, rfl, by rw [e1, e2]⟩
  | large => obtain ⟨e1, rfl, rfl⟩ := h; obtain ⟨e2, rfl, rfl⟩ := h2; exact ⟨rfl, rfl, by rw [e1, e2]⟩
  | fine l => obtain ⟨e1, rfl, rfl⟩ := h; obtain ⟨e2, rfl, rfl⟩ := h2; exact ⟨rfl, rfl, by rw [e1, e2]⟩
/-- What Read hands back, whatever comes of it. -/
theorem read_form {o : ReadOut} {w : World} {E : Ending} {w' : World} (h : ReadPost o w E w') : Below w.heap.size w w' ∧ ∃ (k : BlockR) (a b : Int), E = .returned (.tuple #[k.val, .agg #[.int .i64 a, .int .i64 b]]) ∧ RdB w' w'.heap.size k ∧ FormOk o k a b := by
  obtain ⟨hb, h⟩ := h
  have he : RdB w' w'.heap.size (.mk none 0 []) := ⟨RowS.nil _ _ _, fun y hy => (by cases hy), by simp [BlockR.l, Fits]⟩
  cases o with
  | syn n => exact ⟨hb, .mk none 0 [], 6, n, h, he, rfl, rfl, rfl⟩
  | large => exact ⟨hb, .mk none 0 [], 2, 0, h, he, rfl, rfl, rfl⟩
  | fine l =>
    obtain ⟨k, e, hk, hl⟩ := h
    exact ⟨hb, k, 0, 0, e, hl.rd, hk, rfl, rfl⟩
set_option maxRecDepth 100000 in
set_option maxHeartbeats 4000000 in
theorem reads_law (s : ByteArray) (w : World) (hs : s.size ≤ 1048576) (hE : Errs w) : Calls Tryd.prog 4 #[.string s] w (YesPost w) := by
  obtain ⟨f, rl, hr⟩ := list_total (toksAt s.data.toList 0)
  have hrd := fun wx => read_any s wx hs f rl hr
  have hpa := fun wx hE => parsed_any s wx hs hE f rl hr
  generalize outOf rl = o at *
  have H := Lib.hid (And.intro hrd (And.intro hpa hE)); clear hrd hpa hE hr
  go_enter Tryd.func4, Tryd.ntmps4
  go_upto_region 3 with (first
    | (go_at_call 11; (
      refine (show Calls _ _ _ _ _ from H.out.1 _).mono ?_
      intro E w2 hp
      obtain ⟨hb2, k1, a1, b1, rfl, hk1, ho1⟩ := read_form hp
      have H2 := Lib.hid (And.intro hb2 (And.intro hk1 ho1)); clear hp hb2 hk1 ho1
      simp only [BlockR.val]))
    | (go_at_call 12; (
      refine (show Calls _ _ _ _ _ from H.out.2.1 _ ((H.out.2.2.below H2.out.1).below ((Below.refl _ _).alloc (Nat.le_refl _) _))).mono ?_
      intro E w4 hp
      obtain ⟨hb4, k2, a2, b2, rfl, hk2, ho2⟩ := read_form hp
      have H4 := Lib.hid (And.intro hb4 (And.intro hk2 ho2)); clear hp hb4 hk2 ho2
      simp only [BlockR.val])))
  obtain ⟨rfl, rfl, hpl⟩ := H2.out.2.2.same H4.out.2.2
  have hb1 : Below w2.heap.size w2 (w2.alloc (.cells #[.int .i64 a1, .int .i64 b1] 30)) := (Below.refl _ _).alloc (Nat.le_refl _) _
  have hx1 := Blk.newArr w2 30 (cs := #[.int .i64 a1, .int .i64 b1]) (vs := [.int .i64 a1, .int .i64 b1]) rfl
  have hz1 : (w2.alloc (.cells #[.int .i64 a1, .int .i64 b1] 30)).heap.size = w2.heap.size + 1 := by simp
  have hb4 := H4.out.1
  have hx4 := hx1.below hb4 (by omega)
  have hbb : Below w4.heap.size w4 (w4.alloc (.cells #[.int .i64 a1, .int .i64 b1] 30)) := (Below.refl _ _).alloc (Nat.le_refl _) _
  have hy1 := hx4.alloc (.cells #[.int .i64 a1, .int .i64 b1] 30)
  have hy2 := Blk.newArr w4 30 (cs := #[.int .i64 a1, .int .i64 b1]) (vs := [.int .i64 a1, .int .i64 b1]) rfl
  have hz4 := hb4.size
  have hbw : Below w.heap.size w (w4.alloc (.cells #[.int .i64 a1, .int .i64 b1] 30)) := ((H2.out.1.trans (hb1.mono H2.out.1.size)).trans (hb4.mono (by have := H2.out.1.size; omega))).trans (hbb.mono (by have := H2.out.1.size; omega))
  have hR1 : RdB (w4.alloc (.cells #[.int .i64 a1, .int .i64 b1] 30)) w4.heap.size k1 := (((H2.out.2.1.under hb1).under (hb4.mono (by omega))).more (by omega)).under hbb
  have hR2 : RdB (w4.alloc (.cells #[.int .i64 a1, .int .i64 b1] 30)) w4.heap.size k2 := H4.out.2.1.under hbb
  have hsm := sameS_any _ k1 k2 _ w4.heap.size (Nat.lt_succ_self _) hR1 hR2 hpl (by simp)
  generalize w4.alloc (.cells #[.int .i64 a1, .int .i64 b1] 30) = W5 at *
  have c0 := hy1.cell 0
  have c1 := hy1.cell 1
  have d0 := hy2.cell 0
  have d1 := hy2.cell 1
  simp only [List.getElem?_cons_zero, List.getElem?_cons_succ] at c0 c1 d0 d1
  have HH := Lib.hid (And.intro hbw hsm); clear hbw hsm hR1 hR2 hy1 hy2 hx4 hx1 hb1 hbb hb4 hpl
  go_wp2_with (go_at_call 13; (
    refine (show Calls _ _ _ _ _ from HH.out.2).mono ?_
    rintro E w6 ⟨rfl, hb6⟩
    have H6 := Lib.hid hb6; clear hb6))
  go_ret
  exact ⟨rfl, HH.out.1.trans (H6.out.mono (by have := HH.out.1.size; omega))⟩
end Go.Proofs.YtgiceeholamphaaDoor
