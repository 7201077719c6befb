/- What lang.Read hands back, whatever comes of it. No conditions. -/
import Derived.Test.YtgiceeholamphaaDoorRead
namespace Go.Proofs.YtgiceeholamphaaDoor
open Go.ChangeShapes Go.WideShapes Go.ChangeAt Go.RowKit Go.Maps

def FormOk (o : ReadOut) (k : BlockR) (a b : Int) : Prop :=
  match o with | .syn n => k.l = [] ∧ a = 6 ∧ b = n | .large => k.l = [] ∧ a = 2 ∧ b = 0 | .fine l => plainS k.l = l ∧ a = 0 ∧ b = 0
theorem FormOk.same {o : ReadOut} {k k2 : BlockR} {a b a2 b2 : Int} (h : FormOk o k a b) (h2 : FormOk o k2 a2 b2) : a = a2 ∧ b = b2 ∧ plainS k.l = plainS k2.l := by
  cases o with
  | syn n => obtain ⟨e1, rfl, rfl⟩ := h; obtain ⟨e2, rfl, rfl⟩ := h2; exact ⟨rfl, rfl, by rw [e1, e2]⟩
  | large => obtain ⟨e1, rfl, rfl⟩ := h; obtain ⟨e2, rfl, rfl⟩ := h2; exact ⟨rfl, rfl, by rw [e1, e2]⟩
  | fine l => obtain ⟨e1, rfl, rfl⟩ := h; obtain ⟨e2, rfl, rfl⟩ := h2; exact ⟨rfl, rfl, by rw [e1, e2]⟩
/-- What Read hands back, whatever comes of it. -/
theorem read_form {o : ReadOut} {w : World} {E : Ending} {w' : World} (h : ReadPost o w E w') : Below w.heap.size w w' ∧ ∃ (k : BlockR) (a b : Int), E = .returned (.tuple #[k.val, .agg #[.int .i64 a, .int .i64 b]]) ∧ RdB w' w'.heap.size k ∧ FormOk o k a b := by
  obtain ⟨hb, h⟩ := h
  have he : RdB w' w'.heap.size (.mk none 0 []) := ⟨RowS.nil _ _ _, fun y hy => (by cases hy), by simp [BlockR.l, Fits]⟩
  cases o with
  | syn n => exact ⟨hb, .mk none 0 [], 6, n, h, he, rfl, rfl, rfl⟩
  | large => exact ⟨hb, .mk none 0 [], 2, 0, h, he, rfl, rfl, rfl⟩
  | fine l =>
    obtain ⟨k, e, hk, hl⟩ := h
    exact ⟨hb, k, 0, 0, e, hl.rd, hk, rfl, rfl⟩
end Go.Proofs.YtgiceeholamphaaDoor
