/- The walk of scan.Scan$1 in company. No conditions but those named. -/
import Derived.Test.YtnabgoljnfaebaaScW
import Derived.Test.YtnabgoljnfaebaaScA2
namespace Go.Proofs.Ytnabgoljnfaebaa
open Go.Conc Go.ConcN Go.RowKit

/-- A row's part that holds these ints. -/
def Seg (w : World) (ob from_ : Nat) (l : List Int) : Prop := ∀ (i : Nat) (h : i < l.length), w.cell? ⟨ob, from_ + i, none⟩ = some (.int .i64 l[i])
def Lik (k : LK) (p : Addr) : Prop := k.W (.cell p) ∨ k.R (.cell p)
/-- What the walk of Scan$1 needs of memory. -/
structure S1 (op : Int) (fb xb ob from_ to n c : Nat) (k : LK) (w : World) : Prop where
  glob : Try.prog.globals.size ≤ w.heap.size
  mem : ∀ l, k.W l ∨ k.R l → MemLoc w.heap.size l
  fc : w.cell? ⟨fb, 0, none⟩ = some (.func (.func (opF op)) #[] #[]) ∧ Lik k ⟨fb, 0, none⟩
  oc : from_ < to → w.cell? ⟨xb, 0, none⟩ = some (.slice (some ⟨ob, 0, none⟩) n c) ∧ Lik k ⟨xb, 0, none⟩
  row : ∀ x, from_ ≤ x → x < to → k.W (.cell ⟨ob, x, none⟩) ∧ w.frozen? ⟨ob, x, none⟩ = false
theorem frozen_rely {k : LK} {w w₁ : World} (h : Rely k w w₁) {a : Addr} (hb : a.block < w.heap.size) : w₁.frozen? a = w.frozen? a := by
  have hs : w.heap[a.block]? = some w.heap[a.block] := Array.getElem?_eq_getElem hb
  obtain ⟨o₁, h1, h2⟩ := h.shape _ _ hs
  unfold World.frozen?
  rw [hs, h1]
  cases hc : w.heap[a.block] <;> rw [hc] at h2 <;> cases o₁ <;> simp_all [Alike]
theorem mem_up {k k1 : LK} {n n1 : Nat} (hu : Up k n k1 n1) (hm : ∀ l, k.W l ∨ k.R l → MemLoc n l) : ∀ l, k1.W l ∨ k1.R l → MemLoc n1 l := by
  rintro l (hl | hl)
  · rcases hu.new l hl with h | h
    · exact (hm l (.inl h)).mono hu.size
    · exact h.mem.1
  · rw [hu.R] at hl; exact (hm l (.inr hl)).mono hu.size
theorem Lik.up {k k1 : LK} {n n1 : Nat} {p : Addr} (h : Lik k p) (hu : Up k n k1 n1) : Lik k1 p := h.imp (hu.W _) (fun x => by rw [hu.R]; exact x)
section
variable {op : Int} {fb xb ob from_ to n c : Nat} {k k1 : LK} {w w₁ : World}
theorem S1.up (h : S1 op fb xb ob from_ to n c k w) (hr : Rely k w w₁) (hu : Up k w.heap.size k1 w₁.heap.size) : S1 op fb xb ob from_ to n c k1 w₁ where
  glob := Nat.le_trans h.glob hr.size
  mem := mem_up hu h.mem
  fc := ⟨(hr.cell _ h.fc.2).trans h.fc.1, h.fc.2.up hu⟩
  oc := fun hlt => ⟨(hr.cell _ (h.oc hlt).2).trans (h.oc hlt).1, (h.oc hlt).2.up hu⟩
  row := fun x h1 h2 => ⟨hu.W _ (h.row x h1 h2).1, (frozen_rely hr (h.mem (.cell ⟨ob, x, none⟩) (.inl (h.row x h1 h2).1))).trans (h.row x h1 h2).2⟩
theorem S1.rely (h : S1 op fb xb ob from_ to n c k w) (hr : Rely k w w₁) : S1 op fb xb ob from_ to n c k w₁ := h.up hr ((Up.refl _ _).wide hr.size)
theorem Seg.rely {l : List Int} (h : Seg w ob from_ l) (hl : from_ + l.length ≤ to) (hs : S1 op fb xb ob from_ to n c k w) (hr : Rely k w w₁) : Seg w₁ ob from_ l := fun i hi => (hr.cell _ (.inl (hs.row (from_ + i) (by omega) (by omega)).1)).trans (h i hi)
end
set_option maxRecDepth 100000 in
theorem body_s1 : Try.f16.body = some (.seq (.region 0 (opsOf Try.f16 0) false) (.block 0 (.loop (.seq (.seq (.region 1 (opsOf Try.f16 1) false) (.cond (.tmp 13) .skip (.exit 0))) (.seq (.block 1 (.region 3 (opsOf Try.f16 3) true)) (.region 2 (opsOf Try.f16 2) false)))))) := by kernel_rfl
end Go.Proofs.Ytnabgoljnfaebaa
