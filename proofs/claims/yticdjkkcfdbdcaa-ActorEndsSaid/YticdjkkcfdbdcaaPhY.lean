/- Processes as they lie in phase.Run. No program; no conditions. -/
import Derived.Test.YticdjkkcfdbdcaaAcK0
import Derived.Test.YticdjkkcfdbdcaaAcR
import Derived.Test.YticdjkkcfdbdcaaPhR
namespace Go.Proofs.Yticdjkkcfdbdcaa
open Go.ChangeShapes Go.WideShapes Go.ChangeAt Go.RowKit
/-- A process, and its slices. -/
structure PL where
  p : ProcR
  tA : Option Addr
  tc : Nat
  cv : Value
  sA : Option Addr
  sc : Nat
section
variable {L L' : World} {B base gl : Nat} {l : List PL}
theorem own_block_at {w : World} {base s n : Nat} {e : TypeId} {v : Value} {vs : List Value} (h : w.ownsRow base e s v n vs) {b : Nat} (hb : v.ownBlock = some b) : base ≤ b ∧ ∃ cur, w.heap[b]? = some (.cells cur e) := by
  rcases h.2 with ⟨rfl, _⟩ | ⟨g, cap, cur, rfl, h1, h2, _⟩
  · cases hb
  · cases hb; exact ⟨h1, cur, h2⟩
theorem own_of_block {w w' : World} {base s n : Nat} {e : TypeId} {v : Value} {vs : List Value} (h : w.ownsRow base e s v n vs) (hk : ∀ b, v.ownBlock = some b → w'.heap[b]? = w.heap[b]?) : w'.ownsRow base e s v n vs := by
  refine ⟨h.1, ?_⟩
  rcases h.2 with h1 | ⟨g, cap, cur, rfl, h1, h2, h3⟩
  · exact .inl h1
  · exact .inr ⟨g, cap, cur, rfl, h1, (hk g rfl).trans h2, h3⟩
end
end Go.Proofs.Yticdjkkcfdbdcaa

/- The region of phase.Run that hands on a letter, alone. No conditions but that what is read is there. -/
namespace Go.Proofs.Yticdjkkcfdbdcaa
open Go.Conc Go.ConcN Go.RowKit
/-- What was there stands. -/
structure Kp (N : Nat) (L0 L : World) : Prop where
  size : N ≤ L.heap.size
  at_ : ∀ b, b < N → L.heap[b]? = L0.heap[b]?
section
variable {N : Nat} {L0 L L' : World}
theorem Kp.same (h : Kp N L0 L) (e : L'.heap = L.heap) : Kp N L0 L' := ⟨by rw [e]; exact h.size, fun b hb => by rw [e]; exact h.at_ b hb⟩
theorem Kp.alloc (h : Kp N L0 L) (o : Obj) : Kp N L0 (L.alloc o) := ⟨by have := h.size; simp; omega, fun b hb => (Below.heap_alloc L o b (by have := h.size; omega)).trans (h.at_ b hb)⟩
theorem Kp.set_ (h : Kp N L0 L) {p : Addr} (hp : N ≤ p.block) (v : Value) : Kp N L0 (L.setCell p v) := ⟨by have := h.size; simpa [World.setCell] using this, fun b hb => (Below.heap_setCell L p v b (by omega)).trans (h.at_ b hb)⟩
theorem Kp.grown (h : Kp N L0 L) {row : Option Nat} (hg : L.grownBy L' row) (hr : ∀ b, row = some b → N ≤ b) : Kp N L0 L' := ⟨Nat.le_trans h.size hg.size, fun b hb => (hg.block b (by have := h.size; omega) fun e => by have := hr b e.symm; omega).trans (h.at_ b hb)⟩
theorem Kp.keep (h : Kp N L0 L) (hz : L.heap.size ≤ L'.heap.size) (hk : ∀ b, b < N → L'.heap[b]? = L.heap[b]?) : Kp N L0 L' := ⟨Nat.le_trans h.size hz, fun b hb => (hk b hb).trans (h.at_ b hb)⟩
theorem Kp.refl (N : Nat) (L : World) (h : N ≤ L.heap.size) : Kp N L L := ⟨h, fun _ _ => rfl⟩
end
theorem info_i64c : (Try.prog.info? 2).map (fun i => (i.zero, i.size, i.bytes)) = some (some (.int .i64 0), 1, 8) := by kernel_rfl
end Go.Proofs.Yticdjkkcfdbdcaa
