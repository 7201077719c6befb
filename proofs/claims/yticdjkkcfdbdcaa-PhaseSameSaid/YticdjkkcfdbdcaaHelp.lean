/- Small words of the walks in company. No program; no conditions but those named. -/
import Derived.Test.YticdjkkcfdbdcaaOps
namespace Go.Proofs.Yticdjkkcfdbdcaa
open Go.Conc Go.ConcN
def regOf (id : Nat) : Code → Option (Array Oper)
  | .region i ops _ => if i = id then some ops else none
  | .seq a b => (regOf id a).orElse fun _ => regOf id b
  | .cond _ a b => (regOf id a).orElse fun _ => regOf id b
  | .block _ a | .loop a | .scope a => regOf id a
  | _ => none
def opsOf (f : Func) (id : Nat) : Array Oper := (f.body.bind (regOf id)).getD #[]
def Lik (k : LK) (p : Addr) : Prop := k.W (.cell p) ∨ k.R (.cell p)
theorem frozen_rely {k : LK} {w w₁ : World} (h : Rely k w w₁) {a : Addr} (hb : a.block < w.heap.size) : w₁.frozen? a = w.frozen? a := by
  have hs : w.heap[a.block]? = some w.heap[a.block] := Array.getElem?_eq_getElem hb
  obtain ⟨o₁, h1, h2⟩ := h.shape _ _ hs
  unfold World.frozen?
  rw [hs, h1]
  cases hc : w.heap[a.block] <;> rw [hc] at h2 <;> cases o₁ <;> simp_all [Alike]
theorem mem_up {k k1 : LK} {n n1 : Nat} (hu : Up k n k1 n1) (hm : ∀ l, k.W l ∨ k.R l → MemLoc n l) : ∀ l, k1.W l ∨ k1.R l → MemLoc n1 l := by
  rintro l (hl | hl)
  · rcases hu.new l hl with h | h
    · exact (hm l (.inl h)).mono hu.size
    · exact h.mem.1
  · rw [hu.R] at hl; exact (hm l (.inr hl)).mono hu.size
theorem Lik.up {k k1 : LK} {n n1 : Nat} {p : Addr} (h : Lik k p) (hu : Up k n k1 n1) : Lik k1 p := h.imp (hu.W _) (fun x => by rw [hu.R]; exact x)
theorem op_of {ops : Array Oper} {i : Nat} {o : Oper} {p : Op} (h : (ops[i]?).map (·.op) = some p) (ho : ops[i]? = some o) : o.op = p := by rw [ho] at h; simpa using h
theorem put_none (a : Act) (v : Value) : a.put none v = a := rfl
theorem op_ex {ops : Array Oper} {i : Nat} {p : Op} {d : Option Tmp} (h : (ops[i]?).map (fun o => (o.op, o.guard, o.dst)) = some (p, none, d)) : ∃ o, ops[i]? = some o ∧ o.op = p ∧ o.guard = none ∧ o.dst = d := by
  cases ho : ops[i]? with
  | none => rw [ho] at h; cases h
  | some o =>
    rw [ho] at h
    simp only [Option.map_some, Option.some.injEq, Prod.mk.injEq] at h
    exact ⟨o, rfl, h⟩
theorem eval_put_ne (a : Act) {d t : Nat} (h : d ≠ t) (v : Value) : (a.put (some d) v).eval (.tmp t) = a.eval (.tmp t) := by
  show (a.tmps.setIfInBounds d v).getD t undef = a.tmps.getD t undef
  rw [Array.getD_eq_getD_getElem?, Array.getD_eq_getD_getElem?, Array.getElem?_setIfInBounds, if_neg h]
theorem eval_put_eq (a : Act) {d : Nat} (h : d < a.tmps.size) (v : Value) : (a.put (some d) v).eval (.tmp d) = v := by
  show (a.tmps.setIfInBounds d v).getD d undef = v
  rw [Array.getD_eq_getD_getElem?, Array.getElem?_setIfInBounds, if_pos rfl, if_pos h]
  rfl
theorem put_size (a : Act) (d : Nat) (v : Value) : (a.put (some d) v).tmps.size = a.tmps.size := by simp [Act.put]
theorem eval_args (args : Array Value) (n t : Nat) (ds : List Deferred) (h : t < args.size) : (⟨args ++ Array.replicate n undef, ds⟩ : Act).eval (.tmp t) = args[t] := by
  show (args ++ Array.replicate n undef).getD t undef = _
  rw [Array.getD_eq_getD_getElem?, Array.getElem?_append_left h, Array.getElem?_eq_getElem h]
  rfl
theorem drop_all (n : Nat) : (List.range n).drop n = [] := by simp
theorem yld {o : Oper} (hg : o.guard = none) (f : Nat → Option Bool) : Region.wanted o f = true := by unfold Region.wanted; rw [hg]
end Go.Proofs.Yticdjkkcfdbdcaa
