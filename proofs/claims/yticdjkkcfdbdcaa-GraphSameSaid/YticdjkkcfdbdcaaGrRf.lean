/- The region of the reference's Worked that adds one number, alone. No conditions but that what is read is there. -/
import Derived.Test.YticdjkkcfdbdcaaGrP
import Derived.Test.YticdjkkcfdbdcaaGraphChk
namespace Go.Proofs.Yticdjkkcfdbdcaa
open Go.Conc Go.ConcN Go.RowKit
theorem ri_move {e : Operand → Value} {o : Oper} {w : World} {x : Operand} {v : Value} (hop : o.op = .move x) (hv : e x = v) : (execOp e o).run Try.prog w = .ok (.value v) w := by
  have := (opv_move (P := Try.prog) (fn := 0) (e := e) (k := LK.none) (w := w) (x := x) (.inl hop)).1
  rwa [hv] at this
theorem ri_index {e : Operand → Value} {o : Oper} {w : World} {t elem : TypeId} {x i : Operand} {b o' len cap sz : Nat} {n : Nat} (hop : o.op = .indexAddr t x i) (hx : e x = .slice (some ⟨b, o', none⟩) len cap) (hi : e i = .int .i64 (n : Int)) (h1 : n < len) (ht : Try.prog.underlying t = some (.slice elem)) (hsz : ∀ w, (Go.sizeOf elem).run Try.prog w = .ok sz w) {r : Nat} (hr : o' + n * sz = r) : (execOp e o).run Try.prog w = .ok (.value (.pointer (some ⟨b, r, none⟩))) w := by
  have := (opv_index (P := Try.prog) (fn := 0) (k := LK.none) (w := w) hop hx hi (Int.natCast_nonneg n) (by omega) ht hsz).1
  rw [show ((⟨b, o', none⟩ : Addr).add ((n : Int).toNat * sz)) = ⟨b, r, none⟩ by rw [Addr.add_lit', ← hr]; simp] at this
  exact this
theorem ri_load {e : Operand → Value} {o : Oper} {w : World} {t : TypeId} {x : Operand} {p : Addr} {v : Value} (hop : o.op = .load t x) (hx : e x = .pointer (some p)) (hag : ∀ w, (isAgg t).run Try.prog w = .ok false w) (hc : w.cell? p = some v) : (execOp e o).run Try.prog w = .ok (.value v) w :=
  (opv_load (P := Try.prog) (fn := 0) (k := ⟨fun _ => True, fun _ => True, fun _ => True⟩) (w := w) hop hx hag hc (.inl trivial)).1
theorem ri_of {e : Operand → Value} {o : Oper} {w : World} {v : Value} (h : (execOp e o).runT Try.prog w #[] = (.ok (.value v) w, #[])) : (execOp e o).run Try.prog w = .ok (.value v) w := by
  rw [Sem.runT_eq] at h
  exact (Prod.mk.inj h).1
end Go.Proofs.Yticdjkkcfdbdcaa
