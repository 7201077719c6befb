/- The memory of the reference's Phases. No conditions but that what is read is there. -/
import Derived.Test.YticdjkkcfdbdcaaPhM
import Derived.Test.YticdjkkcfdbdcaaScO
import Derived.OwnWalk
import Derived.KernelRfl
namespace Go.Proofs.Yticdjkkcfdbdcaa
open Go.ChangeShapes Go.WideShapes Go.ChangeAt Go.RowKit
theorem run_make_cells {P : Program} (t e : TypeId) (i : TypeInfo) (z : Value) (ht : P.underlying t = some (.slice e)) (hi : P.info? e = some i) (hz : i.zero = some z)
    (kl kc : IntKind) (n : Nat) (hbytes : i.bytes * n ≤ 281474976710656) (h63 : n ≤ 9223372036854775807) (w : World) :
    (Instr.makeSlice t (.int kl (n : Int)) (.int kc (n : Int))).run P w = .ok (.slice (some ⟨w.heap.size, 0, none⟩) n n) (w.alloc (.cells (madeCells z.cells (n * i.size)) e)) := by
  have hb : (i.bytes : Int) * (n : Int) ≤ 281474976710656 := by
    have h : ((i.bytes * n : Nat) : Int) ≤ 281474976710656 := by omega
    rwa [Int.natCast_mul] at h
  have hr := run_make (P := P) w t e i z ht hi hz kl kc n n (by omega) (by omega) hb (by omega)
  simp only [Int.toNat_natCast] at hr
  exact hr
theorem info_i64' : (Try.prog.info? 2).map (fun i => (i.zero, i.size, i.bytes)) = some (some (.int .i64 0), 1, 8) := by kernel_rfl
theorem info_int' : (Try.prog.info? 3).map (fun i => (i.zero, i.size, i.bytes)) = some (some (.int .i64 0), 1, 8) := by kernel_rfl
theorem make_i64 (n : Nat) (hn : n ≤ 200) (w : World) : (Instr.makeSlice 23 (.int .i64 (n : Int)) (.int .i64 (n : Int))).run Try.prog w = .ok (.slice (some ⟨w.heap.size, 0, none⟩) n n) (w.alloc (.cells (madeCells #[.int .i64 0] n) 2)) := by
  obtain ⟨i, hi, hz⟩ := Option.map_eq_some_iff.1 info_i64'
  simp only [Prod.mk.injEq] at hz
  have := run_make_cells (P := Try.prog) 23 2 i _ Try.underlying23 hi hz.1 .i64 .i64 n (by rw [hz.2.2]; omega) (by omega) w
  rwa [hz.2.1, Nat.mul_one] at this
theorem make_int (n : Nat) (hn : n ≤ 200) (w : World) : (Instr.makeSlice 39 (.int .i64 (n : Int)) (.int .i64 (n : Int))).run Try.prog w = .ok (.slice (some ⟨w.heap.size, 0, none⟩) n n) (w.alloc (.cells (madeCells #[.int .i64 0] n) 3)) := by
  obtain ⟨i, hi, hz⟩ := Option.map_eq_some_iff.1 info_int'
  simp only [Prod.mk.injEq] at hz
  have := run_make_cells (P := Try.prog) 39 3 i _ Try.underlying39 hi hz.1 .i64 .i64 n (by rw [hz.2.2]; omega) (by omega) w
  rwa [hz.2.1, Nat.mul_one] at this
structure RfSt (w0 w : World) (B : Nat) (A : Option Addr) (D : List DosR) (g : Nat) (nums ats fol : List Int) (mv : Value) (ms : List MailR) : Prop where
  b0 : Blk w g 2 (ints nums)
  b1 : Blk w (g + 1) 3 (ints ats)
  b2 : Blk w (g + 2) 3 (ints fol)
  own : w.ownsRow (g + 3) 120 3 mv ms.length (cellsM ms)
  rd : RdAll w B A D
  low : B ≤ g
  bound : g + 3 ≤ w.heap.size
  bel : Below g w0 w
  len : nums.length = D.length ∧ ats.length = D.length ∧ fol.length = D.length
section
variable {w0 w w' : World} {B : Nat} {A : Option Addr} {D : List DosR} {g : Nat} {nums ats fol : List Int} {mv : Value} {ms : List MailR}
theorem RfSt.alloc (h : RfSt w0 w B A D g nums ats fol mv ms) (hg : g ≤ w0.heap.size) (o : Obj) : RfSt w0 (w.alloc o) B A D g nums ats fol mv ms :=
  ⟨h.b0.alloc o, h.b1.alloc o, h.b2.alloc o, h.own.alloc o, h.rd.keep fun p hp => World.cell?_alloc_lt w o p (by have := h.low; have := h.bound; omega), h.low, by have := h.bound; simp; omega, h.bel.alloc (by have := h.bound; omega) o, h.len⟩
theorem RfSt.drewN (h : RfSt w0 w B A D g nums ats fol mv ms) (m : Nat) : RfSt w0 (w.drewN m) B A D g nums ats fol mv ms :=
  ⟨h.b0, h.b1, h.b2, h.own, ⟨h.rd.row, fun k hk => ⟨(h.rd.each k hk).row⟩, h.rd.small, h.rd.fits⟩, h.low, h.bound, ⟨h.bel.os, h.bel.tape, h.bel.output, h.bel.size, h.bel.block⟩, h.len⟩
theorem RfSt.drew (h : RfSt w0 w B A D g nums ats fol mv ms) : RfSt w0 w.drew B A D g nums ats fol mv ms := h.drewN 1
theorem bel_set (h : Below g w0 w) {p : Addr} (hp : g ≤ p.block) (u : Value) : Below g w0 (w.setCell p u) :=
  ⟨h.os, h.tape, h.output, by have := h.size; simpa [World.setCell] using this, fun k hk => (Below.heap_setCell w p u k (by omega)).trans (h.block k hk)⟩
theorem RfSt.setNum (h : RfSt w0 w B A D g nums ats fol mv ms) (k : Nat) (v : Int) : RfSt w0 (w.setCell ⟨g, k, none⟩ (.int .i64 v)) B A D g (nums.set k v) ats fol mv ms where
  b0 := by have := h.b0.set_ k (.int .i64 v); rwa [ints_set] at this
  b1 := h.b1.far (by simp) _
  b2 := h.b2.far (by simp) _
  own := ownsRow_setCell_below h.own (by show g < g + 3; omega) _
  rd := h.rd.keep fun p hp => World.cell?_setCell_other w _ p _ (fun e => by subst e; have := h.low; simp at hp; omega)
  low := h.low
  bound := by have := h.bound; simpa [World.setCell] using this
  bel := bel_set h.bel (Nat.le_refl _) _
  len := by have := h.len; simpa using this
theorem RfSt.setAt (h : RfSt w0 w B A D g nums ats fol mv ms) (k : Nat) (v : Int) : RfSt w0 (w.setCell ⟨g + 1, k, none⟩ (.int .i64 v)) B A D g nums (ats.set k v) fol mv ms where
  b0 := h.b0.far (by simp) _
  b1 := by have := h.b1.set_ k (.int .i64 v); rwa [ints_set] at this
  b2 := h.b2.far (by simp) _
  own := ownsRow_setCell_below h.own (by show g + 1 < g + 3; omega) _
  rd := h.rd.keep fun p hp => World.cell?_setCell_other w _ p _ (fun e => by subst e; have := h.low; simp at hp; omega)
  low := h.low
  bound := by have := h.bound; simpa [World.setCell] using this
  bel := bel_set h.bel (Nat.le_succ _) _
  len := by have := h.len; simpa using this
theorem RfSt.setFol (h : RfSt w0 w B A D g nums ats fol mv ms) (k : Nat) (v : Int) : RfSt w0 (w.setCell ⟨g + 2, k, none⟩ (.int .i64 v)) B A D g nums ats (fol.set k v) mv ms where
  b0 := h.b0.far (by simp) _
  b1 := h.b1.far (by simp) _
  b2 := by have := h.b2.set_ k (.int .i64 v); rwa [ints_set] at this
  own := ownsRow_setCell_below h.own (by show g + 2 < g + 3; omega) _
  rd := h.rd.keep fun p hp => World.cell?_setCell_other w _ p _ (fun e => by subst e; have := h.low; simp at hp; omega)
  low := h.low
  bound := by have := h.bound; simpa [World.setCell] using this
  bel := bel_set h.bel (by show g ≤ g + 2; omega) _
  len := by have := h.len; simpa using this
theorem RfSt.mail (h : RfSt w0 w B A D g nums ats fol mv ms) {mv' : Value} {m : MailR} (hg : w.grownBy w' mv.ownBlock) (ho : w'.ownsRow (g + 3) 120 3 mv' (ms.length + 1) (cellsM (ms ++ [m]))) : RfSt w0 w' B A D g nums ats fol mv' (ms ++ [m]) := by
  have hk : ∀ k, k < g + 3 → w'.heap[k]? = w.heap[k]? := fun k hk => hg.block k (by have := h.bound; omega) (fun e => by have := h.own.lt _ e.symm; omega)
  refine ⟨h.b0.grown hg (fun e => ?_), h.b1.grown hg (fun e => ?_), h.b2.grown hg (fun e => ?_), by simpa using ho, h.rd.keep fun p hp => World.cell?_of_block (hk p.block (by have := h.low; omega)), h.low, Nat.le_trans h.bound hg.size, ?_, h.len⟩
  · have := h.own.lt _ e.symm; omega
  · have := h.own.lt _ e.symm; omega
  · have := h.own.lt _ e.symm; omega
  · exact ⟨hg.os.trans h.bel.os, hg.tape.trans h.bel.tape, hg.output.trans h.bel.output, Nat.le_trans h.bel.size hg.size, fun k hk' => (hk k (by omega)).trans (h.bel.block k hk')⟩
end
end Go.Proofs.Yticdjkkcfdbdcaa
