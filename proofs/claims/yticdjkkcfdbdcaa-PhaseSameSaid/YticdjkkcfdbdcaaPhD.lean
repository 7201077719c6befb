/- Contracts: the reference's Between and Workers, phase.formed, phase.Check, the reference's Dos. No conditions but that what is read is there. -/
import Derived.Test.YticdjkkcfdbdcaaPhA
import Derived.Test.YticdjkkcfdbdcaaProg
import Derived.Test.YticdjkkcfdbdcaaRows
import Derived.Deep.DeepCutAuto
import Derived.Deep.LoopGhost
import Derived.BigQuiet
import Derived.BigRegion
import Derived.Deep.QuietTactic
import Derived.StillTailTactics
import Derived.WalkSmall
namespace Go.Proofs.Yticdjkkcfdbdcaa
open Go.ChangeShapes Go.WideShapes Go.ChangeAt Go.RowKit
/-- A list of Dos as it is read: where it lies. -/
structure DosR where
  A : Option Addr
  c : Nat
  ds : List DoR
structure RdAll (w : World) (B : Nat) (A : Option Addr) (D : List DosR) : Prop where
  row : D ≠ [] → ∃ b o, A = some ⟨b, o, none⟩ ∧ b < B ∧ ∀ (k : Nat) (h : k < D.length), w.cell? ⟨b, o + k, none⟩ = some (.slice D[k].A D[k].ds.length D[k].c)
  each : ∀ (k : Nat) (h : k < D.length), RdDos w B D[k].A D[k].ds
  small : ∀ (k : Nat) (h : k < D.length), Fits D[k].ds.length
  fits : Fits D.length
theorem RdAll.keep {w w' : World} {B : Nat} {A : Option Addr} {D : List DosR} (h : RdAll w B A D) (hk : ∀ p : Addr, p.block < B → w'.cell? p = w.cell? p) : RdAll w' B A D where
  row := fun hn => by
    obtain ⟨b, o, e, hb, hc⟩ := h.row hn
    exact ⟨b, o, e, hb, fun k hlt => (hk _ hb).trans (hc k hlt)⟩
  each := fun k hk' => (h.each k hk').keep hk
  small := h.small
  fits := h.fits
theorem RdAll.below {w w' : World} {B : Nat} {A : Option Addr} {D : List DosR} (h : RdAll w B A D) (hb : Below B w w') : RdAll w' B A D := h.keep fun _ hp => hb.cell hp
theorem RdAll.at_ {w : World} {B : Nat} {A : Option Addr} {D : List DosR} (h : RdAll w B A D) {k : Nat} (hk : k < D.length) : ∃ b o, A = some ⟨b, o, none⟩ ∧ b < B ∧ w.cell? ⟨b, o + k, none⟩ = some (.slice D[k].A D[k].ds.length D[k].c) := by
  obtain ⟨b, o, e, hb, hc⟩ := h.row (by rintro rfl; simp at hk)
  exact ⟨b, o, e, hb, hc k hk⟩
def okDo (n : Nat) (d : DoR) : Prop := (d.kind = 1 ∧ d.to = 0) ∨ (d.kind = 2 ∧ 0 ≤ d.to ∧ d.to < n) ∨ ((d.kind = 3 ∨ d.kind = 4) ∧ d.to = 0 ∧ d.n = 0)
instance (n : Nat) (d : DoR) : Decidable (okDo n d) := inferInstanceAs (Decidable (_ ∨ _))
def wkOk (n : Int) : Prop := 1 ≤ n ∧ n ≤ 16
instance (n : Int) : Decidable (wkOk n) := inferInstanceAs (Decidable (_ ∧ _))
theorem between_b (a b c : Int) (r : Bool) (w : World) (h : decide (b ≤ a ∧ a ≤ c) = r) : Calls Try.prog 54 #[.int .i64 a, .int .i64 b, .int .i64 c] w fun e w' => e = .returned (.bool r) ∧ w = w' := by
  subst h
  by_cases h1 : b ≤ a
  · by_cases h2 : a ≤ c
    · go_enter Try.func54, Try.ntmps54
      go_wp2
      go_ret
      exact ⟨by simp [h1, h2], rfl⟩
    · go_enter Try.func54, Try.ntmps54
      go_wp2
      go_ret
      exact ⟨retBool (by simp; omega), rfl⟩
  · go_enter Try.func54, Try.ntmps54
    go_wp2
    go_ret
    exact ⟨retBool (by simp; omega), rfl⟩
theorem workers_b (a : Int) (r : Bool) (w : World) (h : decide (wkOk a) = r) : Calls Try.prog 46 #[.int .i64 a] w fun e w' => e = .returned (.bool r) ∧ w = w' := by
  go_enter Try.func46, Try.ntmps46
  go_wp2_with (go_at_call 54; refine (between_b a 1 16 r _ h).mono ?_; rintro e w' ⟨rfl, rfl⟩)
  go_ret
  exact ⟨rfl, rfl⟩
theorem formed_b (w : World) (n : Nat) (d : DoR) (r : Bool) (h : decide (okDo n d) = r) : Calls Try.prog 53 #[.agg #[.int .i64 d.kind, .int .i64 d.to, .int .i64 d.n], .int .i64 n] w fun e w' => e = .returned (.bool r) ∧ Below w.heap.size w w' := by
  subst h
  obtain ⟨kd, dst, nn⟩ := d
  have hd : okDo n ⟨kd, dst, nn⟩ ↔ (kd = 1 ∧ dst = 0) ∨ (kd = 2 ∧ 0 ≤ dst ∧ dst < n) ∨ ((kd = 3 ∨ kd = 4) ∧ dst = 0 ∧ nn = 0) := Iff.rfl
  have Hd := Lib.hid hd; clear hd
  have hbl : ∀ o : Obj, Below w.heap.size w (w.alloc o) := fun o => (Below.refl _ _).alloc (Nat.le_refl _) o
  have Hbl := Lib.hid hbl; clear hbl
  by_cases h1 : kd = 1
  · subst h1
    go_enter Try.func53, Try.ntmps53
    go_wp2
    go_ret
    exact ⟨retBool (by rw [Bool.eq_iff_iff]; simp [Hd.out]), Hbl.out _⟩
  by_cases h2 : kd = 2
  · subst h2
    by_cases h3 : 0 ≤ dst
    · go_enter Try.func53, Try.ntmps53
      go_wp2
      go_ret
      exact ⟨retBool (by rw [Bool.eq_iff_iff]; simp [Hd.out, h3]), Hbl.out _⟩
    · go_enter Try.func53, Try.ntmps53
      go_wp2
      go_ret
      exact ⟨retBool (by rw [Bool.eq_iff_iff]; simp [Hd.out]; omega), Hbl.out _⟩
  by_cases h3 : kd = 3
  · subst h3
    by_cases h4 : dst = 0
    · subst h4
      go_enter Try.func53, Try.ntmps53
      go_wp2
      go_ret
      exact ⟨retBool (by rw [Bool.eq_iff_iff]; simp [Hd.out]), Hbl.out _⟩
    · go_enter Try.func53, Try.ntmps53
      go_wp2
      go_ret
      exact ⟨retBool (by rw [Bool.eq_iff_iff]; simp [Hd.out, h4]), Hbl.out _⟩
  by_cases h4 : kd = 4
  · subst h4
    by_cases h5 : dst = 0
    · subst h5
      go_enter Try.func53, Try.ntmps53
      go_wp2
      go_ret
      exact ⟨retBool (by rw [Bool.eq_iff_iff]; simp [Hd.out]), Hbl.out _⟩
    · go_enter Try.func53, Try.ntmps53
      go_wp2
      go_ret
      exact ⟨retBool (by rw [Bool.eq_iff_iff]; simp [Hd.out, h5]), Hbl.out _⟩
  · go_enter Try.func53, Try.ntmps53
    go_wp2
    go_ret
    exact ⟨retBool (by rw [Bool.eq_iff_iff]; simp [Hd.out]; omega), Hbl.out _⟩
end Go.Proofs.Yticdjkkcfdbdcaa
