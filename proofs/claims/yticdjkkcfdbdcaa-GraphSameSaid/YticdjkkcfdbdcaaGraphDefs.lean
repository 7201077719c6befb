/- Jobs as they are read, and what the document asks of them, in plain Lean. No conditions. -/
import Derived.Test.YticdjkkcfdbdcaaBase
namespace Go.Proofs.Yticdjkkcfdbdcaa
open Go.ChangeShapes Go.WideShapes Go.ChangeAt Go.RowKit
/-- A job as it is read: its fields; where its list lies. -/
structure JobR where
  len : Int
  urg : Int
  n : Int
  sA : Option Addr
  sc : Nat
  after : List Int
structure RdJobs (w : World) (B : Nat) (A : Option Addr) (J : List JobR) : Prop where
  row : J ≠ [] → ∃ b o, A = some ⟨b, o, none⟩ ∧ b < B ∧ ∀ (k : Nat) (h : k < J.length), w.cell? ⟨b, o + k * 4, none⟩ = some (.int .i64 J[k].len) ∧ w.cell? ⟨b, o + k * 4 + 1, none⟩ = some (.int .i64 J[k].urg) ∧
    w.cell? ⟨b, o + k * 4 + 2, none⟩ = some (.slice J[k].sA J[k].after.length J[k].sc) ∧ w.cell? ⟨b, o + k * 4 + 3, none⟩ = some (.int .i64 J[k].n)
  after : ∀ (k : Nat) (h : k < J.length), Rd w B J[k].sA (ints J[k].after)
  small : ∀ (k : Nat) (h : k < J.length), Fits J[k].after.length
  fits : Fits J.length
theorem RdJobs.at_ {w : World} {B : Nat} {A : Option Addr} {J : List JobR} (h : RdJobs w B A J) {k : Nat} (hk : k < J.length) : ∃ b o, A = some ⟨b, o, none⟩ ∧ b < B ∧ w.cell? ⟨b, o + k * 4, none⟩ = some (.int .i64 J[k].len) ∧ w.cell? ⟨b, o + k * 4 + 1, none⟩ = some (.int .i64 J[k].urg) ∧
    w.cell? ⟨b, o + k * 4 + 2, none⟩ = some (.slice J[k].sA J[k].after.length J[k].sc) ∧ w.cell? ⟨b, o + k * 4 + 3, none⟩ = some (.int .i64 J[k].n) := by
  obtain ⟨b, o, e, hb, hc⟩ := h.row (by rintro rfl; simp at hk)
  exact ⟨b, o, e, hb, hc k hk⟩
theorem RdJobs.keep {w w' : World} {B : Nat} {A : Option Addr} {J : List JobR} (h : RdJobs w B A J) (hk : ∀ p : Addr, p.block < B → w'.cell? p = w.cell? p) : RdJobs w' B A J where
  row := fun hn => by
    obtain ⟨b, o, e, hb, hc⟩ := h.row hn
    refine ⟨b, o, e, hb, fun k hlt => ?_⟩
    obtain ⟨h0, h1, h2, h3⟩ := hc k hlt
    exact ⟨(hk _ hb).trans h0, (hk _ hb).trans h1, (hk _ hb).trans h2, (hk _ hb).trans h3⟩
  after := fun k hlt => (h.after k hlt).keep hk
  small := h.small
  fits := h.fits
theorem RdJobs.below {w w' : World} {B : Nat} {A : Option Addr} {J : List JobR} (h : RdJobs w B A J) (hb : Below B w w') : RdJobs w' B A J := h.keep fun _ hp => hb.cell hp
theorem RdJobs.more {w : World} {B B' : Nat} {A : Option Addr} {J : List JobR} (h : RdJobs w B A J) (hB : B ≤ B') : RdJobs w B' A J where
  row := fun hn => by obtain ⟨b, o, e, hb, hc⟩ := h.row hn; exact ⟨b, o, e, by omega, hc⟩
  after := fun k hlt => (h.after k hlt).more hB
  small := h.small
  fits := h.fits
/-- Job number k's list of those ahead. -/
def aft (J : List JobR) (k : Nat) : List Int := ((J[k]?).map (·.after)).getD []
theorem aft_eq {J : List JobR} {k : Nat} (h : k < J.length) : aft J k = J[k].after := by simp [aft, h]
def okLen (j : JobR) : Prop := 1 ≤ j.len ∧ j.len ≤ 1000
def okIn (n : Nat) (a : Int) : Prop := 0 ≤ a ∧ a < (n : Int)
def okJob (n : Nat) (j : JobR) : Prop := okLen j ∧ ∀ a ∈ j.after, okIn n a
/-- A job whose way back comes to an end. -/
inductive Can (J : List JobR) : Nat → Prop
  | mk (i : Nat) : i < J.length → (∀ a ∈ aft J i, Can J a.toNat) → Can J i
instance (j : JobR) : Decidable (okLen j) := inferInstanceAs (Decidable (_ ∧ _))
instance (n : Nat) (a : Int) : Decidable (okIn n a) := inferInstanceAs (Decidable (_ ∧ _))
instance (n : Nat) (j : JobR) : Decidable (okJob n j) := inferInstanceAs (Decidable (_ ∧ _))
def lgJob (n : Nat) (j : JobR) : Bool := decide (200 < n) || decide (200 < j.after.length)
open Classical in
/-- What is wrong with jobs. -/
noncomputable def jobsCode (J : List JobR) : Int :=
  if ∃ j ∈ J, ¬ okJob J.length j then 1 else if J.any (lgJob J.length) then 2 else if ∀ i, i < J.length → Can J i then 0 else 4
def workersOk (n : Int) : Prop := 1 ≤ n ∧ n ≤ 16
instance (n : Int) : Decidable (workersOk n) := inferInstanceAs (Decidable (_ ∧ _))
noncomputable def askedCode (J : List JobR) (workers : Int) : Int := if jobsCode J ≠ 0 then jobsCode J else if workersOk workers then 0 else 1
theorem jobsCode_one {J : List JobR} {k : Nat} (hk : k < J.length) (h : ¬ okJob J.length J[k]) : jobsCode J = 1 := by
  unfold jobsCode; rw [if_pos ⟨_, List.getElem_mem hk, h⟩]
theorem jobsCode_two {J : List JobR} (h : ∀ j ∈ J, okJob J.length j) (hl : J.any (lgJob J.length) = true) : jobsCode J = 2 := by
  unfold jobsCode; rw [if_neg (by rintro ⟨j, hj, hn⟩; exact hn (h j hj)), if_pos hl]
theorem jobsCode_zero {J : List JobR} (h : ∀ j ∈ J, okJob J.length j) (hl : J.any (lgJob J.length) = false) (hc : ∀ i, i < J.length → Can J i) : jobsCode J = 0 := by
  unfold jobsCode; rw [if_neg (by rintro ⟨j, hj, hn⟩; exact hn (h j hj)), if_neg (by simp [hl]), if_pos hc]
theorem jobsCode_four {J : List JobR} (h : ∀ j ∈ J, okJob J.length j) (hl : J.any (lgJob J.length) = false) (hc : ¬ ∀ i, i < J.length → Can J i) : jobsCode J = 4 := by
  unfold jobsCode; rw [if_neg (by rintro ⟨j, hj, hn⟩; exact hn (h j hj)), if_neg (by simp [hl]), if_neg hc]
structure Good (J : List JobR) : Prop where
  ok : ∀ (k : Nat) (h : k < J.length), okJob J.length J[k]
  few : J.length ≤ 200
  short : ∀ (k : Nat) (h : k < J.length), J[k].after.length ≤ 200
  can : ∀ i, i < J.length → Can J i
theorem good_of_zero {J : List JobR} (h : jobsCode J = 0) : Good J := by
  unfold jobsCode at h
  split at h
  · cases h
  rename_i h1
  split at h
  · cases h
  rename_i h2
  split at h
  · rename_i h3
    have h2' : ∀ j ∈ J, lgJob J.length j = false := by simpa using h2
    have h1' : ∀ j ∈ J, okJob J.length j := fun j hj => Classical.byContradiction fun hn => h1 ⟨j, hj, hn⟩
    refine ⟨fun k hk => h1' _ (List.getElem_mem hk), ?_, fun k hk => ?_, h3⟩
    · cases J with
      | nil => simp
      | cons j J => have := h2' j (by simp); simp [lgJob] at this ⊢; omega
    · have := h2' _ (List.getElem_mem hk)
      simp [lgJob] at this
      omega
  · cases h
end Go.Proofs.Yticdjkkcfdbdcaa
