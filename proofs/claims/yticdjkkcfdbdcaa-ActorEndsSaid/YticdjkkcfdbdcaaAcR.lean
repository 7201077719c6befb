/- Contracts: the reference's Between and Workers, phase.formed, phase.Check, the reference's Dos. No conditions but that what is read is there. -/
import Derived.Test.YticdjkkcfdbdcaaAcA
import Derived.Test.YticdjkkcfdbdcaaProg
import Derived.Test.YticdjkkcfdbdcaaRows
import Derived.Deep.DeepCutAuto
import Derived.Deep.LoopGhost
import Derived.BigQuiet
import Derived.BigRegion
import Derived.Deep.QuietTactic
import Derived.StillTailTactics
import Derived.WalkSmall
namespace Go.Proofs.Yticdjkkcfdbdcaa
open Go.ChangeShapes Go.WideShapes Go.ChangeAt Go.RowKit
def wkOk (n : Int) : Prop := 1 ≤ n ∧ n ≤ 16
instance (n : Int) : Decidable (wkOk n) := inferInstanceAs (Decidable (_ ∧ _))
end Go.Proofs.Yticdjkkcfdbdcaa

/- Letters and rules as they lie in memory. No program. -/
namespace Go.Proofs.Yticdjkkcfdbdcaa
open Go.RowKit
theorem flat_at {α : Type} {f : α → List Value} {s : Nat} (hf : ∀ x, (f x).length = s) : ∀ (l : List α) (k j : Nat) (h : k < l.length), j < s → (l.flatMap f)[k * s + j]? = (f l[k])[j]?
  | x :: l, 0, j, _, hj => by
    rw [List.flatMap_cons, List.getElem?_append_left (by rw [hf]; omega), Nat.zero_mul, Nat.zero_add]
    rfl
  | x :: l, k + 1, j, h, hj => by
    have e : (k + 1) * s + j = (f x).length + (k * s + j) := by rw [hf, Nat.succ_mul]; omega
    rw [List.flatMap_cons, List.getElem?_append_right (by omega), e, Nat.add_sub_cancel_left]
    exact flat_at hf l k j (by simpa using h) hj
theorem flat_len {α : Type} {f : α → List Value} {s : Nat} (hf : ∀ x, (f x).length = s) (l : List α) : (l.flatMap f).length = l.length * s := by
  induction l with
  | nil => simp
  | cons x l ih => rw [List.flatMap_cons, List.length_append, hf, ih, List.length_cons, Nat.succ_mul]; omega
def cellsX (x : LetR) : List Value := [.int .i64 x.time, .int .i64 x.to, .int .i64 x.kind, .int .i64 x.n]
def cellsRu (r : RuleR) : List Value := [.int .i64 r.kind, .int .i64 r.times, .int .i64 r.plus, .int .i64 r.mod, .int .i64 r.send, .int .i64 r.to, .int .i64 r.after]
theorem rd_flat {α : Type} {f : α → List Value} {s : Nat} (hs : 0 < s) (hf : ∀ x, (f x).length = s) {w : World} {B : Nat} {A : Option Addr} {l : List α} (h : Rd w B A (l.flatMap f)) {k : Nat} (hk : k < l.length) :
    ∃ b o, A = some ⟨b, o, none⟩ ∧ b < B ∧ ∀ j v, (f l[k])[j]? = some v → w.cell? ⟨b, o + k * s + j, none⟩ = some v := by
  have hne : l.flatMap f ≠ [] := fun e => by
    have h0 : l.length * s = 0 := by rw [← flat_len hf, e]; rfl
    have := Nat.mul_pos (show 0 < l.length by omega) hs
    omega
  obtain ⟨b, o, e, hb, hc⟩ := h hne
  refine ⟨b, o, e, hb, fun j v hv => ?_⟩
  have hj : j < s := by rw [← hf l[k]]; exact (List.getElem?_eq_some_iff.1 hv).1
  rw [Nat.add_assoc]
  exact hc _ v ((flat_at hf l k j hk hj).trans hv)
/-- A list of rules, as its slice says. -/
structure RulR where
  A : Option Addr
  c : Nat
  rs : List RuleR
structure RdRules (w : World) (B : Nat) (A : Option Addr) (R : List RulR) : Prop where
  row : R ≠ [] → ∃ b o, A = some ⟨b, o, none⟩ ∧ b < B ∧ ∀ (k : Nat) (h : k < R.length), w.cell? ⟨b, o + k, none⟩ = some (.slice R[k].A R[k].rs.length R[k].c)
  each : ∀ (k : Nat) (h : k < R.length), Rd w B R[k].A (R[k].rs.flatMap cellsRu)
  small : ∀ (k : Nat) (h : k < R.length), Fits R[k].rs.length
  fits : Fits R.length
theorem RdRules.keep {w w' : World} {B : Nat} {A : Option Addr} {R : List RulR} (h : RdRules w B A R) (hk : ∀ p : Addr, p.block < B → w'.cell? p = w.cell? p) : RdRules w' B A R where
  row := fun hn => by
    obtain ⟨b, o, e, hb, hc⟩ := h.row hn
    exact ⟨b, o, e, hb, fun k hlt => (hk _ hb).trans (hc k hlt)⟩
  each := fun k hk' => (h.each k hk').keep hk
  small := h.small
  fits := h.fits
theorem RdRules.at_ {w : World} {B : Nat} {A : Option Addr} {R : List RulR} (h : RdRules w B A R) {k : Nat} (hk : k < R.length) : ∃ b o, A = some ⟨b, o, none⟩ ∧ b < B ∧ w.cell? ⟨b, o + k, none⟩ = some (.slice R[k].A R[k].rs.length R[k].c) := by
  obtain ⟨b, o, e, hb, hc⟩ := h.row (fun e => by rw [e] at hk; simp at hk)
  exact ⟨b, o, e, hb, hc k hk⟩
/-- What is wrong with them: the code that Check answers. -/
def letsBad (n : Nat) (ls : List LetR) : Prop := ∃ x ∈ ls, ¬ letOk n x
/-- A list of rules is bad: one is not formed, or two of a kind. -/
def rulesBad (n : Nat) (rs : List RuleR) : Prop := (∃ r ∈ rs, ¬ ruleOk n r) ∨ ¬ (rs.map (·.kind)).Nodup
open Classical in
noncomputable def actCode (R : List RulR) (ls : List LetR) : Int :=
  if letsBad R.length ls then 1 else if ∃ r ∈ R, rulesBad R.length r.rs then 1 else if 200 < R.length ∨ 200 < ls.length ∨ ∃ r ∈ R, 200 < r.rs.length then 2 else 0
end Go.Proofs.Yticdjkkcfdbdcaa
