/- Phases in plain Lean: what a process does in a phase. No program; no conditions. -/
import Derived.Test.YticdjkkcfdbdcaaScO
namespace Go.Proofs.Yticdjkkcfdbdcaa
open Go.ChangeShapes Go.WideShapes Go.ChangeAt Go.RowKit
structure DoR where
  kind : Int
  to : Int
  n : Int
structure ProcR where
  todo : List DoR
  num : Int
  come : List Int
  sends : List (Int × Int)
def w64 (n : Int) : Int := wrap64 n
end Go.Proofs.Yticdjkkcfdbdcaa

/- Actors, plain: what they take and send; time by time. No program. -/
namespace Go.Proofs.Yticdjkkcfdbdcaa
structure RuleR where
  kind : Int
  times : Int
  plus : Int
  mod : Int
  send : Int
  to : Int
  after : Int
structure LetR where
  time : Int
  to : Int
  kind : Int
  n : Int
def kindOk (k : Int) : Prop := 1 ≤ k ∧ k ≤ 100
instance (k : Int) : Decidable (kindOk k) := inferInstanceAs (Decidable (_ ∧ _))
/-- A rule in a list of so many actors. -/
def ruleOk (n : Nat) (r : RuleR) : Prop := kindOk r.kind ∧ 0 ≤ r.mod ∧ ((r.mod = 0 ∧ r.send = 0 ∧ r.to = 0 ∧ r.after = 0) ∨ (r.mod ≠ 0 ∧ kindOk r.send ∧ 0 ≤ r.to ∧ r.to < n ∧ 1 ≤ r.after ∧ r.after ≤ 1000))
instance (n : Nat) (r : RuleR) : Decidable (ruleOk n r) := inferInstanceAs (Decidable (_ ∧ _))
def letOk (n : Nat) (x : LetR) : Prop := 0 ≤ x.time ∧ x.time ≤ 100000 ∧ 0 ≤ x.to ∧ x.to < n ∧ kindOk x.kind
instance (n : Nat) (x : LetR) : Decidable (letOk n x) := inferInstanceAs (Decidable (_ ∧ _))
/-- What a letter makes of an actor's number; what it sends. -/
def takeR (rs : List RuleR) (num : Int) (x : LetR) : Int × Option LetR :=
  match rs.find? (fun r => r.kind == x.kind) with
  | none => (num, none)
  | some r =>
    let n := w64 (w64 (w64 (r.times * num) + r.plus) + x.n)
    (n, if r.mod = 0 ∨ n.tmod r.mod ≠ 0 then none else some ⟨x.time + r.after, r.to, r.send, n⟩)
/-- All that comes at a time: the number behind it; what was sent, in order. -/
def atR (rs : List RuleR) : Int → List LetR → Int × List LetR
  | num, [] => (num, [])
  | num, x :: l =>
    let a := takeR rs num x
    let b := atR rs a.1 l
    (b.1, a.2.toList ++ b.2)
/-- What comes to whom, when: in order. -/
abbrev Come := Nat → Int → List LetR
def Come.add (c : Come) (x : LetR) : Come := fun i t => if (i : Int) = x.to ∧ t = x.time then c i t ++ [x] else c i t
def Come.addAll (c : Come) : List LetR → Come
  | [] => c
  | x :: l => (c.add x).addAll l
/-- Actors in a time: their numbers, what all sent. -/
def timeR (R : List (List RuleR)) (c : Come) (t : Int) (nums : List Int) : List Int × List LetR :=
  let l := nums.mapIdx fun i n => atR (R.getD i []) n (c i t)
  (l.map (·.1), l.flatMap (·.2))
/-- What is told of a time. -/
def logR (n : Nat) (c : Come) (t : Int) : List LetR := (List.range n).flatMap fun i => c i t
theorem takeR_later {rs : List RuleR} {n : Nat} (h : ∀ r ∈ rs, ruleOk n r) {num : Int} {x y : LetR} (hy : (takeR rs num x).2 = some y) : x.time < y.time ∧ y.time ≤ x.time + 1000 ∧ 0 ≤ y.to ∧ y.to < n ∧ kindOk y.kind := by
  unfold takeR at hy
  split at hy
  · cases hy
  · rename_i r hr
    have hok := h r (List.mem_of_find?_eq_some hr)
    simp only at hy
    split at hy
    · cases hy
    · rename_i hc
      cases hy
      obtain ⟨_, _, ⟨h0, _⟩ | ⟨_, h1, h2, h3, h4, h5⟩⟩ := hok
      · exact absurd (.inl h0) hc
      · exact ⟨by simp only; omega, by simp only; omega, h2, h3, h1⟩
theorem atR_later {rs : List RuleR} {n : Nat} (h : ∀ r ∈ rs, ruleOk n r) : ∀ (l : List LetR) (num t : Int), (∀ x ∈ l, x.time = t) → ∀ y ∈ (atR rs num l).2, t < y.time ∧ y.time ≤ t + 1000 ∧ 0 ≤ y.to ∧ y.to < n ∧ kindOk y.kind
  | [], _, _, _, y, hy => by cases hy
  | x :: l, num, t, ht, y, hy => by
    simp only [atR, List.mem_append, Option.mem_toList] at hy
    rcases hy with hy | hy
    · have := takeR_later h hy
      rw [ht x (List.mem_cons_self ..)] at this
      exact this
    · exact atR_later h l _ t (fun z hz => ht z (List.mem_cons_of_mem _ hz)) y hy
end Go.Proofs.Yticdjkkcfdbdcaa
