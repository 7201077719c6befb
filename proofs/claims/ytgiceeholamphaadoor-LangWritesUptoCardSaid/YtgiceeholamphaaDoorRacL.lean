/- Programs without races, as the reference looks for them: plain. No conditions. -/
import Derived.Test.YtgiceeholamphaaDoorUses2
import Derived.Test.YtgiceeholamphaaDoorRaces
namespace Go.Proofs.YtgiceeholamphaaDoor
open Go.ChangeShapes Go.WideShapes Go.ChangeAt Go.RowKit Go.Maps

/-- A name by which block a hits block b. -/
def hitS (s : ByteArray) (a b : BlockR) : Prop := (s ∈ assignsS a.l ∧ (s ∈ assignsS b.l ∨ s ∈ addsS b.l ∨ s ∈ readsS b.l)) ∨ (s ∈ addsS a.l ∧ s ∈ readsS b.l)
def hitB (a b : BlockR) : Prop := ∃ s, hitS s a b
theorem apt_hit {a b : BlockR} : aptB a b ↔ ¬ hitB a b ∧ ¬ hitB b a := by
  constructor
  · intro h
    refine ⟨?_, ?_⟩
    · rintro ⟨s, ⟨h1, h2 | h2 | h2⟩ | ⟨h1, h2⟩⟩
      · exact h.aa s h1 h2
      · exact h.ad s h1 h2
      · exact h.ar s h1 h2
      · exact h.dr s h1 h2
    · rintro ⟨s, ⟨h1, h2 | h2 | h2⟩ | ⟨h1, h2⟩⟩
      · exact h.aa s h2 h1
      · exact h.da s h2 h1
      · exact h.ra s h2 h1
      · exact h.rd s h2 h1
  · rintro ⟨h, k⟩
    exact ⟨fun s a b => h ⟨s, .inl ⟨a, .inl b⟩⟩, fun s a b => h ⟨s, .inl ⟨a, .inr (.inl b)⟩⟩, fun s a b => h ⟨s, .inl ⟨a, .inr (.inr b)⟩⟩, fun s a b => k ⟨s, .inl ⟨b, .inr (.inl a)⟩⟩,
      fun s a b => h ⟨s, .inr ⟨a, b⟩⟩, fun s a b => k ⟨s, .inl ⟨b, .inr (.inr a)⟩⟩, fun s a b => k ⟨s, .inr ⟨b, a⟩⟩⟩
/-- Blocks up to q: without races, and hitting none of the others (in a Par). -/
structure CalmK (kind : Int) (bs : List BlockR) (q : Nat) : Prop where
  each : ∀ t (h : t < bs.length), t < q → CalmL bs[t].l
  apart : kind = 5 → ∀ t (h : t < bs.length) m (h' : m < bs.length), t < q → m ≠ t → ¬ hitB bs[t] bs[m]
theorem CalmK.zero (kind : Int) (bs : List BlockR) : CalmK kind bs 0 := ⟨fun _ _ h => by omega, fun _ _ _ _ _ h => by omega⟩
theorem CalmK.step {kind : Int} {bs : List BlockR} {q : Nat} (h : CalmK kind bs q) (hq : q < bs.length) (hc : CalmL bs[q].l) (ha : kind = 5 → ∀ m (h' : m < bs.length), m ≠ q → ¬ hitB bs[q] bs[m]) : CalmK kind bs (q + 1) :=
  ⟨fun t ht htq => by
    by_cases e : t = q
    · subst e; exact hc
    · exact h.each t ht (by omega), fun k5 t ht m hm htq hmt => by
    by_cases e : t = q
    · subst e; exact ha k5 m hm hmt
    · exact h.apart k5 t ht m hm (by omega) hmt⟩
theorem CalmK.stat {x : StatR} (h : CalmK x.kind x.blocks x.blocks.length) : CalmS x := by
  refine ⟨x, fun k5 => List.pairwise_iff_getElem.2 fun i j hi hj hij => apt_hit.2 ⟨h.apart k5 i hi j hj hi (by omega), h.apart k5 j hj i hi hj (by omega)⟩, fun b hb y hy => ?_⟩
  obtain ⟨i, hi, rfl⟩ := List.getElem_of_mem hb
  exact h.each i hi hi y hy
theorem calmS_hit {x : StatR} (h : CalmS x) (k5 : x.kind = 5) {j m : Nat} (hj : j < x.blocks.length) (hm : m < x.blocks.length) (hne : m ≠ j) : ¬ hitB x.blocks[j] x.blocks[m] := by
  rcases Nat.lt_or_ge j m with hl | hg
  · exact (apt_hit.1 (List.pairwise_iff_getElem.1 (h.ok k5) j m hj hm hl)).1
  · exact (apt_hit.1 (List.pairwise_iff_getElem.1 (h.ok k5) m j hm hj (by omega))).2
theorem allsS_mem3 (s : ByteArray) {l : List StatR} (h : AllL l) : s ∈ allsS l ↔ s ∈ assignsS l ∨ s ∈ addsS l ∨ s ∈ readsS l := by
  induction l with
  | nil => simp [allsS, assignsS, addsS, readsS]
  | cons y l ihl =>
    have h1 := alls_mem s y (h y (by simp))
    have h2 := ihl fun z hz => h z (by simp [hz])
    simp only [allsS, assignsS, addsS, readsS, List.mem_append, h1, h2]
    grind
/-- The names of a block, in order, each once. -/
def namesB (b : BlockR) : List ByteArray := putAll (allsS b.l) []
theorem hit_named {s : ByteArray} {a b : BlockR} (hA : AllL a.l) (h : hitS s a b) : s ∈ namesB a := by
  refine (putAll_mem s _ _).2 (.inl ((allsS_mem3 s hA).2 ?_))
  rcases h with ⟨h, _⟩ | ⟨h, _⟩
  · exact .inl h
  · exact .inr (.inl h)
theorem useN_four (a d r : Bool) : decide (4 ≤ useN a d r) = a := by cases a <;> cases d <;> cases r <;> decide
theorem useN_pos (a d r : Bool) : decide (0 < useN a d r) = (a || (d || r)) := by cases a <;> cases d <;> cases r <;> decide
theorem useN_two (a d r : Bool) : decide (0 < bits .and .i64 (useN a d r) 2) = d := by cases a <;> cases d <;> cases r <;> decide
theorem useN_one (a d r : Bool) : decide (0 < bits .and .i64 (useN a d r) 1) = r := by cases a <;> cases d <;> cases r <;> decide
noncomputable def hitT (s : ByteArray) (a b : BlockR) : Bool := (memB s (assignsS a.l) && (memB s (assignsS b.l) || (memB s (addsS b.l) || memB s (readsS b.l)))) || (memB s (addsS a.l) && memB s (readsS b.l))
theorem hitT_iff {s : ByteArray} {a b : BlockR} : hitT s a b = true ↔ hitS s a b := by
  simp only [hitT, hitS, Bool.or_eq_true, Bool.and_eq_true, memB_iff]
end Go.Proofs.YtgiceeholamphaaDoor
