/- Workers that take items of work out of one channel, filled and closed ahead: the family, and its rules. No program; no conditions but those named. -/
import Derived.Test.YticdjkkcfdbdcaaChan
namespace Go.Proofs.Yticdjkkcfdbdcaa
open Go.Conc Go.ConcN
section
variable {n : Nat} {K : Nat → LK} {w : World} {t : Trace} {i : Nat}
/-- Places that nobody has, of whose touches one knows all: they become its own. -/
theorem Lic.claim (h : Lic n K w t) (hi : i < n) {U : Loc → Prop} (hU : ∀ l, U l → ∀ j, j < n → ¬ (K j).W l ∧ ¬ (K j).R l ∧ ¬ (K j).A l) (hm : ∀ l, U l → MemLoc w.heap.size l) (hp : ∀ l, U l → Perm t i l) :
    Lic n (upd K i { K i with W := fun l => (K i).W l ∨ U l }) w t := by
  have kW : ∀ j l, (upd K i { K i with W := fun l => (K i).W l ∨ U l } j).W l → (K j).W l ∨ (j = i ∧ U l) := fun j l hl => by
    by_cases e : j = i
    · subst e; rw [upd_same] at hl; exact hl.imp id fun x => ⟨rfl, x⟩
    · rw [upd_ne K _ e] at hl; exact .inl hl
  have kR : ∀ j, (upd K i { K i with W := fun l => (K i).W l ∨ U l } j).R = (K j).R := fun j => by
    by_cases e : j = i
    · subst e; rw [upd_same]
    · rw [upd_ne K _ e]
  have kA : ∀ j, (upd K i { K i with W := fun l => (K i).W l ∨ U l } j).A = (K j).A := fun j => by
    by_cases e : j = i
    · subst e; rw [upd_same]
    · rw [upd_ne K _ e]
  refine ⟨fun a b ha hb hab l h1 h2 => ?_, fun a b ha hb hab l h1 h2 => ?_, fun a b ha hb l h1 h2 => ?_, fun a ha l hl => ?_, fun a ha l hl => ?_, fun a ha l hl => ?_, fun a ha p x hx hA hk => h.pa a ha p x hx (by rw [kA] at hA; exact hA) hk, h.said, h.race, h.seen, h.above⟩
  · rcases kW a l h1 with q1 | ⟨e1, q1⟩ <;> rcases kW b l h2 with q2 | ⟨e2, q2⟩
    · exact h.ww a b ha hb hab l q1 q2
    · exact (hU l q2 a ha).1 q1
    · exact (hU l q1 b hb).1 q2
    · exact hab (e1.trans e2.symm)
  · rw [kR] at h2
    rcases kW a l h1 with q1 | ⟨_, q1⟩
    · exact h.wr a b ha hb hab l q1 h2
    · exact (hU l q1 b hb).2.1 h2
  · rw [kA] at h2
    rw [kR] at h1
    rcases h1 with h1 | h1
    · rcases kW a l h1 with q1 | ⟨_, q1⟩
      · exact h.wa a b ha hb l (.inl q1) h2
      · exact (hU l q1 b hb).2.2 h2
    · exact h.wa a b ha hb l (.inr h1) h2
  · rw [kR, kA] at hl
    rcases hl with hl | hl
    · rcases kW a l hl with q1 | ⟨_, q1⟩
      · exact h.low a ha l (.inl q1)
      · exact hm l q1
    · exact h.low a ha l (.inr hl)
  · rcases kW a l hl with q1 | ⟨e1, q1⟩
    · exact h.pw a ha l q1
    · rw [e1]; exact hp l q1
  · rw [kR] at hl; exact h.pr a ha l hl
end
/-- Another's channel turned. -/
theorem rely_chan {k : LK} {w w' : World} {c : Nat} {n1 s1 r1 n2 s2 r2 : Nat} {x1 x2 : Array Value} {c1 t1 c2 t2 : Bool} (h1 : w.heap[c]? = some (.chan n1 x1 c1 s1 r1 t1)) (h : w' = { w with heap := w.heap.setIfInBounds c (.chan n2 x2 c2 s2 r2 t2) }) (hk : ¬ k.W (.obj c) ∧ ¬ k.R (.obj c)) : Rely k w w' := by
  subst h
  have hc := chg_obj (k := ⟨fun l => l = .obj c, fun _ => False, fun _ => False⟩) (p := .chan n2 x2 c2 s2 r2 t2) h1 not_cells_chan not_cells_chan rfl
  have hlt : c < w.heap.size := (Array.getElem?_eq_some_iff.1 h1).1
  refine ⟨hc.size, rfl, rfl, rfl, hc.shape, fun a ha => ?_, fun b o ho hn ha => ?_⟩
  · by_cases e : a.block < w.heap.size
    · exact hc.cell a e (fun e => by cases e)
    · have q1 : w.heap[a.block]? = none := Array.getElem?_eq_none (by omega)
      have q2 : (w.heap.setIfInBounds c (.chan n2 x2 c2 s2 r2 t2))[a.block]? = none := Array.getElem?_eq_none (by simp; omega)
      simp only [World.cell?, q1, q2]
  · refine hc.obj b o ho hn fun e => ?_
    have e' : b = c := by cases e; rfl
    subst e'
    exact ha.elim hk.1 hk.2
end Go.Proofs.Yticdjkkcfdbdcaa
