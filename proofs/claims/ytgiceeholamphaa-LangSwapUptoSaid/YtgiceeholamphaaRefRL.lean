/- What stepref.run leaves: plain. No conditions. -/
import Derived.Test.YtgiceeholamphaaRefB
import Derived.Test.YtgiceeholamphaaRefS
import Derived.Test.YtgiceeholamphaaDoer
namespace Go.Proofs.Ytgiceeholamphaa
open Go.ChangeShapes Go.WideShapes Go.ChangeAt Go.RowKit Go.Maps

section
variable {a b c : World} {row : Option Nat}
theorem gb_drew (h : a.grownBy b row) : a.grownBy b.drew row := ⟨h.os, h.tape, h.output, h.size, h.block⟩
theorem gb_drewN (h : a.grownBy b row) (n : Nat) : a.grownBy (b.drewN n) row := ⟨h.os, h.tape, h.output, h.size, h.block⟩
theorem gb_base {B : Nat} (h : a.grownBy b row) (hB : B ≤ a.heap.size) (hr : ∀ k, row = some k → B ≤ k) : Below B a b := (Below.refl B a).grown h hB hr
end
abbrev OV (w : World) (base : Nat) (v : Value) (N : List ByteArray) (f : ByteArray → Option Int) : Prop := w.ownsRow base 36 2 v N.length (cellsV (varsF N f))
/-- What is there behind a run: the steps that are left, the variables; or fewer than none are left. -/
def Stt (w : World) (base : Nat) (v : Value) (N : List ByteArray) (r : Int) : Option St → Prop
  | some s => r = s.2 ∧ OV w base v N s.1
  | none => r < 0
def RunPost (R : Option St) (base : Nat) (v : Value) (N : List ByteArray) (w : World) (E : Ending) (w' : World) : Prop :=
  ∃ r : Int, E = .returned (.int .i64 r) ∧ w.grownBy w' v.ownBlock ∧ Stt w' base v N r R
theorem Stt.below {w w' : World} {base : Nat} {v : Value} {N : List ByteArray} {r : Int} {R : Option St} (h : Stt w base v N r R) (hb : Below w.heap.size w w') : Stt w' base v N r R := by
  cases R with
  | none => exact h
  | some s => exact ⟨h.1, own_below h.2 hb⟩
def aftF (kind : Int) (name : ByteArray) (n : Int) (f : ByteArray → Option Int) : ByteArray → Option Int :=
  if kind = 1 then upd f name n else if kind = 2 then upd f name (wrap64 ((f name).getD 0 + n)) else f
theorem aftF_ne {kind : Int} {name : ByteArray} {n : Int} {f : ByteArray → Option Int} {s : ByteArray} (h : s ≠ name) : aftF kind name n f s = f s := by
  unfold aftF
  split
  · exact upd_other _ _ h
  · split
    · exact upd_other _ _ h
    · rfl
theorem aftF_ge {kind : Int} (name : ByteArray) (n : Int) (f : ByteArray → Option Int) (h : 3 ≤ kind) : aftF kind name n f = f := by
  unfold aftF
  rw [if_neg (by omega), if_neg (by omega)]
theorem cellsV_set (l : List VarR) (i : Nat) (z : Int) (hi : i < l.length) : (cellsV l).set (i * 2 + 1) (.int .i64 z) = cellsV (l.set i ⟨l[i].name, z⟩) := by
  induction l generalizing i with
  | nil => simp at hi
  | cons v l ih =>
    cases i with
    | zero => simp [cellsV, VarR.cells]
    | succ i =>
      have hi' : i < l.length := by simpa using hi
      have := ih i hi'
      simp only [List.getElem_cons_succ, List.set_cons_succ]
      rw [show cellsV (v :: l.set i ⟨(l[i]'hi').name, z⟩) = v.cells ++ cellsV (l.set i ⟨(l[i]'hi').name, z⟩) by simp [cellsV], ← this, show cellsV (v :: l) = v.cells ++ cellsV l by simp [cellsV], show (i + 1) * 2 + 1 = i * 2 + 1 + 2 by omega]
      simp [VarR.cells]
theorem mixF_cells {w : World} {base g c : Nat} {N : List ByteArray} {f h : ByteArray → Option Int} {p : Nat} (ho : w.ownsRow base 36 2 (.slice (some ⟨g, 0, none⟩) N.length c) N.length (cellsV (mixF N f h p))) (hp : p < N.length) :
    w.cell? ⟨g, p * 2, none⟩ = some (.string N[p]) ∧ w.cell? ⟨g, p * 2 + 1, none⟩ = some (.int .i64 ((h N[p]).getD 0)) := by
  have hl : p < (mixF N f h p).length := by rw [mixF_length]; exact hp
  have hm := mixF_at N f h hp
  rw [List.getElem?_eq_getElem hl] at hm
  have e := Option.some.inj hm
  have h0 := (ho.cellAt (p * 2) (by omega)).trans (cellsV_get _ (j := 0) hl (by omega))
  have h1 := (ho.cellAt (p * 2 + 1) (by omega)).trans (cellsV_get _ (j := 1) hl (by omega))
  rw [e] at h0 h1
  exact ⟨h0, h1⟩
theorem mixF_put {w : World} {base g c : Nat} {N : List ByteArray} {f h : ByteArray → Option Int} {p : Nat} (ho : w.ownsRow base 36 2 (.slice (some ⟨g, 0, none⟩) N.length c) N.length (cellsV (mixF N f h p))) (hp : p < N.length) (z : Int) (hz : (f N[p]).getD 0 = z) :
    (w.setCell ⟨g, p * 2 + 1, none⟩ (.int .i64 z)).ownsRow base 36 2 (.slice (some ⟨g, 0, none⟩) N.length c) N.length (cellsV (mixF N f h (p + 1))) := by
  have hl : p < (mixF N f h p).length := by rw [mixF_length]; exact hp
  have hm := mixF_at N f h hp
  rw [List.getElem?_eq_getElem hl] at hm
  have e := Option.some.inj hm
  have h1 := (ho.stored (p * 2 + 1) (.int .i64 z)).1
  rw [cellsV_set _ _ _ hl, e] at h1
  rw [← mixF_step N f h hp]
  rw [show vOf f N[p] = ⟨N[p], z⟩ by rw [vOf, hz]]
  exact h1
theorem wrS_take {L : List StatR} {q : Nat} : ∀ s ∈ wrS (L.take q), s ∈ wrS L := fun t ht => by
  have e := List.take_append_drop q L
  rw [← e, wrS, assignsS_append, addsS_append]
  simp only [wrS, List.mem_append] at ht ⊢
  rcases ht with ht | ht
  · exact .inl (.inl ht)
  · exact .inr (.inl ht)
theorem wrB_take {L : List BlockR} {q : Nat} : ∀ s ∈ wrB (L.take q), s ∈ wrB L := fun t ht => by
  have e := List.take_append_drop q L
  rw [← e, wrB, assignsB_append, addsB_append]
  simp only [wrB, List.mem_append] at ht ⊢
  rcases ht with ht | ht
  · exact .inl (.inl ht)
  · exact .inr (.inl ht)
theorem runB_take {l : List BlockR} {q : Nat} (hq : q < l.length) (st : St) : runB (l.take (q + 1)) st = (runB (l.take q) st).bind (runS (l[q]).l) := by
  rw [take_snocA hq, runB_append]
  congr 1
  funext s
  exact runB_one _ _
theorem runB_none {l : List BlockR} {q : Nat} {st : St} (h : runB (l.take q) st = none) : runB l st = none := by
  have e := List.take_append_drop q l
  rw [← e, runB_append, h]
  rfl
theorem runB_ok {l : List BlockR} {st st' : St} (hd : Dom st.1 (wrB l)) (h : runB l st = some st') : Down st st' := runB_down l (fun _ _ _ _ hd h => AllS.down hd h) st st' hd h
theorem headIter_ok {b : BlockR} {l : List BlockR} {st st' : St} {n : Nat} (hd : Dom st.1 (wrS b.l)) (h : iterO (headRun (b :: l)) n st = some st') : Down st st' := by
  induction n generalizing st with
  | zero => cases h; exact Down.refl _
  | succ n ih =>
    rw [iterO] at h
    cases hg : headRun (b :: l) st with
    | none => rw [hg] at h; cases h
    | some s =>
      rw [hg] at h
      have h1 : Down st s := AllS.down hd (by rw [← headRun_cons b l]; exact hg)
      exact h1.trans (ih (hd.down h1) h)
/-- stepref.run for programs of fewer nodes. -/
def RunC (n : Nat) : Prop := ∀ (k : BlockR) (w : World) (B base : Nat) (v : Value) (N : List ByteArray) (f : ByteArray → Option Int) (left : Nat), nodesS k.l < n → RdB w B k → AllL k.l → B ≤ base → base ≤ w.heap.size →
    OV w base v N f → Has N f → Dom f (wrS k.l) → left ≤ 9223372036854775807 → N.length ≤ 4194304 → Calls Try.prog 15 #[k.val, v, .int .i64 left] w (RunPost (runS k.l (f, left)) base v N w)
end Go.Proofs.Ytgiceeholamphaa
