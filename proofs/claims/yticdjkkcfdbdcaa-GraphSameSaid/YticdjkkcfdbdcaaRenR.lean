/- Values, objects, worlds and meanings that are alike but for the numbers of their blocks: of a goroutine that runs alone and of one in company. No program; no conditions but those named. -/
import Derived.Test.YticdjkkcfdbdcaaAtom
namespace Go.Proofs.Yticdjkkcfdbdcaa
open Go.Conc
/-- Functions: those whose values may lie about; those that may be called. -/
structure FnSet where
  val : FuncId → Prop
  call : FuncId → Prop
instance : CoeFun FnSet (fun _ => FuncId → Prop) := ⟨FnSet.val⟩
/-- Of a block of the lone world: the block in company, and where in it the lone one's first cell lies. No block below 'base' is named (there lie the program's own). 'own': the blocks that hold a map or an iterator of the lone one's; 'isChan': those that hold a channel. 'bad': a type that is none: of it are the lone one's rows that stand for a part of a row, or for a row not to be touched; 'part': these. -/
structure Ren where
  to : Nat → Option (Nat × Nat)
  base : Nat
  own : Nat → Prop
  isChan : Nat → Prop
  bad : TypeId
  part : Nat → Prop
  ok : ∀ b p, to b = some p → base ≤ b ∧ base ≤ p.1
instance : CoeFun Ren (fun _ => Nat → Option (Nat × Nat)) := ⟨Ren.to⟩
structure Ren.le (ρ ρ' : Ren) : Prop where
  to : ∀ b p, ρ b = some p → ρ' b = some p
  base : ρ'.base = ρ.base
  own : ∀ b, ρ.own b → ρ'.own b
  chan : ∀ b p, ρ b = some p → (ρ'.isChan b ↔ ρ.isChan b)
  bad : ρ'.bad = ρ.bad
  part : ρ'.part = ρ.part
theorem Ren.le.refl (ρ : Ren) : ρ.le ρ := ⟨fun _ _ h => h, rfl, fun _ h => h, fun _ _ _ => Iff.rfl, rfl, rfl⟩
theorem Ren.le.trans {a b c : Ren} (h : Ren.le a b) (k : Ren.le b c) : Ren.le a c := ⟨fun x p hx => k.to x p (h.to x p hx), k.base.trans h.base, fun x hx => k.own x (h.own x hx), fun x p hx => (k.chan x p (h.to x p hx)).trans (h.chan x p hx), k.bad.trans h.bad, k.part.trans h.part⟩
def AR (ρ : Ren) (a a' : Addr) : Prop := (a.spot = none ∧ ¬ ρ.isChan a.block) ∧ ∃ c s, ρ a.block = some (c, s) ∧ a' = ⟨c, s + a.off, none⟩
theorem AR.mono {ρ ρ' : Ren} {a a' : Addr} (h : AR ρ a a') (hr : ρ.le ρ') : AR ρ' a a' := by
  obtain ⟨⟨h1, h0⟩, c, s, h2, h3⟩ := h
  exact ⟨⟨h1, fun x => h0 ((hr.chan _ _ h2).1 x)⟩, c, s, hr.to _ _ h2, h3⟩
theorem AR.add {ρ : Ren} {a a' : Addr} (h : AR ρ a a') (n : Nat) : AR ρ (a.add n) (a'.add n) := by
  obtain ⟨h1, c, s, h2, rfl⟩ := h
  unfold Addr.add
  split
  · exact ⟨h1, c, s, h2, rfl⟩
  · exact ⟨⟨rfl, h1.2⟩, c, s, h2, by simp [Nat.add_assoc]⟩
inductive VR (S : FnSet) (ρ : Ren) : Value → Value → Prop
  | bool (b : Bool) : VR S ρ (.bool b) (.bool b)
  | int (k : IntKind) (n : Int) : VR S ρ (.int k n) (.int k n)
  | string (s : ByteArray) : VR S ρ (.string s) (.string s)
  | nilPtr : VR S ρ (.pointer none) (.pointer none)
  | ptr {a a' : Addr} (h : AR ρ a a') : VR S ρ (.pointer (some a)) (.pointer (some a'))
  | nilSlice (l c : Nat) : VR S ρ (.slice none l c) (.slice none l c)
  | slice {a a' : Addr} (h : AR ρ a a') (l c : Nat) : VR S ρ (.slice (some a) l c) (.slice (some a') l c)
  | void (b o s : Nat) (a' : Addr) : VR S ρ (.slice (some ⟨b, o, some s⟩) 0 0) (.slice (some a') 0 0)
  | nilMap : VR S ρ (.map none) (.map none)
  | map {r r' : Nat} (h : ρ r = some (r', 0)) : VR S ρ (.map (some r)) (.map (some r'))
  | nilChan : VR S ρ (.chan none) (.chan none)
  | chan {r r' : Nat} (h : ρ r = some (r', 0)) : VR S ρ (.chan (some r)) (.chan (some r'))
  | nilFunc : VR S ρ .nilFunc .nilFunc
  | func {f : FuncId} (hf : S f) {x x' y y' : Array Value} (sx : x.size = x'.size) (hx : ∀ (i : Nat) v v', x[i]? = some v → x'[i]? = some v' → VR S ρ v v') (sy : y.size = y'.size) (hy : ∀ (i : Nat) v v', y[i]? = some v → y'[i]? = some v' → VR S ρ v v') : VR S ρ (.func (.func f) x y) (.func (.func f) x' y')
  | nilIface : VR S ρ .nilIface .nilIface
  | iface (t : TypeId) {v v' : Value} (h : VR S ρ v v') : VR S ρ (.iface t v) (.iface t v')
  | agg {x x' : Array Value} (sx : x.size = x'.size) (hx : ∀ (i : Nat) v v', x[i]? = some v → x'[i]? = some v' → VR S ρ v v') : VR S ρ (.agg x) (.agg x')
  | tuple {x x' : Array Value} (sx : x.size = x'.size) (hx : ∀ (i : Nat) v v', x[i]? = some v → x'[i]? = some v' → VR S ρ v v') : VR S ρ (.tuple x) (.tuple x')
/-- Rows of values. -/
def VRs (S : FnSet) (ρ : Ren) (x x' : Array Value) : Prop := x.size = x'.size ∧ ∀ (i : Nat) v v', x[i]? = some v → x'[i]? = some v' → VR S ρ v v'
section
variable {S : FnSet} {ρ ρ' : Ren}
theorem VR.mono {v v' : Value} (h : VR S ρ v v') (hr : ρ.le ρ') : VR S ρ' v v' := by
  induction h with
  | ptr h => exact .ptr (h.mono hr)
  | slice h l c => exact .slice (h.mono hr) l c
  | void b o s a' => exact .void b o s a'
  | map h => exact .map (hr.to _ _ h)
  | chan h => exact .chan (hr.to _ _ h)
  | func hf sx _ sy _ ih1 ih2 => exact .func hf sx ih1 sy ih2
  | iface t _ ih => exact .iface t ih
  | agg sx _ ih => exact .agg sx ih
  | tuple sx _ ih => exact .tuple sx ih
  | bool b => exact .bool b
  | int k n => exact .int k n
  | string s => exact .string s
  | nilPtr => exact .nilPtr
  | nilSlice l c => exact .nilSlice l c
  | nilMap => exact .nilMap
  | nilChan => exact .nilChan
  | nilFunc => exact .nilFunc
  | nilIface => exact .nilIface
theorem VRs.mono {x x' : Array Value} (h : VRs S ρ x x') (hr : ρ.le ρ') : VRs S ρ' x x' := ⟨h.1, fun i v v' h1 h2 => (h.2 i v v' h1 h2).mono hr⟩
theorem VRs.get {x x' : Array Value} (h : VRs S ρ x x') {i : Nat} {v : Value} (hv : x[i]? = some v) : ∃ v', x'[i]? = some v' ∧ VR S ρ v v' := by
  have hi : i < x.size := (Array.getElem?_eq_some_iff.1 hv).1
  have hi' : i < x'.size := h.1 ▸ hi
  exact ⟨x'[i], Array.getElem?_eq_getElem hi', h.2 i v _ hv (Array.getElem?_eq_getElem hi')⟩
theorem VRs.none {x x' : Array Value} (h : VRs S ρ x x') {i : Nat} (hv : x[i]? = none) : x'[i]? = none := by
  rw [Array.getElem?_eq_none_iff] at *
  exact h.1 ▸ hv
theorem VRs.nil : VRs S ρ #[] #[] := ⟨rfl, fun i v v' h => by simp at h⟩
theorem VR.undef : VR S ρ undef undef := .tuple rfl fun i v v' h => by simp at h
theorem VRs.getD {x x' : Array Value} (h : VRs S ρ x x') (i : Nat) {d d' : Value} (hd : VR S ρ d d') : VR S ρ (x.getD i d) (x'.getD i d') := by
  rw [Array.getD_eq_getD_getElem?, Array.getD_eq_getD_getElem?]
  cases hx : x[i]? with
  | none => rw [h.none hx]; exact hd
  | some v => obtain ⟨v', h1, h2⟩ := h.get hx; rw [h1]; exact h2
theorem VRs.push {x x' : Array Value} (h : VRs S ρ x x') {v v' : Value} (hv : VR S ρ v v') : VRs S ρ (x.push v) (x'.push v') := by
  refine ⟨by simp [h.1], fun i a a' h1 h2 => ?_⟩
  rw [Array.getElem?_push] at h1 h2
  rw [← h.1] at h2
  split at h1
  · rename_i e; rw [if_pos e] at h2; cases h1; cases h2; exact hv
  · rename_i e; rw [if_neg e] at h2; exact h.2 i a a' h1 h2
theorem VRs.append {x x' y y' : Array Value} (h : VRs S ρ x x') (k : VRs S ρ y y') : VRs S ρ (x ++ y) (x' ++ y') := by
  refine ⟨by simp [h.1, k.1], fun i a a' h1 h2 => ?_⟩
  rw [Array.getElem?_append] at h1 h2
  rw [← h.1] at h2
  split at h1
  · rename_i e; rw [if_pos e] at h2; exact h.2 i a a' h1 h2
  · rename_i e; rw [if_neg e] at h2; exact k.2 _ a a' h1 h2
theorem VRs.extract {x x' : Array Value} (h : VRs S ρ x x') (a b : Nat) : VRs S ρ (x.extract a b) (x'.extract a b) := by
  refine ⟨by simp [h.1], fun i v v' h1 h2 => ?_⟩
  rw [Array.getElem?_extract] at h1 h2
  rw [← h.1] at h2
  split at h1
  · rename_i e; rw [if_pos e] at h2; exact h.2 _ v v' h1 h2
  · cases h1
theorem VRs.set {x x' : Array Value} (h : VRs S ρ x x') (i : Nat) {v v' : Value} (hv : VR S ρ v v') : VRs S ρ (x.setIfInBounds i v) (x'.setIfInBounds i v') := by
  refine ⟨by simp [h.1], fun j a a' h1 h2 => ?_⟩
  rw [Array.getElem?_setIfInBounds] at h1 h2
  rw [← h.1] at h2
  split at h1
  · rename_i e
    rw [if_pos e] at h2
    split at h1
    · rename_i e2; rw [if_pos e2] at h2; cases h1; cases h2; exact hv
    · cases h1
  · rename_i e; rw [if_neg e] at h2; exact h.2 j a a' h1 h2
theorem VRs.map {α : Type} {f f' : α → Value} (x : Array α) (h : ∀ a ∈ x, VR S ρ (f a) (f' a)) : VRs S ρ (x.map f) (x.map f') := by
  refine ⟨by simp, fun i v v' h1 h2 => ?_⟩
  rw [Array.getElem?_map] at h1 h2
  obtain ⟨a, h3, rfl⟩ := Option.map_eq_some_iff.1 h1
  rw [h3] at h2
  cases h2
  exact h a (Array.mem_of_getElem? h3)
theorem VRs.one {v v' : Value} (h : VR S ρ v v') : VRs S ρ #[v] #[v'] := VRs.nil.push h
theorem VRs.same {n : Nat} {v v' : Value} (h : VR S ρ v v') : VRs S ρ (Array.replicate n v) (Array.replicate n v') := by
  refine ⟨by simp, fun i a a' h1 h2 => ?_⟩
  rw [Array.getElem?_replicate] at h1 h2
  split at h1
  · rename_i e; rw [if_pos e] at h2; cases h1; cases h2; exact h
  · cases h1
/-- The cells of a value. -/
theorem VR.cells {v v' : Value} (h : VR S ρ v v') : VRs S ρ v.cells v'.cells := by
  cases h with
  | agg sx hx => exact ⟨sx, hx⟩
  | ptr h => exact .one (.ptr h)
  | slice h l c => exact .one (.slice h l c)
  | void b o s a' => exact .one (.void b o s a')
  | map h => exact .one (.map h)
  | chan h => exact .one (.chan h)
  | func hf sx hx sy hy => exact .one (.func hf sx hx sy hy)
  | iface t h => exact .one (.iface t h)
  | tuple sx hx => exact .one (.tuple sx hx)
  | bool b => exact .one (.bool b)
  | int k n => exact .one (.int k n)
  | string s => exact .one (.string s)
  | nilPtr => exact .one .nilPtr
  | nilSlice l c => exact .one (.nilSlice l c)
  | nilMap => exact .one .nilMap
  | nilChan => exact .one .nilChan
  | nilFunc => exact .one .nilFunc
  | nilIface => exact .one .nilIface
end
/-- A value that names no block and no function. -/
inductive Bare : Value → Prop
  | bool (b : Bool) : Bare (.bool b)
  | int (k : IntKind) (n : Int) : Bare (.int k n)
  | string (s : ByteArray) : Bare (.string s)
  | nilPtr : Bare (.pointer none)
  | nilSlice (l c : Nat) : Bare (.slice none l c)
  | nilMap : Bare (.map none)
  | nilChan : Bare (.chan none)
  | nilFunc : Bare .nilFunc
  | nilIface : Bare .nilIface
  | iface (t : TypeId) {v : Value} (h : Bare v) : Bare (.iface t v)
  | agg {x : Array Value} (h : ∀ (i : Nat) v, x[i]? = some v → Bare v) : Bare (.agg x)
  | tuple {x : Array Value} (h : ∀ (i : Nat) v, x[i]? = some v → Bare v) : Bare (.tuple x)
theorem Bare.rel {S : FnSet} {ρ : Ren} {v : Value} (h : Bare v) : VR S ρ v v := by
  induction h with
  | iface t _ ih => exact .iface t ih
  | agg _ ih => exact .agg rfl fun i v v' h1 h2 => by rw [h1] at h2; cases h2; exact ih i v h1
  | tuple _ ih => exact .tuple rfl fun i v v' h1 h2 => by rw [h1] at h2; cases h2; exact ih i v h1
  | bool b => exact .bool b
  | int k n => exact .int k n
  | string s => exact .string s
  | nilPtr => exact .nilPtr
  | nilSlice l c => exact .nilSlice l c
  | nilMap => exact .nilMap
  | nilChan => exact .nilChan
  | nilFunc => exact .nilFunc
  | nilIface => exact .nilIface
/-- Objects but rows of cells. -/
inductive OR (S : FnSet) (ρ : Ren) : Obj → Obj → Prop
  | map {es es' : Array MapEntry} (clock : Nat) (se : es.size = es'.size) (he : ∀ (i : Nat) e e', es[i]? = some e → es'[i]? = some e' → VR S ρ e.key e'.key ∧ VR S ρ e.val e'.val ∧ e.born = e'.born) : OR S ρ (.map es clock) (.map es' clock)
  | stringIter (s : ByteArray) (pos : Nat) : OR S ρ (.stringIter s pos) (.stringIter s pos)
  | number {a a' : Addr} (h : AR ρ a a') (lost : Bool) : OR S ρ (.number a lost) (.number a' lost)
theorem OR.mono {S : FnSet} {ρ ρ' : Ren} {o o' : Obj} (h : OR S ρ o o') (hr : ρ.le ρ') : OR S ρ' o o' := by
  cases h with
  | map clock se he => exact .map clock se fun i e e' h1 h2 => ⟨(he i e e' h1 h2).1.mono hr, (he i e e' h1 h2).2.1.mono hr, (he i e e' h1 h2).2.2⟩
  | stringIter s pos => exact .stringIter s pos
  | number h lost => exact .number (h.mono hr) lost
/-- The world of the lone one, L, and that in company, W: what the lone one may come to. A block that it may name but not touch is an empty row in L. -/
structure WR (S : FnSet) (ρ : Ren) (k : LK) (L W : World) : Prop where
  kinds : ∀ (b : Nat) o, L.heap[b]? = some o → (∃ c e f, o = .cells c e f) ∨ (∃ o', OR S ρ o o') ∨ ∃ n x c s r t, o = .chan n x c s r t
  base : ρ.base ≤ L.heap.size ∧ ρ.base ≤ W.heap.size
  chan : ∀ (b : Nat) n x c s r t, L.heap[b]? = some (.chan n x c s r t) → ρ.isChan b
  chanLt : ∀ b, ρ.isChan b ∨ ρ.part b → b < L.heap.size
  lt : ∀ b c s, ρ b = some (c, s) → b < L.heap.size ∧ c < W.heap.size
  shapes : ∀ b c s x e fz, ρ b = some (c, s) → L.heap[b]? = some (.cells x e fz) → ∃ x' e' fz', W.heap[c]? = some (.cells x' e' fz') ∧ ((¬ ρ.part b ∧ s = 0 ∧ x'.size = x.size ∧ e' = e) ∨ (ρ.part b ∧ e = ρ.bad))
  cells : ∀ b c s x e fz, ρ b = some (c, s) → L.heap[b]? = some (.cells x e fz) → ∀ (i : Nat) v, x[i]? = some v → ∃ x' e' fz' v', W.heap[c]? = some (.cells x' e' fz') ∧ x'[s + i]? = some v' ∧ VR S ρ v v' ∧
    (k.W (.cell ⟨c, s + i, none⟩) ∨ k.R (.cell ⟨c, s + i, none⟩)) ∧ (¬ (fz.1 ≤ i ∧ i < fz.2) → k.W (.cell ⟨c, s + i, none⟩) ∧ ¬ (fz'.1 ≤ s + i ∧ s + i < fz'.2))
  others : ∀ b c s o, ρ b = some (c, s) → L.heap[b]? = some o → NotCells o → s = 0 ∧ ∃ o', W.heap[c]? = some o' ∧ NotCells o'
  objs : ∀ b c s o, ρ b = some (c, s) → L.heap[b]? = some o → (∃ o', OR S ρ o o') → ρ.own b ∧ ∃ o', W.heap[c]? = some o' ∧ OR S ρ o o' ∧ k.W (.obj c)
  owns : ∀ b o, ρ.own b → L.heap[b]? = some o → NotCells o → ∃ o', OR S ρ o o'
  apart : ∀ b b' c s s' (x x' : Array Value) e e' fz fz' (i i' : Nat), ρ b = some (c, s) → ρ b' = some (c, s') → L.heap[b]? = some (.cells x e fz) → L.heap[b']? = some (.cells x' e' fz') → i < x.size → i' < x'.size → s + i = s' + i' → ¬ (fz.1 ≤ i ∧ i < fz.2) → b = b'
  apartO : ∀ b b' c s s' o o', ρ b = some (c, s) → ρ b' = some (c, s') → L.heap[b]? = some o → L.heap[b']? = some o' → NotCells o → NotCells o' → b = b'
  chans : ∀ b c s n x cl sn rc t, ρ b = some (c, s) → L.heap[b]? = some (.chan n x cl sn rc t) → ∃ x', W.heap[c]? = some (.chan n x' cl sn rc t) ∧ VRs S ρ x x' ∧ k.W (.obj c)
end Go.Proofs.Yticdjkkcfdbdcaa
namespace Go.Proofs.Yticdjkkcfdbdcaa
open Go.Conc
section
variable {S : FnSet} {ρ : Ren} {k : LK} {L W : World}
theorem WR.heaps (h : WR S ρ k L W) {L' W' : World} (hl : L'.heap = L.heap) (hw : W'.heap = W.heap) : WR S ρ k L' W' := by
  obtain ⟨h1, h2, h3, h4, h5, h6, h7, h8, h9, h10, h11, h12, h13⟩ := h
  constructor <;> (try rw [hl]) <;> (try rw [hw]) <;> assumption
theorem OR.notCells {o o' : Obj} (h : OR S ρ o o') : NotCells o ∧ NotCells o' := by
  cases h <;> exact ⟨fun _ _ _ e => (by cases e), fun _ _ _ e => (by cases e)⟩
theorem not_cells_chan {n : Nat} {x : Array Value} {c : Bool} {s r : Nat} {t : Bool} : NotCells (.chan n x c s r t) := fun _ _ _ e => by cases e
theorem WR.rely (h : WR S ρ k L W) {W₁ : World} (hr : Rely k W W₁) : WR S ρ k L W₁ := by
  refine ⟨h.kinds, ⟨h.base.1, Nat.le_trans h.base.2 hr.size⟩, h.chan, h.chanLt, fun b c s hb => ⟨(h.lt b c s hb).1, Nat.lt_of_lt_of_le (h.lt b c s hb).2 hr.size⟩, fun b c s x e fz hb hl => ?_, fun b c s x e fz hb hl i v hv => ?_, fun b c s o hb hl ho => ?_, fun b c s o hb hl ho => ?_, h.owns, h.apart, h.apartO, fun b c s n x cl sn rc t hb hl => ?_⟩
  · obtain ⟨x', e', fz', h1, hsh⟩ := h.shapes b c s x e fz hb hl
    obtain ⟨o₁, h3, h4⟩ := hr.shape c _ h1
    cases o₁ with
    | cells x₁ e₁ f₁ => exact ⟨_, _, _, h3, hsh.imp (fun q => ⟨q.1, q.2.1, h4.1.symm.trans q.2.2.1, h4.2.1.symm.trans q.2.2.2⟩) id⟩
    | _ => exact h4.elim
  · obtain ⟨x', e', fz', v', h1, g1, g2, g3, g4⟩ := h.cells b c s x e fz hb hl i v hv
    obtain ⟨o₁, h3, h4⟩ := hr.shape c _ h1
    cases o₁ with
    | cells x₁ e₁ f₁ =>
      obtain ⟨hs, rfl, rfl⟩ := h4
      have := hr.cell ⟨c, s + i, none⟩ g3
      simp only [World.cell?, h1, h3] at this
      exact ⟨x₁, _, _, v', h3, this.trans g1, g2, g3, g4⟩
    | _ => exact h4.elim
  · obtain ⟨h1, o', h2, h3⟩ := h.others b c s o hb hl ho
    obtain ⟨o₁, g1, g2⟩ := hr.shape c _ h2
    exact ⟨h1, o₁, g1, g2.not h3⟩
  · obtain ⟨h1, o', h2, h3, h4⟩ := h.objs b c s o hb hl ho
    exact ⟨h1, o', hr.obj c o' h2 h3.notCells.2 (.inl h4), h3, h4⟩
  · obtain ⟨x', h1, h2, h3⟩ := h.chans b c s n x cl sn rc t hb hl
    exact ⟨x', hr.obj c _ h1 not_cells_chan (.inl h3), h2, h3⟩
theorem WR.load (h : WR S ρ k L W) {a a' : Addr} (ha : AR ρ a a') {v : Value} (hv : L.cell? a = some v) : ∃ v', W.cell? a' = some v' ∧ VR S ρ v v' ∧ (k.W (.cell a') ∨ k.R (.cell a')) := by
  obtain ⟨⟨h1, _⟩, c, s, h2, rfl⟩ := ha
  cases hl : L.heap[a.block]? with
  | none => simp [World.cell?, hl] at hv
  | some o =>
    cases o with
    | cells x e fz =>
      simp only [World.cell?, hl, h1, Option.isSome_none, Bool.false_eq_true, if_false] at hv
      obtain ⟨x', e', fz', v', g1, g3, g4, g5, _⟩ := h.cells _ c s x e fz h2 hl a.off v hv
      exact ⟨v', by simp [World.cell?, g1, g3], g4, g5⟩
    | _ => simp [World.cell?, hl] at hv
theorem WR.farLoad (h : WR S ρ k L W) {P : Program} {a : Addr} {at_ : Bool} : ∃ m, L.farLoad P a at_ = .error (.stuck m) := by
  unfold World.farLoad World.noCell
  cases hl : L.heap[a.block]? with
  | none => exact ⟨_, rfl⟩
  | some o =>
    rcases h.kinds _ o hl with ⟨c, e, f, rfl⟩ | ⟨o', ho⟩ | ⟨_, _, _, _, _, _, rfl⟩
    · exact ⟨_, rfl⟩
    · cases ho <;> exact ⟨_, rfl⟩
    · exact ⟨_, rfl⟩
theorem WR.farStore (h : WR S ρ k L W) {P : Program} {a : Addr} {v : Value} {at_ : Bool} : ∃ m, L.farStore P a v at_ = .error (.stuck m) := by
  unfold World.farStore World.noCell
  cases hl : L.heap[a.block]? with
  | none => exact ⟨_, rfl⟩
  | some o =>
    rcases h.kinds _ o hl with ⟨c, e, f, rfl⟩ | ⟨o', ho⟩ | ⟨_, _, _, _, _, _, rfl⟩
    · exact ⟨_, rfl⟩
    · cases ho <;> exact ⟨_, rfl⟩
    · exact ⟨_, rfl⟩
theorem setCell_get {w : World} {a : Addr} {v : Value} (hs : a.spot = none) {x : Array Value} {e : TypeId} {fz : Nat × Nat} (hb : w.heap[a.block]? = some (.cells x e fz)) : (w.setCell a v).heap[a.block]? = some (.cells (x.setIfInBounds a.off v) e fz) := by
  simp [World.setCell, Array.getElem?_modify, hb, hs]
theorem setCell_ne {w : World} {a : Addr} {v : Value} {b : Nat} (hb : b ≠ a.block) : (w.setCell a v).heap[b]? = w.heap[b]? := by
  simp [World.setCell, Array.getElem?_modify, Ne.symm hb]
theorem WR.store (h : WR S ρ k L W) {a a' : Addr} (ha : AR ρ a a') {v v' u : Value} (hu : L.cell? a = some u) (hz : L.frozen? a = false) (hv : VR S ρ v v') :
    (∃ u', W.cell? a' = some u') ∧ W.frozen? a' = false ∧ k.W (.cell a') ∧ WR S ρ k (L.setCell a v) (W.setCell a' v') := by
  obtain ⟨⟨h1, _⟩, c, s, h2, rfl⟩ := ha
  cases hl : L.heap[a.block]? with
  | none => simp [World.cell?, hl] at hu
  | some o =>
    cases o with
    | cells x e fz =>
      simp only [World.cell?, hl, h1, Option.isSome_none, Bool.false_eq_true, if_false] at hu
      obtain ⟨x', e', fz', u', g1, g3, g4, g5, g6⟩ := h.cells _ c s x e fz h2 hl a.off u hu
      have hnz : ¬ (fz.1 ≤ a.off ∧ a.off < fz.2) := by
        simp only [World.frozen?, hl] at hz
        simpa using hz
      obtain ⟨g7, g8⟩ := g6 hnz
      have hi : a.off < x.size := (Array.getElem?_eq_some_iff.1 hu).1
      have hi' : s + a.off < x'.size := (Array.getElem?_eq_some_iff.1 g3).1
      refine ⟨⟨u', by simp [World.cell?, g1, g3]⟩, by simp only [World.frozen?, g1]; simpa using g8, g7, ?_⟩
      have hsz : (L.setCell a v).heap.size = L.heap.size := by simp [World.setCell]
      have hszW : (W.setCell ⟨c, s + a.off, none⟩ v').heap.size = W.heap.size := by simp [World.setCell]
      have hLb := setCell_get (v := v) h1 hl
      have hWb : (W.setCell ⟨c, s + a.off, none⟩ v').heap[c]? = some (.cells (x'.setIfInBounds (s + a.off) v') e' fz') := setCell_get (w := W) (a := ⟨c, s + a.off, none⟩) (v := v') rfl g1
      have back : ∀ (b : Nat) o, (L.setCell a v).heap[b]? = some o → (∃ y ey fy, o = .cells y ey fy ∧ ∃ y0, L.heap[b]? = some (.cells y0 ey fy) ∧ y.size = y0.size) ∨ L.heap[b]? = some o ∧ b ≠ a.block := by
        intro b o ho
        by_cases e : b = a.block
        · subst e
          rw [hLb] at ho; cases ho
          exact .inl ⟨_, _, _, rfl, x, hl, by simp⟩
        · rw [setCell_ne e] at ho
          exact .inr ⟨ho, e⟩
      have backN : ∀ (b : Nat) o, (L.setCell a v).heap[b]? = some o → NotCells o → L.heap[b]? = some o := fun b o ho hn => by
        rcases back b _ ho with ⟨y1, e1, f1, rfl, _⟩ | ⟨ho, _⟩
        · exact absurd rfl (hn _ _ _)
        · exact ho
      have backC : ∀ (b : Nat) (y : Array Value) (ey : TypeId) (fy : Nat × Nat), (L.setCell a v).heap[b]? = some (Obj.cells y ey fy) → ∃ y0 : Array Value, L.heap[b]? = some (.cells y0 ey fy) ∧ y.size = y0.size := fun b y ey fy ho => by
        rcases back b _ ho with ⟨y1, e1, f1, h1, y0, h2, h3⟩ | ⟨ho, _⟩
        · cases h1; exact ⟨y0, h2, h3⟩
        · exact ⟨y, ho, rfl⟩
      have fwd : ∀ (c' : Nat) o', W.heap[c']? = some o' → NotCells o' → (W.setCell ⟨c, s + a.off, none⟩ v').heap[c']? = some o' := fun c' o' ho hn => by
        rw [setCell_ne (a := ⟨c, s + a.off, none⟩) (b := c') (fun ec => ?_)]
        · exact ho
        · replace ec : c' = c := ec
          subst ec
          rw [g1] at ho; cases ho
          exact hn _ _ _ rfl
      refine ⟨fun b o ho => ?_, by rw [hsz, hszW]; exact h.base, fun b n x c s r t hx => h.chan b n x c s r t (backN b _ hx not_cells_chan), fun b hb => by rw [hsz]; exact h.chanLt b hb, fun b c' s' hb => by rw [hsz, hszW]; exact h.lt b c' s' hb, fun b c' s' y ey fy hb ho => ?_, fun b c' s' y ey fy hb ho i w hw => ?_, fun b c' s' o hb ho hn => ?_, fun b c' s' o hb ho hor => ?_, fun b o hb ho hn => h.owns b o hb (backN b o ho hn) hn, fun b b' c' s1 s2 y y' ey ey' fy fy' i i' hb hb' ho ho' hi hi' he hz => ?_, fun b b' c' s1 s2 o o' hb hb' ho ho' hr hr' => ?_, fun b c' s' n y cl sn rc t hb ho => ?_⟩
      · rcases back b o ho with ⟨y, ey, fy, rfl, _⟩ | ⟨ho, _⟩
        · exact .inl ⟨_, _, _, rfl⟩
        · exact h.kinds b o ho
      · obtain ⟨y0, q1, qs⟩ := backC b y ey fy ho
        obtain ⟨x1, e1, f1, q2, q3⟩ := h.shapes b c' s' y0 ey fy hb q1
        by_cases ec : c' = c
        · subst ec
          rw [g1] at q2; cases q2
          exact ⟨_, _, _, hWb, q3.imp (fun q => ⟨q.1, q.2.1, by simp [q.2.2.1, qs], q.2.2.2⟩) id⟩
        · exact ⟨_, _, _, by rw [setCell_ne (a := ⟨c, s + a.off, none⟩) ec]; exact q2, q3.imp (fun q => ⟨q.1, q.2.1, q.2.2.1.trans qs.symm, q.2.2.2⟩) id⟩
      · by_cases eb : b = a.block
        · subst eb
          rw [h2] at hb; cases hb
          rw [hLb] at ho; cases ho
          rw [Array.getElem?_setIfInBounds] at hw
          split at hw
          · rename_i ei
            subst ei
            cases hw
            exact ⟨_, _, _, v', hWb, by rw [Array.getElem?_setIfInBounds, if_pos rfl, if_pos hi'], hv, .inl g7, fun _ => ⟨g7, g8⟩⟩
          · rename_i ei
            obtain ⟨x'', e'', fz'', w', q0, q1, q2, q3, q4⟩ := h.cells _ c s x _ _ h2 hl i w hw
            rw [g1] at q0; cases q0
            exact ⟨_, _, _, w', hWb, by rw [Array.getElem?_setIfInBounds, if_neg (by omega)]; exact q1, q2, q3, q4⟩
        · rw [setCell_ne eb] at ho
          obtain ⟨y', ey', fy', w', q1, r1, r2, r3, r4⟩ := h.cells b c' s' y ey fy hb ho i w hw
          by_cases ec : c' = c
          · subst ec
            rw [g1] at q1; cases q1
            refine ⟨_, _, _, w', hWb, ?_, r2, r3, r4⟩
            rw [Array.getElem?_setIfInBounds, if_neg (fun e => ?_)]
            · exact r1
            · exact eb (h.apart a.block b c' s s' x y _ ey _ fy a.off i h2 hb hl ho hi (Array.getElem?_eq_some_iff.1 hw).1 e hnz).symm
          · exact ⟨y', ey', fy', w', by rw [setCell_ne (a := ⟨c, s + a.off, none⟩) ec]; exact q1, r1, r2, r3, r4⟩
      · obtain ⟨q1, o', q2, q3⟩ := h.others b c' s' o hb (backN b o ho hn) hn
        exact ⟨q1, o', fwd c' o' q2 q3, q3⟩
      · obtain ⟨o1, ho1⟩ := hor
        obtain ⟨q1, o', q2, q3, q4⟩ := h.objs b c' s' o hb (backN b o ho ho1.notCells.1) ⟨o1, ho1⟩
        exact ⟨q1, o', fwd c' o' q2 q3.notCells.2, q3, q4⟩
      · obtain ⟨y0, q1, q2⟩ := backC b y ey fy ho
        obtain ⟨y0', q3, q4⟩ := backC b' y' ey' fy' ho'
        exact h.apart b b' c' s1 s2 y0 y0' ey ey' fy fy' i i' hb hb' q1 q3 (by omega) (by omega) he hz
      · exact h.apartO b b' c' s1 s2 o o' hb hb' (backN b o ho hr) (backN b' o' ho' hr') hr hr'
      · obtain ⟨x1, q1, q2, q3⟩ := h.chans b c' s' n y cl sn rc t hb (backN b _ ho not_cells_chan)
        exact ⟨x1, fwd c' _ q1 not_cells_chan, q2, q3⟩
    | _ => simp [World.cell?, hl] at hu
/-- The pair of two new blocks; 'm': it holds a map or an iterator. -/
def Ren.new (ρ : Ren) (b c : Nat) (m : Prop) : Ren where
  to := fun x => if x = b ∧ ρ.base ≤ b ∧ ρ.base ≤ c then some (c, 0) else ρ x
  base := ρ.base
  own := fun x => ρ.own x ∨ (x = b ∧ m)
  isChan := ρ.isChan
  bad := ρ.bad
  part := ρ.part
  ok := fun x p h => by
    split at h
    · rename_i e; cases h; rw [e.1]; exact e.2
    · exact ρ.ok x p h
theorem WR.fresh (h : WR S ρ k L W) (m : Prop) : ρ.le (ρ.new L.heap.size W.heap.size m) := ⟨fun b p hb => by
  have : b ≠ L.heap.size := fun e => by have := (h.lt b p.1 p.2 hb).1; omega
  simp [Ren.new, this, hb], rfl, fun b hb => .inl hb, fun _ _ _ => Iff.rfl, rfl, rfl⟩
theorem WR.fresh_to (h : WR S ρ k L W) (m : Prop) : ρ.new L.heap.size W.heap.size m L.heap.size = some (W.heap.size, 0) := by simp [Ren.new, h.base.1, h.base.2]
def isMapObj : Obj → Prop
  | .cells _ _ _ => False
  | _ => True
theorem WR.new (h : WR S ρ k L W) {o o' : Obj} (ho : (∃ x e x', o = .cells x e (0, 0) ∧ o' = .cells x' e (0, 0) ∧ VRs S ρ x x') ∨ OR S ρ o o') :
    WR S (ρ.new L.heap.size W.heap.size (isMapObj o)) (k.grow W.heap.size (W.heap.size + 1)) { L with heap := L.heap.push o } { W with heap := W.heap.push o' } := by
  have hf := h.fresh (isMapObj o)
  have hnew : ∀ b c s, ρ.new L.heap.size W.heap.size (isMapObj o) b = some (c, s) → (b = L.heap.size ∧ c = W.heap.size ∧ s = 0) ∨ (b < L.heap.size ∧ c < W.heap.size ∧ ρ b = some (c, s)) := fun b c s hb => by
    simp only [Ren.new] at hb
    split at hb
    · rename_i e; cases hb; exact .inl ⟨e.1, rfl, rfl⟩
    · exact .inr ⟨(h.lt b c s hb).1, (h.lt b c s hb).2, hb⟩
  have hL : ∀ b, b < L.heap.size → (L.heap.push o)[b]? = L.heap[b]? := fun b hb => by rw [Array.getElem?_push, if_neg (by omega)]
  have hW : ∀ b, b < W.heap.size → (W.heap.push o')[b]? = W.heap[b]? := fun b hb => by rw [Array.getElem?_push, if_neg (by omega)]
  have hLs : (L.heap.push o)[L.heap.size]? = some o := by simp
  have hWs : (W.heap.push o')[W.heap.size]? = some o' := by simp
  have grow : ∀ l, k.W l → (k.grow W.heap.size (W.heap.size + 1)).W l := fun l hl => .inl hl
  have hr0 : ∀ (b : Nat) p, L.heap[b]? = some p → (∃ o1, OR S (ρ.new L.heap.size W.heap.size (isMapObj o)) p o1) → ∃ o1, OR S ρ p o1 := fun b p hp hr => by
    rcases h.kinds b p hp with ⟨_, _, _, rfl⟩ | hh | ⟨_, _, _, _, _, _, rfl⟩
    · obtain ⟨_, hr⟩ := hr
      cases hr
    · exact hh
    · obtain ⟨_, hr⟩ := hr
      cases hr
  refine ⟨fun b p hp => ?_, by simp only [Array.size_push]; exact ⟨Nat.le_succ_of_le h.base.1, Nat.le_succ_of_le h.base.2⟩, fun b n x c s r t hx => ?_, fun b hb => by simp only [Array.size_push]; exact Nat.lt_succ_of_lt (h.chanLt b hb), fun b c s hb => ?_, fun b c s x e fz hb hx => ?_, fun b c s x e fz hb hx i v hv => ?_, fun b c s p hb hp hn => ?_, fun b c s p hb hp hr => ?_, fun b p hb hp hn => ?_, fun b b' c s s' x x' e e' fz fz' i i' hb hb' hx hx' hi hi' he hz => ?_, fun b b' c s s' p p' hb hb' hp hp' hr hr' => ?_, fun b c s n x cl sn rc t hb hx => ?_⟩
  · replace hp : (L.heap.push o)[b]? = some p := hp
    rw [Array.getElem?_push] at hp
    split at hp
    · cases hp
      rcases ho with ⟨x, e, x', rfl, _⟩ | ho
      · exact .inl ⟨_, _, _, rfl⟩
      · exact .inr (.inl ⟨_, ho.mono hf⟩)
    · exact (h.kinds b p hp).imp id (fun hh => hh.imp (fun ⟨o1, h1⟩ => ⟨o1, h1.mono hf⟩) id)
  · replace hx : (L.heap.push o)[b]? = some (.chan n x c s r t) := hx
    rw [Array.getElem?_push] at hx
    split at hx
    · cases hx
      rcases ho with ⟨x, e, x', h1, _⟩ | ho
      · cases h1
      · cases ho
    · exact h.chan b n x c s r t hx
  · simp only [Array.size_push]
    rcases hnew b c s hb with ⟨rfl, rfl, _⟩ | ⟨h1, h2, _⟩ <;> omega
  · replace hx : (L.heap.push o)[b]? = some (.cells x e fz) := hx
    show ∃ x' e' fz', (W.heap.push o')[c]? = some (.cells x' e' fz') ∧ _
    rcases hnew b c s hb with ⟨rfl, rfl, rfl⟩ | ⟨h1, h2, h3⟩
    · rw [hLs] at hx; cases hx
      rcases ho with ⟨x0, e0, x0', h1, rfl, h2⟩ | ho
      · cases h1
        exact ⟨_, _, _, hWs, .inl ⟨fun hp => absurd (h.chanLt _ (.inr hp)) (Nat.lt_irrefl _), rfl, h2.1.symm, rfl⟩⟩
      · cases ho
    · rw [hL b h1] at hx
      rw [hW c h2]
      exact h.shapes b c s x e fz h3 hx
  · replace hx : (L.heap.push o)[b]? = some (.cells x e fz) := hx
    show ∃ x' e' fz' v', (W.heap.push o')[c]? = some (.cells x' e' fz') ∧ _
    rcases hnew b c s hb with ⟨rfl, rfl, rfl⟩ | ⟨h1, h2, h3⟩
    · rw [hLs] at hx; cases hx
      rcases ho with ⟨x0, e0, x0', h1, rfl, h2⟩ | ho
      · cases h1
        obtain ⟨v', g1, g2⟩ := h2.get hv
        have gw : (k.grow W.heap.size (W.heap.size + 1)).W (.cell ⟨W.heap.size, 0 + i, none⟩) := .inr ⟨Nat.le_refl _, Nat.lt_succ_self _⟩
        exact ⟨_, _, _, v', hWs, by rw [Nat.zero_add]; exact g1, g2.mono hf, .inl gw, fun _ => ⟨gw, by simp⟩⟩
      · cases ho
    · rw [hL b h1] at hx
      obtain ⟨x', e', fz', v', g1, g3, g4, g5, g6⟩ := h.cells b c s x e fz h3 hx i v hv
      exact ⟨x', e', fz', v', by rw [hW c h2]; exact g1, g3, g4.mono hf, g5.imp (grow _) id, fun hn => ⟨grow _ (g6 hn).1, (g6 hn).2⟩⟩
  · replace hp : (L.heap.push o)[b]? = some p := hp
    show s = 0 ∧ ∃ o1, (W.heap.push o')[c]? = some o1 ∧ _
    rcases hnew b c s hb with ⟨rfl, rfl, rfl⟩ | ⟨h1, h2, h3⟩
    · rw [hLs] at hp; cases hp
      rcases ho with ⟨x0, e0, x0', rfl, _⟩ | ho
      · exact absurd rfl (hn _ _ _)
      · exact ⟨rfl, o', hWs, ho.notCells.2⟩
    · rw [hL b h1] at hp
      rw [hW c h2]
      exact h.others b c s p h3 hp hn
  · replace hp : (L.heap.push o)[b]? = some p := hp
    show (ρ.own b ∨ _) ∧ ∃ o1, (W.heap.push o')[c]? = some o1 ∧ _
    rcases hnew b c s hb with ⟨rfl, rfl, rfl⟩ | ⟨h1, h2, h3⟩
    · rw [hLs] at hp; cases hp
      rcases ho with ⟨x0, e0, x0', rfl, _⟩ | ho
      · obtain ⟨_, hr⟩ := hr
        cases hr
      · exact ⟨.inr ⟨rfl, by cases ho <;> trivial⟩, o', hWs, ho.mono hf, .inr ⟨Nat.le_refl _, Nat.lt_succ_self _⟩⟩
    · rw [hL b h1] at hp
      obtain ⟨g1, o1, g2, g3, g4⟩ := h.objs b c s p h3 hp (hr0 b p hp hr)
      exact ⟨.inl g1, o1, by rw [hW c h2]; exact g2, g3.mono hf, grow _ g4⟩
  · replace hp : (L.heap.push o)[b]? = some p := hp
    rw [Array.getElem?_push] at hp
    split at hp
    · cases hp
      rcases ho with ⟨x, e, x', rfl, _⟩ | ho
      · exact absurd rfl (hn _ _ _)
      · exact ⟨_, ho.mono hf⟩
    · rename_i hne
      rcases hb with hb | ⟨hb, _⟩
      · obtain ⟨o1, h1⟩ := h.owns b p hb hp hn
        exact ⟨o1, h1.mono hf⟩
      · exact absurd hb hne
  · replace hx : (L.heap.push o)[b]? = some (.cells x e fz) := hx
    replace hx' : (L.heap.push o)[b']? = some (.cells x' e' fz') := hx'
    rcases hnew b c s hb with ⟨rfl, rfl, rfl⟩ | ⟨h1, h2, h3⟩
    · rcases hnew b' _ s' hb' with ⟨rfl, _, rfl⟩ | ⟨q1, q2, q3⟩
      · rfl
      · omega
    · rcases hnew b' c s' hb' with ⟨rfl, rfl, rfl⟩ | ⟨q1, q2, q3⟩
      · omega
      · rw [hL b h1] at hx
        rw [hL b' q1] at hx'
        exact h.apart b b' c s s' x x' e e' fz fz' i i' h3 q3 hx hx' hi hi' he hz
  · replace hp : (L.heap.push o)[b]? = some p := hp
    replace hp' : (L.heap.push o)[b']? = some p' := hp'
    rcases hnew b c s hb with ⟨rfl, rfl, rfl⟩ | ⟨h1, h2, h3⟩
    · rcases hnew b' _ s' hb' with ⟨rfl, _, rfl⟩ | ⟨q1, q2, q3⟩
      · rfl
      · omega
    · rcases hnew b' c s' hb' with ⟨rfl, rfl, rfl⟩ | ⟨q1, q2, q3⟩
      · omega
      · rw [hL b h1] at hp
        rw [hL b' q1] at hp'
        exact h.apartO b b' c s s' p p' h3 q3 hp hp' hr hr'
  · replace hx : (L.heap.push o)[b]? = some (.chan n x cl sn rc t) := hx
    rcases hnew b c s hb with ⟨rfl, rfl, rfl⟩ | ⟨h1, h2, h3⟩
    · rw [hLs] at hx; cases hx
      rcases ho with ⟨x0, e0, x0', h1, _⟩ | ho
      · cases h1
      · cases ho
    · rw [hL b h1] at hx
      obtain ⟨x', g1, g2, g3⟩ := h.chans b c s n x cl sn rc t h3 hx
      exact ⟨x', by show (W.heap.push o')[c]? = _; rw [hW c h2]; exact g1, ⟨g2.1, fun i v v' q1 q2 => (g2.2 i v v' q1 q2).mono hf⟩, grow _ g3⟩
theorem WR.getObj (h : WR S ρ k L W) {r r' : Nat} (hr : ρ r = some (r', 0)) {o : Obj} (ho : L.heap[r]? = some o) (hk : ∃ o', OR S ρ o o') : ρ.own r ∧ ∃ o', W.heap[r']? = some o' ∧ OR S ρ o o' ∧ k.W (.obj r') := h.objs r r' 0 o hr ho hk
theorem WR.setObj (h : WR S ρ k L W) {r r' : Nat} (hr : ρ r = some (r', 0)) {o p p' : Obj} (ho : L.heap[r]? = some o) (hk : ∃ o', OR S ρ o o') (hp : OR S ρ p p') : WR S ρ k { L with heap := L.heap.setIfInBounds r p } { W with heap := W.heap.setIfInBounds r' p' } := by
  obtain ⟨hown, o', h1, h2, h3⟩ := h.getObj hr ho hk
  have hrl : r < L.heap.size := (Array.getElem?_eq_some_iff.1 ho).1
  have hrl' : r' < W.heap.size := (Array.getElem?_eq_some_iff.1 h1).1
  have hnp := hp.notCells.1
  have hno := h2.notCells.1
  have hL : ∀ (b : Nat) q, (L.heap.setIfInBounds r p)[b]? = some q → (b = r ∧ q = p) ∨ (b ≠ r ∧ L.heap[b]? = some q) := fun b q hq => by
    rw [Array.getElem?_setIfInBounds] at hq
    split at hq
    · rename_i e; cases hq; exact .inl ⟨e.symm, rfl⟩
    · rename_i e; exact .inr ⟨fun x => e x.symm, hq⟩
  have hWn : ∀ (c : Nat), c ≠ r' → (W.heap.setIfInBounds r' p')[c]? = W.heap[c]? := fun c hc => by rw [Array.getElem?_setIfInBounds, if_neg (fun e => hc e.symm)]
  have hWs : (W.heap.setIfInBounds r' p')[r']? = some p' := by rw [Array.getElem?_setIfInBounds, if_pos rfl, if_pos hrl']
  have hWc : ∀ (c : Nat) (x : Array Value) (e : TypeId) (f : Nat × Nat), W.heap[c]? = some (Obj.cells x e f) → (W.heap.setIfInBounds r' p')[c]? = some (.cells x e f) := fun c x e f hc => by
    rw [hWn c (fun e => ?_)]
    · exact hc
    · subst e
      rw [h1] at hc; cases hc
      exact h2.notCells.2 _ _ _ rfl
  refine ⟨fun b q hq => ?_, by simp only [Array.size_setIfInBounds]; exact h.base, fun b n x c s r t hx => ?_, fun b hb => by simp only [Array.size_setIfInBounds]; exact h.chanLt b hb, fun b c s hb => by simpa using h.lt b c s hb, fun b c s x e fz hb hx => ?_, fun b c s x e fz hb hx i v hv => ?_, fun b c s q hb hq hn => ?_, fun b c s q hb hq hor => ?_, fun b q hb hq hn => ?_, fun b b' c s s' x x' e e' fz fz' i i' hb hb' hx hx' hi hi' he hz => ?_, fun b b' c s s' q q' hb hb' hq hq' hor hor' => ?_, fun b c s n x cl sn rc t hb hx => ?_⟩
  · rcases hL b q hq with ⟨_, rfl⟩ | ⟨_, hq⟩
    · exact .inr (.inl ⟨_, hp⟩)
    · exact h.kinds b q hq
  · rcases hL b _ hx with ⟨_, e⟩ | ⟨hne, hx⟩
    · subst e; cases hp
    · exact h.chan b n x c s r t hx
  · rcases hL b _ hx with ⟨_, e⟩ | ⟨hne, hx⟩
    · exact absurd e.symm (hnp _ _ _)
    · obtain ⟨x', e', fz', g1, g2⟩ := h.shapes b c s x e fz hb hx
      exact ⟨_, _, _, hWc _ _ _ _ g1, g2⟩
  · rcases hL b _ hx with ⟨_, e⟩ | ⟨hne, hx⟩
    · exact absurd e.symm (hnp _ _ _)
    · obtain ⟨x', e', fz', v', g1, g2⟩ := h.cells b c s x e fz hb hx i v hv
      exact ⟨x', e', fz', v', hWc _ _ _ _ g1, g2⟩
  · rcases hL b q hq with ⟨rfl, rfl⟩ | ⟨hne, hq2⟩
    · rw [hr] at hb; cases hb
      exact ⟨rfl, p', hWs, hp.notCells.2⟩
    · obtain ⟨g1, q', g2, g3⟩ := h.others b c s q hb hq2 hn
      refine ⟨g1, q', ?_, g3⟩
      show (W.heap.setIfInBounds r' p')[c]? = _
      rw [hWn c (fun e => ?_)]
      · exact g2
      · subst e
        exact hne (h.apartO b r c s 0 q o hb hr hq2 ho hn hno)
  · rcases hL b q hq with ⟨rfl, rfl⟩ | ⟨hne, hq2⟩
    · rw [hr] at hb; cases hb
      exact ⟨hown, p', hWs, hp, h3⟩
    · obtain ⟨g1, q', g2, g3, g4⟩ := h.objs b c s q hb hq2 hor
      refine ⟨g1, q', ?_, g3, g4⟩
      show (W.heap.setIfInBounds r' p')[c]? = _
      rw [hWn c (fun e => ?_)]
      · exact g2
      · subst e
        exact hne (h.apartO b r c s 0 q o hb hr hq2 ho g3.notCells.1 hno)
  · rcases hL b q hq with ⟨rfl, rfl⟩ | ⟨hne, hq2⟩
    · exact ⟨_, hp⟩
    · exact h.owns b q hb hq2 hn
  · rcases hL b _ hx with ⟨_, e1⟩ | ⟨_, hx⟩
    · exact absurd e1.symm (hnp _ _ _)
    rcases hL b' _ hx' with ⟨_, e1⟩ | ⟨_, hx'⟩
    · exact absurd e1.symm (hnp _ _ _)
    exact h.apart b b' c s s' x x' e e' fz fz' i i' hb hb' hx hx' hi hi' he hz
  · rcases hL b q hq with ⟨rfl, rfl⟩ | ⟨_, hq2⟩
    · rcases hL b' q' hq' with ⟨rfl, rfl⟩ | ⟨_, hq3⟩
      · rfl
      · rw [hr] at hb; cases hb
        exact h.apartO b b' r' 0 s' o q' hr hb' ho hq3 hno hor'
    · rcases hL b' q' hq' with ⟨rfl, rfl⟩ | ⟨_, hq3⟩
      · rw [hr] at hb'; cases hb'
        exact h.apartO b b' r' s 0 q o hb hr hq2 ho hor hno
      · exact h.apartO b b' c s s' q q' hb hb' hq2 hq3 hor hor'
  · rcases hL b _ hx with ⟨_, e⟩ | ⟨hne, hx⟩
    · subst e; cases hp
    · obtain ⟨x', g1, g2, g3⟩ := h.chans b c s n x cl sn rc t hb hx
      refine ⟨x', ?_, g2, g3⟩
      show (W.heap.setIfInBounds r' p')[c]? = _
      rw [hWn c (fun e => ?_)]
      · exact g1
      · subst e
        exact hne (h.apartO b r c s 0 _ o hb hr hx ho not_cells_chan hno)
end
end Go.Proofs.Yticdjkkcfdbdcaa
namespace Go.Proofs.Yticdjkkcfdbdcaa
open Go.Conc
def _root_.Go.Result.world {α : Type} : Result α → World
  | .ok _ w => w
  | .halt _ w => w
/-- How a meaning of the lone one may end badly: its run is then lost. -/
def badHalt : Halt → Prop
  | .panic _ | .stuck _ => True
  | .unsupported (.initOrder _) => False
  | .unsupported _ => True
  | _ => False
/-- A meaning that ends badly, whatever the world. -/
inductive Dead {α : Type} : Sem α → Prop
  | halt (h : Halt) (hb : badHalt h) : Dead (.halt h)
  | new (o : Obj) {k : Nat → Sem α} (h : ∀ r, Dead (k r)) : Dead (.new o k)
  | choose (q : Question) {k : Nat → Sem α} (h : ∀ n, Dead (k n)) : Dead (.choose q k)
  | program {k : Program → Sem α} (h : ∀ p, Dead (k p)) : Dead (.program k)
  | shape (r : Nat) {k : Option (TypeId × Nat) → Sem α} (h : ∀ x, Dead (k x)) : Dead (.shape r k)
  | frozen (a : Addr) {k : Bool → Sem α} (h : ∀ x, Dead (k x)) : Dead (.frozen a k)
  | mark (m : Mark) {k : Sem α} (h : Dead k) : Dead (.mark m k)
theorem Dead.bind {α β : Type} {s : Sem α} (h : Dead s) (f : α → Sem β) : Dead (s >>= f) := by
  show Dead (Sem.bind s f)
  induction h with
  | halt h hb => exact .halt h hb
  | new o _ ih => exact .new o ih
  | choose q _ ih => exact .choose q ih
  | program _ ih => exact .program ih
  | shape r _ ih => exact .shape r ih
  | frozen a _ ih => exact .frozen a ih
  | mark m _ ih => exact .mark m ih
theorem Dead.run {α : Type} {P : Program} {s : Sem α} (h : Dead s) : ∀ (w : World) (es : Array Event), ∃ x w' es', s.runT P w es = (.halt x w', es') ∧ badHalt x := by
  induction h with
  | halt h hb => exact fun w es => ⟨h, w, es, rfl, hb⟩
  | new o _ ih => exact fun w es => ih _ _ _
  | choose q _ ih =>
    intro w es
    simp only [Sem.runT]
    split
    · exact ih _ _ _
    · exact ih _ _ _
  | program _ ih => exact fun w es => ih _ _ _
  | shape r _ ih => exact fun w es => ih _ _ _
  | frozen a _ ih => exact fun w es => ih _ _ _
  | mark m _ ih => exact fun w es => ih _ _
/-- What a meaning tells: as 'EvOk', and the names of functions without a body. -/
def EvX (k : LK) (n n' : Nat) (e : Event) : Prop := EvOk k n n' e ∨ ∃ f, e.loc = .mark (.extern f)
structure OwnX (k : LK) (w w' : World) (es : Array Event) : Prop where
  chg : Chg k w w'
  evs : ∀ e ∈ es, EvX k w.heap.size w'.heap.size e
theorem grow_grow (k : LK) {a b c : Nat} (h1 : a ≤ b) (h2 : b ≤ c) : (k.grow a b).grow b c = k.grow a c := by
  unfold LK.grow
  simp only [LK.mk.injEq, and_true]
  funext l
  refine propext ⟨fun h => ?_, fun h => ?_⟩
  · rcases h with (h | h) | h
    · exact .inl h
    · exact .inr (by cases l <;> simp_all [NewLoc] <;> omega)
    · exact .inr (by cases l <;> simp_all [NewLoc] <;> omega)
  · rcases h with h | h
    · exact .inl (.inl h)
    · rcases Classical.em (NewLoc a b l) with g | g
      · exact .inl (.inr g)
      · exact .inr (by cases l <;> simp_all [NewLoc] <;> omega)
theorem Chg.trans {k : LK} {a b c : World} (h : Chg k a b) (g : Chg (k.grow a.heap.size b.heap.size) b c) : Chg k a c where
  size := Nat.le_trans h.size g.size
  tape := g.tape.trans h.tape
  os := g.os.trans h.os
  output := g.output.trans h.output
  shape := fun x o hx => by
    obtain ⟨o1, h1, h2⟩ := h.shape x o hx
    obtain ⟨o2, h3, h4⟩ := g.shape x o1 h1
    exact ⟨o2, h3, h2.trans h4⟩
  cell := fun x hx hn => by
    refine (g.cell x (Nat.lt_of_lt_of_le hx h.size) fun hh => ?_).trans (h.cell x hx hn)
    rcases hh with hh | hh
    · exact hn hh
    · have : a.heap.size ≤ x.block := hh.1
      omega
  obj := fun x o hx hnc hn => by
    have hlt := (Array.getElem?_eq_some_iff.1 hx).1
    refine g.obj x o (h.obj x o hx hnc hn) hnc fun hh => ?_
    rcases hh with hh | hh
    · exact hn hh
    · have : a.heap.size ≤ x := hh.1
      omega
theorem EvX.late {k : LK} {a b c : Nat} (h1 : a ≤ b) (h2 : b ≤ c) {e : Event} (h : EvX (k.grow a b) b c e) : EvX k a c e := by
  refine h.imp (fun h => ?_) id
  rcases h with h | ⟨g1, g2, g3⟩
  · exact .inl h
  · refine .inr ⟨g1, g2, ?_⟩
    rcases g3 with g | (g | g) | g
    · exact .inl (by revert g; cases e.loc <;> simp [NewLoc] <;> omega)
    · exact .inr (.inl g)
    · exact .inl (by revert g; cases e.loc <;> simp [NewLoc] <;> omega)
    · exact .inr (.inr g)
theorem EvX.early {k : LK} {a b c : Nat} (h1 : a ≤ b) (h2 : b ≤ c) {e : Event} (h : EvX k a b e) : EvX k a c e := by
  refine h.imp (fun h => ?_) id
  rcases h with h | ⟨g1, g2, g3⟩
  · exact .inl h
  · refine .inr ⟨g1, g2.mono h2, ?_⟩
    rcases g3 with g | g | g
    · exact .inl (by revert g; cases e.loc <;> simp [NewLoc] <;> omega)
    · exact .inr (.inl g)
    · exact .inr (.inr g)
theorem OwnX.idle (k : LK) (w : World) : OwnX k w w #[] := ⟨.refl k w, fun e he => by simp at he⟩
theorem OwnX.trans {k : LK} {a b c : World} {l l' : Array Event} (h : OwnX k a b l) (g : OwnX (k.grow a.heap.size b.heap.size) b c l') : OwnX k a c (l ++ l') := by
  refine ⟨h.chg.trans g.chg, fun e he => ?_⟩
  rcases Array.mem_append.1 he with he | he
  · exact (h.evs e he).early h.chg.size g.chg.size
  · exact (g.evs e he).late h.chg.size g.chg.size
/-- What is told of a block's shape. -/
def ShR (ρ : Ren) (r s : Nat) (x x' : Option (TypeId × Nat)) : Prop := (x = none ∧ x' = none ∧ s = 0) ∨ (∃ p, x = some p ∧ x' = some p ∧ s = 0 ∧ ¬ ρ.part r) ∨ ∃ n p', x = some (ρ.bad, n) ∧ x' = some p' ∧ ρ.part r
/-- MEANINGS THAT ARE ALIKE. -/
inductive SR (S : FnSet) (P : Program) {α β : Type} (Q : Ren → α → β → Prop) : Ren → Sem α → Sem β → Prop
  | dead {ρ : Ren} {s : Sem α} {s' : Sem β} (h : Dead s) : SR S P Q ρ s s'
  | pure {ρ : Ren} {a : α} {b : β} (h : Q ρ a b) : SR S P Q ρ (.pure a) (.pure b)
  | load {ρ : Ren} {a a' : Addr} {k : Value → Sem α} {k' : Value → Sem β} (h : AR ρ a a') (hk : ∀ v v', VR S ρ v v' → SR S P Q ρ (k v) (k' v')) : SR S P Q ρ (.load .plain a k) (.load .plain a' k')
  | farLoad {ρ : Ren} {a : Addr} {k : Value → Sem α} {s' : Sem β} (h : a.spot ≠ none) : SR S P Q ρ (.load .plain a k) s'
  | farStore {ρ : Ren} {a : Addr} {v : Value} {k : Sem α} {s' : Sem β} (h : a.spot ≠ none) : SR S P Q ρ (.store .plain a v k) s'
  | store {ρ : Ren} {a a' : Addr} {v v' : Value} {k : Sem α} {k' : Sem β} (h : AR ρ a a') (hv : VR S ρ v v') (hk : SR S P Q ρ k k') : SR S P Q ρ (.store .plain a v k) (.store .plain a' v' k')
  | new {ρ : Ren} {o o' : Obj} {k : Nat → Sem α} {k' : Nat → Sem β} (h : (∃ x e x', o = .cells x e (0, 0) ∧ o' = .cells x' e (0, 0) ∧ VRs S ρ x x') ∨ OR S ρ o o') (hk : ∀ ρ' r r', ρ.le ρ' → ρ' r = some (r', 0) → (isMapObj o → ρ'.own r) → ¬ ρ'.isChan r → SR S P Q ρ' (k r) (k' r')) : SR S P Q ρ (.new o k) (.new o' k')
  | getObj {ρ : Ren} {r r' : Nat} {k : Obj → Sem α} {k' : Obj → Sem β} (h : ρ r = some (r', 0)) (hk : ∀ o o', ρ.own r → OR S ρ o o' → SR S P Q ρ (k o) (k' o')) (hd : ρ.isChan r → ∀ a b c d e f, Dead (k (.chan a b c d e f))) : SR S P Q ρ (.getObj r k) (.getObj r' k')
  | setObj {ρ : Ren} {r r' : Nat} {o o' : Obj} {k : Sem α} {k' : Sem β} (h : ρ r = some (r', 0)) (hw : ρ.own r) (ho : OR S ρ o o') (hk : SR S P Q ρ k k') : SR S P Q ρ (.setObj r o k) (.setObj r' o' k')
  | shape {ρ : Ren} {r r' s : Nat} {k : Option (TypeId × Nat) → Sem α} {k' : Option (TypeId × Nat) → Sem β} (h : ρ r = some (r', s)) (hk : ∀ x x', ShR ρ r s x x' → SR S P Q ρ (k x) (k' x')) : SR S P Q ρ (.shape r k) (.shape r' k')
  | frozen {ρ : Ren} {a a' : Addr} {k : Bool → Sem α} {k' : Bool → Sem β} (hk : ∀ x x', SR S P Q ρ (k x) (k' x')) : SR S P Q ρ (.frozen a k) (.frozen a' k')
  | choose {ρ : Ren} (q : Question) {k : Nat → Sem α} {k' : Nat → Sem β} (hk : ∀ n, SR S P Q ρ (k n) (k' n)) : SR S P Q ρ (.choose q k) (.choose q k')
  | program {ρ : Ren} {k : Program → Sem α} {k' : Program → Sem β} (hk : SR S P Q ρ (k P) (k' P)) : SR S P Q ρ (.program k) (.program k')
  | mark {ρ : Ren} {m : Mark} (hm : m = .noRoom ∨ ∃ f, m = .extern f) {k : Sem α} {k' : Sem β} (hk : SR S P Q ρ k k') : SR S P Q ρ (.mark m k) (.mark m k')
section
variable {S : FnSet} {P : Program}
theorem SR.mono {α β : Type} {Q Q' : Ren → α → β → Prop} {ρ : Ren} {s : Sem α} {s' : Sem β} (h : SR S P Q ρ s s') : (∀ ρ' a b, ρ.le ρ' → Q ρ' a b → Q' ρ' a b) → SR S P Q' ρ s s' := by
  induction h with
  | dead h => exact fun _ => .dead h
  | @pure ρ a b h => exact fun hq => .pure (hq ρ a b (.refl _) h)
  | load h _ ih => exact fun hq => .load h fun v v' hv => ih v v' hv hq
  | farLoad h => exact fun _ => .farLoad h
  | farStore h => exact fun _ => .farStore h
  | store h hv _ ih => exact fun hq => .store h hv (ih hq)
  | new h _ ih => exact fun hq => .new h fun ρ' r r' hr hr' hm hc => ih ρ' r r' hr hr' hm hc fun ρ'' a b h1 h2 => hq ρ'' a b (hr.trans h1) h2
  | getObj h _ hd ih => exact fun hq => .getObj h (fun o o' hw ho => ih o o' hw ho hq) hd
  | setObj h hw ho _ ih => exact fun hq => .setObj h hw ho (ih hq)
  | shape h _ ih => exact fun hq => .shape h fun x x' h1 => ih x x' h1 hq
  | frozen _ ih => exact fun hq => .frozen fun x x' => ih x x' hq
  | choose q _ ih => exact fun hq => .choose q fun n => ih n hq
  | program _ ih => exact fun hq => .program (ih hq)
  | mark hm _ ih => exact fun hq => .mark hm (ih hq)
theorem SR.bind {α β γ δ : Type} {Q : Ren → α → β → Prop} {Q' : Ren → γ → δ → Prop} {f : α → Sem γ} {f' : β → Sem δ} {ρ : Ren} {s : Sem α} {s' : Sem β} (h : SR S P Q ρ s s') : (∀ ρ' a b, ρ.le ρ' → Q ρ' a b → SR S P Q' ρ' (f a) (f' b)) → SR S P Q' ρ (s >>= f) (s' >>= f') := by
  show _ → SR S P Q' ρ (Sem.bind s f) (Sem.bind s' f')
  induction h with
  | dead h => exact fun _ => .dead (h.bind f)
  | @pure ρ a b h => exact fun hq => hq ρ a b (.refl _) h
  | load h _ ih => exact fun hq => .load h fun v v' hv => ih v v' hv hq
  | farLoad h => exact fun _ => .farLoad h
  | farStore h => exact fun _ => .farStore h
  | store h hv _ ih => exact fun hq => .store h hv (ih hq)
  | new h _ ih => exact fun hq => .new h fun ρ' r r' hr hr' hm hc => ih ρ' r r' hr hr' hm hc fun ρ'' a b h1 h2 => hq ρ'' a b (hr.trans h1) h2
  | getObj h _ hd ih => exact fun hq => .getObj h (fun o o' hw ho => ih o o' hw ho hq) fun hc a b c d e g => (hd hc a b c d e g).bind f
  | setObj h hw ho _ ih => exact fun hq => .setObj h hw ho (ih hq)
  | shape h _ ih => exact fun hq => .shape h fun x x' h1 => ih x x' h1 hq
  | frozen _ ih => exact fun hq => .frozen fun x x' => ih x x' hq
  | choose q _ ih => exact fun hq => .choose q fun n => ih n hq
  | program _ ih => exact fun hq => .program (ih hq)
  | mark hm _ ih => exact fun hq => .mark hm (ih hq)
/-! ### the count of draws only grows -/
theorem ask_drawn {α : Type} (a : Ask α) : ∀ w : World, w.drawn ≤ (w.ask a).2.drawn := by
  induction a with
  | done a => exact fun w => Nat.le_refl _
  | ask what range k ih =>
    intro w
    simp only [World.ask]
    split
    · exact ih _ w
    · exact Nat.le_trans (Nat.le_succ _) (ih _ { w with drawn := w.drawn + 1 })
theorem sys_drawn (w : World) (c : Sys) : w.drawn ≤ (w.sys c).2.drawn := by
  have h := ask_drawn (Kernel.perform c w.os) w
  unfold World.sys
  generalize w.ask (Kernel.perform c w.os) = x at h
  obtain ⟨⟨r, os⟩, w'⟩ := x
  cases r <;> first | exact Nat.le_refl _ | exact h
theorem viewStore_drawn {p : Program} {w w' : World} {a k : Addr} {u : TypeId} {v : Value} {b : Bool} {l : List Addr} (h : w.viewStore p a u k v b = .ok (w', l)) : w'.drawn = w.drawn := by
  unfold World.viewStore at h
  simp only [bind, Except.bind, pure, Except.pure, throw, throwThe, MonadExceptOf.throw] at h
  repeat' (split at h)
  all_goals first
    | (cases h; done)
    | (simp only [Except.ok.injEq, Prod.mk.injEq] at h; obtain ⟨rfl, _⟩ := h; rfl)
theorem farStore_drawn {p : Program} {w w' : World} {a : Addr} {v : Value} {b : Bool} {l : List Addr} (h : w.farStore p a v b = .ok (w', l)) : w'.drawn = w.drawn := by
  unfold World.farStore at h
  split at h
  · split at h
    · rename_i r hr
      cases h
      exact viewStore_drawn hr
    · cases h
  · cases h
theorem runT_drawn {α : Type} (s : Sem α) : ∀ (w : World) (es : Array Event), w.drawn ≤ (s.runT P w es).1.world.drawn := by
  induction s with
  | pure a => exact fun w es => Nat.le_refl _
  | halt h => exact fun w es => Nat.le_refl _
  | load m a k ih =>
    intro w es
    simp only [Sem.runT]
    split
    · exact ih _ w _
    · split
      · exact ih _ w _
      · exact Nat.le_refl _
  | store m a v k ih =>
    intro w es
    have key : ∀ (hne : ∀ c, v ≠ .agg c) (hne' : ∀ c, v ≠ .tuple c), (Sem.store m a v k).runT P w es = (match w.cell? a with
      | some _ => if w.frozen? a then (.halt (.unsupported (.unsafePointer "a write to bytes that a string shares")) w, es) else k.runT P (w.setCell a v) (es.push ⟨.cell a, true, m == .atomic⟩)
      | none => match w.farStore P a v (m == .atomic) with
        | .ok (w, touched) => k.runT P w (es ++ touched.toArray.map (⟨.cell ·, true, m == .atomic⟩))
        | .error h => (.halt h w, es)) := fun h1 h2 => by
      cases v <;> first | rfl | exact absurd rfl (h1 _) | exact absurd rfl (h2 _)
    by_cases h1 : ∃ c, v = .agg c
    · obtain ⟨c, rfl⟩ := h1; exact Nat.le_refl _
    by_cases h2 : ∃ c, v = .tuple c
    · obtain ⟨c, rfl⟩ := h2; exact Nat.le_refl _
    rw [key (fun c e => h1 ⟨c, e⟩) (fun c e => h2 ⟨c, e⟩)]
    split
    · split
      · exact Nat.le_refl _
      · exact ih (w.setCell a v) _
    · split
      · rename_i w' l hw
        have := ih w' (es ++ l.toArray.map (⟨.cell ·, true, m == .atomic⟩))
        rw [farStore_drawn hw] at this
        exact this
      · exact Nat.le_refl _
  | new o k ih => exact fun w es => ih _ { w with heap := w.heap.push o } es
  | shape r k ih => exact fun w es => ih _ w es
  | freeze a n k ih =>
    intro w es
    have := ih (w.freeze a n) es
    have e : (w.freeze a n).drawn = w.drawn := by unfold World.freeze; split <;> rfl
    rw [e] at this
    exact this
  | frozen a k ih => exact fun w es => ih _ w es
  | getObj r k ih =>
    intro w es
    simp only [Sem.runT]
    split
    · exact Nat.le_refl _
    · exact ih _ w _
    · exact Nat.le_refl _
  | setObj r o k ih =>
    intro w es
    simp only [Sem.runT]
    split
    · exact Nat.le_refl _
    · exact ih { w with heap := w.heap.setIfInBounds r o } _
    · exact Nat.le_refl _
  | choose q k ih =>
    intro w es
    simp only [Sem.runT]
    split
    · exact ih _ w es
    · exact Nat.le_trans (Nat.le_succ _) (ih _ { w with drawn := w.drawn + 1 } es)
  | sys c k ih => exact fun w es => Nat.le_trans (sys_drawn w c) (ih _ (w.sys c).2 _)
  | program k ih => exact fun w es => ih P w es
  | mark m k ih => exact fun w es => ih w _
end
end Go.Proofs.Yticdjkkcfdbdcaa
namespace Go.Proofs.Yticdjkkcfdbdcaa
open Go.Conc
/-- How the two runs stand to each other. -/
def Alike2 (S : FnSet) (P : Program) {α β : Type} (Q : Ren → α → β → Prop) (ρ : Ren) (s : Sem α) (s' : Sem β) : Prop :=
  ∀ (k : LK) (L W : World) (es es' : Array Event), WR S ρ k L W → (∀ j, j < (s'.runT P W es').1.world.drawn - W.drawn → ∀ q, L.tape (L.drawn + j) q = W.tape (W.drawn + j) q) →
  (∃ x L' es1, s.runT P L es = (.halt x L', es1) ∧ badHalt x) ∨
  ∃ a L' es1 b W' l ρ', s.runT P L es = (.ok a L', es1) ∧ s'.runT P W es' = (.ok b W', es' ++ l) ∧ ρ.le ρ' ∧ Q ρ' a b ∧ WR S ρ' (k.grow W.heap.size W'.heap.size) L' W' ∧ OwnX k W W' l ∧ L'.tape = L.tape ∧ ∃ c, L'.drawn = L.drawn + c ∧ W'.drawn = W.drawn + c
section
variable {S : FnSet} {P : Program}
theorem alike_comb {α β : Type} {Q : Ren → α → β → Prop} {ρ ρ₁ : Ren} {s r : Sem α} {s' r' : Sem β} {k : LK} {L W L₁ W₁ : World} {es es' es₁ l : Array Event} {c₀ : Nat}
    (hag : ∀ j, j < (s'.runT P W es').1.world.drawn - W.drawn → ∀ q, L.tape (L.drawn + j) q = W.tape (W.drawn + j) q)
    (h1 : s.runT P L es = r.runT P L₁ es₁) (h2 : s'.runT P W es' = r'.runT P W₁ (es' ++ l)) (hr : ρ.le ρ₁) (hw : WR S ρ₁ (k.grow W.heap.size W₁.heap.size) L₁ W₁) (ho : OwnX k W W₁ l) (ht : L₁.tape = L.tape) (hd : L₁.drawn = L.drawn + c₀) (hd' : W₁.drawn = W.drawn + c₀)
    (ih : Alike2 S P Q ρ₁ r r') :
    (∃ x L' es1, s.runT P L es = (.halt x L', es1) ∧ badHalt x) ∨
    ∃ a L' es1 b W' l ρ', s.runT P L es = (.ok a L', es1) ∧ s'.runT P W es' = (.ok b W', es' ++ l) ∧ ρ.le ρ' ∧ Q ρ' a b ∧ WR S ρ' (k.grow W.heap.size W'.heap.size) L' W' ∧ OwnX k W W' l ∧ L'.tape = L.tape ∧ ∃ c, L'.drawn = L.drawn + c ∧ W'.drawn = W.drawn + c := by
  rcases ih (k.grow W.heap.size W₁.heap.size) L₁ W₁ es₁ (es' ++ l) hw (fun j hj q => by
    rw [ht, hd, ho.chg.tape, hd']
    have := hag (c₀ + j) (by rw [h2]; rw [hd'] at hj; omega) q
    rw [Nat.add_assoc, Nat.add_assoc]
    exact this) with ⟨x, L', e1, g1, g2⟩ | ⟨a, L', e1, b, W', l', ρ', g1, g2, g3, g4, g5, g6, g7, c, g8, g9⟩
  · exact .inl ⟨x, L', e1, h1.trans g1, g2⟩
  · refine .inr ⟨a, L', e1, b, W', l ++ l', ρ', h1.trans g1, ?_, hr.trans g3, g4, ?_, ho.trans g6, g7.trans ht, c₀ + c, by omega, by omega⟩
    · rw [h2, g2, Array.append_assoc]
    · rw [grow_grow k ho.chg.size g6.chg.size] at g5; exact g5
theorem setCell_size (w : World) (a : Addr) (v : Value) : (w.setCell a v).heap.size = w.heap.size := by simp [World.setCell]
theorem own_read {k : LK} {w : World} {a : Addr} {u : Value} (hu : w.cell? a = some u) (hl : k.W (.cell a) ∨ k.R (.cell a)) : OwnX k w w #[⟨.cell a, false, false⟩] := by
  refine ⟨.refl k w, fun e he => .inl ?_⟩
  simp at he; subst he
  have hlt : a.block < w.heap.size := by
    rcases Nat.lt_or_ge a.block w.heap.size with h | h
    · exact h
    · rw [World.cell?, Array.getElem?_eq_none h] at hu; cases hu
  exact .inr ⟨rfl, hlt, .inr (hl.imp id fun h => ⟨rfl, h⟩)⟩
theorem own_write {k : LK} {w : World} {a : Addr} {u v : Value} (hu : w.cell? a = some u) (hl : k.W (.cell a)) : OwnX k w (w.setCell a v) #[⟨.cell a, true, false⟩] := by
  have hlt : a.block < w.heap.size := by
    rcases Nat.lt_or_ge a.block w.heap.size with h | h
    · exact h
    · rw [World.cell?, Array.getElem?_eq_none h] at hu; cases hu
  have hs := setCell_size w a v
  refine ⟨⟨Nat.le_of_eq hs.symm, rfl, rfl, rfl, fun b o ho => ?_, fun x hx hn => ?_, fun b o ho hnc hn => ?_⟩, fun e he => .inl ?_⟩
  · by_cases hb : b = a.block
    · subst hb
      cases o with
      | cells c e f => exact ⟨.cells (if a.spot.isSome then c else c.setIfInBounds a.off v) e f, by simp [World.setCell, Array.getElem?_modify, ho], by split <;> simp [Alike]⟩
      | _ => exact ⟨_, by simp [World.setCell, Array.getElem?_modify, ho], .refl _⟩
    · exact ⟨o, by rw [setCell_ne hb]; exact ho, .refl o⟩
  · by_cases hb : x.block = a.block
    · cases hw : w.heap[a.block]? with
      | none => rw [World.cell?, hw] at hu; cases hu
      | some o =>
        cases o with
        | cells c e f =>
          have h1 : (w.setCell a v).heap[a.block]? = some (.cells (if a.spot.isSome then c else c.setIfInBounds a.off v) e f) := by simp [World.setCell, Array.getElem?_modify, hw]
          simp only [World.cell?, h1, hb, hw]
          by_cases hx1 : x.spot.isSome = true
          · simp [hx1]
          · rw [if_neg hx1, if_neg hx1]
            by_cases ha1 : a.spot.isSome = true
            · simp [ha1]
            · rw [if_neg ha1, Array.getElem?_setIfInBounds, if_neg]
              intro he
              refine hn ?_
              have : x = a := by
                obtain ⟨xb, xo, xs⟩ := x
                obtain ⟨ab, ao, as⟩ := a
                simp at hb he hx1 ha1
                subst hb he hx1 ha1
                rfl
              rw [this]; exact hl
        | _ => simp [World.cell?, hw] at hu
    · simp only [World.cell?, setCell_ne hb]
  · by_cases hb : b = a.block
    · subst hb
      cases o with
      | cells c e f => exact absurd rfl (hnc c e f)
      | _ => simp [World.setCell, Array.getElem?_modify, ho]
    · rw [setCell_ne hb]; exact ho
  · simp at he; subst he
    exact .inr ⟨rfl, by rw [hs]; exact hlt, .inr (.inl hl)⟩
theorem own_new {k : LK} {w : World} (o : Obj) : OwnX k w { w with heap := w.heap.push o } #[] := by
  have hold : ∀ b, b < w.heap.size → (w.heap.push o)[b]? = w.heap[b]? := fun b hb => by rw [Array.getElem?_push, if_neg (by omega)]
  refine ⟨⟨by simp, rfl, rfl, rfl, fun b p hp => ⟨p, ?_, .refl p⟩, fun a ha hn => ?_, fun b p hp _ _ => ?_⟩, fun e he => by simp at he⟩
  · show (w.heap.push o)[b]? = _
    rw [hold b (Array.getElem?_eq_some_iff.1 hp).1]; exact hp
  · simp only [World.cell?, hold _ ha]
  · show (w.heap.push o)[b]? = _
    rw [hold b (Array.getElem?_eq_some_iff.1 hp).1]; exact hp
theorem own_obj {k : LK} {w : World} {r : Nat} {o : Obj} (ho : w.heap[r]? = some o) (hl : k.W (.obj r)) (hc : o.isChan = false) : OwnX k w w #[⟨.obj r, false, o.isChan⟩] := by
  refine ⟨.refl k w, fun e he => .inl ?_⟩
  simp at he; subst he
  exact .inr ⟨hc, (Array.getElem?_eq_some_iff.1 ho).1, .inr (.inl hl)⟩
theorem own_setObj {k : LK} {w : World} {r : Nat} {o p : Obj} (ho : w.heap[r]? = some o) (hn : NotCells o) (hp : NotCells p) (hl : k.W (.obj r)) (hc : p.isChan = false) : OwnX k w { w with heap := w.heap.setIfInBounds r p } #[⟨.obj r, true, p.isChan⟩] := by
  have hr := (Array.getElem?_eq_some_iff.1 ho).1
  have hne : ∀ b, b ≠ r → (w.heap.setIfInBounds r p)[b]? = w.heap[b]? := fun b hb => by rw [Array.getElem?_setIfInBounds, if_neg (fun e => hb e.symm)]
  have hself : (w.heap.setIfInBounds r p)[r]? = some p := by rw [Array.getElem?_setIfInBounds, if_pos rfl, if_pos hr]
  refine ⟨⟨by simp, rfl, rfl, rfl, fun b q hq => ?_, fun a ha hna => ?_, fun b q hq hnq hnw => ?_⟩, fun e he => .inl ?_⟩
  · by_cases hb : b = r
    · subst hb
      rw [ho] at hq; cases hq
      refine ⟨p, hself, ?_⟩
      cases o <;> cases p <;> first | trivial | exact absurd rfl (hn _ _ _) | exact absurd rfl (hp _ _ _)
    · exact ⟨q, (hne b hb).trans hq, .refl q⟩
  · by_cases hb : a.block = r
    · simp only [World.cell?, hb, hself, ho]
      cases o <;> cases p <;> first | rfl | exact absurd rfl (hn _ _ _) | exact absurd rfl (hp _ _ _)
    · simp only [World.cell?, hne _ hb]
  · by_cases hb : b = r
    · subst hb; exact absurd hl hnw
    · exact (hne b hb).trans hq
  · simp at he; subst he
    exact .inr ⟨hc, by simpa [MemLoc] using hr, .inr (.inl hl)⟩
theorem OR.isChan {ρ : Ren} {o o' : Obj} (h : OR S ρ o o') : o.isChan = false ∧ o'.isChan = false := by cases h <;> exact ⟨rfl, rfl⟩
theorem VR.one {ρ : Ren} {v v' : Value} (h : VR S ρ v v') : ((∃ c, v = .agg c) ∧ ∃ c, v' = .agg c) ∨ ((∃ c, v = .tuple c) ∧ ∃ c, v' = .tuple c) ∨ ((∀ c, v ≠ .agg c) ∧ (∀ c, v ≠ .tuple c) ∧ (∀ c, v' ≠ .agg c) ∧ ∀ c, v' ≠ .tuple c) := by
  cases h <;> first
    | exact .inl ⟨⟨_, rfl⟩, ⟨_, rfl⟩⟩
    | exact .inr (.inl ⟨⟨_, rfl⟩, ⟨_, rfl⟩⟩)
    | exact .inr (.inr ⟨fun _ e => (by cases e), fun _ e => (by cases e), fun _ e => (by cases e), fun _ e => (by cases e)⟩)
theorem runT_store {α : Type} {m : Mode} {a : Addr} {v : Value} {k : Sem α} {w : World} {es : Array Event} (h1 : ∀ c, v ≠ .agg c) (h2 : ∀ c, v ≠ .tuple c) : (Sem.store m a v k).runT P w es = (match w.cell? a with
      | some _ => if w.frozen? a then (.halt (.unsupported (.unsafePointer "a write to bytes that a string shares")) w, es) else k.runT P (w.setCell a v) (es.push ⟨.cell a, true, m == .atomic⟩)
      | none => match w.farStore P a v (m == .atomic) with
        | .ok (w, touched) => k.runT P w (es ++ touched.toArray.map (⟨.cell ·, true, m == .atomic⟩))
        | .error h => (.halt h w, es)) := by
  cases v <;> first | rfl | exact absurd rfl (h1 _) | exact absurd rfl (h2 _)
/-- ████ MEANINGS THAT ARE ALIKE GO ALIKE. ████ -/
theorem SR.run {α β : Type} {Q : Ren → α → β → Prop} {ρ : Ren} {s : Sem α} {s' : Sem β} (h : SR S P Q ρ s s') : Alike2 S P Q ρ s s' := by
  induction h with
  | dead h =>
    intro k L W es es' hw hag
    obtain ⟨x, L', es1, h1, h2⟩ := h.run (P := P) L es
    exact .inl ⟨x, L', es1, h1, h2⟩
  | @pure ρ a b h =>
    intro k L W es es' hw hag
    exact .inr ⟨a, L, es, b, W, #[], ρ, rfl, by simp [Sem.runT, -Sem.runT_eq], .refl _, h, by rw [grow_self]; exact hw, .idle k W, rfl, 0, rfl, rfl⟩
  | @load ρ a a' k0 k0' ha hk ih =>
    intro k L W es es' hw hag
    cases hc : L.cell? a with
    | none =>
      obtain ⟨m, hm⟩ := hw.farLoad (P := P) (a := a) (at_ := Mode.plain == .atomic)
      exact .inl ⟨.stuck m, L, es, by simp only [Sem.runT, hc, hm], trivial⟩
    | some v =>
      obtain ⟨v', h1, h2, h3⟩ := hw.load ha hc
      refine alike_comb (ρ₁ := ρ) (c₀ := 0) (L₁ := L) (W₁ := W) (l := #[⟨.cell a', false, false⟩]) hag (by simp only [Sem.runT, hc]; rfl) (by simp only [Sem.runT, h1]; rfl) (.refl _) (by rw [grow_self]; exact hw) (own_read h1 h3) rfl rfl rfl (ih v v' h2)
  | @store ρ a a' v v' k0 k0' ha hv hk ih =>
    intro k L W es es' hw hag
    rcases hv.one with ⟨⟨c, rfl⟩, _⟩ | ⟨⟨c, rfl⟩, _⟩ | ⟨n1, n2, n3, n4⟩
    · exact .inl ⟨.stuck "store: not the value of one cell", L, es, rfl, trivial⟩
    · exact .inl ⟨.stuck "store: not the value of one cell", L, es, rfl, trivial⟩
    cases hc : L.cell? a with
    | none =>
      obtain ⟨m, hm⟩ := hw.farStore (P := P) (a := a) (v := v) (at_ := Mode.plain == .atomic)
      exact .inl ⟨.stuck m, L, es, by rw [runT_store n1 n2]; simp only [hc, hm], trivial⟩
    | some u =>
      cases hz : L.frozen? a with
      | true => exact .inl ⟨.unsupported (.unsafePointer "a write to bytes that a string shares"), L, es, by rw [runT_store n1 n2]; simp only [hc, hz, if_true], trivial⟩
      | false =>
        obtain ⟨⟨u', h1⟩, h2, h3, h4⟩ := hw.store ha hc hz hv
        refine alike_comb (ρ₁ := ρ) (c₀ := 0) (L₁ := L.setCell a v) (W₁ := W.setCell a' v') (l := #[⟨.cell a', true, false⟩]) hag (by rw [runT_store n1 n2]; simp only [hc, hz, Bool.false_eq_true, if_false]; rfl) (by rw [runT_store n3 n4]; simp only [h1, h2, Bool.false_eq_true, if_false]; rfl) (.refl _) (by rw [setCell_size, grow_self]; exact h4) (own_write h1 h3) rfl rfl rfl ih
  | @farLoad ρ a k0 s0' h =>
    intro k L W es es' hw hag
    have hc : L.cell? a = none := by
      unfold World.cell?
      split
      · rw [if_pos (Option.isSome_iff_ne_none.2 h)]
      · rfl
    obtain ⟨m, hm⟩ := hw.farLoad (P := P) (a := a) (at_ := Mode.plain == .atomic)
    exact .inl ⟨.stuck m, L, es, by simp only [Sem.runT, hc, hm], trivial⟩
  | @farStore ρ a v k0 s0' h =>
    intro k L W es es' hw hag
    have hc : L.cell? a = none := by
      unfold World.cell?
      split
      · rw [if_pos (Option.isSome_iff_ne_none.2 h)]
      · rfl
    by_cases n1 : ∃ c, v = .agg c
    · obtain ⟨c, rfl⟩ := n1
      exact .inl ⟨.stuck "store: not the value of one cell", L, es, rfl, trivial⟩
    by_cases n2 : ∃ c, v = .tuple c
    · obtain ⟨c, rfl⟩ := n2
      exact .inl ⟨.stuck "store: not the value of one cell", L, es, rfl, trivial⟩
    obtain ⟨m, hm⟩ := hw.farStore (P := P) (a := a) (v := v) (at_ := Mode.plain == .atomic)
    exact .inl ⟨.stuck m, L, es, by rw [runT_store (fun c e => n1 ⟨c, e⟩) (fun c e => n2 ⟨c, e⟩)]; simp only [hc, hm], trivial⟩
  | @new ρ o o' k0 k0' ho hk ih =>
    intro k L W es es' hw hag
    refine alike_comb (ρ₁ := ρ.new L.heap.size W.heap.size (isMapObj o)) (c₀ := 0) (L₁ := { L with heap := L.heap.push o }) (W₁ := { W with heap := W.heap.push o' }) (l := #[]) hag rfl (by simp only [Array.append_empty]; rfl) (hw.fresh _) (by simp only [Array.size_push]; exact hw.new ho) (own_new o') rfl rfl rfl (ih _ L.heap.size W.heap.size (hw.fresh _) (hw.fresh_to _) (fun hm => .inr ⟨rfl, hm⟩) fun hc => absurd (hw.chanLt _ (.inl hc)) (Nat.lt_irrefl _))
  | @getObj ρ r r' k0 k0' hr hk hd ih =>
    intro k L W es es' hw hag
    cases hc : L.heap[r]? with
    | none => exact .inl ⟨.stuck "getObj: no such block", L, es, by simp only [Sem.runT, hc], trivial⟩
    | some o =>
      rcases hw.kinds r o hc with ⟨c, e, f, rfl⟩ | hn | ⟨a1, a2, a3, a4, a5, a6, rfl⟩
      · exact .inl ⟨.stuck "getObj: a row of cells", L, es, by simp only [Sem.runT, hc], trivial⟩
      · obtain ⟨hown, o', h1, h2, h3⟩ := hw.getObj hr hc hn
        refine alike_comb (ρ₁ := ρ) (c₀ := 0) (L₁ := L) (W₁ := W) (es₁ := es.push ⟨.obj r, false, o.isChan⟩) (l := #[⟨.obj r', false, o'.isChan⟩]) hag ?_ ?_ (.refl _) (by rw [grow_self]; exact hw) (own_obj h1 h3 h2.isChan.2) rfl rfl rfl (ih o o' hown h2)
        · simp only [Sem.runT, hc]
          cases o <;> first | rfl | exact absurd rfl (h2.notCells.1 _ _ _)
        · simp only [Sem.runT, h1]
          cases o' <;> first | rfl | exact absurd rfl (h2.notCells.2 _ _ _)
      · obtain ⟨x, L', es1, g1, g2⟩ := (hd (hw.chan r a1 a2 a3 a4 a5 a6 hc) a1 a2 a3 a4 a5 a6).run (P := P) L (es.push ⟨.obj r, false, true⟩)
        exact .inl ⟨x, L', es1, by simp only [Sem.runT, hc]; exact g1, g2⟩
  | @setObj ρ r r' o o' k0 k0' hr hown ho hk ih =>
    intro k L W es es' hw hag
    cases hc : L.heap[r]? with
    | none => exact .inl ⟨.stuck "setObj: no such block", L, es, by simp only [Sem.runT, hc], trivial⟩
    | some p =>
      by_cases hn : NotCells p
      · have hk := hw.owns r p hown hc hn
        obtain ⟨_, p', h1, h2, h3⟩ := hw.getObj hr hc hk
        refine alike_comb (ρ₁ := ρ) (c₀ := 0) (L₁ := { L with heap := L.heap.setIfInBounds r o }) (W₁ := { W with heap := W.heap.setIfInBounds r' o' }) (es₁ := es.push ⟨.obj r, true, o.isChan⟩) (l := #[⟨.obj r', true, o'.isChan⟩]) hag ?_ ?_ (.refl _) (by simp only [Array.size_setIfInBounds, grow_self]; exact hw.setObj hr hc hk ho) (own_setObj h1 h2.notCells.2 ho.notCells.2 h3 ho.isChan.2) rfl rfl rfl ih
        · simp only [Sem.runT, hc]
          cases p <;> first | rfl | exact absurd rfl (hn _ _ _)
        · simp only [Sem.runT, h1]
          cases p' <;> first | rfl | exact absurd rfl (h2.notCells.2 _ _ _)
      · have : ∃ c e f, p = .cells c e f := by
          refine Classical.byContradiction fun hx => hn fun c e f he => hx ⟨c, e, f, he⟩
        obtain ⟨c, e, f, rfl⟩ := this
        exact .inl ⟨.stuck "setObj: a row of cells", L, es, by simp only [Sem.runT, hc], trivial⟩
  | @shape ρ r r' s0 k0 k0' hr hk ih =>
    intro k L W es es' hw hag
    have hlt := (hw.lt r r' s0 hr).1
    refine ih (L.shape? r) (W.shape? r') ?_ k L W es es' hw hag
    cases hc : L.heap[r]? with
    | none => rw [Array.getElem?_eq_none_iff] at hc; omega
    | some o =>
      by_cases hn : NotCells o
      · obtain ⟨e0, o', h1, h2⟩ := hw.others r r' s0 o hr hc hn
        refine .inl ⟨?_, ?_, e0⟩
        · simp only [World.shape?, hc]
          cases o <;> first | rfl | exact absurd rfl (hn _ _ _)
        · simp only [World.shape?, h1]
          cases o' <;> first | rfl | exact absurd rfl (h2 _ _ _)
      · have : ∃ c e f, o = .cells c e f := by
          refine Classical.byContradiction fun hx => hn fun c e f he => hx ⟨c, e, f, he⟩
        obtain ⟨c, e, f, rfl⟩ := this
        obtain ⟨x', e', fz', h1, ⟨q0, q1, q2, q3⟩ | ⟨q0, q⟩⟩ := hw.shapes r r' s0 c e f hr hc
        · exact .inr (.inl ⟨(e, c.size), by simp [World.shape?, hc], by simp [World.shape?, h1, q2, q3], q1, q0⟩)
        · exact .inr (.inr ⟨c.size, (e', x'.size), by simp [World.shape?, hc, q], by simp [World.shape?, h1], q0⟩)
  | @frozen ρ a a' k0 k0' hk ih =>
    intro k L W es es' hw hag
    exact ih (L.frozen? a) (W.frozen? a') k L W es es' hw hag
  | @choose ρ q k0 k0' hk ih =>
    intro k L W es es' hw hag
    by_cases hf : q.forced = true
    · refine alike_comb (ρ₁ := ρ) (c₀ := 0) (L₁ := L) (W₁ := W) (l := #[]) hag (by simp only [Sem.runT, hf, if_true]; rfl) (by simp only [Sem.runT, hf, if_true, Array.append_empty]) (.refl _) (by rw [grow_self]; exact hw) (.idle k W) rfl rfl rfl (ih 0)
    · have e2 : (Sem.choose q k0').runT P W es' = (k0' (q.cut (W.tape W.drawn q))).runT P { W with drawn := W.drawn + 1 } es' := by simp only [Sem.runT, hf]; rfl
      have e1 : (Sem.choose q k0).runT P L es = (k0 (q.cut (L.tape L.drawn q))).runT P { L with drawn := L.drawn + 1 } es := by simp only [Sem.runT, hf]; rfl
      have hm := runT_drawn (P := P) (k0' (q.cut (W.tape W.drawn q))) { W with drawn := W.drawn + 1 } es'
      have h0 := hag 0 (by rw [e2]; simp only at hm; omega) q
      simp only [Nat.add_zero] at h0
      rw [h0] at e1
      refine alike_comb (ρ₁ := ρ) (c₀ := 1) (L₁ := { L with drawn := L.drawn + 1 }) (W₁ := { W with drawn := W.drawn + 1 }) (l := #[]) hag e1 (by rw [e2, Array.append_empty]) (.refl _) (by rw [grow_self]; exact hw.heaps rfl rfl) ⟨.at k W _, fun e he => by simp at he⟩ rfl rfl rfl (ih _)
  | @program ρ k0 k0' hk ih =>
    intro k L W es es' hw hag
    exact ih k L W es es' hw hag
  | @mark ρ m hm k0 k0' hk ih =>
    intro k L W es es' hw hag
    refine alike_comb (ρ₁ := ρ) (c₀ := 0) (L₁ := L) (W₁ := W) (r := k0) (r' := k0') (es₁ := es.push ⟨.mark m, false, true⟩) (l := #[⟨.mark m, false, true⟩]) hag rfl (by simp only [Sem.runT]; rfl) (.refl _) (by rw [grow_self]; exact hw) ⟨.refl k W, fun e he => ?_⟩ rfl rfl rfl ih
    simp at he; subst he
    rcases hm with rfl | ⟨f, rfl⟩
    · exact .inl (.inl rfl)
    · exact .inr ⟨f, rfl⟩
end
end Go.Proofs.Yticdjkkcfdbdcaa
