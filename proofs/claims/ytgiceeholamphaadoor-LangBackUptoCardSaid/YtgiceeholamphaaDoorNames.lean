/- Names of a program; the contracts of newNames, Names.expr, Names.block, Of. No conditions but that what is read is there, and that it can be counted. -/
import Derived.Test.YtgiceeholamphaaDoorMap
import Derived.Test.YtgiceeholamphaaDoorSizeL
import Derived.Deep.DeepCutAuto
namespace Go.Proofs.YtgiceeholamphaaDoor
open Go.ChangeShapes Go.WideShapes Go.ChangeAt Go.RowKit Go.Maps

/-! ### Plain -/
mutual
/-- The names that an expression reads, each as often as it does. -/
def ExprR.names : ExprR → List ByteArray | .mk k _ s _ _ l => (if k = 2 then [s] else []) ++ namesE l
def namesE : List ExprR → List ByteArray
  | [] => []
  | e :: l => e.names ++ namesE l
end
mutual
def StatR.assigns : StatR → List ByteArray | .mk k s _ _ _ _ l => (if k = 1 then [s] else []) ++ assignsB l
def assignsB : List BlockR → List ByteArray
  | [] => []
  | b :: l => b.assigns ++ assignsB l
def BlockR.assigns : BlockR → List ByteArray | .mk _ _ l => assignsS l
def assignsS : List StatR → List ByteArray
  | [] => []
  | x :: l => x.assigns ++ assignsS l
end
mutual
def StatR.adds : StatR → List ByteArray | .mk k s _ _ _ _ l => (if k = 2 then [s] else []) ++ addsB l
def addsB : List BlockR → List ByteArray
  | [] => []
  | b :: l => b.adds ++ addsB l
def BlockR.adds : BlockR → List ByteArray | .mk _ _ l => addsS l
def addsS : List StatR → List ByteArray
  | [] => []
  | x :: l => x.adds ++ addsS l
end
mutual
def StatR.reads : StatR → List ByteArray | .mk _ _ e _ _ _ l => e.names ++ readsB l
def readsB : List BlockR → List ByteArray
  | [] => []
  | b :: l => b.reads ++ readsB l
def BlockR.reads : BlockR → List ByteArray | .mk _ _ l => readsS l
def readsS : List StatR → List ByteArray
  | [] => []
  | x :: l => x.reads ++ readsS l
end
theorem ExprR.names_eq (e : ExprR) : e.names = (if e.kind = 2 then [e.name] else []) ++ namesE e.kids := by cases e; rw [ExprR.names]; rfl
theorem StatR.assigns_eq (x : StatR) : x.assigns = (if x.kind = 1 then [x.name] else []) ++ assignsB x.blocks := by cases x; rw [StatR.assigns]; rfl
theorem StatR.adds_eq (x : StatR) : x.adds = (if x.kind = 2 then [x.name] else []) ++ addsB x.blocks := by cases x; rw [StatR.adds]; rfl
theorem StatR.reads_eq (x : StatR) : x.reads = x.e.names ++ readsB x.blocks := by cases x; rw [StatR.reads]; rfl
theorem BlockR.assigns_eq (b : BlockR) : b.assigns = assignsS b.l := by cases b; rw [BlockR.assigns]; rfl
theorem BlockR.adds_eq (b : BlockR) : b.adds = addsS b.l := by cases b; rw [BlockR.adds]; rfl
theorem BlockR.reads_eq (b : BlockR) : b.reads = readsS b.l := by cases b; rw [BlockR.reads]; rfl
theorem namesE_append (a b : List ExprR) : namesE (a ++ b) = namesE a ++ namesE b := by
  induction a with
  | nil => rw [namesE]; rfl
  | cons x a ih => simp only [List.cons_append, namesE, ih, List.append_assoc]
theorem assignsS_append (a b : List StatR) : assignsS (a ++ b) = assignsS a ++ assignsS b := by
  induction a with
  | nil => rw [assignsS]; rfl
  | cons x a ih => simp only [List.cons_append, assignsS, ih, List.append_assoc]
theorem addsS_append (a b : List StatR) : addsS (a ++ b) = addsS a ++ addsS b := by
  induction a with
  | nil => rw [addsS]; rfl
  | cons x a ih => simp only [List.cons_append, addsS, ih, List.append_assoc]
theorem readsS_append (a b : List StatR) : readsS (a ++ b) = readsS a ++ readsS b := by
  induction a with
  | nil => rw [readsS]; rfl
  | cons x a ih => simp only [List.cons_append, readsS, ih, List.append_assoc]
theorem assignsB_append (a b : List BlockR) : assignsB (a ++ b) = assignsB a ++ assignsB b := by
  induction a with
  | nil => rw [assignsB]; rfl
  | cons x a ih => simp only [List.cons_append, assignsB, ih, List.append_assoc]
theorem addsB_append (a b : List BlockR) : addsB (a ++ b) = addsB a ++ addsB b := by
  induction a with
  | nil => rw [addsB]; rfl
  | cons x a ih => simp only [List.cons_append, addsB, ih, List.append_assoc]
theorem readsB_append (a b : List BlockR) : readsB (a ++ b) = readsB a ++ readsB b := by
  induction a with
  | nil => rw [readsB]; rfl
  | cons x a ih => simp only [List.cons_append, readsB, ih, List.append_assoc]
theorem namesE_len : ∀ e : ExprR, e.names.length ≤ e.nodes := by
  refine ExprR.ind fun e ih => ?_
  have hL : ∀ l : List ExprR, (∀ k ∈ l, k.names.length ≤ k.nodes) → (namesE l).length ≤ nodesE l := fun l h => by
    induction l with
    | nil => simp [namesE]
    | cons y l ihl => have := h y (by simp); have := ihl fun z hz => h z (by simp [hz]); simp only [namesE, nodesE, List.length_append]; omega
  have := hL e.kids ih
  rw [e.names_eq, e.nodes_eq, List.length_append]
  split <;> simp <;> omega
theorem names_len : ∀ x : StatR, x.assigns.length + x.adds.length + x.reads.length ≤ x.nodes := by
  refine StatR.ind fun x ih => ?_
  have hS : ∀ l : List StatR, (∀ y ∈ l, y.assigns.length + y.adds.length + y.reads.length ≤ y.nodes) → (assignsS l).length + (addsS l).length + (readsS l).length ≤ nodesS l := fun l h => by
    induction l with
    | nil => simp [assignsS, addsS, readsS]
    | cons y l ihl => have := h y (by simp); have := ihl fun z hz => h z (by simp [hz]); simp only [assignsS, addsS, readsS, nodesS, List.length_append]; omega
  have hB : ∀ l : List BlockR, (∀ b ∈ l, ∀ y ∈ b.l, y.assigns.length + y.adds.length + y.reads.length ≤ y.nodes) → (assignsB l).length + (addsB l).length + (readsB l).length ≤ nodesB l := fun l h => by
    induction l with
    | nil => simp [assignsB, addsB, readsB]
    | cons b l ihl =>
      have h1 := hS b.l (h b (by simp))
      have := ihl fun z hz => h z (by simp [hz])
      simp only [assignsB, addsB, readsB, nodesB, List.length_append, b.assigns_eq, b.adds_eq, b.reads_eq, b.nodes_eq]; omega
  have := hB x.blocks ih
  have := namesE_len x.e
  rw [x.assigns_eq, x.adds_eq, x.reads_eq, x.nodes_eq]
  simp only [List.length_append]
  by_cases h1 : x.kind = 1
  · rw [if_pos h1, if_neg (by omega)]; simp; omega
  · rw [if_neg h1]
    split <;> simp <;> omega
/-- How often. -/
def cnt (l : List ByteArray) (s : ByteArray) : Nat := (l.filter fun t => decide (t = s)).length
def cntF (l : List ByteArray) : ByteArray → Option Int := fun s => if cnt l s = 0 then none else some (cnt l s)
theorem cnt_append (a b : List ByteArray) (s : ByteArray) : cnt (a ++ b) s = cnt a s + cnt b s := by simp [cnt]
theorem cnt_le (l : List ByteArray) (s : ByteArray) : cnt l s ≤ l.length := List.length_filter_le _ _
theorem cnt_one (s t : ByteArray) : cnt [s] t = if s = t then 1 else 0 := by
  unfold cnt
  by_cases h : s = t <;> simp [h]
theorem cntF_getD (l : List ByteArray) (s : ByteArray) : (cntF l s).getD 0 = cnt l s := by
  unfold cntF
  split
  · rename_i h; simp [h]
  · rfl
theorem cntF_push (l : List ByteArray) (s : ByteArray) : upd (cntF l) s ((cnt l s : Int) + 1) = cntF (l ++ [s]) := by
  funext t
  unfold upd cntF
  rw [cnt_append, cnt_one]
  by_cases h : t = s
  · subst h
    simp
  · rw [if_neg h, if_neg (show ¬ s = t from fun e => h e.symm), Nat.add_zero]
theorem cntF_nil : cntF [] = fun _ => none := by funext s; simp [cntF, cnt]
theorem cnt_pos {l : List ByteArray} {s : ByteArray} : 0 < cnt l s ↔ s ∈ l := by
  unfold cnt
  rw [List.length_pos_iff_exists_mem]
  constructor
  · rintro ⟨t, ht⟩
    have := List.mem_filter.1 ht
    rw [← of_decide_eq_true this.2]
    exact this.1
  · intro h
    exact ⟨s, List.mem_filter.2 ⟨h, decide_eq_true rfl⟩⟩
theorem cntF_isSome {l : List ByteArray} {s : ByteArray} : (cntF l s).isSome = true ↔ s ∈ l := by
  rw [← cnt_pos]
  unfold cntF
  split <;> simp <;> omega
/-- Nothing but some blocks is other than it was. -/
structure KeptBut (w w' : World) (bs : List Nat) : Prop where
  os : w'.os = w.os
  tape : w'.tape = w.tape
  output : w'.output = w.output
  size : w.heap.size ≤ w'.heap.size
  block : ∀ i, i < w.heap.size → i ∉ bs → w'.heap[i]? = w.heap[i]?
section
variable {w w' w'' : World} {bs : List Nat}
theorem KeptBut.refl (w : World) (bs : List Nat) : KeptBut w w bs := ⟨rfl, rfl, rfl, Nat.le_refl _, fun _ _ _ => rfl⟩
theorem KeptBut.trans (h : KeptBut w w' bs) (k : KeptBut w' w'' bs) : KeptBut w w'' bs :=
  ⟨k.os.trans h.os, k.tape.trans h.tape, k.output.trans h.output, Nat.le_trans h.size k.size, fun i hi hn => (k.block i (Nat.lt_of_lt_of_le hi h.size) hn).trans (h.block i hi hn)⟩
theorem KeptBut.grown {row : Option Nat} (h : w.grownBy w' row) (hr : ∀ k, row = some k → k ∈ bs) : KeptBut w w' bs :=
  ⟨h.os, h.tape, h.output, h.size, fun i hi hn => h.block i hi (fun e => hn (hr i e.symm))⟩
theorem KeptBut.alloc (w : World) (o : Obj) (bs : List Nat) : KeptBut w (w.alloc o) bs := .grown (World.grownBy_alloc w o none) (fun _ h => by cases h)
theorem KeptBut.cell (h : KeptBut w w' bs) {p : Addr} (hp : p.block < w.heap.size) (hn : p.block ∉ bs) : w'.cell? p = w.cell? p := by simp only [World.cell?, h.block _ hp hn]
theorem KeptBut.below {B : Nat} (h : KeptBut w w' bs) (hB : B ≤ w.heap.size) (hb : ∀ b ∈ bs, B ≤ b) : Below B w w' :=
  ⟨h.os, h.tape, h.output, h.size, fun i hi => h.block i (by omega) (fun hm => by have := hb i hm; omega)⟩
theorem KeptBut.blk {g : Nat} {t : TypeId} {vs : List Value} (h : KeptBut w w' bs) (hk : Blk w g t vs) (hg : g ∉ bs) : Blk w' g t vs := (h.block g hk.lt hg).trans hk
theorem KeptBut.map {e : TypeId} {b N : Nat} {f : ByteArray → Option Int} (h : KeptBut w w' bs) (hk : MapAt w e b N f) (hg : b ∉ bs) : MapAt w' e b N f := hk.block (h.block b hk.lt hg)
end
end Go.Proofs.YtgiceeholamphaaDoor
