/- The reference's names: plain. No conditions. -/
import Derived.Test.YtgiceeholamphaaDoorPutL
import Derived.Test.YtgiceeholamphaaDoorNamesW
namespace Go.Proofs.YtgiceeholamphaaDoor
open Go.ChangeShapes Go.WideShapes Go.ChangeAt Go.RowKit Go.Maps

/-! ### Names set in, one behind the other -/
def putAll (ns l : List ByteArray) : List ByteArray := ns.foldl (fun l s => putL s l) l
theorem putAll_nil (l : List ByteArray) : putAll [] l = l := rfl
theorem putAll_one (s : ByteArray) (l : List ByteArray) : putAll [s] l = putL s l := rfl
theorem putAll_append (a b l : List ByteArray) : putAll (a ++ b) l = putAll b (putAll a l) := by simp [putAll, List.foldl_append]
theorem putL_len (s : ByteArray) : ∀ l : List ByteArray, (putL s l).length ≤ l.length + 1
  | [] => by simp [putL]
  | a :: l => by
    rw [putL]
    have := putL_len s l
    split
    · simp; omega
    · split <;> simp
theorem putAll_len : ∀ (ns l : List ByteArray), (putAll ns l).length ≤ l.length + ns.length
  | [], l => by simp [putAll]
  | s :: ns, l => by
    have h1 := putAll_len ns (putL s l)
    have h2 := putL_len s l
    show (putAll ns (putL s l)).length ≤ _
    simp only [List.length_cons]
    omega
theorem putAll_mem (s : ByteArray) : ∀ (ns l : List ByteArray), s ∈ putAll ns l ↔ s ∈ ns ∨ s ∈ l
  | [], l => by simp [putAll]
  | t :: ns, l => by
    show s ∈ putAll ns (putL t l) ↔ _
    rw [putAll_mem s ns, putL_mem, List.mem_cons]
    constructor
    · rintro (h | h | h)
      · exact .inl (.inr h)
      · exact .inl (.inl h)
      · exact .inr h
    · rintro ((h | h) | h)
      · exact .inr (.inl h)
      · exact .inl h
      · exact .inr (.inr h)
theorem putAll_sorted : ∀ (ns l : List ByteArray), l.Pairwise ltN → (putAll ns l).Pairwise ltN
  | [], _, h => h
  | t :: ns, l, h => putAll_sorted ns (putL t l) (putL_sorted t l h)
mutual
/-- The names of a statement, in the reference's order. -/
def StatR.alls : StatR → List ByteArray | .mk k s e _ _ _ l => (if k ≤ 2 then [s] else []) ++ (e.names ++ allsB l)
def allsB : List BlockR → List ByteArray
  | [] => []
  | b :: l => b.alls ++ allsB l
def BlockR.alls : BlockR → List ByteArray | .mk _ _ l => allsS l
def allsS : List StatR → List ByteArray
  | [] => []
  | x :: l => x.alls ++ allsS l
end
theorem StatR.alls_eq (x : StatR) : x.alls = (if x.kind ≤ 2 then [x.name] else []) ++ (x.e.names ++ allsB x.blocks) := by cases x; rw [StatR.alls]; rfl
theorem BlockR.alls_eq (b : BlockR) : b.alls = allsS b.l := by cases b; rw [BlockR.alls]; rfl
theorem allsS_append (a b : List StatR) : allsS (a ++ b) = allsS a ++ allsS b := by
  induction a with
  | nil => rw [allsS]; rfl
  | cons x a ih => simp only [List.cons_append, allsS, ih, List.append_assoc]
theorem allsB_append (a b : List BlockR) : allsB (a ++ b) = allsB a ++ allsB b := by
  induction a with
  | nil => rw [allsB]; rfl
  | cons x a ih => simp only [List.cons_append, allsB, ih, List.append_assoc]
theorem alls_len : ∀ x : StatR, x.alls.length ≤ x.nodes := by
  refine StatR.ind fun x ih => ?_
  have hS : ∀ l : List StatR, (∀ y ∈ l, y.alls.length ≤ y.nodes) → (allsS l).length ≤ nodesS l := fun l h => by
    induction l with
    | nil => simp [allsS]
    | cons y l ihl => have := h y (by simp); have := ihl fun z hz => h z (by simp [hz]); simp only [allsS, nodesS, List.length_append]; omega
  have hB : ∀ l : List BlockR, (∀ b ∈ l, ∀ y ∈ b.l, y.alls.length ≤ y.nodes) → (allsB l).length ≤ nodesB l := fun l h => by
    induction l with
    | nil => simp [allsB]
    | cons b l ihl =>
      have h1 := hS b.l (h b (by simp))
      have := ihl fun z hz => h z (by simp [hz])
      simp only [allsB, nodesB, List.length_append, b.alls_eq, b.nodes_eq]; omega
  have := hB x.blocks ih
  have := namesE_len x.e
  rw [x.alls_eq, x.nodes_eq]
  simp only [List.length_append]
  split <;> simp <;> omega
theorem allsS_len (l : List StatR) : (allsS l).length ≤ nodesS l := by
  induction l with
  | nil => simp [allsS]
  | cons y l ihl => have := alls_len y; simp only [allsS, nodesS, List.length_append]; omega
theorem alls_mem (s : ByteArray) : ∀ x : StatR, AllS x → (s ∈ x.alls ↔ s ∈ x.assigns ∨ s ∈ x.adds ∨ s ∈ x.reads) := by
  refine StatR.ind fun x ih hA => ?_
  have hS : ∀ l : List StatR, (∀ y ∈ l, s ∈ y.alls ↔ s ∈ y.assigns ∨ s ∈ y.adds ∨ s ∈ y.reads) → (s ∈ allsS l ↔ s ∈ assignsS l ∨ s ∈ addsS l ∨ s ∈ readsS l) := fun l h => by
    induction l with
    | nil => simp [allsS, assignsS, addsS, readsS]
    | cons y l ihl =>
      have h1 := h y (by simp)
      have h2 := ihl fun z hz => h z (by simp [hz])
      simp only [allsS, assignsS, addsS, readsS, List.mem_append, h1, h2]
      grind
  have hB : ∀ l : List BlockR, (∀ b ∈ l, ∀ y ∈ b.l, s ∈ y.alls ↔ s ∈ y.assigns ∨ s ∈ y.adds ∨ s ∈ y.reads) → (s ∈ allsB l ↔ s ∈ assignsB l ∨ s ∈ addsB l ∨ s ∈ readsB l) := fun l h => by
    induction l with
    | nil => simp [allsB, assignsB, addsB, readsB]
    | cons b l ihl =>
      have h1 := hS b.l (h b (by simp))
      have h2 := ihl fun z hz => h z (by simp [hz])
      simp only [allsB, assignsB, addsB, readsB, List.mem_append, h1, h2, b.alls_eq, b.assigns_eq, b.adds_eq, b.reads_eq]
      grind
  have h := hB x.blocks fun b hb y hy => ih b hb y hy (hA.in_ hb hy)
  have hk : 1 ≤ x.kind := by rcases hA.ok with h | h | h | h <;> omega
  rw [x.alls_eq, x.assigns_eq, x.adds_eq, x.reads_eq]
  simp only [List.mem_append, h]
  by_cases k1 : x.kind = 1
  · rw [if_pos (by omega), if_pos k1, if_neg (by omega)]; simp; grind
  · by_cases k2 : x.kind = 2
    · rw [if_pos (by omega), if_neg k1, if_pos k2]; simp; grind
    · rw [if_neg (by omega), if_neg k1, if_neg k2]; simp; grind
end Go.Proofs.YtgiceeholamphaaDoor
