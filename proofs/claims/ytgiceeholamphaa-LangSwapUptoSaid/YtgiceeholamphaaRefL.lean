/- The reference's names, steps, variables: plain. No conditions. -/
import Derived.Test.YtgiceeholamphaaPutL
import Derived.Test.YtgiceeholamphaaRun
import Derived.Test.YtgiceeholamphaaVars
namespace Go.Proofs.Ytgiceeholamphaa
open Go.ChangeShapes Go.WideShapes Go.ChangeAt Go.RowKit Go.Maps

/-! ### Names set in, one behind the other -/
def putAll (ns l : List ByteArray) : List ByteArray := ns.foldl (fun l s => putL s l) l
theorem putAll_nil (l : List ByteArray) : putAll [] l = l := rfl
theorem putAll_one (s : ByteArray) (l : List ByteArray) : putAll [s] l = putL s l := rfl
theorem putAll_append (a b l : List ByteArray) : putAll (a ++ b) l = putAll b (putAll a l) := by simp [putAll, List.foldl_append]
theorem putL_len (s : ByteArray) : ∀ l : List ByteArray, (putL s l).length ≤ l.length + 1
  | [] => by simp [putL]
  | a :: l => by
    rw [putL]
    have := putL_len s l
    split
    · simp; omega
    · split <;> simp
theorem putAll_len : ∀ (ns l : List ByteArray), (putAll ns l).length ≤ l.length + ns.length
  | [], l => by simp [putAll]
  | s :: ns, l => by
    have h1 := putAll_len ns (putL s l)
    have h2 := putL_len s l
    show (putAll ns (putL s l)).length ≤ _
    simp only [List.length_cons]
    omega
theorem putAll_mem (s : ByteArray) : ∀ (ns l : List ByteArray), s ∈ putAll ns l ↔ s ∈ ns ∨ s ∈ l
  | [], l => by simp [putAll]
  | t :: ns, l => by
    show s ∈ putAll ns (putL t l) ↔ _
    rw [putAll_mem s ns, putL_mem, List.mem_cons]
    constructor
    · rintro (h | h | h)
      · exact .inl (.inr h)
      · exact .inl (.inl h)
      · exact .inr h
    · rintro ((h | h) | h)
      · exact .inr (.inl h)
      · exact .inl h
      · exact .inr (.inr h)
theorem putAll_sorted : ∀ (ns l : List ByteArray), l.Pairwise ltN → (putAll ns l).Pairwise ltN
  | [], _, h => h
  | t :: ns, l, h => putAll_sorted ns (putL t l) (putL_sorted t l h)
mutual
/-- The names of a statement, in the reference's order. -/
def StatR.alls : StatR → List ByteArray | .mk k s e _ _ _ l => (if k ≤ 2 then [s] else []) ++ (e.names ++ allsB l)
def allsB : List BlockR → List ByteArray
  | [] => []
  | b :: l => b.alls ++ allsB l
def BlockR.alls : BlockR → List ByteArray | .mk _ _ l => allsS l
def allsS : List StatR → List ByteArray
  | [] => []
  | x :: l => x.alls ++ allsS l
end
theorem StatR.alls_eq (x : StatR) : x.alls = (if x.kind ≤ 2 then [x.name] else []) ++ (x.e.names ++ allsB x.blocks) := by cases x; rw [StatR.alls]; rfl
theorem BlockR.alls_eq (b : BlockR) : b.alls = allsS b.l := by cases b; rw [BlockR.alls]; rfl
theorem allsS_append (a b : List StatR) : allsS (a ++ b) = allsS a ++ allsS b := by
  induction a with
  | nil => rw [allsS]; rfl
  | cons x a ih => simp only [List.cons_append, allsS, ih, List.append_assoc]
theorem allsB_append (a b : List BlockR) : allsB (a ++ b) = allsB a ++ allsB b := by
  induction a with
  | nil => rw [allsB]; rfl
  | cons x a ih => simp only [List.cons_append, allsB, ih, List.append_assoc]
theorem alls_len : ∀ x : StatR, x.alls.length ≤ x.nodes := by
  refine StatR.ind fun x ih => ?_
  have hS : ∀ l : List StatR, (∀ y ∈ l, y.alls.length ≤ y.nodes) → (allsS l).length ≤ nodesS l := fun l h => by
    induction l with
    | nil => simp [allsS]
    | cons y l ihl => have := h y (by simp); have := ihl fun z hz => h z (by simp [hz]); simp only [allsS, nodesS, List.length_append]; omega
  have hB : ∀ l : List BlockR, (∀ b ∈ l, ∀ y ∈ b.l, y.alls.length ≤ y.nodes) → (allsB l).length ≤ nodesB l := fun l h => by
    induction l with
    | nil => simp [allsB]
    | cons b l ihl =>
      have h1 := hS b.l (h b (by simp))
      have := ihl fun z hz => h z (by simp [hz])
      simp only [allsB, nodesB, List.length_append, b.alls_eq, b.nodes_eq]; omega
  have := hB x.blocks ih
  have := namesE_len x.e
  rw [x.alls_eq, x.nodes_eq]
  simp only [List.length_append]
  split <;> simp <;> omega
theorem allsS_len (l : List StatR) : (allsS l).length ≤ nodesS l := by
  induction l with
  | nil => simp [allsS]
  | cons y l ihl => have := alls_len y; simp only [allsS, nodesS, List.length_append]; omega
theorem alls_mem (s : ByteArray) : ∀ x : StatR, AllS x → (s ∈ x.alls ↔ s ∈ x.assigns ∨ s ∈ x.adds ∨ s ∈ x.reads) := by
  refine StatR.ind fun x ih hA => ?_
  have hS : ∀ l : List StatR, (∀ y ∈ l, s ∈ y.alls ↔ s ∈ y.assigns ∨ s ∈ y.adds ∨ s ∈ y.reads) → (s ∈ allsS l ↔ s ∈ assignsS l ∨ s ∈ addsS l ∨ s ∈ readsS l) := fun l h => by
    induction l with
    | nil => simp [allsS, assignsS, addsS, readsS]
    | cons y l ihl =>
      have h1 := h y (by simp)
      have h2 := ihl fun z hz => h z (by simp [hz])
      simp only [allsS, assignsS, addsS, readsS, List.mem_append, h1, h2]
      grind
  have hB : ∀ l : List BlockR, (∀ b ∈ l, ∀ y ∈ b.l, s ∈ y.alls ↔ s ∈ y.assigns ∨ s ∈ y.adds ∨ s ∈ y.reads) → (s ∈ allsB l ↔ s ∈ assignsB l ∨ s ∈ addsB l ∨ s ∈ readsB l) := fun l h => by
    induction l with
    | nil => simp [allsB, assignsB, addsB, readsB]
    | cons b l ihl =>
      have h1 := hS b.l (h b (by simp))
      have h2 := ihl fun z hz => h z (by simp [hz])
      simp only [allsB, assignsB, addsB, readsB, List.mem_append, h1, h2, b.alls_eq, b.assigns_eq, b.adds_eq, b.reads_eq]
      grind
  have h := hB x.blocks fun b hb y hy => ih b hb y hy (hA.in_ hb hy)
  have hk : 1 ≤ x.kind := by rcases hA.ok with h | h | h | h <;> omega
  rw [x.alls_eq, x.assigns_eq, x.adds_eq, x.reads_eq]
  simp only [List.mem_append, h]
  by_cases k1 : x.kind = 1
  · rw [if_pos (by omega), if_pos k1, if_neg (by omega)]; simp; grind
  · by_cases k2 : x.kind = 2
    · rw [if_pos (by omega), if_neg k1, if_pos k2]; simp; grind
    · rw [if_neg (by omega), if_neg k1, if_neg k2]; simp; grind
theorem allsS_mem (s : ByteArray) {l : List StatR} (h : AllL l) : s ∈ allsS l ↔ s ∈ allNames l := by
  induction l with
  | nil => simp [allsS, allNames, assignsS, addsS, readsS]
  | cons y l ihl =>
    have h1 := alls_mem s y (h y (by simp))
    have h2 := ihl fun z hz => h z (by simp [hz])
    simp only [allNames, List.mem_append] at h2
    simp only [allsS, allNames, assignsS, addsS, readsS, List.mem_append, h1, h2]
    grind

/-! ### Is there a step? -/
mutual
def StatR.stepped : StatR → Bool | .mk k _ _ n _ _ l => decide (k ≤ 3) || ((decide (k ≠ 4) || decide (0 < n)) && steppedB l)
def steppedB : List BlockR → Bool
  | [] => false
  | b :: l => b.stepped || steppedB l
def BlockR.stepped : BlockR → Bool | .mk _ _ l => steppedS l
def steppedS : List StatR → Bool
  | [] => false
  | x :: l => x.stepped || steppedS l
end
theorem StatR.stepped_eq (x : StatR) : x.stepped = (decide (x.kind ≤ 3) || ((decide (x.kind ≠ 4) || decide (0 < x.n)) && steppedB x.blocks)) := by cases x; rw [StatR.stepped]; rfl
theorem BlockR.stepped_eq (b : BlockR) : b.stepped = steppedS b.l := by cases b; rw [BlockR.stepped]; rfl
theorem steppedS_append (a b : List StatR) : steppedS (a ++ b) = (steppedS a || steppedS b) := by
  induction a with
  | nil => rw [steppedS]; rfl
  | cons x a ih => simp only [List.cons_append, steppedS, ih, Bool.or_assoc]
theorem steppedB_append (a b : List BlockR) : steppedB (a ++ b) = (steppedB a || steppedB b) := by
  induction a with
  | nil => rw [steppedB]; rfl
  | cons x a ih => simp only [List.cons_append, steppedB, ih, Bool.or_assoc]
/-- Without a step nothing is done. -/
theorem still_stat : ∀ (x : StatR) (st : St), x.stepped = false → x.run st = some st := by
  refine StatR.ind fun x ih st h => ?_
  have hS : ∀ l : List StatR, (∀ y ∈ l, ∀ st, y.stepped = false → y.run st = some st) → steppedS l = false → ∀ st, runS l st = some st := fun l h => by
    induction l with
    | nil => intro _ st; rw [runS_nil]
    | cons y l ihl =>
      intro hs st
      simp only [steppedS, Bool.or_eq_false_iff] at hs
      rw [runS_cons, h y (by simp) st hs.1]
      exact ihl (fun z hz => h z (by simp [hz])) hs.2 st
  have hB : ∀ l : List BlockR, (∀ b ∈ l, ∀ y ∈ b.l, ∀ st, y.stepped = false → y.run st = some st) → steppedB l = false → ∀ st, runB l st = some st := fun l h => by
    induction l with
    | nil => intro _ st; rw [runB_nil]
    | cons b l ihl =>
      intro hs st
      simp only [steppedB, Bool.or_eq_false_iff, b.stepped_eq] at hs
      rw [runB_cons, hS b.l (h b (by simp)) hs.1 st]
      exact ihl (fun z hz => h z (by simp [hz])) hs.2 st
  rw [x.stepped_eq] at h
  simp only [Bool.or_eq_false_iff, Bool.and_eq_false_iff, decide_eq_false_iff_not] at h
  rw [x.run_eq, if_neg h.1]
  split
  · rename_i k4
    rcases h.2 with h2 | h2
    · rw [show x.n.toNat = 0 by have := h2.2; omega]; rfl
    · cases hb : x.blocks with
      | nil => rw [headRun]; exact iter_same rfl _
      | cons b l =>
        rw [headRun_cons]
        rw [hb] at h2
        simp only [steppedB, Bool.or_eq_false_iff, b.stepped_eq] at h2
        exact iter_same (hS b.l (fun y hy st => ih b (by rw [hb]; simp) y hy st) h2.1 st) _
  · rename_i k4
    rcases h.2 with h2 | h2
    · exact absurd k4 (by have := h2.1; omega)
    · exact hB x.blocks (fun b hb y hy st => ih b hb y hy st) h2 st
theorem still_list : ∀ (l : List StatR) (st : St), steppedS l = false → runS l st = some st
  | [], st, _ => by rw [runS_nil]
  | x :: l, st, h => by
    simp only [steppedS, Bool.or_eq_false_iff] at h
    rw [runS_cons, still_stat x st h.1]
    exact still_list l st h.2

/-! ### Variables in a row -/
def vOf (f : ByteArray → Option Int) (s : ByteArray) : VarR := ⟨s, (f s).getD 0⟩
def varsF (N : List ByteArray) (f : ByteArray → Option Int) : List VarR := N.map (vOf f)
theorem varsF_length (N : List ByteArray) (f : ByteArray → Option Int) : (varsF N f).length = N.length := by simp [varsF]
/-- N: the names of f. -/
def Has (N : List ByteArray) (f : ByteArray → Option Int) : Prop := ∀ s, s ∈ N ↔ (f s).isSome = true
theorem Has.dom {N : List ByteArray} {f g : ByteArray → Option Int} (h : Has N f) (k : ∀ s, (g s).isSome = (f s).isSome) : Has N g := fun s => by rw [k]; exact h s
theorem Has.put {N : List ByteArray} {f : ByteArray → Option Int} (h : Has N f) {s : ByteArray} (hs : (f s).isSome = true) (v : Int) : Has N (upd f s v) := h.dom (upd_dom v hs)
theorem isVars_varsF {N : List ByteArray} {f : ByteArray → Option Int} (hs : N.Pairwise ltN) (h : Has N f) : IsVars f (varsF N f) := by
  refine ⟨List.pairwise_map.2 (hs.imp fun {a b} h => h), fun v => ?_⟩
  unfold varsF
  rw [List.mem_map]
  constructor
  · rintro ⟨s, hs, rfl⟩
    obtain ⟨c, hc⟩ := Option.isSome_iff_exists.1 ((h s).1 hs)
    show f s = some ((f s).getD 0)
    rw [hc]; rfl
  · intro hv
    refine ⟨v.name, (h _).2 (by rw [hv]; rfl), ?_⟩
    obtain ⟨s, c⟩ := v
    simp only [vOf] at hv ⊢
    rw [hv]; rfl
/-- In the midst of a walk that writes f over g. -/
def mixF (N : List ByteArray) (f g : ByteArray → Option Int) (q : Nat) : List VarR := (N.take q).map (vOf f) ++ (N.drop q).map (vOf g)
theorem mixF_zero (N : List ByteArray) (f g : ByteArray → Option Int) : mixF N f g 0 = varsF N g := by simp [mixF, varsF]
theorem mixF_end (N : List ByteArray) (f g : ByteArray → Option Int) : mixF N f g N.length = varsF N f := by simp [mixF, varsF]
theorem mixF_length (N : List ByteArray) (f g : ByteArray → Option Int) (q : Nat) : (mixF N f g q).length = N.length := by simp [mixF]; omega
theorem mixF_at (N : List ByteArray) (f g : ByteArray → Option Int) {q : Nat} (h : q < N.length) : (mixF N f g q)[q]? = some (vOf g N[q]) := by
  unfold mixF
  rw [List.getElem?_append_right (by simp; omega)]
  simp [Nat.min_eq_left (Nat.le_of_lt h), h]
theorem mixF_get (N : List ByteArray) (f g : ByteArray → Option Int) (q i : Nat) : (mixF N f g q)[i]? = (N[i]?).map fun s => if i < q then vOf f s else vOf g s := by
  unfold mixF
  by_cases h : i < q
  · by_cases hN : i < N.length
    · rw [List.getElem?_append_left (by simp; omega)]
      simp [h, hN]
    · rw [List.getElem?_append_right (by simp; omega)]
      rw [List.getElem?_eq_none (by simp; omega), List.getElem?_eq_none (by omega)]; rfl
  · by_cases hN : i < N.length
    · rw [List.getElem?_append_right (by simp; omega)]
      have e : q + (i - min q N.length) = i := by omega
      simp [h, hN, e]
    · rw [List.getElem?_append_right (by simp; omega)]
      rw [List.getElem?_eq_none (by simp; omega), List.getElem?_eq_none (by omega)]; rfl
theorem mixF_step (N : List ByteArray) (f g : ByteArray → Option Int) {q : Nat} (h : q < N.length) : (mixF N f g q).set q (vOf f N[q]) = mixF N f g (q + 1) := by
  apply List.ext_getElem?
  intro i
  rw [List.getElem?_set, mixF_get, mixF_get, mixF_length]
  split
  · rename_i e
    subst e
    simp [h]
  · rename_i e
    have : i < q ↔ i < q + 1 := by omega
    simp [this]
theorem mixF_same (N : List ByteArray) (f g : ByteArray → Option Int) {q : Nat} (h : q < N.length) (he : (f N[q]).getD 0 = (g N[q]).getD 0) : mixF N f g (q + 1) = mixF N f g q := by
  rw [← mixF_step N f g h]
  apply List.ext_getElem?
  intro i
  rw [List.getElem?_set]
  split
  · rename_i e
    subst e
    rw [mixF_at N f g h, if_pos (by rw [mixF_length]; exact h)]
    simp [vOf, he]
  · rfl

/-! ### A start's numbers -/
def lastOf (V : List VarR) (s : ByteArray) : Int := open Classical in V.foldl (fun n v => if v.name = s then v.n else n) 0
theorem lastOf_snoc (V : List VarR) (v : VarR) (s : ByteArray) : lastOf (V ++ [v]) s = open Classical in if v.name = s then v.n else lastOf V s := by simp [lastOf, List.foldl_append]
theorem lastOf_start (V : List VarR) (s : ByteArray) : lastOf V s = (startF V s).getD 0 := by
  have key : ∀ (W : List VarR) (f : ByteArray → Option Int) (n : Int), n = (f s).getD 0 → (open Classical in W.foldl (fun n v => if v.name = s then v.n else n) n) = ((W.foldl (fun f v => upd f v.name v.n) f) s).getD 0 := by
    intro W
    induction W with
    | nil => intro f n h; exact h
    | cons v W ih =>
      intro f n h
      rw [List.foldl_cons, List.foldl_cons]
      refine ih _ _ ?_
      by_cases e : v.name = s
      · rw [if_pos e, e, upd_same]; rfl
      · rw [if_neg e, upd_other _ _ (fun h => e h.symm)]; exact h
  exact key V (fun _ => none) 0 rfl
theorem beginF_getD (l : List StatR) (V : List VarR) (s : ByteArray) : (beginF l V s).getD 0 = lastOf V s := by
  rw [lastOf_start]
  unfold beginF fillF
  split
  · rfl
  · rename_i h
    rw [show startF V s = none by simpa using h]
    split <;> rfl
theorem beginF_isSome (l : List StatR) (V : List VarR) (s : ByteArray) : (beginF l V s).isSome = true ↔ s ∈ V.map VarR.name ∨ s ∈ allNames l := by
  have h := startF_isSome V s
  unfold beginF fillF
  rw [List.mem_map]
  split
  · rename_i hs
    exact ⟨fun _ => .inl (h.1 hs), fun _ => hs⟩
  · rename_i hs
    split
    · rename_i hm
      exact ⟨fun _ => .inr hm, fun _ => rfl⟩
    · rename_i hm
      constructor
      · intro e; cases e
      · rintro (e | e)
        · exact absurd (h.2 e) hs
        · exact absurd e hm
/-- The reference's names of a program and a start. -/
def begN (l : List StatR) (V : List VarR) : List ByteArray := putAll (V.map VarR.name) (putAll (allsS l) [])
theorem begN_sorted (l : List StatR) (V : List VarR) : (begN l V).Pairwise ltN := putAll_sorted _ _ (putAll_sorted _ _ List.Pairwise.nil)
theorem begN_has {l : List StatR} (h : AllL l) (V : List VarR) : Has (begN l V) (beginF l V) := fun s => by
  unfold begN
  rw [putAll_mem, putAll_mem, allsS_mem s h, beginF_isSome]
  simp
theorem begN_len (l : List StatR) (V : List VarR) : (begN l V).length ≤ nodesS l + V.length := by
  have h1 := putAll_len (V.map VarR.name) (putAll (allsS l) [])
  have h2 := putAll_len (allsS l) []
  have h3 := allsS_len l
  unfold begN
  simp only [List.length_map, List.length_nil] at h1 h2
  omega
end Go.Proofs.Ytgiceeholamphaa
