/- The contract of lang.Begin: the variables of a start and of a program, as a map. No conditions but that what is read is there, is a program, and can be counted. -/
import Derived.Test.YtgiceeholamphaaNamesW
import Derived.Test.YtgiceeholamphaaMapR
namespace Go.Proofs.Ytgiceeholamphaa
open Go.ChangeShapes Go.WideShapes Go.ChangeAt Go.RowKit Go.Maps

/-! ### Plain -/
/-- A variable with its number, as it is read. -/
structure VarR where
  name : ByteArray
  n : Int
def VarR.cells (v : VarR) : List Value := [.string v.name, .int .i64 v.n]
def RowV (w : World) (B : Nat) (A : Option Addr) (l : List VarR) : Prop := l ≠ [] → ∃ b o, A = some ⟨b, o, none⟩ ∧ b < B ∧ ∀ (i : Nat) (h : i < l.length), w.cell? ⟨b, o + i * 2, none⟩ = some (.string l[i].name) ∧ w.cell? ⟨b, o + i * 2 + 1, none⟩ = some (.int .i64 l[i].n)
structure RdV (w : World) (B : Nat) (A : Option Addr) (l : List VarR) : Prop where
  row : RowV w B A l
  small : ∀ v ∈ l, v.name.size ≤ 1048576 ∧ (Lit.int .i64 v.n).wf = true
  fits : Fits l.length
theorem RowV.keep {w w' : World} {B : Nat} {A : Option Addr} {l : List VarR} (h : RowV w B A l) (hk : ∀ p : Addr, p.block < B → w'.cell? p = w.cell? p) : RowV w' B A l := fun hn => by
  obtain ⟨b, o, e, hb, hc⟩ := h hn
  exact ⟨b, o, e, hb, fun i hi => ⟨(hk _ hb).trans (hc i hi).1, (hk _ hb).trans (hc i hi).2⟩⟩
theorem RdV.keep {w w' : World} {B : Nat} {A : Option Addr} {l : List VarR} (h : RdV w B A l) (hk : ∀ p : Addr, p.block < B → w'.cell? p = w.cell? p) : RdV w' B A l := ⟨h.row.keep hk, h.small, h.fits⟩
theorem RowV.at_ {w : World} {B : Nat} {A : Option Addr} {l : List VarR} (h : RowV w B A l) {i : Nat} (hi : i < l.length) : ∃ b o, A = some ⟨b, o, none⟩ ∧ b < B ∧ w.cell? ⟨b, o + i * 2, none⟩ = some (.string l[i].name) ∧ w.cell? ⟨b, o + i * 2 + 1, none⟩ = some (.int .i64 l[i].n) := by
  obtain ⟨b, o, e, hb, hc⟩ := h (fun e => by rw [e] at hi; simp at hi)
  exact ⟨b, o, e, hb, (hc i hi).1, (hc i hi).2⟩
/-- A start, as a map: of two of one name the last. -/
def startF (l : List VarR) : ByteArray → Option Int := l.foldl (fun f v => upd f v.name v.n) fun _ => none
theorem startF_snoc (l : List VarR) (v : VarR) : startF (l ++ [v]) = upd (startF l) v.name v.n := by simp [startF, List.foldl_append]
theorem fold_isSome (l : List VarR) : ∀ (f : ByteArray → Option Int) (s : ByteArray), (l.foldl (fun f v => upd f v.name v.n) f s).isSome = true ↔ (∃ v ∈ l, v.name = s) ∨ (f s).isSome = true := by
  induction l with
  | nil => intro f s; simp
  | cons v l ih =>
    intro f s
    rw [List.foldl_cons, ih]
    by_cases h : s = v.name
    · subst h
      simp [upd_same]
    · rw [upd_other _ _ h]
      constructor
      · rintro (⟨u, hu, e⟩ | h')
        · exact .inl ⟨u, List.mem_cons_of_mem _ hu, e⟩
        · exact .inr h'
      · rintro (⟨u, hu, e⟩ | h')
        · rcases List.mem_cons.1 hu with rfl | hu
          · exact absurd e.symm h
          · exact .inl ⟨u, hu, e⟩
        · exact .inr h'
theorem startF_isSome (l : List VarR) (s : ByteArray) : (startF l s).isSome = true ↔ ∃ v ∈ l, v.name = s := by
  unfold startF
  rw [fold_isSome]
  simp
def goodV (l : List VarR) : Prop := (∀ v ∈ l, named v.name) ∧ (l.map VarR.name).Nodup
theorem goodV_snoc {l : List VarR} {v : VarR} : goodV (l ++ [v]) ↔ goodV l ∧ startF l v.name = none ∧ named v.name := by
  have hs : startF l v.name = none ↔ ∀ u ∈ l, u.name ≠ v.name := by
    have h := startF_isSome l v.name
    cases hf : startF l v.name with
    | none => rw [hf] at h; simp at h; exact ⟨fun _ => h, fun _ => rfl⟩
    | some c =>
      rw [hf] at h
      obtain ⟨u, hu, e⟩ := h.1 rfl
      exact ⟨(fun h => by cases h), fun h => absurd e (h u hu)⟩
  rw [hs]
  unfold goodV
  rw [List.map_append, List.nodup_append]
  constructor
  · rintro ⟨h1, h2, _, h3⟩
    exact ⟨⟨fun u hu => h1 u (List.mem_append_left _ hu), h2⟩, fun u hu e => h3 u.name (List.mem_map_of_mem hu) v.name (by simp) e, h1 v (by simp)⟩
  · rintro ⟨⟨h1, h2⟩, h3, h4⟩
    refine ⟨fun u hu => ?_, h2, by simp, fun a ha b hb e => ?_⟩
    · rcases List.mem_append.1 hu with hu | hu
      · exact h1 u hu
      · rw [List.mem_singleton.1 hu]; exact h4
    · obtain ⟨u, hu, rfl⟩ := List.mem_map.1 ha
      simp at hb
      subst hb
      exact h3 u hu e
theorem goodV_take {l : List VarR} {q : Nat} (h : goodV l) : goodV (l.take q) := by
  refine ⟨fun v hv => h.1 v (List.mem_of_mem_take hv), ?_⟩
  rw [List.map_take]
  exact List.Nodup.sublist (List.take_sublist _ _) h.2
/-- What is not there yet is 0. -/
noncomputable def fillF (f : ByteArray → Option Int) (l : List ByteArray) : ByteArray → Option Int := open Classical in fun s => if (f s).isSome = true then f s else if s ∈ l then some 0 else none
theorem fillF_nil (f : ByteArray → Option Int) : fillF f [] = f := by
  funext s
  unfold fillF
  cases h : f s <;> simp
theorem fillF_append (f : ByteArray → Option Int) (a b : List ByteArray) : fillF (fillF f a) b = fillF f (a ++ b) := by
  funext s
  unfold fillF
  by_cases h1 : (f s).isSome = true
  · simp [h1]
  · by_cases h2 : s ∈ a <;> by_cases h3 : s ∈ b <;> simp [h1, h2, h3]
/-- In the midst of it. -/
noncomputable def fillT (f : ByteArray → Option Int) (l : List ByteArray) (todo : ByteArray → Bool) : ByteArray → Option Int := open Classical in fun s => if (f s).isSome = true then f s else if s ∈ l ∧ todo s = false then some 0 else none
theorem fillT_start (f : ByteArray → Option Int) (l : List ByteArray) : fillT f l (fun s => (cntF l s).isSome) = f := by
  funext s
  unfold fillT
  cases h : f s with
  | some c => simp
  | none =>
    simp only [Option.isSome_none, Bool.false_eq_true, if_false]
    rw [if_neg]
    rintro ⟨h1, h2⟩
    rw [cntF_isSome.2 h1] at h2
    cases h2
theorem fillT_end (f : ByteArray → Option Int) (l : List ByteArray) {todo : ByteArray → Bool} (h : ∀ s, todo s = false) : fillT f l todo = fillF f l := by
  funext s
  unfold fillT fillF
  by_cases h1 : (f s).isSome = true
  · rw [if_pos h1, if_pos h1]
  · rw [if_neg h1, if_neg h1]
    by_cases h2 : s ∈ l
    · rw [if_pos h2, if_pos ⟨h2, h s⟩]
    · rw [if_neg h2, if_neg (fun e => h2 e.1)]
theorem fillT_step (f : ByteArray → Option Int) (l : List ByteArray) (todo : ByteArray → Bool) {s : ByteArray} (hs : s ∈ l) :
    fillT f l (fun t => todo t && !decide (t = s)) = if (fillT f l todo s).isSome = true then fillT f l todo else upd (fillT f l todo) s 0 := by
  have key : ∀ t, t ≠ s → fillT f l (fun t => todo t && !decide (t = s)) t = fillT f l todo t := fun t ht => by
    have e : (todo t && !decide (t = s)) = todo t := by simp [ht]
    unfold fillT
    by_cases h1 : (f t).isSome = true
    · rw [if_pos h1, if_pos h1]
    · rw [if_neg h1, if_neg h1]
      by_cases h2 : t ∈ l ∧ todo t = false
      · rw [if_pos h2, if_pos ⟨h2.1, e.trans h2.2⟩]
      · rw [if_neg h2, if_neg (fun h => h2 ⟨h.1, e.symm.trans h.2⟩)]
  have k2 : fillT f l (fun t => todo t && !decide (t = s)) s = if (f s).isSome = true then f s else some 0 := by
    unfold fillT
    split
    · rfl
    · rw [if_pos]
      exact ⟨hs, by simp⟩
  funext t
  by_cases ht : t = s
  · subst ht
    rw [k2]
    by_cases hf : (f t).isSome = true
    · rw [if_pos hf]
      have e : fillT f l todo t = f t := if_pos hf
      rw [e, if_pos hf]
      exact e.symm
    · rw [if_neg hf]
      by_cases hd : todo t = false
      · have e : fillT f l todo t = some 0 := by
          unfold fillT
          rw [if_neg hf, if_pos ⟨hs, hd⟩]
        rw [e]
        simp [e]
      · have e : fillT f l todo t = none := by
          unfold fillT
          rw [if_neg hf, if_neg (fun h => hd h.2)]
        rw [e]
        simp [upd]
  · rw [key t ht]
    split
    · rfl
    · rw [upd_other _ _ ht]
/-- All names of a program. -/
def allNames (l : List StatR) : List ByteArray := assignsS l ++ addsS l ++ readsS l
noncomputable def beginF (l : List StatR) (start : List VarR) : ByteArray → Option Int := fillF (startF start) (allNames l)
end Go.Proofs.Ytgiceeholamphaa
