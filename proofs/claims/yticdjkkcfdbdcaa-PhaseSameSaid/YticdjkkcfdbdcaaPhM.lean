/- Phases of all processes, in plain Lean. No program; no conditions. -/
import Derived.Test.YticdjkkcfdbdcaaPhD
namespace Go.Proofs.Yticdjkkcfdbdcaa
open Go.ChangeShapes Go.WideShapes Go.ChangeAt Go.RowKit
/-- One process in a phase. -/
def ranP (p : ProcR) : ProcR := runP p.num p.come [] p.todo
/-- What comes to process j of letters. -/
def mailTo (j : Nat) (l : List (Int × Int)) : List Int := (l.filter fun x => x.1 == (j : Int)).map (·.2)
/-- All processes in a phase. -/
def phaseAll (ps : List ProcR) : List ProcR :=
  let rs := ps.map ranP
  let ls := rs.flatMap (·.sends)
  rs.mapIdx fun j r => ⟨r.todo, r.num, r.come ++ mailTo j ls, []⟩
/-- Phases until nobody has anything to do. -/
inductive Phs : List ProcR → Nat → List ProcR → Prop
  | done {ps : List ProcR} (h : ∀ p ∈ ps, p.todo = []) : Phs ps 0 ps
  | step {ps ps' : List ProcR} {k : Nat} (h : ∃ p ∈ ps, p.todo ≠ []) (h1 : Phs (phaseAll ps) k ps') : Phs ps (k + 1) ps'
theorem Phs.det {ps a b : List ProcR} {k m : Nat} (h : Phs ps k a) (h' : Phs ps m b) : k = m ∧ a = b := by
  induction h generalizing m b with
  | done h =>
    cases h' with
    | done _ => exact ⟨rfl, rfl⟩
    | step h1 _ => obtain ⟨p, hp, hn⟩ := h1; exact absurd (h p hp) hn
  | step h _ ih =>
    cases h' with
    | done h1 => obtain ⟨p, hp, hn⟩ := h; exact absurd (h1 p hp) hn
    | step _ h2 => obtain ⟨e1, e2⟩ := ih h2; exact ⟨by omega, e2⟩
theorem runP_todo : ∀ (l : List DoR) (n : Int) (c : List Int) (s : List (Int × Int)), ∃ d, (runP n c s l).todo = l.drop d ∧ (l ≠ [] → 0 < d)
  | [], n, c, s => ⟨0, rfl, fun h => absurd rfl h⟩
  | d :: t, n, c, s => by
    have go : ∀ n c s, ∃ e, (runP n c s t).todo = (d :: t).drop e ∧ (d :: t ≠ [] → 0 < e) := fun n c s => by
      obtain ⟨e, h1, _⟩ := runP_todo t n c s
      exact ⟨e + 1, by simpa using h1, fun _ => Nat.succ_pos _⟩
    unfold runP
    split
    · exact go _ _ _
    · split
      · exact go _ _ _
      · split
        · exact go _ _ _
        · exact ⟨1, rfl, fun _ => Nat.one_pos⟩
theorem phaseAll_length (ps : List ProcR) : (phaseAll ps).length = ps.length := by simp [phaseAll]
theorem phaseAll_at (ps : List ProcR) {j : Nat} (h : j < ps.length) : (phaseAll ps)[j]? = some ⟨(ranP ps[j]).todo, (ranP ps[j]).num, (ranP ps[j]).come ++ mailTo j ((ps.map ranP).flatMap (·.sends)), []⟩ := by
  simp [phaseAll, List.getElem?_mapIdx, h]
def todoSum (ps : List ProcR) : Nat := (ps.map fun p => p.todo.length).sum
theorem sum_map_le {α : Type} (f g : α → Nat) : ∀ (l : List α), (∀ x ∈ l, f x ≤ g x) → (l.map f).sum ≤ (l.map g).sum
  | [], _ => Nat.le_refl _
  | x :: l, h => by
    have := sum_map_le f g l fun y hy => h y (List.mem_cons_of_mem _ hy)
    have := h x (List.mem_cons_self ..)
    simp only [List.map_cons, List.sum_cons]; omega
theorem sum_map_lt {α : Type} (f g : α → Nat) : ∀ (l : List α), (∀ x ∈ l, f x ≤ g x) → (∃ x ∈ l, f x < g x) → (l.map f).sum < (l.map g).sum
  | [], _, h => by obtain ⟨x, hx, _⟩ := h; cases hx
  | x :: l, h, h2 => by
    have h1 := h x (List.mem_cons_self ..)
    simp only [List.map_cons, List.sum_cons]
    obtain ⟨y, hy, hlt⟩ := h2
    rcases List.mem_cons.1 hy with rfl | hy
    · have := sum_map_le f g l fun y hy => h y (List.mem_cons_of_mem _ hy); omega
    · have := sum_map_lt f g l (fun y hy => h y (List.mem_cons_of_mem _ hy)) ⟨y, hy, hlt⟩; omega
theorem todoSum_eq (ps : List ProcR) : todoSum (phaseAll ps) = (ps.map fun p => (ranP p).todo.length).sum := by
  unfold todoSum phaseAll
  congr 1
  apply List.ext_getElem?
  intro i
  simp only [List.getElem?_map, List.getElem?_mapIdx, Option.map_map]
  rfl
theorem ranP_le (p : ProcR) : (ranP p).todo.length ≤ p.todo.length ∧ (p.todo ≠ [] → (ranP p).todo.length < p.todo.length) := by
  obtain ⟨d, h1, h2⟩ := runP_todo p.todo p.num p.come []
  unfold ranP
  rw [h1, List.length_drop]
  refine ⟨by omega, fun h => ?_⟩
  have := h2 h
  have := List.length_pos_iff.2 h
  omega
theorem todoSum_lt {ps : List ProcR} (h : ∃ p ∈ ps, p.todo ≠ []) : todoSum (phaseAll ps) < todoSum ps := by
  rw [todoSum_eq]
  obtain ⟨p, hp, hn⟩ := h
  exact sum_map_lt _ _ ps (fun x _ => (ranP_le x).1) ⟨p, hp, (ranP_le p).2 hn⟩
theorem Phs.count {ps ps' : List ProcR} {k : Nat} (h : Phs ps k ps') : k ≤ todoSum ps := by
  induction h with
  | done _ => exact Nat.zero_le _
  | step h _ ih => have := todoSum_lt h; omega
theorem Phs.ex : ∀ (n : Nat) (ps : List ProcR), todoSum ps ≤ n → ∃ k ps', Phs ps k ps'
  | n, ps, hn => by
    by_cases h : ∃ p ∈ ps, p.todo ≠ []
    · have := todoSum_lt h
      match n, hn with
      | 0, hn => omega
      | n + 1, hn =>
        obtain ⟨k, ps', h1⟩ := Phs.ex n (phaseAll ps) (by omega)
        exact ⟨k + 1, ps', .step h h1⟩
    · exact ⟨0, ps, .done fun p hp => Classical.byContradiction fun hx => h ⟨p, hp, hx⟩⟩
/-- Nobody does DoSync after the last. -/
def syncs (l : List DoR) : Nat := (l.filter fun d => d.kind == 4).length
def weight (l : List DoR) : Nat := if l = [] then 0 else 1 + syncs l
theorem runP_weight {n : Nat} : ∀ (l : List DoR) (a : Int) (c : List Int) (s : List (Int × Int)), (∀ d ∈ l, okDo n d) → weight (runP a c s l).todo ≤ weight l - 1
  | [], a, c, s, _ => by simp [runP, weight]
  | d :: t, a, c, s, hok => by
    have hd := hok d (List.mem_cons_self ..)
    have ht : ∀ x ∈ t, okDo n x := fun x hx => hok x (List.mem_cons_of_mem _ hx)
    have go : d.kind ≠ 4 → ∀ a c s, weight (runP a c s t).todo ≤ weight (d :: t) - 1 := fun hk a c s => by
      have h0 := runP_weight t a c s ht
      have e : syncs (d :: t) = syncs t := by simp [syncs, hk]
      have h1 : weight (d :: t) = 1 + syncs t := by rw [weight, if_neg (by simp), e]
      have h2 : weight t ≤ 1 + syncs t := by unfold weight; split <;> omega
      omega
    unfold runP
    split
    · rename_i h; exact go (by omega) _ _ _
    · split
      · rename_i h; exact go (by omega) _ _ _
      · split
        · rename_i h; exact go (by omega) _ _ _
        · have hk : d.kind = 4 := by rcases hd with h | h | ⟨h | h, _⟩ <;> omega
          have e : syncs (d :: t) = 1 + syncs t := by simp [syncs, hk]; omega
          show weight t ≤ _
          rw [show weight (d :: t) = 1 + syncs (d :: t) from if_neg (by simp), e]
          unfold weight
          split <;> omega
theorem Phs.few {n : Nat} {ps ps' : List ProcR} {k m : Nat} (h : Phs ps k ps') (hok : ∀ p ∈ ps, ∀ d ∈ p.todo, okDo n d) (hm : ∀ p ∈ ps, weight p.todo ≤ m) : k ≤ m := by
  induction h generalizing m with
  | done _ => exact Nat.zero_le _
  | @step ps ps' k h _ ih =>
    have hm1 : 1 ≤ m := by
      obtain ⟨p, hp, hn⟩ := h
      have := hm p hp
      rw [weight, if_neg hn] at this
      omega
    have hat : ∀ q ∈ phaseAll ps, ∃ p ∈ ps, q.todo = (ranP p).todo := fun q hq => by
      obtain ⟨j, hj, rfl⟩ := List.getElem_of_mem hq
      rw [phaseAll_length] at hj
      have := phaseAll_at ps hj
      rw [List.getElem?_eq_getElem (by rw [phaseAll_length]; exact hj)] at this
      exact ⟨ps[j], List.getElem_mem _, by rw [Option.some.inj this]⟩
    have := ih (m := m - 1) (fun q hq d hd => by
      obtain ⟨p, hp, e⟩ := hat q hq
      obtain ⟨x, hx, _⟩ := runP_todo p.todo p.num p.come []
      rw [e] at hd
      exact hok p hp d (List.mem_of_mem_drop (by unfold ranP at hd; rw [hx] at hd; exact hd))) (fun q hq => by
      obtain ⟨p, hp, e⟩ := hat q hq
      rw [e]
      have := runP_weight (n := n) p.todo p.num p.come [] (hok p hp)
      have := hm p hp
      unfold ranP
      omega)
    omega
def startP (D : List DosR) : List ProcR := D.map fun l => ⟨l.ds, 0, [], []⟩
end Go.Proofs.Yticdjkkcfdbdcaa

/- The reference's mails, in plain Lean. No program; no conditions. -/
namespace Go.Proofs.Yticdjkkcfdbdcaa
open Go.ChangeShapes Go.WideShapes Go.ChangeAt Go.RowKit
structure MailR where
  ph : Int
  dst : Int
  n : Int
def cellsM (l : List MailR) : List Value := l.flatMap fun m => [.int .i64 m.ph, .int .i64 m.dst, .int .i64 m.n]
theorem cellsM_length (l : List MailR) : (cellsM l).length = l.length * 3 := by
  induction l with
  | nil => rfl
  | cons x l ih => simp only [cellsM, List.flatMap_cons, List.length_append, List.length_cons, List.length_nil] at ih ⊢; omega
theorem cellsM_append (l m : List MailR) : cellsM (l ++ m) = cellsM l ++ cellsM m := by simp [cellsM]
theorem cellsM_at : ∀ (l : List MailR) (k : Nat) (h : k < l.length), (cellsM l)[k * 3]? = some (.int .i64 l[k].ph) ∧ (cellsM l)[k * 3 + 1]? = some (.int .i64 l[k].dst) ∧ (cellsM l)[k * 3 + 2]? = some (.int .i64 l[k].n)
  | d :: l, 0, _ => ⟨rfl, rfl, rfl⟩
  | d :: l, k + 1, h => by
    have := cellsM_at l k (by simp at h; omega)
    have e : cellsM (d :: l) = .int .i64 d.ph :: .int .i64 d.dst :: .int .i64 d.n :: cellsM l := rfl
    rw [e, show (k + 1) * 3 = k * 3 + 1 + 1 + 1 by omega]
    simpa using this
/-- What process i folds in phase p, of which nothing was folded since phase f. -/
def comeM (i : Int) (f p : Int) (ms : List MailR) : List Int := (ms.filter fun m => m.dst == i && (decide (m.ph < p) && decide (f ≤ m.ph))).map (·.n)
theorem comeM_append (i f p : Int) (a b : List MailR) : comeM i f p (a ++ b) = comeM i f p a ++ comeM i f p b := by simp [comeM]
/-- Letters of phase p, as mails. -/
def mailsOf (p : Int) (ls : List (Int × Int)) : List MailR := ls.map fun x => ⟨p, x.1, x.2⟩
theorem mailsOf_append (p : Int) (a b : List (Int × Int)) : mailsOf p (a ++ b) = mailsOf p a ++ mailsOf p b := by simp [mailsOf]
theorem comeM_same (i f p : Int) (ls : List (Int × Int)) : comeM i f p (mailsOf p ls) = [] := by
  unfold comeM mailsOf
  rw [List.filter_map, List.map_map, List.map_eq_nil_iff, List.filter_eq_nil_iff]
  intro x _
  simp
theorem comeM_next (i : Nat) (f p : Int) (hf : f ≤ p) (ls : List (Int × Int)) : comeM i f (p + 1) (mailsOf p ls) = mailTo i ls := by
  unfold comeM mailsOf mailTo
  rw [List.filter_map, List.map_map]
  congr 1
  refine List.filter_congr fun x _ => ?_
  have h1 : decide (p < p + 1) = true := decide_eq_true (by omega)
  have h2 : decide (f ≤ p) = true := decide_eq_true hf
  simp [h1, h2]
/-- Mails of earlier phases are all that is known ahead of phase p + 1 too. -/
theorem comeM_old (i f p : Int) (ms : List MailR) (h : ∀ m ∈ ms, m.ph < p) : comeM i f (p + 1) ms = comeM i f p ms := by
  unfold comeM
  congr 1
  refine List.filter_congr fun m hm => ?_
  have := h m hm
  have h1 : decide (m.ph < p + 1) = true := decide_eq_true (by omega)
  have h2 : decide (m.ph < p) = true := decide_eq_true this
  rw [h1, h2]
theorem comeM_none (i p : Int) (ms : List MailR) : comeM i p p ms = [] := by
  unfold comeM
  rw [List.map_eq_nil_iff, List.filter_eq_nil_iff]
  intro m _
  simp
/-- Folding, mail by mail. -/
theorem comeM_take {i f p : Int} {ms : List MailR} {k : Nat} (h : k < ms.length) : comeM i f p (ms.drop k) = (if ms[k].dst = i ∧ ms[k].ph < p ∧ f ≤ ms[k].ph then [ms[k].n] else []) ++ comeM i f p (ms.drop (k + 1)) := by
  rw [List.drop_eq_getElem_cons h]
  unfold comeM
  rw [List.filter_cons]
  by_cases hc : ms[k].dst = i ∧ ms[k].ph < p ∧ f ≤ ms[k].ph
  · rw [if_pos hc, if_pos (by simp [hc])]; rfl
  · rw [if_neg hc, if_neg (by simpa using hc)]; rfl
end Go.Proofs.Yticdjkkcfdbdcaa
