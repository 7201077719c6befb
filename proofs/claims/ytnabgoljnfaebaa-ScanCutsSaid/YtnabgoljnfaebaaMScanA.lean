/- scan.Scan's memory, told of the lone world. No conditions but those named. -/
import Derived.Test.YtnabgoljnfaebaaMCl2
import Derived.Test.YtnabgoljnfaebaaTop
import Derived.Test.YtnabgoljnfaebaaScL4
namespace Go.Proofs.Ytnabgoljnfaebaa
open Go.Conc Go.ConcN Go.RowKit Go.ChangeShapes Go.WideShapes Go.ChangeAt
theorem cut_mono (n k j : Nat) : cutAt n k j ≤ cutAt n k (j + 1) := Nat.div_le_div_right (Nat.mul_le_mul_right _ (Nat.le_succ _))
theorem cut_zero (n k : Nat) : cutAt n k 0 = 0 := by simp [cutAt]
theorem cut_end (n : Nat) {k : Nat} (hk : 0 < k) : cutAt n k k = n := by rw [cutAt, Nat.mul_comm]; exact Nat.mul_div_cancel _ hk
theorem cut_strict {n k : Nat} (hk : 0 < k) (h : k ≤ n) (j : Nat) : cutAt n k j < cutAt n k (j + 1) := by
  unfold cutAt
  have h1 : (j + 1) * n = j * n + n := Nat.succ_mul j n
  have h2 : (j * n + k) / k = j * n / k + 1 := Nat.add_div_right _ hk
  have h3 : (j * n + k) / k ≤ ((j + 1) * n) / k := Nat.div_le_div_right (by omega)
  omega
/-- What was there stands. -/
def Keeps (L L' : World) : Prop := L.heap.size ≤ L'.heap.size ∧ ∀ b, b < L.heap.size → L'.heap[b]? = L.heap[b]?
theorem Keeps.alloc {L L2 L' : World} (h : L2.heap = L.heap) {o : Obj} (e : L'.heap = (L2.alloc o).heap) : Keeps L L' := by
  have hs : L'.heap.size = L.heap.size + 1 := by rw [e, World.size_alloc, h]
  exact ⟨by omega, fun b hb => by rw [e, Below.heap_alloc _ _ _ (by rw [h]; exact hb), h]⟩
theorem cell_of {W L' : World} (e : L'.heap = W.heap) {p : Addr} {v : Option Value} (h : W.cell? p = v) : L'.cell? p = v := by rw [← h]; simp only [World.cell?, e]
theorem Keeps.trans {L L1 L2 : World} (h : Keeps L L1) (h' : Keeps L1 L2) : Keeps L L2 := ⟨Nat.le_trans h.1 h'.1, fun b hb => (h'.2 b (Nat.lt_of_lt_of_le hb h.1)).trans (h.2 b hb)⟩
theorem Keeps.below {L L1 : World} (h : RowKit.Below L.heap.size L L1) : Keeps L L1 := ⟨h.size, fun b hb => h.block b hb⟩
theorem Keeps.same {L L1 L2 : World} (h : Keeps L L1) (e : L2.heap = L1.heap) : Keeps L L2 := ⟨by rw [e]; exact h.1, fun b hb => by rw [e]; exact h.2 b hb⟩
theorem Blk.kept {L L1 : World} {b : Nat} {t : TypeId} {vs : List Value} (h : Blk L b t vs) (k : Keeps L L1) : Blk L1 b t vs := (k.2 b h.lt).trans h
theorem Blk.same {L L1 : World} {b : Nat} {t : TypeId} {vs : List Value} (h : Blk L b t vs) (e : L1.heap = L.heap) : Blk L1 b t vs := by unfold Blk at h ⊢; rw [e]; exact h
theorem own_same {L L1 : World} {base size n : Nat} {e : TypeId} {v : Value} {vs : List Value} (h : L.ownsRow base e size v n vs) (he : L1.heap = L.heap) : L1.ownsRow base e size v n vs := own_blocks h fun b _ _ => by rw [he]
theorem own_kept {L L1 : World} {base size n : Nat} {e : TypeId} {v : Value} {vs : List Value} (h : L.ownsRow base e size v n vs) (k : Keeps L L1) : L1.ownsRow base e size v n vs := own_blocks h fun b _ hb => k.2 b hb
/-- Scan's memory at the first call of side: f's box, the row, its box, the cuts. -/
structure Sc8 (op : Int) (xs : List Int) (L L' : World) (xL : Nat) (p : Option Addr) (cc : Nat) : Prop where
  keeps : Keeps L L'
  f : Blk L' L.heap.size 31 [.func (.func (opF op)) #[] #[]]
  own : L'.ownsRow (L.heap.size + 1) 2 1 (.slice p xs.length cc) xs.length (ints xs)
  x : Blk L' xL 22 [.slice p xs.length cc]
  fx : L.heap.size < xL
  ox : ∀ g, (Value.slice p xs.length cc).ownBlock = some g → g < xL
theorem Sc8.same {op : Int} {xs : List Int} {L L' L1 : World} {xL cc : Nat} {p : Option Addr} (h : Sc8 op xs L L' xL p cc) (e : L1.heap = L'.heap) : Sc8 op xs L L1 xL p cc :=
  ⟨h.keeps.same e, h.f.same e, own_same h.own e, h.x.same e, h.fx, h.ox⟩
theorem Sc8.kept {op : Int} {xs : List Int} {L L' L1 : World} {xL cc : Nat} {p : Option Addr} (h : Sc8 op xs L L' xL p cc) (k : Keeps L' L1) : Sc8 op xs L L1 xL p cc :=
  ⟨h.keeps.trans k, h.f.kept k, own_kept h.own k, h.x.kept k, h.fx, h.ox⟩
structure Sc9 (op : Int) (xs : List Int) (k : Nat) (L L' : World) (xL cL : Nat) (p : Option Addr) (cc : Nat) : Prop where
  s : Sc8 op xs L L' xL p cc
  c : Blk L' cL 3 (ints (cutRow xs.length k (k + 1)))
  xc : xL < cL
theorem Sc9.same {op : Int} {xs : List Int} {k : Nat} {L L' L1 : World} {xL cL cc : Nat} {p : Option Addr} (h : Sc9 op xs k L L' xL cL p cc) (e : L1.heap = L'.heap) : Sc9 op xs k L L1 xL cL p cc := ⟨h.s.same e, h.c.same e, h.xc⟩
/-- Where the row lies. -/
structure RowIs (xs : List Int) (L L' : World) (xL cL : Nat) (p : Option Addr) (obL : Nat) (t : TypeId) (rest : List Value) : Prop where
  b : Blk L' obL t (ints xs ++ rest)
  t : Try.prog.info? t ≠ none
  p : xs ≠ [] → p = some ⟨obL, 0, none⟩
  nf : L.heap.size ≠ obL
  nx : xL ≠ obL ∨ xs = []
  nc : cL ≠ obL
  low : L.heap.size ≤ obL
  high : obL < cL
  ren : ∀ (ρ : Ren) (k : LK) (W : World), Mir (InL scanL) Try.prog ρ k L' W → (∃ c, ρ xL = some c) → ∃ c, ρ obL = some c
theorem Sc9.row {op : Int} {xs : List Int} {k : Nat} {L L' : World} {xL cL cc : Nat} {p : Option Addr} (h : Sc9 op xs k L L' xL cL p cc) : ∃ obL t rest, RowIs xs L L' xL cL p obL t rest := by
  have hx := h.s.fx
  have hc := h.xc
  by_cases hn : xs = []
  · subst hn
    exact ⟨xL, _, [.slice p 0 cc], h.s.x, info_ints, fun e => absurd rfl e, by omega, .inr rfl, by omega, by omega, hc, fun ρ k W _ hr => hr⟩
  · rcases h.s.own.2 with ⟨_, h0⟩ | ⟨g, cap, cur, hv, hb, hg, hnc, _, hs, ht⟩
    · exact absurd (List.eq_nil_of_length_eq_zero h0) hn
    · cases hv
      have hgx := h.s.ox g rfl
      refine ⟨g, 2, cur.toList.drop xs.length, ?_, info_int64, fun _ => rfl, by omega, .inl (by omega), by omega, by omega, by omega, fun ρ k W hm ⟨⟨c, s⟩, hr⟩ => ?_⟩
      · unfold Blk
        rw [hg]
        rw [Nat.mul_one] at ht
        rw [← ht, List.take_append_drop]
      · obtain ⟨_, _, hv⟩ := hm.blk hr h.s.x info_ints
        obtain ⟨v', _, q, _⟩ := hv 0 _ rfl
        cases q with
        | slice hA l c =>
          obtain ⟨_, c, s, q, _⟩ := hA
          exact ⟨_, q⟩
/-- The row behind the first call of side. -/
def ys1 (op : Int) (xs : List Int) (k : Nat) : List Int := joinS (fun j => scanI op (segL xs (cutAt xs.length k) j)) k
theorem seg_len (op : Int) (xs : List Int) {k : Nat} (hk : 0 < k) (j : Nat) (hj : j < k) : cutAt xs.length k j + (scanI op (segL xs (cutAt xs.length k) j)).length = cutAt xs.length k (j + 1) := by
  have h1 : cutAt xs.length k (j + 1) ≤ cutAt xs.length k k := cuts_le (fun i _ => cut_mono _ _ i) (show j + 1 ≤ k by omega) (Nat.le_refl _)
  rw [cut_end _ hk] at h1
  rw [scanI_length, segL_length h1]
  have := cut_mono xs.length k j
  omega
theorem ys1_length (op : Int) (xs : List Int) {k : Nat} (hk : 0 < k) : (ys1 op xs k).length = xs.length := by
  unfold ys1
  rw [joinS_length (cuts := cutAt xs.length k) (cut_zero _ _) (seg_len op xs hk), cut_end _ hk]
theorem ys1_get (op : Int) (xs : List Int) {k : Nat} (hk : 0 < k) (j : Nat) (hj : j < k) (i : Nat) (h : i < (segL xs (cutAt xs.length k) j).length) : (ys1 op xs k)[cutAt xs.length k j + i]? = some ((scanI op (segL xs (cutAt xs.length k) j))[i]'(by rw [scanI_length]; exact h)) :=
  joinS_get (cuts := cutAt xs.length k) (cut_zero _ _) (seg_len op xs hk) hj _
theorem segL_i64 {xs : List Int} {cuts : Nat → Nat} {j : Nat} (h : ∀ x ∈ xs, I64 x) : ∀ x ∈ segL xs cuts j, I64 x := fun x hx => h x (segL_mem hx)
theorem joinS_mem {g : Nat → List Int} {P : Int → Prop} (h : ∀ j, ∀ x ∈ g j, P x) : ∀ m, ∀ x ∈ joinS g m, P x
  | 0, x, hx => by cases hx
  | m + 1, x, hx => by
    rcases List.mem_append.1 hx with h1 | h1
    · exact joinS_mem h m x h1
    · exact h m x h1
theorem ys1_i64 (op : Int) (xs : List Int) (k : Nat) (h : ∀ x ∈ xs, I64 x) : ∀ x ∈ ys1 op xs k, I64 x := joinS_mem (fun j => scanI_i64 op _ (segL_i64 h)) k
theorem ints_get_out {xs ys : List Int} {rest : List Value} (h : ys.length = xs.length) {i : Nat} (hi : xs.length ≤ i) : (ints ys ++ rest).toArray[i]? = (ints xs ++ rest).toArray[i]? := by
  simp only [List.getElem?_toArray]
  rw [List.getElem?_append_right (by simpa [h] using hi), List.getElem?_append_right (by simpa using hi), length_ints, length_ints, h]
theorem run_mk2 (e : Operand → Value) (o : Oper) {f : FuncId} {x y : Operand} (hop : o.op = .makeFunc (.func f) #[] #[x, y]) (w : World) : (execOp e o).runT Try.prog w #[] = (.ok (.value (.func (.func f) #[] #[e x, e y])) w, #[]) := by simp [go_sem, hop, execOp]
theorem run_mk3 (e : Operand → Value) (o : Oper) {f : FuncId} {x y z : Operand} (hop : o.op = .makeFunc (.func f) #[] #[x, y, z]) (w : World) : (execOp e o).runT Try.prog w #[] = (.ok (.value (.func (.func f) #[] #[e x, e y, e z])) w, #[]) := by simp [go_sem, hop, execOp]
theorem run_mv (e : Operand → Value) (o : Oper) {x : Operand} (hop : o.op = .move x) (w : World) : (execOp e o).runT Try.prog w #[] = (.ok (.value (e x)) w, #[]) := by simp [go_sem, hop, execOp]
theorem k_bd {n kn k : Nat} (h : kOf n kn = k) (hw : 1 ≤ kn ∧ kn ≤ 16) : 0 < k ∧ k ≤ 16 ∧ (n ≠ 0 → k ≤ n) := by unfold kOf at h; omega
theorem Blk.same_list {L : World} {b : Nat} {t u : TypeId} {vs us : List Value} (h : Blk L b t vs) (h' : Blk L b u us) : t = u ∧ vs = us := by
  unfold Blk at h h'
  rw [h] at h'
  simp only [Option.some.injEq, Obj.cells.injEq, and_true] at h'
  exact ⟨h'.2, by have := congrArg Array.toList h'.1; simpa using this⟩
theorem blk_rerow {L : World} {b : Nat} {t u : TypeId} {vs us : List Value} (h : Blk L b u us) : Blk (reRow L b vs.toArray t (0, 0)) b t vs := reRow_eq _ _ _ h
theorem blk_rerow_ne {L : World} {b g : Nat} {t u : TypeId} {vs us : List Value} (h : Blk L g u us) (hne : g ≠ b) : Blk (reRow L b vs.toArray t (0, 0)) g u us := (reRow_ne _ _ _ _ hne).trans h
theorem Sc9.rerow {op : Int} {xs ys : List Int} {k : Nat} {L L' : World} {xL cL cc obL : Nat} {p : Option Addr} {t : TypeId} {rest : List Value} (h : Sc9 op xs k L L' xL cL p cc) (hr : RowIs xs L L' xL cL p obL t rest) (hl : ys.length = xs.length) : Sc9 op ys k L (reRow L' obL (ints ys ++ rest).toArray t (0, 0)) xL cL p cc := by
  have hlow := hr.low
  refine ⟨⟨⟨by rw [reRow_size]; exact h.s.keeps.1, fun b hb => (reRow_ne _ _ _ _ (by omega)).trans (h.s.keeps.2 b hb)⟩, blk_rerow_ne h.s.f hr.nf, ⟨by simp, ?_⟩, ?_, h.s.fx, by rw [hl]; exact h.s.ox⟩, by rw [hl]; exact blk_rerow_ne h.c hr.nc, h.xc⟩
  · rcases h.s.own.2 with ⟨h0, h1⟩ | ⟨g, cap, cur, hv, hb, hg, hnc, hm, hs, ht⟩
    · exact .inl ⟨by rw [hl]; exact h0, by rw [hl]; exact h1⟩
    · rw [hl]
      by_cases hn : xs = []
      · subst hn
        have hy : ys = [] := List.eq_nil_of_length_eq_zero hl
        subst hy
        by_cases hgo : g = obL
        · subst hgo
          cases hv
          have hbl : Blk L' g 2 cur.toList := by unfold Blk; simpa using hg
          obtain ⟨rfl, e⟩ := hr.b.same_list hbl
          refine .inr ⟨g, _, cur, rfl, hb, ?_, hnc, hm, hs, ht⟩
          have e2 : ints ([] : List Int) ++ rest = cur.toList := e
          rw [e2]
          have := blk_rerow (t := 2) (vs := cur.toList) hbl
          unfold Blk at this
          simpa using this
        · exact .inr ⟨g, cap, cur, hv, hb, (reRow_ne _ _ _ _ hgo).trans hg, hnc, hm, hs, ht⟩
      · have hp := hr.p hn
        rw [hp] at hv
        cases hv
        have hbl : Blk L' obL 2 cur.toList := by unfold Blk; simpa using hg
        obtain ⟨rfl, e⟩ := hr.b.same_list hbl
        refine .inr ⟨obL, _, (ints ys ++ rest).toArray, by rw [hp], hb, reRow_eq _ _ _ hg, hnc, hm, ?_, ?_⟩
        · rw [← hs]
          have := congrArg List.length e
          simp only [List.length_append, length_ints, Array.length_toList] at this
          simp only [List.size_toArray, List.length_append, length_ints, hl]
          exact this
        · rw [Nat.mul_one, List.take_left' (by simp [hl])]
  · rw [hl]
    rcases hr.nx with h1 | hn
    · exact blk_rerow_ne h.s.x h1
    · subst hn
      have hy : ys = [] := List.eq_nil_of_length_eq_zero hl
      subst hy
      by_cases he : xL = obL
      · subst he
        obtain ⟨rfl, e⟩ := hr.b.same_list h.s.x
        rw [show ints ([] : List Int) ++ rest = [.slice p ([] : List Int).length cc] from e]
        exact blk_rerow h.s.x
      · exact blk_rerow_ne h.s.x he
theorem Sc9.kept {op : Int} {xs : List Int} {k : Nat} {L L' L1 : World} {xL cL cc : Nat} {p : Option Addr} (h : Sc9 op xs k L L' xL cL p cc) (e : Keeps L' L1) : Sc9 op xs k L L1 xL cL p cc := ⟨h.s.kept e, h.c.kept e, h.xc⟩
/-- .. with what is ahead: its row, its box. -/
structure Sc11 (op : Int) (xs : List Int) (k : Nat) (zs : List Int) (L L' : World) (xL cL arL aL : Nat) (p : Option Addr) (cc : Nat) : Prop where
  s : Sc9 op xs k L L' xL cL p cc
  r : Blk L' arL 2 (ints zs)
  a : Blk L' aL 22 [.slice (some ⟨arL, 0, none⟩) k k]
  cr : cL < arL
  ra : arL < aL
theorem Sc11.same {op : Int} {xs zs : List Int} {k : Nat} {L L' L1 : World} {xL cL arL aL cc : Nat} {p : Option Addr} (h : Sc11 op xs k zs L L' xL cL arL aL p cc) (e : L1.heap = L'.heap) : Sc11 op xs k zs L L1 xL cL arL aL p cc := ⟨h.s.same e, h.r.same e, h.a.same e, h.cr, h.ra⟩
/-- What is ahead, so far. -/
def aheadTo (op : Int) (xs : List Int) (k i : Nat) : List Int := (List.range k).map fun j => if j < i ∧ j ≠ 0 then aheadI op xs (cutAt xs.length k j) else 0
theorem aheadTo_one (op : Int) (xs : List Int) (k : Nat) : aheadTo op xs k 1 = List.replicate k 0 := by
  apply List.ext_getElem?
  intro j
  by_cases h : j < k
  · have e : ¬ (j < 1 ∧ j ≠ 0) := by omega
    simp [aheadTo, h, List.getElem?_replicate]
  · simp [aheadTo, h, List.getElem?_replicate]
theorem Sc9.ahead {op : Int} {xs ys : List Int} {k : Nat} {L L' : World} {xL cL cc : Nat} {p : Option Addr} (h : Sc9 op xs k L L' xL cL p cc) :
    Sc11 op xs k (aheadTo op ys k 1) L ((L'.alloc (.cells (madeCells #[.int .i64 0] k) 2)).alloc (.cells #[.slice (some ⟨L'.heap.size, 0, none⟩) k k] 22)) xL cL L'.heap.size (L'.heap.size + 1) p cc := by
  have k1 : Keeps L' (L'.alloc (.cells (madeCells #[.int .i64 0] k) 2)) := Keeps.alloc rfl rfl
  have k2 : Keeps (L'.alloc (.cells (madeCells #[.int .i64 0] k) 2)) ((L'.alloc (.cells (madeCells #[.int .i64 0] k) 2)).alloc (.cells #[.slice (some ⟨L'.heap.size, 0, none⟩) k k] 22)) := Keeps.alloc rfl rfl
  have hb := Blk.new (L'.alloc (.cells (madeCells #[.int .i64 0] k) 2)) 22 [.slice (some ⟨L'.heap.size, 0, none⟩) k k]
  rw [World.size_alloc] at hb
  exact ⟨(h.kept k1).kept k2, (Blk.newArr L' _ (by rw [made_one, ← ints_rep, aheadTo_one])).kept k2, hb, h.c.lt, Nat.lt_succ_self _⟩
theorem aheadTo_get {op : Int} {xs : List Int} {k i j : Nat} (h : j < k) : (aheadTo op xs k i)[j]? = some (if j < i ∧ j ≠ 0 then aheadI op xs (cutAt xs.length k j) else 0) := by simp [aheadTo, h]
theorem aheadTo_set {op : Int} {xs : List Int} {k i : Nat} (h : i < k) (h0 : 1 ≤ i) : (aheadTo op xs k i).set i (aheadI op xs (cutAt xs.length k i)) = aheadTo op xs k (i + 1) := by
  apply List.ext_getElem?
  intro j
  rw [List.getElem?_set]
  have hl : (aheadTo op xs k i).length = k := by simp [aheadTo]
  by_cases hj : j < k
  · rw [aheadTo_get hj, aheadTo_get hj, hl]
    by_cases e : i = j
    · subst e
      have : i < i + 1 ∧ i ≠ 0 := by omega
      simp only [if_pos this, if_pos hj, if_true]
    · rw [if_neg e]
      by_cases h2 : j < i ∧ j ≠ 0
      · have h3 : j < i + 1 ∧ j ≠ 0 := by omega
        rw [if_pos h2, if_pos h3]
      · have h3 : ¬ (j < i + 1 ∧ j ≠ 0) := by omega
        rw [if_neg h2, if_neg h3]
  · have e : ¬ i = j := by omega
    simp [aheadTo, e, hj]
theorem aheadI_i64 {op : Int} {xs : List Int} (h : ∀ x ∈ xs, I64 x) (n : Nat) : I64 (aheadI op xs n) := by
  unfold aheadI
  have hs := scanI_i64 op (xs.take n) (fun x hx => h x (List.mem_of_mem_take hx))
  generalize scanI op (xs.take n) = l at hs
  cases l with
  | nil => exact ⟨by decide, by decide⟩
  | cons a r => rw [List.getLastD_cons, List.getLastD_eq_getLast?]; cases hr : r.getLast? with
    | none => exact hs a (List.mem_cons_self ..)
    | some b => exact hs b (List.mem_cons_of_mem _ (List.mem_of_getLast? hr))
theorem opF_four (op : Int) : opF op = 22 ∨ opF op = 23 ∨ opF op = 24 ∨ opF op = 25 := by
  unfold opF
  split
  · exact .inl rfl
  · split
    · exact .inr (.inl rfl)
    · split
      · exact .inr (.inr (.inl rfl))
      · exact .inr (.inr (.inr rfl))
/-- What a round of the loop sees. -/
theorem Sc11.sees {op : Int} {xs : List Int} {k m : Nat} {L L' : World} {xL cL arL aL cc : Nat} {p : Option Addr} (h : Sc11 op (ys1 op xs k) k (aheadTo op xs k m) L L' xL cL arL aL p cc) (hk0 : 0 < k) (hk2 : 1 < k → k ≤ xs.length) (h1 : 1 ≤ m) (hm : m < k) (hx : ∀ x ∈ xs, I64 x) :
    ∃ g q, ∃ lp : Int, p = some ⟨g, 0, none⟩ ∧ g ≠ arL ∧ cutAt xs.length k m = q + 1 ∧ q < xs.length ∧ I64 lp ∧ L'.cell? ⟨g, q, none⟩ = some (.int .i64 lp) ∧ L'.cell? ⟨xL, 0, none⟩ = some (.slice (some ⟨g, 0, none⟩) xs.length cc) ∧ L'.cell? ⟨cL, m, none⟩ = some (.int .i64 ((q : Int) + 1)) ∧
      aheadI op xs (cutAt xs.length k m) = (if m = 1 then lp else two op (aheadI op xs (cutAt xs.length k (m - 1))) lp) := by
  have hl := ys1_length op xs hk0
  have hkx := hk2 (by omega)
  have h00 := cut_zero xs.length k
  have hst : ∀ j, j < k → cutAt xs.length k j < cutAt xs.length k (j + 1) := fun j _ => cut_strict hk0 hkx j
  have hme := cut_end xs.length hk0
  have hle : cutAt xs.length k m ≤ xs.length := by
    have := cuts_le (fun i hi => Nat.le_of_lt (hst i hi)) (show m ≤ k by omega) (Nat.le_refl _)
    rw [hme] at this; exact this
  have hpos : 0 < cutAt xs.length k m := by
    have h2 : cutAt xs.length k 0 < cutAt xs.length k 1 := hst 0 (by omega)
    have := cuts_le (fun i hi => Nat.le_of_lt (hst i hi)) h1 (by omega)
    omega
  have hlast := part_last (op := op) (xs := xs) h00 hst hme h1 (by omega)
  have hlp : I64 ((scanI op (segL xs (cutAt xs.length k) (m - 1))).getLastD 0) := by
    have hs := scanI_i64 op (segL xs (cutAt xs.length k) (m - 1)) (segL_i64 hx)
    generalize scanI op (segL xs (cutAt xs.length k) (m - 1)) = l at hs
    cases l with
    | nil => exact ⟨by decide, by decide⟩
    | cons a r => rw [List.getLastD_cons, List.getLastD_eq_getLast?]; cases hr : r.getLast? with
      | none => exact hs a (List.mem_cons_self ..)
      | some b => exact hs b (List.mem_cons_of_mem _ (List.mem_of_getLast? hr))
  have hah : aheadI op xs (cutAt xs.length k m) = (if m = 1 then (scanI op (segL xs (cutAt xs.length k) (m - 1))).getLastD 0 else two op (aheadI op xs (cutAt xs.length k (m - 1))) ((scanI op (segL xs (cutAt xs.length k) (m - 1))).getLastD 0)) := by
    by_cases e : m = 1
    · subst e
      rw [if_pos rfl]
      exact ahead_one (op := op) h00 hst (by omega)
    · obtain ⟨i, rfl⟩ : ∃ i, m = i + 1 := ⟨m - 1, by omega⟩
      rw [if_neg e]
      exact ahead_next (op := op) h00 hst hme (by omega) (by omega)
  generalize (scanI op (segL xs (cutAt xs.length k) (m - 1))).getLastD 0 = lp at hlast hlp hah
  have hown := h.s.s.own
  obtain ⟨g, hp, hgx⟩ : ∃ g, p = some ⟨g, 0, none⟩ ∧ g < xL := by
    rcases hown.2 with ⟨_, h0⟩ | ⟨g, cap, cur, hv, _⟩
    · omega
    · have hp : p = some ⟨g, 0, none⟩ := by cases hv; rfl
      exact ⟨g, hp, h.s.s.ox g (by rw [hp]; rfl)⟩
  subst hp
  have hxc := h.s.xc
  have hcr := h.cr
  refine ⟨g, cutAt xs.length k m - 1, lp, rfl, by omega, by omega, by omega, hlp, ?_, ?_, ?_, hah⟩
  · rw [hown.cellAt _ (by omega)]
    have : (ys1 op xs k)[cutAt xs.length k m - 1]? = some lp := hlast
    simp [ints, this]
  · have := h.s.s.x.cell 0
    rw [hl] at this
    exact this
  · have := h.s.c.cell m
    rw [hl] at this
    rw [this]
    simp only [ints, List.getElem?_map, cutRow_get (show m < k + 1 by omega), if_pos (show m < k + 1 by omega), Option.map_some]
    congr 2
    omega
/-- A cell of what is ahead is laid. -/
theorem Sc11.set {op : Int} {xs zs : List Int} {k : Nat} {L L' : World} {xL cL arL aL cc : Nat} {p : Option Addr} (h : Sc11 op xs k zs L L' xL cL arL aL p cc) (i : Nat) (v : Int) : Sc11 op xs k (zs.set i v) L (L'.setCell ⟨arL, i, none⟩ (.int .i64 v)) xL cL arL aL p cc := by
  have h1 := h.s.s.keeps.1
  have hfx := h.s.s.fx
  have hxc := h.s.xc
  have hcr := h.cr
  have hra := h.ra
  have hs : ∀ b, b ≠ arL → (L'.setCell ⟨arL, i, none⟩ (.int .i64 v)).heap[b]? = L'.heap[b]? := fun b hb => Below.heap_setCell _ _ _ _ hb
  refine ⟨⟨⟨⟨by rw [World.size_setCell]; exact h1, fun b hb => (hs b (by omega)).trans (h.s.s.keeps.2 b hb)⟩, (hs _ (by omega)).trans h.s.s.f, ⟨h.s.s.own.1, ?_⟩, (hs _ (by omega)).trans h.s.s.x, h.s.s.fx, h.s.s.ox⟩, (hs _ (by omega)).trans h.s.c, h.s.xc⟩, ?_, (hs _ (by omega)).trans h.a, h.cr, h.ra⟩
  · rcases h.s.s.own.2 with h2 | ⟨g, cap, cur, hv, hb, hg, rest⟩
    · exact .inl h2
    · have := h.s.s.ox g (by rw [hv]; rfl)
      exact .inr ⟨g, cap, cur, hv, hb, (hs g (by omega)).trans hg, rest⟩
  · have := h.r.set_ i (.int .i64 v)
    rw [ints_set] at this
    exact this
theorem Sc11.drewN {op : Int} {xs zs : List Int} {k : Nat} {L L' : World} {xL cL arL aL cc : Nat} {p : Option Addr} (h : Sc11 op xs k zs L L' xL cL arL aL p cc) (n : Nat) : Sc11 op xs k zs L (L'.drewN n) xL cL arL aL p cc := h.same rfl
theorem aheadTo_length (op : Int) (xs : List Int) (k i : Nat) : (aheadTo op xs k i).length = k := by simp [aheadTo]
theorem aheadTo_i64 {op : Int} {xs : List Int} (h : ∀ x ∈ xs, I64 x) (k i : Nat) : ∀ x ∈ aheadTo op xs k i, I64 x := fun x hx => by
  obtain ⟨j, _, rfl⟩ := List.mem_map.1 hx
  split
  · exact aheadI_i64 h _
  · exact ⟨by decide, by decide⟩
theorem segL_ys1 (op : Int) (xs : List Int) {k : Nat} (hk : 0 < k) {j : Nat} (hj : j < k) : segL (ys1 op xs k) (cutAt xs.length k) j = scanI op (segL xs (cutAt xs.length k) j) := segL_joinS (cut_zero _ _) (seg_len op xs hk) hj
/-- ████ THE PARTS MAKE THE WHOLE. ████ -/
theorem ys2_get {op : Int} {xs : List Int} {k : Nat} (hk : 0 < k) (hk2 : xs.length ≠ 0 → k ≤ xs.length) (j : Nat) (hj : j < (aheadTo op xs k k).length) (i : Nat) (h : i < (segL (ys1 op xs k) (cutAt xs.length k) j).length) :
    (scanI op xs)[cutAt xs.length k j + i]? = some (if j = 0 then (segL (ys1 op xs k) (cutAt xs.length k) j)[i] else two op (aheadTo op xs k k)[j] (segL (ys1 op xs k) (cutAt xs.length k) j)[i]) := by
  have hjk : j < k := by rw [aheadTo_length] at hj; exact hj
  have hn0 : xs.length ≠ 0 := fun e => by
    rw [segL_ys1 op xs hk hjk, scanI_length] at h
    have := List.length_take_le' (cutAt xs.length k (j + 1) - cutAt xs.length k j) (xs.drop (cutAt xs.length k j))
    simp only [segL, List.length_take, List.length_drop] at h
    omega
  have hst : ∀ j, j < k → cutAt xs.length k j < cutAt xs.length k (j + 1) := fun j _ => cut_strict hk (hk2 hn0) j
  have hall := parts_all (op := op) (xs := xs) (cut_zero _ _) hst (cut_end xs.length hk) k (Nat.le_refl _)
  rw [cut_end _ hk, List.take_length] at hall
  have hgl : ∀ j, j < k → cutAt xs.length k j + (if j = 0 then scanI op (segL xs (cutAt xs.length k) j) else (scanI op (segL xs (cutAt xs.length k) j)).map (two op (aheadI op xs (cutAt xs.length k j)))).length = cutAt xs.length k (j + 1) := fun j hj => by
    rw [← seg_len op xs hk j hj]
    split <;> simp
  have h' : i < (if j = 0 then scanI op (segL xs (cutAt xs.length k) j) else (scanI op (segL xs (cutAt xs.length k) j)).map (two op (aheadI op xs (cutAt xs.length k j)))).length := by
    rw [segL_ys1 op xs hk hjk] at h
    split <;> simpa using h
  have hg := joinS_get (cut_zero _ _) hgl hjk h'
  rw [hall] at hg
  rw [hg]
  congr 1
  have hz : (aheadTo op xs k k)[j] = if j < k ∧ j ≠ 0 then aheadI op xs (cutAt xs.length k j) else 0 := by
    have := aheadTo_get (op := op) (xs := xs) (i := k) hjk
    rw [List.getElem?_eq_getElem hj] at this
    exact Option.some.inj this
  by_cases e : j = 0
  · subst e
    simp only [if_true, segL_ys1 op xs hk hjk]
  · have e2 : j < k ∧ j ≠ 0 := ⟨hjk, e⟩
    simp only [if_neg e, hz, if_pos e2, segL_ys1 op xs hk hjk, List.getElem_map]
theorem info_i64' : (Try.prog.info? 2).map (fun i => (i.zero, i.size, i.bytes)) = some (some (.int .i64 0), 1, 8) := by kernel_rfl
end Go.Proofs.Ytnabgoljnfaebaa
