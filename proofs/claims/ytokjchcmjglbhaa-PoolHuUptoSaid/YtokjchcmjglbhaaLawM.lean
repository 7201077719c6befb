/- The law's rounds by picks: plain steps, and the memory of the loops. No conditions. -/
import Derived.Test.YtokjchcmjglbhaaGreedyM
import Derived.IntWalk
namespace Go.Proofs.Ytokjchcmjglbhaa
open Go.ChangeShapes Go.WideShapes Go.ChangeAt Go.RowKit Go.IntWalk

section
variable {n m : Nat} {par : Nat → Int}
/-- Within a round: X were picked, can are the other leaves of U. -/
structure GK (n : Nat) (par : Nat → Int) (U : Nat → Bool) (X can : List Nat) : Prop where
  nodup : (X ++ can).Nodup
  mem : ∀ i, i ∈ X ++ can ↔ i < n ∧ leafU n par U i
theorem GK.perm {U : Nat → Bool} {X can X' can' : List Nat} (h : GK n par U X can) (hp : (X' ++ can').Perm (X ++ can)) : GK n par U X' can' := ⟨hp.nodup_iff.2 h.nodup, fun i => by rw [hp.mem_iff]; exact h.mem i⟩
theorem GK.pick {U : Nat → Bool} {X can : List Nat} (h : GK n par U X can) {i : Nat} (hi : i < can.length) : GK n par U (X ++ [can[i]]) (can.take i ++ can.drop (i + 1)) := by
  refine h.perm ?_
  rw [List.append_assoc]
  refine List.Perm.append_left X ?_
  rw [List.singleton_append]
  have e : can = can.take i ++ can[i] :: can.drop (i + 1) := by
    rw [← List.drop_eq_getElem_cons hi, List.take_append_drop]
  calc (can[i] :: (can.take i ++ can.drop (i + 1))).Perm (can.take i ++ can[i] :: can.drop (i + 1)) := List.perm_middle.symm
    _ = can := e.symm
theorem cnt_minus {U : Nat → Bool} {X : List Nat} (hn : X.Nodup) (hx : ∀ x ∈ X, x < n ∧ U x = true) : cnt (fun i => U i && !decide (i ∈ X)) n + X.length = cnt U n := by
  have hc := cnt_split (p := U) (q := fun i => decide (i ∈ X)) (n := n)
  have h1 : cnt (fun i => U i && decide (i ∈ X)) n = X.length := by
    refine Eq.trans (cnt_congr (q := fun i => decide (i ∈ X)) fun i _ => ?_) (cnt_mem hn fun x hx' => (hx x hx').1)
    by_cases hi : i ∈ X
    · rw [(hx i hi).2, Bool.true_and]
    · rw [decide_eq_false hi, Bool.and_false]
  omega
theorem GK.inU {U : Nat → Bool} {X can : List Nat} (h : GK n par U X can) : ∀ x ∈ X, x < n ∧ U x = true := fun x hx => by
  have := (h.mem x).1 (List.mem_append_left _ hx)
  exact ⟨this.1, this.2.1⟩
theorem GK.cnt {U : Nat → Bool} {X can : List Nat} (h : GK n par U X can) : cnt (fun i => U i && !decide (i ∈ X)) n + X.length = Go.Proofs.Ytokjchcmjglbhaa.cnt U n := cnt_minus (List.nodup_append.1 h.nodup).1 h.inU
theorem GK.rnd {U : Nat → Bool} {X can : List Nat} (h : GK n par U X can) (hm : X.length ≤ m) : Rnd n m par U (fun i => U i && !decide (i ∈ X)) X :=
  ⟨(List.nodup_append.1 h.nodup).1, fun x hx => (h.mem x).1 (List.mem_append_left _ hx), hm, fun _ _ => rfl⟩
theorem GK.few {U : Nat → Bool} {X can : List Nat} (h : GK n par U X can) : X.length + can.length ≤ n := by
  rw [← List.length_append, ← cnt_mem h.nodup fun x hx => ((h.mem x).1 hx).1]
  exact cnt_le _ _
/-- Where something is left, something can be done. -/
theorem leaf_exists {dep : Nat → Nat} (F : Forest n par dep) {U : Nat → Bool} (h : 0 < cnt U n) : ∃ i, i < n ∧ leafU n par U i := by
  obtain ⟨i0, hi0, hu0⟩ := cnt_pos h
  have key : ∀ d i, n - i = d → i < n → U i = true → ∃ j, j < n ∧ leafU n par U j := by
    intro d
    induction d using Nat.strongRecOn with
    | _ d ih =>
      intro i hd hi hu
      by_cases hk : ∃ k, k < n ∧ U k = true ∧ par k = (i : Int)
      · obtain ⟨k, hkn, hku, hkp⟩ := hk
        have := F.lo k hkn
        exact ih (n - k) (by omega) k rfl hkn hku
      · exact ⟨i, hi, hu, fun k hkn hku e => hk ⟨k, hkn, hku, e⟩⟩
  exact key _ i0 rfl hi0 hu0
/-- Those that can be done, below q. -/
def canU (n : Nat) (par : Nat → Int) (U : Nat → Bool) (q : Nat) : List Nat := (List.range q).filter fun k => U k && (kidsN n par U k == 0)
theorem canU_yes {U : Nat → Bool} {q : Nat} (h : U q = true) (h' : kidsN n par U q = 0) : canU n par U (q + 1) = canU n par U q ++ [q] := by simp [canU, List.range_succ, h, h']
theorem canU_no {U : Nat → Bool} {q : Nat} (h : U q = true → kidsN n par U q ≠ 0) : canU n par U (q + 1) = canU n par U q := by
  rw [canU, List.range_succ, List.filter_append]
  cases hu : U q with
  | false => simp [hu, canU]
  | true => simp [hu, h hu, canU]
theorem canU_length (U : Nat → Bool) (q : Nat) : (canU n par U q).length ≤ q := by
  have := List.length_filter_le (fun k => U k && (kidsN n par U k == 0)) (List.range q)
  simpa [canU] using this
theorem canU_start (U : Nat → Bool) : GK n par U [] (canU n par U n) where
  nodup := by rw [List.nil_append]; exact List.nodup_range.sublist List.filter_sublist
  mem := fun i => by
    rw [List.nil_append, leaf_iff]
    simp [canU]
/-- Kids among the first q. -/
theorem kidsN_succ (q : Nat) (U : Nat → Bool) (i : Nat) : kidsN (q + 1) par U i = kidsN q par U i + (if U q = true ∧ par q = (i : Int) then 1 else 0) := by
  unfold kidsN
  rw [cnt]
  by_cases h1 : U q = true <;> by_cases h2 : par q = (i : Int) <;> simp [h1, h2]
end
theorem ceilD_le_self {a m : Nat} (hm : 1 ≤ m) : ceilD a m ≤ a := (ceilD_le hm).2 (Nat.le_mul_of_pos_right a hm)
/-- The tests that the law makes first. -/
theorem hu_tests {n S r m : Nat} (hm : 1 ≤ m) (hm16 : m ≤ 16) (hn : n ≤ 100000) (hn1 : 1 ≤ n) (hS : S ≤ n) (h1 : S ≤ r) (h2 : n ≤ r * m) (h3 : r ≤ S + ceilD (n - S) m) :
    (S : Int) ≤ r ∧ (n : Int) ≤ wrap64 ((r : Int) * (m : Int)) ∧ (r : Int) ≤ wrap64 ((S : Int) + wrap64 ((wrap64 (wrap64 (wrap64 ((n : Int) - S) + m) - 1)).tdiv m)) := by
  have h4 := ceilD_le_self (a := n - S) hm
  have h5 : r * m ≤ 100000 * 16 := Nat.mul_le_mul (by omega) hm16
  have e1 : (r : Int) * (m : Int) = ((r * m : Nat) : Int) := (Int.natCast_mul r m).symm
  have e2 : wrap64 ((n : Int) - S) = ((n - S : Nat) : Int) := by rw [wrap64_in _ (by omega)]; omega
  have e3 : wrap64 (((n - S : Nat) : Int) + m) = ((n - S + m : Nat) : Int) := by rw [wrap64_in _ (by omega)]; omega
  have e4 : wrap64 (((n - S + m : Nat) : Int) - 1) = ((n - S + m - 1 : Nat) : Int) := by rw [wrap64_in _ (by omega)]; omega
  have e5 : (((n - S + m - 1 : Nat) : Int)).tdiv (m : Int) = ((ceilD (n - S) m : Nat) : Int) := by
    rw [Int.tdiv_eq_ediv_of_nonneg (by omega)]
    unfold ceilD
    exact (Int.natCast_ediv _ _).symm
  rw [e1, e2, e3, e4, e5, wrap64_in ((r * m : Nat) : Int) (by omega), wrap64_in ((ceilD (n - S) m : Nat) : Int) (by omega), wrap64_in _ (by omega)]
  omega
/-! ### Depths -/
theorem depth_le_nodes (t : TreeR) : t.depth ≤ t.nodes := by
  induction t using TreeR.ind with
  | h t ih =>
    rw [depth_eq, nodes_eq]
    have key : ∀ l : List TreeR, (∀ k ∈ l, k.depth ≤ k.nodes) → depthL l ≤ nodesL l := by
      intro l
      induction l with
      | nil => intro _; simp [depthL, nodesL]
      | cons x l ih2 =>
        intro h
        have h1 := h x (by simp)
        have h2 := ih2 fun k hk => h k (by simp [hk])
        simp only [depthL, nodesL]
        omega
    have := key t.kids ih
    omega
theorem preL_depth_of {l : List TreeR} (h : ∀ t ∈ l, ∀ (d : Nat) (up : Int) (a : Nat), (∀ x ∈ preT t d up a, x.2.1 + 1 ≤ d + t.depth) ∧ ∃ x ∈ preT t d up a, x.2.1 + 1 = d + t.depth) :
    ∀ (d : Nat) (up : Int) (a : Nat), (∀ x ∈ preL l d up a, x.2.1 + 1 ≤ d + depthL l) ∧ (l ≠ [] → ∃ x ∈ preL l d up a, x.2.1 + 1 = d + depthL l) := by
  induction l with
  | nil => exact fun d up a => ⟨fun x hx => by simp [preL] at hx, fun h => absurd rfl h⟩
  | cons t l ih =>
    intro d up a
    obtain ⟨h1, x1, hx1, he1⟩ := h t (by simp) d up a
    obtain ⟨h2, h3⟩ := ih (fun k hk => h k (by simp [hk])) d up (a + t.nodes)
    simp only [preL, depthL]
    refine ⟨fun x hx => ?_, fun _ => ?_⟩
    · rcases List.mem_append.1 hx with hx | hx
      · have := h1 x hx; omega
      · have := h2 x hx; omega
    · by_cases hc : depthL l ≤ t.depth
      · exact ⟨x1, List.mem_append_left _ hx1, by omega⟩
      · obtain ⟨x, hx, he⟩ := h3 (fun e => by subst e; simp [depthL] at hc)
        exact ⟨x, List.mem_append_right _ hx, by omega⟩
theorem preT_depth (t : TreeR) : ∀ (d : Nat) (up : Int) (a : Nat), (∀ x ∈ preT t d up a, x.2.1 + 1 ≤ d + t.depth) ∧ ∃ x ∈ preT t d up a, x.2.1 + 1 = d + t.depth := by
  induction t using TreeR.ind with
  | h t ih =>
    intro d up a
    obtain ⟨h1, h2⟩ := preL_depth_of ih (d + 1) (a : Int) (a + 1)
    rw [preT_eq, depth_eq]
    refine ⟨fun x hx => ?_, ?_⟩
    · rcases List.mem_cons.1 hx with rfl | hx
      · show d + 1 ≤ _; omega
      · have := h1 x hx; omega
    · by_cases hk : t.kids = []
      · rw [hk]
        exact ⟨(up, d, 0), by simp, by simp [depthL]⟩
      · obtain ⟨x, hx, he⟩ := h2 hk
        exact ⟨x, List.mem_cons_of_mem _ hx, by omega⟩
theorem depth_pre (t : TreeR) : (∀ i, i < t.nodes → depOf t i ≤ t.depth) ∧ ∃ i, i < t.nodes ∧ depOf t i = t.depth := by
  have hl := preT_length t 1 (-1) 0
  have hd : ∀ (i : Nat) (h : i < (preT t 1 (-1) 0).length), depOf t i = (preT t 1 (-1) 0)[i].2.1 := fun i h => by simp [depOf, h]
  obtain ⟨h1, x, hx, he⟩ := preT_depth t 1 (-1) 0
  refine ⟨fun i hi => ?_, ?_⟩
  · rw [hd i (by omega)]
    have := h1 _ (List.getElem_mem (show i < (preT t 1 (-1) 0).length by omega))
    omega
  · obtain ⟨i, hi, rfl⟩ := List.getElem_of_mem hx
    exact ⟨i, by omega, by rw [hd i hi]; omega⟩
/-! ### The rows -/
def doneL (n : Nat) (U : Nat → Bool) : List Int := (List.range n).map fun i => if U i = true then 0 else 1
def openL (n q : Nat) (par : Nat → Int) (U : Nat → Bool) : List Int := (List.range n).map fun i => (kidsN q par U i : Int)
@[simp] theorem doneL_length (n : Nat) (U : Nat → Bool) : (doneL n U).length = n := by simp [doneL]
@[simp] theorem openL_length (n q : Nat) (par : Nat → Int) (U : Nat → Bool) : (openL n q par U).length = n := by simp [openL]
theorem doneL_get {n : Nat} {U : Nat → Bool} {i : Nat} (h : i < n) : (doneL n U)[i]? = some (if U i = true then 0 else 1) := by simp [doneL, h]
theorem openL_get {n q : Nat} {par : Nat → Int} {U : Nat → Bool} {i : Nat} (h : i < n) : (openL n q par U)[i]? = some (kidsN q par U i : Int) := by simp [openL, h]
theorem doneL_set {n : Nat} {U : Nat → Bool} {x : Nat} (X : List Nat) : (doneL n fun i => U i && !decide (i ∈ X)).set x 1 = doneL n fun i => U i && !decide (i ∈ X ++ [x]) := by
  apply List.ext_getElem?
  intro i
  rw [List.getElem?_set]
  by_cases hi : i < n
  · rw [doneL_get hi, doneL_get hi]
    by_cases e : x = i
    · subst e; simp [hi]
    · rw [if_neg e]
      have : ¬ i = x := fun h => e h.symm
      simp [this]
  · have h1 : (doneL n fun i => U i && !decide (i ∈ X))[i]? = none := by simp [doneL]; omega
    have h2 : (doneL n fun i => U i && !decide (i ∈ X ++ [x]))[i]? = none := by simp [doneL]; omega
    rw [h1, h2]
    split <;> simp; omega
theorem openL_keep {n q : Nat} {par : Nat → Int} {U : Nat → Bool} (h : ¬ (U q = true ∧ 0 ≤ par q)) : openL n (q + 1) par U = openL n q par U := by
  unfold openL
  refine List.map_congr_left fun i _ => ?_
  rw [kidsN_succ, if_neg (fun e => h ⟨e.1, by omega⟩)]
  simp
theorem openL_set {n q u : Nat} {par : Nat → Int} {U : Nat → Bool} (h : U q = true) (hp : par q = (u : Int)) : (openL n q par U).set u ((kidsN q par U u : Int) + 1) = openL n (q + 1) par U := by
  apply List.ext_getElem?
  intro i
  rw [List.getElem?_set]
  by_cases hi : i < n
  · rw [openL_get hi, openL_get hi, kidsN_succ]
    by_cases e : u = i
    · subst e
      rw [if_pos rfl, openL_length, if_pos hi, if_pos ⟨h, hp⟩]
      simp
    · rw [if_neg e, if_neg (fun h' => e (by have := h'.2; omega))]
      simp
  · have h1 : (openL n q par U)[i]? = none := by simp [openL]; omega
    have h2 : (openL n (q + 1) par U)[i]? = none := by simp [openL]; omega
    rw [h1, h2, openL_length]
    by_cases e : u = i
    · subst e; simp [hi]
    · simp [e]
theorem doneL_all (n : Nat) : doneL n (fun _ => true) = List.replicate n 0 := by
  rw [doneL]
  apply List.ext_getElem?
  intro i
  simp only [if_true, List.getElem?_map, List.getElem?_replicate]
  by_cases h : i < n <;> simp [h]
theorem openL_zero (n : Nat) (par : Nat → Int) (U : Nat → Bool) : openL n 0 par U = List.replicate n 0 := by
  rw [openL]
  apply List.ext_getElem?
  intro i
  simp only [kidsN, cnt, List.getElem?_map, List.getElem?_replicate]
  by_cases h : i < n <;> simp [h]
/-- The row of those above. -/
structure UpR (w : World) (ub n : Nat) (par : Nat → Int) : Prop where
  ex : ∃ cur, w.heap[ub]? = some (.cells cur 3 (0, 0)) ∧ ∀ i, i < n → cur[i]? = some (.int .i64 (par i))
theorem UpR.at_ {w : World} {ub n : Nat} {par : Nat → Int} (h : UpR w ub n par) {i : Nat} (hi : i < n) : w.cell? ⟨ub, i, none⟩ = some (.int .i64 (par i)) := by
  obtain ⟨cur, hh, hc⟩ := h.ex
  rw [cell_of_row _ _ _ cur _ (0, 0) hh]; exact hc i hi
theorem UpR.keep {w w' : World} {ub n : Nat} {par : Nat → Int} (h : UpR w ub n par) (hk : w'.heap[ub]? = w.heap[ub]?) : UpR w' ub n par := by
  obtain ⟨cur, hh, hc⟩ := h.ex
  exact ⟨cur, hk.trans hh, hc⟩
theorem upR_of_above {w : World} {base : Nat} {v : Value} {t : TreeR} (h : w.ownsRow base 3 1 v t.nodes (ints (upsOf (preT t 1 (-1) 0)))) :
    ∃ ub c, v = .slice (some ⟨ub, 0, none⟩) t.nodes c ∧ base ≤ ub ∧ ub < w.heap.size ∧ t.nodes ≤ c ∧ UpR w ub t.nodes (parOf t) := by
  have hn := nodes_eq t
  have hl := preT_length t 1 (-1) 0
  rcases h.2 with ⟨_, h0⟩ | ⟨g, cap, cur, rfl, hb, hh, hnc, hcm, hs, ht⟩
  · omega
  · refine ⟨g, cap, rfl, hb, (Array.getElem?_eq_some_iff.1 hh).1, hnc, cur, hh, fun i hi => ?_⟩
    have e : (cur.toList.take (t.nodes * 1))[i]? = (ints (upsOf (preT t 1 (-1) 0)))[i]? := by rw [ht]
    rw [List.getElem?_take_of_lt (by omega), Array.getElem?_toList] at e
    rw [e]
    simp [ints, upsOf, parOf, hl, hi]
/-- append in a region that draws its order. -/
theorem step_append_own {P : Program} {ops : Array Oper} {o : Oper} {a : Act} {w : World} {K : Act → World → Prop} {Q : Exit → Act → World → Prop} {E : Prop}
    (hg : o.guard = none) (s x : Operand) (t : TypeId) (hop : o.op = Op.call { callee := Callee.builtin Builtin.append, args := #[s, x], argTypes := #[t, t] })
    (base : Nat) (e : TypeId) (i : TypeInfo) (z : Value) (size bytes : Nat) (h1 : P.underlying t = some (.slice e)) (h2 : P.info? e = some i) (h3 : i.zero = some z) (h4 : i.size = size) (h5 : i.bytes = bytes) (h6 : z.cells.size = size) (h7 : 0 < size)
    (v : Value) (n : Nat) (xs : List Value) (hs : a.eval s = v) (hown : w.ownsRow base e size v n xs)
    (ad : Addr) (m c : Nat) (news : List Value) (hx : a.eval x = .slice (some ad) m c) (hn : news.length = m * size) (hc : ∀ j u, news[j]? = some u → w.cell? (ad.add j) = some u) (h1c : ∀ u ∈ news, u.oneCell' = true)
    (b1 : n + m ≤ maxLen) (b2 : (n + m) * bytes ≤ 140737488355328) (hbase : base ≤ w.heap.size)
    (hK : ∀ v' w', w'.ownsRow base e size v' (n + m) (xs ++ news) → w.grownBy w' v.ownBlock → (v'.ownBlock = v.ownBlock ∨ v'.ownBlock = some w.heap.size) → K (a.put o.dst v') w') :
    if Region.wanted o (yielded ops a.tmps) = true then Oper.wp P o a w K Q else E := by
  have hw : Region.wanted o (yielded ops a.tmps) = true := by simp [Region.wanted, hg]
  rw [if_pos hw]
  obtain ⟨v', w', hr, h2', h3', _, h5'⟩ := run_append_own_at (P := P) w base t o.type e i z size bytes h1 h2 h3 h4 h5 h6 h7 v n xs hown ad m c news hn hc h1c b1 b2 hbase
  unfold Oper.wp execOp
  simp only [hop, resolve, invoke, builtin, Sem.run_bind, Sem.run_pure, Result.andThen_ok, List.map_toArray, List.map_cons, List.map_nil, hs, hx, hr]
  exact hK v' w' h2' h3' h5'
/-- The state of the law's loops. -/
structure LS (w wr : World) (ub db n : Nat) (par : Nat → Int) (U : Nat → Bool) : Prop where
  below : Below w.heap.size w wr
  up : UpR wr ub n par
  done : Blk wr db 3 (ints (doneL n U))
  hl : w.heap.size ≤ ub
  hb : ub < db
  hx : db < wr.heap.size
section
variable {w wr w3 : World} {ub db n : Nat} {par : Nat → Int} {U : Nat → Bool}
theorem LS.move (h : LS w wr ub db n par U) {row : Option Nat} (hg : wr.grownBy w3 row) (hr : ∀ g, row = some g → db + 1 ≤ g) : LS w w3 ub db n par U where
  below := h.below.grown hg h.below.size (fun k hk => by have := hr k hk; have := h.hl; have := h.hb; omega)
  up := h.up.keep (hg.block ub (by have := h.hb; have := h.hx; omega) fun e => by have := hr ub e.symm; have := h.hb; omega)
  done := h.done.grown hg fun e => by have := hr db e.symm; omega
  hl := h.hl
  hb := h.hb
  hx := Nat.lt_of_lt_of_le h.hx hg.size
theorem LS.alloc (h : LS w wr ub db n par U) (o : Obj) : LS w (wr.alloc o) ub db n par U :=
  h.move (row := none) ⟨rfl, rfl, rfl, by simp, fun k hk _ => Below.heap_alloc wr o k hk⟩ (fun g e => by cases e)
theorem LS.set (h : LS w wr ub db n par U) {p : Addr} (hp : db + 1 ≤ p.block) (u : Value) : LS w (wr.setCell p u) ub db n par U :=
  h.move (row := some p.block) ⟨rfl, rfl, rfl, by simp [World.setCell], fun k _ hne => Below.heap_setCell wr _ _ k fun e => hne (by rw [e])⟩ (fun g e => by cases e; exact hp)
theorem LS.mark {X : List Nat} {x : Nat} (h : LS w wr ub db n par fun i => U i && !decide (i ∈ X)) : LS w (wr.setCell ⟨db, x, none⟩ (.int .i64 1)) ub db n par fun i => U i && !decide (i ∈ X ++ [x]) where
  below := h.below.setCell (by have := h.hl; have := h.hb; show w.heap.size ≤ db; omega) _
  up := h.up.keep (Below.heap_setCell wr _ _ ub (by have := h.hb; simp; omega))
  done := by
    have := h.done.set_ x (.int .i64 1)
    rwa [ints_set, doneL_set] at this
  hl := h.hl
  hb := h.hb
  hx := by simpa [World.setCell] using h.hx
end
/-- What holds between two rounds of the law. -/
def LOut (w wr : World) (ub db n m : Nat) (par : Nat → Int) (gk r tu : Nat) : Prop :=
  ∃ U : Nat → Bool, LS w wr ub db n par U ∧ cnt U n = gk ∧ tu + gk ≤ n ∧ r + gk ≤ n ∧ ∀ s, AnyRun n m par U s → AnyRun n m par (fun _ => true) (r + s)
theorem LOut.next {w wr : World} {ub db n m gk r tu lf : Nat} {par : Nat → Int} {dep : Nat → Nat} {U : Nat → Bool} {X can : List Nat} (F : Forest n par dep) (hm : 1 ≤ m) (hls : LS w wr ub db n par fun i => U i && !decide (i ∈ X)) (hgk : GK n par U X can)
    (hX : X.length ≤ m) (hfull : X.length = m ∨ can = []) (hcnt : cnt U n = gk) (hgk0 : 0 < gk) (hr : r + gk ≤ n) (hlf : lf + X.length = cnt U n) (htl : tu + lf ≤ n) (hrun : ∀ s, AnyRun n m par U s → AnyRun n m par (fun _ => true) (r + s)) :
    lf < gk ∧ LOut w wr ub db n m par lf (r + 1) tu := by
  have h1 := hgk.cnt
  have h2 : 0 < X.length := by
    rcases hfull with h | h
    · omega
    · subst h
      obtain ⟨i, hi, hl⟩ := leaf_exists F (show 0 < cnt U n by omega)
      have := (hgk.mem i).2 ⟨hi, hl⟩
      rw [List.append_nil] at this
      exact List.length_pos_of_mem this
  refine ⟨by omega, _, hls, by omega, by omega, by omega, fun s h => ?_⟩
  have h3 := hrun (s + 1) (.cons (hgk.rnd hX) h)
  rwa [show r + (s + 1) = r + 1 + s by omega] at h3
/-- What the two appends read, that leave an element out. -/
theorem OffR.parts {w : World} {base g o c i : Nat} {l : List Nat} (h : OffR w base (.slice (some ⟨g, o, none⟩) l.length c) (nats l)) (hi : i < l.length) :
    (∀ j u, (ints (nats (l.take i)))[j]? = some u → w.cell? ((⟨g, o, none⟩ : Addr).add j) = some u) ∧
    (∀ k, (c ≠ i + 1 → k = o + (i + 1)) → ∀ j u, (ints (nats (l.drop (i + 1))))[j]? = some u → w.cell? ((⟨g, k, none⟩ : Addr).add j) = some u) := by
  have hc : ∀ (j : Nat) (hj : j < l.length), w.cell? ⟨g, o + j, none⟩ = some (.int .i64 (l[j] : Nat)) := fun j hj => by
    obtain ⟨g', o', c', e, hc⟩ := h.cells j (by rw [length_nats]; exact hj)
    simp only [Value.slice.injEq, Option.some.injEq, Addr.mk.injEq, and_true] at e
    obtain ⟨⟨rfl, rfl⟩, _⟩ := e
    rw [hc]
    simp [nats]
  have hlc : l.length ≤ c := by
    obtain ⟨A, c', e, h1, _⟩ := h.form
    simp only [Value.slice.injEq] at e
    obtain ⟨_, _, rfl⟩ := e
    rwa [length_nats] at h1
  refine ⟨fun j u hu => ?_, fun k hk j u hu => ?_⟩
  · obtain ⟨hj, rfl⟩ := List.getElem?_eq_some_iff.1 hu
    have hj' : j < i ∧ j < l.length := by simp [ints] at hj; omega
    rw [Addr.add_lit', hc j hj'.2]
    simp [ints, nats]
  · obtain ⟨hj, rfl⟩ := List.getElem?_eq_some_iff.1 hu
    have hj' : i + 1 + j < l.length := by simp [ints] at hj; omega
    rw [hk (by omega), Addr.add_lit', Nat.add_assoc, hc (i + 1 + j) hj']
    simp [ints, nats]
end Go.Proofs.Ytokjchcmjglbhaa
