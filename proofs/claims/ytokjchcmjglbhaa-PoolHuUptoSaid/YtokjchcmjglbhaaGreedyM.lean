/- Greedy's memory and its plain steps: the row of spots, the list of those that can be done, what one node's end does. No conditions. -/
import Derived.Test.YtokjchcmjglbhaaOff
import Derived.Test.YtokjchcmjglbhaaSortF
import Derived.Test.YtokjchcmjglbhaaSpot2
import Derived.Test.YtokjchcmjglbhaaPre
import Derived.Test.YtokjchcmjglbhaaRound
namespace Go.Proofs.Ytokjchcmjglbhaa
open Go.ChangeShapes Go.WideShapes Go.ChangeAt Go.RowKit Go.Sort

/-! ### Plain -/
theorem cnt_countP {α : Type} (q : α → Bool) (L : List α) : ∀ {n : Nat} (p : Nat → Bool), n ≤ L.length → (∀ (i : Nat) (h : i < L.length), p i = q L[i]) → cnt p n = (L.take n).countP q
  | 0, _, _, _ => by simp [cnt]
  | n + 1, p, hn, hp => by
    rw [cnt, cnt_countP q L p (by omega) hp, List.take_succ_eq_append_getElem (by omega), List.countP_append, hp n (by omega)]
    simp [List.countP_cons]
theorem kids_all (t : TreeR) (i : Nat) (h : i < (preT t 1 (-1) 0).length) : kidsN t.nodes (parOf t) (fun _ => true) i = (preT t 1 (-1) 0)[i].2.2 := by
  have ok := (preT_ok t 1 (-1) 0 (by omega)).kids i h
  have hl := preT_length t 1 (-1) 0
  rw [← ok]
  unfold kidsN
  rw [cnt_countP (fun x => decide (x.1 = ((0 + i : Nat) : Int))) (preT t 1 (-1) 0) _ (by omega) (fun k hk => by simp [parOf, hk]), List.take_of_length_le (by omega)]
section
variable {n m : Nat} {par : Nat → Int} {dep : Nat → Nat}
theorem mem_mid {i x : Nat} {a b : List Nat} (h : i ∈ a ++ b) : i ∈ a ++ x :: b := by
  rcases List.mem_append.1 h with h | h
  · exact List.mem_append_left _ h
  · exact List.mem_append_right _ (List.mem_cons_of_mem _ h)
theorem mem_out {i x : Nat} {a b : List Nat} (h : i ∈ a ++ x :: b) (hn : i ≠ x) : i ∈ a ++ b := by
  rcases List.mem_append.1 h with h | h
  · exact List.mem_append_left _ h
  · rcases List.mem_cons.1 h with h | h
    · exact absurd h hn
    · exact List.mem_append_right _ h
/-- Between two ends of nodes: U is not done; can and rest are its leaves; left counts the kids that remain. -/
structure GJ (n : Nat) (par : Nat → Int) (U : Nat → Bool) (left : Nat → Nat) (can rest : List Nat) : Prop where
  closed : closedU n par U
  left : ∀ i, i < n → left i = kidsN n par U i
  nodup : (can ++ rest).Nodup
  mem : ∀ i, i ∈ can ++ rest ↔ i < n ∧ leafU n par U i
theorem delU_out (U : Nat → Bool) (l : List Nat) (x : Nat) : delU (fun i => U i && !decide (i ∈ l)) x = fun i => U i && !decide (i ∈ l ++ [x]) := by
  funext i
  by_cases h1 : i ∈ l <;> by_cases h2 : i = x <;> simp [delU, h1, h2]
theorem GJ.del_closed {U : Nat → Bool} {left : Nat → Nat} {can rest : List Nat} {x : Nat} (h : GJ n par U left can (x :: rest)) : x < n ∧ leafU n par U x ∧ closedU n par (delU U x) := by
  have hx := (h.mem x).1 (by simp)
  refine ⟨hx.1, hx.2, fun k hk hu hp => ?_⟩
  simp only [delU, Bool.and_eq_true, Bool.not_eq_true', decide_eq_false_iff_not] at hu ⊢
  refine ⟨h.closed k hk hu.1 hp, fun e => ?_⟩
  have := hx.2.2 k hk hu.1
  omega
theorem GJ.top {U : Nat → Bool} {left : Nat → Nat} {can rest : List Nat} {x : Nat} (h : GJ n par U left can (x :: rest)) (hp : par x < 0) : GJ n par (delU U x) left can rest := by
  obtain ⟨hx, hl, hc⟩ := h.del_closed
  have hnd := h.nodup
  refine ⟨hc, fun i hi => ?_, (List.perm_middle.nodup_iff.1 hnd).of_cons, fun i => ?_⟩
  · rw [h.left i hi, kids_del (i := i) hx hl.1, if_neg (by omega), Nat.add_zero]
  · have h1 := h.mem i
    rw [leaf_del h.closed hx hl]
    have hxn : x ∉ can ++ rest := (List.nodup_cons.1 (List.perm_middle.nodup_iff.1 hnd)).1
    constructor
    · intro hi
      have h2 := h1.1 (mem_mid hi)
      exact ⟨h2.1, .inl ⟨fun e => hxn (e ▸ hi), h2.2⟩⟩
    · rintro ⟨hi, h2 | h2⟩
      · exact mem_out (h1.2 ⟨hi, h2.2⟩) h2.1
      · omega
theorem GJ.up {U : Nat → Bool} {left : Nat → Nat} {can rest : List Nat} {x u : Nat} (F : Forest n par dep) (h : GJ n par U left can (x :: rest)) (hp : par x = (u : Int)) :
    1 ≤ left u ∧ u < n ∧ GJ n par (delU U x) (fun k => if k = u then left u - 1 else left k) (if left u - 1 = 0 then can ++ [u] else can) rest := by
  obtain ⟨hx, hl, hc⟩ := h.del_closed
  have hnd := h.nodup
  have hlo := F.lo x hx
  have hu : u < n := by omega
  have hk := kids_del (par := par) (n := n) (i := u) hx hl.1
  rw [if_pos hp] at hk
  have hleft := h.left u hu
  have hxn : x ∉ can ++ rest := (List.nodup_cons.1 (List.perm_middle.nodup_iff.1 hnd)).1
  have hnd' := (List.perm_middle.nodup_iff.1 hnd).of_cons
  have hun : u ∉ can ++ rest := fun hm => by
    have h1 := (h.mem u).1 (mem_mid hm)
    exact h1.2.2 x hx hl.1 hp
  refine ⟨by omega, hu, hc, fun i hi => ?_, ?_, fun i => ?_⟩
  · by_cases e : i = u
    · subst e; rw [if_pos rfl]; omega
    · rw [if_neg e, h.left i hi, kids_del (i := i) hx hl.1, if_neg (by omega), Nat.add_zero]
  · split
    · rw [List.append_assoc, List.singleton_append]
      exact List.perm_middle.nodup_iff.2 (List.nodup_cons.2 ⟨hun, hnd'⟩)
    · exact hnd'
  · rw [leaf_del h.closed hx hl]
    have h1 := h.mem i
    have hmem : i ∈ (if left u - 1 = 0 then can ++ [u] else can) ++ rest ↔ i ∈ can ++ rest ∨ (i = u ∧ left u - 1 = 0) := by
      split
      · rename_i h0
        rw [List.append_assoc, List.singleton_append]
        constructor
        · intro hi
          by_cases e : i = u
          · exact .inr ⟨e, h0⟩
          · exact .inl (mem_out hi e)
        · rintro (hi | ⟨rfl, _⟩)
          · exact mem_mid hi
          · exact List.mem_append_right _ List.mem_cons_self
      · rename_i h0
        exact ⟨.inl, fun hi => hi.resolve_right fun e => h0 e.2⟩
    rw [hmem]
    constructor
    · rintro (hi | ⟨rfl, h0⟩)
      · have h2 := h1.1 (mem_mid hi)
        exact ⟨h2.1, .inl ⟨fun e => hxn (e ▸ hi), h2.2⟩⟩
      · exact ⟨hu, .inr ⟨hp, by omega, fun e => by omega⟩⟩
    · rintro ⟨hi, h2 | ⟨h2, h3, h4⟩⟩
      · exact .inl (mem_out (h1.2 ⟨hi, h2.2⟩) h2.1)
      · right
        have : i = u := by omega
        subst this
        exact ⟨rfl, by omega⟩
/-- Where none can be done all is done. -/
theorem GJ.over {U : Nat → Bool} {left : Nat → Nat} (F : Forest n par dep) (h : GJ n par U left [] []) : ∀ i, i < n → U i = false := by
  have key : ∀ d i, n - i = d → i < n → U i = false := by
    intro d
    induction d using Nat.strongRecOn with
    | _ d ih =>
      intro i hd hi
      cases hu : U i with
      | false => rfl
      | true =>
        have : i ∈ ([] : List Nat) ++ [] := (h.mem i).2 ⟨hi, hu, fun k hk hku he => by
          have := F.lo k hk
          rw [ih (n - k) (by omega) k rfl hk] at hku
          cases hku⟩
        simp at this
  exact fun i hi => key _ i rfl hi
end
theorem GJ.length {n : Nat} {par : Nat → Int} {U : Nat → Bool} {left : Nat → Nat} {can rest : List Nat} (h : GJ n par U left can rest) : can.length + rest.length ≤ cnt U n := by
  rw [← List.length_append, ← cnt_mem h.nodup fun x hx => ((h.mem x).1 hx).1]
  exact cnt_mono fun i _ hi => ((h.mem i).1 (by simpa using hi)).2.1
theorem cnt_le (p : Nat → Bool) (n : Nat) : cnt p n ≤ n := by
  have := cnt_mono (p := p) (q := fun _ => true) (n := n) fun _ _ _ => rfl
  rwa [cnt_true] at this
theorem kidsN_le (n : Nat) (par : Nat → Int) (U : Nat → Bool) (i : Nat) : kidsN n par U i ≤ n := cnt_le _ _
/-- Those that have no kids, below q. -/
def canOf (left : Nat → Nat) (q : Nat) : List Nat := (List.range q).filter fun k => left k == 0
theorem canOf_yes {left : Nat → Nat} {q : Nat} (h : left q = 0) : canOf left (q + 1) = canOf left q ++ [q] := by simp [canOf, List.range_succ, h]
theorem canOf_no {left : Nat → Nat} {q : Nat} (h : left q ≠ 0) : canOf left (q + 1) = canOf left q := by simp [canOf, List.range_succ, h]
theorem canOf_length (left : Nat → Nat) (q : Nat) : (canOf left q).length ≤ q := by
  have := List.length_filter_le (fun k => left k == 0) (List.range q)
  simpa [canOf] using this
theorem canOf_start {n : Nat} {par : Nat → Int} : GJ n par (fun _ => true) (kidsN n par fun _ => true) (canOf (kidsN n par fun _ => true) n) [] where
  closed := fun _ _ _ _ => rfl
  left := fun _ _ => rfl
  nodup := by rw [List.append_nil]; exact List.nodup_range.sublist List.filter_sublist
  mem := fun i => by
    rw [List.append_nil, leaf_iff]
    simp [canOf]
theorem nats_append (a b : List Nat) : nats (a ++ b) = nats a ++ nats b := by simp [nats]
/-! ### Memory -/
structure RowS (w : World) (lb n : Nat) (par : Nat → Int) (dep left : Nat → Nat) : Prop where
  ex : ∃ cur, w.heap[lb]? = some (.cells cur 41 (0, 0)) ∧ ∀ i, i < n → cur[i * 3]? = some (.int .i64 (dep i)) ∧ cur[i * 3 + 1]? = some (.int .i64 (par i)) ∧ cur[i * 3 + 2]? = some (.int .i64 (left i))
section
variable {w w' : World} {lb n : Nat} {par : Nat → Int} {dep left : Nat → Nat}
theorem RowS.dp (h : RowS w lb n par dep left) {i : Nat} (hi : i < n) : w.cell? ⟨lb, i * 3, none⟩ = some (.int .i64 (dep i)) := by
  obtain ⟨cur, hh, hc⟩ := h.ex
  rw [cell_of_row _ _ _ cur _ (0, 0) hh]; exact (hc i hi).1
theorem RowS.up (h : RowS w lb n par dep left) {i : Nat} (hi : i < n) : w.cell? ⟨lb, i * 3 + 1, none⟩ = some (.int .i64 (par i)) := by
  obtain ⟨cur, hh, hc⟩ := h.ex
  rw [cell_of_row _ _ _ cur _ (0, 0) hh]; exact (hc i hi).2.1
theorem RowS.lft (h : RowS w lb n par dep left) {i : Nat} (hi : i < n) : w.cell? ⟨lb, i * 3 + 2, none⟩ = some (.int .i64 (left i)) := by
  obtain ⟨cur, hh, hc⟩ := h.ex
  rw [cell_of_row _ _ _ cur _ (0, 0) hh]; exact (hc i hi).2.2
theorem RowS.frozen (h : RowS w lb n par dep left) (k : Nat) : w.frozen? ⟨lb, k, none⟩ = false := by
  obtain ⟨cur, hh, _⟩ := h.ex
  simp [World.frozen?, hh]
theorem RowS.keep (h : RowS w lb n par dep left) (hk : w'.heap[lb]? = w.heap[lb]?) : RowS w' lb n par dep left := by
  obtain ⟨cur, hh, hc⟩ := h.ex
  exact ⟨cur, hk.trans hh, hc⟩
theorem RowS.congr {left' : Nat → Nat} (h : RowS w lb n par dep left) (e : ∀ i, i < n → left' i = left i) : RowS w lb n par dep left' := by
  obtain ⟨cur, hh, hc⟩ := h.ex
  exact ⟨cur, hh, fun i hi => by rw [e i hi]; exact hc i hi⟩
theorem RowS.set (h : RowS w lb n par dep left) {u : Nat} (hu : u < n) (x : Nat) : RowS (w.setCell ⟨lb, u * 3 + 2, none⟩ (.int .i64 x)) lb n par dep (fun k => if k = u then x else left k) := by
  obtain ⟨cur, hh, hc⟩ := h.ex
  refine ⟨cur.setIfInBounds (u * 3 + 2) (.int .i64 x), by simp [World.setCell, Array.getElem?_modify, hh], fun i hi => ?_⟩
  obtain ⟨h1, h2, h3⟩ := hc i hi
  refine ⟨by rw [Array.getElem?_setIfInBounds_ne (by omega)]; exact h1, by rw [Array.getElem?_setIfInBounds_ne (by omega)]; exact h2, ?_⟩
  by_cases e : i = u
  · subst e
    rw [if_pos rfl, Array.getElem?_setIfInBounds_self_of_lt (Array.getElem?_eq_some_iff.1 h3).1]
  · rw [if_neg e, Array.getElem?_setIfInBounds_ne (by omega)]; exact h3
end
theorem spotC_get : ∀ (l : List (Int × Nat × Nat)) (i : Nat) (h : i < l.length), (spotC l)[i * 3]? = some (.int .i64 l[i].2.1) ∧ (spotC l)[i * 3 + 1]? = some (.int .i64 l[i].1) ∧ (spotC l)[i * 3 + 2]? = some (.int .i64 l[i].2.2)
  | x :: l, 0, _ => by simp [spotC]
  | x :: l, i + 1, h => by
    have ih := spotC_get l i (by simpa using h)
    have e : ∀ k, (spotC (x :: l))[(i + 1) * 3 + k]? = (spotC l)[i * 3 + k]? := fun k => by
      rw [spotC, List.getElem?_append_right (by simp; omega)]
      congr 1
      simp; omega
    simp only [List.getElem_cons_succ]
    exact ⟨by have := e 0; rw [Nat.add_zero, Nat.add_zero] at this; rw [this]; exact ih.1, by rw [e 1]; exact ih.2.1, by rw [e 2]; exact ih.2.2⟩
theorem rowS_of_spots {w : World} {base : Nat} {v : Value} {t : TreeR} (h : w.ownsRow base 41 3 v t.nodes (spotC (preT t 1 (-1) 0))) :
    ∃ lb cc, v = .slice (some ⟨lb, 0, none⟩) t.nodes cc ∧ base ≤ lb ∧ lb < w.heap.size ∧ t.nodes ≤ cc ∧ RowS w lb t.nodes (parOf t) (depOf t) (kidsN t.nodes (parOf t) fun _ => true) := by
  have hn := nodes_eq t
  have hl := preT_length t 1 (-1) 0
  rcases h.2 with ⟨_, h0⟩ | ⟨g, cap, cur, rfl, hb, hh, hnc, hcm, hs, ht⟩
  · omega
  · refine ⟨g, cap, rfl, hb, (Array.getElem?_eq_some_iff.1 hh).1, hnc, cur, hh, fun i hi => ?_⟩
    have hc := spotC_get (preT t 1 (-1) 0) i (by omega)
    have e : ∀ k, k < t.nodes * 3 → cur[k]? = (spotC (preT t 1 (-1) 0))[k]? := fun k hk => by
      rw [← ht, List.getElem?_take_of_lt hk, Array.getElem?_toList]
    have hd : depOf t i = (preT t 1 (-1) 0)[i].2.1 := by simp [depOf, hl, hi]
    have hp : parOf t i = (preT t 1 (-1) 0)[i].1 := by simp [parOf, hl, hi]
    rw [e _ (by omega), e _ (by omega), e _ (by omega), kids_all t i (by omega), hd, hp]
    exact hc
/-- The state of Greedy's loops. -/
structure GS (w wr : World) (bx lb n cc : Nat) (par : Nat → Int) (dep left : Nat → Nat) (v : Value) (can : List Nat) : Prop where
  below : Below w.heap.size w wr
  box : wr.cell? ⟨bx, 0, none⟩ = some (.slice (some ⟨lb, 0, none⟩) n cc)
  row : RowS wr lb n par dep left
  can : OffR wr (bx + 1) v (nats can)
  hl : w.heap.size ≤ lb
  hb : lb < bx
  hx : bx < wr.heap.size
section
variable {w wr w3 : World} {bx lb n cc : Nat} {par : Nat → Int} {dep left : Nat → Nat} {v v' : Value} {can can' : List Nat}
theorem GS.move (h : GS w wr bx lb n cc par dep left v can) {row : Option Nat} (hg : wr.grownBy w3 row) (hr : ∀ g, row = some g → bx + 1 ≤ g) (hc : OffR w3 (bx + 1) v' (nats can')) : GS w w3 bx lb n cc par dep left v' can' where
  below := h.below.grown hg h.below.size (fun k hk => by have := hr k hk; have := h.hl; have := h.hb; omega)
  box := (World.cell?_of_block (a := ⟨bx, 0, none⟩) (hg.block bx h.hx fun e => by have := hr bx e.symm; omega)).trans h.box
  row := h.row.keep (hg.block lb (by have := h.hb; have := h.hx; omega) fun e => by have := hr lb e.symm; have := h.hb; omega)
  can := hc
  hl := h.hl
  hb := h.hb
  hx := Nat.lt_of_lt_of_le h.hx hg.size
theorem GS.alloc (h : GS w wr bx lb n cc par dep left v can) (o : Obj) : GS w (wr.alloc o) bx lb n cc par dep left v can :=
  h.move (row := none) ⟨rfl, rfl, rfl, by simp, fun k hk _ => Below.heap_alloc wr o k hk⟩ (fun g e => by cases e) (h.can.alloc o)
theorem GS.form (h : GS w wr bx lb n cc par dep left v can) : ∃ A c, v = .slice A can.length c ∧ can.length ≤ c ∧ c ≤ maxLen := by
  have := h.can.form
  rwa [length_nats] at this
theorem GS.lt (h : GS w wr bx lb n cc par dep left v can) : ∀ g, v.ownBlock = some g → bx + 1 ≤ g := fun g hg => (h.can.lt g hg).1
theorem GS.push (h : GS w wr bx lb n cc par dep left v can) (hg : wr.grownBy w3 v.ownBlock) (hc : OffR w3 (bx + 1) v' (nats can')) : GS w w3 bx lb n cc par dep left v' can' := h.move hg h.lt hc
theorem GS.newer (h : GS w wr bx lb n cc par dep left v can) (hb : Below wr.heap.size wr w3) : GS w w3 bx lb n cc par dep left v can :=
  h.move (row := none) ⟨hb.os, hb.tape, hb.output, hb.size, fun k hk _ => hb.block k hk⟩ (fun g e => by cases e) (h.can.keep fun g hg => hb.block g (h.can.lt g hg).2)
theorem GS.cut {g o len c k : Nat} (h : GS w wr bx lb n cc par dep left (.slice (some ⟨g, o, none⟩) len c) can) (hl : can.length = len) (hk : k ≤ len) :
    GS w wr bx lb n cc par dep left (.slice (some ⟨g, if c = k then o else o + k, none⟩) (len - k) (c - k)) (can.drop k) where
  below := h.below
  box := h.box
  row := h.row
  can := by
    subst hl
    have h1 : OffR wr (bx + 1) (.slice (some ⟨g, o, none⟩) (nats can).length c) (nats can) := by rw [length_nats]; exact h.can
    have h2 := h1.cut (k := k) (by rw [length_nats]; exact hk)
    rw [length_nats] at h2
    have e : (if c = k then (some ⟨g, o, none⟩ : Option Addr) else (some ⟨g, o, none⟩ : Option Addr).map (·.add (k * 1))) = some ⟨g, if c = k then o else o + k, none⟩ := by
      split <;> simp [Addr.add_lit']
    rw [e] at h2
    rw [show nats (can.drop k) = (nats can).drop k by simp [nats]]
    exact h2
  hl := h.hl
  hb := h.hb
  hx := h.hx
theorem GS.cong {left' : Nat → Nat} (h : GS w wr bx lb n cc par dep left v can) (e : ∀ i, i < n → left' i = left i) : GS w wr bx lb n cc par dep left' v can := { h with row := h.row.congr e }
theorem GS.set (h : GS w wr bx lb n cc par dep left v can) {u : Nat} (hu : u < n) (x : Nat) : GS w (wr.setCell ⟨lb, u * 3 + 2, none⟩ (.int .i64 x)) bx lb n cc par dep (fun k => if k = u then x else left k) v can where
  below := h.below.setCell (by exact h.hl) _
  box := (World.cell?_setCell_other _ _ _ _ (fun e => by simp at e)).trans h.box
  row := h.row.set hu x
  can := h.can.keep fun g hg => Below.heap_setCell wr _ _ g (fun e => by have := h.lt g hg; have := h.hb; simp at e; omega)
  hl := h.hl
  hb := h.hb
  hx := by simpa [World.setCell] using h.hx
end
/-- What holds within a round: j of T are done. -/
def GIn (w wr : World) (bx lb n cc : Nat) (par : Nat → Int) (dep : Nat → Nat) (U : Nat → Bool) (T : List Nat) (g4 c4 j : Nat) (v : Value) : Prop :=
  ∃ (left : Nat → Nat) (can : List Nat), GS w wr bx lb n cc par dep left v can ∧ GJ n par (fun i => U i && !decide (i ∈ T.take j)) left can (T.drop j) ∧ OffR wr (bx + 1) (.slice (some ⟨g4, 0, none⟩) T.length c4) (nats T) ∧
    (∀ g, v.ownBlock = some g → g ≠ g4) ∧ g4 < wr.heap.size ∧ bx + 1 ≤ g4
theorem GJ.split {n : Nat} {par : Nat → Int} {U : Nat → Bool} {left : Nat → Nat} {can S : List Nat} (h : GJ n par U left can []) (hp : S.Perm can) (m : Nat) : GJ n par (fun i => U i && !decide (i ∈ (S.take m).take 0)) left (S.drop m) ((S.take m).drop 0) := by
  have e : (fun i => U i && !decide (i ∈ (S.take m).take 0)) = U := by funext i; simp
  rw [e, List.drop_zero]
  have hp2 : (S.drop m ++ S.take m).Perm can := (List.perm_append_comm.trans (by rw [List.take_append_drop])).trans hp
  have hn := h.nodup
  rw [List.append_nil] at hn
  exact ⟨h.closed, h.left, hp2.nodup_iff.2 hn, fun i => by have := h.mem i; rw [List.append_nil] at this; rw [hp2.mem_iff]; exact this⟩
theorem GJ.round {n m mm : Nat} {par : Nat → Int} {dep : Nat → Nat} {U : Nat → Bool} {left : Nat → Nat} {can S : List Nat} (h : GJ n par U left can []) (hp : S.Perm can) (hs : S.Pairwise fun a b => (dep b : Int) ≤ dep a) (hmm : min m can.length = mm) (h0 : 0 < mm) :
    cnt (fun i => U i && !decide (i ∈ S.take mm)) n + 1 ≤ cnt U n ∧ ∀ r', HuRun n m par dep (fun i => U i && !decide (i ∈ S.take mm)) r' → HuRun n m par dep U (r' + 1) := by
  have hl := hp.length_eq
  have hn := h.nodup
  rw [List.append_nil] at hn
  have hnS := hp.nodup_iff.2 hn
  have hmem : ∀ i, i ∈ S ↔ i < n ∧ leafU n par U i := fun i => by have := h.mem i; rw [List.append_nil] at this; rw [hp.mem_iff]; exact this
  have htake : S.take m = S.take mm := by
    rw [List.take_eq_take_iff]
    omega
  have hT : (S.take mm).length = mm := by rw [List.length_take]; omega
  have hTm : ∀ x ∈ S.take mm, x < n ∧ leafU n par U x := fun x hx => (hmem x).1 (List.mem_of_mem_take hx)
  have hTn : (S.take mm).Nodup := hnS.sublist (List.take_sublist _ _)
  have hc := cnt_split (p := U) (q := fun i => decide (i ∈ S.take mm)) (n := n)
  have h1 : cnt (fun i => U i && decide (i ∈ S.take mm)) n = mm := by
    refine Eq.trans (cnt_congr (q := fun i => decide (i ∈ S.take mm)) fun i _ => ?_) ((cnt_mem hTn fun x hx => (hTm x hx).1).trans hT)
    by_cases hi : i ∈ S.take mm
    · rw [(hTm i hi).2.1, Bool.true_and]
    · rw [decide_eq_false hi, Bool.and_false]
  refine ⟨by omega, fun r' hr => ?_⟩
  have hu := hu_round (n := n) (m := m) (par := par) (dep := dep) hnS hmem (hs.imp fun h => by omega)
  rw [htake] at hu
  obtain ⟨x, hx⟩ := List.exists_mem_of_length_pos (show 0 < (S.take mm).length by omega)
  exact .cons ⟨x, (hTm x hx).1, (hTm x hx).2.1⟩ hu hr
/-- What holds between two rounds: gk bounds what is left to do. -/
def GInv (w wr : World) (bx lb n cc m : Nat) (par : Nat → Int) (dep : Nat → Nat) (gk r : Nat) (v : Value) : Prop :=
  ∃ (U : Nat → Bool) (left : Nat → Nat) (can : List Nat), GS w wr bx lb n cc par dep left v can ∧ GJ n par U left can [] ∧ cnt U n ≤ gk ∧ ∀ r', HuRun n m par dep U r' → HuRun n m par dep (fun _ => true) (r + r')
end Go.Proofs.Ytokjchcmjglbhaa
