/- Actors as they lie in actor.Run. No program; no conditions. -/
import Derived.Test.YticdjkkcfdbdcaaAcH
import Derived.Test.YticdjkkcfdbdcaaAcK0
import Derived.Test.YticdjkkcfdbdcaaPhU
namespace Go.Proofs.Yticdjkkcfdbdcaa
open Go.ChangeShapes Go.WideShapes Go.ChangeAt Go.RowKit Go.Conc Go.ConcN
/-- An actor: its number, its maps' blocks, what they hold, what it sent. -/
structure AL where
  num : Int
  rb : Nat
  cb : Nat
  ra : Assoc
  ca : Assoc
  sv : Value
  sent : List LetR
def AL.cells (x : AL) : List Value := [.int .i64 x.num, .map (some x.rb), .map (some x.cb), x.sv]
def cellsA (l : List AL) : List Value := l.flatMap AL.cells
theorem cellsA_length (l : List AL) : (cellsA l).length = l.length * 4 := flat_len (f := AL.cells) (s := 4) (fun _ => rfl) l
theorem cellsA_at (l : List AL) (k : Nat) (h : k < l.length) (i : Nat) (hi : i < 4) : (cellsA l)[k * 4 + i]? = l[k].cells[i]? := flat_at (f := AL.cells) (s := 4) (fun _ => rfl) l k i h hi
theorem cellsA_inv {l : List AL} {i : Nat} {v : Value} (h : (cellsA l)[i]? = some v) : ∃ (k : Nat) (hk : k < l.length) (j : Nat), j < 4 ∧ i = k * 4 + j ∧ l[k].cells[j]? = some v := by
  have hi := (List.getElem?_eq_some_iff.1 h).1
  rw [cellsA_length] at hi
  refine ⟨i / 4, by omega, i % 4, by omega, by omega, ?_⟩
  have := cellsA_at l (i / 4) (by omega) (i % 4) (by omega)
  rw [show i / 4 * 4 + i % 4 = i by omega] at this
  rw [← this]; exact h
theorem cellsA_set (l : List AL) (k : Nat) (h : k < l.length) (i : Nat) (v : Value) (x' : AL) (hi : i < 4) (hx : x'.cells = l[k].cells.set i v) : (cellsA l).set (k * 4 + i) v = cellsA (l.set k x') := by
  apply List.ext_getElem?
  intro j
  rw [List.getElem?_set]
  by_cases e : k * 4 + i = j
  · subst e
    rw [if_pos rfl, if_pos (by rw [cellsA_length]; omega), cellsA_at _ k (by simpa using h) i hi, List.getElem_set_self, hx, List.getElem?_set_self (by simpa [AL.cells] using hi)]
  · rw [if_neg e]
    by_cases hj : j < l.length * 4
    · have h1 := cellsA_at l (j / 4) (by omega) (j % 4) (by omega)
      have h2 := cellsA_at (l.set k x') (j / 4) (by simp; omega) (j % 4) (by omega)
      rw [show j / 4 * 4 + j % 4 = j by omega] at h1 h2
      rw [h1, h2, List.getElem_set]
      by_cases e2 : k = j / 4
      · subst e2
        rw [if_pos rfl, hx, List.getElem?_set_ne (by omega)]
      · rw [if_neg e2]
    · rw [List.getElem?_eq_none (by rw [cellsA_length]; omega), List.getElem?_eq_none (by rw [cellsA_length]; simp; omega)]
/-- What comes to it at a time, as it lies. -/
def cvA (x : AL) (t : Int) : Value := (getI x.ca t).getD (.slice none 0 0)
theorem info_actor : Try.prog.info? 140 ≠ none := by
  have : (Try.prog.info? 140).isSome = true := by kernel_rfl
  intro e; rw [e] at this; cases this
theorem info_letter_n : Try.prog.info? 49 ≠ none := by
  have : (Try.prog.info? 49).isSome = true := by kernel_rfl
  intro e; rw [e] at this; cases this
/-- Where what an actor sent lies. -/
def SentAt (L : World) (x : AL) : Prop := (x.sent = [] ∧ x.sv = .slice none 0 0) ∨ ∃ b sc ty fz, x.sv = .slice (some ⟨b, 0, none⟩) x.sent.length sc ∧ Try.prog.info? ty = none ∧ L.heap[b]? = some (.cells (flatX x.sent).toArray ty fz) ∧ x.sent ≠ []
structure LiesA (L : World) (B base gl : Nat) (R : List (List RuleR)) (c : Come) (l : List AL) : Prop where
  blk : Blk L gl 140 (cellsA l)
  len : l.length = R.length
  rules : ∀ (i : Nat) x, l[i]? = some x → MapI L x.rb x.ra ∧ RulesAs x.ra (R.getD i []) ∧ ∀ p ∈ x.ra, ∃ r, p.2 = aggRu r
  comes : ∀ (i : Nat) x, l[i]? = some x → MapI L x.cb x.ca ∧ (x.ca.map (·.1)).Nodup
  own : ∀ (i : Nat) x t, l[i]? = some x → ownX L base (cvA x t) (c i t)
  apart : ∀ (i j : Nat) x y t u, l[i]? = some x → l[j]? = some y → (i ≠ j ∨ t ≠ u) → (cvA x t).ownBlock = none ∨ (cvA x t).ownBlock ≠ (cvA y u).ownBlock
  maps : ∀ (i j : Nat) x y, l[i]? = some x → l[j]? = some y → x.rb ≠ y.cb ∧ (i ≠ j → x.rb ≠ y.rb ∧ x.cb ≠ y.cb)
  high : ∀ x ∈ l, B ≤ x.rb ∧ B ≤ x.cb
  sents : ∀ x ∈ l, SentAt L x
  low : B ≤ gl
  below : gl < base
  bound : base ≤ L.heap.size
section
variable {L L' : World} {B base gl : Nat} {R : List (List RuleR)} {c : Come} {l : List AL}
theorem SentAt.keep {x : AL} (h : SentAt L x) (hs : ∀ (b : Nat) (y : Array Value) (ty : TypeId) (fz : Nat × Nat), Try.prog.info? ty = none → L.heap[b]? = some (.cells y ty fz) → L'.heap[b]? = L.heap[b]?) : SentAt L' x := by
  rcases h with h | ⟨b, sc, ty, fz, h1, h2, h3⟩
  · exact .inl h
  · exact .inr ⟨b, sc, ty, fz, h1, h2, (hs _ _ _ _ h2 h3.1).trans h3.1, h3.2⟩
/-- Blocks that are none of these stand for nothing. -/
theorem LiesA.keep (h : LiesA L B base gl R c l) (hz : L.heap.size ≤ L'.heap.size) (hg : L'.heap[gl]? = L.heap[gl]?) (hm : ∀ (b : Nat) (es : Array MapEntry) (k : Nat), L.heap[b]? = some (.map es k) → L'.heap[b]? = L.heap[b]?)
    (hr : ∀ (b : Nat) (cur : Array Value), base ≤ b → L.heap[b]? = some (.cells cur 49) → (∃ x t, x ∈ l ∧ (cvA x t).ownBlock = some b) → L'.heap[b]? = L.heap[b]?) (hs : ∀ (b : Nat) (x : Array Value) (ty : TypeId) (fz : Nat × Nat), Try.prog.info? ty = none → L.heap[b]? = some (.cells x ty fz) → L'.heap[b]? = L.heap[b]?) : LiesA L' B base gl R c l where
  blk := hg.trans h.blk
  len := h.len
  rules := fun i x hx => by
    obtain ⟨h1, h2⟩ := h.rules i x hx
    refine ⟨h1.keep ?_, h2⟩
    obtain ⟨es, k, h3, _⟩ := h1
    exact hm _ _ _ h3
  comes := fun i x hx => by
    obtain ⟨h1, h2⟩ := h.comes i x hx
    refine ⟨h1.keep ?_, h2⟩
    obtain ⟨es, k, h3, _⟩ := h1
    exact hm _ _ _ h3
  own := fun i x t hx => own_of_block (h.own i x t hx) fun b hb => by obtain ⟨h1, cur, h2⟩ := own_block_at (h.own i x t hx) hb; exact hr b cur h1 h2 ⟨x, t, List.mem_of_getElem? hx, hb⟩
  apart := h.apart
  maps := h.maps
  high := h.high
  sents := fun x hx => (h.sents x hx).keep hs
  low := h.low
  below := h.below
  bound := Nat.le_trans h.bound hz
theorem LiesA.same (h : LiesA L B base gl R c l) (e : L'.heap = L.heap) : LiesA L' B base gl R c l :=
  h.keep (by rw [e]; exact Nat.le_refl _) (by rw [e]) (fun b _ _ _ => by rw [e]) (fun b _ _ _ _ => by rw [e]) fun b _ _ _ _ _ => by rw [e]
theorem LiesA.alloc (h : LiesA L B base gl R c l) (o : Obj) : LiesA (L.alloc o) B base gl R c l := by
  have hlt : ∀ b o', L.heap[b]? = some o' → (L.alloc o).heap[b]? = L.heap[b]? := fun b o' hb => Below.heap_alloc L o b (Array.getElem?_eq_some_iff.1 hb).1
  exact h.keep (by simp) (hlt _ _ h.blk) (fun b _ _ hb => hlt _ _ hb) (fun b _ _ hb _ => hlt _ _ hb) fun b _ _ _ _ hb => hlt _ _ hb
end
section
variable {S : FnSet} {ρ : Ren} {k : LK} {L W : World} {B base gl lb : Nat} {R : List (List RuleR)} {c : Come} {l : List AL}
/-- The actors' block, in company. -/
structure LiesAW (S : FnSet) (ρ : Ren) (k : LK) (W : World) (gl lb : Nat) (l : List AL) : Prop where
  at_ : ρ gl = some (lb, 0)
  nch : ¬ ρ.isChan gl
  lt : lb < W.heap.size
  cell : ∀ (i : Nat) v, (cellsA l)[i]? = some v → ∃ v', W.cell? ⟨lb, i, none⟩ = some v' ∧ VR S ρ v v' ∧ k.W (.cell ⟨lb, i, none⟩) ∧ W.frozen? ⟨lb, i, none⟩ = false
theorem LiesA.inW (hM : Mir S Try.prog ρ k L W) (hL : LiesA L B base gl R c l) (hg : ∃ c, ρ gl = some c) (hc : ¬ ρ.isChan gl) : ∃ lb, LiesAW S ρ k W gl lb l := by
  obtain ⟨⟨lb, s⟩, hg⟩ := hg
  obtain ⟨rfl, h1, h2⟩ := hM.row hg hL.blk info_actor
  refine ⟨lb, hg, hc, h1, fun i v hv => ?_⟩
  obtain ⟨v', a1, a2, _, a4⟩ := h2 i v (by simpa using hv)
  obtain ⟨a5, a6⟩ := a4 (by simp)
  exact ⟨v', a1, a2, a5, a6⟩
/-- Another row's cell is none of theirs. -/
theorem LiesAW.far (hW : LiesAW S ρ k W gl lb l) (hM : Mir S Try.prog ρ k L W) (hL : LiesA L B base gl R c l) {b c s o : Nat} {v : Value} (hb : ρ b = some (c, s)) (hne : b ≠ gl) (hc : L.cell? ⟨b, o, none⟩ = some v) : ∀ i, i < l.length * 4 → (⟨c, s + o, none⟩ : Addr) ≠ ⟨lb, i, none⟩ := by
  intro i hi e
  have e1 : c = lb := congrArg Addr.block e
  have e2 : s + o = i := congrArg Addr.off e
  subst e1
  obtain ⟨x, e', fz, hx, hxo⟩ := cell_inv hc
  have := hM.wr.apart gl b c 0 s (cellsA l).toArray x _ _ _ _ i o hW.at_ hb hL.blk hx (by rw [← cellsA_length] at hi; simpa using hi) (Array.getElem?_eq_some_iff.1 hxo).1 (by omega) (by simp)
  exact hne this.symm
/-- An actor's maps, in company. -/
theorem LiesAW.maps (hW : LiesAW S ρ k W gl lb l) {j : Nat} {x : AL} (hj : l[j]? = some x) : ∃ r1 r2, ρ x.rb = some (r1, 0) ∧ ρ x.cb = some (r2, 0) ∧ W.cell? ⟨lb, j * 4 + 1, none⟩ = some (.map (some r1)) ∧ W.cell? ⟨lb, j * 4 + 2, none⟩ = some (.map (some r2)) := by
  obtain ⟨hjl, rfl⟩ := List.getElem?_eq_some_iff.1 hj
  obtain ⟨v1, a1, b1, _⟩ := hW.cell _ _ (cellsA_at l j hjl 1 (by omega))
  obtain ⟨v2, a2, b2, _⟩ := hW.cell _ _ (cellsA_at l j hjl 2 (by omega))
  cases b1 with
  | map h1 => cases b2 with
    | map h2 => exact ⟨_, _, h1, h2, a1, a2⟩
end
end Go.Proofs.Yticdjkkcfdbdcaa

/- What lies in actor.Run changes: a letter is put, what was sent is taken, a time is over. No program; no conditions. -/
namespace Go.Proofs.Yticdjkkcfdbdcaa
open Go.ChangeShapes Go.WideShapes Go.ChangeAt Go.RowKit Go.Conc Go.ConcN
theorem cellsA_same {l : List AL} {i : Nat} {x x' : AL} (hi : l[i]? = some x) (hc : x'.cells = x.cells) : cellsA (l.set i x') = cellsA l := by
  unfold cellsA
  rw [List.flatMap_def, List.flatMap_def, List.map_set, hc]
  congr 1
  obtain ⟨h1, h2⟩ := List.getElem?_eq_some_iff.1 hi
  apply List.ext_getElem?
  intro j
  rw [List.getElem?_set]
  by_cases e : i = j
  · subst e; simp [h1, h2]
  · rw [if_neg e]
theorem set_cases {l : List AL} {i j : Nat} {x' z : AL} (h : (l.set i x')[j]? = some z) : (j = i ∧ z = x' ∧ i < l.length) ∨ (j ≠ i ∧ l[j]? = some z) := by
  rw [List.getElem?_set] at h
  by_cases e : i = j
  · subst e
    rw [if_pos rfl] at h
    split at h
    · rename_i hl; cases h; exact .inl ⟨rfl, rfl, hl⟩
    · cases h
  · rw [if_neg e] at h
    exact .inr ⟨fun h => e h.symm, h⟩
section
variable {L L2 : World} {B base gl : Nat} {R : List (List RuleR)} {c : Come} {l : List AL}
/-- Where a row of letters lies. -/
theorem LiesA.row (h : LiesA L B base gl R c l) {j : Nat} {z : AL} {t : Int} (hj : l[j]? = some z) {b : Nat} (hb : (cvA z t).ownBlock = some b) : base ≤ b ∧ b < L.heap.size ∧ ∃ cur, L.heap[b]? = some (.cells cur 49) := by
  obtain ⟨h1, cur, h2⟩ := own_block_at (h.own j z t hj) hb
  exact ⟨h1, (Array.getElem?_eq_some_iff.1 h2).1, cur, h2⟩
/-- A letter is put where it comes. -/
theorem LiesA.put (h : LiesA L B base gl R c l) {i : Nat} {x : AL} (hi : l[i]? = some x) {y : LetR} (hy : (i : Int) = y.to) {v2 : Value} (hz : L.heap.size ≤ L2.heap.size)
    (hfr : ∀ b, b < L.heap.size → some b ≠ (cvA x y.time).ownBlock → b ≠ x.cb → L2.heap[b]? = L.heap[b]?) (hm : MapI L2 x.cb (putI x.ca y.time v2)) (ho : ownX L2 base v2 (c i y.time ++ [y]))
    (hb2 : v2.ownBlock = (cvA x y.time).ownBlock ∨ ∃ b, v2.ownBlock = some b ∧ L.heap.size ≤ b) : LiesA L2 B base gl R (c.add y) (l.set i { x with ca := putI x.ca y.time v2 }) := by
  have hmx := (h.comes i x hi).1
  have hcm : ∀ {b : Nat} {cur : Array Value} {ty : TypeId} {fz : Nat × Nat}, L.heap[b]? = some (.cells cur ty fz) → b ≠ x.cb := fun hb => hmx.not_cells hb
  have hkm : ∀ {r : Nat} {ra : Assoc}, MapI L r ra → r ≠ x.cb → MapI L2 r ra := fun hr hne => hr.keep (hfr _ hr.lt (fun e => by
    obtain ⟨_, _, cur, h2⟩ := h.row hi e.symm
    exact hr.not_cells h2 rfl) hne)
  have hkc : ∀ {b : Nat} {cur : Array Value}, L.heap[b]? = some (.cells cur 49) → some b ≠ (cvA x y.time).ownBlock → L2.heap[b]? = L.heap[b]? := fun hb hne => hfr _ (Array.getElem?_eq_some_iff.1 hb).1 hne (hcm hb)
  have hcv : ∀ t, cvA { x with ca := putI x.ca y.time v2 } t = if t = y.time then v2 else cvA x t := fun t => by
    unfold cvA
    by_cases e : t = y.time
    · subst e; rw [if_pos rfl, getI_put_same]; rfl
    · rw [if_neg e, getI_put_other _ _ e]
  have hgl := h.blk
  unfold Blk at hgl
  refine ⟨?_, by rw [List.length_set]; exact h.len, fun j z hj => ?_, fun j z hj => ?_, fun j z t hj => ?_, fun j1 j2 z1 z2 t1 t2 h1 h2 hne => ?_, fun j1 j2 z1 z2 h1 h2 => ?_, fun z hz' => ?_, fun z hz' => ?_, h.low, h.below, Nat.le_trans h.bound hz⟩
  · rw [cellsA_same (x' := { x with ca := putI x.ca y.time v2 }) hi rfl]
    exact (hfr gl h.blk.lt (fun e => by have := (h.row hi e.symm).1; have := h.below; omega) (hcm hgl)).trans h.blk
  · rcases set_cases hj with ⟨rfl, rfl, _⟩ | ⟨hne, hj⟩
    · exact ⟨hkm (h.rules _ x hi).1 (h.maps _ _ x x hi hi).1, (h.rules _ x hi).2⟩
    · exact ⟨hkm (h.rules j z hj).1 (h.maps _ _ z x hj hi).1, (h.rules j z hj).2⟩
  · rcases set_cases hj with ⟨rfl, rfl, _⟩ | ⟨hne, hj⟩
    · exact ⟨hm, nodup_putI (h.comes _ x hi).2 _ _⟩
    · exact ⟨hkm (h.comes j z hj).1 ((h.maps _ _ z x hj hi).2 hne).2, (h.comes j z hj).2⟩
  · rcases set_cases hj with ⟨rfl, rfl, _⟩ | ⟨hne, hj⟩
    · rw [hcv]
      by_cases e : t = y.time
      · subst e
        rw [if_pos rfl]
        unfold Come.add
        rw [if_pos ⟨hy, rfl⟩]
        exact ho
      · rw [if_neg e]
        unfold Come.add
        rw [if_neg (fun h => e h.2)]
        refine own_of_block (h.own _ x t hi) fun b hb => ?_
        obtain ⟨_, _, cur, h2⟩ := h.row hi hb
        exact hkc h2 fun e2 => by
          rcases h.apart _ _ x x t y.time hi hi (.inr e) with h3 | h3
          · rw [h3] at hb; cases hb
          · exact h3 (by rw [hb, e2])
    · unfold Come.add
      rw [if_neg (fun h => hne (by have := h.1; omega))]
      refine own_of_block (h.own j z t hj) fun b hb => ?_
      obtain ⟨_, _, cur, h2⟩ := h.row hj hb
      exact hkc h2 fun e2 => by
        rcases h.apart _ _ z x t y.time hj hi (.inl hne) with h3 | h3
        · rw [h3] at hb; cases hb
        · exact h3 (by rw [hb, e2])
  · have hnew : ∀ (j : Nat) (z : AL) (t : Int), l[j]? = some z → (j ≠ i ∨ t ≠ y.time) → (v2.ownBlock = none ∨ v2.ownBlock ≠ (cvA z t).ownBlock) ∧ ((cvA z t).ownBlock = none ∨ (cvA z t).ownBlock ≠ v2.ownBlock) := fun j z t hj hne => by
      rcases hb2 with e | ⟨b, e, hlt⟩
      · rw [e]
        exact ⟨h.apart _ _ x z y.time t hi hj (hne.imp Ne.symm Ne.symm), h.apart _ _ z x t y.time hj hi hne⟩
      · rw [e]
        cases hq : (cvA z t).ownBlock with
        | none => exact ⟨.inr (by simp), .inl rfl⟩
        | some b' =>
          have := (h.row hj hq).2.1
          exact ⟨.inr (by simp; omega), .inr (by simp; omega)⟩
    rcases set_cases h1 with ⟨rfl, rfl, _⟩ | ⟨n1, g1⟩ <;> rcases set_cases h2 with ⟨rfl, rfl, _⟩ | ⟨n2, g2⟩
    · rw [hcv, hcv]
      have ht : t1 ≠ t2 := hne.resolve_left fun h => h rfl
      by_cases e1 : t1 = y.time
      · subst e1
        rw [if_pos rfl, if_neg (fun e => ht e.symm)]
        exact (hnew _ x t2 hi (.inr fun e => ht e.symm)).1
      · rw [if_neg e1]
        by_cases e2 : t2 = y.time
        · subst e2; rw [if_pos rfl]; exact (hnew _ x t1 hi (.inr e1)).2
        · rw [if_neg e2]; exact h.apart _ _ x x t1 t2 hi hi hne
    · rw [hcv]
      by_cases e1 : t1 = y.time
      · subst e1; rw [if_pos rfl]; exact (hnew _ z2 t2 g2 (.inl n2)).1
      · rw [if_neg e1]; exact h.apart _ _ x z2 t1 t2 hi g2 hne
    · rw [hcv]
      by_cases e2 : t2 = y.time
      · subst e2; rw [if_pos rfl]; exact (hnew _ z1 t1 g1 (.inl n1)).2
      · rw [if_neg e2]; exact h.apart _ _ z1 x t1 t2 g1 hi hne
    · exact h.apart _ _ z1 z2 t1 t2 g1 g2 hne
  · rcases set_cases h1 with ⟨rfl, rfl, _⟩ | ⟨n1, g1⟩ <;> rcases set_cases h2 with ⟨rfl, rfl, _⟩ | ⟨n2, g2⟩
    · exact h.maps _ _ x x hi hi
    · exact h.maps _ _ x z2 hi g2
    · exact h.maps _ _ z1 x g1 hi
    · exact h.maps _ _ z1 z2 g1 g2
  · obtain ⟨j, hj⟩ := List.mem_iff_getElem?.1 hz'
    rcases set_cases hj with ⟨rfl, rfl, _⟩ | ⟨_, hj⟩
    · exact h.high x (List.mem_of_getElem? hi)
    · exact h.high z (List.mem_of_getElem? hj)
  · have hk : ∀ (b : Nat) (u : Array Value) (ty : TypeId) (fz : Nat × Nat), Try.prog.info? ty = none → L.heap[b]? = some (.cells u ty fz) → L2.heap[b]? = L.heap[b]? := fun b u ty fz hty hb => hfr b (Array.getElem?_eq_some_iff.1 hb).1 (fun e => by
      obtain ⟨_, _, cur, h2⟩ := h.row hi e.symm
      rw [hb] at h2
      cases h2
      exact info_letter_n hty) (hcm hb)
    obtain ⟨j, hj⟩ := List.mem_iff_getElem?.1 hz'
    rcases set_cases hj with ⟨rfl, rfl, _⟩ | ⟨_, hj⟩
    · exact SentAt.keep (x := { x with ca := putI x.ca y.time v2 }) (h.sents x (List.mem_of_getElem? hi)) hk
    · exact (h.sents z (List.mem_of_getElem? hj)).keep hk
/-- A time's letters are taken out. -/
theorem LiesA.del (h : LiesA L B base gl R c l) {i : Nat} {x : AL} (hi : l[i]? = some x) (t : Int) (hz : L.heap.size ≤ L2.heap.size) (hfr : ∀ b, b < L.heap.size → b ≠ x.cb → L2.heap[b]? = L.heap[b]?) (hm : MapI L2 x.cb (delI x.ca t)) :
    LiesA L2 B base gl R (fun j s => if j = i ∧ s = t then [] else c j s) (l.set i { x with ca := delI x.ca t }) := by
  have hmx := (h.comes i x hi).1
  have hnd := (h.comes i x hi).2
  have hcm : ∀ {b : Nat} {cur : Array Value} {ty : TypeId} {fz : Nat × Nat}, L.heap[b]? = some (.cells cur ty fz) → b ≠ x.cb := fun hb => hmx.not_cells hb
  have hkm : ∀ {r : Nat} {ra : Assoc}, MapI L r ra → r ≠ x.cb → MapI L2 r ra := fun hr hne => hr.keep (hfr _ hr.lt hne)
  have hkc : ∀ {b : Nat} {cur : Array Value} {ty : TypeId} {fz : Nat × Nat}, L.heap[b]? = some (.cells cur ty fz) → L2.heap[b]? = L.heap[b]? := fun hb => hfr _ (Array.getElem?_eq_some_iff.1 hb).1 (hcm hb)
  have hcv : ∀ s, cvA { x with ca := delI x.ca t } s = if s = t then .slice none 0 0 else cvA x s := fun s => by
    unfold cvA
    by_cases e : s = t
    · subst e; rw [if_pos rfl, getI_del_same hnd]; rfl
    · rw [if_neg e, getI_del_other _ e]
  have hgl := h.blk
  unfold Blk at hgl
  refine ⟨?_, by rw [List.length_set]; exact h.len, fun j z hj => ?_, fun j z hj => ?_, fun j z s hj => ?_, fun j1 j2 z1 z2 t1 t2 h1 h2 hne => ?_, fun j1 j2 z1 z2 h1 h2 => ?_, fun z hz' => ?_, fun z hz' => ?_, h.low, h.below, Nat.le_trans h.bound hz⟩
  · rw [cellsA_same (x' := { x with ca := delI x.ca t }) hi rfl]
    exact (hkc hgl).trans h.blk
  · rcases set_cases hj with ⟨rfl, rfl, _⟩ | ⟨hne, hj⟩
    · exact ⟨hkm (h.rules _ x hi).1 (h.maps _ _ x x hi hi).1, (h.rules _ x hi).2⟩
    · exact ⟨hkm (h.rules j z hj).1 (h.maps _ _ z x hj hi).1, (h.rules j z hj).2⟩
  · rcases set_cases hj with ⟨rfl, rfl, _⟩ | ⟨hne, hj⟩
    · exact ⟨hm, nodup_delI (h.comes _ x hi).2 _⟩
    · exact ⟨hkm (h.comes j z hj).1 ((h.maps _ _ z x hj hi).2 hne).2, (h.comes j z hj).2⟩
  · rcases set_cases hj with ⟨rfl, rfl, _⟩ | ⟨hne, hj⟩
    · rw [hcv]
      by_cases e : s = t
      · subst e
        rw [if_pos rfl, if_pos ⟨rfl, rfl⟩]
        exact World.ownsRow_nil ..
      · rw [if_neg e, if_neg (fun h => e h.2)]
        refine own_of_block (h.own _ x s hi) fun b hb => ?_
        obtain ⟨_, _, cur, h2⟩ := h.row hi hb
        exact hkc h2
    · rw [if_neg (fun h => hne h.1)]
      refine own_of_block (h.own j z s hj) fun b hb => ?_
      obtain ⟨_, _, cur, h2⟩ := h.row hj hb
      exact hkc h2
  · rcases set_cases h1 with ⟨rfl, rfl, _⟩ | ⟨n1, g1⟩ <;> rcases set_cases h2 with ⟨rfl, rfl, _⟩ | ⟨n2, g2⟩
    · rw [hcv, hcv]
      have ht : t1 ≠ t2 := hne.resolve_left fun h => h rfl
      by_cases e1 : t1 = t
      · subst e1; rw [if_pos rfl]; exact .inl rfl
      · rw [if_neg e1]
        by_cases e2 : t2 = t
        · subst e2
          rw [if_pos rfl]
          cases hq : (cvA x t1).ownBlock with
          | none => exact .inl rfl
          | some b => exact .inr (by simp [Value.ownBlock])
        · rw [if_neg e2]; exact h.apart _ _ x x t1 t2 hi hi hne
    · rw [hcv]
      by_cases e1 : t1 = t
      · subst e1; rw [if_pos rfl]; exact .inl rfl
      · rw [if_neg e1]; exact h.apart _ _ x z2 t1 t2 hi g2 hne
    · rw [hcv]
      by_cases e2 : t2 = t
      · subst e2
        rw [if_pos rfl]
        cases hq : (cvA z1 t1).ownBlock with
        | none => exact .inl rfl
        | some b => exact .inr (by simp [Value.ownBlock])
      · rw [if_neg e2]; exact h.apart _ _ z1 x t1 t2 g1 hi hne
    · exact h.apart _ _ z1 z2 t1 t2 g1 g2 hne
  · rcases set_cases h1 with ⟨rfl, rfl, _⟩ | ⟨n1, g1⟩ <;> rcases set_cases h2 with ⟨rfl, rfl, _⟩ | ⟨n2, g2⟩
    · exact h.maps _ _ x x hi hi
    · exact h.maps _ _ x z2 hi g2
    · exact h.maps _ _ z1 x g1 hi
    · exact h.maps _ _ z1 z2 g1 g2
  · obtain ⟨j, hj⟩ := List.mem_iff_getElem?.1 hz'
    rcases set_cases hj with ⟨rfl, rfl, _⟩ | ⟨_, hj⟩
    · exact h.high x (List.mem_of_getElem? hi)
    · exact h.high z (List.mem_of_getElem? hj)
  · obtain ⟨j, hj⟩ := List.mem_iff_getElem?.1 hz'
    rcases set_cases hj with ⟨rfl, rfl, _⟩ | ⟨_, hj⟩
    · exact SentAt.keep (x := { x with ca := delI x.ca t }) (h.sents x (List.mem_of_getElem? hi)) fun b u ty fz _ hb => hkc hb
    · exact (h.sents z (List.mem_of_getElem? hj)).keep fun b u ty fz _ hb => hkc hb
/-- What was sent is over. -/
theorem LiesA.clear (h : LiesA L B base gl R c l) {i : Nat} {x : AL} (hi : l[i]? = some x) : LiesA (L.setCell ⟨gl, i * 4 + 3, none⟩ (.slice none 0 0)) B base gl R c (l.set i { x with sv := .slice none 0 0, sent := [] }) := by
  have hne : ∀ b, b ≠ gl → (L.setCell ⟨gl, i * 4 + 3, none⟩ (.slice none 0 0)).heap[b]? = L.heap[b]? := fun b hb => setCell_ne hb
  have hgl := h.blk
  unfold Blk at hgl
  obtain ⟨hil, hix⟩ := List.getElem?_eq_some_iff.1 hi
  have hmk : ∀ {r : Nat} {ra : Assoc}, MapI L r ra → MapI (L.setCell ⟨gl, i * 4 + 3, none⟩ (.slice none 0 0)) r ra := fun hr => hr.keep (hne _ fun e => hr.not_cells hgl e.symm)
  have hgx : ∀ {b : Nat}, base ≤ b → b ≠ gl := fun hb => by have := h.below; omega
  have hold : ∀ {j : Nat} {z : AL}, (l.set i { x with sv := .slice none 0 0, sent := [] })[j]? = some z → ∃ z0, l[j]? = some z0 ∧ z.rb = z0.rb ∧ z.cb = z0.cb ∧ z.ra = z0.ra ∧ z.ca = z0.ca := fun hj => by
    rcases set_cases hj with ⟨rfl, rfl, _⟩ | ⟨_, hj⟩
    · exact ⟨x, hi, rfl, rfl, rfl, rfl⟩
    · exact ⟨_, hj, rfl, rfl, rfl, rfl⟩
  have hcv : ∀ {z z0 : AL} (t : Int), z.ca = z0.ca → cvA z t = cvA z0 t := fun t e => by unfold cvA; rw [e]
  refine ⟨?_, by rw [List.length_set]; exact h.len, fun j z hj => ?_, fun j z hj => ?_, fun j z s hj => ?_, fun j1 j2 z1 z2 t1 t2 h1 h2 hn => ?_, fun j1 j2 z1 z2 h1 h2 => ?_, fun z hz' => ?_, fun z hz' => ?_, h.low, h.below, by rw [setCell_size]; exact h.bound⟩
  · have := h.blk.set_ (i * 4 + 3) (.slice none 0 0)
    rwa [cellsA_set l i hil 3 (.slice none 0 0) { x with sv := .slice none 0 0, sent := [] } (by omega) (by rw [hix]; rfl)] at this
  · obtain ⟨z0, h1, e1, _, e3, _⟩ := hold hj
    rw [e1, e3]
    exact ⟨hmk (h.rules j z0 h1).1, (h.rules j z0 h1).2⟩
  · obtain ⟨z0, h1, _, e2, _, e4⟩ := hold hj
    rw [e2, e4]
    exact ⟨hmk (h.comes j z0 h1).1, (h.comes j z0 h1).2⟩
  · obtain ⟨z0, h1, _, _, _, e4⟩ := hold hj
    rw [hcv s e4]
    exact own_of_block (h.own j z0 s h1) fun b hb => hne b (hgx (h.row h1 hb).1)
  · obtain ⟨y1, g1, _, _, _, e4⟩ := hold h1
    obtain ⟨y2, g2, _, _, _, e5⟩ := hold h2
    rw [hcv t1 e4, hcv t2 e5]
    exact h.apart _ _ y1 y2 t1 t2 g1 g2 hn
  · obtain ⟨y1, g1, e1, e2, _, _⟩ := hold h1
    obtain ⟨y2, g2, e3, e4, _, _⟩ := hold h2
    rw [e1, e2, e3, e4]
    exact h.maps _ _ y1 y2 g1 g2
  · obtain ⟨j, hj⟩ := List.mem_iff_getElem?.1 hz'
    obtain ⟨y1, g1, e1, e2, _, _⟩ := hold hj
    rw [e1, e2]
    exact h.high y1 (List.mem_of_getElem? g1)
  · obtain ⟨j, hj⟩ := List.mem_iff_getElem?.1 hz'
    rcases set_cases hj with ⟨rfl, rfl, _⟩ | ⟨_, hj⟩
    · exact .inl ⟨rfl, rfl⟩
    · exact (h.sents z (List.mem_of_getElem? hj)).keep fun b u ty fz hty hb => hne b fun e => by
        subst e
        rw [hgl] at hb
        cases hb
        exact info_actor hty
end
end Go.Proofs.Yticdjkkcfdbdcaa

/- The regions of actor.Run that put a letter where it comes, alone. No conditions but that what is read is there. -/
namespace Go.Proofs.Yticdjkkcfdbdcaa
open Go.Conc Go.ConcN Go.RowKit
def VPu (gl n c12 i0 cb yb : Nat) (v : Value) (y : LetR) : Nat → Value := fun j => match j with
  | 0 => .slice (some ⟨gl, 0, none⟩) n c12
  | 1 => .pointer (some ⟨yb, 1, none⟩)
  | 2 => .int .i64 i0
  | 3 => .pointer (some ⟨gl, i0 * 4, none⟩)
  | 4 => .pointer (some ⟨gl, i0 * 4 + 2, none⟩)
  | 5 => .map (some cb)
  | 6 => .pointer (some ⟨yb, 0, none⟩)
  | 7 => .int .i64 y.time
  | 8 => .slice (some ⟨gl, 0, none⟩) n c12
  | 9 => .pointer (some ⟨yb, 1, none⟩)
  | 10 => .int .i64 i0
  | 11 => .pointer (some ⟨gl, i0 * 4, none⟩)
  | 12 => .pointer (some ⟨gl, i0 * 4 + 2, none⟩)
  | 13 => .map (some cb)
  | 14 => .pointer (some ⟨yb, 0, none⟩)
  | 15 => .int .i64 y.time
  | 16 => v
  | 17 => aggX y
  | _ => undef
/-- The region's world. -/
def SPu (W : World) (base : Nat) (v : Value) (y : LetR) (s : List LetR) (vs : List Value) (w : World) : Prop :=
  (∀ b, b < W.heap.size → some b ≠ v.ownBlock → w.heap[b]? = W.heap[b]?) ∧ (w.os = W.os ∧ w.tape = W.tape ∧ w.output = W.output) ∧
  match vs with
  | [] => w.heap = W.heap
  | [v1] => v1 = .slice (some ⟨W.heap.size, 0, none⟩) 1 1 ∧ w.heap = (W.alloc (.cells (cellsX y).toArray 49)).heap
  | _ :: v2 :: _ => W.heap.size ≤ w.heap.size ∧ ownX w base v2 (s ++ [y]) ∧ (v2.ownBlock = v.ownBlock ∨ v2.ownBlock = some (W.heap.size + 1))
set_option maxRecDepth 100000 in
theorem u10_ok : drawOk (opsOf Try.f24 10) 20 = true := by kernel_rfl
set_option maxRecDepth 100000 in
theorem u10_ch : chainOk (opsOf Try.f24 10) 20 [18, 19] = true := by kernel_rfl
set_option maxRecDepth 100000 in
theorem u10_wp {ops : Array Oper} (hops : ops = opsOf Try.f24 10) {a : Act} {W : World} {B base gl n c12 i0 yb : Nat} {R : List (List RuleR)} {c : Come} {l : List AL} {x : AL} {y : LetR}
    (hz : a.tmps.size = 178) (t12 : a.eval (.tmp 12) = .slice (some ⟨gl, 0, none⟩) n c12) (tb : a.eval (.tmp 14) = .pointer (some ⟨yb, 0, none⟩)) (hL : LiesA W B base gl R c l) (hn : l.length = n) (hx : l[i0]? = some x) (hto : y.to = (i0 : Int)) (hs : (c i0 y.time).length < 900000)
    (hy : W.heap[yb]? = some (.cells (cellsX y).toArray 49 (0, 0))) (hyr : some yb ≠ (cvA x y.time).ownBlock) {Q : Exit → Act → World → Prop} {id : Nat}
    (hQ : ∀ v1 v2 w', LiesA w' B base gl R (c.add y) (l.set i0 { x with ca := putI x.ca y.time v2 }) → (∀ b, b < W.heap.size → some b ≠ (cvA x y.time).ownBlock → b ≠ x.cb → w'.heap[b]? = W.heap[b]?) → W.heap.size ≤ w'.heap.size → w'.os = W.os ∧ w'.tape = W.tape ∧ w'.output = W.output → (v2.ownBlock = (cvA x y.time).ownBlock ∨ ∃ b, v2.ownBlock = some b ∧ W.heap.size ≤ b) →
      Q .normal (putsV ops (VE [18, 19] (VPu gl n c12 i0 x.cb yb (cvA x y.time) y) [v1, v2]) (List.range 20) a) w') : (Code.region id ops true).wp Try.prog Q a W := by
  subst hops
  have hdd := drawOk_d u10_ok
  have nw : ∀ (V : Nat → Value) t j, prodOf (opsOf Try.f24 10) t = some j → j < 20 → t < 178 → (putsV (opsOf Try.f24 10) V (List.range 20) a).eval (.tmp t) = V j := fun V t j h1 h2 h3 => puts_new hdd h1 h2 (by rw [hz]; exact h3)
  have od : ∀ (V : Nat → Value) t, prodOf (opsOf Try.f24 10) t = none → (putsV (opsOf Try.f24 10) V (List.range 20) a).eval (.tmp t) = a.eval (.tmp t) := fun V t h => puts_old hdd h
  have hsz : (opsOf Try.f24 10).size = 21 := by kernel_rfl
  obtain ⟨hil, rfl⟩ := List.getElem?_eq_some_iff.1 hx
  have hi : i0 < n := by omega
  have hgl : gl < W.heap.size := hL.blk.lt
  have hyl := (Array.getElem?_eq_some_iff.1 hy).1
  obtain ⟨hm, hnd⟩ := hL.comes i0 _ hx
  have ho := hL.own i0 _ y.time hx
  have hgr : some gl ≠ (cvA l[i0] y.time).ownBlock := fun e => by have := (hL.row hx e.symm).1; have := hL.below; omega
  have hcr : some l[i0].cb ≠ (cvA l[i0] y.time).ownBlock := fun e => by
    obtain ⟨_, _, cur, h2⟩ := hL.row hx e.symm
    exact hm.not_cells h2 rfl
  have hgc : W.cell? ⟨gl, i0 * 4 + 2, none⟩ = some (.map (some l[i0].cb)) := by
    rw [hL.blk.cell, cellsA_at l i0 hil 2 (by omega)]; rfl
  refine wp_drawnE mixed_orders u10_ok u10_ch (SPu W base (cvA l[i0] y.time) y (c i0 y.time)) (VPu gl n c12 i0 l[i0].cb yb (cvA l[i0] y.time) y) (fun i o hio him hiE vs w hS => ?_) (fun q i o hq hio vs w hl hS => ?_) (fun vs w hl hS => ?_) (fun d => ⟨fun _ _ _ => rfl, ⟨rfl, rfl, rfl⟩, rfl⟩)
  · have hil : i < 21 := by have := (Array.getElem?_eq_some_iff.1 hio).1; omega
    have h18 : i ≠ 18 := fun e => hiE (by subst e; simp)
    have h19 : i ≠ 19 := fun e => hiE (by subst e; simp)
    obtain rfl | rfl | rfl | rfl | rfl | rfl | rfl | rfl | rfl | rfl | rfl | rfl | rfl | rfl | rfl | rfl | rfl | rfl : i = 0 ∨ i = 1 ∨ i = 2 ∨ i = 3 ∨ i = 4 ∨ i = 5 ∨ i = 6 ∨ i = 7 ∨ i = 8 ∨ i = 9 ∨ i = 10 ∨ i = 11 ∨ i = 12 ∨ i = 13 ∨ i = 14 ∨ i = 15 ∨ i = 16 ∨ i = 17 := by omega
    · exact a_mv (op_of (p := .move (.tmp 12)) (by kernel_rfl) hio) ((od _ 12 (by kernel_rfl)).trans t12)
    · exact a_fle (op_of (p := .fieldAddr 49 (.tmp 14) 1) (by kernel_rfl) hio) ((od _ 14 (by kernel_rfl)).trans tb) (by decide) rfl
    · exact q_load (op_of (p := .load 3 (.tmp 55)) (by kernel_rfl) hio) (nw _ 55 1 (by kernel_rfl) (by decide) (by decide)) (fun w => Try.isAgg3 w) (show w.cell? ⟨yb, 1, none⟩ = some (.int .i64 (i0 : Int)) from by rw [← hto]; exact (World.cell?_of_block (hS.1 yb hyl hyr)).trans (cells_at hy 1 _ rfl))
    · exact a_index (op_of (p := .indexAddr 135 (.tmp 54) (.tmp 56)) (by kernel_rfl) hio) (nw _ 54 0 (by kernel_rfl) (by decide) (by decide)) (nw _ 56 2 (by kernel_rfl) (by decide) (by decide)) hi Try.underlying135 (fun w => Try.sizeOf140 w) (by omega)
    · exact a_fac (op_of (p := .fieldAddr 140 (.tmp 57) 2) (by kernel_rfl) hio) (nw _ 57 3 (by kernel_rfl) (by decide) (by decide)) (by decide) rfl
    · exact q_load (op_of (p := .load 138 (.tmp 58)) (by kernel_rfl) hio) (nw _ 58 4 (by kernel_rfl) (by decide) (by decide)) (fun w => Try.isAgg138 w) ((World.cell?_of_block (hS.1 gl hgl hgr)).trans hgc)
    · exact a_fle (op_of (p := .fieldAddr 49 (.tmp 14) 0) (by kernel_rfl) hio) ((od _ 14 (by kernel_rfl)).trans tb) (by decide) rfl
    · exact q_load (op_of (p := .load 3 (.tmp 60)) (by kernel_rfl) hio) (nw _ 60 6 (by kernel_rfl) (by decide) (by decide)) (fun w => Try.isAgg3 w) ((World.cell?_of_block (hS.1 yb hyl hyr)).trans (cells_at hy 0 _ rfl))
    · exact a_mv (op_of (p := .move (.tmp 12)) (by kernel_rfl) hio) ((od _ 12 (by kernel_rfl)).trans t12)
    · exact a_fle (op_of (p := .fieldAddr 49 (.tmp 14) 1) (by kernel_rfl) hio) ((od _ 14 (by kernel_rfl)).trans tb) (by decide) rfl
    · exact q_load (op_of (p := .load 3 (.tmp 63)) (by kernel_rfl) hio) (nw _ 63 9 (by kernel_rfl) (by decide) (by decide)) (fun w => Try.isAgg3 w) (show w.cell? ⟨yb, 1, none⟩ = some (.int .i64 (i0 : Int)) from by rw [← hto]; exact (World.cell?_of_block (hS.1 yb hyl hyr)).trans (cells_at hy 1 _ rfl))
    · exact a_index (op_of (p := .indexAddr 135 (.tmp 62) (.tmp 64)) (by kernel_rfl) hio) (nw _ 62 8 (by kernel_rfl) (by decide) (by decide)) (nw _ 64 10 (by kernel_rfl) (by decide) (by decide)) hi Try.underlying135 (fun w => Try.sizeOf140 w) (by omega)
    · exact a_fac (op_of (p := .fieldAddr 140 (.tmp 65) 2) (by kernel_rfl) hio) (nw _ 65 11 (by kernel_rfl) (by decide) (by decide)) (by decide) rfl
    · exact q_load (op_of (p := .load 138 (.tmp 66)) (by kernel_rfl) hio) (nw _ 66 12 (by kernel_rfl) (by decide) (by decide)) (fun w => Try.isAgg138 w) ((World.cell?_of_block (hS.1 gl hgl hgr)).trans hgc)
    · exact a_fle (op_of (p := .fieldAddr 49 (.tmp 14) 0) (by kernel_rfl) hio) ((od _ 14 (by kernel_rfl)).trans tb) (by decide) rfl
    · exact q_load (op_of (p := .load 3 (.tmp 68)) (by kernel_rfl) hio) (nw _ 68 14 (by kernel_rfl) (by decide) (by decide)) (fun w => Try.isAgg3 w) ((World.cell?_of_block (hS.1 yb hyl hyr)).trans (cells_at hy 0 _ rfl))
    · exact a_lookC (hm.keep (hS.1 _ hm.lt hcr)) (op_of (p := .lookup 138 (.tmp 67) (.tmp 69) false) (by kernel_rfl) hio) (nw _ 67 13 (by kernel_rfl) (by decide) (by decide)) (nw _ 69 15 (by kernel_rfl) (by decide) (by decide))
    · exact a_loadX (op_of (p := .load 49 (.tmp 14)) (by kernel_rfl) hio) ((od _ 14 (by kernel_rfl)).trans tb) (fun j u hu => by rw [Nat.zero_add]; exact (World.cell?_of_block (hS.1 yb hyl hyr)).trans (cells_at hy j u hu))
  · match q, hq with
    | 0, hq =>
      obtain rfl : 18 = i := by simpa using hq
      obtain rfl : vs = [] := List.eq_nil_of_length_eq_zero hl
      obtain ⟨_, ho3, hw⟩ := hS
      refine ⟨.slice (some ⟨W.heap.size, 0, none⟩) 1 1, w.alloc (.cells (cellsX y).toArray 49), ?_, fun b hb _ => ?_, ho3, rfl, ?_⟩
      · have := a_sliceX (e := (putsV (opsOf Try.f24 10) (VE [18, 19] (VPu gl n c12 i0 l[i0].cb yb (cvA l[i0] y.time) y) []) (List.range 20) a).eval) (w := w) (z := y) (op_of (by kernel_rfl) hio) (nw _ 71 17 (by kernel_rfl) (by decide) (by decide))
        rw [hw] at this
        exact this
      · rw [Below.heap_alloc _ _ _ (by rw [hw]; exact hb), hw]
      · show w.heap.push _ = W.heap.push _
        rw [hw]
    | 1, hq =>
      obtain rfl : 19 = i := by simpa using hq
      match vs, hl with
      | [v1], _ =>
        obtain ⟨hfr, ⟨ho1, ho2, ho3⟩, hv1, hw⟩ := hS
        subst hv1
        have hsz1 : w.heap.size = W.heap.size + 1 := by rw [hw]; simp
        have hold : ∀ b, b < W.heap.size → w.heap[b]? = W.heap[b]? := fun b hb => by rw [hw]; exact Below.heap_alloc W _ b hb
        have hox : ownX w base (cvA l[i0] y.time) (c i0 y.time) := own_of_block ho fun b hb => hold b (hL.row hx hb).2.1
        have hnb : w.heap[W.heap.size]? = some (.cells (cellsX y).toArray 49 (0, 0)) := by rw [hw]; exact heap_alloc_new W _
        obtain ⟨v', w', r1, r2, r3, r4⟩ := app_one (e := (putsV (opsOf Try.f24 10) (VE [18, 19] (VPu gl n c12 i0 l[i0].cb yb (cvA l[i0] y.time) y) [.slice (some ⟨W.heap.size, 0, none⟩) 1 1]) (List.range 20) a).eval) hox hnb hs (by have := hL.bound; omega) (op_of (by kernel_rfl) hio) (nw _ 70 16 (by kernel_rfl) (by decide) (by decide)) (nw _ 72 18 (by kernel_rfl) (by decide) (by decide))
        exact ⟨v', w', r1, fun b hb hne => (r3.block b (by omega) hne).trans (hold b hb), ⟨r3.os.trans ho1, r3.tape.trans ho2, r3.output.trans ho3⟩, by have := r3.size; omega, r2, by rw [← hsz1]; exact r4⟩
    | q + 2, hq => simp at hq
  · match vs, hl with
    | [v1, v2], _ =>
      obtain ⟨hfr, ho3, hsz, hox, hb2⟩ := hS
      have eA : (putsV (opsOf Try.f24 10) (VE [18, 19] (VPu gl n c12 i0 l[i0].cb yb (cvA l[i0] y.time) y) [v1, v2]) (List.range 20) a).eval (.tmp 59) = .map (some l[i0].cb) := nw _ 59 5 (by kernel_rfl) (by decide) (by decide)
      have eB : (putsV (opsOf Try.f24 10) (VE [18, 19] (VPu gl n c12 i0 l[i0].cb yb (cvA l[i0] y.time) y) [v1, v2]) (List.range 20) a).eval (.tmp 61) = .int .i64 y.time := nw _ 61 7 (by kernel_rfl) (by decide) (by decide)
      have eC : (putsV (opsOf Try.f24 10) (VE [18, 19] (VPu gl n c12 i0 l[i0].cb yb (cvA l[i0] y.time) y) [v1, v2]) (List.range 20) a).eval (.tmp 73) = v2 := nw _ 73 19 (by kernel_rfl) (by decide) (by decide)
      obtain ⟨o, ho20, hop, hgd, hdst⟩ := op_ex (ops := (opsOf Try.f24 10)) (i := 20) (p := .mapUpdate 138 (.tmp 59) (.tmp 61) (.tmp 73)) (d := none) (by kernel_rfl)
      obtain ⟨es, cc, he, hr⟩ := q_update (P := Try.prog) Try.underlying138 Try.underlying3 (hm.keep (w' := w) (hfr _ hm.lt hcr)) hop eA eB eC
      have hcl : l[i0].cb < w.heap.size := Nat.lt_of_lt_of_le hm.lt hsz
      have hne : ∀ b, b ≠ l[i0].cb → (setMap w l[i0].cb es cc).heap[b]? = w.heap[b]? := fun b hb => setMap_ne w es cc hb
      have hv2 : v2.ownBlock = (cvA l[i0] y.time).ownBlock ∨ ∃ b, v2.ownBlock = some b ∧ W.heap.size ≤ b := hb2.imp (fun h => h) fun h => ⟨_, h, by omega⟩
      have hfr2 : ∀ b, b < W.heap.size → some b ≠ (cvA l[i0] y.time).ownBlock → b ≠ l[i0].cb → (setMap w l[i0].cb es cc).heap[b]? = W.heap[b]? := fun b h1 h2 h3 => (hne b h3).trans (hfr b h1 h2)
      have hlay := hL.put (L2 := setMap w l[i0].cb es cc) hx hto.symm (by rw [setMap_size]; exact hsz) hfr2 (setMap_eq hcl he) (own_of_block hox fun b hb => hne b fun e => by
        obtain ⟨_, cur, h2⟩ := own_block_at hox hb
        have h3 := (hm.keep (w' := w) (hfr _ hm.lt hcr))
        exact h3.not_cells h2 e) hv2
      simp only [wpOps, ho20, yld hgd, if_true]
      refine .inl ?_
      unfold Oper.wp
      rw [hr, Oper.upon_skip, hdst, put_none]
      exact hQ v1 v2 _ hlay hfr2 (by rw [setMap_size]; exact hsz) ho3 hv2
set_option maxRecDepth 100000 in
theorem u40_ok : drawOk (opsOf Try.f24 40) 20 = true := by kernel_rfl
set_option maxRecDepth 100000 in
theorem u40_ch : chainOk (opsOf Try.f24 40) 20 [18, 19] = true := by kernel_rfl
set_option maxRecDepth 100000 in
theorem u40_wp {ops : Array Oper} (hops : ops = opsOf Try.f24 40) {a : Act} {W : World} {B base gl n c12 i0 yb : Nat} {R : List (List RuleR)} {c : Come} {l : List AL} {x : AL} {y : LetR}
    (hz : a.tmps.size = 178) (t12 : a.eval (.tmp 12) = .slice (some ⟨gl, 0, none⟩) n c12) (tb : a.eval (.tmp 24) = .pointer (some ⟨yb, 0, none⟩)) (hL : LiesA W B base gl R c l) (hn : l.length = n) (hx : l[i0]? = some x) (hto : y.to = (i0 : Int)) (hs : (c i0 y.time).length < 900000)
    (hy : W.heap[yb]? = some (.cells (cellsX y).toArray 49 (0, 0))) (hyr : some yb ≠ (cvA x y.time).ownBlock) {Q : Exit → Act → World → Prop} {id : Nat}
    (hQ : ∀ v1 v2 w', LiesA w' B base gl R (c.add y) (l.set i0 { x with ca := putI x.ca y.time v2 }) → (∀ b, b < W.heap.size → some b ≠ (cvA x y.time).ownBlock → b ≠ x.cb → w'.heap[b]? = W.heap[b]?) → W.heap.size ≤ w'.heap.size → w'.os = W.os ∧ w'.tape = W.tape ∧ w'.output = W.output → (v2.ownBlock = (cvA x y.time).ownBlock ∨ ∃ b, v2.ownBlock = some b ∧ W.heap.size ≤ b) →
      Q .normal (putsV ops (VE [18, 19] (VPu gl n c12 i0 x.cb yb (cvA x y.time) y) [v1, v2]) (List.range 20) a) w') : (Code.region id ops true).wp Try.prog Q a W := by
  subst hops
  have hdd := drawOk_d u40_ok
  have nw : ∀ (V : Nat → Value) t j, prodOf (opsOf Try.f24 40) t = some j → j < 20 → t < 178 → (putsV (opsOf Try.f24 40) V (List.range 20) a).eval (.tmp t) = V j := fun V t j h1 h2 h3 => puts_new hdd h1 h2 (by rw [hz]; exact h3)
  have od : ∀ (V : Nat → Value) t, prodOf (opsOf Try.f24 40) t = none → (putsV (opsOf Try.f24 40) V (List.range 20) a).eval (.tmp t) = a.eval (.tmp t) := fun V t h => puts_old hdd h
  have hsz : (opsOf Try.f24 40).size = 21 := by kernel_rfl
  obtain ⟨hil, rfl⟩ := List.getElem?_eq_some_iff.1 hx
  have hi : i0 < n := by omega
  have hgl : gl < W.heap.size := hL.blk.lt
  have hyl := (Array.getElem?_eq_some_iff.1 hy).1
  obtain ⟨hm, hnd⟩ := hL.comes i0 _ hx
  have ho := hL.own i0 _ y.time hx
  have hgr : some gl ≠ (cvA l[i0] y.time).ownBlock := fun e => by have := (hL.row hx e.symm).1; have := hL.below; omega
  have hcr : some l[i0].cb ≠ (cvA l[i0] y.time).ownBlock := fun e => by
    obtain ⟨_, _, cur, h2⟩ := hL.row hx e.symm
    exact hm.not_cells h2 rfl
  have hgc : W.cell? ⟨gl, i0 * 4 + 2, none⟩ = some (.map (some l[i0].cb)) := by
    rw [hL.blk.cell, cellsA_at l i0 hil 2 (by omega)]; rfl
  refine wp_drawnE mixed_orders u40_ok u40_ch (SPu W base (cvA l[i0] y.time) y (c i0 y.time)) (VPu gl n c12 i0 l[i0].cb yb (cvA l[i0] y.time) y) (fun i o hio him hiE vs w hS => ?_) (fun q i o hq hio vs w hl hS => ?_) (fun vs w hl hS => ?_) (fun d => ⟨fun _ _ _ => rfl, ⟨rfl, rfl, rfl⟩, rfl⟩)
  · have hil : i < 21 := by have := (Array.getElem?_eq_some_iff.1 hio).1; omega
    have h18 : i ≠ 18 := fun e => hiE (by subst e; simp)
    have h19 : i ≠ 19 := fun e => hiE (by subst e; simp)
    obtain rfl | rfl | rfl | rfl | rfl | rfl | rfl | rfl | rfl | rfl | rfl | rfl | rfl | rfl | rfl | rfl | rfl | rfl : i = 0 ∨ i = 1 ∨ i = 2 ∨ i = 3 ∨ i = 4 ∨ i = 5 ∨ i = 6 ∨ i = 7 ∨ i = 8 ∨ i = 9 ∨ i = 10 ∨ i = 11 ∨ i = 12 ∨ i = 13 ∨ i = 14 ∨ i = 15 ∨ i = 16 ∨ i = 17 := by omega
    · exact a_mv (op_of (p := .move (.tmp 12)) (by kernel_rfl) hio) ((od _ 12 (by kernel_rfl)).trans t12)
    · exact a_fle (op_of (p := .fieldAddr 49 (.tmp 24) 1) (by kernel_rfl) hio) ((od _ 24 (by kernel_rfl)).trans tb) (by decide) rfl
    · exact q_load (op_of (p := .load 3 (.tmp 132)) (by kernel_rfl) hio) (nw _ 132 1 (by kernel_rfl) (by decide) (by decide)) (fun w => Try.isAgg3 w) (show w.cell? ⟨yb, 1, none⟩ = some (.int .i64 (i0 : Int)) from by rw [← hto]; exact (World.cell?_of_block (hS.1 yb hyl hyr)).trans (cells_at hy 1 _ rfl))
    · exact a_index (op_of (p := .indexAddr 135 (.tmp 131) (.tmp 133)) (by kernel_rfl) hio) (nw _ 131 0 (by kernel_rfl) (by decide) (by decide)) (nw _ 133 2 (by kernel_rfl) (by decide) (by decide)) hi Try.underlying135 (fun w => Try.sizeOf140 w) (by omega)
    · exact a_fac (op_of (p := .fieldAddr 140 (.tmp 134) 2) (by kernel_rfl) hio) (nw _ 134 3 (by kernel_rfl) (by decide) (by decide)) (by decide) rfl
    · exact q_load (op_of (p := .load 138 (.tmp 135)) (by kernel_rfl) hio) (nw _ 135 4 (by kernel_rfl) (by decide) (by decide)) (fun w => Try.isAgg138 w) ((World.cell?_of_block (hS.1 gl hgl hgr)).trans hgc)
    · exact a_fle (op_of (p := .fieldAddr 49 (.tmp 24) 0) (by kernel_rfl) hio) ((od _ 24 (by kernel_rfl)).trans tb) (by decide) rfl
    · exact q_load (op_of (p := .load 3 (.tmp 137)) (by kernel_rfl) hio) (nw _ 137 6 (by kernel_rfl) (by decide) (by decide)) (fun w => Try.isAgg3 w) ((World.cell?_of_block (hS.1 yb hyl hyr)).trans (cells_at hy 0 _ rfl))
    · exact a_mv (op_of (p := .move (.tmp 12)) (by kernel_rfl) hio) ((od _ 12 (by kernel_rfl)).trans t12)
    · exact a_fle (op_of (p := .fieldAddr 49 (.tmp 24) 1) (by kernel_rfl) hio) ((od _ 24 (by kernel_rfl)).trans tb) (by decide) rfl
    · exact q_load (op_of (p := .load 3 (.tmp 140)) (by kernel_rfl) hio) (nw _ 140 9 (by kernel_rfl) (by decide) (by decide)) (fun w => Try.isAgg3 w) (show w.cell? ⟨yb, 1, none⟩ = some (.int .i64 (i0 : Int)) from by rw [← hto]; exact (World.cell?_of_block (hS.1 yb hyl hyr)).trans (cells_at hy 1 _ rfl))
    · exact a_index (op_of (p := .indexAddr 135 (.tmp 139) (.tmp 141)) (by kernel_rfl) hio) (nw _ 139 8 (by kernel_rfl) (by decide) (by decide)) (nw _ 141 10 (by kernel_rfl) (by decide) (by decide)) hi Try.underlying135 (fun w => Try.sizeOf140 w) (by omega)
    · exact a_fac (op_of (p := .fieldAddr 140 (.tmp 142) 2) (by kernel_rfl) hio) (nw _ 142 11 (by kernel_rfl) (by decide) (by decide)) (by decide) rfl
    · exact q_load (op_of (p := .load 138 (.tmp 143)) (by kernel_rfl) hio) (nw _ 143 12 (by kernel_rfl) (by decide) (by decide)) (fun w => Try.isAgg138 w) ((World.cell?_of_block (hS.1 gl hgl hgr)).trans hgc)
    · exact a_fle (op_of (p := .fieldAddr 49 (.tmp 24) 0) (by kernel_rfl) hio) ((od _ 24 (by kernel_rfl)).trans tb) (by decide) rfl
    · exact q_load (op_of (p := .load 3 (.tmp 145)) (by kernel_rfl) hio) (nw _ 145 14 (by kernel_rfl) (by decide) (by decide)) (fun w => Try.isAgg3 w) ((World.cell?_of_block (hS.1 yb hyl hyr)).trans (cells_at hy 0 _ rfl))
    · exact a_lookC (hm.keep (hS.1 _ hm.lt hcr)) (op_of (p := .lookup 138 (.tmp 144) (.tmp 146) false) (by kernel_rfl) hio) (nw _ 144 13 (by kernel_rfl) (by decide) (by decide)) (nw _ 146 15 (by kernel_rfl) (by decide) (by decide))
    · exact a_loadX (op_of (p := .load 49 (.tmp 24)) (by kernel_rfl) hio) ((od _ 24 (by kernel_rfl)).trans tb) (fun j u hu => by rw [Nat.zero_add]; exact (World.cell?_of_block (hS.1 yb hyl hyr)).trans (cells_at hy j u hu))
  · match q, hq with
    | 0, hq =>
      obtain rfl : 18 = i := by simpa using hq
      obtain rfl : vs = [] := List.eq_nil_of_length_eq_zero hl
      obtain ⟨_, ho3, hw⟩ := hS
      refine ⟨.slice (some ⟨W.heap.size, 0, none⟩) 1 1, w.alloc (.cells (cellsX y).toArray 49), ?_, fun b hb _ => ?_, ho3, rfl, ?_⟩
      · have := a_sliceX (e := (putsV (opsOf Try.f24 40) (VE [18, 19] (VPu gl n c12 i0 l[i0].cb yb (cvA l[i0] y.time) y) []) (List.range 20) a).eval) (w := w) (z := y) (op_of (by kernel_rfl) hio) (nw _ 148 17 (by kernel_rfl) (by decide) (by decide))
        rw [hw] at this
        exact this
      · rw [Below.heap_alloc _ _ _ (by rw [hw]; exact hb), hw]
      · show w.heap.push _ = W.heap.push _
        rw [hw]
    | 1, hq =>
      obtain rfl : 19 = i := by simpa using hq
      match vs, hl with
      | [v1], _ =>
        obtain ⟨hfr, ⟨ho1, ho2, ho3⟩, hv1, hw⟩ := hS
        subst hv1
        have hsz1 : w.heap.size = W.heap.size + 1 := by rw [hw]; simp
        have hold : ∀ b, b < W.heap.size → w.heap[b]? = W.heap[b]? := fun b hb => by rw [hw]; exact Below.heap_alloc W _ b hb
        have hox : ownX w base (cvA l[i0] y.time) (c i0 y.time) := own_of_block ho fun b hb => hold b (hL.row hx hb).2.1
        have hnb : w.heap[W.heap.size]? = some (.cells (cellsX y).toArray 49 (0, 0)) := by rw [hw]; exact heap_alloc_new W _
        obtain ⟨v', w', r1, r2, r3, r4⟩ := app_one (e := (putsV (opsOf Try.f24 40) (VE [18, 19] (VPu gl n c12 i0 l[i0].cb yb (cvA l[i0] y.time) y) [.slice (some ⟨W.heap.size, 0, none⟩) 1 1]) (List.range 20) a).eval) hox hnb hs (by have := hL.bound; omega) (op_of (by kernel_rfl) hio) (nw _ 147 16 (by kernel_rfl) (by decide) (by decide)) (nw _ 149 18 (by kernel_rfl) (by decide) (by decide))
        exact ⟨v', w', r1, fun b hb hne => (r3.block b (by omega) hne).trans (hold b hb), ⟨r3.os.trans ho1, r3.tape.trans ho2, r3.output.trans ho3⟩, by have := r3.size; omega, r2, by rw [← hsz1]; exact r4⟩
    | q + 2, hq => simp at hq
  · match vs, hl with
    | [v1, v2], _ =>
      obtain ⟨hfr, ho3, hsz, hox, hb2⟩ := hS
      have eA : (putsV (opsOf Try.f24 40) (VE [18, 19] (VPu gl n c12 i0 l[i0].cb yb (cvA l[i0] y.time) y) [v1, v2]) (List.range 20) a).eval (.tmp 136) = .map (some l[i0].cb) := nw _ 136 5 (by kernel_rfl) (by decide) (by decide)
      have eB : (putsV (opsOf Try.f24 40) (VE [18, 19] (VPu gl n c12 i0 l[i0].cb yb (cvA l[i0] y.time) y) [v1, v2]) (List.range 20) a).eval (.tmp 138) = .int .i64 y.time := nw _ 138 7 (by kernel_rfl) (by decide) (by decide)
      have eC : (putsV (opsOf Try.f24 40) (VE [18, 19] (VPu gl n c12 i0 l[i0].cb yb (cvA l[i0] y.time) y) [v1, v2]) (List.range 20) a).eval (.tmp 150) = v2 := nw _ 150 19 (by kernel_rfl) (by decide) (by decide)
      obtain ⟨o, ho20, hop, hgd, hdst⟩ := op_ex (ops := (opsOf Try.f24 40)) (i := 20) (p := .mapUpdate 138 (.tmp 136) (.tmp 138) (.tmp 150)) (d := none) (by kernel_rfl)
      obtain ⟨es, cc, he, hr⟩ := q_update (P := Try.prog) Try.underlying138 Try.underlying3 (hm.keep (w' := w) (hfr _ hm.lt hcr)) hop eA eB eC
      have hcl : l[i0].cb < w.heap.size := Nat.lt_of_lt_of_le hm.lt hsz
      have hne : ∀ b, b ≠ l[i0].cb → (setMap w l[i0].cb es cc).heap[b]? = w.heap[b]? := fun b hb => setMap_ne w es cc hb
      have hv2 : v2.ownBlock = (cvA l[i0] y.time).ownBlock ∨ ∃ b, v2.ownBlock = some b ∧ W.heap.size ≤ b := hb2.imp (fun h => h) fun h => ⟨_, h, by omega⟩
      have hfr2 : ∀ b, b < W.heap.size → some b ≠ (cvA l[i0] y.time).ownBlock → b ≠ l[i0].cb → (setMap w l[i0].cb es cc).heap[b]? = W.heap[b]? := fun b h1 h2 h3 => (hne b h3).trans (hfr b h1 h2)
      have hlay := hL.put (L2 := setMap w l[i0].cb es cc) hx hto.symm (by rw [setMap_size]; exact hsz) hfr2 (setMap_eq hcl he) (own_of_block hox fun b hb => hne b fun e => by
        obtain ⟨_, cur, h2⟩ := own_block_at hox hb
        have h3 := (hm.keep (w' := w) (hfr _ hm.lt hcr))
        exact h3.not_cells h2 e) hv2
      simp only [wpOps, ho20, yld hgd, if_true]
      refine .inl ?_
      unfold Oper.wp
      rw [hr, Oper.upon_skip, hdst, put_none]
      exact hQ v1 v2 _ hlay hfr2 (by rw [setMap_size]; exact hsz) ho3 hv2
end Go.Proofs.Yticdjkkcfdbdcaa

/- The regions of actor.Run that look for a time's letters and take them out, alone. No conditions but that what is read is there. -/
namespace Go.Proofs.Yticdjkkcfdbdcaa
open Go.Conc Go.ConcN Go.RowKit
def V19 (gl n c12 i0 cb : Nat) (t : Int) (v : Value) : Nat → Value := fun j => match j with
  | 0 => .slice (some ⟨gl, 0, none⟩) n c12
  | 1 => .int .i64 i0
  | 2 => .pointer (some ⟨gl, i0 * 4, none⟩)
  | 3 => .pointer (some ⟨gl, i0 * 4 + 2, none⟩)
  | 4 => .map (some cb)
  | 5 => .int .i64 t
  | 6 => v
  | _ => undef
set_option maxRecDepth 100000 in
theorem u19_ok : drawOk (opsOf Try.f24 19) 7 = true := by kernel_rfl
set_option maxRecDepth 100000 in
theorem u19_ch : chainOk (opsOf Try.f24 19) 7 [] = true := by kernel_rfl
set_option maxRecDepth 100000 in
theorem u19_wp {ops : Array Oper} (hops : ops = opsOf Try.f24 19) {a : Act} {W : World} {B base gl n c12 i0 bT : Nat} {R : List (List RuleR)} {c : Come} {l : List AL} {x : AL} {t : Int}
    (hz : a.tmps.size = 178) (t12 : a.eval (.tmp 12) = .slice (some ⟨gl, 0, none⟩) n c12) (t17 : a.eval (.tmp 17) = .int .i64 i0) (t15 : a.eval (.tmp 15) = .pointer (some ⟨bT, 0, none⟩)) (hL : LiesA W B base gl R c l) (hn : l.length = n) (hx : l[i0]? = some x)
    (hbT : W.cell? ⟨bT, 0, none⟩ = some (.int .i64 t)) {Q : Exit → Act → World → Prop} {id : Nat}
    (hQ : ∀ w', w'.heap = W.heap → w'.os = W.os ∧ w'.tape = W.tape ∧ w'.output = W.output → Q .normal ((putsV ops (VE [] (V19 gl n c12 i0 x.cb t (cvA x t)) []) (List.range 7) a).put (some 18) (cvA x t)) w') : (Code.region id ops true).wp Try.prog Q a W := by
  subst hops
  have hdd := drawOk_d u19_ok
  have nw : ∀ (V : Nat → Value) t j, prodOf (opsOf Try.f24 19) t = some j → j < 7 → t < 178 → (putsV (opsOf Try.f24 19) V (List.range 7) a).eval (.tmp t) = V j := fun V t j h1 h2 h3 => puts_new hdd h1 h2 (by rw [hz]; exact h3)
  have od : ∀ (V : Nat → Value) t, prodOf (opsOf Try.f24 19) t = none → (putsV (opsOf Try.f24 19) V (List.range 7) a).eval (.tmp t) = a.eval (.tmp t) := fun V t h => puts_old hdd h
  have hsz : (opsOf Try.f24 19).size = 8 := by kernel_rfl
  obtain ⟨hil, rfl⟩ := List.getElem?_eq_some_iff.1 hx
  have hi : i0 < n := by omega
  obtain ⟨hm, hnd⟩ := hL.comes i0 _ hx
  have hgc : W.cell? ⟨gl, i0 * 4 + 2, none⟩ = some (.map (some l[i0].cb)) := by
    rw [hL.blk.cell, cellsA_at l i0 hil 2 (by omega)]; rfl
  refine wp_drawnE mixed_orders u19_ok u19_ch (fun vs w => w.heap = W.heap ∧ w.os = W.os ∧ w.tape = W.tape ∧ w.output = W.output) (V19 gl n c12 i0 l[i0].cb t (cvA l[i0] t)) (fun i o hio him hiE vs w hS => ?_) (fun q i o hq hio vs w hl hS => ?_) (fun vs w hl hS => ?_) (fun d => ⟨rfl, rfl, rfl, rfl⟩)
  · have hil : i < 8 := by have := (Array.getElem?_eq_some_iff.1 hio).1; omega
    obtain rfl | rfl | rfl | rfl | rfl | rfl | rfl : i = 0 ∨ i = 1 ∨ i = 2 ∨ i = 3 ∨ i = 4 ∨ i = 5 ∨ i = 6 := by omega
    · exact a_mv (op_of (p := .move (.tmp 12)) (by kernel_rfl) hio) ((od _ 12 (by kernel_rfl)).trans t12)
    · exact a_mv (op_of (p := .move (.tmp 17)) (by kernel_rfl) hio) ((od _ 17 (by kernel_rfl)).trans t17)
    · exact a_index (op_of (p := .indexAddr 135 (.tmp 85) (.tmp 86)) (by kernel_rfl) hio) (nw _ 85 0 (by kernel_rfl) (by decide) (by decide)) (nw _ 86 1 (by kernel_rfl) (by decide) (by decide)) hi Try.underlying135 (fun w => Try.sizeOf140 w) (by omega)
    · exact a_fac (op_of (p := .fieldAddr 140 (.tmp 87) 2) (by kernel_rfl) hio) (nw _ 87 2 (by kernel_rfl) (by decide) (by decide)) (by decide) rfl
    · exact q_load (op_of (p := .load 138 (.tmp 88)) (by kernel_rfl) hio) (nw _ 88 3 (by kernel_rfl) (by decide) (by decide)) (fun w => Try.isAgg138 w) ((World.cell?_of_block (by rw [hS.1])).trans hgc)
    · exact q_load (op_of (p := .load 3 (.tmp 15)) (by kernel_rfl) hio) ((od _ 15 (by kernel_rfl)).trans t15) (fun w => Try.isAgg3 w) ((World.cell?_of_block (by rw [hS.1])).trans hbT)
    · exact a_lookC (hm.keep (by rw [hS.1])) (op_of (p := .lookup 138 (.tmp 89) (.tmp 90) false) (by kernel_rfl) hio) (nw _ 89 4 (by kernel_rfl) (by decide) (by decide)) (nw _ 90 5 (by kernel_rfl) (by decide) (by decide))
  · simp at hq
  · obtain rfl : vs = [] := List.eq_nil_of_length_eq_zero hl
    have e91 : (putsV (opsOf Try.f24 19) (VE [] (V19 gl n c12 i0 l[i0].cb t (cvA l[i0] t)) []) (List.range 7) a).eval (.tmp 91) = cvA l[i0] t := nw _ 91 6 (by kernel_rfl) (by decide) (by decide)
    obtain ⟨o, ho7, hop, hgd, hdst⟩ := op_ex (ops := (opsOf Try.f24 19)) (i := 7) (p := .assign (.tmp 91)) (d := some 18) (by kernel_rfl)
    simp only [wpOps, ho7, yld hgd, if_true]
    refine .inl ?_
    unfold Oper.wp
    rw [a_asg hop e91, Oper.upon_value, hdst]
    exact hQ _ hS.1 hS.2
def V43 (gl i0 cb : Nat) (t : Int) : Nat → Value := fun j => match j with
  | 0 => .pointer (some ⟨gl, i0 * 4, none⟩)
  | 1 => .pointer (some ⟨gl, i0 * 4, none⟩)
  | 2 => .pointer (some ⟨gl, i0 * 4 + 2, none⟩)
  | 3 => .map (some cb)
  | 4 => .int .i64 t
  | _ => undef
set_option maxRecDepth 100000 in
theorem u43_ok : drawOk (opsOf Try.f24 43) 5 = true := by kernel_rfl
set_option maxRecDepth 100000 in
theorem u43_ch : chainOk (opsOf Try.f24 43) 5 [] = true := by kernel_rfl
set_option maxRecDepth 100000 in
theorem u43_wp {ops : Array Oper} (hops : ops = opsOf Try.f24 43) {a : Act} {W : World} {B base gl i0 bT : Nat} {R : List (List RuleR)} {c : Come} {l : List AL} {x : AL} {t : Int}
    (hz : a.tmps.size = 178) (t22 : a.eval (.tmp 22) = .pointer (some ⟨gl, i0 * 4, none⟩)) (t15 : a.eval (.tmp 15) = .pointer (some ⟨bT, 0, none⟩)) (hL : LiesA W B base gl R c l) (hx : l[i0]? = some x)
    (hbT : W.cell? ⟨bT, 0, none⟩ = some (.int .i64 t)) {Q : Exit → Act → World → Prop} {id : Nat}
    (hQ : ∀ w', LiesA w' B base gl R (fun j s => if j = i0 ∧ s = t then [] else c j s) (l.set i0 { x with ca := delI x.ca t }) → (∀ b, b ≠ x.cb → w'.heap[b]? = W.heap[b]?) → w'.heap.size = W.heap.size → w'.os = W.os ∧ w'.tape = W.tape ∧ w'.output = W.output →
      Q .normal (putsV ops (VE [] (V43 gl i0 x.cb t) []) (List.range 5) a) w') : (Code.region id ops true).wp Try.prog Q a W := by
  subst hops
  have hdd := drawOk_d u43_ok
  have nw : ∀ (V : Nat → Value) t j, prodOf (opsOf Try.f24 43) t = some j → j < 5 → t < 178 → (putsV (opsOf Try.f24 43) V (List.range 5) a).eval (.tmp t) = V j := fun V t j h1 h2 h3 => puts_new hdd h1 h2 (by rw [hz]; exact h3)
  have od : ∀ (V : Nat → Value) t, prodOf (opsOf Try.f24 43) t = none → (putsV (opsOf Try.f24 43) V (List.range 5) a).eval (.tmp t) = a.eval (.tmp t) := fun V t h => puts_old hdd h
  have hsz : (opsOf Try.f24 43).size = 6 := by kernel_rfl
  obtain ⟨hil, rfl⟩ := List.getElem?_eq_some_iff.1 hx
  obtain ⟨hm, hnd⟩ := hL.comes i0 _ hx
  have hgc : W.cell? ⟨gl, i0 * 4 + 2, none⟩ = some (.map (some l[i0].cb)) := by
    rw [hL.blk.cell, cellsA_at l i0 hil 2 (by omega)]; rfl
  refine wp_drawnE mixed_orders u43_ok u43_ch (fun vs w => w.heap = W.heap ∧ w.os = W.os ∧ w.tape = W.tape ∧ w.output = W.output) (V43 gl i0 l[i0].cb t) (fun i o hio him hiE vs w hS => ?_) (fun q i o hq hio vs w hl hS => ?_) (fun vs w hl hS => ?_) (fun d => ⟨rfl, rfl, rfl, rfl⟩)
  · have hil : i < 6 := by have := (Array.getElem?_eq_some_iff.1 hio).1; omega
    obtain rfl | rfl | rfl | rfl | rfl : i = 0 ∨ i = 1 ∨ i = 2 ∨ i = 3 ∨ i = 4 := by omega
    · exact a_mv (op_of (p := .move (.tmp 22)) (by kernel_rfl) hio) ((od _ 22 (by kernel_rfl)).trans t22)
    · exact q_nil (op_of (p := .nilCheck (.tmp 155)) (by kernel_rfl) hio) (nw _ 155 0 (by kernel_rfl) (by decide) (by decide))
    · exact a_fac (op_of (p := .fieldAddr 140 (.tmp 156) 2) (by kernel_rfl) hio) (nw _ 156 1 (by kernel_rfl) (by decide) (by decide)) (by decide) rfl
    · exact q_load (op_of (p := .load 138 (.tmp 157)) (by kernel_rfl) hio) (nw _ 157 2 (by kernel_rfl) (by decide) (by decide)) (fun w => Try.isAgg138 w) ((World.cell?_of_block (by rw [hS.1])).trans hgc)
    · exact q_load (op_of (p := .load 3 (.tmp 15)) (by kernel_rfl) hio) ((od _ 15 (by kernel_rfl)).trans t15) (fun w => Try.isAgg3 w) ((World.cell?_of_block (by rw [hS.1])).trans hbT)
  · simp at hq
  · obtain rfl : vs = [] := List.eq_nil_of_length_eq_zero hl
    obtain ⟨hS, ho3⟩ := hS
    have eA : (putsV (opsOf Try.f24 43) (VE [] (V43 gl i0 l[i0].cb t) []) (List.range 5) a).eval (.tmp 158) = .map (some l[i0].cb) := nw _ 158 3 (by kernel_rfl) (by decide) (by decide)
    have eB : (putsV (opsOf Try.f24 43) (VE [] (V43 gl i0 l[i0].cb t) []) (List.range 5) a).eval (.tmp 159) = .int .i64 t := nw _ 159 4 (by kernel_rfl) (by decide) (by decide)
    obtain ⟨o, ho5, hop, hgd, hdst⟩ := op_ex (ops := (opsOf Try.f24 43)) (i := 5) (p := .call { callee := .builtin .delete, args := #[.tmp 158, .tmp 159], argTypes := #[138, 3] }) (d := none) (by kernel_rfl)
    have hmw := hm.keep (w' := w) (by rw [hS])
    obtain ⟨es, cc, he, hr⟩ := q_delete (P := Try.prog) Try.underlying138 Try.underlying3 hmw rfl hop eA eB
    have hne : ∀ b, b ≠ l[i0].cb → (setMap w l[i0].cb es cc).heap[b]? = W.heap[b]? := fun b hb => by rw [setMap_ne w es cc hb, hS]
    have hlay := hL.del (L2 := setMap w l[i0].cb es cc) hx t (by rw [setMap_size, hS]; exact Nat.le_refl _) (fun b _ hb => hne b hb) (setMap_eq hmw.lt he)
    simp only [wpOps, ho5, yld hgd, if_true]
    refine .inl ?_
    unfold Oper.wp
    rw [hr, Oper.upon_value, hdst, put_none]
    exact hQ _ hlay hne (by rw [setMap_size, hS]) ho3
end Go.Proofs.Yticdjkkcfdbdcaa
