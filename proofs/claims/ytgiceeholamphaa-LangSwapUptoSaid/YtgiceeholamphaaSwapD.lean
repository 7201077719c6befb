/- Programs that a call itself makes, as they lie in memory: apart from some blocks. Plain. No conditions. -/
import Derived.Test.YtgiceeholamphaaTurn
import Derived.Test.YtgiceeholamphaaDoer
import Derived.Test.YtgiceeholamphaaRefN
namespace Go.Proofs.Ytgiceeholamphaa
open Go.ChangeShapes Go.WideShapes Go.ChangeAt Go.RowKit Go.Maps

/-- A statement, read: its expressions lie below B, its rows in blocks of S. -/
inductive RdSP (w : World) (B : Nat) (S : Nat → Prop) : StatR → Prop
  | mk (x : StatR) (he : RdE w B x.e) (row : x.blocks ≠ [] → ∃ b o, x.bA = some ⟨b, o, none⟩ ∧ S b ∧ ∀ (i : Nat) (h : i < x.blocks.length), w.cell? ⟨b, o + i, none⟩ = some x.blocks[i].val)
      (rows : ∀ k ∈ x.blocks, (k.l ≠ [] → ∃ b o, k.A = some ⟨b, o, none⟩ ∧ S b ∧ ∀ (i : Nat) (h : i < k.l.length), StatAt w b (o + i * 8) k.l[i]) ∧ Fits k.l.length)
      (each : ∀ k ∈ x.blocks, ∀ y ∈ k.l, RdSP w B S y) (fits : Fits x.blocks.length) : RdSP w B S x
structure RdBP (w : World) (B : Nat) (S : Nat → Prop) (k : BlockR) : Prop where
  row : k.l ≠ [] → ∃ b o, k.A = some ⟨b, o, none⟩ ∧ S b ∧ ∀ (i : Nat) (h : i < k.l.length), StatAt w b (o + i * 8) k.l[i]
  each : ∀ y ∈ k.l, RdSP w B S y
  fits : Fits k.l.length
section
variable {w w' : World} {B : Nat} {S S' : Nat → Prop}
theorem RdSP.keep {x : StatR} (h : RdSP w B S x) (hB : ∀ p : Addr, p.block < B → w'.cell? p = w.cell? p) (hS : ∀ p : Addr, S p.block → w'.cell? p = w.cell? p) (hm : ∀ b, S b → S' b) : RdSP w' B S' x := by
  induction h with
  | mk x he row rows each fits ih =>
    refine ⟨x, he.keep hB, fun hn => ?_, fun k hk => ⟨fun hn => ?_, (rows k hk).2⟩, ih, fits⟩
    · obtain ⟨b, o, e, hb, hc⟩ := row hn
      exact ⟨b, o, e, hm b hb, fun i hi => (hS ⟨b, o + i, none⟩ hb).trans (hc i hi)⟩
    · obtain ⟨b, o, e, hb, hc⟩ := (rows k hk).1 hn
      exact ⟨b, o, e, hm b hb, fun i hi => StatAt.of_get fun j hj => (hS ⟨b, o + i * 8 + j, none⟩ hb).trans ((hc i hi).get hj)⟩
theorem RdBP.keep {k : BlockR} (h : RdBP w B S k) (hB : ∀ p : Addr, p.block < B → w'.cell? p = w.cell? p) (hS : ∀ p : Addr, S p.block → w'.cell? p = w.cell? p) (hm : ∀ b, S b → S' b) : RdBP w' B S' k := by
  refine ⟨fun hn => ?_, fun y hy => (h.each y hy).keep hB hS hm, h.fits⟩
  obtain ⟨b, o, e, hb, hc⟩ := h.row hn
  exact ⟨b, o, e, hm b hb, fun i hi => StatAt.of_get fun j hj => (hS ⟨b, o + i * 8 + j, none⟩ hb).trans ((hc i hi).get hj)⟩
theorem RdSP.rd {x : StatR} {B' : Nat} (h : RdSP w B S x) (hB : B ≤ B') (hS : ∀ b, S b → b < B') : RdS w B' x := by
  induction h with
  | mk x he row rows each fits ih =>
    refine ⟨x, he.more hB, fun hn => ?_, fun k hk => ⟨fun hn => ?_, (rows k hk).2⟩, ih, fits⟩
    · obtain ⟨b, o, e, hb, hc⟩ := row hn
      exact ⟨b, o, e, hS b hb, hc⟩
    · obtain ⟨b, o, e, hb, hc⟩ := (rows k hk).1 hn
      exact ⟨b, o, e, hS b hb, hc⟩
theorem RdBP.rd {k : BlockR} {B' : Nat} (h : RdBP w B S k) (hB : B ≤ B') (hS : ∀ b, S b → b < B') : RdB w B' k := by
  refine ⟨fun hn => ?_, fun y hy => (h.each y hy).rd hB hS, h.fits⟩
  obtain ⟨b, o, e, hb, hc⟩ := h.row hn
  exact ⟨b, o, e, hS b hb, hc⟩
end
/-- New since lo, and not among ex. -/
def NewS (lo : Nat) (w : World) (ex : List Nat) (b : Nat) : Prop := lo ≤ b ∧ b < w.heap.size ∧ b ∉ ex
def ownL (v : Value) : List Nat := v.ownBlock.toList
theorem mem_ownL {v : Value} {b : Nat} : b ∈ ownL v ↔ v.ownBlock = some b := by simp [ownL]
/-- What swapped hands back. -/
def SwPost (L : List StatR) (t : Int) (B : Nat) (w : World) (E : Ending) (w' : World) : Prop :=
  ∃ (A : Option Addr) (c : Nat) (l : List StatR), E = .returned (.slice A l.length c) ∧ RdBP w' B (NewS w.heap.size w' []) (.mk A c l) ∧ CapL l ∧ SwL t L l ∧ Below w.heap.size w w'
/-- A row of blocks of the call's own. -/
theorem own_rowB {w : World} {base n : Nat} {t : TypeId} {v : Value} {l : List BlockR} (h : w.ownsRow base t 1 v n (valsB l)) : ∃ A c, v = .slice A l.length c ∧ l.length ≤ c ∧ (l ≠ [] → ∃ b, A = some ⟨b, 0, none⟩ ∧ v.ownBlock = some b ∧ base ≤ b ∧ b < w.heap.size ∧ ∀ (i : Nat) (hi : i < l.length), w.cell? ⟨b, 0 + i, none⟩ = some l[i].val) := by
  have hn : n = l.length := by have := h.1; rw [valsB_length] at this; omega
  subst hn
  obtain ⟨A, c, rfl, hc, _⟩ := own_form h
  refine ⟨A, c, rfl, hc, fun hne => ?_⟩
  obtain ⟨g, c', e, hb, hg, _⟩ := own_top h (List.length_pos_iff.2 hne)
  injection e with e1 e2 e3
  subst e1 e3
  refine ⟨g, rfl, rfl, hb, hg, fun i hi => ?_⟩
  rw [Nat.zero_add, h.cellAt i (by omega)]
  simp [valsB, hi]
theorem own_rowS {w : World} {base n : Nat} {t : TypeId} {v : Value} {l : List StatR} (h : w.ownsRow base t 8 v n (cellsS l)) : ∃ A c, v = .slice A l.length c ∧ l.length ≤ c ∧ (l ≠ [] → ∃ b, A = some ⟨b, 0, none⟩ ∧ v.ownBlock = some b ∧ base ≤ b ∧ b < w.heap.size ∧ ∀ (i : Nat) (hi : i < l.length), StatAt w b (0 + i * 8) l[i]) := by
  have hn : n = l.length := by have := h.1; rw [cellsS_length] at this; omega
  subst hn
  obtain ⟨A, c, rfl, hc, _⟩ := own_form h
  refine ⟨A, c, rfl, hc, fun hne => ?_⟩
  obtain ⟨g, c', e, hb, hg, _⟩ := own_top h (List.length_pos_iff.2 hne)
  injection e with e1 e2 e3
  subst e1 e3
  refine ⟨g, rfl, rfl, hb, hg, fun i hi => ?_⟩
  rw [Nat.zero_add]
  exact own_statAt h hi
/-- The statements that are done: in a row of the call's own, each as it is meant. -/
structure DoneS (lo B : Nat) (w : World) (v : Value) (t : Int) (L done : List StatR) : Prop where
  own : w.ownsRow lo 34 8 v done.length (cellsS done)
  like : ∀ i (h : i < L.length) (h' : i < done.length), SwS t L[i] done[i]
  read : ∀ y ∈ done, RdSP w B (NewS lo w (ownL v)) y ∧ CapS y
structure DoneB (lo B : Nat) (w : World) (v : Value) (t : Int) (bs done : List BlockR) : Prop where
  own : w.ownsRow lo 22 1 v done.length (valsB done)
  like : ∀ i (h : i < bs.length) (h' : i < done.length), SwL t bs[i].l done[i].l
  read : ∀ k ∈ done, RdBP w B (NewS lo w (ownL v)) k ∧ CapL k.l
theorem DoneS.below {lo B : Nat} {w w' : World} {v : Value} {t : Int} {L done : List StatR} (h : DoneS lo B w v t L done) (hB : B ≤ lo) (hl : lo ≤ w.heap.size) (hb : Below w.heap.size w w') : DoneS lo B w' v t L done := by
  refine ⟨own_below h.own hb, h.like, fun y hy => ⟨(h.read y hy).1.keep (fun p hp => hb.cell (by omega)) (fun p hp => hb.cell hp.2.1) fun b hb' => ⟨hb'.1, Nat.lt_of_lt_of_le hb'.2.1 hb.size, hb'.2.2⟩, (h.read y hy).2⟩⟩
theorem DoneB.below {lo B : Nat} {w w' : World} {v : Value} {t : Int} {L done : List BlockR} (h : DoneB lo B w v t L done) (hB : B ≤ lo) (hl : lo ≤ w.heap.size) (hb : Below w.heap.size w w') : DoneB lo B w' v t L done := by
  refine ⟨own_below h.own hb, h.like, fun y hy => ⟨(h.read y hy).1.keep (fun p hp => hb.cell (by omega)) (fun p hp => hb.cell hp.2.1) fun b hb' => ⟨hb'.1, Nat.lt_of_lt_of_le hb'.2.1 hb.size, hb'.2.2⟩, (h.read y hy).2⟩⟩
/-- One more, behind append. -/
theorem push_keep {W w' : World} {v : Value} {o : Obj} (hg : (W.alloc o).grownBy w' v.ownBlock) {p : Addr} (hp : p.block < W.heap.size) (hv : v.ownBlock ≠ some p.block) : w'.cell? p = W.cell? p := by
  have h1 := hg.block p.block (by simp; omega) (fun e => hv e.symm)
  have h2 : (W.alloc o).heap[p.block]? = W.heap[p.block]? := Below.heap_alloc W o p.block hp
  exact World.cell?_of_block (h1.trans h2)
theorem push_new {W w' : World} {v v' : Value} {o : Obj} (hg : (W.alloc o).grownBy w' v.ownBlock) (hloc : v'.ownBlock = v.ownBlock ∨ v'.ownBlock = some (W.alloc o).heap.size) {b : Nat} (hb : b < W.heap.size) (hv : b ∉ ownL v) : b < w'.heap.size ∧ b ∉ ownL v' := by
  have h1 := hg.size
  simp only [World.size_alloc] at h1
  refine ⟨by omega, fun hm => ?_⟩
  rw [mem_ownL] at hm hv
  rcases hloc with e | e
  · exact hv (e.symm.trans hm)
  · rw [e] at hm
    injection hm with hm
    simp only [World.size_alloc] at hm
    omega
theorem getElem_snoc {α : Type} {p : Nat → α → Prop} {l : List α} {x : α} (h : ∀ i (h : i < l.length), p i l[i]) (hx : p l.length x) : ∀ i (h : i < (l ++ [x]).length), p i (l ++ [x])[i] := fun i hi => by
  rw [List.length_append, List.length_singleton] at hi
  by_cases e : i < l.length
  · rw [List.getElem_append_left e]; exact h i e
  · obtain rfl : i = l.length := by omega
    rw [List.getElem_append_right (by omega)]
    simpa using hx
theorem DoneB.push {lo B lo2 : Nat} {W w' : World} {v v' : Value} {o : Obj} {t : Int} {bs done : List BlockR} {M : BlockR} (h : DoneB lo B W v t bs done) (hB : B ≤ lo) (hlo : lo ≤ lo2) (hl2 : lo2 ≤ W.heap.size) (hv : ∀ k, v.ownBlock = some k → k < lo2)
    (hM : RdBP W B (NewS lo2 W []) M) (hC : CapL M.l) (hl : ∀ h : done.length < bs.length, SwL t bs[done.length].l M.l)
    (ho : w'.ownsRow lo 22 1 v' (done.length + 1) (valsB done ++ valsB [M])) (hg : (W.alloc o).grownBy w' v.ownBlock) (hloc : v'.ownBlock = v.ownBlock ∨ v'.ownBlock = some (W.alloc o).heap.size) :
    DoneB lo B w' v' t bs (done ++ [M]) := by
  have hbel : ∀ p : Addr, p.block < B → w'.cell? p = W.cell? p := fun p hp => push_keep hg (by omega) (fun e => by have := (h.own.lt _ e).1; omega)
  refine ⟨?_, fun i hi hi' => ?_, fun k hk => ?_⟩
  · rw [List.length_append, List.length_singleton, show valsB (done ++ [M]) = valsB done ++ valsB [M] by simp [valsB]]
    exact ho
  · exact getElem_snoc (p := fun i m => ∀ h : i < bs.length, SwL t bs[i].l m.l) (fun i hi hb => h.like i hb hi) hl i hi' hi
  · rcases List.mem_append.1 hk with hk | hk
    · refine ⟨(h.read k hk).1.keep hbel (fun p hp => push_keep hg hp.2.1 (fun e => hp.2.2 (mem_ownL.2 e))) (fun b hb => ?_), (h.read k hk).2⟩
      have := push_new hg hloc hb.2.1 hb.2.2
      exact ⟨hb.1, this.1, this.2⟩
    · rw [List.mem_singleton] at hk
      subst hk
      have hn : ∀ b, lo2 ≤ b → b ∉ ownL v := fun b hb hm => by have := hv b (mem_ownL.1 hm); omega
      refine ⟨hM.keep hbel (fun p hp => push_keep hg hp.2.1 (fun e => hn _ hp.1 (mem_ownL.2 e))) (fun b hb => ?_), hC⟩
      have := push_new hg hloc hb.2.1 (hn b hb.1)
      exact ⟨Nat.le_trans hlo hb.1, this.1, this.2⟩
theorem DoneS.push {lo B : Nat} {W w' : World} {v v' : Value} {o : Obj} {t : Int} {L done : List StatR} {y : StatR} (h : DoneS lo B W v t L done) (hB : B ≤ lo) (hl2 : lo ≤ W.heap.size)
    (hy : RdSP W B (NewS lo W (ownL v)) y) (hC : CapS y) (hl : ∀ h : done.length < L.length, SwS t L[done.length] y)
    (ho : w'.ownsRow lo 34 8 v' (done.length + 1) (cellsS done ++ cellsS [y])) (hg : (W.alloc o).grownBy w' v.ownBlock) (hloc : v'.ownBlock = v.ownBlock ∨ v'.ownBlock = some (W.alloc o).heap.size) :
    DoneS lo B w' v' t L (done ++ [y]) := by
  have hbel : ∀ p : Addr, p.block < B → w'.cell? p = W.cell? p := fun p hp => push_keep hg (by omega) (fun e => by have := (h.own.lt _ e).1; omega)
  have key : ∀ z, RdSP W B (NewS lo W (ownL v)) z → RdSP w' B (NewS lo w' (ownL v')) z := fun z hz => hz.keep hbel (fun p hp => push_keep hg hp.2.1 (fun e => hp.2.2 (mem_ownL.2 e))) (fun b hb => by
    have := push_new hg hloc hb.2.1 hb.2.2
    exact ⟨hb.1, this.1, this.2⟩)
  refine ⟨?_, fun i hi hi' => ?_, fun k hk => ?_⟩
  · rw [List.length_append, List.length_singleton, cellsS_append]
    exact ho
  · exact getElem_snoc (p := fun i m => ∀ h : i < L.length, SwS t L[i] m) (fun i hi hb => h.like i hb hi) hl i hi' hi
  · rcases List.mem_append.1 hk with hk | hk
    · exact ⟨key k (h.read k hk).1, (h.read k hk).2⟩
    · rw [List.mem_singleton] at hk
      subst hk
      exact ⟨key _ hy, hC⟩
theorem DoneB.setCell {lo B : Nat} {w : World} {v : Value} {t : Int} {bs done : List BlockR} (h : DoneB lo B w v t bs done) {p : Addr} (h1 : B ≤ p.block) (h2 : p.block < lo) (u : Value) : DoneB lo B (w.setCell p u) v t bs done := by
  have hne : ∀ q : Addr, q.block ≠ p.block → (w.setCell p u).cell? q = w.cell? q := fun q hq => World.cell?_setCell_other w p q u (fun e => hq (by rw [e]))
  refine ⟨own_blocks h.own fun b hb _ => Below.heap_setCell w p u b (by omega), h.like, fun k hk => ⟨(h.read k hk).1.keep (fun q hq => hne q (by omega)) (fun q hq => hne q (by have := hq.1; omega)) (fun b hb => ⟨hb.1, by simpa using hb.2.1, hb.2.2⟩), (h.read k hk).2⟩⟩
/-- The statement that comes of x, its blocks being done. -/
theorem DoneB.stat {lo lo0 B : Nat} {w : World} {vb v5 : Value} {x : StatR} {bs' : List BlockR} {A7 : Option Addr} {c7 : Nat} (hR : RdE w B x.e) (hf : Fits x.blocks.length) (hl : bs'.length = x.blocks.length) (hcap : bs'.length ≤ c7)
    (hrow : bs' ≠ [] → ∃ b o, A7 = some ⟨b, o, none⟩ ∧ NewS lo0 w (ownL v5) b ∧ ∀ (i : Nat) (h : i < bs'.length), w.cell? ⟨b, o + i, none⟩ = some bs'[i].val)
    (hrd : ∀ k ∈ bs', RdBP w B (NewS lo w (ownL vb)) k ∧ CapL k.l) (hlo : lo0 ≤ lo) (hv5 : ∀ k, v5.ownBlock = some k → k < lo) :
    RdSP w B (NewS lo0 w (ownL v5)) (.mk x.kind x.name x.e x.n A7 c7 bs') ∧ CapS (.mk x.kind x.name x.e x.n A7 c7 bs') := by
  have hm : ∀ b, NewS lo w (ownL vb) b → NewS lo0 w (ownL v5) b := fun b hb => ⟨Nat.le_trans hlo hb.1, hb.2.1, fun hm => by have := hv5 b (mem_ownL.1 hm); have := hb.1; omega⟩
  have hk : ∀ k ∈ bs', RdBP w B (NewS lo0 w (ownL v5)) k := fun k hk => (hrd k hk).1.keep (fun _ _ => rfl) (fun _ _ => rfl) hm
  exact ⟨⟨_, hR, hrow, fun k h => ⟨(hk k h).row, (hk k h).fits⟩, fun k h y hy => (hk k h).each y hy, by simp only [StatR.blocks]; rw [hl]; exact hf⟩, ⟨_, hcap, fun k h y hy => (hrd k h).2 y hy⟩⟩
theorem SwS.of_done {t : Int} {x : StatR} {bs bs' : List BlockR} {A7 : Option Addr} {c7 : Nat} (hl : bs.length = x.blocks.length) (hb : bs' = if x.kind = 5 then turnL t bs else bs) (h : ∀ i (h : i < x.blocks.length) (h' : i < bs.length), SwL t x.blocks[i].l bs[i].l) :
    SwS t x (.mk x.kind x.name x.e x.n A7 c7 bs') :=
  ⟨_, _, bs, rfl, rfl, rfl, rfl, hl, hb, fun i h1 h2 => (h i h1 h2).1, fun i h1 h2 j hj hj' => (h i h1 h2).2 j hj hj'⟩
theorem SwL.nil (t : Int) : SwL t [] [] := ⟨rfl, fun i h => by simp at h⟩
end Go.Proofs.Ytgiceeholamphaa
