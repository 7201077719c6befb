/- Processes as they lie in phase.Run. No program; no conditions. -/
import Derived.Test.YticdjkkcfdbdcaaPhC
import Derived.Test.YticdjkkcfdbdcaaPhM
import Derived.Test.YticdjkkcfdbdcaaTell
import Derived.Test.YticdjkkcfdbdcaaScO
namespace Go.Proofs.Yticdjkkcfdbdcaa
open Go.ChangeShapes Go.WideShapes Go.ChangeAt Go.RowKit
/-- A process, and its slices. -/
structure PL where
  p : ProcR
  tA : Option Addr
  tc : Nat
  cv : Value
  sA : Option Addr
  sc : Nat
def PL.cells (x : PL) : List Value := [.slice x.tA x.p.todo.length x.tc, .int .i64 x.p.num, x.cv, .slice x.sA x.p.sends.length x.sc]
def cellsP (l : List PL) : List Value := l.flatMap PL.cells
theorem cellsP_length (l : List PL) : (cellsP l).length = l.length * 4 := by
  induction l with
  | nil => rfl
  | cons x l ih => simp only [cellsP, PL.cells, List.flatMap_cons, List.length_append, List.length_cons, List.length_nil] at ih ⊢; omega
theorem cellsP_cons (x : PL) (l : List PL) : cellsP (x :: l) = .slice x.tA x.p.todo.length x.tc :: .int .i64 x.p.num :: x.cv :: .slice x.sA x.p.sends.length x.sc :: cellsP l := rfl
theorem cellsP_at : ∀ (l : List PL) (k : Nat) (h : k < l.length) (i : Nat), i < 4 → (cellsP l)[k * 4 + i]? = l[k].cells[i]?
  | x :: l, 0, _, i, hi => by
    obtain rfl | rfl | rfl | rfl : i = 0 ∨ i = 1 ∨ i = 2 ∨ i = 3 := by omega
    all_goals rfl
  | x :: l, k + 1, h, i, hi => by
    have := cellsP_at l k (by simp at h; omega) i hi
    rw [cellsP_cons, show (k + 1) * 4 + i = k * 4 + i + 1 + 1 + 1 + 1 by omega]
    simpa using this
theorem cellsP_inv {l : List PL} {i : Nat} {v : Value} (h : (cellsP l)[i]? = some v) : ∃ (k : Nat) (hk : k < l.length) (j : Nat), j < 4 ∧ i = k * 4 + j ∧ l[k].cells[j]? = some v := by
  have hi := (List.getElem?_eq_some_iff.1 h).1
  rw [cellsP_length] at hi
  refine ⟨i / 4, by omega, i % 4, by omega, by omega, ?_⟩
  have := cellsP_at l (i / 4) (by omega) (i % 4) (by omega)
  rw [show i / 4 * 4 + i % 4 = i by omega] at this
  rw [← this]; exact h
theorem cellsP_set : ∀ (l : List PL) (k : Nat) (h : k < l.length) (i : Nat) (v : Value) (x' : PL), i < 4 → x'.cells = l[k].cells.set i v → (cellsP l).set (k * 4 + i) v = cellsP (l.set k x')
  | x :: l, 0, _, i, v, x', hi, hx => by
    obtain rfl | rfl | rfl | rfl : i = 0 ∨ i = 1 ∨ i = 2 ∨ i = 3 := by omega
    all_goals
      simp only [PL.cells, List.getElem_cons_zero, List.set_cons_zero, List.set_cons_succ, List.cons.injEq, and_true] at hx
      simp only [cellsP_cons, List.set_cons_zero, List.set_cons_succ, Nat.zero_mul, Nat.zero_add, hx]
  | x :: l, k + 1, h, i, v, x', hi, hx => by
    have := cellsP_set l k (by simp at h; omega) i v x' hi (by simpa using hx)
    rw [cellsP_cons, show (k + 1) * 4 + i = k * 4 + i + 1 + 1 + 1 + 1 by omega]
    simp only [List.set_cons_succ, this, cellsP_cons]
theorem info_proc : Try.prog.info? 102 ≠ none := by
  have : (Try.prog.info? 102).isSome = true := by kernel_rfl
  intro e; rw [e] at this; cases this
theorem info_i64n : Try.prog.info? 2 ≠ none := by
  have : (Try.prog.info? 2).isSome = true := by kernel_rfl
  intro e; rw [e] at this; cases this
structure Lies (L : World) (B base gl : Nat) (l : List PL) : Prop where
  blk : Blk L gl 102 (cellsP l)
  todo : ∀ x ∈ l, RdDos L B x.tA x.p.todo ∧ x.p.todo.length ≤ x.tc ∧ x.p.todo.length ≤ 1000
  come : ∀ x ∈ l, L.ownsRow base 2 1 x.cv x.p.come.length (ints x.p.come) ∧ (x.p.come = [] → x.cv = .slice none 0 0)
  apart : ∀ (i j : Nat) x y, l[i]? = some x → l[j]? = some y → i ≠ j → x.cv.ownBlock = none ∨ x.cv.ownBlock ≠ y.cv.ownBlock
  sends : ∀ x ∈ l, x.p.sends ≠ [] → ∃ b ty fz, x.sA = some ⟨b, 0, none⟩ ∧ Try.prog.info? ty = none ∧ L.heap[b]? = some (.cells (cellsL x.p.sends).toArray ty fz)
  low : B ≤ gl
  below : gl < base
  bound : base ≤ L.heap.size
section
variable {L L' : World} {B base gl : Nat} {l : List PL}
theorem RdDos.heap {A : Option Addr} {D : List DoR} (h : RdDos L B A D) (e : L'.heap = L.heap) : RdDos L' B A D := h.keep fun p _ => by simp only [World.cell?, e]
theorem Lies.same (h : Lies L B base gl l) (e : L'.heap = L.heap) : Lies L' B base gl l where
  blk := by have := h.blk; unfold Blk at this ⊢; rw [e]; exact this
  todo := fun x hx => ⟨(h.todo x hx).1.heap e, (h.todo x hx).2⟩
  come := fun x hx => ⟨by have := (h.come x hx).1; unfold World.ownsRow at this ⊢; rw [e]; exact this, (h.come x hx).2⟩
  apart := h.apart
  sends := fun x hx hn => by rw [e]; exact h.sends x hx hn
  low := h.low
  below := h.below
  bound := by rw [e]; exact h.bound
theorem own_block_at {w : World} {base s n : Nat} {e : TypeId} {v : Value} {vs : List Value} (h : w.ownsRow base e s v n vs) {b : Nat} (hb : v.ownBlock = some b) : base ≤ b ∧ ∃ cur, w.heap[b]? = some (.cells cur e) := by
  rcases h.2 with ⟨rfl, _⟩ | ⟨g, cap, cur, rfl, h1, h2, _⟩
  · cases hb
  · cases hb; exact ⟨h1, cur, h2⟩
theorem own_of_block {w w' : World} {base s n : Nat} {e : TypeId} {v : Value} {vs : List Value} (h : w.ownsRow base e s v n vs) (hk : ∀ b, v.ownBlock = some b → w'.heap[b]? = w.heap[b]?) : w'.ownsRow base e s v n vs := by
  refine ⟨h.1, ?_⟩
  rcases h.2 with h1 | ⟨g, cap, cur, rfl, h1, h2, h3⟩
  · exact .inl h1
  · exact .inr ⟨g, cap, cur, rfl, h1, (hk g rfl).trans h2, h3⟩
/-- Blocks that are none of these stand for nothing. -/
theorem Lies.keep (h : Lies L B base gl l) (hz : L.heap.size ≤ L'.heap.size) (hB : ∀ b, b < B → L'.heap[b]? = L.heap[b]?) (hg : L'.heap[gl]? = L.heap[gl]?)
    (hr : ∀ (b : Nat) (cur : Array Value), base ≤ b → L.heap[b]? = some (.cells cur 2) → L'.heap[b]? = L.heap[b]?) (hs : ∀ (b : Nat) (x : Array Value) (ty : TypeId) (fz : Nat × Nat), Try.prog.info? ty = none → L.heap[b]? = some (.cells x ty fz) → L'.heap[b]? = L.heap[b]?) : Lies L' B base gl l where
  blk := hg.trans h.blk
  todo := fun x hx => ⟨(h.todo x hx).1.keep fun p hp => World.cell?_of_block (hB _ hp), (h.todo x hx).2⟩
  come := fun x hx => ⟨own_of_block (h.come x hx).1 fun b hb => by obtain ⟨h1, cur, h2⟩ := own_block_at (h.come x hx).1 hb; exact hr b cur h1 h2, (h.come x hx).2⟩
  apart := h.apart
  sends := fun x hx hn => by obtain ⟨b, ty, fz, h1, h0, h2⟩ := h.sends x hx hn; exact ⟨b, ty, fz, h1, h0, (hs _ _ _ _ h0 h2).trans h2⟩
  low := h.low
  below := h.below
  bound := Nat.le_trans h.bound hz
theorem Lies.alloc (h : Lies L B base gl l) (o : Obj) : Lies (L.alloc o) B base gl l := by
  have hlt : ∀ b o', L.heap[b]? = some o' → (L.alloc o).heap[b]? = L.heap[b]? := fun b o' hb => Below.heap_alloc L o b (Array.getElem?_eq_some_iff.1 hb).1
  exact h.keep (by simp) (fun b hb => Below.heap_alloc L o b (by have := h.low; have := h.below; have := h.bound; omega)) (hlt _ _ h.blk) (fun b cur _ hb => hlt _ _ hb) fun b x ty fz _ hb => hlt _ _ hb
/-- A store into the block of processes. -/
theorem Lies.set_ (h : Lies L B base gl l) {k i : Nat} (hk : k < l.length) (hi : i < 4) {v : Value} {x' : PL} (hx : x'.cells = l[k].cells.set i v)
    (ht : RdDos L B x'.tA x'.p.todo ∧ x'.p.todo.length ≤ x'.tc ∧ x'.p.todo.length ≤ 1000) (hc : L.ownsRow base 2 1 x'.cv x'.p.come.length (ints x'.p.come) ∧ (x'.p.come = [] → x'.cv = .slice none 0 0))
    (ha : x'.cv = l[k].cv ∨ x'.cv.ownBlock = none) (hs : x'.p.sends ≠ [] → ∃ b ty fz, x'.sA = some ⟨b, 0, none⟩ ∧ Try.prog.info? ty = none ∧ L.heap[b]? = some (.cells (cellsL x'.p.sends).toArray ty fz)) : Lies (L.setCell ⟨gl, k * 4 + i, none⟩ v) B base gl (l.set k x') := by
  have hne : ∀ b, b ≠ gl → (L.setCell ⟨gl, k * 4 + i, none⟩ v).heap[b]? = L.heap[b]? := fun b hb => Below.heap_setCell L ⟨gl, k * 4 + i, none⟩ v b hb
  have hrd : ∀ {A D}, RdDos L B A D → RdDos (L.setCell ⟨gl, k * 4 + i, none⟩ v) B A D := fun h' => h'.keep fun p hp => World.cell?_of_block (hne _ (by have := h.low; omega))
  have hown : ∀ {v' : Value} {n vs}, L.ownsRow base 2 1 v' n vs → (L.setCell ⟨gl, k * 4 + i, none⟩ v).ownsRow base 2 1 v' n vs := fun h' => own_of_block h' fun b hb => hne _ (by have := (own_block_at h' hb).1; have := h.below; omega)
  have hsd : ∀ {b : Nat} {z ty fz}, Try.prog.info? ty = none → L.heap[b]? = some (.cells z ty fz) → (L.setCell ⟨gl, k * 4 + i, none⟩ v).heap[b]? = some (.cells z ty fz) := fun {b z ty fz} h0 hb => (hne _ fun e => by
    subst e
    have := h.blk
    unfold Blk at this
    rw [this] at hb
    cases hb
    exact info_proc h0).trans hb
  have hmem : ∀ x ∈ l.set k x', x = x' ∨ x ∈ l := fun x hx => (List.mem_or_eq_of_mem_set hx).symm
  refine ⟨?_, fun x hx => ?_, fun x hx => ?_, fun a b x y hx hy hab => ?_, fun x hx hn => ?_, h.low, h.below, by have := h.bound; simpa [World.setCell] using this⟩
  · have := h.blk.set_ (k * 4 + i) v
    rwa [cellsP_set l k hk i v x' hi hx] at this
  · rcases hmem x hx with rfl | hx
    · exact ⟨hrd ht.1, ht.2⟩
    · exact ⟨hrd (h.todo x hx).1, (h.todo x hx).2⟩
  · rcases hmem x hx with rfl | hx
    · exact ⟨hown hc.1, hc.2⟩
    · exact ⟨hown (h.come x hx).1, (h.come x hx).2⟩
  · rw [List.getElem?_set] at hx hy
    have hlk : l[k]? = some l[k] := List.getElem?_eq_getElem hk
    by_cases ea : k = a
    · rw [if_pos ea, if_pos (by omega)] at hx
      rw [if_neg (by omega)] at hy
      cases hx
      rcases ha with ha | ha
      · rw [ha]; subst ea; exact h.apart k b _ y hlk hy hab
      · exact .inl ha
    · rw [if_neg ea] at hx
      by_cases eb : k = b
      · rw [if_pos eb, if_pos (by omega)] at hy
        cases hy
        rcases ha with ha | ha
        · rw [ha]; subst eb; exact h.apart a k x _ hx hlk hab
        · rw [ha]
          cases hxo : x.cv.ownBlock with
          | none => exact .inl rfl
          | some z => exact .inr (by simp)
      · rw [if_neg eb] at hy; exact h.apart a b x y hx hy hab
  · rcases hmem x hx with rfl | hx
    · obtain ⟨b, ty, fz, h1, h0, h2⟩ := hs hn
      exact ⟨b, ty, fz, h1, h0, hsd h0 h2⟩
    · obtain ⟨b, ty, fz, h1, h0, h2⟩ := h.sends x hx hn
      exact ⟨b, ty, fz, h1, h0, hsd h0 h2⟩
/-- One more comes to a process. -/
theorem Lies.put (h : Lies L B base gl l) {k : Nat} (hk : k < l.length) {v' : Value} {x' : PL} {y : Int} (hxe : x' = { l[k] with p := { l[k].p with come := l[k].p.come ++ [y] }, cv := v' })
    (hg : L.grownBy L' l[k].cv.ownBlock) (ho : L'.ownsRow base 2 1 v' (l[k].p.come.length + 1) (ints (l[k].p.come ++ [y]))) (hat : v'.ownBlock = l[k].cv.ownBlock ∨ v'.ownBlock = some L.heap.size) :
    Lies (L'.setCell ⟨gl, k * 4 + 2, none⟩ v') B base gl (l.set k x') := by
  have hlk : l[k]? = some l[k] := List.getElem?_eq_getElem hk
  have hmk : l[k] ∈ l := List.getElem_mem hk
  have hck := (h.come _ hmk).1
  have hgr : ∀ b o, L.heap[b]? = some o → some b ≠ l[k].cv.ownBlock → L'.heap[b]? = L.heap[b]? := fun b o hb hne => hg.block b (Array.getElem?_eq_some_iff.1 hb).1 hne
  have hne : ∀ b, b ≠ gl → (L'.setCell ⟨gl, k * 4 + 2, none⟩ v').heap[b]? = L'.heap[b]? := fun b hb => Below.heap_setCell L' ⟨gl, k * 4 + 2, none⟩ v' b hb
  have hgl : some gl ≠ l[k].cv.ownBlock := fun e => by have := (own_block_at hck e.symm).1; have := h.below; omega
  have hsz : ∀ x ∈ l, ∀ b, x.cv.ownBlock = some b → b < L.heap.size := fun x hx b hb => by
    obtain ⟨_, cur, h2⟩ := own_block_at (h.come x hx).1 hb
    exact (Array.getElem?_eq_some_iff.1 h2).1
  have hmem : ∀ x ∈ l.set k x', x = x' ∨ x ∈ l := fun x hx => (List.mem_or_eq_of_mem_set hx).symm
  have hrd : ∀ {A D}, RdDos L B A D → RdDos (L'.setCell ⟨gl, k * 4 + 2, none⟩ v') B A D := fun h' => h'.keep fun p hp => World.cell?_of_block ((hne _ (by have := h.low; omega)).trans (hg.block _ (by have := h.low; have := h.below; have := h.bound; omega) fun e => by have := (own_block_at hck e.symm).1; have := h.low; have := h.below; omega))
  have hsd : ∀ {b : Nat} {z ty fz}, Try.prog.info? ty = none → L.heap[b]? = some (.cells z ty fz) → (L'.setCell ⟨gl, k * 4 + 2, none⟩ v').heap[b]? = some (.cells z ty fz) := fun {b z ty fz} h0 hb => by
    have h1 : b ≠ gl := fun e => by
      subst e
      have := h.blk
      unfold Blk at this
      rw [this] at hb
      cases hb
      exact info_proc h0
    have h2 : some b ≠ l[k].cv.ownBlock := fun e => by
      obtain ⟨_, cur, h2⟩ := own_block_at hck e.symm
      rw [h2] at hb
      cases hb
      exact info_i64n h0
    exact (hne _ h1).trans ((hgr _ _ hb h2).trans hb)
  have hap : ∀ (j : Nat) y, l[j]? = some y → j ≠ k → y.cv.ownBlock = none ∨ y.cv.ownBlock ≠ v'.ownBlock := fun j y hy hj => by
    rcases hat with e | e
    · rw [e]; exact h.apart j k y _ hy hlk hj
    · rw [e]
      cases hb : y.cv.ownBlock with
      | none => exact .inl rfl
      | some b => refine .inr fun e' => ?_; have := hsz y (List.mem_of_getElem? hy) b hb; cases e'; omega
  have hb0 := h.bound
  have hbz := hg.size
  refine ⟨?_, fun x hx => ?_, fun x hx => ?_, fun a b x y hx hy hab => ?_, fun x hx hn => ?_, h.low, h.below, by simpa [World.setCell] using Nat.le_trans hb0 hbz⟩
  · have := (h.blk.grown hg hgl).set_ (k * 4 + 2) v'
    rwa [cellsP_set l k hk 2 v' x' (by omega) (by subst hxe; rfl)] at this
  · rcases hmem x hx with rfl | hx
    · subst hxe; exact ⟨hrd (h.todo _ hmk).1, (h.todo _ hmk).2⟩
    · exact ⟨hrd (h.todo x hx).1, (h.todo x hx).2⟩
  · by_cases hxk : x = x'
    · subst hxk
      subst hxe
      refine ⟨own_of_block (by simpa using ho) fun b hb => hne _ ?_, fun e => by simp at e⟩
      have := (own_block_at ho hb).1
      have := h.below
      omega
    · obtain ⟨j, hj, hjx⟩ := List.getElem_of_mem hx
      rw [List.getElem_set] at hjx
      split at hjx
      · exact absurd hjx.symm hxk
      · rename_i hjk
        have hlj : l[j]? = some x := by rw [List.getElem?_eq_getElem (by simpa using hj), hjx]
        have hxl := List.mem_of_getElem? hlj
        refine ⟨own_of_block (h.come x hxl).1 fun b hb => ?_, (h.come x hxl).2⟩
        obtain ⟨h1, cur, h2⟩ := own_block_at (h.come x hxl).1 hb
        refine (hne _ (by have := h.below; omega)).trans (hgr b _ h2 fun e => ?_)
        rcases h.apart j k x _ hlj hlk (fun e => hjk e.symm) with h3 | h3
        · rw [h3] at hb; cases hb
        · exact h3 (by rw [hb, ← e])
  · rw [List.getElem?_set] at hx hy
    have hcv : x'.cv = v' := by subst hxe; rfl
    by_cases ea : k = a
    · rw [if_pos ea, if_pos (by omega)] at hx
      rw [if_neg (by omega)] at hy
      cases hx
      rw [hcv]
      rcases hap b y hy (by omega) with h1 | h1
      · rw [h1]
        cases hxo : v'.ownBlock with
        | none => exact .inl rfl
        | some z => exact .inr (by simp)
      · exact .inr h1.symm
    · rw [if_neg ea] at hx
      by_cases eb : k = b
      · rw [if_pos eb, if_pos (by omega)] at hy
        cases hy
        rw [hcv]
        exact hap a x hx (by omega)
      · rw [if_neg eb] at hy; exact h.apart a b x y hx hy hab
  · rcases hmem x hx with rfl | hx
    · subst hxe
      obtain ⟨b, ty, fz, h1, h0, h2⟩ := h.sends _ hmk hn
      exact ⟨b, ty, fz, h1, h0, hsd h0 h2⟩
    · obtain ⟨b, ty, fz, h1, h0, h2⟩ := h.sends x hx hn
      exact ⟨b, ty, fz, h1, h0, hsd h0 h2⟩
end
end Go.Proofs.Yticdjkkcfdbdcaa

/- The processes of the lone world as they lie in company. No conditions but those named. -/
namespace Go.Proofs.Yticdjkkcfdbdcaa
open Go.Conc Go.ConcN Go.RowKit
section
variable {S : FnSet} {P : Program} {ρ : Ren} {k : LK} {L W : World}
/-- A row of the lone world whose type is one: it is whole in company. -/
theorem Mir.row (h : Mir S P ρ k L W) {b c s : Nat} {x : Array Value} {e : TypeId} {fz : Nat × Nat} (hb : ρ b = some (c, s)) (hl : L.heap[b]? = some (.cells x e fz)) (he : P.info? e ≠ none) : s = 0 ∧ c < W.heap.size ∧
    ∀ (i : Nat) v, x[i]? = some v → ∃ v', W.cell? ⟨c, i, none⟩ = some v' ∧ VR S ρ v v' ∧ Lik k ⟨c, i, none⟩ ∧ (¬ (fz.1 ≤ i ∧ i < fz.2) → k.W (.cell ⟨c, i, none⟩) ∧ W.frozen? ⟨c, i, none⟩ = false) := by
  obtain ⟨x', e', fz', h1, h2⟩ := h.wr.shapes b c s x e fz hb hl
  have hs : s = 0 := by
    rcases h2 with h2 | h2
    · exact h2.2.1
    · exact absurd (h2.2 ▸ h.pr.none) he
  subst hs
  refine ⟨rfl, (h.wr.lt _ _ _ hb).2, fun i v hv => ?_⟩
  obtain ⟨x2, e2, fz2, v', g1, g2, g3, g4, g5⟩ := h.wr.cells b c 0 x e fz hb hl i v hv
  rw [Nat.zero_add] at g2 g4 g5
  refine ⟨v', by simp [World.cell?, g1, g2], g3, g4, fun hn => ⟨(g5 hn).1, ?_⟩⟩
  have := (g5 hn).2
  simp only [World.frozen?, g1]
  simpa using this
theorem list_choose {α : Type} {R : Nat → α → Prop} : ∀ n, (∀ j, j < n → ∃ y, R j y) → ∃ l : List α, l.length = n ∧ ∀ (j : Nat) y, l[j]? = some y → R j y
  | 0, _ => ⟨[], rfl, fun j y h => by simp at h⟩
  | n + 1, h => by
    obtain ⟨l, h1, h2⟩ := list_choose n fun j hj => h j (by omega)
    obtain ⟨y, hy⟩ := h n (Nat.lt_succ_self n)
    refine ⟨l ++ [y], by simp [h1], fun j z hz => ?_⟩
    by_cases e : j < l.length
    · rw [List.getElem?_append_left e] at hz; exact h2 j z hz
    · rw [List.getElem?_append_right (by omega)] at hz
      have : j - l.length = 0 := by
        have := (List.getElem?_eq_some_iff.1 hz).1
        simp at this; omega
      rw [this] at hz
      cases hz
      rw [show j = n by omega]; exact hy
theorem RdDos.all {w : World} {B b o : Nat} {D : List DoR} (h : RdDos w B (some ⟨b, o, none⟩) D) {i : Nat} {v : Value} (hv : (cellsD D)[i]? = some v) : w.cell? ⟨b, o + i, none⟩ = some v := by
  have hi := (List.getElem?_eq_some_iff.1 hv).1
  rw [cellsD_length] at hi
  obtain ⟨b', o', e, _, hc⟩ := h.at_ (k := i / 3) (by omega)
  cases e
  obtain ⟨c0, c1, c2⟩ := hc
  obtain ⟨d0, d1, d2⟩ := cellsD_at D (i / 3) (by omega)
  have hc3 : i % 3 = 0 ∨ i % 3 = 1 ∨ i % 3 = 2 := by omega
  rcases hc3 with e | e | e
  · have : i = i / 3 * 3 := by omega
    rw [this] at hv ⊢; rw [d0] at hv; rw [← hv]; exact c0
  · have : i = i / 3 * 3 + 1 := by omega
    rw [this] at hv ⊢; rw [d1] at hv; rw [← hv, ← Nat.add_assoc]; exact c1
  · have : i = i / 3 * 3 + 2 := by omega
    rw [this] at hv ⊢; rw [d2] at hv; rw [← hv, ← Nat.add_assoc]; exact c2
theorem vr_int {S : FnSet} {ρ : Ren} {n : Int} {v : Value} (h : VR S ρ (.int .i64 n) v) : v = .int .i64 n := by cases h; rfl
variable {B base gl lb : Nat} {l : List PL}
/-- The processes' block, in company. -/
structure LiesW (S : FnSet) (ρ : Ren) (k : LK) (W : World) (gl lb : Nat) (l : List PL) : Prop where
  at_ : ρ gl = some (lb, 0)
  lt : lb < W.heap.size
  cell : ∀ (i : Nat) v, (cellsP l)[i]? = some v → ∃ v', W.cell? ⟨lb, i, none⟩ = some v' ∧ VR S ρ v v' ∧ k.W (.cell ⟨lb, i, none⟩) ∧ W.frozen? ⟨lb, i, none⟩ = false
theorem Lies.inW (hM : Mir S Try.prog ρ k L W) (hL : Lies L B base gl l) (hg : ∃ c, ρ gl = some c) : ∃ lb, LiesW S ρ k W gl lb l := by
  obtain ⟨⟨lb, s⟩, hg⟩ := hg
  obtain ⟨rfl, h1, h2⟩ := hM.row hg hL.blk info_proc
  refine ⟨lb, hg, h1, fun i v hv => ?_⟩
  obtain ⟨v', a1, a2, _, a4⟩ := h2 i v (by simpa using hv)
  obtain ⟨a5, a6⟩ := a4 (by simp)
  exact ⟨v', a1, a2, a5, a6⟩
/-- Another row's cell is none of theirs. -/
theorem LiesW.far (hW : LiesW S ρ k W gl lb l) (hM : Mir S Try.prog ρ k L W) (hL : Lies L B base gl l) {b c s o : Nat} {v : Value} (hb : ρ b = some (c, s)) (hne : b ≠ gl) (hc : L.cell? ⟨b, o, none⟩ = some v) : ∀ i, i < (cellsP l).length → (⟨c, s + o, none⟩ : Addr) ≠ ⟨lb, i, none⟩ := by
  intro i hi e
  have e1 : c = lb := congrArg Addr.block e
  have e2 : s + o = i := congrArg Addr.off e
  subst e1
  obtain ⟨x, e', fz, hx, hxo⟩ := cell_inv hc
  have := hM.wr.apart gl b c 0 s (cellsP l).toArray x _ _ _ _ i o hW.at_ hb hL.blk hx (by simpa using hi) (Array.getElem?_eq_some_iff.1 hxo).1 (by omega) (by simp)
  exact hne this.symm
theorem LiesW.proc (hW : LiesW (InV phL phV) ρ k W gl lb l) (hM : Mir (InV phL phV) Try.prog ρ k L W) (hL : Lies L B base gl l) {w1 : World} (hc1 : ∀ p : Addr, p.block < W.heap.size → w1.cell? p = W.cell? p) (hf1 : ∀ p : Addr, p.block < W.heap.size → w1.frozen? p = W.frozen? p) (hz : W.heap.size ≤ w1.heap.size)
    {R0 : Loc → Prop} (hR : ∀ p, Lik k p → (∀ i, i < (cellsP l).length → p ≠ ⟨lb, i, none⟩) → R0 (.cell p)) {j : Nat} (hj : j < l.length) (hA : ∀ i, i < 4 → ¬ R0 (.cell ⟨lb, j * 4 + i, none⟩)) (hbusy : l[j].p.todo ≠ []) (hnil : l[j].p.sends = [] ∧ l[j].sA = none ∧ l[j].sc = 0 ∧ l[j].p.come.length ≤ 1000000) :
    ∃ tb tO cW cc, ProcAt w1 R0 lb (j * 4) l[j].p tb tO cW l[j].tc cc ∧ VR (InV phL phV) ρ (.slice l[j].tA l[j].p.todo.length l[j].tc) (.slice (some ⟨tb, tO, none⟩) l[j].p.todo.length l[j].tc) ∧ VR (InV phL phV) ρ l[j].cv (.slice cW l[j].p.come.length cc) := by
  have hx := List.getElem_mem hj
  have hcP := fun i hi => cellsP_at l j hj i hi
  generalize l[j] = x at *
  obtain ⟨p, tA, tc, cv, sA, sc⟩ := x
  simp only at *
  obtain ⟨n1, rfl, rfl, n4⟩ := hnil
  obtain ⟨ht, ht1, ht2⟩ := hL.todo _ hx
  obtain ⟨hco, hcn⟩ := hL.come _ hx
  simp only at ht ht1 ht2 hco hcn
  have hglb : Try.prog.globals.size ≤ lb := Nat.le_trans hM.pr.base (ρ.ok _ _ hW.at_).2
  have hglob : Try.prog.globals.size ≤ w1.heap.size := Nat.le_trans (Nat.le_trans hM.pr.base hM.wr.base.2) hz
  -- the four cells
  obtain ⟨v0, a0, r0, k0, f0⟩ := hW.cell _ _ (hcP 0 (by omega))
  obtain ⟨v1, a1, r1, k1, f1⟩ := hW.cell _ _ (hcP 1 (by omega))
  obtain ⟨v2, a2, r2, k2, f2⟩ := hW.cell _ _ (hcP 2 (by omega))
  obtain ⟨v3, a3, r3, k3, f3⟩ := hW.cell _ _ (hcP 3 (by omega))
  have up : ∀ i v, W.cell? ⟨lb, j * 4 + i, none⟩ = some v → w1.cell? ⟨lb, j * 4 + i, none⟩ = some v := fun i v h => (hc1 _ hW.lt).trans h
  have hfz : ∀ i, i < 4 → w1.frozen? ⟨lb, j * 4 + i, none⟩ = false := fun i hi => by
    refine (hf1 _ hW.lt).trans ?_
    obtain rfl | rfl | rfl | rfl : i = 0 ∨ i = 1 ∨ i = 2 ∨ i = 3 := by omega
    all_goals assumption
  -- reading a far cell
  have rd : ∀ {b c s o : Nat} {v : Value}, ρ b = some (c, s) → ¬ ρ.isChan b → b ≠ gl → L.cell? ⟨b, o, none⟩ = some v → ∃ v', w1.cell? ⟨c, s + o, none⟩ = some v' ∧ VR (InV phL phV) ρ v v' ∧ R0 (.cell ⟨c, s + o, none⟩) := fun {b c s o v} hb hn hne hc => by
    obtain ⟨v', b1, b2, b3⟩ := hM.wr.load (a := ⟨b, o, none⟩) (a' := ⟨c, s + o, none⟩) ⟨⟨rfl, hn⟩, c, s, hb, rfl⟩ hc
    exact ⟨v', (hc1 _ (hM.wr.lt _ _ _ hb).2).trans b1, b2, hR _ b3 (hW.far hM hL hb hne hc)⟩
  have hlow := hL.low
  have hbel := hL.below
  -- todo
  obtain ⟨tb0, to0, rfl, htb, _⟩ := ht.row hbusy
  obtain ⟨tb, tO, rfl, hta, htn, htρ⟩ : ∃ tb tO, v0 = .slice (some ⟨tb, tO + to0, none⟩) p.todo.length tc ∧ AR ρ ⟨tb0, to0, none⟩ ⟨tb, tO + to0, none⟩ ∧ ¬ ρ.isChan tb0 ∧ ρ tb0 = some (tb, tO) := by
    cases r0 with
    | slice h _ _ =>
      have h' := h
      obtain ⟨⟨_, hn⟩, c', s', g1, rfl⟩ := h
      exact ⟨c', s', rfl, h', hn, g1⟩
  have hone : v1 = .int .i64 p.num := vr_int r1
  subst hone
  have hthree : v3 = .slice none 0 0 := by
    rw [n1] at r3
    cases r3
    rfl
  subst hthree
  -- come
  have hcome : ∃ cW cc, v2 = .slice cW p.come.length cc ∧ ((p.come = [] ∧ cW = none) ∨ ∃ cb co, p.come ≠ [] ∧ cW = some ⟨cb, co, none⟩ ∧ Try.prog.globals.size ≤ cb ∧ ∀ i v, (ints p.come)[i]? = some v → w1.cell? ⟨cb, co + i, none⟩ = some v ∧ R0 (.cell ⟨cb, co + i, none⟩)) := by
    by_cases hn : p.come = []
    · rw [hcn hn] at r2
      cases r2
      rw [hn]
      exact ⟨none, 0, rfl, .inl ⟨rfl, rfl⟩⟩
    · obtain ⟨g, cap, rfl, hg, hgl, _⟩ := own_top hco (List.length_pos_iff.2 hn)
      cases r2 with
      | slice h _ _ =>
        obtain ⟨⟨_, hnc⟩, c', s', g1, rfl⟩ := h
        refine ⟨_, cap, rfl, .inr ⟨c', s' + 0, hn, rfl, Nat.le_trans hM.pr.base (ρ.ok _ _ g1).2, fun i v hv => ?_⟩⟩
        have hcl : L.cell? ⟨g, i, none⟩ = some v := by
          rw [hco.cellAt i (by have := (List.getElem?_eq_some_iff.1 hv).1; simp [ints] at this; omega)]
          exact hv
        obtain ⟨v', b1, b2, b3⟩ := rd (b := g) g1 hnc (by omega) hcl
        have := List.mem_of_getElem? hv
        simp only [ints, List.mem_map] at this
        obtain ⟨n, _, rfl⟩ := this
        rw [vr_int b2] at b1
        rw [Nat.add_zero]
        exact ⟨b1, b3⟩
  obtain ⟨cW, cc, rfl, hcW⟩ := hcome
  refine ⟨tb, tO + to0, cW, cc, ⟨up 0 _ a0, up 1 _ a1, up 2 _ a2, up 3 _ a3, hfz, hglb, Nat.le_trans hM.pr.base (ρ.ok _ _ htρ).2, hglob, fun i v hv => ?_, hbusy, hcW, n1, ht1, ht2, n4, hA⟩, .slice hta _ _, r2⟩
  obtain ⟨n, rfl⟩ := cellsD_inv hv
  obtain ⟨v', b1, b2, b3⟩ := rd htρ htn (by omega) (ht.all hv)
  rw [vr_int b2] at b1
  rw [Nat.add_assoc]
  exact ⟨b1, b3⟩
end
end Go.Proofs.Yticdjkkcfdbdcaa
