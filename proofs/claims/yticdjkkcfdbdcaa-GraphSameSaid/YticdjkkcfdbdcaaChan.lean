/- Channels of goroutine 0's own in the mirrored world: made, sent to where there is room, closed, their length asked; and a region of drawn order, told of the lone world. No program; no conditions but those named. -/
import Derived.Test.YticdjkkcfdbdcaaDrawE
import Derived.Conc.CrowdComm
namespace Go.Proofs.Yticdjkkcfdbdcaa
open Go.Conc Go.ConcN
section
variable {S : FnSet} {ρ : Ren} {k : LK} {L W : World}
theorem OwnX.strict {k : LK} {w w' : World} {es : Array Event} (h : Chg k w w') (he : es = #[]) : Own k w w' es := ⟨h, fun e hx => by subst he; simp at hx⟩
/-- The pair of two new channels. -/
def Ren.newC (ρ : Ren) (b c : Nat) : Ren where
  to := fun x => if x = b ∧ ρ.base ≤ b ∧ ρ.base ≤ c then some (c, 0) else ρ x
  base := ρ.base
  own := fun x => ρ.own x ∧ x ≠ b
  isChan := fun x => ρ.isChan x ∨ x = b
  bad := ρ.bad
  part := ρ.part
  ok := fun x p h => by
    split at h
    · rename_i e; cases h; rw [e.1]; exact e.2
    · exact ρ.ok x p h
theorem WR.freshC (h : WR S ρ k L W) : ρ.sub (ρ.newC L.heap.size W.heap.size) := by
  have ne : ∀ b p, ρ b = some p → b ≠ L.heap.size := fun b p hb e => by have := (h.lt b p.1 p.2 hb).1; omega
  refine ⟨fun b p hb => ?_, rfl, fun b p hb => ⟨fun hx => hx.resolve_right (ne b p hb), .inl⟩, rfl⟩
  have := ne b p hb
  simp [Ren.newC, this, hb]
theorem WR.freshC_to (h : WR S ρ k L W) : ρ.newC L.heap.size W.heap.size L.heap.size = some (W.heap.size, 0) := by simp [Ren.newC, h.base.1, h.base.2]
theorem OR.sub {ρ ρ' : Ren} {o o' : Obj} (h : OR S ρ o o') (hr : ρ.sub ρ') : OR S ρ' o o' := by
  cases h with
  | map clock se he => exact .map clock se fun i e e' h1 h2 => ⟨(he i e e' h1 h2).1.sub hr, (he i e e' h1 h2).2.1.sub hr, (he i e e' h1 h2).2.2⟩
  | stringIter s pos => exact .stringIter s pos
  | number h lost => exact .number (h.sub hr) lost
theorem WR.newC (h : WR S ρ k L W) (n : Nat) : WR S (ρ.newC L.heap.size W.heap.size) (k.grow W.heap.size (W.heap.size + 1)) { L with heap := L.heap.push (.chan n #[] false 0 0 false) } { W with heap := W.heap.push (.chan n #[] false 0 0 false) } := by
  have hf := h.freshC
  have hnew : ∀ b c s, ρ.newC L.heap.size W.heap.size b = some (c, s) → (b = L.heap.size ∧ c = W.heap.size ∧ s = 0) ∨ (b < L.heap.size ∧ c < W.heap.size ∧ ρ b = some (c, s)) := fun b c s hb => by
    simp only [Ren.newC] at hb
    split at hb
    · rename_i e; cases hb; exact .inl ⟨e.1, rfl, rfl⟩
    · exact .inr ⟨(h.lt b c s hb).1, (h.lt b c s hb).2, hb⟩
  have hL : ∀ b, b < L.heap.size → (L.heap.push (.chan n #[] false 0 0 false))[b]? = L.heap[b]? := fun b hb => by rw [Array.getElem?_push, if_neg (by omega)]
  have hW : ∀ b, b < W.heap.size → (W.heap.push (.chan n #[] false 0 0 false))[b]? = W.heap[b]? := fun b hb => by rw [Array.getElem?_push, if_neg (by omega)]
  have hLs : (L.heap.push (.chan n #[] false 0 0 false))[L.heap.size]? = some (.chan n #[] false 0 0 false) := by simp
  have hWs : (W.heap.push (.chan n #[] false 0 0 false))[W.heap.size]? = some (.chan n #[] false 0 0 false) := by simp
  have grow : ∀ l, k.W l → (k.grow W.heap.size (W.heap.size + 1)).W l := fun l hl => .inl hl
  have hr0 : ∀ (b : Nat) p, L.heap[b]? = some p → (∃ o1, OR S (ρ.newC L.heap.size W.heap.size) p o1) → ∃ o1, OR S ρ p o1 := fun b p hp hr => by
    rcases h.kinds b p hp with ⟨_, _, _, rfl⟩ | hh | ⟨_, _, _, _, _, _, rfl⟩
    · obtain ⟨_, hr⟩ := hr
      cases hr
    · exact hh
    · obtain ⟨_, hr⟩ := hr
      cases hr
  refine ⟨fun b p hp => ?_, by simp only [Array.size_push]; exact ⟨Nat.le_succ_of_le h.base.1, Nat.le_succ_of_le h.base.2⟩, fun b n x c s r t hx => ?_, fun b hb => ?_, fun b c s hb => ?_, fun b c s x e fz hb hx => ?_, fun b c s x e fz hb hx i v hv => ?_, fun b c s p hb hp hn => ?_, fun b c s p hb hp hr => ?_, fun b p hb hp hn => ?_, fun b b' c s s' x x' e e' fz fz' i i' hb hb' hx hx' hi hi' he hz => ?_, fun b b' c s s' p p' hb hb' hp hp' hr hr' => ?_, fun b c s n' x cl sn rc t hb hx => ?_⟩
  · replace hp : (L.heap.push (.chan n #[] false 0 0 false))[b]? = some p := hp
    rw [Array.getElem?_push] at hp
    split at hp
    · cases hp
      exact .inr (.inr ⟨_, _, _, _, _, _, rfl⟩)
    · exact (h.kinds b p hp).imp id (fun hh => hh.imp (fun ⟨o1, h1⟩ => ⟨o1, h1.sub hf⟩) id)
  · replace hx : (L.heap.push (.chan _ #[] false 0 0 false))[b]? = some (.chan n x c s r t) := hx
    rw [Array.getElem?_push] at hx
    split at hx
    · rename_i e; exact .inr e
    · exact .inl (h.chan b n x c s r t hx)
  · simp only [Array.size_push]
    rcases hb with (hb | rfl) | hb
    · exact Nat.lt_succ_of_lt (h.chanLt b (.inl hb))
    · exact Nat.lt_succ_self _
    · exact Nat.lt_succ_of_lt (h.chanLt b (.inr hb))
  · simp only [Array.size_push]
    rcases hnew b c s hb with ⟨rfl, rfl, _⟩ | ⟨h1, h2, _⟩ <;> omega
  · replace hx : (L.heap.push (.chan n #[] false 0 0 false))[b]? = some (.cells x e fz) := hx
    show ∃ x' e' fz', (W.heap.push (.chan n #[] false 0 0 false))[c]? = some (.cells x' e' fz') ∧ _
    rcases hnew b c s hb with ⟨rfl, rfl, rfl⟩ | ⟨h1, h2, h3⟩
    · rw [hLs] at hx; cases hx
    · rw [hL b h1] at hx
      rw [hW c h2]
      exact h.shapes b c s x e fz h3 hx
  · replace hx : (L.heap.push (.chan n #[] false 0 0 false))[b]? = some (.cells x e fz) := hx
    show ∃ x' e' fz' v', (W.heap.push (.chan n #[] false 0 0 false))[c]? = some (.cells x' e' fz') ∧ _
    rcases hnew b c s hb with ⟨rfl, rfl, rfl⟩ | ⟨h1, h2, h3⟩
    · rw [hLs] at hx; cases hx
    · rw [hL b h1] at hx
      obtain ⟨x', e', fz', v', g1, g3, g4, g5, g6⟩ := h.cells b c s x e fz h3 hx i v hv
      exact ⟨x', e', fz', v', by rw [hW c h2]; exact g1, g3, g4.sub hf, g5.imp (grow _) id, fun hn => ⟨grow _ (g6 hn).1, (g6 hn).2⟩⟩
  · replace hp : (L.heap.push (.chan n #[] false 0 0 false))[b]? = some p := hp
    show s = 0 ∧ ∃ o1, (W.heap.push (.chan n #[] false 0 0 false))[c]? = some o1 ∧ _
    rcases hnew b c s hb with ⟨rfl, rfl, rfl⟩ | ⟨h1, h2, h3⟩
    · exact ⟨rfl, _, hWs, not_cells_chan⟩
    · rw [hL b h1] at hp
      rw [hW c h2]
      exact h.others b c s p h3 hp hn
  · replace hp : (L.heap.push (.chan n #[] false 0 0 false))[b]? = some p := hp
    show (ρ.own b ∧ b ≠ L.heap.size) ∧ ∃ o1, (W.heap.push (.chan n #[] false 0 0 false))[c]? = some o1 ∧ _
    rcases hnew b c s hb with ⟨rfl, rfl, rfl⟩ | ⟨h1, h2, h3⟩
    · rw [hLs] at hp; cases hp
      obtain ⟨_, hr⟩ := hr
      cases hr
    · rw [hL b h1] at hp
      obtain ⟨g1, o1, g2, g3, g4⟩ := h.objs b c s p h3 hp (hr0 b p hp hr)
      exact ⟨⟨g1, by omega⟩, o1, by rw [hW c h2]; exact g2, g3.sub hf, grow _ g4⟩
  · replace hp : (L.heap.push (.chan n #[] false 0 0 false))[b]? = some p := hp
    obtain ⟨hb, hbn⟩ : ρ.own b ∧ b ≠ L.heap.size := hb
    rw [Array.getElem?_push, if_neg hbn] at hp
    obtain ⟨o1, h1⟩ := h.owns b p hb hp hn
    exact ⟨o1, h1.sub hf⟩
  · replace hx : (L.heap.push (.chan n #[] false 0 0 false))[b]? = some (.cells x e fz) := hx
    replace hx' : (L.heap.push (.chan n #[] false 0 0 false))[b']? = some (.cells x' e' fz') := hx'
    rcases hnew b c s hb with ⟨rfl, rfl, rfl⟩ | ⟨h1, h2, h3⟩
    · rw [hLs] at hx; cases hx
    · rcases hnew b' c s' hb' with ⟨rfl, rfl, rfl⟩ | ⟨q1, q2, q3⟩
      · omega
      · rw [hL b h1] at hx
        rw [hL b' q1] at hx'
        exact h.apart b b' c s s' x x' e e' fz fz' i i' h3 q3 hx hx' hi hi' he hz
  · replace hp : (L.heap.push (.chan n #[] false 0 0 false))[b]? = some p := hp
    replace hp' : (L.heap.push (.chan n #[] false 0 0 false))[b']? = some p' := hp'
    rcases hnew b c s hb with ⟨rfl, rfl, rfl⟩ | ⟨h1, h2, h3⟩
    · rcases hnew b' _ s' hb' with ⟨rfl, _, rfl⟩ | ⟨q1, q2, q3⟩
      · rfl
      · omega
    · rcases hnew b' c s' hb' with ⟨rfl, rfl, rfl⟩ | ⟨q1, q2, q3⟩
      · omega
      · rw [hL b h1] at hp
        rw [hL b' q1] at hp'
        exact h.apartO b b' c s s' p p' h3 q3 hp hp' hr hr'
  · replace hx : (L.heap.push (.chan n #[] false 0 0 false))[b]? = some (.chan n' x cl sn rc t) := hx
    rcases hnew b c s hb with ⟨rfl, rfl, rfl⟩ | ⟨h1, h2, h3⟩
    · rw [hLs] at hx; cases hx
      exact ⟨#[], hWs, ⟨rfl, fun i v v' e => by simp at e⟩, .inr ⟨Nat.le_refl _, Nat.lt_succ_self _⟩⟩
    · rw [hL b h1] at hx
      obtain ⟨x', g1, g2, g3⟩ := h.chans b c s n' x cl sn rc t h3 hx
      exact ⟨x', by show (W.heap.push _)[c]? = _; rw [hW c h2]; exact g1, ⟨g2.1, fun i v v' q1 q2 => (g2.2 i v v' q1 q2).sub hf⟩, grow _ g3⟩
/-- A channel laid anew. -/
theorem WR.setChan (h : WR S ρ k L W) {r r' : Nat} (hr : ρ r = some (r', 0)) {n sn rc : Nat} {x : Array Value} {cl t : Bool} (ho : L.heap[r]? = some (.chan n x cl sn rc t)) {n1 s1 r1 : Nat} {y y' : Array Value} {c1 t1 : Bool} (hy : VRs S ρ y y') :
    WR S ρ k { L with heap := L.heap.setIfInBounds r (.chan n1 y c1 s1 r1 t1) } { W with heap := W.heap.setIfInBounds r' (.chan n1 y' c1 s1 r1 t1) } := by
  obtain ⟨x', h1, h2, h3⟩ := h.chans r r' 0 n x cl sn rc t hr ho
  have hrl : r < L.heap.size := (Array.getElem?_eq_some_iff.1 ho).1
  have hrl' : r' < W.heap.size := (Array.getElem?_eq_some_iff.1 h1).1
  have hL : ∀ (b : Nat) q, (L.heap.setIfInBounds r (.chan n1 y c1 s1 r1 t1))[b]? = some q → (b = r ∧ q = .chan n1 y c1 s1 r1 t1) ∨ (b ≠ r ∧ L.heap[b]? = some q) := fun b q hq => by
    rw [Array.getElem?_setIfInBounds] at hq
    split at hq
    · rename_i e
      cases hq; exact .inl ⟨e.symm, rfl⟩
    · rename_i e; exact .inr ⟨fun x => e x.symm, hq⟩
  have hWn : ∀ (c : Nat), c ≠ r' → (W.heap.setIfInBounds r' (.chan n1 y' c1 s1 r1 t1))[c]? = W.heap[c]? := fun c hc => by rw [Array.getElem?_setIfInBounds, if_neg (fun e => hc e.symm)]
  have hWs : (W.heap.setIfInBounds r' (.chan n1 y' c1 s1 r1 t1))[r']? = some (.chan n1 y' c1 s1 r1 t1) := by rw [Array.getElem?_setIfInBounds, if_pos rfl, if_pos hrl']
  have hWc : ∀ (c : Nat) (x : Array Value) (e : TypeId) (f : Nat × Nat), W.heap[c]? = some (Obj.cells x e f) → (W.heap.setIfInBounds r' (.chan n1 y' c1 s1 r1 t1))[c]? = some (.cells x e f) := fun c x e f hc => by
    rw [hWn c (fun e => ?_)]
    · exact hc
    · subst e
      rw [h1] at hc; cases hc
  refine ⟨fun b q hq => ?_, by simp only [Array.size_setIfInBounds]; exact h.base, fun b n x c s r t hx => ?_, fun b hb => by simp only [Array.size_setIfInBounds]; exact h.chanLt b hb, fun b c s hb => by simpa using h.lt b c s hb, fun b c s x e fz hb hx => ?_, fun b c s x e fz hb hx i v hv => ?_, fun b c s q hb hq hn => ?_, fun b c s q hb hq hor => ?_, fun b q hb hq hn => ?_, fun b b' c s s' x x' e e' fz fz' i i' hb hb' hx hx' hi hi' he hz => ?_, fun b b' c s s' q q' hb hb' hq hq' hor hor' => ?_, fun b c s n' x' cl' sn' rc' t' hb hx => ?_⟩
  · rcases hL b q hq with ⟨_, rfl⟩ | ⟨_, hq⟩
    · exact .inr (.inr ⟨_, _, _, _, _, _, rfl⟩)
    · exact h.kinds b q hq
  · rcases hL b _ hx with ⟨rfl, e⟩ | ⟨hne, hx⟩
    · exact h.chan b _ _ _ _ _ _ ho
    · exact h.chan b n x c s r t hx
  · rcases hL b _ hx with ⟨_, e⟩ | ⟨hne, hx⟩
    · cases e
    · obtain ⟨x', e', fz', g1, g2⟩ := h.shapes b c s x e fz hb hx
      exact ⟨_, _, _, hWc _ _ _ _ g1, g2⟩
  · rcases hL b _ hx with ⟨_, e⟩ | ⟨hne, hx⟩
    · cases e
    · obtain ⟨x', e', fz', v', g1, g2⟩ := h.cells b c s x e fz hb hx i v hv
      exact ⟨x', e', fz', v', hWc _ _ _ _ g1, g2⟩
  · rcases hL b q hq with ⟨rfl, rfl⟩ | ⟨hne, hq2⟩
    · rw [hr] at hb; cases hb
      exact ⟨rfl, _, hWs, not_cells_chan⟩
    · obtain ⟨g1, q', g2, g3⟩ := h.others b c s q hb hq2 hn
      refine ⟨g1, q', ?_, g3⟩
      show (W.heap.setIfInBounds r' _)[c]? = _
      rw [hWn c (fun e => ?_)]
      · exact g2
      · subst e
        exact hne (h.apartO b r c s 0 q _ hb hr hq2 ho hn not_cells_chan)
  · rcases hL b q hq with ⟨rfl, rfl⟩ | ⟨hne, hq2⟩
    · obtain ⟨_, hor⟩ := hor
      cases hor
    · obtain ⟨g1, q', g2, g3, g4⟩ := h.objs b c s q hb hq2 hor
      refine ⟨g1, q', ?_, g3, g4⟩
      show (W.heap.setIfInBounds r' _)[c]? = _
      rw [hWn c (fun e => ?_)]
      · exact g2
      · subst e
        exact hne (h.apartO b r c s 0 q _ hb hr hq2 ho g3.notCells.1 not_cells_chan)
  · rcases hL b q hq with ⟨rfl, rfl⟩ | ⟨hne, hq2⟩
    · obtain ⟨_, hk⟩ := h.owns b _ hb ho not_cells_chan
      cases hk
    · exact h.owns b q hb hq2 hn
  · rcases hL b _ hx with ⟨_, e1⟩ | ⟨_, hx⟩
    · cases e1
    rcases hL b' _ hx' with ⟨_, e1⟩ | ⟨_, hx'⟩
    · cases e1
    exact h.apart b b' c s s' x x' e e' fz fz' i i' hb hb' hx hx' hi hi' he hz
  · rcases hL b q hq with ⟨rfl, rfl⟩ | ⟨_, hq2⟩
    · rcases hL b' q' hq' with ⟨rfl, rfl⟩ | ⟨_, hq3⟩
      · rfl
      · rw [hr] at hb; cases hb
        exact h.apartO b b' r' 0 s' _ q' hr hb' ho hq3 not_cells_chan hor'
    · rcases hL b' q' hq' with ⟨rfl, rfl⟩ | ⟨_, hq3⟩
      · rw [hr] at hb'; cases hb'
        exact h.apartO b b' r' s 0 q _ hb hr hq2 ho hor not_cells_chan
      · exact h.apartO b b' c s s' q q' hb hb' hq2 hq3 hor hor'
  · rcases hL b _ hx with ⟨rfl, e⟩ | ⟨hne, hx⟩
    · cases e
      rw [hr] at hb; cases hb
      exact ⟨_, hWs, hy, h3⟩
    · obtain ⟨x2, g1, g2, g3⟩ := h.chans b c s n' x' cl' sn' rc' t' hb hx
      refine ⟨x2, ?_, g2, g3⟩
      show (W.heap.setIfInBounds r' _)[c]? = _
      rw [hWn c (fun e => ?_)]
      · exact g1
      · subst e
        exact hne (h.apartO b r c s 0 _ _ hb hr hx ho not_cells_chan not_cells_chan)
end
theorem Deaf_mild (t : Trace) (g : Nat) (u : Trace) (hu : ∀ op ∈ u, op.act ≠ .mark .disable ∧ op.act ≠ .mark .enable) : Deaf (t ++ u) g = Deaf t g := by
  obtain ⟨l⟩ := u
  rw [Deaf_append]
  replace hu : ∀ op ∈ l, op.act ≠ .mark .disable ∧ op.act ≠ .mark .enable := fun op h => hu op (by simpa using h)
  generalize Deaf t g = d
  induction l generalizing d with
  | nil => rfl
  | cons op l ih =>
    have h1 := hu op (List.mem_cons_self ..)
    have e : deafStep g d op = d := by
      obtain ⟨g', fn, pos, act⟩ := op
      simp only at h1
      unfold deafStep
      cases act with
      | mark m => cases m <;> simp_all
      | _ => rfl
    rw [List.foldl_cons, e]
    exact ih (fun op h => hu op (List.mem_cons_of_mem _ h)) d
/-- What is asked of an operation of goroutine 0's own that need not be a plain one. -/
structure OpOk (k : LK) (n n' : Nat) (op : MemOp) : Prop where
  g : op.g = 0
  low : op.act.low n'
  touch : ∀ b, op.act.touch? = some b → NewLoc n n' b.loc ∨ k.W b.loc ∨ k.R b.loc
  rel : ∀ a, op.act ≠ .mark (.release a)
  dis : op.act ≠ .mark .disable
  en : op.act ≠ .mark .enable
section
variable {P : Program} {Post : Value → World → Prop} {n0 : Nat} {W0 : World}
/-- ████ A STEP OF GOROUTINE 0's, whatever of its own it does. ████ -/
theorem win_act {k : LK} {g : Goroutine} {w : World} (hr : g.status = .running)
    (h : ∀ d, ∃ g' w' ops, (∀ (gs : Array Goroutine) sl, gs[0]? = some g → (∀ (j : Nat) x, gs[j]? = some x → x.status = .running ∨ x.status = .finished) → runT P (crowd gs (w.at d) sl) 0 = (.next (crowd (gs.setIfInBounds 0 g') w' sl), ops)) ∧
      Chg k (w.at d) w' ∧ (∀ op ∈ ops, OpOk k w.heap.size w'.heap.size op) ∧ Win P Post n0 W0 (k.grow w.heap.size w'.heap.size) g' w') : Win P Post n0 W0 k g w := by
  intro Shun gs sl t q
  generalize hM : sumTo gs.size q = M
  induction M using Nat.strongRecOn generalizing gs sl t q w with
  | _ M ih =>
  intro hO h0 hL hP hRel hS hk
  have hst0 : ∀ (j : Nat) x, gs[j]? = some x → x.status = .running ∨ x.status = .finished := fun j x hx => by
    rcases Nat.eq_zero_or_pos j with rfl | hpos
    · rw [h0] at hx; cases hx; exact .inl hr
    · exact (hL.old j _ hpos hx).status
  have haw : ∀ g ∈ gs, awake g := by
    intro x hx
    obtain ⟨i, hi, rfl⟩ := Array.mem_iff_getElem.1 hx
    rcases hst0 i _ (Array.getElem?_eq_getElem hi) with e | e
    · exact awake_of (.inl e)
    · exact awake_of (.inr (.inr e))
  obtain ⟨i, x, d, sl', hi, hx, hst⟩ := crowd_pick (P := P) (w := w) (sl := sl) haw ⟨0, g, h0, hr⟩
  rcases Nat.eq_zero_or_pos i with rfl | hpos
  · obtain rfl : x = g := by rw [h0] at hi; exact (Option.some.inj hi).symm
    obtain ⟨g', w', ops, hrun, hchg, hops, hwin⟩ := h d
    have hrunT := hrun gs sl' h0 hst0
    have hlt : 0 < gs.size := (Array.getElem?_eq_some_iff.1 h0).1
    have hsz : w.heap.size ≤ w'.heap.size := hchg.size
    refine .step (hst.trans hrunT) (hwin Shun _ sl' _ q ((hO.at d).own hchg) (by simp [hlt]) ⟨fun j y hj hy => ?_, fun j hj => ?_⟩ ((hP.mono hsz).app0 (fun op hop => (hops op hop).g) (fun op hop b hb hsh => ?_) (Deaf_mild _ _ _ fun op hop => ⟨(hops op hop).dis, (hops op hop).en⟩) fun op hop => (hops op hop).low) (hRel.app fun op hop a => (hops op hop).rel a) (fun l hl => (hS l hl).mono hsz) fun l hl => ?_)
    · have hne : 0 ≠ j := by omega
      rw [Array.getElem?_setIfInBounds_ne hne] at hy
      have hq := hL.old j y hj hy
      rw [Deaf_other t (by omega) _ (fun op hop => (hops op hop).g)]
      exact hq
    · rw [Deaf_other t (g' := 0) (by simp at hj; omega) _ (fun op hop => (hops op hop).g)]
      exact hL.above j (by simpa using hj)
    · exfalso
      rcases (hops op hop).touch b hb with h1 | h1 | h1
      · exact h1.mem.2 (hS _ hsh)
      · exact (hk _ (.inl h1)).2 hsh
      · exact (hk _ (.inr h1)).2 hsh
    · rcases hl with (hl | hl) | hl
      · exact ⟨(hk l (.inl hl)).1.mono hsz, (hk l (.inl hl)).2⟩
      · exact ⟨hl.mem.1, fun hx => hl.mem.2 (hS l hx)⟩
      · exact ⟨(hk l (.inr hl)).1.mono hsz, (hk l (.inr hl)).2⟩
  · have hq := hL.old i x hpos hi
    have hi0 : (i == 0) = false := by simp; omega
    have hlt : i < gs.size := (Array.getElem?_eq_some_iff.1 hi).1
    cases hqi : q i with
    | zero => rw [hqi] at hq; rw [hq.1] at hx; cases hx
    | succ m =>
      rw [hqi] at hq
      rcases hq with ⟨hf, _⟩ | ⟨_, g', es, hm, hstp, hq'⟩
      · rw [hf] at hx; cases hx
      have hrunT := runT_crowd_go (P := P) (sl := sl') (i := i) hi (by rw [hi0]; exact hstp (w.at d))
      have hsz : ((gs.map (woken P x g' (w.at d))).setIfInBounds i g').size = gs.size := by simp
      have hsum : sumTo gs.size (upd q i m) + (m + 1) = sumTo gs.size q + m := by
        have := sumTo_upd q m id hlt
        simpa [hqi] using this
      refine .step (hst.trans hrunT) (ih (sumTo gs.size (upd q i m)) (by omega) (w := w.at d) (fun d' => h d') _ sl' _ (upd q i m) (by rw [hsz]) (hO.at d) ?_ ⟨fun j y hj hy => ?_, fun j hj => ?_⟩ (hP.mute (by omega) hm) (hRel.app fun op hop a => ?_) hS hk)
      · have hne : i ≠ 0 := by omega
        rw [Array.getElem?_setIfInBounds_ne hne, Array.getElem?_map, h0]
        simp [woken_run hr]
      · by_cases hji : i = j
        · subst hji
          rw [Array.getElem?_setIfInBounds_self_of_lt (by simpa using hlt)] at hy
          obtain rfl := Option.some.inj hy
          rw [upd_same, Deaf_own]
          exact hq'
        · rw [Array.getElem?_setIfInBounds_ne hji, Array.getElem?_map] at hy
          obtain ⟨z, hz, rfl⟩ := Option.map_eq_some_iff.1 hy
          have hqj := hL.old j z hj hz
          rw [woken_quitsD hqj, upd_ne q m (Ne.symm hji), Deaf_other t hji _ (fun op hop => by obtain ⟨e, _, rfl⟩ := Go.Conc.mem_ofEvents hop; rfl)]
          exact hqj
      · rw [Deaf_other t (g' := i) (by simp at hj; omega) _ (fun op hop => by obtain ⟨e, _, rfl⟩ := Go.Conc.mem_ofEvents hop; rfl)]
        exact hL.above j (by simpa using hj)
      · obtain ⟨e, he, rfl⟩ := Go.Conc.mem_ofEvents hop
        intro hx
        have := hm e he
        obtain ⟨loc, wr, sy⟩ := e
        have hl := loc_of_ofEvent' hx
        simp only at hl
        subst hl
        simp [Event.mute] at this
theorem map_woken {P : Program} {g g' : Goroutine} {w : World} {gs : Array Goroutine} (h : ∀ (j : Nat) x, gs[j]? = some x → x.status = .running ∨ x.status = .finished) : gs.map (woken P g g' w) = gs := by
  apply Array.ext_getElem?
  intro j
  rw [Array.getElem?_map]
  cases hj : gs[j]? with
  | none => rfl
  | some x => simp [woken_awake (h j x hj)]
theorem partners_awake {gs : Array Goroutine} {r i : Nat} {send : Bool} (h : ∀ (j : Nat) x, gs[j]? = some x → x.status = .running ∨ x.status = .finished) : partners (gs.setIfInBounds i ph) r send = [] := by
  refine partners_nil fun j g hg => ?_
  rcases getElem?_stand gs i j g hg with ⟨_, rfl⟩ | ⟨_, hg⟩
  · rfl
  · exact offersAt_of_not_blocked (by rcases h j g hg with e | e <;> rw [e] <;> simp) _ _
theorem chg_obj {k : LK} {w : World} {r : Nat} {o p : Obj} (ho : w.heap[r]? = some o) (hn : NotCells o) (hp : NotCells p) (hl : k.W (.obj r)) : Chg k w { w with heap := w.heap.setIfInBounds r p } := by
  have hr := (Array.getElem?_eq_some_iff.1 ho).1
  have hne : ∀ b, b ≠ r → (w.heap.setIfInBounds r p)[b]? = w.heap[b]? := fun b hb => by rw [Array.getElem?_setIfInBounds, if_neg (fun e => hb e.symm)]
  have hat : (w.heap.setIfInBounds r p)[r]? = some p := by rw [Array.getElem?_setIfInBounds, if_pos rfl, if_pos hr]
  have hal : Alike o p := by cases o <;> cases p <;> first | trivial | exact absurd rfl (hn _ _ _) | exact absurd rfl (hp _ _ _)
  refine ⟨by simp, rfl, rfl, rfl, fun b q hq => ?_, fun a ha hx => ?_, fun b q hq hnq hx => ?_⟩
  · by_cases e : b = r
    · subst e
      rw [ho] at hq; cases hq
      exact ⟨p, hat, hal⟩
    · exact ⟨q, (hne b e).trans hq, .refl q⟩
  · by_cases e : a.block = r
    · have h1 : w.cell? a = none := by
        simp only [World.cell?, e, ho]
        cases o <;> first | rfl | exact absurd rfl (hn _ _ _)
      have h2 : ({ w with heap := w.heap.setIfInBounds r p } : World).cell? a = none := by
        simp only [World.cell?, e, hat]
        cases p <;> first | rfl | exact absurd rfl (hp _ _ _)
      rw [h1, h2]
    · simp only [World.cell?, hne _ e]
  · have e : b ≠ r := fun e => hx (e ▸ hl)
    exact (hne b e).trans hq
end
section
variable {S : FnSet} {P : Program} {Post : Value → World → Prop} {n0 : Nat} {W0 : World}
/-- A send to a channel of its own that has room. -/
theorem MpOps.send {fn : FuncId} {ops : Array Oper} {i : Nat} {rest : List Nat} {o : Oper} {up : Bool} {Q : Exit → Act → World → Prop} {a : Act} {L : World} {x y : Operand} (ho : ops[i]? = some o) (hw : Region.wanted o (yielded ops a.tmps) = true) (hop : o.op = .send x y) (hd : o.dst = none) (hx : okX S x) (hy : okX S y)
    {cL cap s r : Nat} {buf : Array Value} {tm : Bool} (hc : a.eval x = .chan (some cL)) (hL : L.heap[cL]? = some (.chan cap buf false s r tm)) (hroom : buf.size < cap)
    (h : MpOps S P (fun k g w => Win P Post n0 W0 k g w) fn ops rest up Q a { L with heap := L.heap.setIfInBounds cL (.chan cap (buf.push (a.eval y)) false (s + 1) r tm) }) : MpOps S P (fun k g w => Win P Post n0 W0 k g w) fn ops (i :: rest) up Q a L := by
  intro b' K' base ρ k W a' h1 h2 h3 h4 h5
  have hk : b'.kind ≠ .early := by rw [h2]; simp
  have hw' : Region.wanted o (yielded ops a'.tmps) = true := by rw [← yielded_same h4.tmps]; exact hw
  have vx := h4.eval.1 x hx
  have vy := h4.eval.1 y hy
  rw [hc] at vx
  obtain ⟨c, hcρ, hx'⟩ : ∃ c, ρ cL = some (c, 0) ∧ a'.eval x = .chan (some c) := by
    generalize a'.eval x = v at vx
    cases vx with
    | chan h => exact ⟨_, h, rfl⟩
  obtain ⟨buf', g1, g2, g3⟩ := h3.wr.chans cL c 0 cap buf false s r tm hcρ hL
  have hrun : ∀ w, (execOp a'.eval o).run P w = .ok (.comm #[scase c (a'.eval y) (.tuple #[])] true .send) w ∧ (execOp a'.eval o).events P w #[] = #[] := fun w => by
    have : (execOp a'.eval o).runT P w #[] = (.ok (.comm #[scase c (a'.eval y) (.tuple #[])] true .send) w, #[]) := by
      have e : execOp a'.eval o = pure (.comm #[scase c (a'.eval y) (.tuple #[])] true .send) := by simp only [execOp, hop, hx', scase]
      rw [e]; rfl
    rw [Sem.runT_eq] at this
    exact Prod.mk.inj this
  refine win_act rfl fun d => ⟨_, _, _, fun gs sl h0 hst => crowd_send_room (sl := sl) h0 ((stepG_comm ho hw' hk (hrun (W.at d)).1).trans (by rw [listed, (hrun (W.at d)).2, seen_empty])) (show (W.at d).heap[c]? = _ from g1) (by rw [← g2.1]; exact hroom) (partners_awake hst), ?_, ?_, ?_⟩
  · exact chg_obj (o := .chan cap buf' false s r tm) (w := W.at d) g1 not_cells_chan not_cells_chan g3
  · have hlt : c < W.heap.size := (Array.getElem?_eq_some_iff.1 g1).1
    have hsz : ((W.at d).setChan c cap (buf'.push (a'.eval y)) false (s + 1) r tm).heap.size = W.heap.size := by simp [World.setChan, World.at]
    intro op hop
    rw [hsz]
    simp only [ofEvents_none, Array.empty_append, List.mem_toArray, List.mem_cons, List.not_mem_nil, or_false] at hop
    rcases hop with rfl | rfl <;> exact ⟨rfl, hlt, (fun b hb => by simp [MemAct.touch?] at hb), (fun a e => by cases e), (fun e => by cases e), (fun e => by cases e)⟩
  · have hsz : ((W.at d).setChan c cap (buf'.push (a'.eval y)) false (s + 1) r tm).heap.size = W.heap.size := by simp [World.setChan, World.at]
    rw [hsz, grow_self, finishComm_send]
    have hfin : Go.Conc.served (G (b'.at a' (.inRegion ops (i :: rest) :: K')) base) undef = G (b'.at a' (.inRegion ops rest :: K')) base := by
      show G ((b'.at a' (.inRegion ops (i :: rest) :: K')).finish undef) base = _
      rw [Frame.finish_at, ho]
      simp only [Option.bind_some, hd]
      rfl
    rw [hfin]
    refine h b' K' base ρ k _ a' h1 h2 ⟨?_, h3.pr⟩ h4 (h5.at (.refl _) fun _ => ⟨by rw [hsz]; exact Nat.le_refl _, fun _ hl => hl, fun l hl => .inl hl, rfl, rfl⟩)
    exact (h3.wr.setChan hcρ hL (g2.push vy)).heaps rfl rfl
/-- The closing of a channel of its own. -/
theorem MpOps.close {fn : FuncId} {ops : Array Oper} {i : Nat} {rest : List Nat} {o : Oper} {up : Bool} {Q : Exit → Act → World → Prop} {a : Act} {L : World} {x : Operand} {ats : Array TypeId} (ho : ops[i]? = some o) (hw : Region.wanted o (yielded ops a.tmps) = true) (hop : o.op = .call { callee := .builtin .close, args := #[x], argTypes := ats }) (hx : okX S x)
    {cL cap s r : Nat} {buf : Array Value} {tm : Bool} (hc : a.eval x = .chan (some cL)) (hL : L.heap[cL]? = some (.chan cap buf false s r tm))
    (h : MpOps S P (fun k g w => Win P Post n0 W0 k g w) fn ops rest up Q (a.put o.dst (.tuple #[])) { L with heap := L.heap.setIfInBounds cL (.chan cap buf true s r tm) }) : MpOps S P (fun k g w => Win P Post n0 W0 k g w) fn ops (i :: rest) up Q a L := by
  intro b' K' base ρ k W a' h1 h2 h3 h4 h5
  have hk : b'.kind ≠ .early := by rw [h2]; simp
  have hw' : Region.wanted o (yielded ops a'.tmps) = true := by rw [← yielded_same h4.tmps]; exact hw
  have vx := h4.eval.1 x hx
  rw [hc] at vx
  obtain ⟨c, hcρ, hx'⟩ : ∃ c, ρ cL = some (c, 0) ∧ a'.eval x = .chan (some c) := by
    generalize a'.eval x = v at vx
    cases vx with
    | chan h => exact ⟨_, h, rfl⟩
  obtain ⟨buf', g1, g2, g3⟩ := h3.wr.chans cL c 0 cap buf false s r tm hcρ hL
  have hlt : c < W.heap.size := (Array.getElem?_eq_some_iff.1 g1).1
  have hrun : ∀ w : World, w.heap[c]? = some (.chan cap buf' false s r tm) → (execOp a'.eval o).run P w = .ok (.value (.tuple #[])) { w with heap := w.heap.setIfInBounds c (.chan cap buf' true s r tm) } ∧ (execOp a'.eval o).events P w #[] = #[⟨.obj c, false, true⟩, ⟨.obj c, true, true⟩] := fun w hw0 => by
    have : (execOp a'.eval o).runT P w #[] = (.ok (.value (.tuple #[])) { w with heap := w.heap.setIfInBounds c (.chan cap buf' true s r tm) }, #[⟨.obj c, false, true⟩, ⟨.obj c, true, true⟩]) := by
      have e : execOp a'.eval o = (Builtin.close_ ats o.type #[.chan (some c)] >>= fun v => pure (.value v)) := by
        simp only [execOp, hop, resolve, List.map_toArray, List.map_cons, List.map_nil, hx']
        rfl
      rw [e]
      change (Sem.getObj c _).runT P w #[] = _
      simp only [Sem.runT, hw0]
      change (Sem.setObj c _ _).runT P w _ = _
      simp only [Sem.runT, hw0]
      rfl
    rw [Sem.runT_eq] at this
    exact Prod.mk.inj this
  have hev : ∀ e ∈ (#[⟨.obj c, false, true⟩, ⟨.obj c, true, true⟩] : Array Event), ∀ fn pos n', c < n' → OpOk k W.heap.size n' { g := 0, fn := fn, pos := pos, act := .ofEvent e } := fun e he fn pos n' hn => by
    simp only [List.mem_toArray, List.mem_cons, List.not_mem_nil, or_false] at he
    rcases he with rfl | rfl
    · exact ⟨rfl, hn, (fun b hb => by simp [MemAct.ofEvent, MemAct.touch?] at hb; subst hb; exact .inr (.inl g3)), (fun a e => by cases e), (fun e => by cases e), (fun e => by cases e)⟩
    · exact ⟨rfl, hn, (fun b hb => by simp [MemAct.ofEvent, MemAct.touch?] at hb), (fun a e => by cases e), (fun e => by cases e), (fun e => by cases e)⟩
  refine win_act rfl fun d => ?_
  obtain ⟨e1, e2⟩ := hrun (W.at d) g1
  have hsz : ({ (W.at d) with heap := (W.at d).heap.setIfInBounds c (.chan cap buf' true s r tm) } : World).heap.size = W.heap.size := by simp [World.at]
  refine ⟨_, _, _, fun gs sl h0 hst => (runT_crowd_go (sl := sl) (i := 0) h0 (stepG_value ho hw' hk e1)).trans (by rw [map_woken hst]), chg_obj (o := .chan cap buf' false s r tm) (w := W.at d) g1 not_cells_chan not_cells_chan g3, fun op hop => ?_, ?_⟩
  · obtain ⟨e, he, rfl⟩ := Go.Conc.mem_ofEvents hop
    unfold listed at he
    rw [e2] at he
    exact hev e (seen_sub e he).1 _ _ _ (by rw [hsz]; exact hlt)
  · rw [hsz, grow_self]
    refine h b' K' base ρ k _ _ h1 h2 ⟨(h3.wr.setChan hcρ hL g2).heaps rfl rfl, h3.pr⟩ (h4.put _ (.tuple rfl fun i v v' h => by simp at h)) (h5.at (.refl _) fun _ => ⟨by rw [hsz]; exact Nat.le_refl _, fun _ hl => hl, fun l hl => .inl hl, rfl, rfl⟩)
end
section
variable {S : FnSet} {P : Program} {J : LK → Goroutine → World → Prop} {main : Bool} {R : LK → World → World → Prop}
theorem MpOps.valH (hJ : JOk P main R J) (hb : Bodies S P) {fn : FuncId} {ops : Array Oper} {i : Nat} {rest : List Nat} {o : Oper} {up : Bool} {Q : Exit → Act → World → Prop} {a : Act} {L : World} {v : Value} (ho : ops[i]? = some o) (hw : Region.wanted o (yielded ops a.tmps) = true) (hok : okOp S P o.op)
    (hop : ∀ w : World, w.heap = L.heap → (execOp a.eval o).run P w = .ok (.value v) w) (h : MpOps S P J fn ops rest up Q (a.put o.dst v) L) : MpOps S P J fn ops (i :: rest) up Q a L :=
  MpOps.op hJ hb ho hw hok fun T => ⟨{ L with tape := T }, .inl ⟨v, hop _ rfl, MpOps.tape (L := L) (L' := { L with tape := T }) rfl h⟩⟩
theorem MpOps.val' (hJ : JOk P main R J) (hb : Bodies S P) {fn : FuncId} {ops : Array Oper} {i : Nat} {rest : List Nat} {o : Oper} {up : Bool} {Q : Exit → Act → World → Prop} {a : Act} {L : World} {v : Value} (ho : ops[i]? = some o) (hw : Region.wanted o (yielded ops a.tmps) = true) (hok : okOp S P o.op)
    (hop : ∀ w, (execOp a.eval o).run P w = .ok (.value v) w) (h : MpOps S P J fn ops rest up Q (a.put o.dst v) L) : MpOps S P J fn ops (i :: rest) up Q a L := MpOps.valH hJ hb ho hw hok (fun w _ => hop w) h
theorem MpOps.new (hJ : JOk P main R J) (hb : Bodies S P) {fn : FuncId} {ops : Array Oper} {i : Nat} {rest : List Nat} {o : Oper} {up : Bool} {Q : Exit → Act → World → Prop} {a : Act} {L : World} {v : Value} {x : Obj} (ho : ops[i]? = some o) (hw : Region.wanted o (yielded ops a.tmps) = true) (hok : okOp S P o.op)
    (hop : ∀ w : World, w.heap.size = L.heap.size → (execOp a.eval o).run P w = .ok (.value v) (w.alloc x)) (h : MpOps S P J fn ops rest up Q (a.put o.dst v) (L.alloc x)) : MpOps S P J fn ops (i :: rest) up Q a L :=
  MpOps.op hJ hb ho hw hok fun T => ⟨({ L with tape := T } : World).alloc x, .inl ⟨v, hop _ rfl, MpOps.tape (L := L.alloc x) rfl h⟩⟩
/-- A store. -/
theorem MpOps.set (hJ : JOk P main R J) (hb : Bodies S P) {fn : FuncId} {ops : Array Oper} {i : Nat} {rest : List Nat} {o : Oper} {up : Bool} {Q : Exit → Act → World → Prop} {a : Act} {L : World} {p : Addr} {v : Value} (ho : ops[i]? = some o) (hd : o.dst = none) (hw : Region.wanted o (yielded ops a.tmps) = true) (hok : okOp S P o.op)
    (hop : ∀ w : World, w.heap = L.heap → (execOp a.eval o).run P w = .ok .skip (w.setCell p v)) (h : MpOps S P J fn ops rest up Q a (L.setCell p v)) : MpOps S P J fn ops (i :: rest) up Q a L :=
  MpOps.op hJ hb ho hw hok fun T => ⟨({ L with tape := T } : World).setCell p v, .inr ⟨hop _ rfl, by rw [hd]; exact MpOps.tape (L := L.setCell p v) rfl h⟩⟩
/-- A channel is made. -/
theorem MpOps.makeC (hJ : JOk P main R J) {fn : FuncId} {ops : Array Oper} {i : Nat} {rest : List Nat} {o : Oper} {up : Bool} {Q : Exit → Act → World → Prop} {a : Act} {L : World} {x : Operand} {n : Nat} (ho : ops[i]? = some o) (hw : Region.wanted o (yielded ops a.tmps) = true) (hx : okX S x) (hn : a.eval x = .int .i64 n)
    (hrun : ∀ e : Operand → Value, e x = .int .i64 n → ∀ w : World, (execOp e o).runT P w #[] = (.ok (.value (.chan (some w.heap.size))) { w with heap := w.heap.push (.chan n #[] false 0 0 false) }, #[]))
    (h : MpOps S P J fn ops rest up Q (a.put o.dst (.chan (some L.heap.size))) { L with heap := L.heap.push (.chan n #[] false 0 0 false) }) : MpOps S P J fn ops (i :: rest) up Q a L := by
  intro b' K' base ρ k W a' h1 h2 h3 h4 h5
  have hk : b'.kind ≠ .early := by rw [h2]; simp
  have hw' : Region.wanted o (yielded ops a'.tmps) = true := by rw [← yielded_same h4.tmps]; exact hw
  have hx' : a'.eval x = .int .i64 n := by
    have vx := h4.eval.1 x hx
    rw [hn] at vx
    generalize a'.eval x = v at vx
    cases vx; rfl
  have hr : ∀ w : World, (execOp a'.eval o).run P w = .ok (.value (.chan (some w.heap.size))) { w with heap := w.heap.push (.chan n #[] false 0 0 false) } ∧ (execOp a'.eval o).events P w #[] = #[] := fun w => by
    have := hrun a'.eval hx' w
    rw [Sem.runT_eq] at this
    exact Prod.mk.inj this
  refine hJ.own _ _ _ rfl rfl fun w₁ hR => ?_
  have hrel := hJ.rel _ _ _ hR
  have hm := h3.rely hrel
  refine ⟨_, _, _, stepG_value ho hw' hk (hr w₁).1, OwnX.strict (own_new _).chg (by rw [listed, (hr w₁).2, seen_empty]), ?_⟩
  have hsz : ({ w₁ with heap := w₁.heap.push (.chan n #[] false 0 0 false) } : World).heap.size = w₁.heap.size + 1 := by simp
  rw [hsz]
  refine h b' K' base (ρ.newC L.heap.size w₁.heap.size) _ _ _ h1 h2 ⟨hm.wr.newC n, ⟨hm.pr.base, hm.pr.bad, hm.pr.none⟩⟩ ((h4.sub hm.wr.freshC).put _ (.chan hm.wr.freshC_to)) (h5.at hm.wr.freshC fun _ => by rw [hsz]; exact (Up.refl k W.heap.size).step hrel.size (Nat.le_succ _))
end
section
variable {S : FnSet} {P : Program} {J : LK → Goroutine → World → Prop} {main : Bool} {R : LK → World → World → Prop} {ops : Array Oper} {m : Nat}
/-- ████ A REGION WHOSE ORDER IS DRAWN, told of the lone world ████: all but its last operation yield values and turn nothing. -/
theorem Mp.drawn (hJ : JOk P main R J) (hb : Bodies S P) (hmx : P.follows .mixedOrders = true) (hok : drawOk ops m = true) (V : Nat → Value) {fn : FuncId} {up : Bool} {id : Nat} {a : Act} {Q : Exit → Act → World → Prop} {L : World}
    (hop : ∀ i o, ops[i]? = some o → i ≠ m → okOp S P o.op ∧ ∀ w : World, w.heap = L.heap → (execOp (putsV ops V (List.range m) a).eval o).run P w = .ok (.value (V i)) w)
    (hlast : MpOps S P J fn ops [m] up Q (putsV ops V (List.range m) a) L) : Mp S P J fn (.region id ops true) up Q a L := by
  have key : ∀ (fuel t : Nat) (listed : Array Bool) (a' : Act), Held ops V m a listed a' → ((List.range ops.size).filter fun i => !listed.getD i true).length ≤ fuel → MpOps S P J fn ops (Region.linearise.go .any ops fuel t listed []) up Q a' L := by
    intro fuel
    induction fuel with
    | zero =>
      intro t listed a' hh hc
      exfalso
      have hm : m + 1 = ops.size := by unfold drawOk at hok; simp only [Bool.and_eq_true, decide_eq_true_eq] at hok; exact hok.1
      have : m ∈ (List.range ops.size).filter fun i => !listed.getD i true := List.mem_filter.2 ⟨List.mem_range.2 (by omega), by rw [getD_true (by rw [hh.size]; omega), hh.last]; rfl⟩
      have := List.length_pos_of_mem this
      omega
    | succ fuel ih =>
      intro t listed a' hh hc
      have hm : m + 1 = ops.size := by
        have hok' := hok
        unfold drawOk at hok'; simp only [Bool.and_eq_true, decide_eq_true_eq] at hok'; exact hok'.1
      have hne : ∃ j, j ∈ Region.ready .any ops listed := ready_least hok m m (Nat.le_refl _) (by omega) (by rw [getD_true (by rw [hh.size]; omega)]; exact hh.last)
      simp only [Region.linearise.go]
      change MpOps S P J fn ops (match (Region.ready .any ops listed)[t % (Region.ready .any ops listed).length]? with
        | some i => Region.linearise.go .any ops fuel (t / (Region.ready .any ops listed).length) (listed.setIfInBounds i true) [i]
        | none => [].reverse) up Q a' L
      cases hi : (Region.ready .any ops listed)[t % (Region.ready .any ops listed).length]? with
      | none =>
        exfalso
        obtain ⟨j, hj⟩ := hne
        have hpos := List.length_pos_of_mem hj
        have hlt : t % (Region.ready .any ops listed).length < (Region.ready .any ops listed).length := Nat.mod_lt _ hpos
        rw [List.getElem?_eq_none_iff] at hi
        omega
      | some i =>
        simp only []
        rw [linearise_go_acc, List.reverse_singleton, List.singleton_append]
        have hmem := List.mem_of_getElem? hi
        obtain ⟨hin, hrd⟩ := List.mem_filter.1 hmem
        have hin' := List.mem_range.1 hin
        have ho : ops[i]? = some ops[i] := Array.getElem?_eq_getElem hin'
        simp only [Bool.and_eq_true, Bool.not_eq_true', ho, Option.map_some, Option.getD_some] at hrd
        obtain ⟨hun, hall⟩ := hrd
        rw [Array.all_eq_true'] at hall
        have hedge : ∀ e ∈ ops[i].after, Region.binds .any e = true → listed.getD e.on false = true := fun e he hb => by
          have := hall e he
          simpa [hb] using this
        have hli : i < listed.size := by rw [hh.size]; exact hin'
        by_cases him : i = m
        · subst him
          have hrest : Region.linearise.go .any ops fuel (t / (Region.ready .any ops listed).length) (listed.setIfInBounds i true) [] = [] := by
            have hothers : ∀ j, j < ops.size → (listed.setIfInBounds i true).getD j true = true := fun j hj => by
              rw [getD_true (by simp [hh.size]; exact hj), getD_set _ _ _ hli]
              by_cases e : j = i
              · rw [if_pos e]
              · rw [if_neg e]
                have hreach := (drawOk_at hok (Array.getElem?_eq_getElem hj)).2.2.2.2.1.resolve_left e
                exact hh.reach _ i j hreach fun o' ho' => by rw [ho] at ho'; cases ho'; exact hedge
            cases fuel with
            | zero => rfl
            | succ f =>
              simp only [Region.linearise.go]
              have : (List.range ops.size).filter (fun j => !(listed.setIfInBounds i true).getD j true && ((ops[j]?).map (·.after.all fun e => !Region.binds .any e || (listed.setIfInBounds i true).getD e.on false)).getD false) = [] := by
                rw [List.filter_eq_nil_iff]
                intro j hj
                rw [hothers j (List.mem_range.1 hj)]
                simp
              rw [this]
              rfl
          rw [hrest]
          have hfull : a' = putsV ops V (List.range i) a := hh.full hok fun j hj => by
            have hj' : j < ops.size := by omega
            have hreach := (drawOk_at hok (Array.getElem?_eq_getElem hj')).2.2.2.2.1.resolve_left (by omega)
            exact hh.reach _ i j hreach fun o' ho' => by rw [ho] at ho'; cases ho'; exact hedge
          rw [hfull]
          exact hlast
        · have heval := hh.eval hok ho him hedge
          have hwant : Region.wanted ops[i] (yielded ops a'.tmps) = true := by unfold Region.wanted; rw [(drawOk_at hok ho).2.1]
          have hstep := hh.step hok ho him hedge
          have hcnt : ((List.range ops.size).filter fun j => !(listed.setIfInBounds i true).getD j true).length ≤ fuel := by
            have e : (List.range ops.size).filter (fun j => !(listed.setIfInBounds i true).getD j true) = ((List.range ops.size).filter fun j => !listed.getD j true).filter fun j => j != i := by
              rw [List.filter_filter]
              refine List.filter_congr fun j hj => ?_
              have hj' := List.mem_range.1 hj
              rw [getD_true (by simp [hh.size]; exact hj'), getD_set _ _ _ hli, getD_true (by rw [hh.size]; exact hj')]
              by_cases e : j = i
              · simp [e]
              · simp [e]
            have hmi : i ∈ (List.range ops.size).filter fun j => !listed.getD j true := List.mem_filter.2 ⟨hin, by rw [hun]; rfl⟩
            have hlt := (List.length_filter_lt_length_iff_exists (p := fun j => j != i) (l := (List.range ops.size).filter fun j => !listed.getD j true)).2 ⟨i, hmi, by simp⟩
            rw [e]; omega
          obtain ⟨hok1, hv⟩ := hop i _ ho him
          refine MpOps.valH hJ hb ho hwant hok1 (fun w hw => ?_) (ih _ _ _ hstep hcnt)
          rw [heval]
          exact hv w hw
  intro b' K' base ρ k W a' h1 h2 h3 h4 h5
  refine hJ.own _ _ _ rfl rfl fun w₁ hR => ⟨_, w₁.at (w₁.drawn + 1), #[], stepG_region_draw, ⟨.at k w₁ _, by simp⟩, ?_⟩
  have hrel := hJ.rel _ _ _ hR
  rw [show (w₁.at (w₁.drawn + 1)).heap.size = w₁.heap.size from rfl, grow_self]
  simp only [Region.schedule, hmx, Bool.true_or, if_true]
  refine key ops.size _ _ a ⟨by simp, rfl, rfl, fun t ht => ?_, fun j o hj => ?_, ?_⟩ ?_ b' K' base ρ k _ a' h1 h2 ⟨(h3.wr.rely hrel).heaps rfl rfl, h3.pr⟩ h4 (h5.at (.refl _) fun _ => (Up.refl _ _).wide hrel.size)
  · unfold valAt
    have hrep : ∀ j, (Array.replicate ops.size false).getD j false = false := fun j => by
      rw [Array.getD_eq_getD_getElem?, Array.getElem?_replicate]
      split <;> rfl
    cases prodOf ops t with
    | none => rfl
    | some j => simp only [hrep]; rfl
  · exfalso
    rw [Array.getD_eq_getD_getElem?, Array.getElem?_replicate] at hj
    split at hj <;> simp at hj
  · rw [Array.getD_eq_getD_getElem?, Array.getElem?_replicate]
    split <;> rfl
  · exact Nat.le_trans (List.length_filter_le _ _) (by simp)
end
end Go.Proofs.Yticdjkkcfdbdcaa
