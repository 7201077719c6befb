/- A step of a worker's that its family's protocol lets: what is shared turns, and what is whose. No program; no conditions but those named. -/
import Derived.Test.YticdjkkcfdbdcaaChan
namespace Go.Proofs.Yticdjkkcfdbdcaa
open Go.Conc Go.ConcN
section
variable {P : Program} {fm : Fam} {ty : TypeId} {Wg m0 p0 tot : Nat} {Shun : Loc → Prop} {Anc : Goroutine → World → Prop}
/-- What such a step is. -/
def FamStep (P : Program) (i n : Nat) (g g' : Goroutine) (w w' : World) (u : Array MemOp) : Prop :=
  (∃ es, stepG P (i == 0) g w = .go g' w' es ∧ u = MemOp.ofEvents i g.frame.fn g.frame.place es) ∨
  (∀ (gs : Array Goroutine) (sl : Option (Nat × Nat)), gs[i]? = some g → gs.size = n → (∀ (j : Nat) (x : Goroutine), gs[j]? = some x → x.status = .blocked → x.offers = none) → runT P (crowd gs w sl) i = (.next (crowd (gs.setIfInBounds i g') w' sl), u))
/-- ████ THE RULE. ████ -/
theorem wp_fam (ok : fm.Ok Wg) {i : Nat} {k : LK} {x : fm.τ} {g : Goroutine} {w : World} (hi0 : i ≠ 0) (hr : g.status = .running) (ho : g.offers = none)
    (h : ∀ (w₁ : World) (n : Nat) (T : Nat → Option fm.τ) (K : Nat → LK) (t : Trace), m0 ≤ i → i < n → T i = some x → K i = k → Rely k w w₁ → fm.GR i w w₁ → Lic n K w₁ t → fm.G n T K w₁ t → (∀ l, WgLoc Wg l → k.A l) → Deaf t i = 0 →
      ∃ (g' : Goroutine) (w' : World) (u : Array MemOp) (k' : LK) (x' : fm.τ), FamStep P i n g g' w₁ w' u ∧
        (∀ op ∈ u, op.g = i ∧ op.act ≠ .mark (.release (stW Wg)) ∧ op.act ≠ .mark .disable ∧ op.act ≠ .mark .enable) ∧ w'.heap[Wg]? = w₁.heap[Wg]? ∧
        Lic n (upd K i k') w' (t ++ u) ∧ fm.G n (upd T i (some x')) (upd K i k') w' (t ++ u) ∧ (∀ l, WgLoc Wg l → k'.A l) ∧
        (∀ j, j < n → j ≠ i → Rely (K j) w₁ w' ∧ fm.GR j w₁ w') ∧ WP (wgProto P fm ty Wg m0 p0 tot Shun Anc) i k' (.work x') g' w') :
    WP (wgProto P fm ty Wg m0 p0 tot Shun Anc) i k (.work x) g w := by
  refine WP.step hr ho fun w₁ n (S : Nat → WSt fm.τ) K t hs => ?_
  obtain ⟨hi, hk, hss, hrel, hfr, hlic, hf1, hf2, hf3, hf4⟩ := hs
  replace hss : S i = .work x := hss
  have hm0 : m0 ≤ i := by
    rcases Nat.lt_or_ge i m0 with h1 | h1
    · have := hf1.olds i h1 hi0
      rw [hss] at this; cases this
    · exact h1
  have hA : ∀ l, WgLoc Wg l → k.A l := fun l hl => by
    rw [← hk]; exact hf3 i hi (by rw [hss]; exact fun e => by cases e) l hl
  obtain ⟨g', w', u, k', x', hstep, hu, hwg, hlic', hG', hA', hoth, hc⟩ := h w₁ n (fun j => (S j).x) K t hm0 hi (by show (S i).x = _; rw [hss]; rfl) hk hrel hfr.1 hlic hf2 hA (hf1.deaf i hi 0 (by rw [hss]; rfl))
  obtain ⟨tg, st, sm, e0, hw, hmode, hacq⟩ := hf1.mode
  have hcv : (S i).cv = 1 := by rw [hss]; rfl
  have hmode' : Mode n (upd S i (.work x')) tg st sm := hmode.swap hi hi0 hcv rfl trivial
  have hinv : WgInv ty Wg m0 p0 Shun n (upd S i (.work x')) w' (t ++ u) := by
    refine hf1.step hi (.inr hm0) (fun op hop => (hu op hop).1) (fun op hop => (hu op hop).2.1) (by rw [upd_ne S _ (fun e => hi0 e.symm)]; exact e0) (show WgIs ty Wg w' st sm from hwg.trans hw) hmode' (fun e => ?_) (fun _ hx => hx) (fun d hd => ?_) (fun _ hx => hx.elim)
    · subst e
      have := (hmode.atFin trivial).1 i hi hi0
      rw [hss] at this; cases this
    · cases hd
      rw [Deaf_mild _ _ _ fun op hop => (hu op hop).2.2]
      exact hf1.deaf i hi 0 (by rw [hss]; rfl)
  have hx : (fun j => (upd S i (.work x') j).x) = upd (fun j => (S j).x) i (some x') := by
    funext j
    by_cases e : j = i
    · subst e; rw [upd_same, upd_same]; rfl
    · rw [upd_ne S _ e, upd_ne _ _ e]
  have h00 : upd S i (.work x') 0 = S 0 := upd_ne S _ (fun e => hi0 e.symm)
  have kept : ∀ wake, Kept (wgProto P fm ty Wg m0 p0 tot Shun Anc) i wake w₁ n S K w' (t ++ u) k' (.work x') := fun wake => by
    refine ⟨hlic', ⟨hinv, by show fm.G n (fun j => (upd S i (.work x') j).x) _ _ _; rw [hx]; exact hG', fun j hj hj2 l hl => ?_, ?_, ?_⟩, fun j hj hji => (hoth j hj hji).1, fun j hj hji => ⟨(hoth j hj hji).2, fun e st2 sm2 h2 => ⟨st2, sm2, hwg.trans h2, Int.le_refl _⟩⟩, fun j hj hji hb => .inl ?_, ?_⟩
    · by_cases e : j = i
      · subst e; rw [upd_same]; exact hA' l hl
      · rw [upd_ne K _ e]
        exact hf3 j hj (fun x => hj2 ((upd_ne S _ e).trans x)) l hl
    · show n + leftW (upd S i (.work x') 0) = m0 + tot ∧ _
      rw [h00]; exact hf4.1
    · show SpOk (upd S i (.work x') 0)
      rw [h00]; exact hf4.2
    · obtain ⟨hb1, hb2, st2, hb3⟩ := hb
      exact ⟨hb1, h00.trans hb2, st2, hwg.trans hb3⟩
    · show leftW (upd S i (.work x') 0) ≤ leftW (S 0)
      rw [h00]; exact Nat.le_refl _
  rcases hstep with ⟨es, h1, rfl⟩ | h1
  · exact .go g' w' es k' (.work x') h1 hc.running.1 hc.running.2 (kept _) (fun e => by cases e) hc
  · exact .comm g' w' u k' (.work x') h1 (fun op hop => (hu op hop).1) hc.running.1 hc.running.2 (kept _) (fun e => by cases e) hc
end
end Go.Proofs.Yticdjkkcfdbdcaa

/- Workers that take items of work out of one channel, filled and closed ahead: the family, and its rules. No program; no conditions but those named. -/
namespace Go.Proofs.Yticdjkkcfdbdcaa
open Go.Conc Go.ConcN
section
variable {n : Nat} {K : Nat → LK} {w : World} {t : Trace} {i : Nat}
/-- Places that nobody has, of whose touches one knows all: they become its own. -/
theorem Lic.claim (h : Lic n K w t) (hi : i < n) {U : Loc → Prop} (hU : ∀ l, U l → ∀ j, j < n → ¬ (K j).W l ∧ ¬ (K j).R l ∧ ¬ (K j).A l) (hm : ∀ l, U l → MemLoc w.heap.size l) (hp : ∀ l, U l → Perm t i l) :
    Lic n (upd K i { K i with W := fun l => (K i).W l ∨ U l }) w t := by
  have kW : ∀ j l, (upd K i { K i with W := fun l => (K i).W l ∨ U l } j).W l → (K j).W l ∨ (j = i ∧ U l) := fun j l hl => by
    by_cases e : j = i
    · subst e; rw [upd_same] at hl; exact hl.imp id fun x => ⟨rfl, x⟩
    · rw [upd_ne K _ e] at hl; exact .inl hl
  have kR : ∀ j, (upd K i { K i with W := fun l => (K i).W l ∨ U l } j).R = (K j).R := fun j => by
    by_cases e : j = i
    · subst e; rw [upd_same]
    · rw [upd_ne K _ e]
  have kA : ∀ j, (upd K i { K i with W := fun l => (K i).W l ∨ U l } j).A = (K j).A := fun j => by
    by_cases e : j = i
    · subst e; rw [upd_same]
    · rw [upd_ne K _ e]
  refine ⟨fun a b ha hb hab l h1 h2 => ?_, fun a b ha hb hab l h1 h2 => ?_, fun a b ha hb l h1 h2 => ?_, fun a ha l hl => ?_, fun a ha l hl => ?_, fun a ha l hl => ?_, fun a ha p x hx hA hk => h.pa a ha p x hx (by rw [kA] at hA; exact hA) hk, h.said, h.race, h.seen, h.above⟩
  · rcases kW a l h1 with q1 | ⟨e1, q1⟩ <;> rcases kW b l h2 with q2 | ⟨e2, q2⟩
    · exact h.ww a b ha hb hab l q1 q2
    · exact (hU l q2 a ha).1 q1
    · exact (hU l q1 b hb).1 q2
    · exact hab (e1.trans e2.symm)
  · rw [kR] at h2
    rcases kW a l h1 with q1 | ⟨_, q1⟩
    · exact h.wr a b ha hb hab l q1 h2
    · exact (hU l q1 b hb).2.1 h2
  · rw [kA] at h2
    rw [kR] at h1
    rcases h1 with h1 | h1
    · rcases kW a l h1 with q1 | ⟨_, q1⟩
      · exact h.wa a b ha hb l (.inl q1) h2
      · exact (hU l q1 b hb).2.2 h2
    · exact h.wa a b ha hb l (.inr h1) h2
  · rw [kR, kA] at hl
    rcases hl with hl | hl
    · rcases kW a l hl with q1 | ⟨_, q1⟩
      · exact h.low a ha l (.inl q1)
      · exact hm l q1
    · exact h.low a ha l (.inr hl)
  · rcases kW a l hl with q1 | ⟨e1, q1⟩
    · exact h.pw a ha l q1
    · rw [e1]; exact hp l q1
  · rw [kR] at hl; exact h.pr a ha l hl
end
/-- The channel: N items, r of them taken. -/
def ChanIs (c cap : Nat) (items : Array Value) (s0 r : Nat) (w : World) : Prop := ∃ rc, w.heap[c]? = some (.chan cap (items.extract r items.size) true s0 rc false)
def NoMore (c cap s0 : Nat) (w : World) : Prop := ∃ rc, w.heap[c]? = some (.chan cap #[] true s0 rc false)
/-- What is known of the items that nobody has taken yet. -/
structure Untaken (It : Nat → Loc → Prop) (N m0 : Nat) (w0 : World) (r n : Nat) (T : Nat → Option (List Nat)) (K : Nat → LK) (w : World) (t : Trace) : Prop where
  free : ∀ j, r ≤ j → j < N → ∀ l, It j l → ∀ i, i < n → ¬ (K i).W l ∧ ¬ (K i).R l ∧ ¬ (K i).A l
  perm : ∀ j, r ≤ j → j < N → ∀ l, It j l → ∀ i, i < n → (i = 0 ∨ (m0 ≤ i ∧ T i ≠ none)) → Perm t i l
  same : ∀ j, r ≤ j → j < N → Rely (keepK (It j)) w0 w
structure QInv (X Rl : Loc → Prop) (It : Nat → Loc → Prop) (items : Array Value) (c cap s0 : Nat) (w0 : World) (m0 : Nat) (Q : Nat → LK → World → Prop) (n : Nat) (T : Nat → Option (List Nat)) (K : Nat → LK) (w : World) (t : Trace) (r : Nat) : Prop where
  le : r ≤ items.size
  ch : ChanIs c cap items s0 r w
  noC : ∀ i, i < n → ¬ (K i).W (.obj c) ∧ ¬ (K i).R (.obj c)
  un : Untaken It items.size m0 w0 r n T K w t
  did : ∀ j, j < r → ∃ i, m0 ≤ i ∧ i < n ∧ ((∃ l, T i = some l ∧ j ∈ l) ∨ (T i = none ∧ Q j (K i) w))
  low : ∀ i l, T i = some l → ∀ j ∈ l, j < r
  out : ∀ i, m0 ≤ i → i < n → T i = none → r = items.size
/-- ████ THE FAMILY ████ -/
def famQ (X Rl : Loc → Prop) (It : Nat → Loc → Prop) (items : Array Value) (c cap s0 : Nat) (w0 : World) (m0 : Nat) (Q : Nat → LK → World → Prop) : Fam where
  τ := List Nat
  G n T K w t := (Rely (keepK X) w0 w ∧ (∀ i, i < n → ∀ l, X l → ¬ (K i).W l) ∧ (∀ l, X l → MemLoc w0.heap.size l) ∧ RelIn Rl t ∧ 0 < m0) ∧ ∃ r, QInv X Rl It items c cap s0 w0 m0 Q n T K w t r
  GR _ w w₁ := NoMore c cap s0 w → NoMore c cap s0 w₁
  Q _ x k w := (∀ j ∈ x, Q j k w) ∧ NoMore c cap s0 w
section
variable {X Rl : Loc → Prop} {It : Nat → Loc → Prop} {items : Array Value} {c cap s0 : Nat} {w0 : World} {m0 : Nat} {Q : Nat → LK → World → Prop} {Wg : Nat}
theorem ext_empty {r : Nat} (h : items.extract r items.size = #[]) (hr : r ≤ items.size) : r = items.size := by
  have := congrArg Array.size h
  simp at this
  omega
theorem famQ_ok (hQ : ∀ j k w w', Q j k w → Rely k w w' → Q j k w') (hXW : ∀ l, X l → ¬ WgLoc Wg l ∧ l ≠ .obj Wg) (hIW : ∀ j l, It j l → ¬ WgLoc Wg l ∧ l ≠ .obj Wg) (hIm : ∀ j l, j < items.size → It j l → MemLoc w0.heap.size l) (hc0 : c < w0.heap.size) :
    (famQ X Rl It items c cap s0 w0 m0 Q).Ok Wg where
  refl _ _ h := h
  trans _ _ _ _ h h' x := h' (h x)
  at_ _ _ _ h := h
  gAt n T K w t d h := by
    obtain ⟨h1, r, h2⟩ := h
    refine ⟨⟨h1.1.trans (.at _ _ d), h1.2⟩, r, ⟨h2.le, h2.ch, h2.noC, ⟨h2.un.free, h2.un.perm, fun j hj hj2 => (h2.un.same j hj hj2).trans (.at _ _ d)⟩, fun j hj => ?_, h2.low, h2.out⟩⟩
    obtain ⟨i, g1, g2, g3⟩ := h2.did j hj
    exact ⟨i, g1, g2, g3.imp id fun ⟨g4, g5⟩ => ⟨g4, hQ _ _ _ _ g5 (.at _ _ d)⟩⟩
  mute n T K w t i u h hT hu := by
    obtain ⟨⟨h1, h2, h3, h4, h5⟩, r, h6⟩ := h
    refine ⟨⟨h1, h2, h3, h4.app fun op hop => (hu op hop).2.2, h5⟩, r, ⟨h6.le, h6.ch, h6.noC, ⟨h6.un.free, fun j hj hj2 l hl a ha hx => (h6.un.perm j hj hj2 l hl a ha hx).app fun op hop b hb _ => ?_, h6.un.same⟩, h6.did, h6.low, h6.out⟩⟩
    rw [(hu op hop).2.1] at hb; cases hb
  own n T K w w' t i es fn pos h hl hi hT ho := by
    obtain ⟨⟨h1, h2, h3, h4, h5⟩, r, h6⟩ := h
    obtain ⟨rc, hch⟩ := h6.ch
    have hcl : c < w.heap.size := (Array.getElem?_eq_some_iff.1 hch).1
    have hch' : w'.heap[c]? = w.heap[c]? := by rw [hch]; exact ho.chg.obj c _ hch not_cells_chan (h6.noC i hi).1
    have hm : ∀ l, X l → MemLoc w.heap.size l := fun l hx => (h3 l hx).mono h1.size
    have hIm' : ∀ j l, r ≤ j → j < items.size → It j l → MemLoc w.heap.size l := fun j l _ hj hx => (hIm j l hj hx).mono h1.size
    have hnt : ∀ j l, r ≤ j → j < items.size → It j l → ∀ op ∈ MemOp.ofEvents i fn pos es, ∀ b, op.act.touch? = some b → b.loc ≠ l := fun j l hj hj2 hx op hop b hb e => by
      obtain ⟨ev, he, rfl⟩ := Go.Conc.mem_ofEvents hop
      subst e
      have hf := h6.un.free j hj hj2 _ hx i hi
      rcases ((ho.evs ev he).touch hb).2.2 with x | x | x
      · exact x.mem.2 (hIm' j _ hj hj2 hx)
      · exact hf.1 x
      · exact hf.2.1 x.2
    refine ⟨⟨⟨h1.trans (keep_chg ho.chg (h2 i hi) hm), fun j hj l hx => ?_, h3, h4.app fun op hop a => ?_, h5⟩, r, ⟨h6.le, ⟨rc, hch'.trans hch⟩, fun j hj => ?_, ⟨fun j hj hj2 l hx a ha => ?_, fun j hj hj2 l hx a ha hy => (h6.un.perm j hj hj2 l hx a ha hy).app fun op hop b hb hbl => absurd hbl (hnt j l hj hj2 hx op hop b hb), fun j hj hj2 => (h6.un.same j hj hj2).trans (keep_chg ho.chg (fun l hx => (h6.un.free j hj hj2 l hx i hi).1) fun l hx => hIm' j l hj hj2 hx)⟩, fun j hj => ?_, h6.low, h6.out⟩⟩, fun j hj hji hx => ?_⟩
    · by_cases e : j = i
      · subst e
        rw [upd_same]
        rintro (hw | hw)
        · exact h2 j hj l hx hw
        · exact hw.mem.2 (hm l hx)
      · rw [upd_ne K _ e]; exact h2 j hj l hx
    · obtain ⟨e, he, rfl⟩ := Go.Conc.mem_ofEvents hop
      exact (ho.evs e he).noRelease a
    · by_cases e : j = i
      · subst e
        rw [upd_same]
        refine ⟨?_, (h6.noC j hj).2⟩
        rintro (hw | hw)
        · exact (h6.noC j hj).1 hw
        · exact absurd hw.1 (by omega)
      · rw [upd_ne K _ e]; exact h6.noC j hj
    · have hf := h6.un.free j hj hj2 l hx a ha
      by_cases e : a = i
      · subst e
        rw [upd_same]
        refine ⟨?_, hf.2⟩
        rintro (hw | hw)
        · exact hf.1 hw
        · exact hw.mem.2 (hIm' j l hj hj2 hx)
      · rw [upd_ne K _ e]; exact hf
    · obtain ⟨a, g1, g2, g3⟩ := h6.did j hj
      refine ⟨a, g1, g2, g3.imp id fun ⟨g4, g5⟩ => ⟨g4, ?_⟩⟩
      have e : a ≠ i := fun e => by
        subst e
        rcases hT with x | x
        · omega
        · exact x g4
      rw [upd_ne K _ e]
      exact hQ _ _ _ _ g5 (ho.chg.rely hl hi g2 (fun x => e x.symm))
    · obtain ⟨rc2, hx⟩ := hx
      exact ⟨rc2, hch'.trans hx⟩
  wg n T K w w' t i u h hl hi hA ht hcl hal hu := by
    obtain ⟨⟨h1, h2, h3, h4, h5⟩, r, h6⟩ := h
    obtain ⟨rc, hch⟩ := h6.ch
    have hcw : c ≠ Wg := fun e => by
      subst e
      obtain ⟨x, y, z, hc⟩ := hcl
      rw [hch] at hc; cases hc
    have hch' : w'.heap[c]? = w.heap[c]? := ht.block c hcw
    have hcell : ∀ a : Addr, a.block ≠ Wg → w'.cell? a = w.cell? a := fun a ha => cell_block (ht.block _ ha)
    have shape : ∀ (b : Nat) (o : Obj), w.heap[b]? = some o → ∃ o₁, w'.heap[b]? = some o₁ ∧ Alike o o₁ := fun b o ho => by
      by_cases e : b = Wg
      · subst e; exact hal o ho
      · exact ⟨o, (ht.block b e).trans ho, .refl o⟩
    have keep : ∀ Y : Loc → Prop, (∀ l, Y l → ¬ WgLoc Wg l ∧ l ≠ .obj Wg) → Rely (keepK Y) w w' := fun Y hY => by
      refine ⟨Nat.le_of_eq ht.size.symm, ht.tape, ht.os, ht.output, shape, fun a ha => ?_, fun b o ho hn ha => ?_⟩
      · have hx : Y (.cell a) := ha.elim False.elim id
        exact hcell a fun e => (hY _ hx).1 ⟨a.off, a.spot, by subst e; rfl⟩
      · have hx : Y (.obj b) := ha.elim False.elim id
        exact (ht.block b fun e => (hY _ hx).2 (by rw [e])).trans ho
    refine ⟨⟨⟨h1.trans (keep X hXW), h2, h3, h4.app fun op hop => (hu op hop).2.1, h5⟩, r, ⟨h6.le, ⟨rc, hch'.trans hch⟩, h6.noC, ⟨h6.un.free, fun j hj hj2 l hx a ha hy => (h6.un.perm j hj hj2 l hx a ha hy).app fun op hop b hb hbl => ?_, fun j hj hj2 => (h6.un.same j hj hj2).trans (keep _ (hIW j))⟩, fun j hj => ?_, h6.low, h6.out⟩⟩, fun j hj hji hx => ?_⟩
    · exact absurd (hbl ▸ (hu op hop).2.2 b hb) (hIW j l hx).1
    · obtain ⟨a, g1, g2, g3⟩ := h6.did j hj
      refine ⟨a, g1, g2, g3.imp id fun ⟨g4, g5⟩ => ⟨g4, hQ _ _ _ _ g5 ⟨Nat.le_of_eq ht.size.symm, ht.tape, ht.os, ht.output, shape, fun b hb => ?_, fun b o ho hn ha => ?_⟩⟩⟩
      · exact hcell b fun e => hA a g2 _ hb ⟨b.off, b.spot, by subst e; rfl⟩
      · refine (ht.block b fun e => ?_).trans ho
        subst e
        obtain ⟨x, e, f, hc⟩ := hcl
        rw [hc] at ho; cases ho
        exact hn _ _ _ rfl
    · obtain ⟨rc2, hx⟩ := hx
      exact ⟨rc2, hch'.trans hx⟩
  leave n T K w t i x h hl hi hTi hq := by
    obtain ⟨h1, r, h6⟩ := h
    obtain ⟨hq1, rc2, hq2⟩ := hq
    have hr : r = items.size := by
      obtain ⟨rc, hch⟩ := h6.ch
      rw [hch] at hq2
      simp only [Option.some.injEq, Obj.chan.injEq] at hq2
      exact ext_empty hq2.2.1 h6.le
    refine ⟨h1, r, ⟨h6.le, h6.ch, h6.noC, ⟨h6.un.free, fun j hj hj2 => by omega, h6.un.same⟩, fun j hj => ?_, fun a l ha j hj => ?_, fun _ _ _ _ => hr⟩⟩
    · obtain ⟨a, g1, g2, g3⟩ := h6.did j hj
      refine ⟨a, g1, g2, ?_⟩
      by_cases e : a = i
      · subst e
        right
        refine ⟨upd_same _ _ _, ?_⟩
        rcases g3 with ⟨l, g4, g5⟩ | ⟨g4, g5⟩
        · have : l = x := Option.some.inj (g4.symm.trans hTi)
          subst this
          exact hq1 j g5
        · exact absurd (g4.symm.trans hTi) (by simp)
      · rw [upd_ne T _ e]; exact g3
    · by_cases e : a = i
      · subst e; rw [upd_same] at ha; cases ha
      · rw [upd_ne T _ e] at ha; exact h6.low a l ha j hj
end
def LK.plusW (k : LK) (U : Loc → Prop) : LK := { k with W := fun l => k.W l ∨ U l }
theorem partners_quiet {gs : Array Goroutine} {r i : Nat} {send : Bool} (h : ∀ (j : Nat) x, gs[j]? = some x → x.status = .blocked → x.offers = none) : partners (gs.setIfInBounds i ph) r send = [] := by
  refine partners_nil fun j g hg => ?_
  rcases getElem?_stand gs i j g hg with ⟨_, rfl⟩ | ⟨_, hg⟩
  · rfl
  · by_cases e : g.status = .blocked
    · simp [offersAt, e, h j g hg e]
    · exact offersAt_of_not_blocked e _ _
/-- Another's channel turned. -/
theorem rely_chan {k : LK} {w w' : World} {c : Nat} {n1 s1 r1 n2 s2 r2 : Nat} {x1 x2 : Array Value} {c1 t1 c2 t2 : Bool} (h1 : w.heap[c]? = some (.chan n1 x1 c1 s1 r1 t1)) (h : w' = { w with heap := w.heap.setIfInBounds c (.chan n2 x2 c2 s2 r2 t2) }) (hk : ¬ k.W (.obj c) ∧ ¬ k.R (.obj c)) : Rely k w w' := by
  subst h
  have hc := chg_obj (k := ⟨fun l => l = .obj c, fun _ => False, fun _ => False⟩) (p := .chan n2 x2 c2 s2 r2 t2) h1 not_cells_chan not_cells_chan rfl
  have hlt : c < w.heap.size := (Array.getElem?_eq_some_iff.1 h1).1
  refine ⟨hc.size, rfl, rfl, rfl, hc.shape, fun a ha => ?_, fun b o ho hn ha => ?_⟩
  · by_cases e : a.block < w.heap.size
    · exact hc.cell a e (fun e => by cases e)
    · have q1 : w.heap[a.block]? = none := Array.getElem?_eq_none (by omega)
      have q2 : (w.heap.setIfInBounds c (.chan n2 x2 c2 s2 r2 t2))[a.block]? = none := Array.getElem?_eq_none (by simp; omega)
      simp only [World.cell?, q1, q2]
  · refine hc.obj b o ho hn fun e => ?_
    have e' : b = c := by cases e; rfl
    subst e'
    exact ha.elim hk.1 hk.2
theorem ext_one {items : Array Value} {r : Nat} (h : r < items.size) : (items.extract r items.size).extract 1 (items.extract r items.size).size = items.extract (r + 1) items.size := by
  apply Array.ext_getElem?
  intro j
  simp only [Array.getElem?_extract, Array.size_extract]
  by_cases e : j < items.size - (r + 1)
  · rw [if_pos (by omega), if_pos (by omega), if_pos (by omega)]
    congr 1; omega
  · rw [if_neg (by omega), if_neg (by omega)]
section
variable {X Rl : Loc → Prop} {It : Nat → Loc → Prop} {items : Array Value} {c cap s0 : Nat} {w0 : World} {m0 p0 tot Wg : Nat} {Q : Nat → LK → World → Prop} {P : Program} {ty : TypeId} {Shun : Loc → Prop} {Anc : Goroutine → World → Prop}
/-- ████ A RECEIVE ████: the next item becomes its own; or there is no more. -/
theorem wp_recvQ (ok : (famQ X Rl It items c cap s0 w0 m0 Q).Ok Wg) (hQ' : ∀ j k w w', Q j k w → Rely k w w' → Q j k w') (hIc : ∀ j l, j < items.size → It j l → MemLoc w0.heap.size l ∧ l ≠ .obj c ∧ ¬ WgLoc Wg l) (hXc : ∀ l, X l → l ≠ .obj c ∧ ∀ j, j < items.size → ¬ It j l) (hdis : ∀ i j, i < items.size → j < items.size → i ≠ j → ∀ l, It i l → ¬ It j l) (hcg : c ≠ Wg) {i : Nat} (hi0 : i ≠ 0) {k : LK} {x : List Nat} {w : World} {b : Frame} {K : List Item} {cs : List Frame} {a : Act} {ops : Array Oper} {i0 : Nat} {rest : List Nat} {o : Oper} {z : Value} (hb : b.kind ≠ .early) (ho : ops[i0]? = some o) (hw : Region.wanted o (yielded ops a.tmps) = true)
    (hrun : ∀ w, (execOp a.eval o).runT P w #[] = (.ok (.comm #[rcase c z] true (.recv true)) w, #[]))
    (htake : ∀ r w', r < items.size → (∀ j ∈ x, j < r) → Rely k w w' → Rely (keepK (It r)) w0 w' → WP (wgProto P (famQ X Rl It items c cap s0 w0 m0 Q) ty Wg m0 p0 tot Shun Anc) i (k.plusW (It r)) (.work (x ++ [r])) (G (b.at (a.put o.dst (.tuple #[items.getD r undef, .bool true])) (.inRegion ops rest :: K)) cs) w')
    (hnone : ∀ w', Rely k w w' → NoMore c cap s0 w' → WP (wgProto P (famQ X Rl It items c cap s0 w0 m0 Q) ty Wg m0 p0 tot Shun Anc) i k (.work x) (G (b.at (a.put o.dst (.tuple #[z, .bool false])) (.inRegion ops rest :: K)) cs) w') :
    WP (wgProto P (famQ X Rl It items c cap s0 w0 m0 Q) ty Wg m0 p0 tot Shun Anc) i k (.work x) (G (b.at a (.inRegion ops (i0 :: rest) :: K)) cs) w := by
  have hr2 : ∀ w, (execOp a.eval o).run P w = .ok (.comm #[rcase c z] true (.recv true)) w ∧ (execOp a.eval o).events P w #[] = #[] := fun w => by
    have := hrun w
    rw [Sem.runT_eq] at this
    exact Prod.mk.inj this
  refine wp_fam ok hi0 rfl rfl fun w₁ n T KK t hm0 hi hT hk hrel hgr hlic hG hA hd => ?_
  have hstep : stepG P (i == 0) (G (b.at a (.inRegion ops (i0 :: rest) :: K)) cs) w₁ = .comm (G (b.at a (.inRegion ops (i0 :: rest) :: K)) cs) #[rcase c z] true (.recv true) w₁ #[] := (stepG_comm ho hw hb (hr2 w₁).1).trans (by rw [listed, (hr2 w₁).2, seen_empty])
  have hfin : ∀ v, Go.Conc.served (G (b.at a (.inRegion ops (i0 :: rest) :: K)) cs) v = G (b.at (a.put o.dst v) (.inRegion ops rest :: K)) cs := fun v => by
    show G ((b.at a (.inRegion ops (i0 :: rest) :: K)).finish v) cs = _
    rw [Frame.finish_at, ho]
    rfl
  obtain ⟨⟨h1, h2, h3, h4, h5⟩, r, h6⟩ := hG
  obtain ⟨rc, hch⟩ := h6.ch
  have hlt : c < w₁.heap.size := (Array.getElem?_eq_some_iff.1 hch).1
  have hkk : upd KK i k = KK := by rw [← hk]; exact upd_self KK i
  have hTx : upd T i (some x) = T := by rw [← hT]; exact upd_self T i
  rcases Nat.lt_or_ge r items.size with hrs | hrs
  · -- an item
    have hpos : 0 < (items.extract r items.size).size := by simp; omega
    have hget : (items.extract r items.size).getD 0 undef = items.getD r undef := by
      rw [Array.getD_eq_getD_getElem?, Array.getD_eq_getD_getElem?, Array.getElem?_extract, if_pos (by omega), Nat.add_zero]
    have hset : ∀ kk : LK, ¬ kk.W (.obj c) ∧ ¬ kk.R (.obj c) → Rely kk w₁ (w₁.setChan c cap (items.extract (r + 1) items.size) true s0 (rc + 1) false) := fun kk hkk => rely_chan hch rfl hkk
    have hnoC := h6.noC i hi
    rw [hk] at hnoC
    have hrel' : Rely k w (w₁.setChan c cap (items.extract (r + 1) items.size) true s0 (rc + 1) false) := hrel.trans (hset k hnoC)
    have hsz : (w₁.setChan c cap (items.extract (r + 1) items.size) true s0 (rc + 1) false).heap.size = w₁.heap.size := by simp [World.setChan]
    have hItc : ∀ j, j < items.size → ¬ (keepK (It j)).W (.obj c) ∧ ¬ (keepK (It j)).R (.obj c) := fun j hj => ⟨id, fun hx => (hIc j _ hj hx).2.1 rfl⟩
    have hsame := (h6.un.same r (Nat.le_refl _) hrs).trans (hset _ (hItc r hrs))
    have hmem : ∀ l, It r l → MemLoc w₁.heap.size l := fun l hl => (hIc r l hrs hl).1.mono h1.size
    have hTn : T i ≠ none := fun e => by rw [hT] at e; cases e
    have hl2 := hlic.claim hi (U := It r) (fun l hl j hj => h6.un.free r (Nat.le_refl _) hrs l hl j hj) hmem (fun l hl => h6.un.perm r (Nat.le_refl _) hrs l hl i hi (.inr ⟨hm0, hTn⟩))
    rw [hk] at hl2
    let fr := (G (b.at a (.inRegion ops (i0 :: rest) :: K)) cs).frame
    let u : Array MemOp := #[{ g := i, fn := fr.fn, pos := fr.place, act := .recv c rc cap }, { g := i, fn := fr.fn, pos := fr.place, act := .recvDone c rc }]
    have hu : ∀ op ∈ u, op.g = i ∧ op.act.low w₁.heap.size ∧ op.act.touch? = none ∧ ∀ m, op.act ≠ .mark m := fun op hop => by
      simp only [u, List.mem_toArray, List.mem_cons, List.not_mem_nil, or_false] at hop
      rcases hop with rfl | rfl <;> exact ⟨rfl, hlt, rfl, fun m e => by cases e⟩
    have hrunT : FamStep P i n (G (b.at a (.inRegion ops (i0 :: rest) :: K)) cs) (G (b.at (a.put o.dst (.tuple #[items.getD r undef, .bool true])) (.inRegion ops rest :: K)) cs) w₁ (w₁.setChan c cap (items.extract (r + 1) items.size) true s0 (rc + 1) false) u := .inr fun gs sl hg hgs hoff => by
      have := crowd_recv_buf (sl := sl) hg hstep hch hpos (partners_quiet hoff)
      rw [ext_one hrs, hget, finishComm_recv, hfin, ofEvents_none, Array.empty_append] at this
      exact this
    have htouch : ∀ op ∈ u, ∀ b, op.act.touch? = some b → False := fun op hop b hb => by rw [(hu op hop).2.2.1] at hb; cases hb
    refine ⟨_, _, u, k.plusW (It r), x ++ [r], hrunT, fun op hop => ⟨(hu op hop).1, (hu op hop).2.2.2 _, (hu op hop).2.2.2 _, (hu op hop).2.2.2 _⟩, ?_, hl2.mute hi (by rw [hsz]; exact Nat.le_refl _) fun op hop => ⟨(hu op hop).1, by rw [hsz]; exact (hu op hop).2.1, (hu op hop).2.2.1⟩, ⟨⟨h1.trans (hset _ ⟨id, fun hx => (hXc _ hx).1 rfl⟩), fun j hj l hx => ?_, h3, h4.app fun op hop a => (hu op hop).2.2.2 _, h5⟩, r + 1, ⟨by omega, ⟨rc + 1, ?_⟩, fun j hj => ?_, ⟨fun j hj hj2 l hx a ha => ?_, fun j hj hj2 l hx a ha hy => ?_, fun j hj hj2 => ?_⟩, fun j hj => ?_, fun a l ha j hj => ?_, fun a q1 q2 q3 => ?_⟩⟩, fun l hl => hA l hl, fun j hj hji => ⟨hset _ (h6.noC j hj), fun hx => ?_⟩, htake r _ hrs (h6.low i x hT) hrel' hsame⟩
    · show (w₁.heap.setIfInBounds c _)[Wg]? = _
      rw [Array.getElem?_setIfInBounds, if_neg hcg]
    · by_cases e : j = i
      · subst e
        rw [upd_same]
        rintro (hw | hw)
        · exact h2 j hj l hx (by rw [hk]; exact hw)
        · exact (hXc l hx).2 r hrs hw
      · rw [upd_ne KK _ e]; exact h2 j hj l hx
    · show (w₁.heap.setIfInBounds c _)[c]? = _
      rw [Array.getElem?_setIfInBounds, if_pos rfl, if_pos hlt]
    · by_cases e : j = i
      · subst e
        rw [upd_same]
        refine ⟨?_, hnoC.2⟩
        rintro (hw | hw)
        · exact hnoC.1 hw
        · exact (hIc r _ hrs hw).2.1 rfl
      · rw [upd_ne KK _ e]; exact h6.noC j hj
    · have hf := h6.un.free j (by omega) hj2 l hx a ha
      by_cases e : a = i
      · subst e
        rw [upd_same]
        rw [hk] at hf
        refine ⟨?_, hf.2⟩
        rintro (hw | hw)
        · exact hf.1 hw
        · exact hdis j r hj2 hrs (by omega) l hx hw
      · rw [upd_ne KK _ e]; exact hf
    · refine (h6.un.perm j (by omega) hj2 l hx a ha (hy.imp id fun q => ⟨q.1, fun e => q.2 ?_⟩)).app fun op hop b hb _ => (htouch op hop b hb).elim
      by_cases e2 : a = i
      · subst e2; exact absurd e hTn
      · rw [upd_ne T _ e2]; exact e
    · exact (h6.un.same j (by omega) hj2).trans (hset _ (hItc j hj2))
    · rcases Nat.lt_or_ge j r with hjr | hjr
      · obtain ⟨a, g1, g2, g3⟩ := h6.did j hjr
        refine ⟨a, g1, g2, ?_⟩
        by_cases e : a = i
        · subst e
          rcases g3 with ⟨l, g4, g5⟩ | ⟨g4, g5⟩
          · have : l = x := Option.some.inj (g4.symm.trans hT)
            subst this
            exact .inl ⟨l ++ [r], upd_same _ _ _, List.mem_append_left _ g5⟩
          · exact absurd g4 hTn
        · rw [upd_ne T _ e, upd_ne KK _ e]
          exact g3.imp id fun ⟨g4, g5⟩ => ⟨g4, hQ' j _ _ _ g5 (hset _ (h6.noC a g2))⟩
      · obtain rfl : j = r := by omega
        exact ⟨i, hm0, hi, .inl ⟨x ++ [j], upd_same _ _ _, by simp⟩⟩
    · by_cases e : a = i
      · subst e
        rw [upd_same] at ha
        cases ha
        rcases List.mem_append.1 hj with h | h
        · have := h6.low a x hT j h; omega
        · simp at h; omega
      · rw [upd_ne T _ e] at ha
        have := h6.low a l ha j hj; omega
    · by_cases e : a = i
      · subst e; rw [upd_same] at q3; cases q3
      · rw [upd_ne T _ e] at q3
        have := h6.out a q1 q2 q3; omega
    · exfalso
      obtain ⟨rc2, hx⟩ := hx
      rw [hch] at hx
      simp only [Option.some.injEq, Obj.chan.injEq] at hx
      have := ext_empty hx.2.1 h6.le
      omega
  · -- no more
    have hre : r = items.size := Nat.le_antisymm h6.le hrs
    have hbuf : items.extract r items.size = #[] := by subst hre; apply Array.eq_empty_of_size_eq_zero; simp
    rw [hbuf] at hch
    let fr := (G (b.at a (.inRegion ops (i0 :: rest) :: K)) cs).frame
    let u : Array MemOp := #[{ g := i, fn := fr.fn, pos := fr.place, act := .recvClosed c }]
    have hu : ∀ op ∈ u, op.g = i ∧ op.act.low w₁.heap.size ∧ op.act.touch? = none ∧ ∀ m, op.act ≠ .mark m := fun op hop => by
      simp only [u, List.mem_toArray, List.mem_cons, List.not_mem_nil, or_false] at hop
      subst hop; exact ⟨rfl, hlt, rfl, fun m e => by cases e⟩
    have hrunT : FamStep P i n (G (b.at a (.inRegion ops (i0 :: rest) :: K)) cs) (G (b.at (a.put o.dst (.tuple #[z, .bool false])) (.inRegion ops rest :: K)) cs) w₁ w₁ u := .inr fun gs sl hg hgs hoff => by
      have := crowd_recv_closed (sl := sl) hg hstep hch (partners_quiet hoff)
      rw [finishComm_recv, hfin, ofEvents_none, Array.empty_append] at this
      exact this
    have htouch : ∀ op ∈ u, ∀ b, op.act.touch? = some b → False := fun op hop b hb => by rw [(hu op hop).2.2.1] at hb; cases hb
    refine ⟨_, _, u, k, x, hrunT, fun op hop => ⟨(hu op hop).1, (hu op hop).2.2.2 _, (hu op hop).2.2.2 _, (hu op hop).2.2.2 _⟩, rfl, ?_, ?_, hA, fun j hj hji => ⟨.refl _ _, fun hx => hx⟩, hnone w₁ hrel ⟨rc, hch⟩⟩
    · rw [hkk]; exact hlic.mute hi (Nat.le_refl _) fun op hop => ⟨(hu op hop).1, (hu op hop).2.1, (hu op hop).2.2.1⟩
    · rw [hkk]
      show (famQ X Rl It items c cap s0 w0 m0 Q).G n (upd T i (some x)) KK w₁ (t ++ u)
      rw [hTx]
      exact ⟨⟨h1, h2, h3, h4.app fun op hop a => (hu op hop).2.2.2 _, h5⟩, r, ⟨h6.le, h6.ch, h6.noC, ⟨h6.un.free, fun j hj hj2 l hx a ha hy => (h6.un.perm j hj hj2 l hx a ha hy).app fun op hop b hb _ => (htouch op hop b hb).elim, h6.un.same⟩, h6.did, h6.low, h6.out⟩⟩
end
section
variable {X Rl : Loc → Prop} {It : Nat → Loc → Prop} {items : Array Value} {c cap s0 : Nat} {w0 : World} {m0 : Nat} {Q : Nat → LK → World → Prop}
/-- The family at a go statement. -/
theorem famQ_go {n : Nat} {T : Nat → Option (List Nat)} {K : Nat → LK} {w : World} {t : Trace} {a b : MemOp} {k k' kc : LK} (h : (famQ X Rl It items c cap s0 w0 m0 Q).G n T K w t) (hl : Lic n K w t) (hn : 0 < n) (hm : m0 ≤ n) (hk : K 0 = k) (hT0 : T 0 = none) (hd : Deaf t 0 = 0)
    (kW : ∀ l, k'.W l → k.W l) (kR : ∀ l, k'.R l → k.W l ∨ k.R l) (kA : ∀ l, k'.A l → k.W l ∨ k.A l) (cW : ∀ l, kc.W l → k.W l) (cR : ∀ l, kc.R l → k.W l ∨ k.R l) (cA : ∀ l, kc.A l → k.W l ∨ k.A l) (ha : a.g = 0 ∧ a.act = .go n) (hb : b.g = n ∧ b.act = .start) :
    (famQ X Rl It items c cap s0 w0 m0 Q).G (n + 1) (upd T n (some [])) (upd (upd K 0 k') n kc) w (t ++ #[a, b]) := by
  obtain ⟨⟨h1, h2, h3, h4, h5⟩, r, h6⟩ := h
  have h0n : (0 : Nat) ≠ n := by omega
  have htouch : ∀ op ∈ #[a, b], ∀ x, op.act.touch? = some x → False := fun op hop x hx => by
    simp at hop
    rcases hop with rfl | rfl
    · rw [ha.2] at hx; cases hx
    · rw [hb.2] at hx; cases hx
  have hfree : ∀ j, r ≤ j → j < items.size → ∀ l, It j l → ¬ k.W l ∧ ¬ k.R l ∧ ¬ k.A l := fun j hj hj2 l hx => hk ▸ h6.un.free j hj hj2 l hx 0 hn
  have hnoC := h6.noC 0 hn
  rw [hk] at hnoC
  have hK : ∀ j, j < n + 1 → (j = n ∧ upd (upd K 0 k') n kc j = kc) ∨ (j = 0 ∧ upd (upd K 0 k') n kc j = k') ∨ (j ≠ 0 ∧ j < n ∧ upd (upd K 0 k') n kc j = K j) := fun j hj => by
    by_cases e : j = n
    · subst e; exact .inl ⟨rfl, upd_same _ _ _⟩
    · by_cases e2 : j = 0
      · subst e2; exact .inr (.inl ⟨rfl, by rw [upd_ne _ _ e, upd_same]⟩)
      · exact .inr (.inr ⟨e2, by omega, by rw [upd_ne _ _ e, upd_ne _ _ e2]⟩)
  show _ ∧ ∃ r, QInv X Rl It items c cap s0 w0 m0 Q (n + 1) (@upd (Option (List Nat)) T n (some [])) (upd (upd K 0 k') n kc) w (t ++ #[a, b]) r
  refine ⟨⟨h1, fun j hj l hx => ?_, h3, h4.app fun op hop x => ?_, h5⟩, r, ⟨h6.le, h6.ch, fun j hj => ?_, ⟨fun j hj hj2 l hx i hi => ?_, fun j hj hj2 l hx i hi hy => ?_, h6.un.same⟩, fun j hj => ?_, fun i l hi j hj => ?_, fun i q1 q2 q3 => ?_⟩⟩
  · rcases hK j hj with ⟨_, e⟩ | ⟨_, e⟩ | ⟨q1, q2, e⟩ <;> rw [e]
    · exact fun hw => h2 0 hn l hx (by rw [hk]; exact cW l hw)
    · exact fun hw => h2 0 hn l hx (by rw [hk]; exact kW l hw)
    · exact h2 j q2 l hx
  · simp at hop
    rcases hop with rfl | rfl
    · rw [ha.2]; simp
    · rw [hb.2]; simp
  · rcases hK j hj with ⟨_, e⟩ | ⟨_, e⟩ | ⟨q1, q2, e⟩ <;> rw [e]
    · exact ⟨fun x => hnoC.1 (cW _ x), fun x => (cR _ x).elim hnoC.1 hnoC.2⟩
    · exact ⟨fun x => hnoC.1 (kW _ x), fun x => (kR _ x).elim hnoC.1 hnoC.2⟩
    · exact h6.noC j q2
  · have hf := hfree j hj hj2 l hx
    rcases hK i hi with ⟨_, e⟩ | ⟨_, e⟩ | ⟨q1, q2, e⟩ <;> rw [e]
    · exact ⟨fun x => hf.1 (cW _ x), fun x => (cR _ x).elim hf.1 hf.2.1, fun x => (cA _ x).elim hf.1 hf.2.2⟩
    · exact ⟨fun x => hf.1 (kW _ x), fun x => (kR _ x).elim hf.1 hf.2.1, fun x => (kA _ x).elim hf.1 hf.2.2⟩
    · exact h6.un.free j hj hj2 l hx i q2
  · by_cases e : i = n
    · subst e
      intro p x hx e
      have hp0 := h6.un.perm j hj hj2 l ‹_› 0 hn (.inl rfl)
      have hold : touchAt t p = some x := by
        obtain ⟨z, hz, hza⟩ := touch_of hx
        rcases getElem?_append_cases hz with ⟨_, hz'⟩ | ⟨_, hzu⟩
        · rw [touchAt_of hz']; exact hza
        · exact (htouch z hzu x hza).elim
      exact fork_knows ha hb hd (hl.above i (Nat.le_refl _)) (hp0 p x hold e)
    · refine (h6.un.perm j hj hj2 l hx i (by omega) (hy.imp id fun q => ⟨q.1, fun e2 => q.2 ?_⟩)).app fun op hop x hxx _ => (htouch op hop x hxx).elim
      rw [upd_ne T _ e]; exact e2
  · obtain ⟨i, g1, g2, g3⟩ := h6.did j hj
    have e : i ≠ n := by omega
    refine ⟨i, g1, by omega, ?_⟩
    rw [upd_ne T _ e, upd_ne _ _ e, upd_ne K _ (by omega)]
    exact g3
  · by_cases e : i = n
    · subst e; rw [upd_same] at hi; cases hi; cases hj
    · rw [upd_ne T _ e] at hi; exact h6.low i l hi j hj
  · by_cases e : i = n
    · subst e; rw [upd_same] at q3; cases q3
    · rw [upd_ne T _ e] at q3; exact h6.out i q1 (by omega) q3
end
section
variable {X Rl : Loc → Prop} {It : Nat → Loc → Prop} {items : Array Value} {c cap s0 : Nat} {w0 : World} {m0 : Nat} {Q : Nat → LK → World → Prop}
/-- At the start. -/
theorem famQ_start {k0 : LK} {t : Trace} (hm : 0 < m0) (hR : RelIn Rl t) (hch : ChanIs c cap items s0 0 w0) (hX : ∀ l, X l → MemLoc w0.heap.size l ∧ ¬ k0.W l) (hc : ¬ k0.W (.obj c) ∧ ¬ k0.R (.obj c)) (hI : ∀ j l, j < items.size → It j l → (¬ k0.W l ∧ ¬ k0.R l ∧ ¬ k0.A l) ∧ Perm t 0 l) :
    (famQ X Rl It items c cap s0 w0 m0 Q).G m0 (fun _ => none) (fun i => if i = 0 then k0 else LK.none) w0 t := by
  refine ⟨⟨.refl _ _, fun i hi l hx => ?_, fun l hx => (hX l hx).1, hR, hm⟩, 0, ⟨Nat.zero_le _, hch, fun i hi => ?_, ⟨fun j _ hj l hx i hi => ?_, fun j _ hj l hx i hi hy => ?_, fun j _ _ => .refl _ _⟩, fun j hj => absurd hj (Nat.not_lt_zero _), fun i l hi => (by cases hi), fun i q1 q2 => by omega⟩⟩
  · by_cases e : i = 0
    · subst e; exact (hX l hx).2
    · simp only [if_neg e]; exact id
  · by_cases e : i = 0
    · subst e; exact hc
    · simp only [if_neg e]; exact ⟨id, id⟩
  · by_cases e : i = 0
    · subst e; exact (hI j l hj hx).1
    · simp only [if_neg e]; exact ⟨id, id, id⟩
  · rcases hy with rfl | ⟨_, hy⟩
    · exact (hI j l hj hx).2
    · exact absurd rfl hy
/-- At the end. -/
theorem famQ_fin {n tot : Nat} {T : Nat → Option (List Nat)} {K : Nat → LK} {w : World} {t : Trace} (h : (famQ X Rl It items c cap s0 w0 m0 Q).G n T K w t) (hT : ∀ i, i < n → T i = none) (hn : n = m0 + tot) (ht : 1 ≤ tot) :
    RelIn Rl t ∧ Rely (keepK X) w0 w ∧ NoMore c cap s0 w ∧ ∀ j, j < items.size → ∃ i, m0 ≤ i ∧ i < m0 + tot ∧ Q j (K i) w := by
  obtain ⟨⟨h1, _, _, h4, _⟩, r, h6⟩ := h
  have hr : r = items.size := h6.out m0 (Nat.le_refl _) (by omega) (hT m0 (by omega))
  refine ⟨h4, h1, ?_, fun j hj => ?_⟩
  · obtain ⟨rc, hc⟩ := h6.ch
    have hb : items.extract r items.size = #[] := by subst hr; apply Array.eq_empty_of_size_eq_zero; simp
    rw [hb] at hc
    exact ⟨rc, hc⟩
  · obtain ⟨i, g1, g2, g3⟩ := h6.did j (by omega)
    refine ⟨i, g1, by omega, ?_⟩
    rcases g3 with ⟨l, g4, _⟩ | ⟨_, g5⟩
    · rw [hT i g2] at g4; cases g4
    · exact g5
end
section
variable {P : Program} {Post : Value → World → Prop} {n0 : Nat} {W0 : World}
/-- ████ FORK AND JOIN, whatever the family ████: goroutine 0 at 'Add' of its first worker or, without one, at 'Wait'. -/
theorem win_forkG {ty : TypeId} {Wg tot : Nat} {fm : Nat → (Loc → Prop) → Fam} {X : Loc → Prop} {Fin : Nat → (Nat → LK) → World → Prop} {k k0 : LK} {g : Goroutine} {Anc : Goroutine → Prop} {w : World} (hfok : ∀ m0 Shun, (fm m0 Shun).Ok Wg)
    (hwg : WgIs ty Wg w 0 0) (htot : tot ≤ 16) (hWk : ∀ l, WgLoc Wg l → k.W l) (hXo : ∀ l, MemLoc n0 l → X l)
    (kW : ∀ l, k0.W l → k.W l ∧ ¬ WgLoc Wg l) (kR : ∀ l, k0.R l → (k.W l ∨ k.R l) ∧ ¬ WgLoc Wg l) (kA : ∀ l, k0.A l ↔ WgLoc Wg l)
    (hG0 : ∀ m0 Shun t, 0 < m0 → RelIn Shun t → (∀ l, k.W l ∨ k.R l → Perm t 0 l) → (fm m0 Shun).G m0 (fun _ => none) (fun i => if i = 0 then k0 else LK.none) w t)
    (hGF : ∀ m0 Shun n T K w' t, (fm m0 Shun).G n T K w' t → (∀ i, i < n → T i = none) → n = m0 + tot → RelIn Shun t ∧ Rely (keepK X) w w' ∧ Fin m0 K w')
    (hWP : ∀ m0 p0 Shun, WP (wgProto P (fm m0 Shun) ty Wg m0 p0 tot Shun (fun g' _ => Anc g')) 0 k0 (.main (.sp tot 3)) g w)
    (hc : ∀ (gend : Goroutine) (w' : World) (k' : LK) (m0 : Nat) (K : Nat → LK), Anc gend → Rely (keepK X) w w' → (∀ l, k.W l → ¬ WgLoc Wg l → k'.W l) → (∀ l, k.R l → ¬ WgLoc Wg l → k'.R l) → (∀ l, NewLoc w.heap.size w'.heap.size l → k'.W l) → Fin m0 K w' → (∀ i j, m0 ≤ i → m0 ≤ j → i < m0 + tot → j < m0 + tot → i ≠ j → ∀ l, (K i).W l → ¬ (K j).W l) → Win P Post n0 W0 k' gend w') :
    Win P Post n0 W0 k g w := by
  intro Shun gs sl t q hO h0 hL hP hRel hS hk
  have hpos : 0 < gs.size := (Array.getElem?_eq_some_iff.1 h0).1
  have hWs : ∀ l, WgLoc Wg l → ¬ Shun l := fun l hl => (hk l (.inl (hWk l hl))).2
  have hnr : NoRelease (stW Wg) t := fun i hi => by
    obtain ⟨op, hop, ha⟩ := Option.map_eq_some_iff.1 (show (t[i]?).map (·.act) = some _ from hi)
    exact hWs _ ⟨0, none, rfl⟩ (hRel op (Array.mem_of_getElem? hop) (stW Wg) ha)
  obtain ⟨o0, hw0⟩ := hWP gs.size t.size Shun
  have hok : (fm gs.size Shun).Ok Wg := hfok _ _
  have hwok := wg_ok (P := P) (ty := ty) (m0 := gs.size) (p0 := t.size) (tot := tot) (Shun := Shun) (Anc := fun g' _ => Anc g') hok
  let S0 : Nat → WSt (fm gs.size Shun).τ := fun i => if i = 0 then .main (.sp tot 3) else .gone
  let K0 : Nat → LK := fun i => if i = 0 then k0 else LK.none
  have hlic : Lic gs.size K0 w t := Lic.start hP hL k0 (fun l hl => hk l (.inl (kW l hl).1)) (fun l hl => hk l (kR l hl).1) (fun l hl => hk l (.inl (hWk l ((kA l).1 hl)))) (fun l hl ha => (hl.elim (fun x => (kW l x).2) (fun x => (kR l x).2)) ((kA l).1 ha))
  have hcast : Cast (pr := wgProto P (fm gs.size Shun) ty Wg gs.size t.size tot Shun (fun g' _ => Anc g')) gs.size gs w t S0 K0 (fun i => if i = 0 then o0 else .leaf) q := by
    refine ⟨rfl, hpos, hlic, ⟨WgInv.start hP hL hpos hwg hnr, ?_, fun i hi hne l hl => ?_, ⟨?_, htot⟩, ?_⟩, ?_, fun i hi => ?_⟩
    · have := hG0 gs.size Shun t hpos hRel fun l hl p a ha e => (hP.known p a ha (by rw [e]; exact isMemory_of (hk l hl).1)).resolve_right (fun x => (hk l hl).2 (e ▸ x.1))
      have hS0 : (fun i => (S0 i).x) = fun _ => none := by
        funext i
        by_cases e : i = 0
        · simp [S0, e, WSt.x]
        · simp [S0, e, WSt.x]
      show (fm gs.size Shun).G gs.size (fun i => (S0 i).x) K0 w t
      rw [hS0]; exact this
    · by_cases e : i = 0
      · subst e; exact (kA l).2 hl
      · exact absurd (if_neg e) hne
    · show gs.size + leftW (WSt.main (MT.sp tot 3)) = _
      rfl
    · intro r s e hs
      have e' : (WSt.main (MT.sp tot 3) : WSt (fm gs.size Shun).τ) = .main (.sp r s) := e
      cases e'; omega
    · show ¬ (_ = _)
      simp [S0]
    · by_cases e : i = 0
      · subst e
        exact ⟨g, h0, .inl ⟨by show ¬ (_ = _); simp [S0], g, w, .inl rfl, .refl _ _, ⟨hok.refl _ _, fun _ st sm h => ⟨st, sm, h, Int.le_refl _⟩⟩, hw0⟩⟩
      · refine ⟨gs[i], Array.getElem?_eq_getElem hi, .inr ⟨if_neg e, e, hL.old i _ (by omega) (Array.getElem?_eq_getElem hi)⟩⟩
  obtain ⟨N, gs', w', sl', t', n', S', K', O', q', g', hrun, hc', hg', hgr, hend⟩ := cast_runs hwok _ _ _ _ _ gs w t S0 K0 q sl rfl rfl rfl hcast
  obtain ⟨hret, hanc⟩ := hend
  replace hanc : Anc g' := hanc
  obtain ⟨f1, f2, f3, f4, f5⟩ := hc'.f
  obtain ⟨hpast, hgone⟩ := f1.past hret hc'.lic
  have hnt : n' = gs.size + tot := by
    have := f4.1
    rw [hret] at this
    exact this
  have hnone : ∀ i, i < n' → (S' i).x = none := fun i hi => by
    by_cases e : i = 0
    · subst e; rw [hret]; rfl
    · rw [hgone i hi e]; rfl
  obtain ⟨e4, e1, hfin⟩ := hGF gs.size Shun n' (fun i => (S' i).x) K' w' t' f2 hnone hnt
  refine .steps hrun ?_
  have hsz : w.heap.size ≤ w'.heap.size := e1.size
  have hWm : ∀ l, WgLoc Wg l → MemLoc w.heap.size l := fun l hl => (hk l (.inl (hWk l hl))).1
  refine hc g' w' ⟨fun l => (MemLoc w'.heap.size l ∧ ¬ (Shun l ∨ WgLoc Wg l)) ∧ ¬ MemLoc n0 l, fun l => MemLoc w'.heap.size l ∧ ¬ (Shun l ∨ WgLoc Wg l), fun _ => False⟩ gs.size K' hanc e1 (fun l hl hn => ⟨⟨(hk l (.inl hl)).1.mono hsz, fun x => x.elim (hk l (.inl hl)).2 hn⟩, hO.lic l hl⟩)
    (fun l hl hn => ⟨(hk l (.inr hl)).1.mono hsz, fun x => x.elim (hk l (.inr hl)).2 hn⟩) (fun l hl => ⟨⟨hl.mem.1, fun x => hl.mem.2 (x.elim (hS l) (hWm l))⟩, fun hm => hl.mem.2 (hm.mono hO.size)⟩) hfin (fun i j _ _ hi hj hij => hc'.lic.ww i j (by omega) (by omega) hij)
    (fun l => Shun l ∨ WgLoc Wg l) gs' sl' t' q' ⟨Nat.le_trans hO.size hsz, fun b hb => ?_, e1.os.trans hO.os, e1.output.trans hO.output, fun l hl => hl.2, e1.tape.trans hO.tape⟩ hg' ⟨fun i y hi hy => ?_, fun j hj => ?_⟩ hpast (fun op hop a ha => .inl (e4 op hop a ha))
    (fun l hl => hl.elim (fun x => (hS l x).mono hsz) (fun x => (hWm l x).mono hsz)) (fun l hl => hl.elim (fun x => x.1) id)
  · rw [← hO.heap b hb]
    have hb' : b < w.heap.size := Nat.lt_of_lt_of_le hb hO.size
    have hs : w.heap[b]? = some w.heap[b] := Array.getElem?_eq_getElem hb'
    rw [hs]
    by_cases hn : NotCells w.heap[b]
    · exact e1.obj b _ hs hn (.inr (hXo _ hb))
    · have : ∃ c e f, w.heap[b] = .cells c e f := Classical.byContradiction fun hx => hn fun c e f he => hx ⟨c, e, f, he⟩
      obtain ⟨c, e, f, he⟩ := this
      rw [he] at hs ⊢
      exact e1.row hs fun o => .inr (hXo _ hb)
  · have hin : i < n' := by rw [← hc'.size]; exact (Array.getElem?_eq_some_iff.1 hy).1
    obtain ⟨y', hy', hcase⟩ := hc'.th i hin
    rw [hy] at hy'; cases hy'
    rcases hcase with ⟨hng, _⟩ | ⟨_, _, hq⟩
    · exact absurd (hgone i hin (by omega)) hng
    · exact hq
  · exact hc'.lic.above j (by rw [← hc'.size]; exact hj)
end
end Go.Proofs.Yticdjkkcfdbdcaa
