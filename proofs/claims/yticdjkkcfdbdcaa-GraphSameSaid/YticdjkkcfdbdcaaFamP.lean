/- Steps of a worker's that its family's protocol lets, where workers may be parked at a receive: a step of its own, a send, a receive. No program; no conditions but those named. -/
import Derived.Test.YticdjkkcfdbdcaaChan
namespace Go.Proofs.Yticdjkkcfdbdcaa
open Go.Conc Go.ConcN
section
variable {P : Program} {fm : Fam} {ty : TypeId} {Wg m0 p0 tot : Nat} {Shun : Loc → Prop} {Anc : Goroutine → World → Prop}
/-- What a step on what is shared keeps of the whole. -/
theorem fam_kept {i : Nat} {k : LK} {x : fm.τ} {w w₁ : World} {n : Nat} {S : Nat → WSt fm.τ} {K : Nat → LK} {t : Trace} (hs : Sit (wgProto P fm ty Wg m0 p0 tot Shun Anc) i k (.work x) w w₁ n S K t) (hi0 : i ≠ 0) {w' : World} {u : Array MemOp} {k' : LK} {x' : fm.τ}
    (hu : ∀ op ∈ u, op.g = i ∧ op.act ≠ .mark (.release (stW Wg)) ∧ op.act ≠ .mark .disable ∧ op.act ≠ .mark .enable) (hwg : w'.heap[Wg]? = w₁.heap[Wg]?)
    (hlic' : Lic n (upd K i k') w' (t ++ u)) (hG' : fm.G n (upd (fun j => (S j).x) i (some x')) (upd K i k') w' (t ++ u)) (hA' : ∀ l, WgLoc Wg l → k'.A l)
    (hoth : ∀ j, j < n → j ≠ i → Rely (K j) w₁ w' ∧ fm.GR j w₁ w') (wake : Prop) : Kept (wgProto P fm ty Wg m0 p0 tot Shun Anc) i wake w₁ n S K w' (t ++ u) k' (.work x') := by
  obtain ⟨hi, hk, hss, hrel, hfr, hlic, hf1, hf2, hf3, hf4⟩ := hs
  replace hss : S i = .work x := hss
  have hm0 : m0 ≤ i := by
    rcases Nat.lt_or_ge i m0 with h1 | h1
    · have := hf1.olds i h1 hi0
      rw [hss] at this; cases this
    · exact h1
  obtain ⟨tg, st, sm, e0, hw, hmode, hacq⟩ := hf1.mode
  have hcv : (S i).cv = 1 := by rw [hss]; rfl
  have hmode' : Mode n (upd S i (.work x')) tg st sm := hmode.swap hi hi0 hcv rfl trivial
  have hinv : WgInv ty Wg m0 p0 Shun n (upd S i (.work x')) w' (t ++ u) := by
    refine hf1.step hi (.inr hm0) (fun op hop => (hu op hop).1) (fun op hop => (hu op hop).2.1) (by rw [upd_ne S _ (fun e => hi0 e.symm)]; exact e0) (show WgIs ty Wg w' st sm from hwg.trans hw) hmode' (fun e => ?_) (fun _ hx => hx) (fun d hd => ?_) (fun _ hx => hx.elim)
    · subst e
      have := (hmode.atFin trivial).1 i hi hi0
      rw [hss] at this; cases this
    · cases hd
      rw [Deaf_mild _ _ _ fun op hop => (hu op hop).2.2]
      exact hf1.deaf i hi 0 (by rw [hss]; rfl)
  have hx : (fun j => (upd S i (.work x') j).x) = upd (fun j => (S j).x) i (some x') := by
    funext j
    by_cases e : j = i
    · subst e; rw [upd_same, upd_same]; rfl
    · rw [upd_ne S _ e, upd_ne _ _ e]
  have h00 : upd S i (.work x') 0 = S 0 := upd_ne S _ (fun e => hi0 e.symm)
  refine ⟨hlic', ⟨hinv, by show fm.G n (fun j => (upd S i (.work x') j).x) _ _ _; rw [hx]; exact hG', fun j hj hj2 l hl => ?_, ?_, ?_⟩, fun j hj hji => (hoth j hj hji).1, fun j hj hji => ⟨(hoth j hj hji).2, fun e st2 sm2 h2 => ⟨st2, sm2, hwg.trans h2, Int.le_refl _⟩⟩, fun j hj hji hb => .inl ?_, ?_⟩
  · by_cases e : j = i
    · subst e; rw [upd_same]; exact hA' l hl
    · rw [upd_ne K _ e]
      exact hf3 j hj (fun x => hj2 ((upd_ne S _ e).trans x)) l hl
  · show n + leftW (upd S i (.work x') 0) = m0 + tot ∧ _
    rw [h00]; exact hf4.1
  · show SpOk (upd S i (.work x') 0)
    rw [h00]; exact hf4.2
  · obtain ⟨hb1, hb2, st2, hb3⟩ := hb
    exact ⟨hb1, h00.trans hb2, st2, hwg.trans hb3⟩
  · show leftW (upd S i (.work x') 0) ≤ leftW (S 0)
    rw [h00]; exact Nat.le_refl _
/-- What a step gives on: memory, trace, what is whose. -/
structure FamTo (fm : Fam) (Wg i n : Nat) (T : Nat → Option fm.τ) (K : Nat → LK) (w₁ w' : World) (t u : Trace) (k' : LK) (x' : fm.τ) : Prop where
  ops : ∀ op ∈ u, op.g = i ∧ op.act ≠ .mark (.release (stW Wg)) ∧ op.act ≠ .mark .disable ∧ op.act ≠ .mark .enable
  wg : w'.heap[Wg]? = w₁.heap[Wg]?
  lic : Lic n (upd K i k') w' (t ++ u)
  g : fm.G n (upd T i (some x')) (upd K i k') w' (t ++ u)
  a : ∀ l, WgLoc Wg l → k'.A l
  oth : ∀ j, j < n → j ≠ i → Rely (K j) w₁ w' ∧ fm.GR j w₁ w'
/-- Others' channels stand. -/
def ChOth (fm : Fam) (i n : Nat) (T : Nat → Option fm.τ) (wake : Prop) (w₁ w' : World) (exc : Nat → Prop) : Prop :=
  ∀ j x c, j < n → j ≠ i → T j = some x → fm.idle x c → ¬ exc c → ChanMt w₁ c → ChanMt w' c ∨ (wake ∧ ChanCl w' c)
/-- What a worker at a step of its own, a send, a receive may do. -/
inductive FamDoes (P : Program) (fm : Fam) (Wg i n : Nat) (T : Nat → Option fm.τ) (K : Nat → LK) (w₁ : World) (t : Trace) (x : fm.τ) (g : Goroutine) (C : LK → fm.τ → Goroutine → World → Prop) : Prop
  | go (g' : Goroutine) (w' : World) (es : Array Event) (k' : LK) (x' : fm.τ) (h : stepG P (i == 0) g w₁ = .go g' w' es) (to : FamTo fm Wg i n T K w₁ w' t (MemOp.ofEvents i g.frame.fn g.frame.place es) k' x') (ch : ChOth fm i n T (mayWake P g = true) w₁ w' fun _ => False) (c : C k' x' g' w')
  | send (r : Nat) (v z : Value) (cap : Nat) (buf : Array Value) (sn rc : Nat) (tm : Bool) (k' : LK) (x' : fm.τ) (h : SendAt P i g r v z) (hc : w₁.heap[r]? = some (.chan cap buf false sn rc tm)) (room : buf.size < cap)
      (to : FamTo fm Wg i n T K w₁ (w₁.setChan r cap (buf.push v) false (sn + 1) rc tm) t #[{ g := i, fn := g.frame.fn, pos := g.frame.place, act := .send r sn }, { g := i, fn := g.frame.fn, pos := g.frame.place, act := .sendDone r sn }] k' x')
      (ch : ChOth fm i n T False w₁ (w₁.setChan r cap (buf.push v) false (sn + 1) rc tm) fun c => c = r) (c : C k' x' (Go.Conc.served g undef) (w₁.setChan r cap (buf.push v) false (sn + 1) rc tm))
  | recv (r : Nat) (z : Value) (f : Bool) (g' : Goroutine) (w' : World) (ops : Array MemOp) (k' : LK) (x' : fm.τ) (h : RecvAt P g r z f) (hto : RecvTo i g r z f w₁ g' w' ops) (to : FamTo fm Wg i n T K w₁ w' t ops k' x') (ch : ChOth fm i n T False w₁ w' fun _ => False) (c : C k' x' g' w')
  | park (r : Nat) (z : Value) (f : Bool) (h : RecvAt P g r z f) (hid : fm.idle x r) (hm : ChanMt w₁ r)
/-- ████ THE RULE. ████ -/
theorem wp_famP (ok : fm.Ok Wg) {i : Nat} {k : LK} {x : fm.τ} {g : Goroutine} {w : World} (hi0 : i ≠ 0) (hr : g.status = .running) (ho : g.offers = none)
    (h : ∀ (w₁ : World) (n : Nat) (T : Nat → Option fm.τ) (K : Nat → LK) (t : Trace), m0 ≤ i → i < n → T i = some x → K i = k → Rely k w w₁ → fm.GR i w w₁ → Lic n K w₁ t → fm.G n T K w₁ t → (∀ l, WgLoc Wg l → k.A l) → Deaf t i = 0 →
      FamDoes P fm Wg i n T K w₁ t x g fun k' x' g' w' => WP (wgProto P fm ty Wg m0 p0 tot Shun Anc) i k' (.work x') g' w') :
    WP (wgProto P fm ty Wg m0 p0 tot Shun Anc) i k (.work x) g w := by
  refine WP.step hr ho fun w₁ n (S : Nat → WSt fm.τ) K t hs => ?_
  have hs' := hs
  obtain ⟨hi, hk, hss, hrel, hfr, hlic, hf1, hf2, hf3, hf4⟩ := hs
  replace hss : S i = .work x := hss
  have hm0 : m0 ≤ i := by
    rcases Nat.lt_or_ge i m0 with h1 | h1
    · have := hf1.olds i h1 hi0
      rw [hss] at this; cases this
    · exact h1
  have hA : ∀ l, WgLoc Wg l → k.A l := fun l hl => by
    rw [← hk]; exact hf3 i hi (by rw [hss]; exact fun e => by cases e) l hl
  have chk : ∀ {wake : Prop} {w' : World} {exc : Nat → Prop}, ChOth fm i n (fun j => (S j).x) wake w₁ w' exc → ChKept (wgProto P fm ty Wg m0 p0 tot Shun Anc) i wake w₁ n S w' exc := fun hc j c hj hji ⟨y, hy, hid⟩ hex hm =>
    hc j y c hj hji (by show (S j).x = some y; rw [show S j = .work y from hy]; rfl) hid hex hm
  cases h w₁ n (fun j => (S j).x) K t hm0 hi (by show (S i).x = _; rw [hss]; rfl) hk hrel hfr.1 hlic hf2 hA (hf1.deaf i hi 0 (by rw [hss]; rfl)) with
  | go g' w' es k' x' h1 to ch hc => exact .go g' w' es k' (.work x') h1 hc.running.1 hc.running.2 (fam_kept hs' hi0 to.ops to.wg to.lic to.g to.a to.oth _) (chk ch) (fun e => by cases e) hc
  | send r v z cap buf sn rc tm k' x' h1 hcc room to ch hc => exact .send r v z cap buf sn rc tm k' (.work x') h1 hcc room (fam_kept hs' hi0 to.ops to.wg to.lic to.g to.a to.oth _) (chk ch) (fun e => by cases e) hc
  | recv r z f g' w' ops k' x' h1 hto to ch hc => exact .recv r z f g' w' ops k' (.work x') h1 hi0 hto (fam_kept hs' hi0 to.ops to.wg to.lic to.g to.a to.oth _) (chk ch) (fun e => by cases e) hc
  | park r z f h1 hid hm => exact .park r z f h1 hi0 ⟨x, hss, hid⟩ hm
end
end Go.Proofs.Yticdjkkcfdbdcaa
