/- A sync.WaitGroup under which goroutine 0 starts workers and waits for them: the protocol. No program; no conditions but those named. -/
import Derived.Test.YticdjkkcfdbdcaaAtom
namespace Go.Proofs.Yticdjkkcfdbdcaa
open Go.Conc Go.ConcN

/-- What goroutine 0 is about: 'sp r s': r are still to be started (s: 3 ahead of Add, 2 deaf, 1 the count is raised, 0 hearing again); then Wait. -/
inductive MT where
  | sp (r s : Nat)
  | anch | w2 (v : Nat) | w3a | w3 | w4 | ke | acq | ret
def MT.isOpen : MT → Prop | .sp _ _ | .anch | .w2 _ => True | _ => False
def MT.isW3 : MT → Prop | .w3a | .w3 => True | _ => False
def MT.isFin : MT → Prop | .w4 | .ke | .acq | .ret => True | _ => False
def MT.pend : MT → Nat | .sp _ s => if s ≤ 1 then 1 else 0 | _ => 0
def MT.deaf : MT → Nat | .sp _ s => if s = 3 ∨ s = 0 then 0 else 1 | .acq | .ret => 0 | _ => 1
/-- A goroutine's state: at work (x: the family's own), behind its release (6 hearing, 5 deaf and ahead of its add, 4, 3, 2 the last one's way to the semaphore), gone. -/
inductive WSt (τ : Type) where
  | main (m : MT)
  | work (x : τ)
  | st (k : Nat)
  | gone
section
variable {τ : Type}
def WSt.cv : WSt τ → Nat | .work _ => 1 | .st k => if 5 ≤ k then 1 else 0 | _ => 0
def WSt.isOpen : WSt τ → Prop | .st k => k = 6 ∨ k = 5 | _ => True
def WSt.deaf : WSt τ → Option Nat | .main m => some m.deaf | .work _ => some 0 | .st k => some (if k = 6 then 0 else 1) | .gone => none
def WSt.rel : WSt τ → Prop | .st _ | .gone => True | _ => False
def WSt.isMain : WSt τ → Prop | .main _ => True | _ => False
def WSt.x : WSt τ → Option τ | .work x => some x | _ => none
end
abbrev KKn : Int := 4294967296
def stW (Wg : Nat) : Addr := ⟨Wg, 0, none⟩
def smW (Wg : Nat) : Addr := ⟨Wg, 1, none⟩
def WgIs (ty : TypeId) (Wg : Nat) (w : World) (st sm : Int) : Prop := w.heap[Wg]? = some (.cells #[.int .u64 st, .int .u32 sm] ty)
def WgLoc (Wg : Nat) (l : Loc) : Prop := ∃ o s, l = .cell ⟨Wg, o, s⟩

section
variable {τ : Type} (ty : TypeId) (Wg m0 p0 : Nat) (Shun : Loc → Prop)
def Vn (n : Nat) (S : Nat → WSt τ) : Nat := sumTo n fun i => (S i).cv
def AllGone (n : Nat) (S : Nat → WSt τ) : Prop := ∀ i, i < n → i ≠ 0 → S i = .gone
inductive Mode (n : Nat) (S : Nat → WSt τ) : MT → Int → Int → Prop
  | opn {tg : MT} (h : tg.isOpen) (ho : ∀ i, i < n → (S i).isOpen) (hv : ∀ v, tg = .w2 v → Vn n S ≤ v ∧ 1 ≤ v) : Mode n S tg (((Vn n S + tg.pend : Nat) : Int) * KKn) 0
  | reg {tg : MT} (h : tg.isW3) (ho : ∀ i, i < n → (S i).isOpen) (hv : 1 ≤ Vn n S) : Mode n S tg (((Vn n S : Nat) : Int) * KKn + 1) 0
  | last {tg : MT} (L k : Nat) (h : tg.isW3) (hL : L < n) (hL0 : L ≠ 0) (hS : S L = .st k) (hk : k = 4 ∨ k = 3 ∨ k = 2) (hg : ∀ i, i < n → i ≠ 0 → i ≠ L → S i = .gone) : Mode n S tg (if k = 2 then 0 else 1) 0
  | sema (hg : AllGone n S) (tg : MT) (h : tg.isW3) : Mode n S tg 0 1
  | fin {tg : MT} (h : tg.isFin) (hg : AllGone n S) : Mode n S tg 0 0
/-- Goroutine i has released at r; what it did since is atomic, on the group's cells. -/
structure Rel' (t : Trace) (i r : Nat) : Prop where
  rel : RelBy (stW Wg) t i r
  late : ∀ p, r < p → t.g? p = some i → ∀ a, touchAt t p = some a → WgLoc Wg a.loc ∧ a.kind = .atomic
def Acqd (n : Nat) (t : Trace) : Prop :=
  ∃ q, t.act? q = some (.mark (.acquire (stW Wg))) ∧ t.g? q = some 0 ∧ t.heard q ∧ ∀ i, m0 ≤ i → i < n → ∃ r, Rel' Wg t i r ∧ r < q
structure WgInv (n : Nat) (S : Nat → WSt τ) (w : World) (t : Trace) : Prop where
  pos : 0 < m0 ∧ m0 ≤ n ∧ p0 ≤ t.size
  mode : ∃ tg st sm, S 0 = .main tg ∧ WgIs ty Wg w st sm ∧ Mode n S tg st sm ∧ (tg = .ret → Acqd Wg m0 n t)
  notMain : ∀ i, i < n → i ≠ 0 → ¬ (S i).isMain
  olds : ∀ i, i < m0 → i ≠ 0 → S i = .gone
  deaf : ∀ i, i < n → ∀ d, (S i).deaf = some d → Deaf t i = d
  rel : ∀ i, m0 ≤ i → i < n → (S i).rel → ∃ r, Rel' Wg t i r
  norel : NoRelease (stW Wg) t
  old : ∀ p, p < p0 → ∀ a, touchAt t p = some a → a.loc.isMemory = true → Knows t 0 p ∨ (Shun a.loc ∧ a.kind = .atomic)
  over : ∀ p g, p < p0 → t.g? p = some g → g ≠ 0 → t.counts p → ∃ j, t.g? j = some 0 ∧ HappensBefore t p j
  new : ∀ p op, p0 ≤ p → t[p]? = some op → op.g = 0 ∨ (m0 ≤ op.g ∧ op.g < n) ∨ op.act.touch? = none
end
theorem touchAt_app {t u : Trace} {p : Nat} (h : p < t.size) : touchAt (t ++ u) p = touchAt t p := touchAt_old h
section
variable {τ : Type} {ty : TypeId} {Wg m0 p0 : Nat} {Shun : Loc → Prop} {n : Nat} {S : Nat → WSt τ} {w w' : World} {t u : Trace} {i : Nat}
/-- Another's operations. -/
theorem Rel'.other {r : Nat} (h : Rel' Wg t i r) {j : Nat} (hj : j ≠ i) (hu : ∀ op ∈ u, op.g = j) : Rel' Wg (t ++ u) i r := by
  have key : ∀ p op, t.size ≤ p → (t ++ u)[p]? = some op → op.g = j := fun p op hp ho => by
    rcases getElem?_append_cases ho with ⟨hl, _⟩ | ⟨_, hm⟩
    · omega
    · exact hu op hm
  refine ⟨h.rel.app fun p hp hg => ?_, fun p hp hg a ha => ?_⟩
  · unfold Trace.g? at hg
    obtain ⟨op, ho, hog⟩ := Option.map_eq_some_iff.1 hg
    exact absurd (hog.symm.trans (key p op hp ho)) (fun e => hj e.symm)
  · rcases Nat.lt_or_ge p t.size with hl | hl
    · exact h.late p hp (by rw [← g?_old (u := u) hl]; exact hg) a (by rw [← touchAt_app (u := u) hl]; exact ha)
    · unfold Trace.g? at hg
      obtain ⟨op, ho, hog⟩ := Option.map_eq_some_iff.1 hg
      exact absurd (hog.symm.trans (key p op hl ho)) (fun e => hj e.symm)
/-- Operations of its own: atomic on the group's cells and deaf, or touching nothing. -/
theorem Rel'.own {r : Nat} (h : Rel' Wg t i r) (hu : ∀ p op, t.size ≤ p → (t ++ u)[p]? = some op → op.g = i → ∀ a, op.act.touch? = some a → WgLoc Wg a.loc ∧ a.kind = .atomic ∧ ¬ (t ++ u).heard p) : Rel' Wg (t ++ u) i r := by
  refine ⟨h.rel.app fun p hp hg hc => ?_, fun p hp hg a ha => ?_⟩
  · unfold Trace.g? at hg
    obtain ⟨op, ho, hog⟩ := Option.map_eq_some_iff.1 hg
    obtain ⟨x, hx, _, hk⟩ := hc
    have hx' : op.act.touch? = some x := by simpa [Trace.act?, ho] using hx
    obtain ⟨_, h2, h3⟩ := hu p op hp ho hog x hx'
    rcases hk with hk | hk
    · exact hk h2
    · exact h3 hk
  · rcases Nat.lt_or_ge p t.size with hl | hl
    · exact h.late p hp (by rw [← g?_old (u := u) hl]; exact hg) a (by rw [← touchAt_app (u := u) hl]; exact ha)
    · unfold Trace.g? at hg
      obtain ⟨op, ho, hog⟩ := Option.map_eq_some_iff.1 hg
      have hx' : op.act.touch? = some a := by simpa [touchAt, Trace.act?, ho] using ha
      exact ⟨(hu p op hl ho hog a hx').1, (hu p op hl ho hog a hx').2.1⟩
theorem Acqd.app (h : Acqd Wg m0 n t) (hu : ∀ j r, m0 ≤ j → j < n → Rel' Wg t j r → Rel' Wg (t ++ u) j r) : Acqd Wg m0 n (t ++ u) := by
  obtain ⟨q, h1, h2, h3, h4⟩ := h
  have hq := lt_of_act? h1
  exact ⟨q, by rw [act?_old hq]; exact h1, by rw [g?_old hq]; exact h2, (heard_old hq).2 h3, fun j hj hjn => let ⟨r, hr, hrq⟩ := h4 j hj hjn; ⟨r, hu j r hj hjn hr, hrq⟩⟩
theorem counts_app {p : Nat} (h : p < t.size) : (t ++ u).counts p ↔ t.counts p := counts_old h
theorem g?_lt {p g : Nat} (h : t.g? p = some g) : p < t.size := by
  unfold Trace.g? at h
  obtain ⟨z, hz, _⟩ := Option.map_eq_some_iff.1 h
  exact lt_size_of_getElem? hz
/-- WHATEVER STEP OF i's. -/
theorem WgInv.step (h : WgInv ty Wg m0 p0 Shun n S w t) (hi : i < n) (hi0 : i = 0 ∨ m0 ≤ i) (hu : ∀ op ∈ u, op.g = i) (hnr : ∀ op ∈ u, op.act ≠ .mark (.release (stW Wg))) {s' : WSt τ} {tg : MT} {st sm : Int}
    (h0 : upd S i s' 0 = .main tg) (hw : WgIs ty Wg w' st sm) (hm : Mode n (upd S i s') tg st sm) (hacq : tg = .ret → Acqd Wg m0 n (t ++ u)) (hmn : i ≠ 0 → ¬ s'.isMain) (hd : ∀ d, s'.deaf = some d → Deaf (t ++ u) i = d)
    (hrel : i ≠ 0 → s'.rel → ∃ r, Rel' Wg (t ++ u) i r) : WgInv ty Wg m0 p0 Shun n (upd S i s') w' (t ++ u) := by
  refine ⟨⟨h.pos.1, h.pos.2.1, by simp; have := h.pos.2.2; omega⟩, ⟨tg, st, sm, h0, hw, hm, hacq⟩, fun j hj hj0 => ?_, fun j hj hj0 => ?_, fun j hj d hdj => ?_, fun j hj hjn hr => ?_, h.norel.app hnr, fun p hp a ha hmem => ?_, fun p g hp hg hg0 hc => ?_, fun p op hp ho => ?_⟩
  · by_cases e : j = i
    · subst e; rw [upd_same]; exact hmn hj0
    · rw [upd_ne S _ e]; exact h.notMain j hj hj0
  · have e : j ≠ i := by omega
    rw [upd_ne S _ e]; exact h.olds j hj hj0
  · by_cases e : j = i
    · subst e; rw [upd_same] at hdj; exact hd d hdj
    · rw [upd_ne S _ e] at hdj
      rw [Deaf_other t (fun x => e x.symm) u hu]; exact h.deaf j hj d hdj
  · by_cases e : j = i
    · subst e; rw [upd_same] at hr; exact hrel (by have := h.pos.1; omega) hr
    · rw [upd_ne S _ e] at hr
      obtain ⟨r, hr'⟩ := h.rel j hj hjn hr
      exact ⟨r, hr'.other (fun x => e x.symm) hu⟩
  · have hl : p < t.size := by have := h.pos.2.2; omega
    rw [touchAt_app hl] at ha
    exact (h.old p hp a ha hmem).imp (·.app u) id
  · have hl : p < t.size := by have := h.pos.2.2; omega
    rw [g?_old hl] at hg
    obtain ⟨j, hj, hb⟩ := h.over p g hp hg hg0 ((counts_app hl).1 hc)
    exact ⟨j, by rw [g?_old (g?_lt hj)]; exact hj, hb_app u hb⟩
  · rcases getElem?_append_cases ho with ⟨hl, ho'⟩ | ⟨_, hm⟩
    · exact h.new p op hp ho'
    · rw [hu op hm]
      rcases hi0 with e | e
      · exact .inl e
      · exact .inr (.inl ⟨e, hi⟩)
theorem upd_self {α : Type} (f : Nat → α) (i : Nat) : upd f i (f i) = f := by
  funext j
  by_cases e : j = i
  · subst e; rw [upd_same]
  · rw [upd_ne f _ e]
/-- Nothing is listed, the group stands. -/
theorem WgInv.still (h : WgInv ty Wg m0 p0 Shun n S w t) (hw : w'.heap[Wg]? = w.heap[Wg]?) : WgInv ty Wg m0 p0 Shun n S w' t := by
  obtain ⟨tg, st, sm, h1, h2, h3⟩ := h.mode
  exact ⟨h.pos, ⟨tg, st, sm, h1, hw.trans h2, h3⟩, h.notMain, h.olds, h.deaf, h.rel, h.norel, h.old, h.over, h.new⟩
/-- Operations of one who is at work, or of goroutine 0, that leave the group and say no word of the library's. -/
theorem WgInv.plain (h : WgInv ty Wg m0 p0 Shun n S w t) (hi : i < n) (hr : ¬ (S i).rel) (hu : ∀ op ∈ u, op.g = i ∧ op.act ≠ .mark (.release (stW Wg))) (hd : Deaf (t ++ u) i = Deaf t i) (hw : w'.heap[Wg]? = w.heap[Wg]?) : WgInv ty Wg m0 p0 Shun n S w' (t ++ u) := by
  obtain ⟨tg, st, sm, h1, h2, h3, h4⟩ := h.mode
  have hi0 : i = 0 ∨ m0 ≤ i := by
    by_cases e : i = 0
    · exact .inl e
    · right
      rcases Nat.lt_or_ge i m0 with hl | hl
      · exact absurd (by rw [h.olds i hl e]; trivial) hr
      · exact hl
  have := h.step (w' := w') (s' := S i) hi hi0 (fun op hop => (hu op hop).1) (fun op hop => (hu op hop).2) (tg := tg) (st := st) (sm := sm) (by rw [upd_self]; exact h1) (hw.trans h2) (by rw [upd_self]; exact h3)
    (fun e => (h4 e).app fun j r hj hjn hr' => by
      by_cases ej : j = i
      · subst ej
        subst e
        -- at 'ret' all are gone
        cases h3 with
        | fin hf hg => exact absurd (by rw [hg j hjn (by have := h.pos.1; omega)]; trivial) hr
        | opn hf _ _ => exact hf.elim
        | reg hf _ _ => exact hf.elim
        | last _ _ hf _ _ _ _ _ => exact hf.elim
        | sema _ _ hf => exact hf.elim
      · exact hr'.other (fun x => ej x.symm) (fun op hop => (hu op hop).1)) (fun hne => h.notMain i hi hne) (fun d hd' => by rw [hd]; exact h.deaf i hi d hd') (fun _ hr' => absurd hr' hr)
  rw [upd_self] at this
  exact this
/-- One that is gone slips. -/
theorem WgInv.mute (h : WgInv ty Wg m0 p0 Shun n S w t) (hi : i < n) (hi0 : i ≠ 0) (hg : S i = .gone) (hu : ∀ op ∈ u, op.g = i ∧ op.act.touch? = none ∧ op.act ≠ .mark (.release (stW Wg))) : WgInv ty Wg m0 p0 Shun n S w (t ++ u) := by
  have hown : ∀ r, Rel' Wg t i r → Rel' Wg (t ++ u) i r := fun r hr => hr.own fun p op hp ho _ a ha => by
    rcases getElem?_append_cases ho with ⟨hl, _⟩ | ⟨_, hm⟩
    · omega
    · rw [(hu op hm).2.1] at ha; cases ha
  have hany : ∀ j r, Rel' Wg t j r → Rel' Wg (t ++ u) j r := fun j r hr => by
    by_cases e : j = i
    · subst e; exact hown r hr
    · exact hr.other (fun x => e x.symm) (fun op hop => (hu op hop).1)
  obtain ⟨tg, st, sm, h1, h2, h3, h4⟩ := h.mode
  refine ⟨⟨h.pos.1, h.pos.2.1, by simp; have := h.pos.2.2; omega⟩, ⟨tg, st, sm, h1, h2, h3, fun e => (h4 e).app fun j r _ _ hr => hany j r hr⟩, h.notMain, h.olds, fun j hj d hd => ?_, fun j hj hjn hr => ?_, h.norel.app (fun op hop => (hu op hop).2.2), fun p hp a ha hmem => ?_, fun p g hp hg hg0 hc => ?_, fun p op hp ho => ?_⟩
  · by_cases e : j = i
    · subst e; rw [hg] at hd; cases hd
    · rw [Deaf_other t (fun x => e x.symm) u (fun op hop => (hu op hop).1)]; exact h.deaf j hj d hd
  · obtain ⟨r, hr'⟩ := h.rel j hj hjn hr
    exact ⟨r, hany j r hr'⟩
  · have hl : p < t.size := by have := h.pos.2.2; omega
    rw [touchAt_app hl] at ha
    exact (h.old p hp a ha hmem).imp (·.app u) id
  · have hl : p < t.size := by have := h.pos.2.2; omega
    rw [g?_old hl] at hg
    obtain ⟨j, hj, hb⟩ := h.over p g hp hg hg0 ((counts_app hl).1 hc)
    exact ⟨j, by rw [g?_old (g?_lt hj)]; exact hj, hb_app u hb⟩
  · rcases getElem?_append_cases ho with ⟨hl, ho'⟩ | ⟨_, hm⟩
    · exact h.new p op hp ho'
    · exact .inr (.inr (hu op hm).2.1)

theorem Vn_spawn (n : Nat) (S : Nat → WSt τ) (m m' : MT) (h0 : S 0 = .main m) (hn : 0 < n) (x : τ) : Vn (n + 1) (upd (upd S 0 (.main m')) n (.work x)) = Vn n S + 1 := by
  unfold Vn
  simp only [sumTo]
  rw [upd_same]
  have : sumTo n (fun i => (upd (upd S 0 (.main m')) n (.work x) i).cv) = sumTo n (fun i => (S i).cv) := sumTo_congr fun i hi => by
    rw [upd_ne _ _ (by omega : i ≠ n)]
    by_cases e : i = 0
    · subst e; rw [upd_same, h0]; rfl
    · rw [upd_ne _ _ e]
  rw [this]; rfl
/-- A go statement. -/
theorem WgInv.spawn {r : Nat} (h : WgInv ty Wg m0 p0 Shun n S w t) (h0 : S 0 = .main (.sp (r + 1) 0)) (hab : Deaf t n = 0) {a b : MemOp} (ha : a.g = 0 ∧ a.act = .go n) (hb : b.g = n ∧ b.act = .start) (hw : w'.heap[Wg]? = w.heap[Wg]?) (x : τ) :
    WgInv ty Wg m0 p0 Shun (n + 1) (upd (upd S 0 (.main (.sp r 3))) n (.work x)) w' (t ++ #[a, b]) := by
  have hn : 0 < n := by have := h.pos; omega
  have eab : t ++ #[a, b] = (t ++ #[a]) ++ #[b] := by apply Array.ext'; simp
  have hda : ∀ j, Deaf (t ++ #[a, b]) j = Deaf t j := fun j => by
    rw [eab, Deaf_push, Deaf_push]
    simp [deafStep, ha.2, hb.2]
  have hget : ∀ j, j < n → j ≠ 0 → upd (upd S 0 (.main (.sp r 3))) n (.work x) j = S j := fun j hj hj0 => by rw [upd_ne _ _ (by omega), upd_ne _ _ hj0]
  have h00 : upd (upd S 0 (.main (.sp r 3))) n (.work x) 0 = .main (.sp r 3) := by rw [upd_ne _ _ (by omega), upd_same]
  have hnn : upd (upd S 0 (.main (.sp r 3))) n (.work x) n = .work x := upd_same _ _ _
  have hRel : ∀ j, j < n → j ≠ 0 → ∀ r, Rel' Wg t j r → Rel' Wg (t ++ #[a, b]) j r := fun j hj hj0 r hr => by
    rw [eab]
    exact (hr.other (j := 0) (fun e => hj0 e.symm) (fun op hop => by simp at hop; rw [hop]; exact ha.1)).other (j := n) (by omega) (fun op hop => by simp at hop; rw [hop]; exact hb.1)
  have hnt : ∀ op ∈ #[a, b], op.act.touch? = none ∧ op.act ≠ .mark (.release (stW Wg)) ∧ (op.g = 0 ∨ op.g = n) := by
    intro op hop
    simp only [List.mem_toArray, List.mem_cons, List.not_mem_nil, or_false] at hop
    rcases hop with rfl | rfl
    · rw [ha.2]; exact ⟨rfl, by simp, .inl ha.1⟩
    · rw [hb.2]; exact ⟨rfl, by simp, .inr hb.1⟩
  obtain ⟨tg, st, sm, h1, h2, h3, _⟩ := h.mode
  obtain rfl : tg = .sp (r + 1) 0 := by rw [h0] at h1; cases h1; rfl
  have hm : Mode (n + 1) (upd (upd S 0 (.main (.sp r 3))) n (.work x)) (.sp r 3) st sm := by
    cases h3 with
    | opn hf ho hv =>
      have e := Vn_spawn n S _ (.sp r 3) h0 hn x
      have := Mode.opn (n := n + 1) (S := upd (upd S 0 (.main (.sp r 3))) n (.work x)) (tg := .sp r 3) trivial (fun j hj => by
        by_cases e1 : j = n
        · subst e1; rw [hnn]; trivial
        · by_cases e2 : j = 0
          · subst e2; rw [h00]; trivial
          · rw [hget j (by omega) e2]; exact ho j (by omega)) (fun v hv => by cases hv)
      rw [e] at this
      simpa [MT.pend] using this
    | reg hf _ _ => exact hf.elim
    | last _ _ hf _ _ _ _ _ => exact hf.elim
    | sema _ _ hf => exact hf.elim
    | fin hf _ => exact hf.elim
  refine ⟨⟨h.pos.1, by have := h.pos; omega, by simp; have := h.pos.2.2; omega⟩, ⟨_, st, sm, h00, hw.trans h2, hm, fun e => by cases e⟩, fun j hj hj0 => ?_, fun j hj hj0 => ?_, fun j hj d hd => ?_, fun j hj hjn hr => ?_, h.norel.app (fun op hop => (hnt op hop).2.1), fun p hp c hc hmem => ?_, fun p g hp hg hg0 hc => ?_, fun p op hp ho => ?_⟩
  · by_cases e1 : j = n
    · subst e1; rw [hnn]; exact id
    · rw [hget j (by omega) hj0]; exact h.notMain j (by omega) hj0
  · have : j < n := by have := h.pos; omega
    rw [hget j this hj0]; exact h.olds j hj hj0
  · rw [hda]
    by_cases e1 : j = n
    · subst e1; rw [hnn] at hd; cases hd; exact hab
    · by_cases e2 : j = 0
      · subst e2
        rw [h00] at hd
        cases hd
        exact h.deaf 0 hn 0 (by rw [h0]; rfl)
      · rw [hget j (by omega) e2] at hd; exact h.deaf j (by omega) d hd
  · by_cases e1 : j = n
    · subst e1; rw [hnn] at hr; exact hr.elim
    · have hj0 : j ≠ 0 := by have := h.pos; omega
      rw [hget j (by omega) hj0] at hr
      obtain ⟨r', hr'⟩ := h.rel j hj (by omega) hr
      exact ⟨r', hRel j (by omega) hj0 r' hr'⟩
  · have hl : p < t.size := by have := h.pos.2.2; omega
    rw [touchAt_app hl] at hc
    exact (h.old p hp c hc hmem).imp (·.app _) id
  · have hl : p < t.size := by have := h.pos.2.2; omega
    rw [g?_old hl] at hg
    obtain ⟨j, hj, hb'⟩ := h.over p g hp hg hg0 ((counts_app hl).1 hc)
    exact ⟨j, by rw [g?_old (g?_lt hj)]; exact hj, hb_app _ hb'⟩
  · rcases getElem?_append_cases ho with ⟨hl, ho'⟩ | ⟨_, hm⟩
    · rcases h.new p op hp ho' with x | ⟨x, y⟩ | x
      · exact .inl x
      · exact .inr (.inl ⟨x, by omega⟩)
      · exact .inr (.inr x)
    · exact .inr (.inr (hnt op hm).1)
/-- Behind the wait: all the others have gone, and goroutine 0 knows what was done. -/
theorem WgInv.past {K : Nat → LK} (h : WgInv ty Wg m0 p0 Shun n S w t) (h0 : S 0 = .main .ret) (hl : Lic n K w t) : Past (fun l => Shun l ∨ WgLoc Wg l) w.heap.size t ∧ AllGone n S := by
  obtain ⟨tg, st, sm, h1, h2, h3, h4⟩ := h.mode
  obtain rfl : tg = .ret := by rw [h0] at h1; cases h1; rfl
  have hg : AllGone n S := by
    cases h3 with
    | fin _ hg => exact hg
    | opn hf _ _ => exact hf.elim
    | reg hf _ _ => exact hf.elim
    | last _ _ hf _ _ _ _ _ => exact hf.elim
    | sema _ _ hf => exact hf.elim
  obtain ⟨q, hq1, hq2, hq3, hq4⟩ := h4 rfl
  have edge : ∀ i r, Rel' Wg t i r → r < q → HappensBefore t r q := fun i r hr hrq => .single (.inr ⟨.marked hrq (.inr hr.rel.act) hq1 (fun k _ _ => h.norel k), hr.rel.heard, hq3⟩)
  obtain ⟨zq, hzq, hzg⟩ := Option.map_eq_some_iff.1 (show (t[q]?).map (·.g) = some 0 from hq2)
  have know : ∀ p g, p0 ≤ p → t.g? p = some g → g ≠ 0 → ∀ a, touchAt t p = some a → (∃ r, Rel' Wg t g r ∧ HappensBefore t p q) ∨ (∃ r, Rel' Wg t g r ∧ r < p) := fun p g hp hpg hg0 a ha => by
    obtain ⟨op, hop, hopg⟩ := Option.map_eq_some_iff.1 (show (t[p]?).map (·.g) = some g from hpg)
    have hx' : op.act.touch? = some a := by simpa [touchAt, Trace.act?, hop] using ha
    rcases h.new p op hp hop with e | ⟨e1, e2⟩ | e
    · exact absurd (hopg.symm.trans e) hg0
    · rw [hopg] at e1 e2
      obtain ⟨r, hr, hrq⟩ := hq4 g e1 e2
      rcases Nat.lt_or_ge r p with hlt | hge
      · exact .inr ⟨r, hr, hlt⟩
      · refine .inl ⟨r, hr, ?_⟩
        rcases Nat.lt_or_ge p r with h5 | h5
        · exact .trans (.single (.inl ⟨h5, g, hpg, hr.rel.g⟩)) (edge g r hr hrq)
        · obtain rfl : p = r := by omega
          exact edge g p hr hrq
    · rw [e] at hx'; cases hx'
  refine ⟨⟨hl.race, fun p a ha hmem => ?_, fun p g hpg hg0 hc => ?_, h.deaf 0 (by have := h.pos; omega) 0 (by rw [h0]; rfl), hl.seen⟩, hg⟩
  · rcases Nat.lt_or_ge p p0 with hp | hp
    · exact (h.old p hp a ha hmem).imp id (fun x => ⟨.inl x.1, x.2⟩)
    · obtain ⟨op, hop, hopa⟩ := touch_of ha
      by_cases e : op.g = 0
      · have := knows_own hop
        rw [e] at this
        exact .inl this
      · rcases know p op.g hp (by simp [Trace.g?, hop]) e a ha with ⟨r, hr, hb⟩ | ⟨r, hr, hrp⟩
        · exact .inl ⟨q, zq, hzq, hzg, .inr hb⟩
        · have := hr.late p hrp (by simp [Trace.g?, hop]) a ha
          exact .inr ⟨.inr this.1, this.2⟩
  · rcases Nat.lt_or_ge p p0 with hp | hp
    · exact h.over p g hp hpg hg0 hc
    · have hc' := hc
      obtain ⟨a, ha, _⟩ := hc'
      rcases know p g hp hpg hg0 a ha with ⟨r, hr, hb⟩ | ⟨r, hr, hrp⟩
      · exact ⟨q, hq2, hb⟩
      · exact absurd hc (hr.rel.after p hrp hpg)
/-- The beginning. -/
theorem WgInv.start {r : Nat} {P : Program} {gs : Array Goroutine} {q : Nat → Nat} (hP : Past Shun w.heap.size t) (hL : Leavers P t gs q) (hpos : 0 < gs.size) (hw : WgIs ty Wg w 0 0) (hnr : NoRelease (stW Wg) t) :
    WgInv ty Wg gs.size t.size Shun gs.size (fun i => if i = 0 then (.main (.sp r 3) : WSt τ) else .gone) w t := by
  have hV : Vn gs.size (fun i => if i = 0 then (.main (.sp r 3) : WSt τ) else .gone) = 0 := by
    unfold Vn
    have : sumTo gs.size (fun i => (if i = 0 then (.main (.sp r 3) : WSt τ) else .gone).cv) = sumTo gs.size (fun _ => 0) := sumTo_congr fun i _ => by by_cases e : i = 0 <;> simp [e, WSt.cv]
    rw [this]
    generalize gs.size = m
    induction m with
    | zero => rfl
    | succ m ih => simp [sumTo, ih]
  refine ⟨⟨hpos, Nat.le_refl _, Nat.le_refl _⟩, ⟨.sp r 3, 0, 0, by simp, hw, ?_, fun e => by cases e⟩, fun i _ hi0 => by simp [hi0, WSt.isMain], fun i _ hi0 => by simp [hi0], fun i hi d hd => ?_, fun i hi hi2 _ => by omega, hnr, fun p _ a ha hm => hP.known p a ha hm, fun p g _ hg hg0 hc => hP.over p g hg hg0 hc, fun p op hp ho => ?_⟩
  · have := Mode.opn (n := gs.size) (S := fun i => if i = 0 then (.main (.sp r 3) : WSt τ) else .gone) (tg := .sp r 3) trivial (fun i _ => by by_cases e : i = 0 <;> simp [e, WSt.isOpen]) (fun v hv => by cases hv)
    rw [hV] at this
    simpa [MT.pend] using this
  · by_cases e : i = 0
    · subst e
      simp only [if_true, WSt.deaf, MT.deaf, true_or, Option.some.injEq] at hd
      rw [hP.hears, ← hd]
    · simp [e, WSt.deaf] at hd
  · have := lt_size_of_getElem? ho; omega
end
end Go.Proofs.Yticdjkkcfdbdcaa
