/- What a goroutine owns and does not touch meanwhile stands. No program; no conditions but those named. -/
import Derived.Test.YticdjkkcfdbdcaaMirL
import Derived.Orders
import Derived.Conc.CompanyDraw
import Derived.Conc.EventLaws
import Derived.Test.YticdjkkcfdbdcaaRenM
import Derived.Test.YticdjkkcfdbdcaaFam
import Derived.Conc.DeferLaws
namespace Go.Proofs.Yticdjkkcfdbdcaa
open Go.Conc Go.ConcN

def LK.plus (F k : LK) : LK := ⟨fun l => F.W l ∨ k.W l, fun l => F.R l ∨ k.R l, fun l => F.A l ∨ k.A l⟩
theorem LK.plus_grow (F k : LK) (n n' : Nat) : (F.plus k).grow n n' = F.plus (k.grow n n') := by
  simp only [LK.plus, LK.grow, LK.mk.injEq, and_true]
  funext l
  exact propext ⟨fun h => h.elim (fun h => h.imp id .inl) (fun h => .inr (.inr h)), fun h => h.elim (fun h => .inl (.inl h)) (fun h => h.elim (fun h => .inl (.inr h)) .inr)⟩
/-- The judgement with F set aside: what lies there stands as it was in W0. -/
def JF (F : LK) (W0 : World) (J : LK → Goroutine → World → Prop) : LK → Goroutine → World → Prop :=
  fun k g w => Rely F W0 w → (∀ l, F.W l ∨ F.R l → ¬ k.W l) → J (F.plus k) g w
theorem Rely.plusL {F k : LK} {w w' : World} (h : Rely (F.plus k) w w') : Rely F w w' := ⟨h.size, h.tape, h.os, h.output, h.shape, fun a ha => h.cell a (ha.imp .inl .inl), fun b o ho hn ha => h.obj b o ho hn (ha.imp .inl .inl)⟩
theorem Rely.plusR {F k : LK} {w w' : World} (h : Rely (F.plus k) w w') : Rely k w w' := ⟨h.size, h.tape, h.os, h.output, h.shape, fun a ha => h.cell a (ha.imp .inr .inr), fun b o ho hn ha => h.obj b o ho hn (ha.imp .inr .inr)⟩
theorem Own.plus {F k : LK} {w w' : World} {es : Array Event} (h : Own k w w' es) : Own (F.plus k) w w' es :=
  ⟨h.chg.mono fun l hl => .inr hl, fun e he => (h.evs e he).imp id fun x => ⟨x.1, x.2.1, x.2.2.imp id (fun y => y.imp .inr (fun z => ⟨z.1, .inr z.2⟩))⟩⟩
/-- What is not one's to write stands in a step of one's own. -/
theorem Chg.rest {F k : LK} {w w' : World} (h : Chg k w w') (hd : ∀ l, F.W l ∨ F.R l → ¬ k.W l) (hm : ∀ l, F.W l ∨ F.R l → MemLoc w.heap.size l) : Rely F w w' where
  size := h.size
  tape := h.tape
  os := h.os
  output := h.output
  shape := h.shape
  cell := fun a ha => h.cell a (hm _ ha) (hd _ ha)
  obj := fun b o ho hn ha => h.obj b o ho hn (hd _ ha)
theorem JF.ok {P : Program} {main : Bool} {R : LK → World → World → Prop} {J : LK → Goroutine → World → Prop} (hJ : JOk P main R J) {F : LK} {W0 : World} (hF : ∀ l, F.W l ∨ F.R l → MemLoc W0.heap.size l) : JOk P main (fun k w w₁ => R (F.plus k) w w₁) (JF F W0 J) where
  own k g w hr ho h := fun hrel hd => hJ.own _ _ _ hr ho fun w₁ hR => by
    obtain ⟨g', w', es, h1, h2, h3⟩ := h w₁ hR
    have hrely := hJ.rel _ _ _ hR
    have e1 : Rely F W0 w₁ := hrel.trans hrely.plusL
    have hm : ∀ l, F.W l ∨ F.R l → MemLoc w₁.heap.size l := fun l hl => (hF l hl).mono e1.size
    refine ⟨g', w', es, h1, h2.plus, ?_⟩
    rw [LK.plus_grow]
    exact h3 (e1.trans (h2.chg.rest hd hm)) fun l hl hk => hk.elim (hd l hl) fun x => x.mem.2 (hm l hl)
  rel k w w₁ h := (hJ.rel _ _ _ h).plusR
def LK.nil : LK := ⟨fun _ => False, fun _ => False, fun _ => False⟩
theorem LK.plus_nil (F : LK) : F.plus LK.nil = F := by simp [LK.plus, LK.nil]
end Go.Proofs.Yticdjkkcfdbdcaa

/- A region whose order is drawn, in company: each operation's value is told ahead; one, the last, is left to be stepped. No program; no conditions but those named. -/
namespace Go.Proofs.Yticdjkkcfdbdcaa
open Go.Conc Go.ConcN

def prodOf (ops : Array Oper) (t : Tmp) : Option Nat := (List.range ops.size).find? fun j => ((ops[j]?).bind (·.dst)) == some t
def reachB (ops : Array Oper) : Nat → Nat → Nat → Bool
  | 0, _, _ => false
  | n + 1, j, i => match ops[j]? with
    | none => false
    | some o => o.after.any fun e => Region.binds .any e && (e.on == i || reachB ops n e.on i)
/-- What is asked of the region's text: m is its last. -/
def drawOk (ops : Array Oper) (m : Nat) : Bool :=
  decide (m + 1 = ops.size) && (List.range ops.size).all fun i => match ops[i]? with
    | none => false
    | some o => o.guard.isNone && (match o.op with | .select _ _ => false | _ => true) && o.after.all (fun e => decide (e.on < i)) && (i == m || reachB ops ops.size m i) &&
      (match o.dst with | none => true | some d => prodOf ops d == some i) &&
      (i == m || o.op.operands.all fun x => match x with
        | .tmp t => (match prodOf ops t with | none => true | some j => j == m || o.after.any fun e => Region.binds .any e && e.on == j)
        | _ => true)
/-- The state behind all but number m. -/
def putsV (ops : Array Oper) (V : Nat → Value) : List Nat → Act → Act
  | [], a => a
  | i :: r, a => putsV ops V r (a.put ((ops[i]?).bind (·.dst)) (V i))
section
variable {ops : Array Oper} {m : Nat} {V : Nat → Value}
def valAt (ops : Array Oper) (V : Nat → Value) (a : Act) (listed : Array Bool) (t : Tmp) : Value := match prodOf ops t with
  | none => a.tmps.getD t undef
  | some j => if listed.getD j false then V j else a.tmps.getD t undef
structure Held (ops : Array Oper) (V : Nat → Value) (m : Nat) (a : Act) (listed : Array Bool) (a' : Act) : Prop where
  size : listed.size = ops.size
  tsize : a'.tmps.size = a.tmps.size
  defers : a'.defers = a.defers
  val : ∀ t, t < a.tmps.size → a'.tmps.getD t undef = valAt ops V a listed t
  closed : ∀ j o, listed.getD j false = true → ops[j]? = some o → ∀ e ∈ o.after, Region.binds .any e = true → listed.getD e.on false = true
  last : listed.getD m false = false
theorem getD_set (l : Array Bool) (i j : Nat) (hi : i < l.size) : (l.setIfInBounds i true).getD j false = if j = i then true else l.getD j false := by
  rw [Array.getD_eq_getD_getElem?, Array.getD_eq_getD_getElem?, Array.getElem?_setIfInBounds]
  by_cases e : i = j
  · subst e; simp [hi]
  · simp [e, Ne.symm e]
theorem getD_true {l : Array Bool} {i : Nat} (hi : i < l.size) : l.getD i true = l.getD i false := by
  rw [Array.getD_eq_getD_getElem?, Array.getD_eq_getD_getElem?]
  simp [hi]
theorem drawOk_at (h : drawOk ops m = true) {i : Nat} {o : Oper} (ho : ops[i]? = some o) : m + 1 = ops.size ∧ o.guard = none ∧ (∀ cs b, o.op ≠ .select cs b) ∧ (∀ e ∈ o.after, e.on < i) ∧ (i = m ∨ reachB ops ops.size m i = true) ∧ (∀ d, o.dst = some d → prodOf ops d = some i) ∧
    (i = m ∨ ∀ x ∈ o.op.operands, ∀ t, x = .tmp t → ∀ j, prodOf ops t = some j → j = m ∨ ∃ e ∈ o.after, Region.binds .any e = true ∧ e.on = j) := by
  unfold drawOk at h
  simp only [Bool.and_eq_true, decide_eq_true_eq] at h
  have hi : i < ops.size := (Array.getElem?_eq_some_iff.1 ho).1
  have := List.all_eq_true.1 h.2 i (List.mem_range.2 hi)
  rw [ho] at this
  simp only [Bool.and_eq_true, Bool.or_eq_true, beq_iff_eq] at this
  obtain ⟨⟨⟨⟨⟨h1, h2⟩, h3⟩, h4⟩, h5⟩, h6⟩ := this
  refine ⟨h.1, by simpa using h1, fun cs b e => ?_, fun e he => ?_, h4, fun d hd => ?_, h6.imp id fun h6 x hx t hxt j hj => ?_⟩
  · rw [e] at h2; cases h2
  · rw [Array.all_eq_true'] at h3
    simpa using h3 e he
  · rw [hd] at h5; simpa using h5
  · rw [Array.all_eq_true'] at h6
    have := h6 x hx
    subst hxt
    simp only [hj, Bool.or_eq_true, Bool.and_eq_true, beq_iff_eq, Array.any_eq_true'] at this
    exact this.imp id fun ⟨e, he, g2⟩ => ⟨e, he, g2⟩
theorem Held.reach {a a' : Act} {listed : Array Bool} (h : Held ops V m a listed a') : ∀ (n j i : Nat), reachB ops n j i = true → (∀ o, ops[j]? = some o → ∀ e ∈ o.after, Region.binds .any e = true → listed.getD e.on false = true) → listed.getD i false = true
  | 0, j, i, hr, _ => by cases hr
  | n + 1, j, i, hr, hj => by
    unfold reachB at hr
    cases ho : ops[j]? with
    | none => rw [ho] at hr; cases hr
    | some o =>
      rw [ho] at hr
      simp only [Array.any_eq_true', Bool.and_eq_true, Bool.or_eq_true, beq_iff_eq] at hr
      obtain ⟨e, he, hb, hc⟩ := hr
      have hl := hj o ho e he hb
      rcases hc with rfl | hc
      · exact hl
      · exact h.reach n e.on i hc fun o' ho' e' he' hb' => h.closed e.on o' hl ho' e' he' hb'
theorem putsV_val (hd : ∀ i o, ops[i]? = some o → ∀ d, o.dst = some d → prodOf ops d = some i) : ∀ (l : List Nat) (a : Act), (putsV ops V l a).tmps.size = a.tmps.size ∧ (putsV ops V l a).defers = a.defers ∧ ∀ t, t < a.tmps.size → (putsV ops V l a).tmps.getD t undef = match prodOf ops t with
    | none => a.tmps.getD t undef
    | some j => if j ∈ l then V j else a.tmps.getD t undef
  | [], a => ⟨rfl, rfl, fun t ht => by simp only [putsV]; cases prodOf ops t <;> simp⟩
  | i :: r, a => by
    obtain ⟨h1, h2, h3⟩ := putsV_val hd r (a.put ((ops[i]?).bind (·.dst)) (V i))
    have hs : (a.put ((ops[i]?).bind (·.dst)) (V i)).tmps.size = a.tmps.size := by unfold Act.put; split <;> simp
    have hdf : (a.put ((ops[i]?).bind (·.dst)) (V i)).defers = a.defers := by unfold Act.put; split <;> rfl
    refine ⟨h1.trans hs, h2.trans hdf, fun t ht => ?_⟩
    show (putsV ops V r (a.put ((ops[i]?).bind (·.dst)) (V i))).tmps.getD t undef = _
    rw [h3 t (by rw [hs]; exact ht)]
    have key : (a.put ((ops[i]?).bind (·.dst)) (V i)).tmps.getD t undef = if prodOf ops t = some i then V i else a.tmps.getD t undef := by
      cases ho : ops[i]? with
      | none =>
        have : prodOf ops t ≠ some i := fun e => by
          have := List.mem_of_find?_eq_some e
          rw [List.mem_range] at this
          rw [Array.getElem?_eq_none_iff] at ho
          omega
        simp [Act.put, this]
      | some o =>
        cases hdst : o.dst with
        | none =>
          have : prodOf ops t ≠ some i := fun e => by
            have := List.find?_some e
            simp [ho, hdst] at this
          simp [Act.put, hdst, this]
        | some d =>
          simp only [Act.put, Option.bind_some, hdst]
          rw [Array.getD_eq_getD_getElem?, Array.getElem?_setIfInBounds]
          by_cases e : d = t
          · subst e
            simp [ht, hd i o ho d hdst]
          · have : prodOf ops t ≠ some i := fun e2 => by
              have := List.find?_some e2
              simp [ho, hdst] at this
              exact e this
            rw [if_neg e, if_neg this, Array.getD_eq_getD_getElem?]
    cases hp : prodOf ops t with
    | none => rw [key, hp]; simp
    | some j =>
      simp only [List.mem_cons]
      by_cases e1 : j ∈ r
      · simp [e1]
      · by_cases e2 : j = i
        · subst e2; simp [e1, key, hp]
        · simp [e1, e2, key, hp]
/-- Behind all but the last. -/
theorem Held.full {a a' : Act} {listed : Array Bool} (hok : drawOk ops m = true) (h : Held ops V m a listed a') (hall : ∀ i, i < m → listed.getD i false = true) : a' = putsV ops V (List.range m) a := by
  obtain ⟨h1, h2, h3⟩ := putsV_val (V := V) (fun i o ho d hd => (drawOk_at hok ho).2.2.2.2.2.1 d hd) (List.range m) a
  obtain ⟨ta, da⟩ := a'
  generalize hb : putsV ops V (List.range m) a = b at h1 h2 h3
  obtain ⟨tb, db⟩ := b
  have e1 := h.tsize
  have e2 := h.defers
  simp only at h1 h2 h3 e1 e2
  rw [Act.mk.injEq]
  refine ⟨Array.ext (e1.trans h1.symm) fun t h4 h5 => ?_, e2.trans h2.symm⟩
  have q1 := h.val t (e1 ▸ h4)
  have q2 := h3 t (e1 ▸ h4)
  rw [Array.getD_eq_getD_getElem?] at q1 q2
  simp only [Array.getElem?_eq_getElem h4, Array.getElem?_eq_getElem h5, Option.getD_some] at q1 q2
  rw [q1, q2]
  unfold valAt
  cases hp : prodOf ops t with
  | none => rfl
  | some j =>
    have hj : j < ops.size := List.mem_range.1 (List.mem_of_find?_eq_some hp)
    simp only [List.mem_range]
    by_cases e : j < m
    · simp [e, hall j e]
    · have hm : m + 1 = ops.size := by
        have hok' := hok
        unfold drawOk at hok'
        simp only [Bool.and_eq_true, decide_eq_true_eq] at hok'
        exact hok'.1
      obtain rfl : j = m := by omega
      simp [h.last]
end
end Go.Proofs.Yticdjkkcfdbdcaa

/- A region whose order is drawn, in company: the theorem. No program; no conditions but those named. -/
namespace Go.Proofs.Yticdjkkcfdbdcaa
open Go.Conc Go.ConcN
section
variable {ops : Array Oper} {m : Nat} {V : Nat → Value}
theorem Held.step {a a' : Act} {listed : Array Bool} (hok : drawOk ops m = true) (h : Held ops V m a listed a') {i : Nat} {o : Oper} (ho : ops[i]? = some o) (hi : i ≠ m) (hr : ∀ e ∈ o.after, Region.binds .any e = true → listed.getD e.on false = true) : Held ops V m a (listed.setIfInBounds i true) (a'.put o.dst (V i)) := by
  have hil : i < listed.size := by rw [h.size]; exact (Array.getElem?_eq_some_iff.1 ho).1
  have up : ∀ j, listed.getD j false = true → (listed.setIfInBounds i true).getD j false = true := fun j hj => by rw [getD_set _ _ _ hil]; split <;> simp_all
  refine ⟨by simp [h.size], ?_, ?_, fun t ht => ?_, fun j oj hj hoj e he hb => ?_, by rw [getD_set _ _ _ hil, if_neg (Ne.symm hi)]; exact h.last⟩
  · rw [← h.tsize]; unfold Act.put; split <;> simp
  · rw [← h.defers]; unfold Act.put; split <;> rfl
  · have hv := h.val t ht
    unfold valAt at hv ⊢
    have hiff : o.dst = some t ↔ prodOf ops t = some i := ⟨fun e => (drawOk_at hok ho).2.2.2.2.2.1 t e, fun e => by
      have := List.find?_some e
      simpa [ho] using this⟩
    have hput : (a'.put o.dst (V i)).tmps.getD t undef = if prodOf ops t = some i then V i else a'.tmps.getD t undef := by
      cases hd : o.dst with
      | none =>
        have : prodOf ops t ≠ some i := fun e => by rw [hiff.2 e] at hd; cases hd
        simp [Act.put, this]
      | some d =>
        simp only [Act.put]
        rw [Array.getD_eq_getD_getElem?, Array.getElem?_setIfInBounds]
        by_cases e : d = t
        · subst e
          simp [h.tsize, ht, hiff.1 hd]
        · have : prodOf ops t ≠ some i := fun e2 => by rw [hiff.2 e2] at hd; cases hd; exact e rfl
          rw [if_neg e, if_neg this, Array.getD_eq_getD_getElem?]
    rw [hput]
    cases hp : prodOf ops t with
    | none => rw [hp] at hv; simpa using hv
    | some j =>
      rw [hp] at hv
      simp only [Option.some.injEq]
      rw [getD_set _ _ _ hil]
      by_cases e : j = i
      · subst e; simp
      · simp only [if_neg e]; exact hv
  · rw [getD_set _ _ _ hil] at hj
    by_cases e2 : j = i
    · subst e2
      rw [ho] at hoj; cases hoj
      exact up _ (hr e he hb)
    · rw [if_neg e2] at hj
      exact up _ (h.closed j oj hj hoj e he hb)
theorem Held.eval {a a' : Act} {listed : Array Bool} (hok : drawOk ops m = true) (h : Held ops V m a listed a') {i : Nat} {o : Oper} (ho : ops[i]? = some o) (hi : i ≠ m) (hr : ∀ e ∈ o.after, Region.binds .any e = true → listed.getD e.on false = true) :
    execOp a'.eval o = execOp (putsV ops V (List.range m) a).eval o := by
  obtain ⟨hm, _, hs, _, _, _, hx⟩ := drawOk_at hok ho
  obtain ⟨h1, h2, h3⟩ := putsV_val (V := V) (fun i o ho d hd => (drawOk_at hok ho).2.2.2.2.2.1 d hd) (List.range m) a
  refine execOp_congr o hs fun x hxm => ?_
  cases x with
  | const v => rfl
  | global g => rfl
  | func f => rfl
  | tmp t =>
    show a'.tmps.getD t undef = (putsV ops V (List.range m) a).tmps.getD t undef
    by_cases ht : t < a.tmps.size
    · rw [h.val t ht, h3 t ht]
      unfold valAt
      cases hp : prodOf ops t with
      | none => rfl
      | some j =>
        rcases (hx.resolve_left hi) _ hxm t rfl j hp with rfl | ⟨e, he, hb, rfl⟩
        · simp [h.last]
        have hj : e.on < ops.size := List.mem_range.1 (List.mem_of_find?_eq_some hp)
        by_cases hjm' : e.on = m
        · have := hr e he hb
          rw [hjm', h.last] at this
          cases this
        have hjm : e.on ∈ List.range m := List.mem_range.2 (by omega)
        simp only [hr e he hb, if_true, hjm]
    · have q1 : a'.tmps[t]? = none := Array.getElem?_eq_none (by rw [h.tsize]; exact Nat.not_lt.1 ht)
      have q2 : (putsV ops V (List.range m) a).tmps[t]? = none := Array.getElem?_eq_none (by rw [h1]; exact Nat.not_lt.1 ht)
      rw [Array.getD_eq_getD_getElem?, Array.getD_eq_getD_getElem?, q1, q2]
theorem ready_least {listed : Array Bool} (hok : drawOk ops m = true) : ∀ (n i : Nat), i ≤ n → i < ops.size → listed.getD i true = false → ∃ j, j ∈ Region.ready .any ops listed := by
  intro n
  induction n with
  | zero =>
    intro i hi hn hl
    obtain rfl : i = 0 := by omega
    refine ⟨0, List.mem_filter.2 ⟨List.mem_range.2 hn, ?_⟩⟩
    rw [hl, Array.getElem?_eq_getElem hn]
    simp only [Bool.not_false, Bool.true_and, Option.map_some, Option.getD_some]
    rw [Array.all_eq_true']
    intro e he
    have := (drawOk_at hok (Array.getElem?_eq_getElem hn)).2.2.2.1 e he
    omega
  | succ n ih =>
    intro i hi hn hl
    by_cases hall : ((ops[i]?).map (·.after.all fun e => !Region.binds .any e || listed.getD e.on false)).getD false = true
    · exact ⟨i, List.mem_filter.2 ⟨List.mem_range.2 hn, by rw [hl, hall]; rfl⟩⟩
    · rw [Array.getElem?_eq_getElem hn] at hall
      simp only [Option.map_some, Option.getD_some] at hall
      rw [Array.all_eq_true'] at hall
      obtain ⟨e, he, hle⟩ : ∃ e, e ∈ ops[i].after ∧ listed.getD e.on false = false := Classical.byContradiction fun hx => hall fun e he => by
        cases hle : listed.getD e.on false with
        | true => simp
        | false => exact absurd ⟨e, he, hle⟩ hx
      have hlt := (drawOk_at hok (Array.getElem?_eq_getElem hn)).2.2.2.1 e he
      by_cases hes : e.on < listed.size
      · exact ih e.on (by omega) (by omega) (by rw [getD_true hes]; exact hle)
      · have : listed.getD i true = true := by
          rw [Array.getD_eq_getD_getElem?, Array.getElem?_eq_none (by omega)]; rfl
        rw [this] at hl; cases hl
section
variable {P : Program} {J : LK → Goroutine → World → Prop} {main : Bool} {R : LK → World → World → Prop}
/-- ████ A REGION WHOSE ORDER IS DRAWN. ████ -/
theorem j_draw (hJ : JOk P main R J) (hmx : P.follows .mixedOrders = true) (hok : drawOk ops m = true) (S : LK → World → Prop) (hSR : ∀ k w w₁, S k w → R k w w₁ → S k w₁) (hSd : ∀ k w d, S k w → S k (w.at d)) (V : Nat → Value) {id : Nat} {b : Frame} {K : List Item} {cs : List Frame} {a : Act} (hb : b.kind ≠ .early)
    (hop : ∀ i o, ops[i]? = some o → i ≠ m →
      (∀ k w, S k w → (execOp (putsV ops V (List.range m) a).eval o).run P w = .ok (.value (V i)) w ∧ Own k w w (seen P b.fn ((execOp (putsV ops V (List.range m) a).eval o).events P w #[]))) ∨
      (∃ f args, (∀ w, (execOp (putsV ops V (List.range m) a).eval o).run P w = .ok (.enter f args) w ∧ (execOp (putsV ops V (List.range m) a).eval o).events P w #[] = #[]) ∧
        ∀ k w c' base, S k w → (∀ k1 w1, S k1 w1 → J k1 (G (c'.finish (V i)) base) w1) → J k (G (Frame.enter P f args .normal) (c' :: base)) w))
    (hlast : ∀ k w, S k w → J k (G (b.at (putsV ops V (List.range m) a) (.inRegion ops [m] :: K)) cs) w) {k : LK} {W : World} (h0 : S k W) : J k (G (b.at a (.code (.region id ops true) :: K)) cs) W := by
  have key : ∀ (fuel t : Nat) (listed : Array Bool) (a' : Act) (k : LK) (w : World), Held ops V m a listed a' → ((List.range ops.size).filter fun i => !listed.getD i true).length ≤ fuel → S k w → J k (G (b.at a' (.inRegion ops (Region.linearise.go .any ops fuel t listed []) :: K)) cs) w := by
    intro fuel
    induction fuel with
    | zero =>
      intro t listed a' k w hh hc _
      exfalso
      have hm : m + 1 = ops.size := by unfold drawOk at hok; simp only [Bool.and_eq_true, decide_eq_true_eq] at hok; exact hok.1
      have : m ∈ (List.range ops.size).filter fun i => !listed.getD i true := List.mem_filter.2 ⟨List.mem_range.2 (by omega), by rw [getD_true (by rw [hh.size]; omega), hh.last]; rfl⟩
      have := List.length_pos_of_mem this
      omega
    | succ fuel ih =>
      intro t listed a' k w hh hc hS
      have hm : m + 1 = ops.size := by
        have hok' := hok
        unfold drawOk at hok'; simp only [Bool.and_eq_true, decide_eq_true_eq] at hok'; exact hok'.1
      have hne : ∃ j, j ∈ Region.ready .any ops listed := ready_least hok m m (Nat.le_refl _) (by omega) (by rw [getD_true (by rw [hh.size]; omega)]; exact hh.last)
      simp only [Region.linearise.go]
      change J k (G (b.at a' (.inRegion ops (match (Region.ready .any ops listed)[t % (Region.ready .any ops listed).length]? with
        | some i => Region.linearise.go .any ops fuel (t / (Region.ready .any ops listed).length) (listed.setIfInBounds i true) [i]
        | none => [].reverse) :: K)) cs) w
      cases hi : (Region.ready .any ops listed)[t % (Region.ready .any ops listed).length]? with
      | none =>
        exfalso
        obtain ⟨j, hj⟩ := hne
        have hpos := List.length_pos_of_mem hj
        have hlt : t % (Region.ready .any ops listed).length < (Region.ready .any ops listed).length := Nat.mod_lt _ hpos
        rw [List.getElem?_eq_none_iff] at hi
        omega
      | some i =>
        simp only []
        rw [linearise_go_acc, List.reverse_singleton, List.singleton_append]
        have hmem := List.mem_of_getElem? hi
        obtain ⟨hin, hrd⟩ := List.mem_filter.1 hmem
        have hin' := List.mem_range.1 hin
        have ho : ops[i]? = some ops[i] := Array.getElem?_eq_getElem hin'
        simp only [Bool.and_eq_true, Bool.not_eq_true', ho, Option.map_some, Option.getD_some] at hrd
        obtain ⟨hun, hall⟩ := hrd
        rw [Array.all_eq_true'] at hall
        have hedge : ∀ e ∈ ops[i].after, Region.binds .any e = true → listed.getD e.on false = true := fun e he hb => by
          have := hall e he
          simpa [hb] using this
        have hli : i < listed.size := by rw [hh.size]; exact hin'
        by_cases him : i = m
        · subst him
          have hrest : Region.linearise.go .any ops fuel (t / (Region.ready .any ops listed).length) (listed.setIfInBounds i true) [] = [] := by
            have hothers : ∀ j, j < ops.size → (listed.setIfInBounds i true).getD j true = true := fun j hj => by
              rw [getD_true (by simp [hh.size]; exact hj), getD_set _ _ _ hli]
              by_cases e : j = i
              · rw [if_pos e]
              · rw [if_neg e]
                have hreach := (drawOk_at hok (Array.getElem?_eq_getElem hj)).2.2.2.2.1.resolve_left e
                exact hh.reach _ i j hreach fun o' ho' => by rw [ho] at ho'; cases ho'; exact hedge
            cases fuel with
            | zero => rfl
            | succ f =>
              simp only [Region.linearise.go]
              have : (List.range ops.size).filter (fun j => !(listed.setIfInBounds i true).getD j true && ((ops[j]?).map (·.after.all fun e => !Region.binds .any e || (listed.setIfInBounds i true).getD e.on false)).getD false) = [] := by
                rw [List.filter_eq_nil_iff]
                intro j hj
                rw [hothers j (List.mem_range.1 hj)]
                simp
              rw [this]
              rfl
          rw [hrest]
          have hfull : a' = putsV ops V (List.range i) a := hh.full hok fun j hj => by
            have hj' : j < ops.size := by omega
            have hreach := (drawOk_at hok (Array.getElem?_eq_getElem hj')).2.2.2.2.1.resolve_left (by omega)
            exact hh.reach _ i j hreach fun o' ho' => by rw [ho] at ho'; cases ho'; exact hedge
          rw [hfull]
          exact hlast k w hS
        · have heval := hh.eval hok ho him hedge
          have hwant : Region.wanted ops[i] (yielded ops a'.tmps) = true := by unfold Region.wanted; rw [(drawOk_at hok ho).2.1]
          have hstep := hh.step hok ho him hedge
          have hcnt : ((List.range ops.size).filter fun j => !(listed.setIfInBounds i true).getD j true).length ≤ fuel := by
            have e : (List.range ops.size).filter (fun j => !(listed.setIfInBounds i true).getD j true) = ((List.range ops.size).filter fun j => !listed.getD j true).filter fun j => j != i := by
              rw [List.filter_filter]
              refine List.filter_congr fun j hj => ?_
              have hj' := List.mem_range.1 hj
              rw [getD_true (by simp [hh.size]; exact hj'), getD_set _ _ _ hli, getD_true (by rw [hh.size]; exact hj')]
              by_cases e : j = i
              · simp [e]
              · simp [e]
            have hmi : i ∈ (List.range ops.size).filter fun j => !listed.getD j true := List.mem_filter.2 ⟨hin, by rw [hun]; rfl⟩
            have hlt := (List.length_filter_lt_length_iff_exists (p := fun j => j != i) (l := (List.range ops.size).filter fun j => !listed.getD j true)).2 ⟨i, hmi, by simp⟩
            rw [e]; omega
          rcases hop i _ ho him with hv | ⟨f, args, hrun, hcall⟩
          · refine hJ.own _ _ _ rfl rfl fun w₁ hR => ?_
            have hS1 := hSR _ _ _ hS hR
            obtain ⟨g1, g2⟩ := hv k w₁ hS1
            rw [← heval] at g1 g2
            refine ⟨_, w₁, _, stepG_value ho hwant hb g1, g2, ?_⟩
            rw [grow_self]
            exact ih _ _ _ k w₁ hstep hcnt hS1
          · refine hJ.own _ _ _ rfl rfl fun w₁ hR => ?_
            have hS1 := hSR _ _ _ hS hR
            obtain ⟨g1, g2⟩ := hrun w₁
            rw [← heval] at g1 g2
            refine ⟨_, w₁, _, stepG_enter ho hwant hb g1, ?_, ?_⟩
            · simp only [Go.Conc.listed, g2, seen_empty]; exact .idle k w₁
            · rw [grow_self]
              refine hcall k w₁ _ cs hS1 fun k1 w1 hS2 => ?_
              rw [show (b.at a' (.inRegion ops (i :: Region.linearise.go .any ops fuel (t / (Region.ready .any ops listed).length) (listed.setIfInBounds i true) []) :: K)).finish (V i) = b.at (a'.put ops[i].dst (V i)) (.inRegion ops (Region.linearise.go .any ops fuel (t / (Region.ready .any ops listed).length) (listed.setIfInBounds i true) []) :: K) by rw [Frame.finish_at, ho]; rfl]
              exact ih _ _ _ k1 w1 hstep hcnt hS2
  refine hJ.own _ _ _ rfl rfl fun w₁ hR => ⟨_, w₁.at (w₁.drawn + 1), #[], stepG_region_draw, ⟨.at k w₁ _, by simp⟩, ?_⟩
  have hsz : (w₁.at (w₁.drawn + 1)).heap.size = w₁.heap.size := rfl
  rw [hsz, grow_self]
  simp only [Region.schedule, hmx, Bool.true_or, if_true]
  refine key ops.size _ _ a k _ ⟨by simp, rfl, rfl, fun t ht => ?_, fun j o hj => ?_, ?_⟩ ?_ (hSd _ _ _ (hSR _ _ _ h0 hR))
  · unfold valAt
    have hrep : ∀ j, (Array.replicate ops.size false).getD j false = false := fun j => by
      rw [Array.getD_eq_getD_getElem?, Array.getElem?_replicate]
      split <;> rfl
    cases prodOf ops t with
    | none => rfl
    | some j => simp only [hrep]; rfl
  · exfalso
    rw [Array.getD_eq_getD_getElem?, Array.getElem?_replicate] at hj
    split at hj <;> simp at hj
  · rw [Array.getD_eq_getD_getElem?, Array.getElem?_replicate]
    split <;> rfl
  · exact Nat.le_trans (List.length_filter_le _ _) (by simp)
end
end
end Go.Proofs.Yticdjkkcfdbdcaa

/- A region in the text's order, in company; single operations. No program; no conditions but those named. -/
namespace Go.Proofs.Yticdjkkcfdbdcaa
open Go.Conc Go.ConcN

/-- What is asked of the region's text. -/
def textOk (ops : Array Oper) (m : Nat) : Bool :=
  decide (m ≤ ops.size) && (List.range ops.size).all fun i => match ops[i]? with
    | none => false
    | some o => (match o.op with | .select _ _ => false | _ => true) && (match o.dst with | none => true | some d => prodOf ops d == some i) &&
      (decide (m ≤ i) || (o.guard.isNone && o.op.operands.all fun x => match x with
        | .tmp t => (match prodOf ops t with | none => true | some j => decide (j < i) || decide (m ≤ j))
        | _ => true))
/-- An operation that yields v and turns nothing, what it lists being allowed. -/
def OpV (P : Program) (fn : FuncId) (e : Operand → Value) (o : Oper) (k : LK) (w : World) (v : Value) : Prop :=
  (execOp e o).run P w = .ok (.value v) w ∧ Own k w w (seen P fn ((execOp e o).events P w #[]))
section
variable {ops : Array Oper} {m : Nat} {V : Nat → Value}
theorem textOk_at (h : textOk ops m = true) {i : Nat} {o : Oper} (ho : ops[i]? = some o) : m ≤ ops.size ∧ (∀ cs b, o.op ≠ .select cs b) ∧ (∀ d, o.dst = some d → prodOf ops d = some i) ∧
    (m ≤ i ∨ (o.guard = none ∧ ∀ x ∈ o.op.operands, ∀ t, x = .tmp t → ∀ j, prodOf ops t = some j → j < i ∨ m ≤ j)) := by
  unfold textOk at h
  simp only [Bool.and_eq_true, decide_eq_true_eq] at h
  have hi : i < ops.size := (Array.getElem?_eq_some_iff.1 ho).1
  have := List.all_eq_true.1 h.2 i (List.mem_range.2 hi)
  rw [ho] at this
  simp only [Bool.and_eq_true, Bool.or_eq_true, decide_eq_true_eq] at this
  obtain ⟨⟨h2, h5⟩, h6⟩ := this
  refine ⟨h.1, fun cs b e => ?_, fun d hd => ?_, h6.imp id fun h6 => ⟨by simpa using h6.1, fun x hx t hxt j hj => ?_⟩⟩
  · rw [e] at h2; cases h2
  · rw [hd] at h5; simpa using h5
  · have h7 := h6.2
    rw [Array.all_eq_true'] at h7
    have := h7 x hx
    subst hxt
    simpa only [hj, Bool.or_eq_true, decide_eq_true_eq] using this
theorem putsV_append : ∀ (l l' : List Nat) (a : Act), putsV ops V (l ++ l') a = putsV ops V l' (putsV ops V l a)
  | [], l', a => rfl
  | i :: l, l', a => putsV_append l l' _
/-- What the temporaries hold behind the first m. -/
theorem puts_new (hd : ∀ i o, ops[i]? = some o → ∀ d, o.dst = some d → prodOf ops d = some i) {a : Act} {t j : Nat} (hp : prodOf ops t = some j) (hj : j < m) (ht : t < a.tmps.size) : (putsV ops V (List.range m) a).eval (.tmp t) = V j := by
  show (putsV ops V (List.range m) a).tmps.getD t undef = _
  rw [(putsV_val hd (List.range m) a).2.2 t ht, hp]
  simp [hj]
theorem puts_old (hd : ∀ i o, ops[i]? = some o → ∀ d, o.dst = some d → prodOf ops d = some i) {a : Act} {t : Nat} (hp : prodOf ops t = none) : (putsV ops V (List.range m) a).eval (.tmp t) = a.eval (.tmp t) := by
  show (putsV ops V (List.range m) a).tmps.getD t undef = a.tmps.getD t undef
  by_cases ht : t < a.tmps.size
  · rw [(putsV_val hd (List.range m) a).2.2 t ht, hp]
  · rw [Array.getD_eq_getD_getElem?, Array.getD_eq_getD_getElem?, Array.getElem?_eq_none (Nat.not_lt.1 ht), Array.getElem?_eq_none (by rw [(putsV_val hd (List.range m) a).1]; exact Nat.not_lt.1 ht)]
/-- .. of a temporary that only a later one writes. -/
theorem puts_late (hd : ∀ i o, ops[i]? = some o → ∀ d, o.dst = some d → prodOf ops d = some i) {a : Act} {t j : Nat} (hp : prodOf ops t = some j) (hj : m ≤ j) : (putsV ops V (List.range m) a).eval (.tmp t) = a.eval (.tmp t) := by
  show (putsV ops V (List.range m) a).tmps.getD t undef = a.tmps.getD t undef
  by_cases ht : t < a.tmps.size
  · rw [(putsV_val hd (List.range m) a).2.2 t ht, hp]
    have : ¬ j < m := by omega
    simp [this]
  · rw [Array.getD_eq_getD_getElem?, Array.getD_eq_getD_getElem?, Array.getElem?_eq_none (Nat.not_lt.1 ht), Array.getElem?_eq_none (by rw [(putsV_val hd (List.range m) a).1]; exact Nat.not_lt.1 ht)]
theorem puts_size (hd : ∀ i o, ops[i]? = some o → ∀ d, o.dst = some d → prodOf ops d = some i) (a : Act) : (putsV ops V (List.range m) a).tmps.size = a.tmps.size := (putsV_val hd (List.range m) a).1
theorem puts_defers (hd : ∀ i o, ops[i]? = some o → ∀ d, o.dst = some d → prodOf ops d = some i) (a : Act) : (putsV ops V (List.range m) a).defers = a.defers := (putsV_val hd (List.range m) a).2.1
theorem drawOk_d (h : drawOk ops m = true) : ∀ i o, ops[i]? = some o → ∀ d, o.dst = some d → prodOf ops d = some i := fun i o ho => (drawOk_at h ho).2.2.2.2.2.1
theorem textOk_d (h : textOk ops m = true) : ∀ i o, ops[i]? = some o → ∀ d, o.dst = some d → prodOf ops d = some i := fun i o ho => (textOk_at h ho).2.2.1
theorem drop_range : ∀ {i n : Nat}, i < n → (List.range n).drop i = i :: (List.range n).drop (i + 1) := fun {i n} h => by
  rw [List.drop_eq_getElem_cons (by simpa using h)]
  simp
section
variable {P : Program} {J : LK → Goroutine → World → Prop} {main : Bool} {R : LK → World → World → Prop}
/-- ████ A REGION IN THE TEXT's ORDER: its first m operations yield V; the others are left to be stepped. ████ -/
theorem j_text (hJ : JOk P main R J) (hok : textOk ops m = true) (S : LK → World → Prop) (hSR : ∀ k w w₁, S k w → R k w w₁ → S k w₁) (V : Nat → Value) {id : Nat} {b : Frame} {K : List Item} {cs : List Frame} {a : Act} (hb : b.kind ≠ .early)
    (hop : ∀ i o, ops[i]? = some o → i < m → ∀ k w, S k w → OpV P b.fn (putsV ops V (List.range m) a).eval o k w (V i))
    (hlast : ∀ k w, S k w → J k (G (b.at (putsV ops V (List.range m) a) (.inRegion ops ((List.range ops.size).drop m) :: K)) cs) w) {k : LK} {W : World} (h0 : S k W) : J k (G (b.at a (.code (.region id ops false) :: K)) cs) W := by
  have hm : m ≤ ops.size := by
    have hok' := hok
    unfold textOk at hok'; simp only [Bool.and_eq_true, decide_eq_true_eq] at hok'; exact hok'.1
  have hd := textOk_d hok
  have key : ∀ n i, m = i + n → ∀ k w, S k w → J k (G (b.at (putsV ops V (List.range i) a) (.inRegion ops ((List.range ops.size).drop i) :: K)) cs) w := by
    intro n
    induction n with
    | zero => intro i hi k w hS; obtain rfl : m = i := by omega
              exact hlast k w hS
    | succ n ih =>
      intro i hi k w hS
      have hio : i < ops.size := by omega
      have ho : ops[i]? = some ops[i] := Array.getElem?_eq_getElem hio
      rw [drop_range hio]
      obtain ⟨_, hs, _, h4⟩ := textOk_at hok ho
      obtain ⟨hg, hx⟩ := h4.resolve_left (by omega)
      have heval : execOp (putsV ops V (List.range i) a).eval ops[i] = execOp (putsV ops V (List.range m) a).eval ops[i] := by
        refine execOp_congr _ hs fun x hxm => ?_
        cases x with
        | const v => rfl
        | global g => rfl
        | func f => rfl
        | tmp t =>
          cases hp : prodOf ops t with
          | none => rw [puts_old hd hp, puts_old hd hp]
          | some j =>
            rcases hx _ hxm t rfl j hp with hj | hj
            case inr => rw [puts_late hd hp (by omega), puts_late hd hp hj]
            by_cases ht : t < a.tmps.size
            · rw [puts_new hd hp hj ht, puts_new hd hp (by omega) ht]
            · show (putsV ops V (List.range i) a).tmps.getD t undef = (putsV ops V (List.range m) a).tmps.getD t undef
              have q1 : (putsV ops V (List.range i) a).tmps[t]? = none := Array.getElem?_eq_none (by rw [puts_size hd]; exact Nat.not_lt.1 ht)
              have q2 : (putsV ops V (List.range m) a).tmps[t]? = none := Array.getElem?_eq_none (by rw [puts_size hd]; exact Nat.not_lt.1 ht)
              rw [Array.getD_eq_getD_getElem?, Array.getD_eq_getD_getElem?, q1, q2]
      have hwant : Region.wanted ops[i] (yielded ops (putsV ops V (List.range i) a).tmps) = true := by unfold Region.wanted; rw [hg]
      refine hJ.own _ _ _ rfl rfl fun w₁ hR => ?_
      have hS1 := hSR _ _ _ hS hR
      obtain ⟨g1, g2⟩ := hop i _ ho (by omega) k w₁ hS1
      rw [← heval] at g1 g2
      refine ⟨_, w₁, _, stepG_value ho hwant hb g1, g2, ?_⟩
      rw [grow_self]
      have e : (putsV ops V (List.range i) a).put ops[i].dst (V i) = putsV ops V (List.range (i + 1)) a := by
        rw [List.range_succ, putsV_append]
        simp only [putsV, ho, Option.bind_some]
      rw [e]
      exact ih (i + 1) (by omega) k w₁ hS1
  refine j_ctl hJ (fun w => stepG_region) fun w₁ hr => ?_
  have := key m 0 (by omega) k w₁ (hSR _ _ _ h0 hr)
  simpa [putsV] using this
/-- One operation that yields a value. -/
theorem j_val (hJ : JOk P main R J) (S : LK → World → Prop) (hSR : ∀ k w w₁, S k w → R k w w₁ → S k w₁) {b : Frame} {K : List Item} {cs : List Frame} {a : Act} (hb : b.kind ≠ .early) {i : Nat} {rest : List Nat} {o : Oper} {v : Value} (ho : ops[i]? = some o) (hw : Region.wanted o (yielded ops a.tmps) = true)
    (hop : ∀ k w, S k w → OpV P b.fn a.eval o k w v) (hn : ∀ k w, S k w → J k (G (b.at (a.put o.dst v) (.inRegion ops rest :: K)) cs) w) {k : LK} {W : World} (h0 : S k W) : J k (G (b.at a (.inRegion ops (i :: rest) :: K)) cs) W :=
  hJ.own _ _ _ rfl rfl fun w₁ hR => by
    have hS1 := hSR _ _ _ h0 hR
    obtain ⟨g1, g2⟩ := hop k w₁ hS1
    refine ⟨_, w₁, _, stepG_value ho hw hb g1, g2, ?_⟩
    rw [grow_self]
    exact hn k w₁ hS1
theorem j_end (hJ : JOk P main R J) (S : LK → World → Prop) (hSR : ∀ k w w₁, S k w → R k w w₁ → S k w₁) {b : Frame} {K : List Item} {cs : List Frame} {a : Act} (hn : ∀ k w, S k w → J k (G (b.at a K) cs) w) {k : LK} {W : World} (h0 : S k W) : J k (G (b.at a (.inRegion ops [] :: K)) cs) W :=
  j_ctl hJ (fun w => stepG_region_end) fun w₁ hR => hn k w₁ (hSR _ _ _ h0 hR)
end
end
/-! ### single operations -/
section
variable {P : Program} {fn : FuncId} {e : Operand → Value} {o : Oper} {k : LK} {w : World}
theorem opv_pure {v : Value} (h : ∀ w, (execOp e o).run P w = .ok (.value v) w ∧ (execOp e o).events P w #[] = #[]) : OpV P fn e o k w v := by
  obtain ⟨h1, h2⟩ := h w
  exact ⟨h1, by rw [h2, seen_empty]; exact .idle k w⟩
theorem opv_move {x : Operand} (hop : o.op = .move x ∨ o.op = .assign x) : OpV P fn e o k w (e x) := by
  refine opv_pure fun w => ?_
  have : execOp e o = pure (.value (e x)) := by rcases hop with h | h <;> simp only [execOp, h]
  rw [this]
  exact ⟨rfl, rfl⟩
theorem opv_load {t : TypeId} {x : Operand} {p : Addr} {v : Value} (hop : o.op = .load t x) (hx : e x = .pointer (some p)) (hag : ∀ w, (isAgg t).run P w = .ok false w) (hc : w.cell? p = some v) (hl : k.W (.cell p) ∨ k.R (.cell p)) : OpV P fn e o k w v := by
  refine ⟨by simp [go_sem, hop, hx, hag, hc, execOp, Instr.loadAt], ?_⟩
  have h2 : (execOp e o).events P w #[] = #[⟨.cell p, false, false⟩] := by simp [go_sem, hop, hx, hag, hc, execOp, Instr.loadAt]
  rw [h2]
  exact (own_read hc hl).seen fn
theorem runU {t : TypeId} {d : TypeDesc} (ht : P.underlying t = some d) (w : World) : (underlying t).run P w = .ok d w := by
  have : (underlying t).run P w = (match P.underlying t with | some d => (pure d : Sem TypeDesc) | none => stuck "no such type").run P w := rfl
  rw [this, ht]
  rfl
theorem opv_index {t elem : TypeId} {x i : Operand} {p : Addr} {len cap sz : Nat} {n : Int} {kk : IntKind} (hop : o.op = .indexAddr t x i) (hx : e x = .slice (some p) len cap) (hi : e i = .int kk n) (h0 : 0 ≤ n) (h1 : n < len) (ht : P.underlying t = some (.slice elem)) (hsz : ∀ w, (Go.sizeOf elem).run P w = .ok sz w) : OpV P fn e o k w (.pointer (some (p.add (n.toNat * sz)))) := by
  refine opv_pure fun w => ⟨?_, ?_⟩
  · simp [go_sem, hop, hx, hi, ht, runU ht, hsz, h0, h1, execOp, Instr.indexAt]
  · simp [go_sem, hop, hx, hi, ht, runU ht, hsz, h0, h1, execOp, Instr.indexAt]
/-- A store of one cell. -/
theorem op_store {t : TypeId} {x y : Operand} {p : Addr} {v u : Value} (hop : o.op = .store t x y) (hx : e x = .pointer (some p)) (hy : e y = v) (ho : (∀ c, v ≠ .agg c) ∧ ∀ c, v ≠ .tuple c) (hsz : ∀ w, (Go.sizeOf t).run P w = .ok 1 w) (hc : w.cell? p = some u) (hz : w.frozen? p = false) (hl : k.W (.cell p)) :
    (execOp e o).run P w = .ok .skip (w.setCell p v) ∧ Own k w (w.setCell p v) (seen P fn ((execOp e o).events P w #[])) := by
  have hst : (store p v : Sem Unit).runT P w #[] = (.ok () (w.setCell p v), #[⟨.cell p, true, false⟩]) := by
    show (Sem.store .plain p v (.pure ())).runT P w #[] = _
    rw [runT_store ho.1 ho.2, hc, hz]
    simp [Sem.runT, -Sem.runT_eq]
  rw [Sem.runT_eq] at hst
  obtain ⟨s1, s2⟩ := Prod.mk.inj hst
  have hadd : p.add 0 = p := by unfold Addr.add; split <;> simp_all
  have h1 : (execOp e o).run P w = .ok .skip (w.setCell p v) := by
    cases v <;> first | exact absurd rfl (ho.1 _) | exact absurd rfl (ho.2 _) | simp [go_sem, hop, hx, hy, hsz, hadd, s1, hc, hz, execOp, Instr.storeAt, storeVar, storeCells]
  have h2 : (execOp e o).events P w #[] = #[⟨.cell p, true, false⟩] := by
    cases v <;> first | exact absurd rfl (ho.1 _) | exact absurd rfl (ho.2 _) | simp [go_sem, hop, hx, hy, hsz, hadd, s2, hc, hz, execOp, Instr.storeAt, storeVar, storeCells]
  refine ⟨h1, ?_⟩
  rw [h2]
  exact (own_write hc hl).seen fn
end
end Go.Proofs.Yticdjkkcfdbdcaa

/- A call that looks at no memory, in company. No program; no conditions but those named. -/
namespace Go.Proofs.Yticdjkkcfdbdcaa
open Go.Conc Go.ConcN
/-- A type that is none. -/
structure BadT (P : Program) (bad : TypeId) : Prop where
  cell : ∀ c o n, cellAtBytes P P.depth bad c o n = none
  none : P.info? bad = none
def renNone (P : Program) (bad : TypeId) : Ren := { to := fun _ => none, base := P.globals.size, own := fun _ => False, isChan := fun _ => False, bad := bad, part := fun _ => False, ok := fun _ _ h => by cases h }
def blank (P : Program) (bad : TypeId) (w : World) : World := { w with heap := Array.replicate P.globals.size (.cells #[] bad) }
theorem mir_none {S : FnSet} {P : Program} {bad : TypeId} (hb : BadT P bad) {w : World} (hw : P.globals.size ≤ w.heap.size) (k : LK) : Mir S P (renNone P bad) k (blank P bad w) w := by
  have none' : ∀ b, renNone P bad b = none := fun b => rfl
  refine ⟨?_, ⟨Nat.le_refl _, hb.cell, hb.none⟩⟩
  constructor
  · intro b o ho
    simp only [blank, Array.getElem?_replicate] at ho
    split at ho
    · cases ho; exact .inl ⟨_, _, _, rfl⟩
    · cases ho
  · exact ⟨by simp [blank, renNone], hw⟩
  · intro b n x c s r t h
    simp only [blank, Array.getElem?_replicate] at h
    split at h <;> cases h
  · exact fun b h => h.elim False.elim False.elim
  · exact fun b c s h => by rw [none'] at h; cases h
  · exact fun b c s x e fz h => by rw [none'] at h; cases h
  · exact fun b c s x e fz h => by rw [none'] at h; cases h
  · exact fun b c s o h => by rw [none'] at h; cases h
  · exact fun b c s o h => by rw [none'] at h; cases h
  · exact fun b o h => h.elim
  · exact fun b b' c s s' x x' e e' fz fz' i i' h => by rw [none'] at h; cases h
  · exact fun b b' c s s' o o' h => by rw [none'] at h; cases h
  · exact fun b c s n x cl sn rc t h => by rw [none'] at h; cases h
def Plain (v : Value) : Prop := ∀ S ρ v', VR S ρ v v' → v' = v
theorem plain_int (k : IntKind) (n : Int) : Plain (.int k n) := fun S ρ v' h => by cases h; rfl
theorem plain_bool (b : Bool) : Plain (.bool b) := fun S ρ v' h => by cases h; rfl
section
variable {S : FnSet} {P : Program} {J : LK → Goroutine → World → Prop} {main : Bool} {R : LK → World → World → Prop}
theorem pure_call (hJ : JOk P main R J) (hO : OkFns S P) {bad : TypeId} (hb : BadT P bad) {f : FuncId} (hf : S.call f) {args : Array Value} (hargs : ∀ v ∈ args, Bare v) {r : Value} (hr : Plain r) (h : ∀ w, Calls P f args w (fun | .returned v, _ => v = r | _, _ => False))
    {c' : Frame} {base : List Frame} {k : LK} {W : World} (hW : P.globals.size ≤ W.heap.size) (hm : ∀ l, k.W l ∨ k.R l → MemLoc W.heap.size l) (hj : ∀ k1 W1, Rely k W W1 → Up k W.heap.size k1 W1.heap.size → J k1 (G (c'.finish r) base) W1) : J k (G (Frame.enter P f args .normal) (c' :: base)) W := by
  have h1 := MCalls.lone (JF.ok hJ hm) hO hf (up := true) (R' := fun v _ => v = r) (args := args) (L := blank P bad W) fun T => h _
  have h2 := h1 c' base (renNone P bad) LK.nil W args (mir_none hb hW LK.nil) ⟨rfl, fun i v v' e1 e2 => by rw [e1] at e2; cases e2; exact (hargs v (Array.mem_of_getElem? e1)).rel⟩ fun v v' L1 ρ1 k1 W1 q1 q2 q3 q4 q5 => fun hrel hd => by
    subst q1
    rw [hr _ _ _ q5]
    have hu := q3 rfl
    refine hj (k.plus k1) W1 hrel ⟨hu.size, fun l hl => .inl hl, fun l hl => hl.elim .inl fun x => (hu.new l x).elim False.elim .inr, ?_, ?_⟩
    · have := hu.R; simp only [LK.plus, this, LK.nil, or_false]
    · have := hu.A; simp only [LK.plus, this, LK.nil, or_false]
  have h3 := h2 (.refl _ _) fun l _ h => h
  rw [LK.plus_nil] at h3
  exact h3
end
end Go.Proofs.Yticdjkkcfdbdcaa

/- Single operations on ints, calls through values; goroutines under a group bear steps of their own. No program; no conditions but those named. -/
namespace Go.Proofs.Yticdjkkcfdbdcaa
open Go.Conc Go.ConcN
section
variable {P : Program} {fn : FuncId} {e : Operand → Value} {o : Oper} {k : LK} {w : World} {t yt : TypeId} {x y : Operand} {a b : Int}
theorem opv_add (hop : o.op = .binOp .add t x y yt) (hx : e x = .int .i64 a) (hy : e y = .int .i64 b) (ht : P.underlying t = some (.int .i64)) : OpV P fn e o k w (.int .i64 (IntKind.i64.wrap (a + b))) :=
  opv_pure fun w => ⟨by simp [go_sem, hop, hx, hy, ht, runU ht, execOp], by simp [go_sem, hop, hx, hy, ht, runU ht, execOp]⟩
theorem opv_sub (hop : o.op = .binOp .sub t x y yt) (hx : e x = .int .i64 a) (hy : e y = .int .i64 b) (ht : P.underlying t = some (.int .i64)) : OpV P fn e o k w (.int .i64 (IntKind.i64.wrap (a - b))) :=
  opv_pure fun w => ⟨by simp [go_sem, hop, hx, hy, ht, runU ht, execOp], by simp [go_sem, hop, hx, hy, ht, runU ht, execOp]⟩
theorem opv_lss (hop : o.op = .binOp .lss t x y yt) (hx : e x = .int .i64 a) (hy : e y = .int .i64 b) (ht : P.underlying t = some (.int .i64)) : OpV P fn e o k w (.bool (decide (a < b))) :=
  opv_pure fun w => ⟨by simp [go_sem, hop, hx, hy, ht, runU ht, execOp], by simp [go_sem, hop, hx, hy, ht, runU ht, execOp]⟩
theorem opv_gtr (hop : o.op = .binOp .gtr t x y yt) (hx : e x = .int .i64 a) (hy : e y = .int .i64 b) (ht : P.underlying t = some (.int .i64)) : OpV P fn e o k w (.bool (decide (b < a))) :=
  opv_pure fun w => ⟨by simp [go_sem, hop, hx, hy, ht, runU ht, execOp], by simp [go_sem, hop, hx, hy, ht, runU ht, execOp]⟩
theorem opv_pick {z : Operand} {c : Bool} (hop : o.op = .pick x y z) (hx : e x = .bool c) : OpV P fn e o k w (if c then e y else e z) :=
  opv_pure fun w => ⟨by cases c <;> simp [go_sem, hop, hx, execOp], by cases c <;> simp [go_sem, hop, hx, execOp]⟩
theorem op_call {n : FuncId} {first captured : Array Value} {args : Array Operand} {ats : Array TypeId} (hop : o.op = .call { callee := .value x, args := args, argTypes := ats }) (hx : e x = .func (.func n) first captured) (hbody : ∃ g, P.funcs[n]? = some g ∧ (g.name == "runtime.NumGoroutine") = false ∧ g.body.isNone = false) (w : World) :
    (execOp e o).run P w = .ok (.enter n (first ++ args.map e ++ captured)) w ∧ (execOp e o).events P w #[] = #[] := by
  obtain ⟨g, g1, g2, g3⟩ := hbody
  have : execOp e o = callFunc n (first ++ args.map e ++ captured) := by
    simp only [execOp, hop, resolve, Deferred.ofValue, hx]
    rfl
  have hrun : (execOp e o).runT P w #[] = (.ok (.enter n (first ++ args.map e ++ captured)) w, #[]) := by
    rw [this]
    show Sem.runT P (Sem.bind program _) w #[] = _
    simp only [program, Sem.bind, Sem.runT]
    simp only [g1, g2, g3, Bool.false_eq_true, if_false]
    rfl
  rw [Sem.runT_eq] at hrun
  exact ⟨(Prod.mk.inj hrun).1, (Prod.mk.inj hrun).2⟩
end
section
variable {P : Program} {fm : Fam} {ty : TypeId} {Wg m0 p0 tot : Nat} {Shun : Loc → Prop} {Anc : Goroutine → World → Prop}
theorem wp_jok (ok : fm.Ok Wg) (i : Nat) {s : WSt fm.τ} (hal : ¬ s.rel) : JOk P (i == 0) (fun k w w₁ => Rely k w w₁ ∧ fm.GR i w w₁) (fun k g w => WP (wgProto P fm ty Wg m0 p0 tot Shun Anc) i k s g w) where
  own k g w hr ho h := wp_own ok hal hr ho fun w₁ h1 h2 => h w₁ ⟨h1, h2⟩
  rel _ _ _ h := h.1
theorem win_jok {Post : Value → World → Prop} {n0 : Nat} {W0 : World} : JOk P true (fun _ w w₁ => ∃ d, w₁ = w.at d) (fun k g w => Win P Post n0 W0 k g w) where
  own k g w hr ho h := win_own hr fun d => by
    obtain ⟨g', w', es, h1, h2, h3⟩ := h (w.at d) ⟨d, rfl⟩
    exact ⟨g', w', es, h1, h2, h3⟩
  rel k w w₁ h := by obtain ⟨d, rfl⟩ := h; exact .at k w d
end
/-! ### moves -/
section
variable {P : Program} {J : LK → Goroutine → World → Prop} {main : Bool} {R : LK → World → World → Prop} (hJ : JOk P main R J) (S : LK → World → Prop) (hSR : ∀ k w w₁, S k w → R k w w₁ → S k w₁)
  {b : Frame} {K : List Item} {cs : List Frame} {a : Act} {k : LK} {W : World}
include hJ hSR
theorem js_seq {x y : Code} (h : ∀ k w, S k w → J k (G (b.at a (.code x :: .code y :: K)) cs) w) (h0 : S k W) : J k (G (b.at a (.code (.seq x y) :: K)) cs) W := j_ctl hJ (fun _ => stepG_seq) fun w₁ hR => h k w₁ (hSR _ _ _ h0 hR)
theorem js_skip (h : ∀ k w, S k w → J k (G (b.at a K) cs) w) (h0 : S k W) : J k (G (b.at a (.code .skip :: K)) cs) W := j_ctl hJ (fun _ => stepG_skip) fun w₁ hR => h k w₁ (hSR _ _ _ h0 hR)
theorem js_block {id : Nat} {c : Code} (h : ∀ k w, S k w → J k (G (b.at a (.code c :: .inBlock id :: K)) cs) w) (h0 : S k W) : J k (G (b.at a (.code (.block id c) :: K)) cs) W := j_ctl hJ (fun _ => stepG_block) fun w₁ hR => h k w₁ (hSR _ _ _ h0 hR)
theorem js_inBlock {id : Nat} (h : ∀ k w, S k w → J k (G (b.at a K) cs) w) (h0 : S k W) : J k (G (b.at a (.inBlock id :: K)) cs) W := j_ctl hJ (fun _ => stepG_inBlock) fun w₁ hR => h k w₁ (hSR _ _ _ h0 hR)
theorem js_loop {c : Code} (h : ∀ k w, S k w → J k (G (b.at a (.code c :: .inLoop c :: K)) cs) w) (h0 : S k W) : J k (G (b.at a (.code (.loop c) :: K)) cs) W := j_ctl hJ (fun _ => stepG_loop) fun w₁ hR => h k w₁ (hSR _ _ _ h0 hR)
theorem js_inLoop {c : Code} (h : ∀ k w, S k w → J k (G (b.at a (.code c :: .inLoop c :: K)) cs) w) (h0 : S k W) : J k (G (b.at a (.inLoop c :: K)) cs) W := j_ctl hJ (fun _ => stepG_inLoop) fun w₁ hR => h k w₁ (hSR _ _ _ h0 hR)
theorem js_cond {c : Operand} {x y : Code} {t : Bool} (hc : a.eval c = .bool t) (h : ∀ k w, S k w → J k (G (b.at a (.code (if t then x else y) :: K)) cs) w) (h0 : S k W) : J k (G (b.at a (.code (.cond c x y) :: K)) cs) W := j_ctl hJ (fun _ => stepG_cond hc) fun w₁ hR => h k w₁ (hSR _ _ _ h0 hR)
theorem js_exit {id : Nat} {K1 : List Item} (hk : exitTo id K = some K1) (h : ∀ k w, S k w → J k (G (b.at a K1) cs) w) (h0 : S k W) : J k (G (b.at a (.code (.exit id) :: K)) cs) W := j_ctl hJ (fun _ => stepG_exit hk) fun w₁ hR => h k w₁ (hSR _ _ _ h0 hR)
theorem js_end (h : ∀ k w, S k w → J k (G { b.at a [] with mode := .returning } cs) w) (h0 : S k W) : J k (G (b.at a []) cs) W := j_ctl hJ (fun _ => stepG_end) fun w₁ hR => h k w₁ (hSR _ _ _ h0 hR)
theorem js_regend {ops : Array Oper} (h : ∀ k w, S k w → J k (G (b.at a K) cs) w) (h0 : S k W) : J k (G (b.at a (.inRegion ops [] :: K)) cs) W := j_ctl hJ (fun _ => stepG_region_end) fun w₁ hR => h k w₁ (hSR _ _ _ h0 hR)
/-- A frame without results leaves. -/
theorem js_leave0 {fn : Func} {todo : List Item} {c : Frame} (hn : b.kind = .normal) (hd : a.defers = []) (hf : P.funcs[b.fn]? = some fn) (hr : fn.results = #[]) (h : ∀ k w, S k w → J k (G (c.finish (.tuple #[])) cs) w) (h0 : S k W) : J k (G { b.at a todo with mode := .returning } (c :: cs)) W := by
  have hres : results fn a.tmps = .pure (.tuple #[]) := by
    have e := results_tmps (fn := fn) (by intro i r h; rw [hr] at h; simp at h) a.tmps
    have e2 : resVals fn a.tmps = #[] := by simp [resVals, hr]
    rw [e, e2]
    rfl
  exact j_ctl hJ (fun w => stepG_leave hn hd hf (by rw [hres]; rfl) (by rw [hres]; rfl)) fun w₁ hR => h k w₁ (hSR _ _ _ h0 hR)
end
end Go.Proofs.Yticdjkkcfdbdcaa
