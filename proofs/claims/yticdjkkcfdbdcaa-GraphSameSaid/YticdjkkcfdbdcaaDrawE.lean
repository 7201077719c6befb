/- Goroutine 0 beside leavers, on whatever tape, to the end of the run: what it owns, what was there at first and stands. No program; no conditions but those named. -/
import Derived.Test.YticdjkkcfdbdcaaMirL
import Derived.Test.YticdjkkcfdbdcaaWgM
import Derived.Orders
import Derived.Conc.CompanyDraw
import Derived.Conc.EventLaws
import Derived.Conc.DeferLaws
import Derived.Calls
namespace Go.Proofs.Yticdjkkcfdbdcaa
open Go.Conc Go.ConcN
def EndsWell (P : Program) (Post : Value → World → Prop) (m : Machine) (t : Trace) : Prop :=
  ∃ N last o w' t', runNT P (N + 1) m t = (.ended o w', t') ∧ runN P N m = .next last ∧ step P last = .ended o w' ∧ Good P Post last o w' t'
theorem EndsWell.step {P : Program} {Post : Value → World → Prop} {m m' : Machine} {t u : Trace} (h : stepT P m = (.next m', u)) (h' : EndsWell P Post m' (t ++ u)) : EndsWell P Post m t := by
  obtain ⟨N, last, o, w', t', h1, h2, h3, h4⟩ := h'
  have hs : Go.step P m = .next m' := by rw [Go.step, h]
  refine ⟨N + 1, last, o, w', t', ?_, ?_, h3, h4⟩
  · rw [runNT_succ_next h]; exact h1
  · simp only [runN, hs]; exact h2
theorem EndsWell.steps {P : Program} {Post : Value → World → Prop} : ∀ {N : Nat} {m m' : Machine} {t t' : Trace}, runNT P N m t = (.next m', t') → EndsWell P Post m' t' → EndsWell P Post m t
  | 0, m, m', t, t', h, h' => by simp only [runNT, Prod.mk.injEq, Stepped.next.injEq] at h; obtain ⟨rfl, rfl⟩ := h; exact h'
  | N + 1, m, m', t, t', h, h' => by
    cases hs : stepT P m with
    | mk s u =>
      cases s with
      | next m1 => rw [runNT_succ_next hs] at h; exact .step hs (EndsWell.steps h h')
      | ended o w => simp [runNT, hs] at h
/-- What was there at first stands, and nobody may write it. -/
structure Old (n0 : Nat) (W0 : World) (k : LK) (w : World) : Prop where
  size : n0 ≤ w.heap.size
  heap : ∀ b : Nat, b < n0 → w.heap[b]? = W0.heap[b]?
  os : w.os = W0.os
  output : w.output = W0.output
  lic : ∀ l, k.W l → ¬ MemLoc n0 l
  tape : w.tape = W0.tape
theorem Old.at {n0 : Nat} {W0 : World} {k : LK} {w : World} (h : Old n0 W0 k w) (d : Nat) : Old n0 W0 k (w.at d) := ⟨h.size, h.heap, h.os, h.output, h.lic, h.tape⟩
theorem block_same {k : LK} {w w' : World} (h : Chg k w w') {b : Nat} (hb : b < w.heap.size) (hc : ∀ o, ¬ k.W (.cell ⟨b, o, none⟩)) (ho : ¬ k.W (.obj b)) : w'.heap[b]? = w.heap[b]? := by
  have hs : w.heap[b]? = some w.heap[b] := Array.getElem?_eq_getElem hb
  rw [hs]
  by_cases hn : NotCells w.heap[b]
  · exact h.obj b _ hs hn ho
  · have : ∃ c e f, w.heap[b] = .cells c e f := Classical.byContradiction fun hx => hn fun c e f he => hx ⟨c, e, f, he⟩
    obtain ⟨c, e, f, he⟩ := this
    rw [he] at hs ⊢
    exact h.row hs hc
theorem Old.own {n0 : Nat} {W0 : World} {k : LK} {w w' : World} (h : Old n0 W0 k w) (hc : Chg k w w') : Old n0 W0 (k.grow w.heap.size w'.heap.size) w' := by
  refine ⟨Nat.le_trans h.size hc.size, fun b hb => ?_, hc.os.trans h.os, hc.output.trans h.output, fun l hl => ?_, hc.tape.trans h.tape⟩
  · rw [← h.heap b hb]
    exact block_same hc (Nat.lt_of_lt_of_le hb h.size) (fun o hw => h.lic _ hw hb) (fun hw => h.lic _ hw hb)
  · rcases hl with hl | hl
    · exact h.lic l hl
    · exact fun hm => hl.mem.2 (hm.mono h.size)
/-- Only shunned places were released. -/
def RelIn (Shun : Loc → Prop) (t : Trace) : Prop := ∀ op ∈ t, ∀ a, op.act = .mark (.release a) → Shun (.cell a)
theorem RelIn.app {Shun : Loc → Prop} {t u : Trace} (h : RelIn Shun t) (hu : ∀ op ∈ u, ∀ a, op.act ≠ .mark (.release a)) : RelIn Shun (t ++ u) := fun op hop a ha => by
  rcases Array.mem_append.1 hop with h1 | h1
  · exact h op h1 a ha
  · exact absurd ha (hu op h1 a)
theorem EvOk.noRelease {k : LK} {n n' : Nat} {e : Event} (h : EvOk k n n' e) (a : Addr) : MemAct.ofEvent e ≠ .mark (.release a) := fun hx => by
  have := loc_of_ofEvent' hx
  rcases h with h | ⟨_, h, _⟩
  · rw [h] at this; cases this
  · rw [this] at h; exact h
theorem EvOk.evL {Shun : Loc → Prop} {k : LK} {n n' : Nat} {e : Event} (h : EvOk k n n' e) (hk : ∀ l, k.W l ∨ k.R l → ¬ Shun l) (hs : ∀ l, Shun l → MemLoc n l) : EvL Shun n' e := by
  refine ⟨fun x hx hsh => ?_, h.still.1, h.still.2, h.low⟩
  obtain ⟨_, _, h3⟩ := h.touch hx
  rcases h3 with h3 | h3 | h3
  · exact absurd (hs _ hsh) h3.mem.2
  · exact absurd hsh (hk _ (.inl h3))
  · exact absurd hsh (hk _ (.inr h3.2))
section
variable (P : Program) (Post : Value → World → Prop) (n0 : Nat) (W0 : World)
/-- ████ FROM HERE THE RUN ENDS WELL, whoever is still leaving. ████ -/
def Win (k : LK) (g : Goroutine) (w : World) : Prop :=
  ∀ (Shun : Loc → Prop) (gs : Array Goroutine) (sl : Option (Nat × Nat)) (t : Trace) (q : Nat → Nat), Old n0 W0 k w → gs[0]? = some g → Leavers P t gs q → Past Shun w.heap.size t → RelIn Shun t → (∀ l, Shun l → MemLoc w.heap.size l) →
    (∀ l, k.W l ∨ k.R l → MemLoc w.heap.size l ∧ ¬ Shun l) → EndsWell P Post (crowd gs w sl) t
end
section
variable {P : Program} {Post : Value → World → Prop} {n0 : Nat} {W0 : World}
theorem win_own {k : LK} {g : Goroutine} {w : World} (hr : g.status = .running) (h : ∀ d, ∃ g' w' es, stepG P true g (w.at d) = .go g' w' es ∧ Own k (w.at d) w' es ∧ Win P Post n0 W0 (k.grow w.heap.size w'.heap.size) g' w') : Win P Post n0 W0 k g w := by
  intro Shun gs sl t q
  generalize hM : sumTo gs.size q = M
  induction M using Nat.strongRecOn generalizing gs sl t q w with
  | _ M ih =>
  intro hO h0 hL hP hRel hS hk
  have haw : ∀ g ∈ gs, awake g := by
    intro x hx
    obtain ⟨i, hi, rfl⟩ := Array.mem_iff_getElem.1 hx
    rcases Nat.eq_zero_or_pos i with rfl | hpos
    · have : gs[0] = g := by simpa [Array.getElem?_eq_getElem hi] using h0
      rw [this]; exact awake_of (.inl hr)
    · exact awake_of ((hL.old i _ hpos (Array.getElem?_eq_getElem hi)).status.elim .inl fun x => .inr (.inr x))
  obtain ⟨i, x, d, sl', hi, hx, hst⟩ := crowd_pick (P := P) (w := w) (sl := sl) haw ⟨0, g, h0, hr⟩
  rcases Nat.eq_zero_or_pos i with rfl | hpos
  · obtain rfl : x = g := by rw [h0] at hi; exact (Option.some.inj hi).symm
    obtain ⟨g', w', es, hgo, hown, hwin⟩ := h d
    have hrunT := runT_crowd_go (P := P) (sl := sl') (i := 0) hi (show stepG P (0 == 0) x (w.at d) = _ from hgo)
    have hlt : 0 < gs.size := (Array.getElem?_eq_some_iff.1 h0).1
    have hsz : w.heap.size ≤ w'.heap.size := hown.chg.size
    refine .step (hst.trans hrunT) (hwin Shun _ sl' _ q ((hO.at d).own hown.chg) (by simp [hlt]) ⟨fun j y hj hy => ?_, fun j hj => ?_⟩ ((hP.mono hsz).own fun e he => (hown.evs e he).evL (fun l hl => (hk l hl).2) hS) (hRel.app fun op hop a => ?_) (fun l hl => (hS l hl).mono hsz) fun l hl => ?_)
    · have hne : 0 ≠ j := by omega
      rw [Array.getElem?_setIfInBounds_ne hne, Array.getElem?_map] at hy
      obtain ⟨z, hz, rfl⟩ := Option.map_eq_some_iff.1 hy
      have hq := hL.old j z hj hz
      rw [woken_quitsD hq, Deaf_other t (by omega) _ (fun op hop => by obtain ⟨e, _, rfl⟩ := Go.Conc.mem_ofEvents hop; rfl)]
      exact hq
    · rw [Deaf_other t (g' := 0) (by simp at hj; omega) _ (fun op hop => by obtain ⟨e, _, rfl⟩ := Go.Conc.mem_ofEvents hop; rfl)]
      exact hL.above j (by simpa using hj)
    · obtain ⟨e, he, rfl⟩ := Go.Conc.mem_ofEvents hop
      exact (hown.evs e he).noRelease a
    · rcases hl with (hl | hl) | hl
      · exact ⟨(hk l (.inl hl)).1.mono hsz, (hk l (.inl hl)).2⟩
      · exact ⟨hl.mem.1, fun hx => hl.mem.2 (hS l hx)⟩
      · exact ⟨(hk l (.inr hl)).1.mono hsz, (hk l (.inr hl)).2⟩
  · have hq := hL.old i x hpos hi
    have hi0 : (i == 0) = false := by simp; omega
    have hlt : i < gs.size := (Array.getElem?_eq_some_iff.1 hi).1
    cases hqi : q i with
    | zero => rw [hqi] at hq; rw [hq.1] at hx; cases hx
    | succ m =>
      rw [hqi] at hq
      rcases hq with ⟨hf, _⟩ | ⟨_, g', es, hm, hstp, hq'⟩
      · rw [hf] at hx; cases hx
      have hrunT := runT_crowd_go (P := P) (sl := sl') (i := i) hi (by rw [hi0]; exact hstp (w.at d))
      have hsz : ((gs.map (woken P x g' (w.at d))).setIfInBounds i g').size = gs.size := by simp
      have hsum : sumTo gs.size (upd q i m) + (m + 1) = sumTo gs.size q + m := by
        have := sumTo_upd q m id hlt
        simpa [hqi] using this
      refine .step (hst.trans hrunT) (ih (sumTo gs.size (upd q i m)) (by omega) (w := w.at d) (fun d' => h d') _ sl' _ (upd q i m) (by rw [hsz]) (hO.at d) ?_ ⟨fun j y hj hy => ?_, fun j hj => ?_⟩ (hP.mute (by omega) hm) (hRel.app fun op hop a => ?_) hS hk)
      · have hne : i ≠ 0 := by omega
        rw [Array.getElem?_setIfInBounds_ne hne, Array.getElem?_map, h0]
        simp [woken_run hr]
      · by_cases hji : i = j
        · subst hji
          rw [Array.getElem?_setIfInBounds_self_of_lt (by simpa using hlt)] at hy
          obtain rfl := Option.some.inj hy
          rw [upd_same, Deaf_own]
          exact hq'
        · rw [Array.getElem?_setIfInBounds_ne hji, Array.getElem?_map] at hy
          obtain ⟨z, hz, rfl⟩ := Option.map_eq_some_iff.1 hy
          have hqj := hL.old j z hj hz
          rw [woken_quitsD hqj, upd_ne q m (Ne.symm hji), Deaf_other t hji _ (fun op hop => by obtain ⟨e, _, rfl⟩ := Go.Conc.mem_ofEvents hop; rfl)]
          exact hqj
      · rw [Deaf_other t (g' := i) (by simp at hj; omega) _ (fun op hop => by obtain ⟨e, _, rfl⟩ := Go.Conc.mem_ofEvents hop; rfl)]
        exact hL.above j (by simpa using hj)
      · obtain ⟨e, he, rfl⟩ := Go.Conc.mem_ofEvents hop
        intro hx
        have := hm e he
        obtain ⟨loc, wr, sy⟩ := e
        have hl := loc_of_ofEvent' hx
        simp only at hl
        subst hl
        simp [Event.mute] at this
/-- The return that ends the run. -/
theorem win_end {k : LK} {g : Goroutine} {w : World} {v : Value} (hr : g.status = .running) (h : ∀ d, stepG P true g (w.at d) = .ended (.done v) (w.at d) #[]) (hp : ∀ d, Old n0 W0 k (w.at d) → Post v (w.at d)) : Win P Post n0 W0 k g w := by
  intro Shun gs sl t q hO h0 hL hP _ _ _
  refine beside_ends (D := fun _ _ _ => False) (B := w.heap.size) (n := 0) (fun _ _ _ h => h.elim) h0 hL hP ?_
  rintro w₁ ⟨d, rfl⟩
  exact ⟨hr, v, #[], h d, by simp, hp d (hO.at d)⟩
end
end Go.Proofs.Yticdjkkcfdbdcaa
namespace Go.Proofs.Yticdjkkcfdbdcaa
open Go.Conc Go.ConcN
/-- What nobody may write meanwhile. -/
def keepK (X : Loc → Prop) : LK := ⟨fun _ => False, X, fun _ => False⟩
section
variable {X Rl : Loc → Prop} {w0 : World} {m0 : Nat} {Q : Nat → LK → World → Prop} {Wg : Nat}
theorem keep_chg {k : LK} {w w' : World} (h : Chg k w w') (hX : ∀ l, X l → ¬ k.W l) (hm : ∀ l, X l → MemLoc w.heap.size l) : Rely (keepK X) w w' where
  size := h.size
  tape := h.tape
  os := h.os
  output := h.output
  shape := h.shape
  cell := fun a ha => by
    have hx : X (.cell a) := ha.elim False.elim id
    exact h.cell a (hm _ hx) (hX _ hx)
  obj := fun b o ho hn ha => by
    have hx : X (.obj b) := ha.elim False.elim id
    exact h.obj b o ho hn (hX _ hx)
end
end Go.Proofs.Yticdjkkcfdbdcaa

/- Whether functions' texts are fine, reckoned. No program; no conditions but those named. -/
namespace Go.Proofs.Yticdjkkcfdbdcaa
open Go.Conc
def bareB : Nat → Value → Bool
  | 0, _ => false
  | n + 1, v => match v with
    | .bool _ | .int _ _ | .string _ | .pointer none | .slice none _ _ | .map none | .chan none | .nilFunc | .nilIface => true
    | .iface _ v => bareB n v
    | .agg x | .tuple x => x.all (bareB n)
    | _ => false
theorem bareB_ok : ∀ {n : Nat} {v : Value}, bareB n v = true → Bare v
  | 0, _, h => by cases h
  | n + 1, v, h => by
    have all : ∀ {x : Array Value}, x.all (bareB n) = true → ∀ (i : Nat) v, x[i]? = some v → Bare v := fun hx i v hv => by
      rw [Array.all_eq_true'] at hx
      exact bareB_ok (hx v (Array.mem_of_getElem? hv))
    unfold bareB at h
    split at h
    · exact .bool _
    · exact .int _ _
    · exact .string _
    · exact .nilPtr
    · exact .nilSlice _ _
    · exact .nilMap
    · exact .nilChan
    · exact .nilFunc
    · exact .nilIface
    · exact .iface _ (bareB_ok h)
    · exact .agg (all h)
    · exact .tuple (all h)
    · cases h
section
variable (l v : List FuncId) (P : Program)
def okXB : Operand → Bool
  | .tmp _ => true
  | .const v => bareB 8 v
  | .func f => l.contains f || v.contains f
  | .global _ => false
def okXoB : Option Operand → Bool
  | none => true
  | some x => okXB l v x
def zeroB (t : TypeId) : Bool := match P.info? t with
  | none => true
  | some i => match i.zero with
    | none => true
    | some v => bareB 8 v
def isNilP : Operand → Bool
  | .const (.pointer none) => true
  | _ => false
def isNilI : Operand → Bool
  | .const .nilIface => true
  | _ => false
def eqOpB (x y : Operand) : TypeDesc → Bool
  | .bool | .string | .int _ | .slice _ | .map _ _ | .func _ _ _ => true
  | .pointer _ => isNilP x || isNilP y
  | .interface _ => isNilI x || isNilI y
  | .struct fs => fs.all fun f => match P.underlying f.type with | none => true | some (.int _) => true | _ => false
  | _ => false
def zeroElemB (t : TypeId) : Bool := match P.underlying t with
  | some (.slice e) => zeroB P e
  | _ => true
def isIntB (t : TypeId) : Bool := match P.underlying t with
  | some (.int _) => true
  | _ => false
def keyB (t : TypeId) : Bool := (match P.underlying t with | none => true | some .string => true | some .bool => true | some (.int _) => true | _ => false) && (match P.info? t with | some i => (match i.desc with | .named "sync.copyChecker" _ => false | _ => true) | none => true)
def mapB (t : TypeId) : Bool := match P.underlying t with
  | some (.map key elem) => keyB P key && zeroB P elem
  | _ => true
def okCalleeB (ats : Array TypeId) : Callee → Bool
  | .value (.func g) => l.contains g
  | .value x => v.isEmpty && okXB l v x
  | .invoke _ _ => false
  | .builtin b => match b with
    | .append => match ats[0]? with | some s => zeroElemB P s | none => true
    | .copy | .max | .min => true
    | .len => match ats[0]? with | some s => (match P.underlying s with | some (.chan _ _) | some (.map _ _) => false | _ => true) | none => true
    | .cap => match ats[0]? with | some s => (match P.underlying s with | some (.slice _) => true | none => true | _ => false) | none => true
    | .delete => match ats[0]? with | some s => mapB P s | none => true
    | _ => false
def eqB (op : BinOp) (t : TypeId) (x y : Operand) : Bool := match op with
  | .eql | .neq => (match P.underlying t with | none => true | some d => eqOpB P x y d)
  | _ => true
def fieldB (s : TypeId) (n : Nat) : Bool := match P.underlying s with
  | some (.struct fs) => (match fs[n]? with | some f => (match P.info? f.type with | some i => i.size != 0 | none => true) | none => true)
  | _ => true
def okOpB : Op → Bool
  | .move x | .assign x | .box _ x | .load _ x | .nilCheck x | .unOp _ _ x | .makeInterface _ x | .field _ x _ | .extract x _ => okXB l v x
  | .pick c a b => okXB l v c && okXB l v a && okXB l v b
  | .alloc t => zeroB P t
  | .build t ps => zeroB P t && ps.all (fun p => okXB l v p.2)
  | .buildSlice t _ ps => zeroElemB P t && ps.all (fun p => okXB l v p.2)
  | .store _ a x | .indexAddr _ a x | .index _ a x => okXB l v a && okXB l v x
  | .binOp op t x y _ => okXB l v x && okXB l v y && eqB P op t x y
  | .convert s d x => okXB l v x && isIntB P s && isIntB P d
  | .makeFunc (.func f) x y => (l.contains f || v.contains f) && x.all (okXB l v) && y.all (okXB l v)
  | .makeSlice t a c => okXB l v a && okXB l v c && zeroElemB P t
  | .slice _ x a h m => okXB l v x && okXoB l v a && okXoB l v h && okXoB l v m
  | .fieldAddr s x n => okXB l v x && fieldB P s n
  | .call c => okCalleeB l v P c.argTypes c.callee && c.args.all (okXB l v)
  | .lookup t x i _ => mapB P t && okXB l v x && okXB l v i
  | .mapUpdate t m k x => mapB P t && okXB l v m && okXB l v k && okXB l v x
  | .makeMap _ r => okXoB l v r
  | _ => false
def okCodeB : Code → Bool
  | .skip | .exit _ | .label _ | .ret => true
  | .region _ ops _ => ops.all (fun o => okOpB l v P o.op)
  | .seq a b => okCodeB a && okCodeB b
  | .cond c a b => okXB l v c && okCodeB a && okCodeB b
  | .block _ a | .loop a | .scope a => okCodeB a
  | .rangeFunc _ _ _ _ | .goto _ | .refuse _ => false
def isTmpB : ResultVar → Bool
  | .tmp _ => true
  | _ => false
def okFnB (f : FuncId) : Bool := match P.funcs[f]? with
  | none => false
  | some fn => !(fn.name == "runtime.NumGoroutine") && (match fn.body with | some c => okCodeB l v P c | none => false)
end
section
variable {l v : List FuncId} {P : Program}
def InV (l v : List FuncId) : FnSet := ⟨fun f => f ∈ l ∨ f ∈ v, fun f => f ∈ l⟩
theorem okXB_ok {x : Operand} (h : okXB l v x = true) : okX (InV l v) x := by
  cases x with
  | tmp t => trivial
  | const v => exact bareB_ok h
  | func f =>
    have h' : (l.contains f || v.contains f) = true := h
    simp only [Bool.or_eq_true, List.contains_iff_mem] at h'
    exact h'
  | global g => cases h
theorem okXoB_ok {x : Option Operand} (h : okXoB l v x = true) : okXo (InV l v) x := by
  cases x with
  | none => trivial
  | some x => exact okXB_ok h
theorem zeroB_ok {t : TypeId} (h : zeroB P t = true) : ZeroOk P t := fun i v h1 h2 => by
  unfold zeroB at h
  rw [h1] at h
  simp only [h2] at h
  exact bareB_ok h
theorem zeroElemB_ok {t : TypeId} (h : zeroElemB P t = true) : ∀ elem, P.underlying t = some (.slice elem) → ZeroOk P elem := fun e he => by
  unfold zeroElemB at h
  rw [he] at h
  exact zeroB_ok h
theorem all_ok {α : Type} {p : α → Bool} {x : Array α} (h : x.all p = true) : ∀ a ∈ x, p a = true := by rw [Array.all_eq_true'] at h; exact h
theorem isNilP_ok {x : Operand} (h : isNilP x = true) : x = .const (.pointer none) := by
  unfold isNilP at h
  split at h
  · rfl
  · cases h
theorem isNilI_ok {x : Operand} (h : isNilI x = true) : x = .const .nilIface := by
  unfold isNilI at h
  split at h
  · rfl
  · cases h
theorem eqOpB_ok {x y : Operand} {d : TypeDesc} (h : eqOpB P x y d = true) : EqOp P x y d := by
  cases d <;> simp only [eqOpB] at h <;> first | trivial | (cases h; done) | skip
  case struct fs =>
    intro f hf d hd
    rw [Array.all_eq_true_iff_forall_mem] at h
    have := h f hf
    rw [hd] at this
    cases d <;> first | exact ⟨_, rfl⟩ | (cases this; done)
  · simp only [Bool.or_eq_true] at h
    exact h.imp isNilP_ok isNilP_ok
  · simp only [Bool.or_eq_true] at h
    exact h.imp isNilI_ok isNilI_ok
theorem keyB_ok {t : TypeId} (h : keyB P t = true) : ∀ d, P.underlying t = some d → KeyD P t d := fun d hd => by
  simp only [keyB, Bool.and_eq_true] at h
  obtain ⟨h1, h2⟩ := h
  rw [hd] at h1
  refine ⟨?_, fun i u hi hu => ?_⟩
  · cases d <;> first | exact .inl rfl | exact .inr (.inl rfl) | exact .inr (.inr ⟨_, rfl⟩) | (cases h1; done)
  · rw [hi] at h2
    simp only [hu] at h2
    cases h2
theorem mapB_ok {t : TypeId} (h : mapB P t = true) : MapOk P t := fun key elem ht => by
  unfold mapB at h
  rw [ht] at h
  simp only [Bool.and_eq_true] at h
  exact ⟨keyB_ok h.1, zeroB_ok h.2⟩
theorem okOpB_ok {op : Op} (h : okOpB l v P op = true) : okOp (InV l v) P op := by
  cases op <;> simp only [okOpB, Bool.and_eq_true] at h <;> first | (cases h; done) | skip
  case move x => exact okXB_ok h
  case assign x => exact okXB_ok h
  case pick c a b => exact ⟨okXB_ok h.1.1, okXB_ok h.1.2, okXB_ok h.2⟩
  case alloc t => exact zeroB_ok h
  case box t x => exact okXB_ok h
  case build t ps => exact ⟨zeroB_ok h.1, fun p hp => okXB_ok (all_ok h.2 p hp)⟩
  case buildSlice t n ps => exact ⟨zeroElemB_ok h.1, fun p hp => okXB_ok (all_ok h.2 p hp)⟩
  case load t a => exact okXB_ok h
  case store t a x => exact ⟨okXB_ok h.1, okXB_ok h.2⟩
  case nilCheck x => exact okXB_ok h
  case binOp op t x y yt =>
    refine ⟨⟨okXB_ok h.1.1, okXB_ok h.1.2⟩, fun ho d hd => ?_⟩
    have h3 := h.2
    rcases ho with rfl | rfl <;> (simp only [eqB, hd] at h3; exact eqOpB_ok h3)
  case unOp op t x => exact okXB_ok h
  case convert s d x =>
    have key : ∀ {t : TypeId}, isIntB P t = true → ∃ k, P.underlying t = some (.int k) := fun {t} ht => by
      unfold isIntB at ht
      split at ht
      · exact ⟨_, by assumption⟩
      · cases ht
    exact ⟨okXB_ok h.1.1, key h.1.2, key h.2⟩
  case makeInterface t x => exact okXB_ok h
  case makeFunc fn x y =>
    cases fn <;> simp only [okOpB, Bool.and_eq_true] at h <;> first | (cases h; done) | skip
    rename_i f
    exact ⟨⟨f, rfl, by have := h.1.1; simp only [Bool.or_eq_true, List.contains_iff_mem] at this; exact this⟩, fun o ho => okXB_ok (all_ok h.1.2 o ho), fun o ho => okXB_ok (all_ok h.2 o ho)⟩
  case makeSlice t a c => exact ⟨⟨okXB_ok h.1.1, okXB_ok h.1.2⟩, zeroElemB_ok h.2⟩
  case slice t x a b m => exact ⟨okXB_ok h.1.1.1, okXoB_ok h.1.1.2, okXoB_ok h.1.2, okXoB_ok h.2⟩
  case fieldAddr s x n =>
    refine ⟨okXB_ok h.1, fun fs f i h1 h2 h3 => ?_⟩
    have h4 := h.2
    simp only [fieldB, h1, h2, h3] at h4
    simpa using h4
  case field s x n => exact okXB_ok h
  case indexAddr t x i => exact ⟨okXB_ok h.1, okXB_ok h.2⟩
  case index t x i => exact ⟨okXB_ok h.1, okXB_ok h.2⟩
  case extract x n => exact okXB_ok h
  case lookup t x i b => exact ⟨mapB_ok h.1.1, okXB_ok h.1.2, okXB_ok h.2⟩
  case mapUpdate t m k x => exact ⟨mapB_ok h.1.1.1, okXB_ok h.1.1.2, okXB_ok h.1.2, okXB_ok h.2⟩
  case makeMap t r => exact okXoB_ok h
  case call c =>
    refine ⟨?_, fun o ho => okXB_ok (all_ok h.2 o ho)⟩
    have h1 := h.1
    obtain ⟨callee, args, ats⟩ := c
    cases callee with
    | value f =>
      have dyn : (v.isEmpty && okXB l v f) = true → okX (InV l v) f ∧ ∀ g, InV l v g → (InV l v).call g := fun h => by
        simp only [Bool.and_eq_true, List.isEmpty_iff] at h
        obtain ⟨hv, hx⟩ := h
        subst hv
        exact ⟨okXB_ok hx, fun g hg => hg.elim id fun x => by cases x⟩
      cases f with
      | func g => exact ⟨.inl (List.contains_iff_mem.1 h1), List.contains_iff_mem.1 h1⟩
      | tmp t => exact dyn h1
      | const x => exact dyn h1
      | global g => exact dyn h1
    | invoke r n => cases h1
    | builtin b =>
      cases b <;> simp only [okCalleeB] at h1 <;> first | trivial | (cases h1; done) | skip
      · intro s elem hs he
        rw [hs] at h1
        exact zeroElemB_ok h1 elem he
      · intro d s hs hd
        rw [hs] at h1
        simp only [hd] at h1
        cases d <;> first | exact ⟨_, rfl⟩ | cases h1
      · intro t ht
        rw [ht] at h1
        exact mapB_ok h1
      · intro d s hs hd
        rw [hs] at h1
        simp only [hd] at h1
        constructor
        · intro e b hh
          subst hh
          cases h1
        · intro k v hh
          subst hh
          cases h1
theorem okCodeB_ok : ∀ {c : Code}, okCodeB l v P c = true → okCode (InV l v) P c := by
  intro c
  induction c with
  | skip => exact fun _ => trivial
  | exit id => exact fun _ => trivial
  | label id => exact fun _ => trivial
  | ret => exact fun _ => trivial
  | region id ops d => exact fun h i o ho => okOpB_ok (all_ok h o (Array.mem_of_getElem? ho))
  | seq a b iha ihb => intro h; simp only [okCodeB, Bool.and_eq_true] at h; exact ⟨iha h.1, ihb h.2⟩
  | cond c a b iha ihb => intro h; simp only [okCodeB, Bool.and_eq_true] at h; exact ⟨okXB_ok h.1.1, iha h.1.2, ihb h.2⟩
  | block id a ih => exact fun h => ih h
  | loop a ih => exact fun h => ih h
  | scope a ih => exact fun h => ih h
  | _ => intro h; cases h
theorem okFnB_ok (h : l.all (okFnB l v P) = true) : OkFns (InV l v) P := ⟨fun f hf => by
  have := List.all_eq_true.1 h f hf
  unfold okFnB at this
  cases h1 : P.funcs[f]? with
  | none => rw [h1] at this; cases this
  | some fn =>
    rw [h1] at this
    simp only [Bool.and_eq_true, Bool.not_eq_true'] at this
    cases h2 : fn.body with
    | none => rw [h2] at this; cases this.2
    | some c =>
      rw [h2] at this
      exact ⟨fn, c, rfl, this.1, h2, okCodeB_ok this.2⟩⟩
theorem resB_ok {f : FuncId} {fn : Func} (h1 : P.funcs[f]? = some fn) (h : fn.results.all isTmpB = true) : ResFn P f := ⟨fn, h1, fun i r hr => by
  have := all_ok h r (Array.mem_of_getElem? hr)
  cases r with
  | tmp t => exact ⟨t, rfl⟩
  | cell a t => cases this⟩
end
end Go.Proofs.Yticdjkkcfdbdcaa

/- What a goroutine owns and does not touch meanwhile stands. No program; no conditions but those named. -/
namespace Go.Proofs.Yticdjkkcfdbdcaa
open Go.Conc Go.ConcN
def LK.nil : LK := ⟨fun _ => False, fun _ => False, fun _ => False⟩
end Go.Proofs.Yticdjkkcfdbdcaa
namespace Go.Proofs.Yticdjkkcfdbdcaa
open Go.Conc Go.ConcN
def prodOf (ops : Array Oper) (t : Tmp) : Option Nat := (List.range ops.size).find? fun j => ((ops[j]?).bind (·.dst)) == some t
def reachB (ops : Array Oper) : Nat → Nat → Nat → Bool
  | 0, _, _ => false
  | n + 1, j, i => match ops[j]? with
    | none => false
    | some o => o.after.any fun e => Region.binds .any e && (e.on == i || reachB ops n e.on i)
/-- What is asked of the region's text: m is its last. -/
def drawOk (ops : Array Oper) (m : Nat) : Bool :=
  decide (m + 1 = ops.size) && (List.range ops.size).all fun i => match ops[i]? with
    | none => false
    | some o => o.guard.isNone && (match o.op with | .select _ _ => false | _ => true) && o.after.all (fun e => !Region.binds .any e || decide (e.on < i)) && (i == m || reachB ops ops.size m i) &&
      (match o.dst with | none => true | some d => prodOf ops d == some i) &&
      (i == m || o.op.operands.all fun x => match x with
        | .tmp t => (match prodOf ops t with | none => true | some j => j == m || o.after.any fun e => Region.binds .any e && e.on == j)
        | _ => true)
/-- The state behind all but number m. -/
def putsV (ops : Array Oper) (V : Nat → Value) : List Nat → Act → Act
  | [], a => a
  | i :: r, a => putsV ops V r (a.put ((ops[i]?).bind (·.dst)) (V i))
section
variable {ops : Array Oper} {m : Nat} {V : Nat → Value}
def valAt (ops : Array Oper) (V : Nat → Value) (a : Act) (listed : Array Bool) (t : Tmp) : Value := match prodOf ops t with
  | none => a.tmps.getD t undef
  | some j => if listed.getD j false then V j else a.tmps.getD t undef
structure Held (ops : Array Oper) (V : Nat → Value) (m : Nat) (a : Act) (listed : Array Bool) (a' : Act) : Prop where
  size : listed.size = ops.size
  tsize : a'.tmps.size = a.tmps.size
  defers : a'.defers = a.defers
  val : ∀ t, t < a.tmps.size → a'.tmps.getD t undef = valAt ops V a listed t
  closed : ∀ j o, listed.getD j false = true → ops[j]? = some o → ∀ e ∈ o.after, Region.binds .any e = true → listed.getD e.on false = true
  last : listed.getD m false = false
theorem getD_set (l : Array Bool) (i j : Nat) (hi : i < l.size) : (l.setIfInBounds i true).getD j false = if j = i then true else l.getD j false := by
  rw [Array.getD_eq_getD_getElem?, Array.getD_eq_getD_getElem?, Array.getElem?_setIfInBounds]
  by_cases e : i = j
  · subst e; simp [hi]
  · simp [e, Ne.symm e]
theorem getD_true {l : Array Bool} {i : Nat} (hi : i < l.size) : l.getD i true = l.getD i false := by
  rw [Array.getD_eq_getD_getElem?, Array.getD_eq_getD_getElem?]
  simp [hi]
theorem drawOk_at (h : drawOk ops m = true) {i : Nat} {o : Oper} (ho : ops[i]? = some o) : m + 1 = ops.size ∧ o.guard = none ∧ (∀ cs b, o.op ≠ .select cs b) ∧ (∀ e ∈ o.after, Region.binds .any e = true → e.on < i) ∧ (i = m ∨ reachB ops ops.size m i = true) ∧ (∀ d, o.dst = some d → prodOf ops d = some i) ∧
    (i = m ∨ ∀ x ∈ o.op.operands, ∀ t, x = .tmp t → ∀ j, prodOf ops t = some j → j = m ∨ ∃ e ∈ o.after, Region.binds .any e = true ∧ e.on = j) := by
  unfold drawOk at h
  simp only [Bool.and_eq_true, decide_eq_true_eq] at h
  have hi : i < ops.size := (Array.getElem?_eq_some_iff.1 ho).1
  have := List.all_eq_true.1 h.2 i (List.mem_range.2 hi)
  rw [ho] at this
  simp only [Bool.and_eq_true, Bool.or_eq_true, beq_iff_eq] at this
  obtain ⟨⟨⟨⟨⟨h1, h2⟩, h3⟩, h4⟩, h5⟩, h6⟩ := this
  refine ⟨h.1, by simpa using h1, fun cs b e => ?_, fun e he hbd => ?_, h4, fun d hd => ?_, h6.imp id fun h6 x hx t hxt j hj => ?_⟩
  · rw [e] at h2; cases h2
  · rw [Array.all_eq_true'] at h3
    simpa [hbd] using h3 e he
  · rw [hd] at h5; simpa using h5
  · rw [Array.all_eq_true'] at h6
    have := h6 x hx
    subst hxt
    simp only [hj, Bool.or_eq_true, Bool.and_eq_true, beq_iff_eq, Array.any_eq_true'] at this
    exact this.imp id fun ⟨e, he, g2⟩ => ⟨e, he, g2⟩
theorem Held.reach {a a' : Act} {listed : Array Bool} (h : Held ops V m a listed a') : ∀ (n j i : Nat), reachB ops n j i = true → (∀ o, ops[j]? = some o → ∀ e ∈ o.after, Region.binds .any e = true → listed.getD e.on false = true) → listed.getD i false = true
  | 0, j, i, hr, _ => by cases hr
  | n + 1, j, i, hr, hj => by
    unfold reachB at hr
    cases ho : ops[j]? with
    | none => rw [ho] at hr; cases hr
    | some o =>
      rw [ho] at hr
      simp only [Array.any_eq_true', Bool.and_eq_true, Bool.or_eq_true, beq_iff_eq] at hr
      obtain ⟨e, he, hb, hc⟩ := hr
      have hl := hj o ho e he hb
      rcases hc with rfl | hc
      · exact hl
      · exact h.reach n e.on i hc fun o' ho' e' he' hb' => h.closed e.on o' hl ho' e' he' hb'
theorem putsV_val (hd : ∀ i o, ops[i]? = some o → ∀ d, o.dst = some d → prodOf ops d = some i) : ∀ (l : List Nat) (a : Act), (putsV ops V l a).tmps.size = a.tmps.size ∧ (putsV ops V l a).defers = a.defers ∧ ∀ t, t < a.tmps.size → (putsV ops V l a).tmps.getD t undef = match prodOf ops t with
    | none => a.tmps.getD t undef
    | some j => if j ∈ l then V j else a.tmps.getD t undef
  | [], a => ⟨rfl, rfl, fun t ht => by simp only [putsV]; cases prodOf ops t <;> simp⟩
  | i :: r, a => by
    obtain ⟨h1, h2, h3⟩ := putsV_val hd r (a.put ((ops[i]?).bind (·.dst)) (V i))
    have hs : (a.put ((ops[i]?).bind (·.dst)) (V i)).tmps.size = a.tmps.size := by unfold Act.put; split <;> simp
    have hdf : (a.put ((ops[i]?).bind (·.dst)) (V i)).defers = a.defers := by unfold Act.put; split <;> rfl
    refine ⟨h1.trans hs, h2.trans hdf, fun t ht => ?_⟩
    show (putsV ops V r (a.put ((ops[i]?).bind (·.dst)) (V i))).tmps.getD t undef = _
    rw [h3 t (by rw [hs]; exact ht)]
    have key : (a.put ((ops[i]?).bind (·.dst)) (V i)).tmps.getD t undef = if prodOf ops t = some i then V i else a.tmps.getD t undef := by
      cases ho : ops[i]? with
      | none =>
        have : prodOf ops t ≠ some i := fun e => by
          have := List.mem_of_find?_eq_some e
          rw [List.mem_range] at this
          rw [Array.getElem?_eq_none_iff] at ho
          omega
        simp [Act.put, this]
      | some o =>
        cases hdst : o.dst with
        | none =>
          have : prodOf ops t ≠ some i := fun e => by
            have := List.find?_some e
            simp [ho, hdst] at this
          simp [Act.put, hdst, this]
        | some d =>
          simp only [Act.put, Option.bind_some, hdst]
          rw [Array.getD_eq_getD_getElem?, Array.getElem?_setIfInBounds]
          by_cases e : d = t
          · subst e
            simp [ht, hd i o ho d hdst]
          · have : prodOf ops t ≠ some i := fun e2 => by
              have := List.find?_some e2
              simp [ho, hdst] at this
              exact e this
            rw [if_neg e, if_neg this, Array.getD_eq_getD_getElem?]
    cases hp : prodOf ops t with
    | none => rw [key, hp]; simp
    | some j =>
      simp only [List.mem_cons]
      by_cases e1 : j ∈ r
      · simp [e1]
      · by_cases e2 : j = i
        · subst e2; simp [e1, key, hp]
        · simp [e1, e2, key, hp]
/-- Behind all but the last. -/
theorem Held.full {a a' : Act} {listed : Array Bool} (hok : drawOk ops m = true) (h : Held ops V m a listed a') (hall : ∀ i, i < m → listed.getD i false = true) : a' = putsV ops V (List.range m) a := by
  obtain ⟨h1, h2, h3⟩ := putsV_val (V := V) (fun i o ho d hd => (drawOk_at hok ho).2.2.2.2.2.1 d hd) (List.range m) a
  obtain ⟨ta, da⟩ := a'
  generalize hb : putsV ops V (List.range m) a = b at h1 h2 h3
  obtain ⟨tb, db⟩ := b
  have e1 := h.tsize
  have e2 := h.defers
  simp only at h1 h2 h3 e1 e2
  rw [Act.mk.injEq]
  refine ⟨Array.ext (e1.trans h1.symm) fun t h4 h5 => ?_, e2.trans h2.symm⟩
  have q1 := h.val t (e1 ▸ h4)
  have q2 := h3 t (e1 ▸ h4)
  rw [Array.getD_eq_getD_getElem?] at q1 q2
  simp only [Array.getElem?_eq_getElem h4, Array.getElem?_eq_getElem h5, Option.getD_some] at q1 q2
  rw [q1, q2]
  unfold valAt
  cases hp : prodOf ops t with
  | none => rfl
  | some j =>
    have hj : j < ops.size := List.mem_range.1 (List.mem_of_find?_eq_some hp)
    simp only [List.mem_range]
    by_cases e : j < m
    · simp [e, hall j e]
    · have hm : m + 1 = ops.size := by
        have hok' := hok
        unfold drawOk at hok'
        simp only [Bool.and_eq_true, decide_eq_true_eq] at hok'
        exact hok'.1
      obtain rfl : j = m := by omega
      simp [h.last]
end
end Go.Proofs.Yticdjkkcfdbdcaa
namespace Go.Proofs.Yticdjkkcfdbdcaa
open Go.Conc Go.ConcN
section
variable {ops : Array Oper} {m : Nat} {V : Nat → Value}
theorem Held.step {a a' : Act} {listed : Array Bool} (hok : drawOk ops m = true) (h : Held ops V m a listed a') {i : Nat} {o : Oper} (ho : ops[i]? = some o) (hi : i ≠ m) (hr : ∀ e ∈ o.after, Region.binds .any e = true → listed.getD e.on false = true) : Held ops V m a (listed.setIfInBounds i true) (a'.put o.dst (V i)) := by
  have hil : i < listed.size := by rw [h.size]; exact (Array.getElem?_eq_some_iff.1 ho).1
  have up : ∀ j, listed.getD j false = true → (listed.setIfInBounds i true).getD j false = true := fun j hj => by rw [getD_set _ _ _ hil]; split <;> simp_all
  refine ⟨by simp [h.size], ?_, ?_, fun t ht => ?_, fun j oj hj hoj e he hb => ?_, by rw [getD_set _ _ _ hil, if_neg (Ne.symm hi)]; exact h.last⟩
  · rw [← h.tsize]; unfold Act.put; split <;> simp
  · rw [← h.defers]; unfold Act.put; split <;> rfl
  · have hv := h.val t ht
    unfold valAt at hv ⊢
    have hiff : o.dst = some t ↔ prodOf ops t = some i := ⟨fun e => (drawOk_at hok ho).2.2.2.2.2.1 t e, fun e => by
      have := List.find?_some e
      simpa [ho] using this⟩
    have hput : (a'.put o.dst (V i)).tmps.getD t undef = if prodOf ops t = some i then V i else a'.tmps.getD t undef := by
      cases hd : o.dst with
      | none =>
        have : prodOf ops t ≠ some i := fun e => by rw [hiff.2 e] at hd; cases hd
        simp [Act.put, this]
      | some d =>
        simp only [Act.put]
        rw [Array.getD_eq_getD_getElem?, Array.getElem?_setIfInBounds]
        by_cases e : d = t
        · subst e
          simp [h.tsize, ht, hiff.1 hd]
        · have : prodOf ops t ≠ some i := fun e2 => by rw [hiff.2 e2] at hd; cases hd; exact e rfl
          rw [if_neg e, if_neg this, Array.getD_eq_getD_getElem?]
    rw [hput]
    cases hp : prodOf ops t with
    | none => rw [hp] at hv; simpa using hv
    | some j =>
      rw [hp] at hv
      simp only [Option.some.injEq]
      rw [getD_set _ _ _ hil]
      by_cases e : j = i
      · subst e; simp
      · simp only [if_neg e]; exact hv
  · rw [getD_set _ _ _ hil] at hj
    by_cases e2 : j = i
    · subst e2
      rw [ho] at hoj; cases hoj
      exact up _ (hr e he hb)
    · rw [if_neg e2] at hj
      exact up _ (h.closed j oj hj hoj e he hb)
theorem Held.eval {a a' : Act} {listed : Array Bool} (hok : drawOk ops m = true) (h : Held ops V m a listed a') {i : Nat} {o : Oper} (ho : ops[i]? = some o) (hi : i ≠ m) (hr : ∀ e ∈ o.after, Region.binds .any e = true → listed.getD e.on false = true) :
    execOp a'.eval o = execOp (putsV ops V (List.range m) a).eval o := by
  obtain ⟨hm, _, hs, _, _, _, hx⟩ := drawOk_at hok ho
  obtain ⟨h1, h2, h3⟩ := putsV_val (V := V) (fun i o ho d hd => (drawOk_at hok ho).2.2.2.2.2.1 d hd) (List.range m) a
  refine execOp_congr o hs fun x hxm => ?_
  cases x with
  | const v => rfl
  | global g => rfl
  | func f => rfl
  | tmp t =>
    show a'.tmps.getD t undef = (putsV ops V (List.range m) a).tmps.getD t undef
    by_cases ht : t < a.tmps.size
    · rw [h.val t ht, h3 t ht]
      unfold valAt
      cases hp : prodOf ops t with
      | none => rfl
      | some j =>
        rcases (hx.resolve_left hi) _ hxm t rfl j hp with rfl | ⟨e, he, hb, rfl⟩
        · simp [h.last]
        have hj : e.on < ops.size := List.mem_range.1 (List.mem_of_find?_eq_some hp)
        by_cases hjm' : e.on = m
        · have := hr e he hb
          rw [hjm', h.last] at this
          cases this
        have hjm : e.on ∈ List.range m := List.mem_range.2 (by omega)
        simp only [hr e he hb, if_true, hjm]
    · have q1 : a'.tmps[t]? = none := Array.getElem?_eq_none (by rw [h.tsize]; exact Nat.not_lt.1 ht)
      have q2 : (putsV ops V (List.range m) a).tmps[t]? = none := Array.getElem?_eq_none (by rw [h1]; exact Nat.not_lt.1 ht)
      rw [Array.getD_eq_getD_getElem?, Array.getD_eq_getD_getElem?, q1, q2]
theorem ready_least {listed : Array Bool} (hok : drawOk ops m = true) : ∀ (n i : Nat), i ≤ n → i < ops.size → listed.getD i true = false → ∃ j, j ∈ Region.ready .any ops listed := by
  intro n
  induction n with
  | zero =>
    intro i hi hn hl
    obtain rfl : i = 0 := by omega
    refine ⟨0, List.mem_filter.2 ⟨List.mem_range.2 hn, ?_⟩⟩
    rw [hl, Array.getElem?_eq_getElem hn]
    simp only [Bool.not_false, Bool.true_and, Option.map_some, Option.getD_some]
    rw [Array.all_eq_true']
    intro e he
    cases hbd : Region.binds .any e with
    | false => rfl
    | true =>
      have := (drawOk_at hok (Array.getElem?_eq_getElem hn)).2.2.2.1 e he hbd
      omega
  | succ n ih =>
    intro i hi hn hl
    by_cases hall : ((ops[i]?).map (·.after.all fun e => !Region.binds .any e || listed.getD e.on false)).getD false = true
    · exact ⟨i, List.mem_filter.2 ⟨List.mem_range.2 hn, by rw [hl, hall]; rfl⟩⟩
    · rw [Array.getElem?_eq_getElem hn] at hall
      simp only [Option.map_some, Option.getD_some] at hall
      rw [Array.all_eq_true'] at hall
      obtain ⟨e, he, hbd, hle⟩ : ∃ e, e ∈ ops[i].after ∧ Region.binds .any e = true ∧ listed.getD e.on false = false := Classical.byContradiction fun hx => hall fun e he => by
        cases hle : listed.getD e.on false with
        | true => simp
        | false =>
          cases hbd : Region.binds .any e with
          | false => rfl
          | true => exact absurd ⟨e, he, hbd, hle⟩ hx
      have hlt := (drawOk_at hok (Array.getElem?_eq_getElem hn)).2.2.2.1 e he hbd
      by_cases hes : e.on < listed.size
      · exact ih e.on (by omega) (by omega) (by rw [getD_true hes]; exact hle)
      · have : listed.getD i true = true := by
          rw [Array.getD_eq_getD_getElem?, Array.getElem?_eq_none (by omega)]; rfl
        rw [this] at hl; cases hl
end
end Go.Proofs.Yticdjkkcfdbdcaa
namespace Go.Proofs.Yticdjkkcfdbdcaa
open Go.Conc Go.ConcN
/-- An operation that yields v and turns nothing, what it lists being allowed. -/
def OpV (P : Program) (fn : FuncId) (e : Operand → Value) (o : Oper) (k : LK) (w : World) (v : Value) : Prop :=
  (execOp e o).run P w = .ok (.value v) w ∧ Own k w w (seen P fn ((execOp e o).events P w #[]))
section
variable {ops : Array Oper} {m : Nat} {V : Nat → Value}
/-- What the temporaries hold behind the first m. -/
theorem puts_new (hd : ∀ i o, ops[i]? = some o → ∀ d, o.dst = some d → prodOf ops d = some i) {a : Act} {t j : Nat} (hp : prodOf ops t = some j) (hj : j < m) (ht : t < a.tmps.size) : (putsV ops V (List.range m) a).eval (.tmp t) = V j := by
  show (putsV ops V (List.range m) a).tmps.getD t undef = _
  rw [(putsV_val hd (List.range m) a).2.2 t ht, hp]
  simp [hj]
theorem puts_old (hd : ∀ i o, ops[i]? = some o → ∀ d, o.dst = some d → prodOf ops d = some i) {a : Act} {t : Nat} (hp : prodOf ops t = none) : (putsV ops V (List.range m) a).eval (.tmp t) = a.eval (.tmp t) := by
  show (putsV ops V (List.range m) a).tmps.getD t undef = a.tmps.getD t undef
  by_cases ht : t < a.tmps.size
  · rw [(putsV_val hd (List.range m) a).2.2 t ht, hp]
  · rw [Array.getD_eq_getD_getElem?, Array.getD_eq_getD_getElem?, Array.getElem?_eq_none (Nat.not_lt.1 ht), Array.getElem?_eq_none (by rw [(putsV_val hd (List.range m) a).1]; exact Nat.not_lt.1 ht)]
theorem puts_size (hd : ∀ i o, ops[i]? = some o → ∀ d, o.dst = some d → prodOf ops d = some i) (a : Act) : (putsV ops V (List.range m) a).tmps.size = a.tmps.size := (putsV_val hd (List.range m) a).1
theorem puts_defers (hd : ∀ i o, ops[i]? = some o → ∀ d, o.dst = some d → prodOf ops d = some i) (a : Act) : (putsV ops V (List.range m) a).defers = a.defers := (putsV_val hd (List.range m) a).2.1
theorem drawOk_d (h : drawOk ops m = true) : ∀ i o, ops[i]? = some o → ∀ d, o.dst = some d → prodOf ops d = some i := fun i o ho => (drawOk_at h ho).2.2.2.2.2.1
section
variable {P : Program} {J : LK → Goroutine → World → Prop} {main : Bool} {R : LK → World → World → Prop}
/-- One operation that yields a value. -/
theorem j_val (hJ : JOk P main R J) (S : LK → World → Prop) (hSR : ∀ k w w₁, S k w → R k w w₁ → S k w₁) {b : Frame} {K : List Item} {cs : List Frame} {a : Act} (hb : b.kind ≠ .early) {i : Nat} {rest : List Nat} {o : Oper} {v : Value} (ho : ops[i]? = some o) (hw : Region.wanted o (yielded ops a.tmps) = true)
    (hop : ∀ k w, S k w → OpV P b.fn a.eval o k w v) (hn : ∀ k w, S k w → J k (G (b.at (a.put o.dst v) (.inRegion ops rest :: K)) cs) w) {k : LK} {W : World} (h0 : S k W) : J k (G (b.at a (.inRegion ops (i :: rest) :: K)) cs) W :=
  hJ.own _ _ _ rfl rfl fun w₁ hR => by
    have hS1 := hSR _ _ _ h0 hR
    obtain ⟨g1, g2⟩ := hop k w₁ hS1
    refine ⟨_, w₁, _, stepG_value ho hw hb g1, g2, ?_⟩
    rw [grow_self]
    exact hn k w₁ hS1
end
end
section
variable {P : Program} {fn : FuncId} {e : Operand → Value} {o : Oper} {k : LK} {w : World}
theorem opv_pure {v : Value} (h : ∀ w, (execOp e o).run P w = .ok (.value v) w ∧ (execOp e o).events P w #[] = #[]) : OpV P fn e o k w v := by
  obtain ⟨h1, h2⟩ := h w
  exact ⟨h1, by rw [h2, seen_empty]; exact .idle k w⟩
theorem opv_move {x : Operand} (hop : o.op = .move x ∨ o.op = .assign x) : OpV P fn e o k w (e x) := by
  refine opv_pure fun w => ?_
  have : execOp e o = pure (.value (e x)) := by rcases hop with h | h <;> simp only [execOp, h]
  rw [this]
  exact ⟨rfl, rfl⟩
theorem opv_load {t : TypeId} {x : Operand} {p : Addr} {v : Value} (hop : o.op = .load t x) (hx : e x = .pointer (some p)) (hag : ∀ w, (isAgg t).run P w = .ok false w) (hc : w.cell? p = some v) (hl : k.W (.cell p) ∨ k.R (.cell p)) : OpV P fn e o k w v := by
  refine ⟨by simp [go_sem, hop, hx, hag, hc, execOp, Instr.loadAt], ?_⟩
  have h2 : (execOp e o).events P w #[] = #[⟨.cell p, false, false⟩] := by simp [go_sem, hop, hx, hag, hc, execOp, Instr.loadAt]
  rw [h2]
  exact (own_read hc hl).seen fn
theorem runU {t : TypeId} {d : TypeDesc} (ht : P.underlying t = some d) (w : World) : (underlying t).run P w = .ok d w := by
  have : (underlying t).run P w = (match P.underlying t with | some d => (pure d : Sem TypeDesc) | none => stuck "no such type").run P w := rfl
  rw [this, ht]
  rfl
theorem opv_index {t elem : TypeId} {x i : Operand} {p : Addr} {len cap sz : Nat} {n : Int} {kk : IntKind} (hop : o.op = .indexAddr t x i) (hx : e x = .slice (some p) len cap) (hi : e i = .int kk n) (h0 : 0 ≤ n) (h1 : n < len) (ht : P.underlying t = some (.slice elem)) (hsz : ∀ w, (Go.sizeOf elem).run P w = .ok sz w) : OpV P fn e o k w (.pointer (some (p.add (n.toNat * sz)))) := by
  refine opv_pure fun w => ⟨?_, ?_⟩
  · simp [go_sem, hop, hx, hi, ht, runU ht, hsz, h0, h1, execOp, Instr.indexAt]
  · simp [go_sem, hop, hx, hi, ht, runU ht, hsz, h0, h1, execOp, Instr.indexAt]
/-- A store of one cell. -/
theorem op_store {t : TypeId} {x y : Operand} {p : Addr} {v u : Value} (hop : o.op = .store t x y) (hx : e x = .pointer (some p)) (hy : e y = v) (ho : (∀ c, v ≠ .agg c) ∧ ∀ c, v ≠ .tuple c) (hsz : ∀ w, (Go.sizeOf t).run P w = .ok 1 w) (hc : w.cell? p = some u) (hz : w.frozen? p = false) (hl : k.W (.cell p)) :
    (execOp e o).run P w = .ok .skip (w.setCell p v) ∧ Own k w (w.setCell p v) (seen P fn ((execOp e o).events P w #[])) := by
  have hst : (store p v : Sem Unit).runT P w #[] = (.ok () (w.setCell p v), #[⟨.cell p, true, false⟩]) := by
    show (Sem.store .plain p v (.pure ())).runT P w #[] = _
    rw [runT_store ho.1 ho.2, hc, hz]
    simp [Sem.runT, -Sem.runT_eq]
  rw [Sem.runT_eq] at hst
  obtain ⟨s1, s2⟩ := Prod.mk.inj hst
  have hadd : p.add 0 = p := by unfold Addr.add; split <;> simp_all
  have h1 : (execOp e o).run P w = .ok .skip (w.setCell p v) := by
    cases v <;> first | exact absurd rfl (ho.1 _) | exact absurd rfl (ho.2 _) | simp [go_sem, hop, hx, hy, hsz, hadd, s1, hc, hz, execOp, Instr.storeAt, storeVar, storeCells]
  have h2 : (execOp e o).events P w #[] = #[⟨.cell p, true, false⟩] := by
    cases v <;> first | exact absurd rfl (ho.1 _) | exact absurd rfl (ho.2 _) | simp [go_sem, hop, hx, hy, hsz, hadd, s2, hc, hz, execOp, Instr.storeAt, storeVar, storeCells]
  refine ⟨h1, ?_⟩
  rw [h2]
  exact (own_write hc hl).seen fn
end
end Go.Proofs.Yticdjkkcfdbdcaa
namespace Go.Proofs.Yticdjkkcfdbdcaa
open Go.Conc Go.ConcN
/-- A type that is none. -/
structure BadT (P : Program) (bad : TypeId) : Prop where
  cell : ∀ c o n, cellAtBytes P P.depth bad c o n = none
  none : P.info? bad = none
def renNone (P : Program) (bad : TypeId) : Ren := { to := fun _ => none, base := P.globals.size, own := fun _ => False, isChan := fun _ => False, bad := bad, part := fun _ => False, ok := fun _ _ h => by cases h }
def blank (P : Program) (bad : TypeId) (w : World) : World := { w with heap := Array.replicate P.globals.size (.cells #[] bad) }
theorem mir_none {S : FnSet} {P : Program} {bad : TypeId} (hb : BadT P bad) {w : World} (hw : P.globals.size ≤ w.heap.size) (k : LK) : Mir S P (renNone P bad) k (blank P bad w) w := by
  have none' : ∀ b, renNone P bad b = none := fun b => rfl
  refine ⟨?_, ⟨Nat.le_refl _, hb.cell, hb.none⟩⟩
  constructor
  · intro b o ho
    simp only [blank, Array.getElem?_replicate] at ho
    split at ho
    · cases ho; exact .inl ⟨_, _, _, rfl⟩
    · cases ho
  · exact ⟨by simp [blank, renNone], hw⟩
  · intro b n x c s r t h
    simp only [blank, Array.getElem?_replicate] at h
    split at h <;> cases h
  · exact fun b h => h.elim False.elim False.elim
  · exact fun b c s h => by rw [none'] at h; cases h
  · exact fun b c s x e fz h => by rw [none'] at h; cases h
  · exact fun b c s x e fz h => by rw [none'] at h; cases h
  · exact fun b c s o h => by rw [none'] at h; cases h
  · exact fun b c s o h => by rw [none'] at h; cases h
  · exact fun b o h => h.elim
  · exact fun b b' c s s' x x' e e' fz fz' i i' h => by rw [none'] at h; cases h
  · exact fun b b' c s s' o o' h => by rw [none'] at h; cases h
  · exact fun b c s n x cl sn rc t h => by rw [none'] at h; cases h
end Go.Proofs.Yticdjkkcfdbdcaa
namespace Go.Proofs.Yticdjkkcfdbdcaa
open Go.Conc Go.ConcN
section
variable {P : Program} {fn : FuncId} {e : Operand → Value} {o : Oper} {k : LK} {w : World} {t yt : TypeId} {x y : Operand} {a b : Int}
theorem opv_add (hop : o.op = .binOp .add t x y yt) (hx : e x = .int .i64 a) (hy : e y = .int .i64 b) (ht : P.underlying t = some (.int .i64)) : OpV P fn e o k w (.int .i64 (IntKind.i64.wrap (a + b))) :=
  opv_pure fun w => ⟨by simp [go_sem, hop, hx, hy, ht, runU ht, execOp], by simp [go_sem, hop, hx, hy, ht, runU ht, execOp]⟩
theorem opv_lss (hop : o.op = .binOp .lss t x y yt) (hx : e x = .int .i64 a) (hy : e y = .int .i64 b) (ht : P.underlying t = some (.int .i64)) : OpV P fn e o k w (.bool (decide (a < b))) :=
  opv_pure fun w => ⟨by simp [go_sem, hop, hx, hy, ht, runU ht, execOp], by simp [go_sem, hop, hx, hy, ht, runU ht, execOp]⟩
theorem op_call {n : FuncId} {first captured : Array Value} {args : Array Operand} {ats : Array TypeId} (hop : o.op = .call { callee := .value x, args := args, argTypes := ats }) (hx : e x = .func (.func n) first captured) (hbody : ∃ g, P.funcs[n]? = some g ∧ (g.name == "runtime.NumGoroutine") = false ∧ g.body.isNone = false) (w : World) :
    (execOp e o).run P w = .ok (.enter n (first ++ args.map e ++ captured)) w ∧ (execOp e o).events P w #[] = #[] := by
  obtain ⟨g, g1, g2, g3⟩ := hbody
  have : execOp e o = callFunc n (first ++ args.map e ++ captured) := by
    simp only [execOp, hop, resolve, Deferred.ofValue, hx]
    rfl
  have hrun : (execOp e o).runT P w #[] = (.ok (.enter n (first ++ args.map e ++ captured)) w, #[]) := by
    rw [this]
    show Sem.runT P (Sem.bind program _) w #[] = _
    simp only [program, Sem.bind, Sem.runT]
    simp only [g1, g2, g3, Bool.false_eq_true, if_false]
    rfl
  rw [Sem.runT_eq] at hrun
  exact ⟨(Prod.mk.inj hrun).1, (Prod.mk.inj hrun).2⟩
end
section
variable {P : Program} {fm : Fam} {ty : TypeId} {Wg m0 p0 tot : Nat} {Shun : Loc → Prop} {Anc : Goroutine → World → Prop}
theorem wp_jok (ok : fm.Ok Wg) (i : Nat) {s : WSt fm.τ} (hal : ¬ s.rel) : JOk P (i == 0) (fun k w w₁ => Rely k w w₁ ∧ fm.GR i w w₁) (fun k g w => WP (wgProto P fm ty Wg m0 p0 tot Shun Anc) i k s g w) where
  own k g w hr ho h := wp_own ok hal hr ho fun w₁ h1 h2 => h w₁ ⟨h1, h2⟩
  rel _ _ _ h := h.1
theorem win_jok {Post : Value → World → Prop} {n0 : Nat} {W0 : World} : JOk P true (fun _ w w₁ => ∃ d, w₁ = w.at d) (fun k g w => Win P Post n0 W0 k g w) where
  own k g w hr ho h := win_own hr fun d => by
    obtain ⟨g', w', es, h1, h2, h3⟩ := h (w.at d) ⟨d, rfl⟩
    exact ⟨g', w', es, h1, h2, h3⟩
  rel k w w₁ h := by obtain ⟨d, rfl⟩ := h; exact .at k w d
end
section
variable {P : Program} {J : LK → Goroutine → World → Prop} {main : Bool} {R : LK → World → World → Prop} (hJ : JOk P main R J) (S : LK → World → Prop) (hSR : ∀ k w w₁, S k w → R k w w₁ → S k w₁)
  {b : Frame} {K : List Item} {cs : List Frame} {a : Act} {k : LK} {W : World}
include hJ hSR
theorem js_seq {x y : Code} (h : ∀ k w, S k w → J k (G (b.at a (.code x :: .code y :: K)) cs) w) (h0 : S k W) : J k (G (b.at a (.code (.seq x y) :: K)) cs) W := j_ctl hJ (fun _ => stepG_seq) fun w₁ hR => h k w₁ (hSR _ _ _ h0 hR)
theorem js_skip (h : ∀ k w, S k w → J k (G (b.at a K) cs) w) (h0 : S k W) : J k (G (b.at a (.code .skip :: K)) cs) W := j_ctl hJ (fun _ => stepG_skip) fun w₁ hR => h k w₁ (hSR _ _ _ h0 hR)
theorem js_block {id : Nat} {c : Code} (h : ∀ k w, S k w → J k (G (b.at a (.code c :: .inBlock id :: K)) cs) w) (h0 : S k W) : J k (G (b.at a (.code (.block id c) :: K)) cs) W := j_ctl hJ (fun _ => stepG_block) fun w₁ hR => h k w₁ (hSR _ _ _ h0 hR)
theorem js_inBlock {id : Nat} (h : ∀ k w, S k w → J k (G (b.at a K) cs) w) (h0 : S k W) : J k (G (b.at a (.inBlock id :: K)) cs) W := j_ctl hJ (fun _ => stepG_inBlock) fun w₁ hR => h k w₁ (hSR _ _ _ h0 hR)
theorem js_loop {c : Code} (h : ∀ k w, S k w → J k (G (b.at a (.code c :: .inLoop c :: K)) cs) w) (h0 : S k W) : J k (G (b.at a (.code (.loop c) :: K)) cs) W := j_ctl hJ (fun _ => stepG_loop) fun w₁ hR => h k w₁ (hSR _ _ _ h0 hR)
theorem js_inLoop {c : Code} (h : ∀ k w, S k w → J k (G (b.at a (.code c :: .inLoop c :: K)) cs) w) (h0 : S k W) : J k (G (b.at a (.inLoop c :: K)) cs) W := j_ctl hJ (fun _ => stepG_inLoop) fun w₁ hR => h k w₁ (hSR _ _ _ h0 hR)
theorem js_cond {c : Operand} {x y : Code} {t : Bool} (hc : a.eval c = .bool t) (h : ∀ k w, S k w → J k (G (b.at a (.code (if t then x else y) :: K)) cs) w) (h0 : S k W) : J k (G (b.at a (.code (.cond c x y) :: K)) cs) W := j_ctl hJ (fun _ => stepG_cond hc) fun w₁ hR => h k w₁ (hSR _ _ _ h0 hR)
theorem js_exit {id : Nat} {K1 : List Item} (hk : exitTo id K = some K1) (h : ∀ k w, S k w → J k (G (b.at a K1) cs) w) (h0 : S k W) : J k (G (b.at a (.code (.exit id) :: K)) cs) W := j_ctl hJ (fun _ => stepG_exit hk) fun w₁ hR => h k w₁ (hSR _ _ _ h0 hR)
theorem js_end (h : ∀ k w, S k w → J k (G { b.at a [] with mode := .returning } cs) w) (h0 : S k W) : J k (G (b.at a []) cs) W := j_ctl hJ (fun _ => stepG_end) fun w₁ hR => h k w₁ (hSR _ _ _ h0 hR)
theorem js_regend {ops : Array Oper} (h : ∀ k w, S k w → J k (G (b.at a K) cs) w) (h0 : S k W) : J k (G (b.at a (.inRegion ops [] :: K)) cs) W := j_ctl hJ (fun _ => stepG_region_end) fun w₁ hR => h k w₁ (hSR _ _ _ h0 hR)
end
end Go.Proofs.Yticdjkkcfdbdcaa

/- Small words of the walks in company. No program; no conditions but those named. -/
namespace Go.Proofs.Yticdjkkcfdbdcaa
open Go.Conc Go.ConcN
def regOf (id : Nat) : Code → Option (Array Oper)
  | .region i ops _ => if i = id then some ops else none
  | .seq a b => (regOf id a).orElse fun _ => regOf id b
  | .cond _ a b => (regOf id a).orElse fun _ => regOf id b
  | .block _ a | .loop a | .scope a => regOf id a
  | _ => none
def opsOf (f : Func) (id : Nat) : Array Oper := (f.body.bind (regOf id)).getD #[]
def Lik (k : LK) (p : Addr) : Prop := k.W (.cell p) ∨ k.R (.cell p)
theorem frozen_rely {k : LK} {w w₁ : World} (h : Rely k w w₁) {a : Addr} (hb : a.block < w.heap.size) : w₁.frozen? a = w.frozen? a := by
  have hs : w.heap[a.block]? = some w.heap[a.block] := Array.getElem?_eq_getElem hb
  obtain ⟨o₁, h1, h2⟩ := h.shape _ _ hs
  unfold World.frozen?
  rw [hs, h1]
  cases hc : w.heap[a.block] <;> rw [hc] at h2 <;> cases o₁ <;> simp_all [Alike]
theorem op_of {ops : Array Oper} {i : Nat} {o : Oper} {p : Op} (h : (ops[i]?).map (·.op) = some p) (ho : ops[i]? = some o) : o.op = p := by rw [ho] at h; simpa using h
theorem put_none (a : Act) (v : Value) : a.put none v = a := rfl
theorem op_ex {ops : Array Oper} {i : Nat} {p : Op} {d : Option Tmp} (h : (ops[i]?).map (fun o => (o.op, o.guard, o.dst)) = some (p, none, d)) : ∃ o, ops[i]? = some o ∧ o.op = p ∧ o.guard = none ∧ o.dst = d := by
  cases ho : ops[i]? with
  | none => rw [ho] at h; cases h
  | some o =>
    rw [ho] at h
    simp only [Option.map_some, Option.some.injEq, Prod.mk.injEq] at h
    exact ⟨o, rfl, h⟩
theorem eval_put_ne (a : Act) {d t : Nat} (h : d ≠ t) (v : Value) : (a.put (some d) v).eval (.tmp t) = a.eval (.tmp t) := by
  show (a.tmps.setIfInBounds d v).getD t undef = a.tmps.getD t undef
  rw [Array.getD_eq_getD_getElem?, Array.getD_eq_getD_getElem?, Array.getElem?_setIfInBounds, if_neg h]
theorem eval_put_eq (a : Act) {d : Nat} (h : d < a.tmps.size) (v : Value) : (a.put (some d) v).eval (.tmp d) = v := by
  show (a.tmps.setIfInBounds d v).getD d undef = v
  rw [Array.getD_eq_getD_getElem?, Array.getElem?_setIfInBounds, if_pos rfl, if_pos h]
  rfl
theorem put_size (a : Act) (d : Nat) (v : Value) : (a.put (some d) v).tmps.size = a.tmps.size := by simp [Act.put]
theorem eval_args (args : Array Value) (n t : Nat) (ds : List Deferred) (h : t < args.size) : (⟨args ++ Array.replicate n undef, ds⟩ : Act).eval (.tmp t) = args[t] := by
  show (args ++ Array.replicate n undef).getD t undef = _
  rw [Array.getD_eq_getD_getElem?, Array.getElem?_append_left h, Array.getElem?_eq_getElem h]
  rfl
theorem yld {o : Oper} (hg : o.guard = none) (f : Nat → Option Bool) : Region.wanted o f = true := by unfold Region.wanted; rw [hg]
end Go.Proofs.Yticdjkkcfdbdcaa

/- New blocks in company; len, makeFunc; a world but for its tape; what holds at the start of every Win. No program; no conditions but those named. -/
namespace Go.Proofs.Yticdjkkcfdbdcaa
open Go.Conc Go.ConcN
section
variable {P : Program} {J : LK → Goroutine → World → Prop} {main : Bool} {R : LK → World → World → Prop}
/-- An operation that makes a block. -/
theorem js_new (hJ : JOk P main R J) (S : LK → World → Prop) (hSR : ∀ k w w₁, S k w → R k w w₁ → S k w₁) {ops : Array Oper} {b : Frame} {K : List Item} {cs : List Frame} {a : Act} (hb : b.kind ≠ .early) {i : Nat} {rest : List Nat} {o : Oper} {ob : Obj} (ho : ops[i]? = some o) (hw : Region.wanted o (yielded ops a.tmps) = true)
    (hop : ∀ w, (execOp a.eval o).runT P w #[] = (.ok (.value (.pointer (some ⟨w.heap.size, 0, none⟩))) { w with heap := w.heap.push ob }, #[]))
    (hn : ∀ k w, S k w → J (k.grow w.heap.size (w.heap.size + 1)) (G (b.at (a.put o.dst (.pointer (some ⟨w.heap.size, 0, none⟩))) (.inRegion ops rest :: K)) cs) { w with heap := w.heap.push ob }) {k : LK} {W : World} (h0 : S k W) : J k (G (b.at a (.inRegion ops (i :: rest) :: K)) cs) W :=
  hJ.own _ _ _ rfl rfl fun w₁ hR => by
    have hS1 := hSR _ _ _ h0 hR
    have h1 := hop w₁
    rw [Sem.runT_eq] at h1
    obtain ⟨g1, g2⟩ := Prod.mk.inj h1
    refine ⟨_, _, _, stepG_value ho hw hb g1, ?_, ?_⟩
    · show Own k w₁ _ (seen P b.fn ((execOp a.eval o).events P w₁ #[]))
      rw [g2]
      exact (own_new ob).seen _
    · rw [Array.size_push]
      exact hn k w₁ hS1
theorem opv_run {fn : FuncId} {e : Operand → Value} {o : Oper} {k : LK} {w : World} {v : Value} (h : ∀ w, (execOp e o).runT P w #[] = (.ok (.value v) w, #[])) : OpV P fn e o k w v :=
  opv_pure fun w => by have := h w; rw [Sem.runT_eq] at this; exact Prod.mk.inj this
end
/-- The world, but for what is drawn next. -/
def AtW (k0 : LK) (w0 : World) (k : LK) (w : World) : Prop := k = k0 ∧ ∃ d, w = w0.at d
theorem AtW.r {k0 : LK} {w0 : World} : ∀ k w w₁, AtW k0 w0 k w → (∃ d, w₁ = w.at d) → AtW k0 w0 k w₁ := fun _ _ _ ⟨h1, d, h2⟩ ⟨d', h3⟩ => ⟨h1, d', by rw [h3, h2]; rfl⟩
theorem AtW.self (k : LK) (w : World) : AtW k w k w := ⟨rfl, w.drawn, rfl⟩
section
variable {P : Program} {Post : Value → World → Prop} {n0 : Nat} {W0 : World}
theorem win_pre {k : LK} {g : Goroutine} {w : World} (h : Old n0 W0 k w → (∀ l, k.W l ∨ k.R l → MemLoc w.heap.size l) → Win P Post n0 W0 k g w) : Win P Post n0 W0 k g w := by
  intro Shun gs sl t q hO h0 hL hP hRel hS hk
  exact h hO (fun l hl => (hk l hl).1) Shun gs sl t q hO h0 hL hP hRel hS hk
end
end Go.Proofs.Yticdjkkcfdbdcaa
namespace Go.Proofs.Yticdjkkcfdbdcaa
open Go.Conc Go.ConcN
end Go.Proofs.Yticdjkkcfdbdcaa
namespace Go.Proofs.Yticdjkkcfdbdcaa
open Go.Conc Go.ConcN
/-- What a lone walk of a piece has to show at its end. -/
def MpPost (Q : Exit → Act → World → Prop) (e : Exit) (a : Act) (L : World) : Prop := (e = .normal ∨ e = .ret) ∧ (a.defers = [] → Q e a L)
section
variable {S : FnSet} {P : Program} {J : LK → Goroutine → World → Prop} {main : Bool} {R : LK → World → World → Prop}
theorem MpPost.normal {K : Act → World → Prop} {Q : Exit → Act → World → Prop} {a : Act} {L : World} (h : K a L) : MpPost (Exit.then K Q) .normal a L := ⟨.inl rfl, fun _ => h⟩
theorem MpPost.ret {K : Act → World → Prop} {Q : Exit → Act → World → Prop} {a : Act} {L : World} (h : Q .ret a L) : MpPost (Exit.then K Q) .ret a L := ⟨.inr rfl, fun _ => h⟩
theorem Mir.tape {ρ : Ren} {k : LK} {L W : World} (h : Mir S P ρ k L W) {L' : World} (e : L'.heap = L.heap) : Mir S P ρ k L' W := ⟨h.wr.heaps e rfl, h.pr⟩
theorem MpOps.tape {fn : FuncId} {ops : Array Oper} {todo : List Nat} {up : Bool} {Q : Exit → Act → World → Prop} {a : Act} {L L' : World} (e : L'.heap = L.heap) (h : MpOps S P J fn ops todo up Q a L) : MpOps S P J fn ops todo up Q a L' :=
  fun b' K' base ρ k W a' h1 h2 h3 h4 h5 => h b' K' base ρ k W a' h1 h2 (h3.tape e.symm) h4 h5
theorem Mp.piece {l v : List FuncId} (hJ : JOk P main R J) (hO : OkFns (InV l v) P) {fn : FuncId} (hres : ResFn P fn) {x y : Code} (hx : okCodeB l v P x = true) {up : Bool} {Q : Exit → Act → World → Prop} {a : Act} {L : World}
    (h : ∀ T, x.wp P (MpPost (Exit.then (fun a1 L1 => Mp (InV l v) P J fn y up Q a1 L1) Q)) a { L with tape := T }) : Mp (InV l v) P J fn (.seq x y) up Q a L :=
  Mp.seq hJ (Mp.lone hJ hO hres (okCodeB_ok hx) h)
theorem Mp.last {l v : List FuncId} (hJ : JOk P main R J) (hO : OkFns (InV l v) P) {fn : FuncId} (hres : ResFn P fn) {x : Code} (hx : okCodeB l v P x = true) {up : Bool} {Q : Exit → Act → World → Prop} {a : Act} {L : World}
    (h : ∀ T, x.wp P (MpPost Q) a { L with tape := T }) : Mp (InV l v) P J fn x up Q a L := Mp.lone hJ hO hres (okCodeB_ok hx) h
theorem Mp.piece' {l v : List FuncId} (hJ : JOk P main R J) (hO : OkFns (InV l v) P) {fn : FuncId} (hres : ResFn P fn) {x y : Code} (hx : okCodeB l v P x = true) {up : Bool} {Q : Exit → Act → World → Prop} {a : Act} {L : World} (F : World → Prop) (hF : ∀ L' : World, L'.heap = L.heap → F L')
    (h : ∀ L', F L' → x.wp P (MpPost (Exit.then (fun a1 L1 => Mp (InV l v) P J fn y up Q a1 L1) Q)) a L') : Mp (InV l v) P J fn (.seq x y) up Q a L :=
  Mp.piece hJ hO hres hx fun T => h _ (hF _ rfl)
theorem Mp.last' {l v : List FuncId} (hJ : JOk P main R J) (hO : OkFns (InV l v) P) {fn : FuncId} (hres : ResFn P fn) {x : Code} (hx : okCodeB l v P x = true) {up : Bool} {Q : Exit → Act → World → Prop} {a : Act} {L : World} (F : World → Prop) (hF : ∀ L' : World, L'.heap = L.heap → F L')
    (h : ∀ L', F L' → x.wp P (MpPost Q) a L') : Mp (InV l v) P J fn x up Q a L := Mp.last hJ hO hres hx fun T => h _ (hF _ rfl)
theorem MpPost.end {Q : Exit → Act → World → Prop} {a : Act} {L : World} (h : Q .normal a L) : MpPost Q .normal a L := ⟨.inl rfl, fun _ => h⟩
theorem MpPost.leave {Q : Exit → Act → World → Prop} {a : Act} {L : World} (h : Q .ret a L) : MpPost Q .ret a L := ⟨.inr rfl, fun _ => h⟩
/-- An operation that yields a value and turns nothing. -/
theorem MpOps.val (hJ : JOk P main R J) (hb : Bodies S P) {fn : FuncId} {ops : Array Oper} {i : Nat} {rest : List Nat} {o : Oper} {up : Bool} {Q : Exit → Act → World → Prop} {a : Act} {L : World} {v : Value} (ho : ops[i]? = some o) (hw : Region.wanted o (yielded ops a.tmps) = true) (hok : okOp S P o.op)
    (hop : ∀ w, (execOp a.eval o).runT P w #[] = (.ok (.value v) w, #[])) (h : MpOps S P J fn ops rest up Q (a.put o.dst v) L) : MpOps S P J fn ops (i :: rest) up Q a L :=
  MpOps.op hJ hb ho hw hok fun T => ⟨{ L with tape := T }, .inl ⟨v, by have := hop { L with tape := T }; rw [Sem.runT_eq] at this; exact (Prod.mk.inj this).1, MpOps.tape (L := L) (L' := { L with tape := T }) rfl h⟩⟩
end
end Go.Proofs.Yticdjkkcfdbdcaa
namespace Go.Proofs.Yticdjkkcfdbdcaa
open Go.Conc Go.ConcN
section
variable {S : FnSet} {P : Program} {J : LK → Goroutine → World → Prop} {main : Bool} {R : LK → World → World → Prop}
theorem MCalls.mono {f : FuncId} {args : Array Value} {up : Bool} {A B : Value → World → Prop} {L : World} (h : MCalls S P J f args up A L) (hi : ∀ v L1, A v L1 → B v L1) : MCalls S P J f args up B L :=
  fun c' base ρ k W args' h1 h2 h3 => h c' base ρ k W args' h1 h2 fun v v' L1 ρ1 k1 W1 q => h3 v v' L1 ρ1 k1 W1 (hi _ _ q)
theorem MpOps.call' (hJ : JOk P main R J) {fn : FuncId} {up : Bool} {Q : Exit → Act → World → Prop} {a : Act} {L : World} {ops : Array Oper} {i : Nat} {rest : List Nat} {o : Oper} {f : FuncId} {args : Array Operand} {ats : Array TypeId} {args0 : Array Value} (ho : ops[i]? = some o) (hw : Region.wanted o (yielded ops a.tmps) = true)
    (hop : o.op = .call { callee := .value (.func f), args := args, argTypes := ats }) (hargs : ∀ x ∈ args, okX S x) (hbody : ∃ g, P.funcs[f]? = some g ∧ (g.name == "runtime.NumGoroutine") = false ∧ g.body.isNone = false) (he : args.map a.eval = args0)
    (h : MCalls S P J f args0 up (fun v L1 => MpOps S P J fn ops rest up Q (a.put o.dst v) L1) L) : MpOps S P J fn ops (i :: rest) up Q a L := MpOps.call hJ ho hw hop hargs hbody (he ▸ h)
end
end Go.Proofs.Yticdjkkcfdbdcaa
namespace Go.Proofs.Yticdjkkcfdbdcaa
open Go.Conc Go.ConcN
end Go.Proofs.Yticdjkkcfdbdcaa
namespace Go.Proofs.Yticdjkkcfdbdcaa
open Go.Conc Go.ConcN
section
variable {P : Program} {Post : Value → World → Prop} {n0 : Nat} {W0 : World} {S : FnSet}
/-- The last frame leaves. -/
theorem stepG_done {b : Frame} {a : Act} {todo : List Item} {fn : Func} {w : World} {v : Value} (hn : b.kind = .normal) (hd : a.defers = []) (hf : P.funcs[b.fn]? = some fn) (hr : (results fn a.tmps).run P w = .ok v w) (he : (results fn a.tmps).events P w #[] = #[]) (hi : P.inits.idxOf? b.fn = none) :
    stepG P true (G { b.at a todo with mode := .returning } []) w = .ended (.done v) w #[] := by
  simp [G, stepG, unwind, doReturn, Frame.at, hn, hd, hf, hr, he, hi, seen, GStep.after]
theorem mp_top {f : FuncId} {fn : Func} {c : Code} (hf : P.funcs[f]? = some fn) (hb : fn.body = some c) (hi : P.inits.idxOf? f = none) (hr : ∀ (i : Nat) r, fn.results[i]? = some r → ∃ t, r = .tmp t) {args args' : Array Value} {L W : World} {ρ : Ren} {k : LK} {R : Value → Prop}
    (hm : Mir S P ρ k L W) (ha : VRs S ρ args args') (h : Mp S P (fun k g w => Win P Post n0 W0 k g w) f c false (fun e a1 _ => (e = .normal ∨ e = .ret) ∧ R (pack (resVals fn a1.tmps))) ⟨args ++ Array.replicate (fn.ntmps - args.size) undef, []⟩ L)
    (hpost : ∀ v v' ρ1 k1 w, R v → VR S ρ1 v v' → Old n0 W0 k1 w → Post v' w) : Win P Post n0 W0 k (G (Frame.enter P f args' .normal) []) W := by
  have hJ : JOk P true _ (fun k g w => Win P Post n0 W0 k g w) := win_jok (P := P) (Post := Post) (n0 := n0) (W0 := W0)
  rw [enter_at args' hf hb]
  have hlast : ∀ (a1 a1' : Act) ρ1 k1 W1 todo, R (pack (resVals fn a1.tmps)) → ActR S ρ1 a1 a1' → Win P Post n0 W0 k1 (G { (base f).at a1' todo with mode := .returning } []) W1 := by
    intro a1 a1' ρ1 k1 W1 todo hR h4
    have hv : VR S ρ1 (pack (resVals fn a1.tmps)) (pack (resVals fn a1'.tmps)) := VRs.pack (VRs.map _ fun r _ => by
      cases r with
      | tmp t => exact h4.tmps.getD t VR.undef
      | cell a t => exact VR.undef)
    refine win_end rfl (v := pack (resVals fn a1'.tmps)) (fun d => stepG_done rfl h4.d' hf (by rw [results_tmps hr]; rfl) (by rw [results_tmps hr]; rfl) hi) fun d hO => hpost _ _ ρ1 k1 _ hR hv hO
  refine h _ [] [] ρ k W _ rfl rfl hm ⟨?_, rfl, rfl⟩ fun e a1 L1 ρ1 k1 W1 a1' hq _ _ g3 g4 => ?_
  · simp only [← ha.1]
    exact ha.append (VRs.same VR.undef)
  · obtain ⟨he, hR⟩ := hq
    rcases he with rfl | rfl
    · exact j_ctl hJ (fun w => stepG_end) fun w₁ _ => hlast a1 a1' ρ1 k1 w₁ [] hR g4
    · exact fun todo => hlast a1 a1' ρ1 k1 W1 todo hR g4
/-- From the start. -/
theorem win_runs {k : LK} {g : Goroutine} {W : World} (h : Win P Post W.heap.size W k g W) (hk : ∀ l, k.W l → False) (hR : ∀ l, k.R l → MemLoc W.heap.size l) : EndsWell P Post (solo g W) #[] := by
  have h1 := h (fun _ => False) #[g] none #[] (fun _ => 0) ⟨Nat.le_refl _, fun _ _ => rfl, rfl, rfl, fun l hl => (hk l hl).elim, rfl⟩ rfl ?_ ?_ (fun op hop => by simp at hop) (fun l hl => hl.elim) fun l hl => ⟨hl.elim (fun x => (hk l x).elim) (hR l), id⟩
  · exact h1
  · refine ⟨fun i g' hi hg => ?_, fun j hj => rfl⟩
    have : i < 1 := by have := (Array.getElem?_eq_some_iff.1 hg).1; simpa using this
    omega
  · exact past_nil.mono (Nat.zero_le _)
end
end Go.Proofs.Yticdjkkcfdbdcaa

/- A region whose order is drawn, alone, in which some operations act, one behind the other; the rest are quiet. No program; no conditions but those named. -/
namespace Go.Proofs.Yticdjkkcfdbdcaa
open Go.Conc Go.ConcN
section
variable {ops : Array Oper} {m : Nat} {P : Program}
def setV (V : Nat → Value) (i : Nat) (v : Value) : Nat → Value := fun j => if j = i then v else V j
theorem Held.setV {V : Nat → Value} {a a' : Act} {listed : Array Bool} (h : Held ops V m a listed a') {i : Nat} (hi : listed.getD i false = false) (v : Value) : Held ops (setV V i v) m a listed a' := by
  refine ⟨h.size, h.tsize, h.defers, fun t ht => ?_, h.closed, h.last⟩
  rw [h.val t ht]
  unfold valAt Go.Proofs.Yticdjkkcfdbdcaa.setV
  cases prodOf ops t with
  | none => rfl
  | some j =>
    simp only
    by_cases e : j = i
    · subst e; simp [hi]
    · simp [e]
/-- Every order: S tells of what is listed, of the values, of the world. -/
theorem wp_drawnA2 (hmx : P.follows .mixedOrders = true) (hok : drawOk ops m = true) (S : Array Bool → (Nat → Value) → World → Prop) {id : Nat} {a : Act} {Q : Exit → Act → World → Prop}
    (hop : ∀ i o, ops[i]? = some o → i ≠ m → ∀ l V w, l.size = ops.size → l.getD i false = false → (∀ j, reachB ops ops.size i j = true → l.getD j false = true) → S l V w → ∃ v w', ((execOp (putsV ops V (List.range m) a).eval o).run P w = .ok (.value v) w' ∨ (o.dst = none ∧ (execOp (putsV ops V (List.range m) a).eval o).run P w = .ok .skip w')) ∧ S (l.setIfInBounds i true) (setV V i v) w')
    (hlast : ∀ l V w, (∀ i, i < m → l.getD i false = true) → S l V w → wpOps P ops Q [m] (putsV ops V (List.range m) a) w) {w : World} {V : Nat → Value} (h0 : ∀ d, S (Array.replicate ops.size false) V { w with drawn := d }) : (Code.region id ops true).wp P Q a w := by
  have key : ∀ (fuel t : Nat) (listed : Array Bool) (V : Nat → Value) (a' : Act) (w : World), Held ops V m a listed a' → ((List.range ops.size).filter fun i => !listed.getD i true).length ≤ fuel → S listed V w → wpOps P ops Q (Region.linearise.go .any ops fuel t listed []) a' w := by
    intro fuel
    induction fuel with
    | zero =>
      intro t listed V a' w hh hc _
      exfalso
      have hm : m + 1 = ops.size := by unfold drawOk at hok; simp only [Bool.and_eq_true, decide_eq_true_eq] at hok; exact hok.1
      have : m ∈ (List.range ops.size).filter fun i => !listed.getD i true := List.mem_filter.2 ⟨List.mem_range.2 (by omega), by rw [getD_true (by rw [hh.size]; omega), hh.last]; rfl⟩
      have := List.length_pos_of_mem this
      omega
    | succ fuel ih =>
      intro t listed V a' w hh hc hS
      have hm : m + 1 = ops.size := by
        have hok' := hok
        unfold drawOk at hok'; simp only [Bool.and_eq_true, decide_eq_true_eq] at hok'; exact hok'.1
      have hne : ∃ j, j ∈ Region.ready .any ops listed := ready_least hok m m (Nat.le_refl _) (by omega) (by rw [getD_true (by rw [hh.size]; omega)]; exact hh.last)
      simp only [Region.linearise.go]
      change wpOps P ops Q (match (Region.ready .any ops listed)[t % (Region.ready .any ops listed).length]? with
        | some i => Region.linearise.go .any ops fuel (t / (Region.ready .any ops listed).length) (listed.setIfInBounds i true) [i]
        | none => [].reverse) a' w
      cases hi : (Region.ready .any ops listed)[t % (Region.ready .any ops listed).length]? with
      | none =>
        exfalso
        obtain ⟨j, hj⟩ := hne
        have hpos := List.length_pos_of_mem hj
        have hlt : t % (Region.ready .any ops listed).length < (Region.ready .any ops listed).length := Nat.mod_lt _ hpos
        rw [List.getElem?_eq_none_iff] at hi
        omega
      | some i =>
        simp only []
        rw [linearise_go_acc, List.reverse_singleton, List.singleton_append]
        have hmem := List.mem_of_getElem? hi
        obtain ⟨hin, hrd⟩ := List.mem_filter.1 hmem
        have hin' := List.mem_range.1 hin
        have ho : ops[i]? = some ops[i] := Array.getElem?_eq_getElem hin'
        simp only [Bool.and_eq_true, Bool.not_eq_true', ho, Option.map_some, Option.getD_some] at hrd
        obtain ⟨hun, hall⟩ := hrd
        rw [Array.all_eq_true'] at hall
        have hedge : ∀ e ∈ ops[i].after, Region.binds .any e = true → listed.getD e.on false = true := fun e he hb => by
          have := hall e he
          simpa [hb] using this
        have hli : i < listed.size := by rw [hh.size]; exact hin'
        have hif : listed.getD i false = false := by rw [← getD_true hli]; exact hun
        by_cases him : i = m
        · subst him
          have hothersF : ∀ j, j < ops.size → j ≠ i → listed.getD j false = true := fun j hj e => by
            have hreach := (drawOk_at hok (Array.getElem?_eq_getElem hj)).2.2.2.2.1.resolve_left e
            exact hh.reach _ i j hreach fun o' ho' => by rw [ho] at ho'; cases ho'; exact hedge
          have hrest : Region.linearise.go .any ops fuel (t / (Region.ready .any ops listed).length) (listed.setIfInBounds i true) [] = [] := by
            have hothers : ∀ j, j < ops.size → (listed.setIfInBounds i true).getD j true = true := fun j hj => by
              rw [getD_true (by simp [hh.size]; exact hj), getD_set _ _ _ hli]
              by_cases e : j = i
              · rw [if_pos e]
              · rw [if_neg e]; exact hothersF j hj e
            cases fuel with
            | zero => rfl
            | succ f =>
              simp only [Region.linearise.go]
              have : (List.range ops.size).filter (fun j => !(listed.setIfInBounds i true).getD j true && ((ops[j]?).map (·.after.all fun e => !Region.binds .any e || (listed.setIfInBounds i true).getD e.on false)).getD false) = [] := by
                rw [List.filter_eq_nil_iff]
                intro j hj
                rw [hothers j (List.mem_range.1 hj)]
                simp
              rw [this]
              rfl
          rw [hrest]
          have hfull : a' = putsV ops V (List.range i) a := hh.full hok fun j hj => hothersF j (by omega) (by omega)
          rw [hfull]
          exact hlast listed V w (fun j hj => hothersF j (by omega) (by omega)) hS
        · have heval := hh.eval hok ho him hedge
          have hwant : Region.wanted ops[i] (yielded ops a'.tmps) = true := by unfold Region.wanted; rw [(drawOk_at hok ho).2.1]
          have hcnt : ((List.range ops.size).filter fun j => !(listed.setIfInBounds i true).getD j true).length ≤ fuel := by
            have e : (List.range ops.size).filter (fun j => !(listed.setIfInBounds i true).getD j true) = ((List.range ops.size).filter fun j => !listed.getD j true).filter fun j => j != i := by
              rw [List.filter_filter]
              refine List.filter_congr fun j hj => ?_
              have hj' := List.mem_range.1 hj
              rw [getD_true (by simp [hh.size]; exact hj'), getD_set _ _ _ hli, getD_true (by rw [hh.size]; exact hj')]
              by_cases e : j = i
              · simp [e]
              · simp [e]
            have hmi : i ∈ (List.range ops.size).filter fun j => !listed.getD j true := List.mem_filter.2 ⟨hin, by rw [hun]; rfl⟩
            have hlt := (List.length_filter_lt_length_iff_exists (p := fun j => j != i) (l := (List.range ops.size).filter fun j => !listed.getD j true)).2 ⟨i, hmi, by simp⟩
            rw [e]; omega
          obtain ⟨v, w', hrun, hS'⟩ := hop i _ ho him listed V w hh.size hif (fun j hj => hh.reach _ i j hj fun o' ho' => by rw [ho] at ho'; cases ho'; exact hedge) hS
          have hstep := (hh.setV hif v).step hok ho him hedge
          have hv : Go.Proofs.Yticdjkkcfdbdcaa.setV V i v i = v := if_pos rfl
          rw [hv] at hstep
          simp only [wpOps, ho, hwant, if_true]
          refine .inl ?_
          unfold Oper.wp
          rw [← heval] at hrun
          rcases hrun with hrun | ⟨hdn, hrun⟩
          · rw [hrun]
            exact ih _ _ _ _ w' hstep hcnt hS'
          · rw [hrun, Oper.upon_skip, hdn]
            rw [hdn] at hstep
            exact ih _ _ _ _ w' hstep hcnt hS'
  refine wp_region_draw fun t => ?_
  simp only [Region.schedule, hmx, Bool.true_or, if_true]
  refine key ops.size _ _ V a _ ⟨by simp, rfl, rfl, fun t ht => ?_, fun j o hj => ?_, ?_⟩ ?_ (h0 _)
  · unfold valAt
    have hrep : ∀ j, (Array.replicate ops.size false).getD j false = false := fun j => by
      rw [Array.getD_eq_getD_getElem?, Array.getElem?_replicate]
      split <;> rfl
    cases prodOf ops t with
    | none => rfl
    | some j => simp only [hrep]; rfl
  · exfalso
    rw [Array.getD_eq_getD_getElem?, Array.getElem?_replicate] at hj
    split at hj <;> simp at hj
  · rw [Array.getD_eq_getD_getElem?, Array.getElem?_replicate]
    split <;> rfl
  · exact Nat.le_trans (List.length_filter_le _ _) (by simp)
/-- The acting ones, in their order; the quiet ones ask nothing of them. -/
def chainOk (ops : Array Oper) (m : Nat) (E : List Nat) : Bool :=
  (E.all fun i => decide (i < m)) && ((List.range E.length).all fun n => (List.range n).all fun n' => match E[n]?, E[n']? with
    | some i, some j => i != j && reachB ops ops.size i j
    | _, _ => false) &&
  (List.range ops.size).all fun i => E.contains i || i == m || (match ops[i]? with
    | none => true
    | some o => o.op.operands.all fun x => match x with
      | .tmp t => (match prodOf ops t with | none => true | some j => !E.contains j)
      | _ => true)
/-- The values, those of the acting ones known so far. -/
def VE (E : List Nat) (V : Nat → Value) (vs : List Value) (i : Nat) : Value := match E.findIdx? (· == i) with
  | some n => vs.getD n undef
  | none => V i
theorem wp_drawnE2 (hmx : P.follows .mixedOrders = true) (hok : drawOk ops m = true) {E : List Nat} (hE : chainOk ops m E = true) (S : List Value → World → Prop) (V : Nat → Value) {id : Nat} {a : Act} {Q : Exit → Act → World → Prop}
    (hq : ∀ i o, ops[i]? = some o → i ≠ m → i ∉ E → ∀ vs w, S vs w → (execOp (putsV ops V (List.range m) a).eval o).run P w = .ok (.value (V i)) w)
    (he : ∀ (n i : Nat) o, E[n]? = some i → ops[i]? = some o → ∀ vs w, vs.length = n → S vs w → ∃ v w', ((execOp (putsV ops (VE E V vs) (List.range m) a).eval o).run P w = .ok (.value v) w' ∨ (o.dst = none ∧ (execOp (putsV ops (VE E V vs) (List.range m) a).eval o).run P w = .ok .skip w')) ∧ S (vs ++ [v]) w')
    (hlast : ∀ vs w, vs.length = E.length → S vs w → wpOps P ops Q [m] (putsV ops (VE E V vs) (List.range m) a) w) {w : World} (h0 : ∀ d, S [] { w with drawn := d }) : (Code.region id ops true).wp P Q a w := by
  unfold chainOk at hE
  simp only [Bool.and_eq_true] at hE
  obtain ⟨⟨hE0, hE1⟩, hE2⟩ := hE
  rw [List.all_eq_true] at hE0 hE1 hE2
  have hlt : ∀ i ∈ E, i < m := fun i hi => by simpa using hE0 i hi
  have hch : ∀ (n n' i j : Nat), n' < n → E[n]? = some i → E[n']? = some j → i ≠ j ∧ reachB ops ops.size i j = true := fun n n' i j hn hi hj => by
    have hnl : n < E.length := (List.getElem?_eq_some_iff.1 hi).1
    have := hE1 n (List.mem_range.2 hnl)
    rw [List.all_eq_true] at this
    have := this n' (List.mem_range.2 hn)
    rw [hi, hj] at this
    simpa using this
  have hqt : ∀ i o, ops[i]? = some o → i ≠ m → i ∉ E → ∀ t, .tmp t ∈ o.op.operands → ∀ j, prodOf ops t = some j → j ∉ E := fun i o ho hi hn t ht j hj hjE => by
    have := hE2 i (List.mem_range.2 (Array.getElem?_eq_some_iff.1 ho).1)
    have hc : E.contains i = false := by simpa using hn
    simp only [hc, Bool.false_or, ho, beq_iff_eq, Bool.or_eq_true, hi, false_or] at this
    rw [Array.all_eq_true'] at this
    have := this _ ht
    simp only [hj] at this
    simp at this
    exact this hjE
  have hidx : ∀ (n i : Nat), E[n]? = some i → E.findIdx? (· == i) = some n := fun n i hi => by
    rw [List.findIdx?_eq_some_iff_getElem]
    obtain ⟨hnl, rfl⟩ := List.getElem?_eq_some_iff.1 hi
    refine ⟨hnl, by simp, fun j hj => ?_⟩
    have := (hch n j E[n] E[j] hj hi (List.getElem?_eq_getElem (by omega))).1
    simp only [beq_iff_eq, Bool.not_eq_true]
    exact fun e => this e.symm
  have hnot : ∀ i, i ∉ E → E.findIdx? (· == i) = none := fun i hi => by
    rw [List.findIdx?_eq_none_iff]
    intro x hx
    simp only [beq_eq_false_iff_ne, ne_eq]
    exact fun e => hi (e ▸ hx)
  have hputs : ∀ (V1 V2 : Nat → Value), (∀ i, i < m → V1 i = V2 i) → putsV ops V1 (List.range m) a = putsV ops V2 (List.range m) a := fun V1 V2 h => by
    have : ∀ (l : List Nat), (∀ i ∈ l, i < m) → ∀ b : Act, putsV ops V1 l b = putsV ops V2 l b := by
      intro l
      induction l with
      | nil => intro _ b; rfl
      | cons i r ih => intro hl b; simp only [putsV]; rw [h i (hl i (List.mem_cons_self ..))]; exact ih (fun j hj => hl j (List.mem_cons_of_mem _ hj)) _
    exact this _ (fun i hi => List.mem_range.1 hi) a
  refine wp_drawnA2 hmx hok (fun l V1 w => ∃ vs : List Value, vs.length ≤ E.length ∧ (∀ (n i : Nat), E[n]? = some i → (l.getD i false = true ↔ n < vs.length)) ∧ (∀ i, i < m → (i ∈ E → l.getD i false = true) → V1 i = VE E V vs i) ∧ S vs w) (V := V) (fun i o ho him l V1 w hls hi hreach hS => ?_) (fun l V1 w hall hS => ?_) fun d => ?_
  · obtain ⟨vs, h1, h2, h3, h4⟩ := hS
    have him' : i < m := by
      have : i < ops.size := (Array.getElem?_eq_some_iff.1 ho).1
      have hm : m + 1 = ops.size := (drawOk_at hok ho).1
      omega
    have hil : i < l.size := by rw [hls]; exact (Array.getElem?_eq_some_iff.1 ho).1
    by_cases hiE : i ∈ E
    · obtain ⟨n, hn⟩ := List.getElem?_of_mem hiE
      have hnl : n < E.length := (List.getElem?_eq_some_iff.1 hn).1
      have hvn : vs.length = n := by
        refine Nat.le_antisymm ?_ ?_
        · rcases Nat.lt_or_ge n vs.length with h | h
          · rw [(h2 n i hn).2 h] at hi; cases hi
          · exact h
        · cases n with
          | zero => exact Nat.zero_le _
          | succ n =>
            have hj : E[n]? = some E[n] := List.getElem?_eq_getElem (by omega)
            exact (h2 n _ hj).1 (hreach _ (hch (n + 1) n i _ (Nat.lt_succ_self _) hn hj).2)
      obtain ⟨v, w', g1, g2⟩ := he n i o hn ho vs w hvn h4
      -- the operands are known
      have hev : execOp (putsV ops V1 (List.range m) a).eval o = execOp (putsV ops (VE E V vs) (List.range m) a).eval o := by
        obtain ⟨hm, _, hs, _, _, _, hx⟩ := drawOk_at hok ho
        refine execOp_congr o hs fun x hxm => ?_
        cases x with
        | const v => rfl
        | global g => rfl
        | func f => rfl
        | tmp t =>
          obtain ⟨q1, q2, q3⟩ := putsV_val (V := V1) (fun i o ho d hd => (drawOk_at hok ho).2.2.2.2.2.1 d hd) (List.range m) a
          obtain ⟨r1, r2, r3⟩ := putsV_val (V := VE E V vs) (fun i o ho d hd => (drawOk_at hok ho).2.2.2.2.2.1 d hd) (List.range m) a
          show (putsV ops V1 (List.range m) a).tmps.getD t undef = (putsV ops (VE E V vs) (List.range m) a).tmps.getD t undef
          by_cases ht : t < a.tmps.size
          · rw [q3 t ht, r3 t ht]
            cases hp : prodOf ops t with
            | none => rfl
            | some j =>
              rcases (hx.resolve_left him) _ hxm t rfl j hp with rfl | ⟨e, hea, hb, rfl⟩
              · simp
              by_cases hjm' : e.on = m
              · simp [hjm']
              have hjm : e.on < m := by
                have : e.on < ops.size := List.mem_range.1 (List.mem_of_find?_eq_some hp)
                omega
              have hjl : l.getD e.on false = true := hreach _ (by
                have hsz : ops.size = (ops.size - 1) + 1 := by omega
                rw [hsz]; unfold reachB; rw [ho]
                simp only [Array.any_eq_true', Bool.and_eq_true, Bool.or_eq_true, beq_iff_eq]
                exact ⟨e, hea, hb, .inl rfl⟩)
              simp only [List.mem_range, hjm, if_true]
              exact h3 _ hjm fun _ => hjl
          · have p1 : (putsV ops V1 (List.range m) a).tmps[t]? = none := Array.getElem?_eq_none (by rw [q1]; exact Nat.not_lt.1 ht)
            have p2 : (putsV ops (VE E V vs) (List.range m) a).tmps[t]? = none := Array.getElem?_eq_none (by rw [r1]; exact Nat.not_lt.1 ht)
            rw [Array.getD_eq_getD_getElem?, Array.getD_eq_getD_getElem?, p1, p2]
      refine ⟨v, w', by rw [hev]; exact g1, vs ++ [v], by simp; omega, fun n' j hj => ?_, fun j hj hjE => ?_, g2⟩
      · rw [getD_set _ _ _ hil]
        by_cases e : j = i
        · subst e
          have : n' = n := Option.some.inj ((hidx n' j hj).symm.trans (hidx n j hn))
          simp; omega
        · rw [if_neg e, h2 n' j hj]
          have : n' ≠ n := fun e2 => e (by subst e2; rw [hn] at hj; exact (Option.some.inj hj).symm)
          simp; omega
      · by_cases e : j = i
        · subst e
          show (if j = j then v else V1 j) = _
          rw [if_pos rfl]
          unfold VE
          rw [hidx n j hn]
          simp [← hvn]
        · show (if j = i then v else V1 j) = _
          rw [if_neg e, h3 j hj (fun hx => by have := hjE hx; rwa [getD_set _ _ _ hil, if_neg e] at this)]
          unfold VE
          by_cases hx : j ∈ E
          · obtain ⟨n', hn'⟩ := List.getElem?_of_mem hx
            rw [hidx n' j hn']
            have hl := hjE hx
            rw [getD_set _ _ _ hil, if_neg e] at hl
            have := (h2 n' j hn').1 hl
            simp only [List.getD_eq_getElem?_getD]
            rw [List.getElem?_append_left this]
          · rw [hnot j hx]
    · have hev : execOp (putsV ops V1 (List.range m) a).eval o = execOp (putsV ops V (List.range m) a).eval o := by
        obtain ⟨hm, _, hs, _, _, _, hx⟩ := drawOk_at hok ho
        refine execOp_congr o hs fun x hxm => ?_
        cases x with
        | const v => rfl
        | global g => rfl
        | func f => rfl
        | tmp t =>
          obtain ⟨q1, q2, q3⟩ := putsV_val (V := V1) (fun i o ho d hd => (drawOk_at hok ho).2.2.2.2.2.1 d hd) (List.range m) a
          obtain ⟨r1, r2, r3⟩ := putsV_val (V := V) (fun i o ho d hd => (drawOk_at hok ho).2.2.2.2.2.1 d hd) (List.range m) a
          show (putsV ops V1 (List.range m) a).tmps.getD t undef = (putsV ops V (List.range m) a).tmps.getD t undef
          by_cases ht : t < a.tmps.size
          · rw [q3 t ht, r3 t ht]
            cases hp : prodOf ops t with
            | none => rfl
            | some j =>
              have hjE := hqt i o ho him hiE t hxm j hp
              simp only [List.mem_range]
              by_cases hjm : j < m
              · simp only [hjm, if_true]
                rw [h3 j hjm fun hx => absurd hx hjE]
                unfold VE
                rw [hnot j hjE]
              · simp [hjm]
          · have p1 : (putsV ops V1 (List.range m) a).tmps[t]? = none := Array.getElem?_eq_none (by rw [q1]; exact Nat.not_lt.1 ht)
            have p2 : (putsV ops V (List.range m) a).tmps[t]? = none := Array.getElem?_eq_none (by rw [r1]; exact Nat.not_lt.1 ht)
            rw [Array.getD_eq_getD_getElem?, Array.getD_eq_getD_getElem?, p1, p2]
      refine ⟨V i, w, .inl (by rw [hev]; exact hq i o ho him hiE vs w h4), vs, h1, fun n j hj => ?_, fun j hj hjE => ?_, h4⟩
      · have e : j ≠ i := fun e => hiE (e ▸ List.mem_of_getElem? hj)
        rw [getD_set _ _ _ hil, if_neg e]
        exact h2 n j hj
      · by_cases e : j = i
        · subst e
          show (if j = j then V j else V1 j) = _
          rw [if_pos rfl]
          unfold VE
          rw [hnot j hiE]
        · show (if j = i then V i else V1 j) = _
          rw [if_neg e]
          exact h3 j hj fun hx => by have := hjE hx; rwa [getD_set _ _ _ hil, if_neg e] at this
  · obtain ⟨vs, h1, h2, h3, h4⟩ := hS
    have hlen : vs.length = E.length := by
      refine Nat.le_antisymm h1 ?_
      cases hEl : E.length with
      | zero => exact Nat.zero_le _
      | succ n =>
        have hj : E[n]? = some E[n] := List.getElem?_eq_getElem (by omega)
        exact (h2 n _ hj).1 (hall _ (hlt _ (List.mem_of_getElem? hj)))
    rw [hputs V1 (VE E V vs) fun i hi => h3 i hi fun _ => hall i hi]
    exact hlast vs w hlen h4
  · refine ⟨[], Nat.zero_le _, fun n i hi => ?_, fun i hi hiE => ?_, h0 d⟩
    · have : (Array.replicate ops.size false).getD i false = false := by
        rw [Array.getD_eq_getD_getElem?, Array.getElem?_replicate]
        split <;> rfl
      simp [this]
    · have : (Array.replicate ops.size false).getD i false = false := by
        rw [Array.getD_eq_getD_getElem?, Array.getElem?_replicate]
        split <;> rfl
      have hx : i ∉ E := fun hx => by rw [hiE hx] at this; cases this
      unfold VE
      rw [hnot i hx]
theorem wp_drawnE (hmx : P.follows .mixedOrders = true) (hok : drawOk ops m = true) {E : List Nat} (hE : chainOk ops m E = true) (S : List Value → World → Prop) (V : Nat → Value) {id : Nat} {a : Act} {Q : Exit → Act → World → Prop}
    (hq : ∀ i o, ops[i]? = some o → i ≠ m → i ∉ E → ∀ vs w, S vs w → (execOp (putsV ops V (List.range m) a).eval o).run P w = .ok (.value (V i)) w)
    (he : ∀ (n i : Nat) o, E[n]? = some i → ops[i]? = some o → ∀ vs w, vs.length = n → S vs w → ∃ v w', (execOp (putsV ops (VE E V vs) (List.range m) a).eval o).run P w = .ok (.value v) w' ∧ S (vs ++ [v]) w')
    (hlast : ∀ vs w, vs.length = E.length → S vs w → wpOps P ops Q [m] (putsV ops (VE E V vs) (List.range m) a) w) {w : World} (h0 : ∀ d, S [] { w with drawn := d }) : (Code.region id ops true).wp P Q a w :=
  wp_drawnE2 hmx hok hE S V hq (fun n i o h1 h2 vs w h3 h4 => by
    obtain ⟨v, w', g1, g2⟩ := he n i o h1 h2 vs w h3 h4
    exact ⟨v, w', .inl g1, g2⟩) hlast h0
end
end Go.Proofs.Yticdjkkcfdbdcaa
