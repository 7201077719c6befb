/- Whether functions' texts are fine, reckoned. No program; no conditions but those named. -/
import Derived.Test.YticdjkkcfdbdcaaRenM
namespace Go.Proofs.Yticdjkkcfdbdcaa
open Go.Conc
def bareB : Nat → Value → Bool
  | 0, _ => false
  | n + 1, v => match v with
    | .bool _ | .int _ _ | .string _ | .pointer none | .slice none _ _ | .map none | .chan none | .nilFunc | .nilIface => true
    | .iface _ v => bareB n v
    | .agg x | .tuple x => x.all (bareB n)
    | _ => false
theorem bareB_ok : ∀ {n : Nat} {v : Value}, bareB n v = true → Bare v
  | 0, _, h => by cases h
  | n + 1, v, h => by
    have all : ∀ {x : Array Value}, x.all (bareB n) = true → ∀ (i : Nat) v, x[i]? = some v → Bare v := fun hx i v hv => by
      rw [Array.all_eq_true'] at hx
      exact bareB_ok (hx v (Array.mem_of_getElem? hv))
    unfold bareB at h
    split at h
    · exact .bool _
    · exact .int _ _
    · exact .string _
    · exact .nilPtr
    · exact .nilSlice _ _
    · exact .nilMap
    · exact .nilChan
    · exact .nilFunc
    · exact .nilIface
    · exact .iface _ (bareB_ok h)
    · exact .agg (all h)
    · exact .tuple (all h)
    · cases h
section
variable (l v : List FuncId) (P : Program)
def okXB : Operand → Bool
  | .tmp _ => true
  | .const v => bareB 8 v
  | .func f => l.contains f || v.contains f
  | .global _ => false
def okXoB : Option Operand → Bool
  | none => true
  | some x => okXB l v x
def zeroB (t : TypeId) : Bool := match P.info? t with
  | none => true
  | some i => match i.zero with
    | none => true
    | some v => bareB 8 v
def isNilP : Operand → Bool
  | .const (.pointer none) => true
  | _ => false
def isNilI : Operand → Bool
  | .const .nilIface => true
  | _ => false
def eqOpB (x y : Operand) : TypeDesc → Bool
  | .bool | .string | .int _ | .slice _ | .map _ _ | .func _ _ _ => true
  | .pointer _ => isNilP x || isNilP y
  | .interface _ => isNilI x || isNilI y
  | _ => false
def zeroElemB (t : TypeId) : Bool := match P.underlying t with
  | some (.slice e) => zeroB P e
  | _ => true
def isIntB (t : TypeId) : Bool := match P.underlying t with
  | some (.int _) => true
  | _ => false
def okCalleeB (ats : Array TypeId) : Callee → Bool
  | .value (.func g) => l.contains g
  | .value x => v.isEmpty && okXB l v x
  | .invoke _ _ => false
  | .builtin b => match b with
    | .append => match ats[0]? with | some s => zeroElemB P s | none => true
    | .copy | .max | .min => true
    | .len => match ats[0]? with | some s => (match P.underlying s with | some (.chan _ _) | some (.map _ _) => false | _ => true) | none => true
    | .cap => match ats[0]? with | some s => (match P.underlying s with | some (.slice _) => true | none => true | _ => false) | none => true
    | _ => false
def eqB (op : BinOp) (t : TypeId) (x y : Operand) : Bool := match op with
  | .eql | .neq => (match P.underlying t with | none => true | some d => eqOpB x y d)
  | _ => true
def fieldB (s : TypeId) (n : Nat) : Bool := match P.underlying s with
  | some (.struct fs) => (match fs[n]? with | some f => (match P.info? f.type with | some i => i.size != 0 | none => true) | none => true)
  | _ => true
def okOpB : Op → Bool
  | .move x | .assign x | .box _ x | .load _ x | .nilCheck x | .unOp _ _ x | .makeInterface _ x | .field _ x _ | .extract x _ => okXB l v x
  | .pick c a b => okXB l v c && okXB l v a && okXB l v b
  | .alloc t => zeroB P t
  | .build t ps => zeroB P t && ps.all (fun p => okXB l v p.2)
  | .buildSlice t _ ps => zeroElemB P t && ps.all (fun p => okXB l v p.2)
  | .store _ a x | .indexAddr _ a x | .index _ a x => okXB l v a && okXB l v x
  | .binOp op t x y _ => okXB l v x && okXB l v y && eqB P op t x y
  | .convert s d x => okXB l v x && isIntB P s && isIntB P d
  | .makeFunc (.func f) x y => (l.contains f || v.contains f) && x.all (okXB l v) && y.all (okXB l v)
  | .makeSlice t a c => okXB l v a && okXB l v c && zeroElemB P t
  | .slice _ x a h m => okXB l v x && okXoB l v a && okXoB l v h && okXoB l v m
  | .fieldAddr s x n => okXB l v x && fieldB P s n
  | .call c => okCalleeB l v P c.argTypes c.callee && c.args.all (okXB l v)
  | _ => false
def okCodeB : Code → Bool
  | .skip | .exit _ | .label _ | .ret => true
  | .region _ ops _ => ops.all (fun o => okOpB l v P o.op)
  | .seq a b => okCodeB a && okCodeB b
  | .cond c a b => okXB l v c && okCodeB a && okCodeB b
  | .block _ a | .loop a | .scope a => okCodeB a
  | .rangeFunc _ _ _ _ | .goto _ | .refuse _ => false
def isTmpB : ResultVar → Bool
  | .tmp _ => true
  | _ => false
def okFnB (f : FuncId) : Bool := match P.funcs[f]? with
  | none => false
  | some fn => !(fn.name == "runtime.NumGoroutine") && fn.results.all isTmpB && (match fn.body with | some c => okCodeB l v P c | none => false)
end
section
variable {l v : List FuncId} {P : Program}
def InV (l v : List FuncId) : FnSet := ⟨fun f => f ∈ l ∨ f ∈ v, fun f => f ∈ l⟩
theorem okXB_ok {x : Operand} (h : okXB l v x = true) : okX (InV l v) x := by
  cases x with
  | tmp t => trivial
  | const v => exact bareB_ok h
  | func f =>
    have h' : (l.contains f || v.contains f) = true := h
    simp only [Bool.or_eq_true, List.contains_iff_mem] at h'
    exact h'
  | global g => cases h
theorem okXoB_ok {x : Option Operand} (h : okXoB l v x = true) : okXo (InV l v) x := by
  cases x with
  | none => trivial
  | some x => exact okXB_ok h
theorem zeroB_ok {t : TypeId} (h : zeroB P t = true) : ZeroOk P t := fun i v h1 h2 => by
  unfold zeroB at h
  rw [h1] at h
  simp only [h2] at h
  exact bareB_ok h
theorem zeroElemB_ok {t : TypeId} (h : zeroElemB P t = true) : ∀ elem, P.underlying t = some (.slice elem) → ZeroOk P elem := fun e he => by
  unfold zeroElemB at h
  rw [he] at h
  exact zeroB_ok h
theorem all_ok {α : Type} {p : α → Bool} {x : Array α} (h : x.all p = true) : ∀ a ∈ x, p a = true := by rw [Array.all_eq_true'] at h; exact h
theorem isNilP_ok {x : Operand} (h : isNilP x = true) : x = .const (.pointer none) := by
  unfold isNilP at h
  split at h
  · rfl
  · cases h
theorem isNilI_ok {x : Operand} (h : isNilI x = true) : x = .const .nilIface := by
  unfold isNilI at h
  split at h
  · rfl
  · cases h
theorem eqOpB_ok {x y : Operand} {d : TypeDesc} (h : eqOpB x y d = true) : EqOp x y d := by
  cases d <;> simp only [eqOpB] at h <;> first | trivial | (cases h; done) | skip
  · simp only [Bool.or_eq_true] at h
    exact h.imp isNilP_ok isNilP_ok
  · simp only [Bool.or_eq_true] at h
    exact h.imp isNilI_ok isNilI_ok
theorem okOpB_ok {op : Op} (h : okOpB l v P op = true) : okOp (InV l v) P op := by
  cases op <;> simp only [okOpB, Bool.and_eq_true] at h <;> first | (cases h; done) | skip
  case move x => exact okXB_ok h
  case assign x => exact okXB_ok h
  case pick c a b => exact ⟨okXB_ok h.1.1, okXB_ok h.1.2, okXB_ok h.2⟩
  case alloc t => exact zeroB_ok h
  case box t x => exact okXB_ok h
  case build t ps => exact ⟨zeroB_ok h.1, fun p hp => okXB_ok (all_ok h.2 p hp)⟩
  case buildSlice t n ps => exact ⟨zeroElemB_ok h.1, fun p hp => okXB_ok (all_ok h.2 p hp)⟩
  case load t a => exact okXB_ok h
  case store t a x => exact ⟨okXB_ok h.1, okXB_ok h.2⟩
  case nilCheck x => exact okXB_ok h
  case binOp op t x y yt =>
    refine ⟨⟨okXB_ok h.1.1, okXB_ok h.1.2⟩, fun ho d hd => ?_⟩
    have h3 := h.2
    rcases ho with rfl | rfl <;> (simp only [eqB, hd] at h3; exact eqOpB_ok h3)
  case unOp op t x => exact okXB_ok h
  case convert s d x =>
    have key : ∀ {t : TypeId}, isIntB P t = true → ∃ k, P.underlying t = some (.int k) := fun {t} ht => by
      unfold isIntB at ht
      split at ht
      · exact ⟨_, by assumption⟩
      · cases ht
    exact ⟨okXB_ok h.1.1, key h.1.2, key h.2⟩
  case makeInterface t x => exact okXB_ok h
  case makeFunc fn x y =>
    cases fn <;> simp only [okOpB, Bool.and_eq_true] at h <;> first | (cases h; done) | skip
    rename_i f
    exact ⟨⟨f, rfl, by have := h.1.1; simp only [Bool.or_eq_true, List.contains_iff_mem] at this; exact this⟩, fun o ho => okXB_ok (all_ok h.1.2 o ho), fun o ho => okXB_ok (all_ok h.2 o ho)⟩
  case makeSlice t a c => exact ⟨⟨okXB_ok h.1.1, okXB_ok h.1.2⟩, zeroElemB_ok h.2⟩
  case slice t x a b m => exact ⟨okXB_ok h.1.1.1, okXoB_ok h.1.1.2, okXoB_ok h.1.2, okXoB_ok h.2⟩
  case fieldAddr s x n =>
    refine ⟨okXB_ok h.1, fun fs f i h1 h2 h3 => ?_⟩
    have h4 := h.2
    simp only [fieldB, h1, h2, h3] at h4
    simpa using h4
  case field s x n => exact okXB_ok h
  case indexAddr t x i => exact ⟨okXB_ok h.1, okXB_ok h.2⟩
  case index t x i => exact ⟨okXB_ok h.1, okXB_ok h.2⟩
  case extract x n => exact okXB_ok h
  case call c =>
    refine ⟨?_, fun o ho => okXB_ok (all_ok h.2 o ho)⟩
    have h1 := h.1
    obtain ⟨callee, args, ats⟩ := c
    cases callee with
    | value f =>
      have dyn : (v.isEmpty && okXB l v f) = true → okX (InV l v) f ∧ ∀ g, InV l v g → (InV l v).call g := fun h => by
        simp only [Bool.and_eq_true, List.isEmpty_iff] at h
        obtain ⟨hv, hx⟩ := h
        subst hv
        exact ⟨okXB_ok hx, fun g hg => hg.elim id fun x => by cases x⟩
      cases f with
      | func g => exact ⟨.inl (List.contains_iff_mem.1 h1), List.contains_iff_mem.1 h1⟩
      | tmp t => exact dyn h1
      | const x => exact dyn h1
      | global g => exact dyn h1
    | invoke r n => cases h1
    | builtin b =>
      cases b <;> simp only [okCalleeB] at h1 <;> first | trivial | (cases h1; done) | skip
      · intro s elem hs he
        rw [hs] at h1
        exact zeroElemB_ok h1 elem he
      · intro d s hs hd
        rw [hs] at h1
        simp only [hd] at h1
        cases d <;> first | exact ⟨_, rfl⟩ | cases h1
      · intro d s hs hd
        rw [hs] at h1
        simp only [hd] at h1
        constructor
        · intro e b hh
          subst hh
          cases h1
        · intro k v hh
          subst hh
          cases h1
theorem okCodeB_ok : ∀ {c : Code}, okCodeB l v P c = true → okCode (InV l v) P c := by
  intro c
  induction c with
  | skip => exact fun _ => trivial
  | exit id => exact fun _ => trivial
  | label id => exact fun _ => trivial
  | ret => exact fun _ => trivial
  | region id ops d => exact fun h i o ho => okOpB_ok (all_ok h o (Array.mem_of_getElem? ho))
  | seq a b iha ihb => intro h; simp only [okCodeB, Bool.and_eq_true] at h; exact ⟨iha h.1, ihb h.2⟩
  | cond c a b iha ihb => intro h; simp only [okCodeB, Bool.and_eq_true] at h; exact ⟨okXB_ok h.1.1, iha h.1.2, ihb h.2⟩
  | block id a ih => exact fun h => ih h
  | loop a ih => exact fun h => ih h
  | scope a ih => exact fun h => ih h
  | _ => intro h; cases h
theorem okFnB_ok (h : l.all (okFnB l v P) = true) : OkFns (InV l v) P := ⟨fun f hf => by
  have := List.all_eq_true.1 h f hf
  unfold okFnB at this
  cases h1 : P.funcs[f]? with
  | none => rw [h1] at this; cases this
  | some fn =>
    rw [h1] at this
    simp only [Bool.and_eq_true, Bool.not_eq_true'] at this
    cases h2 : fn.body with
    | none => rw [h2] at this; cases this.2
    | some c =>
      rw [h2] at this
      refine ⟨fn, c, rfl, this.1.1, h2, okCodeB_ok this.2, fun i r hr => ?_⟩
      have := all_ok this.1.2 r (Array.mem_of_getElem? hr)
      cases r with
      | tmp t => exact ⟨t, rfl⟩
      | cell a t => cases this⟩
theorem resB_ok {f : FuncId} {fn : Func} (h1 : P.funcs[f]? = some fn) (h : fn.results.all isTmpB = true) : ResFn P f := ⟨fn, h1, fun i r hr => by
  have := all_ok h r (Array.mem_of_getElem? hr)
  cases r with
  | tmp t => exact ⟨t, rfl⟩
  | cell a t => cases this⟩
end
end Go.Proofs.Yticdjkkcfdbdcaa
