/- Steps that look at no memory: reckoned by a function, whatever the world. No program; no conditions but those named. -/
import Derived.Conc.QuitsD
namespace Go.Proofs.Yticdjkkcfdbdcaa
open Go.Conc
/-- The run of a meaning that looks at no memory, draws nothing and halts nowhere. -/
def qsem {α : Type} (P : Program) : Sem α → Option (α × List Mark)
  | .pure a => some (a, [])
  | .program k => qsem P (k P)
  | .mark m k => (qsem P k).map fun r => (r.1, m :: r.2)
  | .choose q k => if q.forced then qsem P (k 0) else none
  | _ => none
def markEv (m : Mark) : Event := ⟨.mark m, false, true⟩
theorem qsem_runT {α : Type} {P : Program} {s : Sem α} : ∀ {a : α} {l : List Mark}, qsem P s = some (a, l) → ∀ (w : World) (es : Array Event), s.runT P w es = (.ok a w, es ++ (l.map markEv).toArray) := by
  induction s with
  | pure a =>
    intro a' l h w es
    simp only [qsem, Option.some.injEq, Prod.mk.injEq] at h
    obtain ⟨rfl, rfl⟩ := h
    simp [Sem.runT, -Sem.runT_eq]
  | program k ih =>
    intro a' l h w es
    simp only [Sem.runT]
    exact ih P (by simpa only [qsem] using h) w es
  | mark m k ih =>
    intro a' l h w es
    simp only [qsem, Option.map_eq_some_iff, Prod.mk.injEq] at h
    obtain ⟨⟨a, l1⟩, h1, rfl, rfl⟩ := h
    simp only [Sem.runT]
    rw [ih h1]
    simp [markEv]
  | choose q k ih =>
    intro a' l h w es
    simp only [qsem] at h
    split at h
    · rename_i hq
      simp only [Sem.runT, hq, if_true]
      exact ih 0 h w es
    · cases h
  | _ => intro a' l h; simp [qsem] at h
/-- The functions without a body that are met, by their numbers. -/
abbrev Exts := FuncId → Option (Array Value → Sem Value)
def ExtOk (P : Program) (X : Exts) : Prop := ∀ f e, X f = some e → ∃ fn : Func, P.funcs[f]? = some fn ∧ (fn.name == "runtime.NumGoroutine") = false ∧ fn.body.isNone = true ∧ Extern.findNext fn = none ∧ Extern.find fn = some e
def extCall (n : FuncId) (s : Sem Value) : Sem Next := do mark (.extern n); pure (.value (← s))
theorem callFunc_ext {P : Program} {X : Exts} (hX : ExtOk P X) {f : FuncId} {e : Array Value → Sem Value} (h : X f = some e) (args : Array Value) (w : World) (es : Array Event) : (callFunc f args).runT P w es = (extCall f (e args)).runT P w es := by
  obtain ⟨fn, h1, h2, h3, h4, h5⟩ := hX f e h
  have h2' : fn.name ≠ "runtime.NumGoroutine" := by simpa using h2
  have h3' : fn.body = none := by simpa using h3
  show Sem.runT P (Sem.bind program _) w es = _
  simp only [program, Sem.bind, Sem.runT]
  simp only [h1, h2', h3', beq_iff_eq, if_false, Option.isNone_none, if_true, h4, h5]
  rfl
/-- An operation, the functions without a body by the table. -/
def exop (X : Exts) (ρ : Operand → Value) (o : Oper) : Sem Next :=
  match o.op with
  | .call { callee := .value f, args, .. } =>
    match ρ f with
    | .func (.func n) first captured =>
      match X n with
      | some e => extCall n (e (first ++ args.map ρ ++ captured))
      | none => execOp ρ o
    | _ => execOp ρ o
  | _ => execOp ρ o
theorem exop_runT {P : Program} {X : Exts} (hX : ExtOk P X) (ρ : Operand → Value) (o : Oper) (w : World) (es : Array Event) : (execOp ρ o).runT P w es = (exop X ρ o).runT P w es := by
  unfold exop
  split
  · rename_i f args ats ho
    split
    · rename_i n first captured hf
      split
      · rename_i e he
        have : execOp ρ o = callFunc n (first ++ args.map ρ ++ captured) := by
          simp only [execOp, ho, resolve, Deferred.ofValue, hf]
          rfl
        rw [this, callFunc_ext hX he]
      · rfl
    · rfl
  · rfl
def exinv (X : Exts) (t : Target) (args : Array Value) : Sem Next :=
  match t with
  | .fn (.func n) captured =>
    match X n with
    | some e => extCall n (e (args ++ captured))
    | none => invoke t args
  | _ => invoke t args
theorem exinv_runT {P : Program} {X : Exts} (hX : ExtOk P X) (t : Target) (args : Array Value) (w : World) (es : Array Event) : (invoke t args).runT P w es = (exinv X t args).runT P w es := by
  unfold exinv
  split
  · rename_i n captured
    split
    · rename_i e he
      have : invoke (.fn (.func n) captured) args = callFunc n (args ++ captured) := rfl
      rw [this, callFunc_ext hX he]
    · rfl
  · rfl
/-- What a step that looks at nothing makes of a goroutine. -/
def qapply (P : Program) (fr : Frame) (cs : List Frame) (s : Sem Next) : Option (Goroutine × List Mark) :=
  if fr.kind == .early then none else
  match qsem P s with
  | some (.value v, l) => some (G (fr.finish v) cs, l)
  | some (.skip, l) => some (G (fr.finish undef) cs, l)
  | some (.enter f args, l) => some (G (Frame.enter P f args .normal) (fr :: cs), l)
  | some (.defer d, l) => some (G ({ fr with defers := d :: fr.defers }.finish undef) cs, l)
  | _ => none
def qexec (P : Program) (X : Exts) (fr : Frame) (cs : List Frame) : Option (Goroutine × List Mark) :=
  if fr.roundOf.isSome then none else
  let to (todo : List Item) : Option (Goroutine × List Mark) := some (G { fr with todo } cs, [])
  match fr.todo with
  | [] | .code .ret :: _ => some (G { fr with mode := .returning } cs, [])
  | .code .skip :: k | .code (.label _) :: k | .inBlock _ :: k | .inScope _ :: k => to k
  | .code (.seq a b) :: k => to (.code a :: .code b :: k)
  | .code (.cond c thn els) :: k =>
    match fr.eval c with
    | .bool b => to (.code (if b then thn else els) :: k)
    | _ => none
  | .code (.block id body) :: k => to (.code body :: .inBlock id :: k)
  | .code (.loop body) :: k | .inLoop body :: k => to (.code body :: .inLoop body :: k)
  | .code (.scope body) :: k => to (.code body :: .inScope body :: k)
  | .code (.exit id) :: k => (exitTo id k).elim none to
  | .code (.goto l) :: k => (gotoIn l k).elim none to
  | .code (.region _ ops false) :: k => to (.inRegion ops (List.range ops.size) :: k)
  | .inRegion _ [] :: k => to k
  | .inRegion ops (i :: _) :: _ =>
    match ops[i]? with
    | none => none
    | some o => if Region.wanted o (yielded ops fr.tmps) then qapply P fr cs (exop X fr.eval o) else some (G (fr.finish undef) cs, [])
  | _ => none
def qreturn (main : Bool) (fr : Frame) (cs : List Frame) (v : Value) : Option Goroutine :=
  match cs with
  | caller :: rest =>
    match fr.kind with
    | .normal | .wrapped => some (G (caller.finish v) rest)
    | .deferred =>
      match caller.mode with
      | .returning | .run => some (G caller rest)
      | .panicking ({ recovered := false, .. } :: _) => some (G caller rest)
      | _ => none
    | _ => none
  | [] => if main then none else match fr.kind with | .report => none | _ => some { frame := fr, callers := [], status := .finished, dying := none }
def qunwind (P : Program) (X : Exts) (main : Bool) (fr : Frame) (cs : List Frame) : Option (Goroutine × List Mark) :=
  match fr.defers with
  | { target := .collected _, .. } :: _ => none
  | d :: ds =>
    match d.target with
    | .fn f c =>
      match qsem P (exinv X (.fn f c) d.args) with
      | some (.enter g args, l) => some (G (Frame.enter P g args .deferred) ({ fr with defers := ds } :: cs), l)
      | some (.value _, l) => some (G { fr with defers := ds } cs, l)
      | _ => none
    | _ => none
  | [] =>
    match fr.mode with
    | .returning =>
      match P.funcs[fr.fn]? with
      | none => none
      | some fn =>
        match qsem P (results fn fr.tmps) with
        | some (v, l) => (qreturn main fr cs v).map (·, l)
        | none => none
    | .panicking ({ goexit := true, .. } :: _) =>
      match cs with
      | [] => if fr.catches P then none else some ({ frame := fr, callers := [], status := .finished, dying := none }, [])
      | _ => none
    | _ => none
def qstep (P : Program) (X : Exts) (main : Bool) (g : Goroutine) : Option (Goroutine × List Mark) :=
  if g.dying.isSome || g.status != .running then none else
  match g.frame.mode with
  | .run => qexec P X g.frame g.callers
  | _ => qunwind P X main g.frame g.callers
theorem seen_empty (P : Program) (fn : FuncId) : seen P fn #[] = #[] := by simp [seen]
theorem qapply_step {P : Program} {fr : Frame} {cs : List Frame} {s s0 : Sem Next} {g' : Goroutine} {l : List Mark} (h : qapply P fr cs s = some (g', l)) (h0 : ∀ w es, s0.runT P w es = s.runT P w es) (hk : ∀ d r sv k, fr.todo ≠ .call d true r sv :: k) (w : World) :
    stepG.apply P true fr cs none s0 w = .go g' w (seen P fr.fn (l.map markEv).toArray) := by
  unfold qapply at h
  split at h
  · cases h
  · rename_i he
    have he' : (fr.kind == CallKind.early) = false := by simpa using he
    have hkind : (match fr.todo with | .call _ true _ _ :: _ => CallKind.wrapped | _ => CallKind.normal) = .normal := by
      split
      · rename_i heq; exact absurd heq (hk _ _ _ _)
      · rfl
    split at h <;> simp only [Option.some.injEq, Prod.mk.injEq, reduceCtorEq] at h
    all_goals
      rename_i hs
      obtain ⟨rfl, rfl⟩ := h
      have hr := (h0 w #[]).trans (qsem_runT hs w #[])
      simp [stepG.apply, -Sem.runT_eq, hr, he', hkind, GStep.after, G]
theorem qexec_step {P : Program} {X : Exts} (hX : ExtOk P X) {fr : Frame} {cs : List Frame} {g' : Goroutine} {l : List Mark} (h : qexec P X fr cs = some (g', l)) (main : Bool) (w : World) :
    stepG.exec P main true fr cs none w = .go g' w (seen P fr.fn (l.map markEv).toArray) := by
  unfold qexec at h
  split at h
  · cases h
  rename_i hro
  have hro' : fr.roundOf = none := by simpa using hro
  simp only at h
  split at h
  all_goals try (simp only [reduceCtorEq] at h; done)
  all_goals try (
    rename_i ht
    simp only [Option.some.injEq, Prod.mk.injEq] at h
    obtain ⟨rfl, rfl⟩ := h
    simp [stepG.exec, ht, hro', seen_empty, G]
    done)
  · -- cond
    rename_i ht
    split at h
    · rename_i hb
      simp only [Option.some.injEq, Prod.mk.injEq] at h
      obtain ⟨rfl, rfl⟩ := h
      simp [stepG.exec, ht, hb, seen_empty, G]
    · cases h
  · rename_i id k ht
    cases he : exitTo id k with
    | none => simp [he] at h
    | some k' =>
      simp only [he, Option.elim_some, Option.some.injEq, Prod.mk.injEq] at h
      obtain ⟨rfl, rfl⟩ := h
      simp [stepG.exec, ht, he, seen_empty, G]
  · rename_i id k ht
    cases he : gotoIn id k with
    | none => simp [he] at h
    | some k' =>
      simp only [he, Option.elim_some, Option.some.injEq, Prod.mk.injEq] at h
      obtain ⟨rfl, rfl⟩ := h
      simp [stepG.exec, ht, he, seen_empty, G]
  · rename_i ops i rest k ht
    split at h
    · cases h
    · rename_i o ho
      split at h
      · rename_i hw
        have hop : fr.oper? = some o := by simp [Frame.oper?, ht, ho]
        have := qapply_step h (exop_runT hX _ _) (by intro d r sv k' e; rw [ht] at e; cases e) w
        simp [stepG.exec, ht, ho, hw, stepG.oper, hop, hro', this]
      · rename_i hw
        simp only [Option.some.injEq, Prod.mk.injEq] at h
        obtain ⟨rfl, rfl⟩ := h
        simp [stepG.exec, ht, ho, hw, seen_empty, G]
theorem qreturn_step {P : Program} {main : Bool} {fr : Frame} {cs : List Frame} {v : Value} {g' : Goroutine} (h : qreturn main fr cs v = some g') (w : World) : doReturn P main fr cs none v w = .go g' w := by
  unfold qreturn at h
  split at h
  · split at h
    · rename_i hk; simp only [Option.some.injEq] at h; subst h; simp [doReturn, hk, G]
    · rename_i hk; simp only [Option.some.injEq] at h; subst h; simp [doReturn, hk, G]
    · rename_i hk
      split at h
      · rename_i hm; simp only [Option.some.injEq] at h; subst h; simp [doReturn, hk, hm, G]
      · rename_i hm; simp only [Option.some.injEq] at h; subst h; simp [doReturn, hk, hm, G]
      · rename_i hm; simp only [Option.some.injEq] at h; subst h; simp [doReturn, hk, hm, G]
      · cases h
    · cases h
  · split at h
    · cases h
    · rename_i hm
      split at h
      · cases h
      · rename_i hk
        simp only [Option.some.injEq] at h
        subst h
        have hm' : main = false := by simpa using hm
        cases hkk : fr.kind <;> simp [doReturn, hkk, hm'] <;> simp_all
theorem qunwind_step {P : Program} {X : Exts} (hX : ExtOk P X) {main : Bool} {fr : Frame} {cs : List Frame} {g' : Goroutine} {l : List Mark} (h : qunwind P X main fr cs = some (g', l)) (w : World) :
    unwind P main fr cs none w = .go g' w (seen P fr.fn (l.map markEv).toArray) := by
  unfold qunwind at h
  split at h
  · cases h
  · rename_i d ds hnc hd
    split at h
    · rename_i f c hdt
      have hu : unwind P main fr cs none w = callDeferred P { fr with defers := ds } cs none d w := by
        unfold unwind
        rw [hd]
        obtain ⟨t, args⟩ := d
        simp only at hdt
        subst hdt
        rfl
      rw [hu]
      unfold callDeferred
      rw [hdt]
      split at h
      · rename_i hs
        simp only [Option.some.injEq, Prod.mk.injEq] at h
        obtain ⟨rfl, rfl⟩ := h
        have hr := (exinv_runT hX (.fn f c) d.args w #[]).trans (qsem_runT hs w #[])
        simp [-Sem.runT_eq, hr, GStep.after, G]
      · rename_i hs
        simp only [Option.some.injEq, Prod.mk.injEq] at h
        obtain ⟨rfl, rfl⟩ := h
        have hr := (exinv_runT hX (.fn f c) d.args w #[]).trans (qsem_runT hs w #[])
        simp [-Sem.runT_eq, hr, GStep.after, G]
      · cases h
    · cases h
  · rename_i hd
    split at h
    · rename_i hm
      split at h
      · cases h
      · rename_i fn hf
        split at h
        · rename_i v l1 hs
          obtain ⟨g1, h1, h2⟩ := Option.map_eq_some_iff.1 h
          simp only [Prod.mk.injEq] at h2
          obtain ⟨rfl, rfl⟩ := h2
          have hr := qsem_runT hs w #[]
          simp [unwind, hd, hm, hf, -Sem.runT_eq, hr, qreturn_step h1 w, GStep.after]
        · cases h
    · rename_i e rest hm
      split at h
      · split at h
        · cases h
        · rename_i hc
          simp only [Option.some.injEq, Prod.mk.injEq] at h
          obtain ⟨rfl, rfl⟩ := h
          simp [unwind, hd, hm, hc, seen_empty]
      · cases h
    · cases h
theorem qstep_step {P : Program} {X : Exts} (hX : ExtOk P X) {main : Bool} {g g' : Goroutine} {l : List Mark} (h : qstep P X main g = some (g', l)) :
    g.status = .running ∧ ∀ w, stepG P main g w = .go g' w (seen P g.frame.fn (l.map markEv).toArray) := by
  unfold qstep at h
  split at h
  · cases h
  rename_i hd
  obtain ⟨fr, cs, st, dy, of⟩ := g
  simp only [Bool.or_eq_true, not_or, Bool.not_eq_true, Option.isSome_eq_false_iff, Option.isNone_iff_eq_none, bne_eq_false_iff_eq] at hd
  obtain ⟨rfl, rfl⟩ := hd
  refine ⟨rfl, fun w => ?_⟩
  split at h
  · rename_i hm
    simp only at hm
    have := qexec_step hX h main w
    simpa [stepG, hm] using this
  · rename_i hm
    have := qunwind_step hX h w
    cases hmm : fr.mode with
    | run => exact absurd hmm (by simpa using hm)
    | returning => simpa [stepG, hmm] using this
    | panicking c => simpa [stepG, hmm] using this
/-- It ends within so many steps, listing no more than 'enable' and 'disable'; d of these stand open. -/
def qquits (P : Program) (X : Exts) : Nat → Nat → Goroutine → Bool
  | 0, d, g => g.status == .finished && d == 0
  | n + 1, d, g => (g.status == .finished && d == 0) || match qstep P X false g with
    | some (g', l) => let es := seen P g.frame.fn (l.map markEv).toArray
      es.all Event.mute && qquits P X n (deafBehind d es) g'
    | none => false
theorem qquits_quits {P : Program} {X : Exts} (hX : ExtOk P X) : ∀ {n d : Nat} {g : Goroutine}, qquits P X n d g = true → QuitsD P n d g
  | 0, d, g, h => by
    simp only [qquits, Bool.and_eq_true, beq_iff_eq] at h
    exact h
  | n + 1, d, g, h => by
    simp only [qquits, Bool.or_eq_true, Bool.and_eq_true, beq_iff_eq] at h
    rcases h with h | h
    · exact .inl h
    · split at h
      · rename_i g' l hs
        simp only [Bool.and_eq_true] at h
        obtain ⟨hr, hst⟩ := qstep_step hX hs
        exact .inr ⟨hr, g', _, fun e he => by
          have := h.1
          rw [Array.all_eq_true'] at this
          exact this e he, hst, qquits_quits hX h.2⟩
      · cases h
end Go.Proofs.Yticdjkkcfdbdcaa
