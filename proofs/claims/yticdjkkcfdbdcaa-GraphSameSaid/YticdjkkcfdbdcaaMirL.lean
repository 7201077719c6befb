/- Frames alike in two worlds, and their steps. No program; no conditions but those named. -/
import Derived.Test.YticdjkkcfdbdcaaRenZ
import Derived.Test.YticdjkkcfdbdcaaQuiet
import Derived.Test.YticdjkkcfdbdcaaWgM
import Derived.KernelRfl
import Derived.Conc.Company
namespace Go.Proofs.Yticdjkkcfdbdcaa
open Go.Conc
section
variable (S : FnSet) (P : Program)
/-- Code of which each operation is one of those shown alike. -/
def okCode : Code → Prop
  | .skip | .exit _ | .label _ | .ret => True
  | .region _ ops _ => ∀ (i : Nat) o, ops[i]? = some o → okOp S P o.op
  | .seq a b => okCode a ∧ okCode b
  | .cond c a b => okX S c ∧ okCode a ∧ okCode b
  | .block _ a | .loop a | .scope a => okCode a
  | .rangeFunc _ _ _ _ | .goto _ | .refuse _ => False
def okItem : Item → Prop
  | .code c => okCode S P c
  | .inBlock _ => True
  | .inScope c | .inLoop c => okCode S P c
  | .inRegion ops _ => ∀ (i : Nat) o, ops[i]? = some o → okOp S P o.op
  | _ => False
/-- The functions that may run: their text is fine, their results lie in temporaries. -/
structure OkFns : Prop where
  body : ∀ f, S.call f → ∃ fn c, P.funcs[f]? = some fn ∧ (fn.name == "runtime.NumGoroutine") = false ∧ fn.body = some c ∧ okCode S P c
end
/-- A function whose results lie in temporaries. -/
def ResFn (P : Program) (f : FuncId) : Prop := ∃ fn, P.funcs[f]? = some fn ∧ ∀ (i : Nat) r, fn.results[i]? = some r → ∃ t, r = .tmp t
def ResAny (P : Program) (f : FuncId) : Prop := ∃ fn, P.funcs[f]? = some fn
theorem OkFns.res {S : FnSet} {P : Program} (h : OkFns S P) {f : FuncId} (hf : S.call f) : ResAny P f := by
  obtain ⟨fn, c, h1, _⟩ := h.body f hf
  exact ⟨fn, h1⟩
theorem OkFns.bodies {S : FnSet} {P : Program} (h : OkFns S P) : Bodies S P := fun f hf => by
  obtain ⟨fn, c, h1, h2, h3, _⟩ := h.body f hf
  exact ⟨fn, h1, h2, by simp [h3]⟩
/-- Two frames that are alike. -/
structure FR (S : FnSet) (P : Program) (ρ : Ren) (f f' : Frame) : Prop where
  fn : f'.fn = f.fn
  inS : ResAny P f.fn
  todo : f'.todo = f.todo
  ok : ∀ x ∈ f.todo, okItem S P x
  tmps : VRs S ρ f.tmps f'.tmps
  defers : f.defers = [] ∧ f'.defers = []
  kind : f.kind = .normal ∧ f'.kind = .normal
  round : f.roundOf = none ∧ f'.roundOf = none
  mode : (f.mode = .run ∧ f'.mode = .run) ∨ (f.mode = .returning ∧ f'.mode = .returning)
theorem FR.mono {S : FnSet} {P : Program} {ρ ρ' : Ren} {f f' : Frame} (h : FR S P ρ f f') (hr : ρ.le ρ') : FR S P ρ' f f' := { h with tmps := h.tmps.mono hr }
theorem FR.eval {S : FnSet} {P : Program} {ρ : Ren} {f f' : Frame} (h : FR S P ρ f f') : EvR S ρ f.eval f'.eval := by
  refine ⟨fun x hx => ?_, fun v => rfl, fun g => rfl⟩
  cases x with
  | tmp t => exact h.tmps.getD t VR.undef
  | const v => exact Bare.rel hx
  | func g => exact .func hx rfl (fun i v v' h => by simp at h) rfl (fun i v v' h => by simp at h)
  | global g => exact hx.elim
theorem exitTo_mem {id : Nat} : ∀ {k k' : List Item}, exitTo id k = some k' → ∀ x ∈ k', x ∈ k
  | [], _, h => by cases h
  | y :: k, k', h => by
    intro x hx
    cases y <;> simp only [exitTo] at h
    case inBlock id' =>
      split at h
      · cases h; exact List.mem_cons_of_mem _ hx
      · exact List.mem_cons_of_mem _ (exitTo_mem h x hx)
    all_goals exact List.mem_cons_of_mem _ (exitTo_mem h x hx)
/-- A frame goes on with a value. -/
theorem FR.finish {S : FnSet} {P : Program} {ρ : Ren} {f f' : Frame} (h : FR S P ρ f f') {v v' : Value} (hv : VR S ρ v v') : FR S P ρ (f.finish v) (f'.finish v') := by
  obtain ⟨h1, h0, h2, h3, h4, h5, h6, h7, h8⟩ := h
  obtain ⟨fn, tmps, todo, defers, mode, kind, round⟩ := f
  obtain ⟨fn', tmps', todo', defers', mode', kind', round'⟩ := f'
  simp only at h1 h2 h4 h5 h6 h7 h8
  subst h1 h2
  have same : FR S P ρ ⟨fn', tmps, todo', defers, mode, kind, round⟩ ⟨fn', tmps', todo', defers', mode', kind', round'⟩ := ⟨rfl, h0, rfl, h3, h4, h5, h6, h7, h8⟩
  cases todo' with
  | nil => exact same
  | cons it k =>
    cases it with
    | inRegion ops l =>
      cases l with
      | nil => exact same
      | cons i rest =>
        refine ⟨rfl, h0, rfl, fun x hx => ?_, ?_, h5, h6, h7, h8⟩
        · rcases List.mem_cons.1 hx with rfl | hx
          · exact h3 (.inRegion ops (i :: rest)) (by simp)
          · exact h3 x (by simp [hx])
        · simp only [Frame.finish]
          split
          · rename_i d hd; exact h4.set d hv
          · exact h4
    | code c => exact same
    | inBlock b => exact same
    | inLoop b => exact same
    | inScope b => exact same
    | _ => exact absurd (h3 _ (List.mem_cons_self ..)) (fun h => h)
end Go.Proofs.Yticdjkkcfdbdcaa
namespace Go.Proofs.Yticdjkkcfdbdcaa
open Go.Conc
section
variable {S : FnSet} {P : Program} {ρ : Ren}
/-- A frame behind whose text more stands. -/
def ext (K : List Item) (f : Frame) : Frame := { f with todo := f.todo ++ K }
theorem ext_nil (f : Frame) : ext [] f = f := by simp [ext]
theorem exitTo_app {id : Nat} : ∀ {k k' : List Item} (K : List Item), exitTo id k = some k' → exitTo id (k ++ K) = some (k' ++ K)
  | [], _, _, h => by cases h
  | y :: k, k', K, h => by
    cases y <;> simp only [exitTo, List.cons_append] at h ⊢
    case inBlock id' =>
      split at h
      · rename_i e; rw [if_pos e]; cases h; rfl
      · rename_i e; rw [if_neg e]; exact exitTo_app K h
    all_goals exact exitTo_app K h
theorem exitTo_none {id : Nat} : ∀ {k K : List Item}, exitTo id k = none → exitTo id K = none → exitTo id (k ++ K) = none
  | [], _, _, h => h
  | y :: k, K, h, hK => by
    cases y <;> simp only [exitTo, List.cons_append] at h ⊢
    case inBlock id' =>
      split at h
      · cases h
      · rename_i e; rw [if_neg e]; exact exitTo_none h hK
    all_goals exact exitTo_none h hK
/-- Steps of control: the same in whatever world; or the lone one's run is lost. -/
theorem step_ctl {f f' : Frame} (h : FR S P ρ f f') (hm : f.mode = .run) (hne : ∀ ops i rest k, f.todo ≠ .inRegion ops (i :: rest) :: k) (hnd : ∀ id ops k, f.todo ≠ .code (.region id ops true) :: k) (main main' : Bool) (cs cs' : List Frame)
    (K K' : List Item) (hK : ∀ id, exitTo id K = none) (hn : f.todo = [] → K = [] ∧ K' = []) :
    (∀ L, ∃ o, stepG P main (G (ext K f) cs) L = .ended o L #[]) ∨ ∃ f1 f1', FR S P ρ f1 f1' ∧ (∀ L, stepG P main (G (ext K f) cs) L = .go (G (ext K f1) cs) L #[]) ∧ ∀ W, stepG P main' (G (ext K' f') cs') W = .go (G (ext K' f1') cs') W #[] := by
  have he := h.eval.1
  obtain ⟨h1, h0, h2, h3, h4, h5, h6, h7, h8⟩ := h
  obtain ⟨fn, tmps, todo, defers, mode, kind, round⟩ := f
  obtain ⟨fn', tmps', todo', defers', mode', kind', round'⟩ := f'
  simp only at h1 h2 h4 h5 h6 h7 h8 hm hne hnd
  subst h1 h2 hm
  obtain ⟨rfl, rfl⟩ := h7
  have hm' : mode' = .run := by rcases h8 with h | h <;> simp_all
  subst hm'
  have to : ∀ t, (∀ x ∈ t, okItem S P x) → FR S P ρ ⟨fn', tmps, t, defers, .run, kind, none⟩ ⟨fn', tmps', t, defers', .run, kind', none⟩ := fun t ht => ⟨rfl, h0, rfl, ht, h4, h5, h6, ⟨rfl, rfl⟩, .inl ⟨rfl, rfl⟩⟩
  have rt : ∀ t, (∀ x ∈ t, okItem S P x) → FR S P ρ ⟨fn', tmps, t, defers, .returning, kind, none⟩ ⟨fn', tmps', t, defers', .returning, kind', none⟩ := fun t ht => ⟨rfl, h0, rfl, ht, h4, h5, h6, ⟨rfl, rfl⟩, .inr ⟨rfl, rfl⟩⟩
  cases todo' with
  | nil =>
    obtain ⟨rfl, rfl⟩ := hn rfl
    exact .inr ⟨_, _, rt [] h3, fun L => rfl, fun W => rfl⟩
  | cons it k =>
    have hk : ∀ x ∈ k, okItem S P x := fun x hx => h3 x (List.mem_cons_of_mem _ hx)
    have hi := h3 it (List.mem_cons_self ..)
    have app : ∀ l : List Item, (∀ x ∈ l, okItem S P x) → ∀ x ∈ l ++ k, okItem S P x := fun l hl x hx => (List.mem_append.1 hx).elim (hl x) (hk x)
    cases it with
    | inBlock id => exact .inr ⟨_, _, to k hk, fun L => rfl, fun W => rfl⟩
    | inScope c => exact .inr ⟨_, _, to k hk, fun L => rfl, fun W => rfl⟩
    | inLoop c => exact .inr ⟨_, _, to _ (app [.code c, .inLoop c] (by simp; exact ⟨hi, hi⟩)), fun L => rfl, fun W => rfl⟩
    | inRegion ops l =>
      cases l with
      | nil => exact .inr ⟨_, _, to k hk, fun L => rfl, fun W => rfl⟩
      | cons i rest => exact absurd rfl (hne _ _ _ _)
    | code c =>
      cases c with
      | skip => exact .inr ⟨_, _, to k hk, fun L => rfl, fun W => rfl⟩
      | label l => exact .inr ⟨_, _, to k hk, fun L => rfl, fun W => rfl⟩
      | ret => exact .inr ⟨_, _, rt _ h3, fun L => rfl, fun W => rfl⟩
      | seq a b => exact .inr ⟨_, _, to _ (app [.code a, .code b] (by simp; exact hi)), fun L => rfl, fun W => rfl⟩
      | block id a => exact .inr ⟨_, _, to _ (app [.code a, .inBlock id] (by simp; exact ⟨hi, trivial⟩)), fun L => rfl, fun W => rfl⟩
      | loop a => exact .inr ⟨_, _, to _ (app [.code a, .inLoop a] (by simp; exact ⟨hi, hi⟩)), fun L => rfl, fun W => rfl⟩
      | scope a => exact .inr ⟨_, _, to _ (app [.code a, .inScope a] (by simp; exact ⟨hi, hi⟩)), fun L => rfl, fun W => rfl⟩
      | region id ops d =>
        cases d with
        | true => exact absurd rfl (hnd _ _ _)
        | false => exact .inr ⟨_, _, to _ (app [.inRegion ops (List.range ops.size)] (by simp; exact hi)), fun L => rfl, fun W => rfl⟩
      | cond c a b =>
        have hv := he c hi.1
        have e1 : Frame.eval (ext K ⟨fn', tmps, .code (.cond c a b) :: k, defers, .run, kind, none⟩) c = Frame.eval ⟨fn', tmps, .code (.cond c a b) :: k, defers, .run, kind, none⟩ c := rfl
        have e2 : Frame.eval (ext K' ⟨fn', tmps', .code (.cond c a b) :: k, defers', .run, kind', none⟩) c = Frame.eval ⟨fn', tmps', .code (.cond c a b) :: k, defers', .run, kind', none⟩ c := rfl
        generalize hx : Frame.eval ⟨fn', tmps, .code (.cond c a b) :: k, defers, .run, kind, none⟩ c = v at hv e1
        generalize hx' : Frame.eval ⟨fn', tmps', .code (.cond c a b) :: k, defers', .run, kind', none⟩ c = v' at hv e2
        by_cases hb : ∃ b, v = .bool b
        · obtain ⟨t, rfl⟩ := hb
          cases hv
          refine .inr ⟨_, _, to _ (app [.code (if t then a else b)] (by simp; cases t; exact hi.2.2; exact hi.2.1)), fun L => ?_, fun W => ?_⟩
          · simp only [ext, List.cons_append] at e1
            simp only [G, ext, List.cons_append, stepG, stepG.exec, e1]; rfl
          · simp only [ext, List.cons_append] at e2
            simp only [G, ext, List.cons_append, stepG, stepG.exec, e2]; rfl
        · refine .inl fun L => ⟨.stuck "cond: bool expected" (Frame.pos P (ext K ⟨fn', tmps, .code (.cond c a b) :: k, defers, .run, kind, none⟩)), ?_⟩
          simp only [ext, List.cons_append] at e1
          simp only [G, ext, List.cons_append, stepG, stepG.exec, e1]
          cases v <;> first | rfl | exact absurd ⟨_, rfl⟩ hb
      | exit id =>
        cases hx : exitTo id k with
        | none => exact .inl fun L => ⟨.stuck "exit, goto: no such block or label" (Frame.pos P (ext K ⟨fn', tmps, .code (.exit id) :: k, defers, .run, kind, none⟩)), by simp only [G, ext, List.cons_append, stepG, stepG.exec, exitTo_none hx (hK id), Option.elim_none]; rfl⟩
        | some k' => exact .inr ⟨_, _, to k' (fun x hxm => hk x (exitTo_mem hx x hxm)), fun L => by simp only [G, ext, List.cons_append, stepG, stepG.exec, exitTo_app K hx, Option.elim_some], fun W => by simp only [G, ext, List.cons_append, stepG, stepG.exec, exitTo_app K' hx, Option.elim_some]⟩
      | _ => exact absurd hi (fun h => h)
    | _ => exact absurd hi (fun h => h)
end
end Go.Proofs.Yticdjkkcfdbdcaa
namespace Go.Proofs.Yticdjkkcfdbdcaa
open Go.Conc
section
variable {S : FnSet} {P : Program} {ρ : Ren}
theorem yielded_same {x x' : Array Value} (h : VRs S ρ x x') (ops : Array Oper) : yielded ops x = yielded ops x' := by
  funext j
  unfold yielded
  cases hd : (ops[j]?).bind (·.dst) with
  | none => rfl
  | some d =>
    simp only [Option.bind_some]
    cases hx : x[d]? with
    | none => rw [h.none hx]
    | some v =>
      obtain ⟨v', h1, h2⟩ := h.get hx
      rw [h1]
      cases h2 <;> rfl
theorem seen_sub {fn : FuncId} {es : Array Event} : ∀ e ∈ seen P fn es, e ∈ es ∧ ∀ f, e.loc ≠ .mark (.extern f) := by
  obtain ⟨l⟩ := es
  intro e he
  unfold seen at he
  simp only [← Array.foldl_toList] at he
  suffices h : ∀ (p : Bool × Array Event), e ∈ (List.foldl _ p l).2 → e ∈ p.2 ∨ (e ∈ l ∧ ∀ f, e.loc ≠ .mark (.extern f)) by
    rcases h _ he with h | ⟨h, h'⟩
    · simp at h
    · exact ⟨by simpa using h, h'⟩
  clear he
  induction l with
  | nil => exact fun p he => .inl he
  | cons a l ih =>
    intro p he
    simp only [List.foldl_cons] at he
    rcases ih _ he with h | ⟨h, h'⟩
    · split at h
      · exact .inl h
      · rename_i hne
        simp only at h
        split at h
        · exact .inl h
        · rcases Array.mem_push.1 h with h | rfl
          · exact .inl h
          · exact .inr ⟨List.mem_cons_self .., fun f hf => hne f hf⟩
    · exact .inr ⟨List.mem_cons_of_mem _ h, h'⟩
theorem OwnX.seen {k : LK} {w w' : World} {es : Array Event} (h : OwnX k w w' es) (fn : FuncId) : Own k w w' (seen P fn es) :=
  ⟨h.chg, fun e he => by
    obtain ⟨h1, h2⟩ := seen_sub e he
    exact (h.evs e h1).elim id fun ⟨f, hf⟩ => absurd hf (h2 f)⟩
/-- The lone one's run is lost: it ends here, or it panics. -/
def Lost (P : Program) (g : Goroutine) (L : World) : Prop := (∃ o L' es, stepG P true g L = .ended o L' es) ∨ ∃ v L' es, stepG P true g L = .go (G (g.frame.raise [{ v, recovered := false }]) g.callers) L' es
/-- A frame enters a function. -/
theorem FR.enter (hO : OkFns S P) {f : FuncId} (hf : S.call f) {x x' : Array Value} (h : VRs S ρ x x') : FR S P ρ (Frame.enter P f x .normal) (Frame.enter P f x' .normal) := by
  obtain ⟨fn, c, h1, h2, h3, h4⟩ := hO.body f hf
  refine ⟨rfl, hO.res hf, rfl, fun y hy => ?_, ?_, ⟨rfl, rfl⟩, ⟨rfl, rfl⟩, ⟨rfl, rfl⟩, .inl ⟨rfl, rfl⟩⟩
  · simp only [Frame.enter, h1, Option.bind_some, h3, Option.getD_some, List.mem_singleton] at hy
    subst hy
    exact h4
  · simp only [Frame.enter, ← h.1]
    exact h.append (VRs.same VR.undef)
/-- How often the step of a frame draws. -/
def curDraws (P : Program) (f : Frame) (W : World) : Nat :=
  match f.mode, f.todo with
  | .run, .inRegion ops (i :: _) :: _ => match ops[i]? with
    | some o => if Region.wanted o (yielded ops f.tmps) then ((execOp f.eval o).runT P W #[]).1.world.drawn - W.drawn else 0
    | none => 0
  | .run, .code (.region _ _ true) :: _ => 1
  | _, _ => 0
/-- What a step of both has made. -/
def Went (S : FnSet) (P : Program) (ρ : Ren) (kk : LK) (L W : World) (main : Bool) (K K' : List Item) (f f' : Frame) (cs cs' : List Frame) : Prop :=
  ∃ ρ' L' W' es l f1 f1', ρ.le ρ' ∧ WR S ρ' (kk.grow W.heap.size W'.heap.size) L' W' ∧ Own kk W W' l ∧ L'.tape = L.tape ∧ (L'.drawn = L.drawn + curDraws P f' W ∧ W'.drawn = W.drawn + curDraws P f' W) ∧ FR S P ρ' f1 f1' ∧
    ((stepG P true (G (ext K f) cs) L = .go (G (ext K f1) cs) L' es ∧ stepG P main (G (ext K' f') cs') W = .go (G (ext K' f1') cs') W' l) ∨
     ((∃ ops i rest k, f.todo = .inRegion ops (i :: rest) :: k) ∧ stepG P true (G (ext K f) cs) L = .go (G f1 (ext K f :: cs)) L' es ∧ stepG P main (G (ext K' f') cs') W = .go (G f1' (ext K' f' :: cs')) W' l))
theorem ext_finish {K : List Item} {f : Frame} {ops : Array Oper} {i : Nat} {rest : List Nat} {k : List Item} (ht : f.todo = .inRegion ops (i :: rest) :: k) (v : Value) : (ext K f).finish v = ext K (f.finish v) := by
  obtain ⟨fn, tmps, todo, defers, mode, kind, round⟩ := f
  simp only at ht
  subst ht
  simp [ext, Frame.finish]
theorem ext_eval (K : List Item) (f : Frame) : (ext K f).eval = f.eval := rfl
theorem step_oper (hO : OkFns S P) (hp : PR P ρ) {f f' : Frame} (h : FR S P ρ f f') (hm : f.mode = .run) {ops : Array Oper} {i : Nat} {rest : List Nat} {k : List Item} (ht : f.todo = .inRegion ops (i :: rest) :: k) {o : Oper} (ho : ops[i]? = some o) (hwt : Region.wanted o (yielded ops f.tmps) = true)
    {kk : LK} {L W : World} (hw : WR S ρ kk L W) (hag : ∀ j, j < ((execOp f'.eval o).runT P W #[]).1.world.drawn - W.drawn → ∀ q, L.tape (L.drawn + j) q = W.tape (W.drawn + j) q) (main : Bool) (K K' : List Item) (cs cs' : List Frame) :
    Lost P (G (ext K f) cs) L ∨ Went S P ρ kk L W main K K' f f' cs cs' := by
  have hok : okOp S P o.op := by
    have h1 : okItem S P (.inRegion ops (i :: rest)) := h.ok _ (by rw [ht]; exact List.mem_cons_self ..)
    exact h1 i o ho
  have hwt' : Region.wanted o (yielded ops f'.tmps) = true := by rw [← yielded_same h.tmps]; exact hwt
  have ht' : f'.todo = .inRegion ops (i :: rest) :: k := h.todo.trans ht
  have hm' : f'.mode = .run := by rcases h.mode with x | x; exact x.2; rw [hm] at x; cases x.1
  have htK : (ext K f).todo = .inRegion ops (i :: rest) :: (k ++ K) := by simp [ext, ht]
  have htK' : (ext K' f').todo = .inRegion ops (i :: rest) :: (k ++ K') := by simp [ext, ht']
  have hopL : (ext K f).oper? = some o := by simp [Frame.oper?, htK, ho]
  have hopW : (ext K' f').oper? = some o := by simp [Frame.oper?, htK', ho]
  have hmK : (ext K f).mode = .run := hm
  have hmK' : (ext K' f').mode = .run := hm'
  have hrK : (ext K f).roundOf = none := h.round.1
  have hrK' : (ext K' f').roundOf = none := h.round.2
  have sL : stepG P true (G (ext K f) cs) L = stepG.apply P true (ext K f) cs none (execOp f.eval o) L := by
    have hwt1 : Region.wanted o (yielded ops (ext K f).tmps) = true := hwt
    simp [G, stepG, hmK, stepG.exec, htK, ho, hwt1, stepG.oper, hopL, hrK, ext_eval]
  have sW : stepG P main (G (ext K' f') cs') W = stepG.apply P true (ext K' f') cs' none (execOp f'.eval o) W := by
    have hwt1 : Region.wanted o (yielded ops (ext K' f').tmps) = true := hwt'
    simp [G, stepG, hmK', stepG.exec, htK', ho, hwt1, stepG.oper, hopW, hrK', ext_eval]
  have hk : ((ext K f).kind == CallKind.early) = false := by show (f.kind == _) = _; rw [h.kind.1]; rfl
  have hk' : ((ext K' f').kind == CallKind.early) = false := by show (f'.kind == _) = _; rw [h.kind.2]; rfl
  rcases (sr_exec hO.bodies hp h.eval (fun v => rfl) o hok).run kk L W #[] #[] hw hag with ⟨x, L', es1, h1, h2⟩ | ⟨a, L', es1, b, W', l, ρ', h1, h2, h3, h4, h5, h6, h7, h8⟩
  · left
    cases x with
    | panic v => exact .inr ⟨v, L', _, by rw [sL]; simp only [stepG.apply, if_true, h1, htK, hk]; rfl⟩
    | stuck s => exact .inl ⟨_, L', _, by rw [sL]; simp only [stepG.apply, if_true, h1, htK, hk]; rfl⟩
    | unsupported u =>
      cases u with
      | initOrder g => exact h2.elim
      | _ => exact .inl ⟨_, L', _, by rw [sL]; simp only [stepG.apply, if_true, h1, htK, hk]; rfl⟩
    | _ => exact h2.elim
  · right
    have hl : (#[] : Array Event) ++ l = l := Array.empty_append
    rw [hl] at h2
    have h' := h.mono h3
    have ho' : Own kk W W' (seen P f'.fn l) := h6.seen f'.fn
    have hcd : curDraws P f' W = W'.drawn - W.drawn := by
      simp only [curDraws, hm', ht', ho, hwt', if_true, h2]; rfl
    replace h8 : L'.drawn = L.drawn + curDraws P f' W ∧ W'.drawn = W.drawn + curDraws P f' W := by
      obtain ⟨c, c1, c2⟩ := h8
      rw [hcd]; omega
    cases h4 with
    | value hv =>
      refine ⟨ρ', L', W', seen P f.fn es1, seen P f'.fn l, _, _, h3, h5, ho', h7, h8, h'.finish hv, .inl ⟨?_, ?_⟩⟩
      · rw [sL, ← ext_finish ht]; simp only [stepG.apply, if_true, h1, htK, hk]; rfl
      · rw [sW, ← ext_finish ht']; simp only [stepG.apply, if_true, h2, htK', hk']; rfl
    | skip =>
      refine ⟨ρ', L', W', seen P f.fn es1, seen P f'.fn l, _, _, h3, h5, ho', h7, h8, h'.finish VR.undef, .inl ⟨?_, ?_⟩⟩
      · rw [sL, ← ext_finish ht]; simp only [stepG.apply, if_true, h1, htK, hk]; rfl
      · rw [sW, ← ext_finish ht']; simp only [stepG.apply, if_true, h2, htK', hk']; rfl
    | enter hs hx =>
      refine ⟨ρ', L', W', seen P f.fn es1, seen P f'.fn l, _, _, h3, h5, ho', h7, h8, FR.enter hO hs hx, .inr ⟨⟨ops, i, rest, k, ht⟩, ?_, ?_⟩⟩
      · rw [sL]; simp only [stepG.apply, if_true, h1, htK, hk]; rfl
      · rw [sW]; simp only [stepG.apply, if_true, h2, htK', hk']; rfl
end
end Go.Proofs.Yticdjkkcfdbdcaa
namespace Go.Proofs.Yticdjkkcfdbdcaa
open Go.Conc
section
variable {S : FnSet} {P : Program} {ρ : Ren}
theorem step_unwanted {f f' : Frame} (h : FR S P ρ f f') (hm : f.mode = .run) {ops : Array Oper} {i : Nat} {rest : List Nat} {k : List Item} (ht : f.todo = .inRegion ops (i :: rest) :: k) (hwt : ((ops[i]?).map (Region.wanted · (yielded ops f.tmps))).getD false = false) (main main' : Bool) (K K' : List Item) (cs cs' : List Frame) :
    ∃ f1 f1', FR S P ρ f1 f1' ∧ (∀ L, stepG P main (G (ext K f) cs) L = .go (G (ext K f1) cs) L #[]) ∧ ∀ W, stepG P main' (G (ext K' f') cs') W = .go (G (ext K' f1') cs') W #[] := by
  have hwt' : ((ops[i]?).map (Region.wanted · (yielded ops f'.tmps))).getD false = false := by rw [← yielded_same h.tmps]; exact hwt
  have ht' : f'.todo = .inRegion ops (i :: rest) :: k := h.todo.trans ht
  have hm' : f'.mode = .run := by rcases h.mode with x | x; exact x.2; rw [hm] at x; cases x.1
  have htK : (ext K f).todo = .inRegion ops (i :: rest) :: (k ++ K) := by simp [ext, ht]
  have htK' : (ext K' f').todo = .inRegion ops (i :: rest) :: (k ++ K') := by simp [ext, ht']
  have hmK : (ext K f).mode = .run := hm
  have hmK' : (ext K' f').mode = .run := hm'
  have w1 : ((ops[i]?).map (Region.wanted · (yielded ops (ext K f).tmps))).getD false = false := hwt
  have w2 : ((ops[i]?).map (Region.wanted · (yielded ops (ext K' f').tmps))).getD false = false := hwt'
  refine ⟨_, _, h.finish VR.undef, fun L => ?_, fun W => ?_⟩
  · rw [← ext_finish ht]; simp only [G, stepG, hmK, stepG.exec, htK, w1]; rfl
  · rw [← ext_finish ht']; simp only [G, stepG, hmK', stepG.exec, htK', w2]; rfl
theorem step_draw {f f' : Frame} (h : FR S P ρ f f') (hm : f.mode = .run) {id : Nat} {ops : Array Oper} {k : List Item} (ht : f.todo = .code (.region id ops true) :: k)
    {kk : LK} {L W : World} (hw : WR S ρ kk L W) (hag : ∀ q, L.tape L.drawn q = W.tape W.drawn q) (main : Bool) (K K' : List Item) (cs cs' : List Frame) : Went S P ρ kk L W main K K' f f' cs cs' := by
  have ht' : f'.todo = .code (.region id ops true) :: k := h.todo.trans ht
  have hm' : f'.mode = .run := by rcases h.mode with x | x; exact x.2; rw [hm] at x; cases x.1
  have hi : okItem S P (.code (.region id ops true)) := h.ok _ (by rw [ht]; exact List.mem_cons_self ..)
  have hf : (Question.order f.fn id).forced = false := rfl
  have htK : (ext K f).todo = .code (.region id ops true) :: (k ++ K) := by simp [ext, ht]
  have htK' : (ext K' f').todo = .code (.region id ops true) :: (k ++ K') := by simp [ext, ht']
  have hmK : (ext K f).mode = .run := hm
  have hmK' : (ext K' f').mode = .run := hm'
  have hfn : (ext K f).fn = f.fn := rfl
  have hfn' : (ext K' f').fn = f.fn := h.fn
  have to : ∀ l, FR S P ρ { f with todo := .inRegion ops l :: k } { f' with todo := .inRegion ops l :: k } := fun l => ⟨h.fn, h.inS, rfl, fun x hx => by
    rcases List.mem_cons.1 hx with rfl | hx
    · exact hi
    · exact h.ok x (by rw [ht]; exact List.mem_cons_of_mem _ hx), h.tmps, h.defers, h.kind, h.round, h.mode⟩
  refine ⟨ρ, { L with drawn := L.drawn + 1 }, { W with drawn := W.drawn + 1 }, #[], #[], _, _, .refl _, by rw [grow_self]; exact hw.heaps rfl rfl, ⟨.at kk W _, fun e he => by simp at he⟩, rfl, by simp [curDraws, hm', ht'], to (Region.schedule (P.follows .mixedOrders) ops ((Question.order f.fn id).cut (L.tape L.drawn (.order f.fn id)))), .inl ⟨?_, ?_⟩⟩
  · simp only [G, stepG, hmK, stepG.exec, htK, Bool.not_true, Bool.false_eq_true, if_false, choose, Sem.run, hfn, hf]; simp [ext, hm]
  · simp only [G, stepG, hmK', stepG.exec, htK', Bool.not_true, Bool.false_eq_true, if_false, choose, Sem.run, hfn', hf, hag]; simp [ext, hm', h.fn]
theorem mapM_pure_loop {α β : Type} {f : α → Sem β} {g : α → β} : ∀ (l : List α) (acc : List β), (∀ a ∈ l, f a = pure (g a)) → List.mapM.loop f l acc = pure (acc.reverse ++ l.map g)
  | [], acc, _ => by simp [List.mapM.loop]
  | a :: l, acc, h => by
    have := mapM_pure_loop l (g a :: acc) fun x hx => h x (List.mem_cons_of_mem _ hx)
    show Sem.bind (f a) _ = _
    rw [h a (List.mem_cons_self ..)]
    refine this.trans ?_
    simp
def pack (x : Array Value) : Value := if h : x.size = 1 then x[0] else .tuple x
def resVals (fn : Func) (tmps : Array Value) : Array Value := fn.results.map fun r => match r with | .tmp t => tmps.getD t undef | .cell _ _ => undef
theorem results_tmps {fn : Func} (h : ∀ (i : Nat) r, fn.results[i]? = some r → ∃ t, r = .tmp t) (tmps : Array Value) : results fn tmps = .pure (pack (resVals fn tmps)) := by
  unfold results
  rw [Array.mapM_eq_mapM_toList]
  show Sem.bind (Sem.bind (List.mapM.loop _ fn.results.toList []) _) _ = _
  rw [mapM_pure_loop (g := fun r => match r with | .tmp t => tmps.getD t undef | .cell _ _ => undef) fn.results.toList []]
  · simp only [List.reverse_nil, List.nil_append]
    rw [← Array.toList_map]
    rfl
  · intro r hr
    obtain ⟨i, hi⟩ := List.mem_iff_getElem?.1 hr
    obtain ⟨t, rfl⟩ := h i r (by simpa using hi)
    rfl
theorem VRs.pack {x x' : Array Value} (h : VRs S ρ x x') : VR S ρ (pack x) (pack x') := by
  unfold Go.Proofs.Yticdjkkcfdbdcaa.pack
  by_cases hx : x.size = 1
  · rw [dif_pos hx, dif_pos (h.1 ▸ hx)]
    exact h.2 0 _ _ (Array.getElem?_eq_getElem (by omega)) (Array.getElem?_eq_getElem (by have := h.1; omega))
  · rw [dif_neg hx, dif_neg (h.1 ▸ hx)]
    exact .tuple h.1 h.2
/-- A meaning that draws nothing. -/
inductive NoDraw {α : Type} : Sem α → Prop
  | pure (a : α) : NoDraw (.pure a)
  | halt (h : Halt) : NoDraw (.halt h)
  | load (m : Go.Mode) (a : Addr) {k : Value → Sem α} (h : ∀ v, NoDraw (k v)) : NoDraw (.load m a k)
  | program {k : Program → Sem α} (h : ∀ p, NoDraw (k p)) : NoDraw (.program k)
theorem NoDraw.bind {α β : Type} {s : Sem α} (h : NoDraw s) {f : α → Sem β} (hf : ∀ a, NoDraw (f a)) : NoDraw (s >>= f) := by
  show NoDraw (Sem.bind s f)
  induction h with
  | pure a => exact hf a
  | halt h => exact .halt h
  | load m a _ ih => exact .load m a ih
  | program _ ih => exact .program ih
theorem NoDraw.drawn {α : Type} {s : Sem α} (h : NoDraw s) : ∀ (w : World) (es : Array Event), (s.runT P w es).1.world = w := by
  induction h with
  | pure a => exact fun w es => rfl
  | halt h => exact fun w es => rfl
  | load m a _ ih =>
    intro w es
    simp only [Sem.runT]
    split
    · exact ih _ w _
    · split
      · exact ih _ w _
      · rfl
  | program _ ih => exact fun w es => ih P w es
theorem noDraw_underlying (t : TypeId) : NoDraw (underlying t) := .program fun p => by
  show NoDraw (match p.underlying t with | some d => pure d | none => stuck "no such type")
  split
  · exact .pure _
  · exact .halt _
theorem noDraw_typeInfo (t : TypeId) : NoDraw (typeInfo t) := .program fun p => by
  show NoDraw (match p.info? t with | some i => pure i | none => stuck "no such type")
  split
  · exact .pure _
  · exact .halt _
theorem noDraw_cells (a : Addr) : ∀ (n i : Nat) (x : Array Value), NoDraw (loadCellsFrom a i n x)
  | 0, _, x => .pure x
  | n + 1, i, x => .load _ _ fun v => noDraw_cells a n (i + 1) (x.push v)
theorem noDraw_var (t : TypeId) (a : Addr) : NoDraw (loadVar t a) := by
  unfold loadVar
  refine NoDraw.bind ?_ fun b => ?_
  · refine (noDraw_underlying t).bind fun d => ?_
    cases d <;> exact .pure _
  · cases b with
    | true => exact NoDraw.bind (NoDraw.bind (noDraw_typeInfo t) fun _ => .pure _) fun n => NoDraw.bind (noDraw_cells a n 0 #[]) fun _ => .pure _
    | false => exact .load _ _ fun v => .pure v
theorem noDraw_addr (v : Value) : NoDraw (asAddr v) := by
  unfold asAddr
  split
  · exact .pure _
  · exact .program fun p => .halt _
  · exact .halt _
/-- One result. -/
def resOne (T : Array Value) : ResultVar → Sem Value
  | .tmp t => pure (T.getD t undef)
  | .cell a t => asAddr (T.getD a undef) >>= fun a => loadVar t a
theorem results_eq (fn : Func) (T : Array Value) : results fn T = (fn.results.mapM (resOne T) >>= fun vs => pure (pack vs)) := rfl
theorem noDraw_loop (T : Array Value) : ∀ (l : List ResultVar) (x : List Value), NoDraw (List.mapM.loop (resOne T) l x)
  | [], x => .pure _
  | r :: l, x => NoDraw.bind (by cases r with | tmp t => exact .pure _ | cell a t => exact (noDraw_addr _).bind fun a => noDraw_var t a) fun v => noDraw_loop T l (v :: x)
theorem noDraw_results (fn : Func) (T : Array Value) : NoDraw (results fn T) := by
  rw [results_eq, Array.mapM_eq_mapM_toList]
  exact NoDraw.bind (NoDraw.bind (noDraw_loop T _ _) fun _ => .pure _) fun _ => .pure _
theorem sr_loop {T T' : Array Value} : ∀ (l : List ResultVar) {ρ1 : Ren} {x x' : List Value}, VRs S ρ1 T T' → VRs S ρ1 x.toArray x'.toArray → SR S P (fun ρ a b => VRs S ρ a.toArray b.toArray) ρ1 (List.mapM.loop (resOne T) l x) (List.mapM.loop (resOne T') l x')
  | [], ρ1, x, x', _, h => .pure (by
      refine ⟨by have := h.1; simpa using this, fun i v v' h1 h2 => ?_⟩
      have hs : x.length = x'.length := by have := h.1; simpa using this
      simp only [List.getElem?_toArray] at h1 h2
      have hi : i < x.length := by have := (List.getElem?_eq_some_iff.1 h1).1; simpa using this
      rw [List.getElem?_reverse hi] at h1
      rw [List.getElem?_reverse (hs ▸ hi), ← hs] at h2
      exact h.2 _ v v' (by simpa using h1) (by simpa using h2))
  | r :: l, ρ1, x, x', hT, h => by
    refine SR.bind (Q := fun ρ a b => VR S ρ a b) ?_ fun ρ2 v v' hr hv => sr_loop l (hT.mono hr) ?_
    · cases r with
      | tmp t => exact .pure (hT.getD t VR.undef)
      | cell a t => exact (sr_addr (hT.getD a VR.undef)).bind fun ρ3 a a' hr3 ha => sr_loadVar t ha
    · refine ⟨by have := h.1; simpa using this, fun i u u' h1 h2 => ?_⟩
      cases i with
      | zero => simp at h1 h2; subst h1 h2; exact hv
      | succ i => exact (h.mono hr).2 i u u' (by simpa using h1) (by simpa using h2)
theorem sr_results (fn : Func) {T T' : Array Value} (hT : VRs S ρ T T') : SR S P (fun ρ a b => VR S ρ a b) ρ (results fn T) (results fn T') := by
  rw [results_eq, results_eq, Array.mapM_eq_mapM_toList, Array.mapM_eq_mapM_toList]
  exact SR.bind (Q := fun ρ a b => VRs S ρ a b) ((sr_loop fn.results.toList hT .nil).bind fun _ _ _ _ h => .pure h) fun _ _ _ _ h => .pure h.pack
/-- A frame on its way out, alone. -/
theorem ret_lone {f : Frame} (hi : ResAny P f.fn) (hd : f.defers = []) (hk : f.kind = .normal) (hm : f.mode = .returning) (K : List Item) (main : Bool) (c : Frame) (cs : List Frame) (L : World) :
    ∃ fn, P.funcs[f.fn]? = some fn ∧ ((∃ v L' es, (results fn f.tmps).runT P L #[] = (.ok v L', es) ∧ stepG P main (G (ext K f) (c :: cs)) L = .go (G (c.finish v) cs) L' (seen P f.fn es)) ∨
      ∃ x L' es o es', (results fn f.tmps).runT P L #[] = (.halt x L', es) ∧ stepG P main (G (ext K f) (c :: cs)) L = .ended o L' es') := by
  obtain ⟨fn, h1⟩ := hi
  refine ⟨fn, h1, ?_⟩
  have e1 : (ext K f).mode = .returning := hm
  have e2 : (ext K f).defers = [] := hd
  have e3 : P.funcs[(ext K f).fn]? = some fn := h1
  have e4 : (ext K f).kind = .normal := hk
  have e5 : (ext K f).tmps = f.tmps := rfl
  have e6 : (ext K f).fn = f.fn := rfl
  cases hr : (results fn f.tmps).runT P L #[] with
  | mk r es =>
    cases r with
    | ok v L' =>
      refine .inl ⟨v, L', es, rfl, ?_⟩
      simp only [G, stepG, e1, unwind, e2, e5, e6, h1, hr, GStep.after, doReturn, e4, Array.append_empty]
    | halt x L' =>
      right
      cases x <;> exact ⟨_, L', es, _, _, rfl, by simp only [G, stepG, e1, unwind, e2, e5, e6, h1, hr, GStep.after]; rfl⟩
/-- A frame on its way out, on both sides. -/
theorem step_ret {f f' : Frame} (h : FR S P ρ f f') (hm : f.mode = .returning) {kk : LK} {L W : World} (hw : WR S ρ kk L W) (K K' : List Item) (main : Bool) :
    (∀ c cs, ∃ o L' es, stepG P true (G (ext K f) (c :: cs)) L = .ended o L' es) ∧ (∃ fn x L' es, P.funcs[f.fn]? = some fn ∧ (results fn f.tmps).runT P L #[] = (.halt x L', es)) ∨
    ∃ fn v v' ρ' L' W' es l, P.funcs[f.fn]? = some fn ∧ (results fn f.tmps).runT P L #[] = (.ok v L', es) ∧ ρ.le ρ' ∧ WR S ρ' (kk.grow W.heap.size W'.heap.size) L' W' ∧ Own kk W W' (seen P f'.fn l) ∧ L'.tape = L.tape ∧ L'.drawn = L.drawn ∧ W'.drawn = W.drawn ∧ VR S ρ' v v' ∧
      (∀ c cs, stepG P true (G (ext K f) (c :: cs)) L = .go (G (c.finish v) cs) L' (seen P f.fn es)) ∧ ∀ c cs, stepG P main (G (ext K' f') (c :: cs)) W = .go (G (c.finish v') cs) W' (seen P f'.fn l) := by
  have hm' : f'.mode = .returning := by rcases h.mode with x | x; rw [hm] at x; cases x.1; exact x.2
  obtain ⟨fn, h1⟩ := h.inS
  have h1' : P.funcs[f'.fn]? = some fn := by rw [h.fn]; exact h1
  have hnd := (noDraw_results fn f'.tmps).drawn (P := P) W #[]
  rcases (sr_results fn h.tmps).run kk L W #[] #[] hw (fun j hj q => by rw [hnd] at hj; omega) with ⟨x, L', es, g1, _⟩ | ⟨v, L', es, v', W', l, ρ', g1, g2, g3, g4, g5, g6, g7, g8⟩
  · refine .inl ⟨fun c cs => ?_, fn, x, L', es, h1, g1⟩
    obtain ⟨fn2, q1, ⟨v, L2, es2, q2, _⟩ | ⟨x2, L2, es2, o, es3, q2, q3⟩⟩ := ret_lone h.inS h.defers.1 h.kind.1 hm K true c cs L
    · rw [h1] at q1; cases q1
      rw [g1] at q2; cases q2
    · exact ⟨o, L2, es3, q3⟩
  · right
    have hW : W' = W := by rw [g2] at hnd; exact hnd
    have hl : (#[] : Array Event) ++ l = l := Array.empty_append
    rw [hl] at g2
    obtain ⟨c0, d1, d2⟩ := g8
    refine ⟨fn, v, v', ρ', L', W', es, l, h1, g1, g3, g5, g6.seen f'.fn, g7, by rw [hW] at d2; omega, by rw [hW], g4, fun c cs => ?_, fun c cs => ?_⟩
    · obtain ⟨fn2, q1, ⟨v2, L2, es2, q2, q3⟩ | ⟨x2, L2, es2, o, es3, q2, q3⟩⟩ := ret_lone h.inS h.defers.1 h.kind.1 hm K true c cs L
      · rw [h1] at q1; cases q1
        rw [g1] at q2; cases q2
        exact q3
      · rw [h1] at q1; cases q1
        rw [g1] at q2; cases q2
    · obtain ⟨fn2, q1, ⟨v2, L2, es2, q2, q3⟩ | ⟨x2, L2, es2, o, es3, q2, q3⟩⟩ := ret_lone (f := f') ⟨fn, h1'⟩ h.defers.2 h.kind.2 hm' K' main c cs W
      · rw [h1'] at q1; cases q1
        rw [g2] at q2; cases q2
        exact q3
      · rw [h1'] at q1; cases q1
        rw [g2] at q2; cases q2
end
end Go.Proofs.Yticdjkkcfdbdcaa
namespace Go.Proofs.Yticdjkkcfdbdcaa
open Go.Conc
section
variable {S : FnSet} {P : Program} {ρ : Ren}
theorem went_still {kk : LK} {L W : World} (hw : WR S ρ kk L W) {main : Bool} {K K' : List Item} {f f' f1 f1' : Frame} (hc0 : curDraws P f' W = 0) {cs cs' : List Frame} (h : FR S P ρ f1 f1') (hL : stepG P true (G (ext K f) cs) L = .go (G (ext K f1) cs) L #[]) (hW : stepG P main (G (ext K' f') cs') W = .go (G (ext K' f1') cs') W #[]) : Went S P ρ kk L W main K K' f f' cs cs' :=
  ⟨ρ, L, W, #[], #[], f1, f1', .refl _, by rw [grow_self]; exact hw, .idle kk W, rfl, by rw [hc0]; exact ⟨rfl, rfl⟩, h, .inl ⟨hL, hW⟩⟩
theorem step_run (hO : OkFns S P) (hp : PR P ρ) {f f' : Frame} (h : FR S P ρ f f') (hm : f.mode = .run) {kk : LK} {L W : World} (hw : WR S ρ kk L W) (hag : ∀ j, j < curDraws P f' W → ∀ q, L.tape (L.drawn + j) q = W.tape (W.drawn + j) q) (main : Bool) (K K' : List Item) (hK : ∀ id, exitTo id K = none) (hn : f.todo = [] → K = [] ∧ K' = []) (cs cs' : List Frame) :
    Lost P (G (ext K f) cs) L ∨ Went S P ρ kk L W main K K' f f' cs cs' := by
  have hm' : f'.mode = .run := by rcases h.mode with x | x; exact x.2; rw [hm] at x; cases x.1
  by_cases h1 : ∃ ops i rest k, f.todo = .inRegion ops (i :: rest) :: k
  · obtain ⟨ops, i, rest, k, ht⟩ := h1
    have ht' : f'.todo = .inRegion ops (i :: rest) :: k := h.todo.trans ht
    cases hw0 : ((ops[i]?).map (Region.wanted · (yielded ops f.tmps))).getD false with
    | false =>
      have hc0 : curDraws P f' W = 0 := by
        have hw1 : ((ops[i]?).map (Region.wanted · (yielded ops f'.tmps))).getD false = false := by rw [← yielded_same h.tmps]; exact hw0
        simp only [curDraws, hm', ht', hw1]
        cases ho : ops[i]? with
        | none => rfl
        | some o => rw [ho] at hw1; simp only [Option.map_some, Option.getD_some] at hw1; simp [hw1]
      obtain ⟨f1, f1', g1, g2, g3⟩ := step_unwanted h hm ht hw0 true main K K' cs cs'
      exact .inr (went_still hw hc0 g1 (g2 L) (g3 W))
    | true =>
      cases ho : ops[i]? with
      | none => rw [ho] at hw0; cases hw0
      | some o =>
        rw [ho] at hw0
        refine step_oper hO hp h hm ht ho hw0 hw (fun j hj q => hag j ?_ q) main K K' cs cs'
        have hw1 : Region.wanted o (yielded ops f'.tmps) = true := by rw [← yielded_same h.tmps]; exact hw0
        simpa only [curDraws, hm', ht', ho, hw1, if_true] using hj
  by_cases h2 : ∃ id ops k, f.todo = .code (.region id ops true) :: k
  · obtain ⟨id, ops, k, ht⟩ := h2
    have ht' : f'.todo = .code (.region id ops true) :: k := h.todo.trans ht
    refine .inr (step_draw h hm ht hw (fun q => ?_) main K K' cs cs')
    have := hag 0 (by simp only [curDraws, hm', ht']; omega) q
    simpa using this
  rcases step_ctl h hm (fun ops i rest k e => h1 ⟨ops, i, rest, k, e⟩) (fun id ops k e => h2 ⟨id, ops, k, e⟩) true main cs cs' K K' hK hn with g | ⟨f1, f1', g1, g2, g3⟩
  · obtain ⟨o, ho⟩ := g L
    exact .inl (.inl ⟨o, L, #[], ho⟩)
  · have hc0 : curDraws P f' W = 0 := by
      unfold curDraws
      rw [hm', h.todo]
      split
      · rename_i heq; exact absurd heq (fun e => h1 ⟨_, _, _, _, e⟩)
      · rename_i heq; exact absurd heq (fun e => h2 ⟨_, _, _, e⟩)
      · rfl
    exact .inr (went_still hw hc0 g1 (g2 L) (g3 W))
end
end Go.Proofs.Yticdjkkcfdbdcaa
namespace Go.Proofs.Yticdjkkcfdbdcaa
open Go.Conc Go.ConcN
theorem sumTo_mono (c : Nat → Nat) : ∀ {n m : Nat}, n ≤ m → sumTo n c ≤ sumTo m c := by
  intro n m h
  induction h with
  | refl => exact Nat.le_refl _
  | step _ ih => exact Nat.le_trans ih (by simp [sumTo])
theorem piece_uniq {c : Nat → Nat} {p n m : Nat} (h1 : sumTo n c ≤ p) (h2 : p < sumTo n c + c n) (h3 : sumTo m c ≤ p) (h4 : p < sumTo m c + c m) : n = m := by
  rcases Nat.lt_trichotomy n m with h | h | h
  · have := sumTo_mono c (show n + 1 ≤ m from h)
    simp only [sumTo] at this
    omega
  · exact h
  · have := sumTo_mono c (show m + 1 ≤ n from h)
    simp only [sumTo] at this
    omega
theorem tape_of (τ : Nat → Nat → Question → Nat) (d c : Nat → Nat) (b : Nat) : ∃ T : Nat → Question → Nat, ∀ n k, k < c n → ∀ q, T (b + sumTo n c + k) q = τ n (d n + k) q := by
  classical
  refine ⟨fun p q => if h : ∃ n, sumTo n c ≤ p - b ∧ p - b < sumTo n c + c n then τ h.choose (d h.choose + (p - b - sumTo h.choose c)) q else 0, fun n k hk q => ?_⟩
  have e : b + sumTo n c + k - b = sumTo n c + k := by omega
  have h : ∃ m, sumTo m c ≤ b + sumTo n c + k - b ∧ b + sumTo n c + k - b < sumTo m c + c m := ⟨n, by omega, by omega⟩
  simp only [dif_pos h]
  have hm := h.choose_spec
  have : h.choose = n := piece_uniq hm.1 hm.2 (by omega) (by omega)
  rw [this, e, Nat.add_sub_cancel_left]
/-- ████ A WALK OF ITS OWN, in whatever company: to its stop. ████ -/
inductive OW (P : Program) (main : Bool) (R : LK → World → World → Prop) (St : LK → Goroutine → World → Prop) : LK → Goroutine → World → Prop
  | stop {k : LK} {g : Goroutine} {w : World} (h : St k g w) : OW P main R St k g w
  | step {k : LK} {g : Goroutine} {w : World} (hr : g.status = .running) (ho : g.offers = none)
      (h : ∀ w₁, R k w w₁ → ∃ g' w' es, stepG P main g w₁ = .go g' w' es ∧ Own k w₁ w' es) (hn : ∀ w₁ g' w' es, R k w w₁ → stepG P main g w₁ = .go g' w' es → OW P main R St (k.grow w₁.heap.size w'.heap.size) g' w') : OW P main R St k g w
/-- Where it is none: a world in which each own step leads to where it is none. -/
theorem OW.not {P : Program} {main : Bool} {R : LK → World → World → Prop} {St : LK → Goroutine → World → Prop} {k : LK} {g : Goroutine} {w : World} (h : ¬ OW P main R St k g w) (hr : g.status = .running) (ho : g.offers = none) :
    ∃ w₁, R k w w₁ ∧ ∀ g' w' es, stepG P main g w₁ = .go g' w' es → Own k w₁ w' es → ¬ OW P main R St (k.grow w₁.heap.size w'.heap.size) g' w' := by
  refine Classical.byContradiction fun hn => h ?_
  have key : ∀ w₁, R k w w₁ → ∃ g' w' es, stepG P main g w₁ = .go g' w' es ∧ Own k w₁ w' es ∧ OW P main R St (k.grow w₁.heap.size w'.heap.size) g' w' := fun w₁ hR =>
    Classical.byContradiction fun hm => hn ⟨w₁, hR, fun g' w' es h1 h2 h3 => hm ⟨g', w', es, h1, h2, h3⟩⟩
  refine .step hr ho (fun w₁ hR => ?_) fun w₁ g' w' es hR hs => ?_
  · obtain ⟨g', w', es, h1, h2, _⟩ := key w₁ hR
    exact ⟨g', w', es, h1, h2⟩
  · obtain ⟨g1, w1, es1, h1, _, h3⟩ := key w₁ hR
    rw [hs] at h1
    cases h1
    exact h3
/-- A place on the company's way. -/
structure Plc where
  k : LK
  g : Goroutine
  w : World
open Classical in
/-- The world in which it is stepped from there: a bad one, where there is one. -/
noncomputable def badW (P : Program) (main : Bool) (R : LK → World → World → Prop) (St : LK → Goroutine → World → Prop) (x : Plc) : World :=
  if h : ∃ w₁, R x.k x.w w₁ ∧ ∀ g' w' es, stepG P main x.g w₁ = .go g' w' es → Own x.k w₁ w' es → ¬ OW P main R St (x.k.grow w₁.heap.size w'.heap.size) g' w' then h.choose else x.w
noncomputable def badN (P : Program) (main : Bool) (R : LK → World → World → Prop) (St : LK → Goroutine → World → Prop) (x : Plc) : Plc :=
  match stepG P main x.g (badW P main R St x) with
  | .go g' w' _ => ⟨x.k.grow (badW P main R St x).heap.size w'.heap.size, g', w'⟩
  | _ => x
noncomputable def badP (P : Program) (main : Bool) (R : LK → World → World → Prop) (St : LK → Goroutine → World → Prop) (x : Plc) : Nat → Plc
  | 0 => x
  | n + 1 => badN P main R St (badP P main R St x n)
theorem badW_spec {P : Program} {main : Bool} {R : LK → World → World → Prop} {St : LK → Goroutine → World → Prop} {x : Plc} (h : ¬ OW P main R St x.k x.g x.w) (hr : x.g.status = .running) (ho : x.g.offers = none) :
    R x.k x.w (badW P main R St x) ∧ ∀ g' w' es, stepG P main x.g (badW P main R St x) = .go g' w' es → Own x.k (badW P main R St x) w' es → ¬ OW P main R St (x.k.grow (badW P main R St x).heap.size w'.heap.size) g' w' := by
  have he := OW.not h hr ho
  unfold badW
  rw [dif_pos he]
  exact he.choose_spec
end Go.Proofs.Yticdjkkcfdbdcaa
namespace Go.Proofs.Yticdjkkcfdbdcaa
open Go.Conc Go.ConcN
end Go.Proofs.Yticdjkkcfdbdcaa

/- A lone run serves a goroutine in company: stacks, and steps of whole goroutines. No program; no conditions but those named. -/
namespace Go.Proofs.Yticdjkkcfdbdcaa
open Go.Conc Go.ConcN
/-- The frame at the bottom of the lone one's stack: a panic that comes to it ends the run, and so does a return. -/
def wall (P : Program) : Frame := { fn := P.funcs.size, tmps := #[], todo := [.call { target := .nil, args := #[] } false "fmt's door nowhere" #[]], defers := [], mode := .run, kind := .normal }
def Kx (K : List Item) : List Frame → List Item
  | [] => K
  | _ :: _ => []
def cal (K : List Item) : List Frame → List Frame
  | [] => []
  | c :: r => ext (Kx K r) c :: cal K r
/-- A goroutine: the piece's frames, the lowest with what stands behind it, and those below. -/
def gor (K : List Item) (f : Frame) (fs base : List Frame) : Goroutine := G (ext (Kx K fs) f) (cal K fs ++ base)
inductive Cals (S : FnSet) (P : Program) (ρ : Ren) : List Frame → List Frame → Prop
  | nil : Cals S P ρ [] []
  | cons {c c' : Frame} {r r' : List Frame} (h : FR S P ρ c c') (hm : c.mode = .run) (ht : ∃ ops i rest k, c.todo = .inRegion ops (i :: rest) :: k) (t : Cals S P ρ r r') : Cals S P ρ (c :: r) (c' :: r')
theorem Cals.mono {S : FnSet} {P : Program} {ρ ρ' : Ren} {a b : List Frame} (h : Cals S P ρ a b) (hr : ρ.le ρ') : Cals S P ρ' a b := by
  induction h with
  | nil => exact .nil
  | cons h hm ht _ ih => exact .cons (h.mono hr) hm ht ih
section
variable {S : FnSet} {P : Program} {ρ : Ren}
theorem sim_step (hO : OkFns S P) (hp : PR P ρ) {f f' : Frame} {fs fs' : List Frame} (h : FR S P ρ f f') (hc : Cals S P ρ fs fs') {K K' : List Item} (hK : ∀ id, exitTo id K = none)
    (hnf : fs = [] → f.mode = .run ∧ (f.todo = [] → K = [] ∧ K' = [])) {kk : LK} {L W : World} (hw : WR S ρ kk L W) (hag : ∀ j, j < curDraws P f' W → ∀ q, L.tape (L.drawn + j) q = W.tape (W.drawn + j) q) (main : Bool) (bl bw : List Frame) :
    (Lost P (gor K f fs bl) L ∧ f.mode = .run ∨ ∃ o L' es, stepG P true (gor K f fs bl) L = .ended o L' es) ∨ ∃ ρ' L' W' es l f1 f1' fs1 fs1', ρ.le ρ' ∧ WR S ρ' (kk.grow W.heap.size W'.heap.size) L' W' ∧ Own kk W W' l ∧ L'.tape = L.tape ∧ (L'.drawn = L.drawn + curDraws P f' W ∧ W'.drawn = W.drawn + curDraws P f' W) ∧ FR S P ρ' f1 f1' ∧ Cals S P ρ' fs1 fs1' ∧
      stepG P true (gor K f fs bl) L = .go (gor K f1 fs1 bl) L' es ∧ stepG P main (gor K' f' fs' bw) W = .go (gor K' f1' fs1' bw) W' l := by
  rcases h.mode with ⟨hm, hm'⟩ | ⟨hm, hm'⟩
  · have hn : f.todo = [] → Kx K fs = [] ∧ Kx K' fs' = [] := fun e => by
      cases hc with
      | nil => exact (hnf rfl).2 e
      | cons _ _ _ _ => exact ⟨rfl, rfl⟩
    have hKx : ∀ id, exitTo id (Kx K fs) = none := fun id => by cases fs with | nil => exact hK id | cons _ _ => rfl
    rcases step_run hO hp h hm hw hag main (Kx K fs) (Kx K' fs') hKx hn (cal K fs ++ bl) (cal K' fs' ++ bw) with g | ⟨ρ', L', W', es, l, f1, f1', g1, g2, g3, g4, g5, g6, g7⟩
    · exact .inl (.inl ⟨g, hm⟩)
    · right
      rcases g7 with ⟨g7, g8⟩ | ⟨g9, g7, g8⟩
      · exact ⟨ρ', L', W', es, l, f1, f1', fs, fs', g1, g2, g3, g4, g5, g6, hc.mono g1, g7, g8⟩
      · refine ⟨ρ', L', W', es, l, f1, f1', f :: fs, f' :: fs', g1, g2, g3, g4, g5, g6, .cons (h.mono g1) hm g9 (hc.mono g1), ?_, ?_⟩
        · rw [gor, g7, gor, Kx, ext_nil]; rfl
        · rw [gor, g8, gor, Kx, ext_nil]; rfl
  · cases hc with
    | nil => have := (hnf rfl).1; rw [hm] at this; cases this
    | @cons c c' r r' h1 h2 h3 h4 =>
      rcases step_ret h hm hw [] [] main with ⟨g, _⟩ | ⟨fn, v, v', ρ', L', W', es, l, _, _, g1, g2, g3, g4, g5, g6, g7, g8, g9⟩
      · exact .inl (.inr (g _ _))
      right
      obtain ⟨ops, i, rest, k, ht⟩ := h3
      have ht' : c'.todo = .inRegion ops (i :: rest) :: k := h1.todo.trans ht
      refine ⟨ρ', L', W', seen P f.fn es, seen P f'.fn l, c.finish v, c'.finish v', r, r', g1, g2, g3, g4, by simp only [curDraws, hm']; exact ⟨g5, g6⟩, (h1.mono g1).finish g7, h4.mono g1, ?_, ?_⟩
      · show stepG P true (G (ext [] f) (ext (Kx K r) c :: (cal K r ++ bl))) L = _
        rw [g8, ext_finish ht]; rfl
      · show stepG P main (G (ext [] f') (ext (Kx K' r') c' :: (cal K' r' ++ bw))) W = _
        rw [g9, ext_finish ht']; rfl
/-- A panic never comes back. -/
theorem panic_never : ∀ (cs : List Frame) (f : Frame) (L : World), (∃ ch, f.mode = .panicking ch) → f.defers = [] → (∃ fn, P.funcs[f.fn]? = some fn) → (∀ c ∈ cs, c.defers = [] ∧ (∃ fn, P.funcs[c.fn]? = some fn)) →
    ∀ n fr L', runN P n (lone f (cs ++ [wall P]) L) = .next (lone fr [wall P] L') → ∃ ch, fr.mode = .panicking ch := by
  have raise : ∀ (c : Frame) ch, ∃ ch', (c.raise ch).mode = .panicking ch' ∧ (c.raise ch).defers = c.defers ∧ (c.raise ch).fn = c.fn ∧ (c.raise ch).todo = c.todo := fun c ch => by
    unfold Frame.raise
    split <;> exact ⟨_, rfl, rfl, rfl, rfl⟩
  have next : ∀ (f : Frame) (c : Frame) cs (L : World), (∃ ch, f.mode = .panicking ch) → f.defers = [] → (∃ fn, P.funcs[f.fn]? = some fn) → ∃ ch, step P (lone f (c :: cs) L) = .next (lone (c.raise ch) cs L) := fun f c cs L ⟨ch, h1⟩ h2 h3 =>
    ⟨ch, step_leave_panicked ⟨h1, h2, h3⟩⟩
  intro cs
  induction cs with
  | nil =>
    intro f L h1 h2 h3 _ n fr L' hn
    cases n with
    | zero =>
      simp only [runN, List.nil_append, Stepped.next.injEq, lone, Machine.mk.injEq, Array.mk.injEq, List.cons.injEq, Goroutine.mk.injEq, and_true] at hn
      rw [← hn.2]; exact h1
    | succ n =>
      obtain ⟨ch, hs⟩ := next f (wall P) [] L h1 h2 h3
      obtain ⟨ch', r1, r2, r3, r4⟩ := raise (wall P) ch
      simp only [runN, List.nil_append, hs] at hn
      cases n with
      | zero =>
        simp only [runN, Stepped.next.injEq, lone, Machine.mk.injEq, Array.mk.injEq, List.cons.injEq, Goroutine.mk.injEq] at hn
        simp at hn
      | succ n =>
        have hcatch : Frame.catches P ((wall P).raise ch) = true := by
          have e1 : P.funcs[((wall P).raise ch).fn]? = none := by rw [r3]; exact Array.getElem?_eq_none (Nat.le_refl _)
          unfold Frame.catches
          rw [e1, r4]
          show ("fmt's door nowhere".startsWith "fmt's door") = true
          kernel_rfl
        have hst : ∃ o, step P (lone ((wall P).raise ch) [] L) = .ended o L := by
          refine ⟨_, step_lone_ended (o := .unsupported (.noEntry "a panic or Goexit out of a method that fmt calls behind a cut's door") (((wall P).raise ch).pos P)) ?_⟩
          have e2 : ((wall P).raise ch).defers = [] := r2
          simp [stepG, r1, unwind, e2, hcatch]
        obtain ⟨o, ho⟩ := hst
        simp only [runN, ho] at hn
        cases hn
  | cons c cs ih =>
    intro f L h1 h2 h3 h4 n fr L' hn
    cases n with
    | zero =>
      simp only [runN, Stepped.next.injEq, lone, Machine.mk.injEq, Array.mk.injEq, List.cons.injEq, Goroutine.mk.injEq, and_true] at hn
      have := congrArg List.length hn.2.2
      simp at this
    | succ n =>
      obtain ⟨ch, hs⟩ := next f c (cs ++ [wall P]) L h1 h2 h3
      obtain ⟨ch', r1, r2, r3, r4⟩ := raise c ch
      simp only [runN, List.cons_append, hs] at hn
      have hc := h4 c (List.mem_cons_self ..)
      exact ih (c.raise ch) L ⟨ch', r1⟩ (r2.trans hc.1) (by rw [r3]; exact hc.2) (fun x hx => h4 x (List.mem_cons_of_mem _ hx)) n fr L' hn
end
end Go.Proofs.Yticdjkkcfdbdcaa
namespace Go.Proofs.Yticdjkkcfdbdcaa
open Go.Conc Go.ConcN
def wk (pc : Bool) : List Item := if pc then [.code (.refuse "wall")] else []
theorem wk_exit (pc : Bool) (id : Nat) : exitTo id (wk pc) = none := by cases pc <;> rfl
/-- Where a piece ends: at its return; or, of a piece of code, behind it. -/
def Fin (pc : Bool) (f : Frame) : Prop := f.mode = .returning ∨ (pc = true ∧ f.mode = .run ∧ f.todo = [])
theorem runN_more {P : Program} : ∀ {n : Nat} {m : Nat} {a b : Machine}, runN P n a = .next b → runN P (n + m) a = runN P m b
  | 0, m, a, b, h => by simp only [runN, Stepped.next.injEq] at h; subst h; rw [Nat.zero_add]
  | n + 1, m, a, b, h => by
    rw [Nat.succ_add]
    simp only [runN] at h ⊢
    cases hs : step P a with
    | next a1 => rw [hs] at h; exact runN_more h
    | ended o w => rw [hs] at h; cases h
section
variable {S : FnSet} {P : Program} {ρ : Ren}
theorem final_never {f f' : Frame} (h : FR S P ρ f f') {pc : Bool} (hf : Fin pc f) (n : Nat) (fr : Frame) (L L' : World) : runN P (n + 1) (lone (ext (wk pc) f) [wall P] L) ≠ .next (lone fr [wall P] L') := by
  intro hn
  rcases hf with hm | ⟨rfl, hm, ht⟩
  · obtain ⟨_, _, ⟨v, L2, es, _, g2⟩ | ⟨_, L2, _, o, es, _, g2⟩⟩ := ret_lone h.inS h.defers.1 h.kind.1 hm (wk pc) true (wall P) [] L
    rotate_left
    · have hs : step P (lone (ext (wk pc) f) [wall P] L) = .ended o L2 := step_lone_ended (by simp only [G] at g2; rw [g2]; rfl)
      simp only [runN, hs] at hn
      cases hn
    have hs : step P (lone (ext (wk pc) f) [wall P] L) = .next (lone ((wall P).finish v) [] L2) := step_lone_go (by simp only [G] at g2; rw [g2]; rfl)
    simp only [runN, hs] at hn
    cases n with
    | zero => simp [runN, lone] at hn
    | succ n =>
      have hnone : Extern.next "fmt's door nowhere" = none := by
        have : (Extern.next "fmt's door nowhere").isNone = true := by kernel_rfl
        simpa using this
      have he : step P (lone ((wall P).finish v) [] L2) = .ended (.stuck "no extern row fmt's door nowhere" (((wall P).finish v).pos P)) L2 := by
        refine step_lone_ended ?_
        simp [stepG, stepG.exec, wall, Frame.finish, hnone]
      simp only [runN, he] at hn
      cases hn
  · have he : ∃ o, step P (lone (ext (wk true) f) [wall P] L) = .ended o L := by
      have e1 : (ext (wk true) f).mode = .run := hm
      have e2 : (ext (wk true) f).todo = [.code (.refuse "wall")] := by simp [ext, ht, wk]
      have e3 : ∃ o, (stepG P true { frame := ext (wk true) f, callers := [wall P], status := .running, dying := none } L).bare = .ended o L := by
        simp only [stepG, stepG.exec, e1, e2]
        exact ⟨_, rfl⟩
      exact ⟨_, step_lone_ended e3.choose_spec⟩
    obtain ⟨o, ho⟩ := he
    simp only [runN, ho] at hn
    cases hn
/-- How one's licence has grown. -/
structure Up (k : LK) (n : Nat) (k' : LK) (n' : Nat) : Prop where
  size : n ≤ n'
  W : ∀ l, k.W l → k'.W l
  new : ∀ l, k'.W l → k.W l ∨ NewLoc n n' l
  R : k'.R = k.R
  A : k'.A = k.A
theorem Up.refl (k : LK) (n : Nat) : Up k n k n := ⟨Nat.le_refl _, fun _ h => h, fun _ h => .inl h, rfl, rfl⟩
theorem NewLoc.wide {a b c d : Nat} (h1 : a ≤ b) (h2 : c ≤ d) {l : Loc} (h : NewLoc b c l) : NewLoc a d l := by cases l <;> simp_all [NewLoc] <;> omega
theorem Up.step {k k' : LK} {n n' m m' : Nat} (h : Up k n k' n') (h1 : n' ≤ m) (h2 : m ≤ m') : Up k n (k'.grow m m') m' :=
  ⟨by have := h.size; omega, fun l hl => .inl (h.W l hl), fun l hl => hl.elim (fun x => (h.new l x).imp id (NewLoc.wide (Nat.le_refl _) (by omega))) (fun x => .inr (NewLoc.wide (by have := h.size; omega) (Nat.le_refl _) x)), h.R, h.A⟩
theorem Up.trans {k k' k'' : LK} {n n' n'' : Nat} (h : Up k n k' n') (g : Up k' n' k'' n'') : Up k n k'' n'' :=
  ⟨Nat.le_trans h.size g.size, fun l hl => g.W l (h.W l hl), fun l hl => (g.new l hl).elim (fun x => (h.new l x).imp id (NewLoc.wide (Nat.le_refl _) g.size)) (fun x => .inr (NewLoc.wide h.size (Nat.le_refl _) x)), g.R.trans h.R, g.A.trans h.A⟩
theorem curDraws_ext {K : List Item} {f : Frame} (h : f.todo = [] → K = []) (W : World) : curDraws P (ext K f) W = curDraws P f W := by
  obtain ⟨fn, tmps, todo, defers, mode, kind, round⟩ := f
  cases todo with
  | nil => rw [h rfl, ext_nil]
  | cons it k =>
    simp only [ext, List.cons_append, curDraws]
    cases mode <;> cases it <;> first | rfl | skip
    · rename_i c
      cases c <;> first | rfl | skip
      rename_i d
      cases d <;> rfl
    · rename_i l
      cases l <;> rfl
/-- ████ A LONE RUN SERVES A GOROUTINE IN COMPANY. ████ -/
theorem lone_ow (hO : OkFns S P) {R : LK → World → World → Prop} (hR : ∀ k w w₁, R k w w₁ → Rely k w w₁) {main : Bool} {St : LK → Goroutine → World → Prop} (hp : PR P ρ) {f f' : Frame} (h : FR S P ρ f f')
    {kk : LK} {L W : World} (hw : WR S ρ kk L W) {pc : Bool} {K' : List Item} (hK' : pc = false → K' = []) {base : List Frame} (fin : Frame → World → Prop)
    (hreach : ∀ T, ∃ N fr L1, runN P N (lone (ext (wk pc) f) [wall P] { L with tape := T }) = .next (lone fr [wall P] L1) ∧ (fr.mode = .returning ∨ (pc = true ∧ fr.mode = .run ∧ fr.todo = wk pc)) ∧ fin fr L1)
    (hSt : ∀ ρ' kk' f1 f1' L1 W1, ρ.le ρ' → FR S P ρ' f1 f1' → WR S ρ' kk' L1 W1 → Up kk W.heap.size kk' W1.heap.size → Fin pc f1 → fin (ext (wk pc) f1) L1 → St kk' (G (ext K' f1') base) W1) :
    OW P main R St kk (G (ext K' f') base) W := by
  refine Classical.byContradiction fun hno => ?_
  let x0 : Plc := ⟨kk, G (ext K' f') base, W⟩
  let X : Nat → Plc := badP P main R St x0
  let B : Nat → World := fun n => badW P main R St (X n)
  let c : Nat → Nat := fun n => curDraws P (X n).g.frame (B n)
  obtain ⟨T, hT⟩ := tape_of (fun n => (B n).tape) (fun n => (B n).drawn) c L.drawn
  obtain ⟨N, f1, L1, hN, hfin, hpost⟩ := hreach T
  have hf1 : f1.mode = .run ∨ f1.mode = .returning := hfin.elim .inr (fun x => .inl x.2.1)
  have inv : ∀ n, n ≤ N → ∃ ρ' fn fn' fs fs' Ln, ρ.le ρ' ∧ FR S P ρ' fn fn' ∧ Cals S P ρ' fs fs' ∧ WR S ρ' (X n).k Ln (X n).w ∧ Up kk W.heap.size (X n).k (X n).w.heap.size ∧ (X n).g = gor K' fn' fs' base ∧
      runN P n (lone (ext (wk pc) f) [wall P] { L with tape := T }) = .next (lone (ext (Kx (wk pc) fs) fn) (cal (wk pc) fs ++ [wall P]) Ln) ∧ Ln.tape = T ∧ Ln.drawn = L.drawn + sumTo n c ∧ ¬ OW P main R St (X n).k (X n).g (X n).w := by
    intro n
    induction n with
    | zero => exact fun _ => ⟨ρ, f, f', [], [], { L with tape := T }, .refl _, h, .nil, hw.heaps rfl rfl, .refl _ _, rfl, rfl, rfl, rfl, hno⟩
    | succ n ih =>
      intro hn
      obtain ⟨ρ', fn, fn', fs, fs', Ln, i1, i2, i3, i4, i5, i6, i7, i8, i9, i10⟩ := ih (by omega)
      have hrest : runN P (N - n) (lone (ext (Kx (wk pc) fs) fn) (cal (wk pc) fs ++ [wall P]) Ln) = .next (lone f1 [wall P] L1) := by
        rw [← runN_more (m := N - n) i7, show n + (N - n) = N by omega]; exact hN
      obtain ⟨m, hm⟩ : ∃ m, N - n = m + 1 := ⟨N - n - 1, by omega⟩
      rw [hm] at hrest
      have hnf : fs = [] → fn.mode = .run ∧ (fn.todo = [] → wk pc = [] ∧ K' = []) := fun e => by
        subst e
        have hnfin : ¬ Fin pc fn := fun hf => final_never i2 hf m f1 Ln L1 hrest
        refine ⟨?_, fun e => ?_⟩
        · rcases i2.mode with x | x
          · exact x.1
          · exact absurd (.inl x.1) hnfin
        · cases hpc : pc with
          | false => exact ⟨rfl, hK' hpc⟩
          | true =>
            refine absurd (.inr ⟨hpc, ?_, e⟩) hnfin
            rcases i2.mode with x | x
            · exact x.1
            · exact absurd (.inl x.1) hnfin
      have hr : (X n).g.status = .running := by rw [i6]; rfl
      have ho : (X n).g.offers = none := by rw [i6]; rfl
      obtain ⟨b1, b2⟩ := badW_spec (x := X n) i10 hr ho
      have hw' : WR S ρ' (X n).k Ln (B n) := i4.rely (hR _ _ _ b1)
      have hsz : (X n).w.heap.size ≤ (B n).heap.size := (hR _ _ _ b1).size
      have hcd : curDraws P fn' (B n) = c n := by
        show _ = curDraws P (X n).g.frame (B n)
        rw [i6]
        refine (curDraws_ext (fun e => ?_) _).symm
        cases i3 with
        | nil => exact ((hnf rfl).2 (i2.todo ▸ e)).2
        | cons _ _ _ _ => rfl
      have hag : ∀ j, j < curDraws P fn' (B n) → ∀ q, Ln.tape (Ln.drawn + j) q = (B n).tape ((B n).drawn + j) q := fun j hj q => by
        rw [i8, i9]; exact hT n j (hcd ▸ hj) q
      rcases sim_step hO (hp.mono i1) i2 i3 (wk_exit pc) hnf hw' hag main [wall P] base with (⟨hlost, hrun⟩ | ⟨o, L', es, he⟩) | ⟨ρ1, L', W', es, l, g1, g1', gs, gs', s1, s2, s3, s4, s5, s6, s7, s8, s9⟩
      rotate_left
      · exfalso
        have : step P (lone (ext (Kx (wk pc) fs) fn) (cal (wk pc) fs ++ [wall P]) Ln) = .ended o L' := step_lone_ended (by simp only [gor, G] at he; rw [he]; rfl)
        simp only [runN, this] at hrest
        cases hrest
      rotate_left
      · exfalso
        rcases hlost with ⟨o, L', es, he⟩ | ⟨v, L', es, he⟩
        · have : step P (lone (ext (Kx (wk pc) fs) fn) (cal (wk pc) fs ++ [wall P]) Ln) = .ended o L' := step_lone_ended (by simp only [gor, G] at he; rw [he]; rfl)
          simp only [runN, this] at hrest
          cases hrest
        · have hrm : ((ext (Kx (wk pc) fs) fn).raise [{ v, recovered := false }]).mode = .panicking [{ v, recovered := false }] := by
            have : (ext (Kx (wk pc) fs) fn).mode = .run := hrun
            unfold Frame.raise
            rw [this]
          have hrd : ∀ ch, ((ext (Kx (wk pc) fs) fn).raise ch).defers = [] ∧ ((ext (Kx (wk pc) fs) fn).raise ch).fn = fn.fn := fun ch => by
            unfold Frame.raise
            split <;> exact ⟨i2.defers.1, rfl⟩
          have hfn : ∀ {a a' : Frame}, FR S P ρ' a a' → ∃ g, P.funcs[a.fn]? = some g := fun ha => by obtain ⟨g, h1⟩ := ha.inS; exact ⟨g, h1⟩
          have : step P (lone (ext (Kx (wk pc) fs) fn) (cal (wk pc) fs ++ [wall P]) Ln) = .next (lone ((ext (Kx (wk pc) fs) fn).raise [{ v, recovered := false }]) (cal (wk pc) fs ++ [wall P]) L') := step_lone_go (by simp only [gor, G] at he; rw [he]; rfl)
          simp only [runN, this] at hrest
          have hall : ∀ {a a' : List Frame}, Cals S P ρ' a a' → ∀ x ∈ cal (wk pc) a, x.defers = [] ∧ ∃ g, P.funcs[x.fn]? = some g := fun ha => by
            induction ha with
            | nil => intro x hx; cases hx
            | cons h1 _ _ _ ih =>
              intro x hx
              rcases List.mem_cons.1 hx with rfl | hx
              · have q := hfn h1
                exact ⟨h1.defers.1, q⟩
              · exact ih x hx
          obtain ⟨ch, hch⟩ := panic_never _ _ _ ⟨_, hrm⟩ (hrd _).1 (by rw [(hrd _).2]; exact hfn i2) (hall i3) _ _ _ hrest
          have hch' : f1.mode = .panicking ch := hch
          rcases hf1 with e | e <;> rw [e] at hch' <;> cases hch'
      · rw [← i6] at s9
        have hX : X (n + 1) = ⟨(X n).k.grow (B n).heap.size W'.heap.size, gor K' g1' gs' base, W'⟩ := by
          show badN P main R St (X n) = _
          unfold badN
          rw [show stepG P main (X n).g (badW P main R St (X n)) = _ from s9]
        have hst : step P (lone (ext (Kx (wk pc) fs) fn) (cal (wk pc) fs ++ [wall P]) Ln) = .next (lone (ext (Kx (wk pc) gs) g1) (cal (wk pc) gs ++ [wall P]) L') := step_lone_go (by simp only [gor, G] at s8; rw [s8]; rfl)
        rw [hX]
        refine ⟨ρ1, g1, g1', gs, gs', L', i1.trans s1, s6, s7, s2, i5.step hsz s3.chg.size, rfl, ?_, s4.trans i8, ?_, b2 _ _ _ s9 s3⟩
        · rw [runN_more (m := 1) i7]
          simp only [runN, hst]
        · rw [s5.1, i9, hcd]; simp only [sumTo]; omega
  obtain ⟨ρ', fn, fn', fs, fs', Ln, i1, i2, i3, i4, i5, i6, i7, i8, i9, i10⟩ := inv N (Nat.le_refl _)
  rw [hN] at i7
  simp only [Stepped.next.injEq, lone, Machine.mk.injEq, Array.mk.injEq, List.cons.injEq, Goroutine.mk.injEq, and_true] at i7
  obtain ⟨e1, e2, e3⟩ := i7
  subst e1
  have hfs : fs = [] := by
    have := congrArg List.length e3
    cases fs with
    | nil => rfl
    | cons a r => simp [cal] at this
  subst hfs
  cases i3
  have hff : f1 = ext (wk pc) fn := e2
  subst hff
  refine i10 (.stop ?_)
  rw [i6]
  refine hSt ρ' _ fn fn' L1 _ i1 i2 i4 i5 (hfin.imp id fun x => ⟨x.1, x.2.1, ?_⟩) hpost
  have := x.2.2
  simpa [ext] using this
end
end Go.Proofs.Yticdjkkcfdbdcaa

/- THE MIRRORED WALK: code of a goroutine in company, told of a lone world that is like its own. No program; no conditions but those named. -/
namespace Go.Proofs.Yticdjkkcfdbdcaa
open Go.Conc Go.ConcN
/-- One naming of blocks within another, whatever of them may be touched. -/
structure Ren.sub (ρ ρ' : Ren) : Prop where
  to : ∀ b p, ρ b = some p → ρ' b = some p
  base : ρ'.base = ρ.base
  chan : ∀ b p, ρ b = some p → (ρ'.isChan b ↔ ρ.isChan b)
  bad : ρ'.bad = ρ.bad
theorem Ren.le.sub {ρ ρ' : Ren} (h : ρ.le ρ') : ρ.sub ρ' := ⟨h.to, h.base, h.chan, h.bad⟩
theorem Ren.sub.refl (ρ : Ren) : ρ.sub ρ := ⟨fun _ _ h => h, rfl, fun _ _ _ => Iff.rfl, rfl⟩
theorem Ren.sub.trans {a b c : Ren} (h : a.sub b) (k : b.sub c) : a.sub c := ⟨fun x p hx => k.to x p (h.to x p hx), k.base.trans h.base, fun x p hx => (k.chan x p (h.to x p hx)).trans (h.chan x p hx), k.bad.trans h.bad⟩
theorem AR.sub {ρ ρ' : Ren} {a a' : Addr} (h : AR ρ a a') (hr : ρ.sub ρ') : AR ρ' a a' := by
  obtain ⟨⟨h1, h0⟩, c, s, h2, h3⟩ := h
  exact ⟨⟨h1, fun x => h0 ((hr.chan _ _ h2).1 x)⟩, c, s, hr.to _ _ h2, h3⟩
theorem VR.sub {S : FnSet} {ρ ρ' : Ren} {v v' : Value} (h : VR S ρ v v') (hr : ρ.sub ρ') : VR S ρ' v v' := by
  induction h with
  | ptr h => exact .ptr (h.sub hr)
  | slice h l c => exact .slice (h.sub hr) l c
  | void b o s a' => exact .void b o s a'
  | map h => exact .map (hr.to _ _ h)
  | chan h => exact .chan (hr.to _ _ h)
  | func hf sx _ sy _ ih1 ih2 => exact .func hf sx ih1 sy ih2
  | iface t _ ih => exact .iface t ih
  | agg sx _ ih => exact .agg sx ih
  | tuple sx _ ih => exact .tuple sx ih
  | bool b => exact .bool b
  | int k n => exact .int k n
  | string s => exact .string s
  | nilPtr => exact .nilPtr
  | nilSlice l c => exact .nilSlice l c
  | nilMap => exact .nilMap
  | nilChan => exact .nilChan
  | nilFunc => exact .nilFunc
  | nilIface => exact .nilIface
theorem VRs.sub {S : FnSet} {ρ ρ' : Ren} {x x' : Array Value} (h : VRs S ρ x x') (hr : ρ.sub ρ') : VRs S ρ' x x' := ⟨h.1, fun i v v' h1 h2 => (h.2 i v v' h1 h2).sub hr⟩
/-- A judgement on goroutines that bears steps of their own. -/
structure JOk (P : Program) (main : Bool) (R : LK → World → World → Prop) (J : LK → Goroutine → World → Prop) : Prop where
  own : ∀ k g w, g.status = .running → g.offers = none → (∀ w₁, R k w w₁ → ∃ g' w' es, stepG P main g w₁ = .go g' w' es ∧ Own k w₁ w' es ∧ J (k.grow w₁.heap.size w'.heap.size) g' w') → J k g w
  rel : ∀ k w w₁, R k w w₁ → Rely k w w₁
theorem OW.j {P : Program} {main : Bool} {R : LK → World → World → Prop} {J : LK → Goroutine → World → Prop} (hJ : JOk P main R J) {k : LK} {g : Goroutine} {w : World} (h : OW P main R J k g w) : J k g w := by
  induction h with
  | stop h => exact h
  | step hr ho h hn ih =>
    refine hJ.own _ _ _ hr ho fun w₁ hR => ?_
    obtain ⟨g', w', es, h1, h2⟩ := h w₁ hR
    exact ⟨g', w', es, h1, h2, ih w₁ g' w' es hR h1⟩
/-- The lone world L mirrors the company's W. -/
structure Mir (S : FnSet) (P : Program) (ρ : Ren) (k : LK) (L W : World) : Prop where
  wr : WR S ρ k L W
  pr : PR P ρ
structure ActR (S : FnSet) (ρ : Ren) (a a' : Act) : Prop where
  tmps : VRs S ρ a.tmps a'.tmps
  d : a.defers = []
  d' : a'.defers = []
theorem ActR.sub {S : FnSet} {ρ ρ' : Ren} {a a' : Act} (h : ActR S ρ a a') (hr : ρ.sub ρ') : ActR S ρ' a a' := ⟨h.tmps.sub hr, h.d, h.d'⟩
theorem ActR.put {S : FnSet} {ρ : Ren} {a a' : Act} (h : ActR S ρ a a') (d : Option Tmp) {v v' : Value} (hv : VR S ρ v v') : ActR S ρ (a.put d v) (a'.put d v') := by
  cases d with
  | none => exact h
  | some d => exact ⟨h.tmps.set d hv, h.d, h.d'⟩
theorem ActR.eval {S : FnSet} {ρ : Ren} {a a' : Act} (h : ActR S ρ a a') : EvR S ρ a.eval a'.eval := by
  refine ⟨fun x hx => ?_, fun v => rfl, fun g => rfl⟩
  cases x with
  | tmp t => exact h.tmps.getD t VR.undef
  | const v => exact Bare.rel hx
  | func g => exact .func hx rfl (fun i v v' h => by simp at h) rfl (fun i v v' h => by simp at h)
  | global g => exact hx.elim
section
variable (S : FnSet) (P : Program) (J : LK → Goroutine → World → Prop)
def AfterJ (b' : Frame) (K' : List Item) (base : List Frame) : Exit → LK → Act → World → Prop
  | .normal, k, a, W => J k (G (b'.at a K') base) W
  | .exit id, k, a, W => ∃ K1, exitTo id K' = some K1 ∧ J k (G (b'.at a K1) base) W
  | .ret, k, a, W => ∀ todo, J k (G { b'.at a todo with mode := .returning } base) W
  | _, _, _, _ => False
def Cont (b' : Frame) (K' : List Item) (base : List Frame) (up : Bool) (Q : Exit → Act → World → Prop) (ρ : Ren) (k : LK) (n : Nat) : Prop :=
  ∀ e a1 L1 ρ1 k1 W1 a1', Q e a1 L1 → ρ.sub ρ1 → (up = true → Up k n k1 W1.heap.size) → Mir S P ρ1 k1 L1 W1 → ActR S ρ1 a1 a1' → AfterJ J b' K' base e k1 a1' W1
/-- ████ THE JUDGEMENT ████ on code, at a lone world L that mirrors the company's. 'up': the licence only grows. -/
def Mp (fn : FuncId) (c : Code) (up : Bool) (Q : Exit → Act → World → Prop) (a : Act) (L : World) : Prop :=
  ∀ (b' : Frame) (K' : List Item) (base : List Frame) (ρ : Ren) (k : LK) (W : World) (a' : Act), b'.fn = fn → b'.kind = .normal → Mir S P ρ k L W → ActR S ρ a a' → Cont S P J b' K' base up Q ρ k W.heap.size → J k (G (b'.at a' (.code c :: K')) base) W
def MpOps (fn : FuncId) (ops : Array Oper) (todo : List Nat) (up : Bool) (Q : Exit → Act → World → Prop) (a : Act) (L : World) : Prop :=
  ∀ (b' : Frame) (K' : List Item) (base : List Frame) (ρ : Ren) (k : LK) (W : World) (a' : Act), b'.fn = fn → b'.kind = .normal → Mir S P ρ k L W → ActR S ρ a a' → Cont S P J b' K' base up Q ρ k W.heap.size → J k (G (b'.at a' (.inRegion ops todo :: K')) base) W
/-- .. on a call. -/
def MCalls (f : FuncId) (args : Array Value) (up : Bool) (R : Value → World → Prop) (L : World) : Prop :=
  ∀ (c' : Frame) (base : List Frame) (ρ : Ren) (k : LK) (W : World) (args' : Array Value), Mir S P ρ k L W → VRs S ρ args args' →
    (∀ v v' L1 ρ1 k1 W1, R v L1 → ρ.sub ρ1 → (up = true → Up k W.heap.size k1 W1.heap.size) → Mir S P ρ1 k1 L1 W1 → VR S ρ1 v v' → J k1 (G (c'.finish v') base) W1) → J k (G (Frame.enter P f args' .normal) (c' :: base)) W
end
section
variable {S : FnSet} {P : Program} {J : LK → Goroutine → World → Prop} {main : Bool} {R : LK → World → World → Prop}
theorem Up.wide {k k' : LK} {n n' m : Nat} (h : Up k n k' n') (hm : n' ≤ m) : Up k n k' m := ⟨Nat.le_trans h.size hm, h.W, fun l hl => (h.new l hl).imp id (NewLoc.wide (Nat.le_refl _) hm), h.R, h.A⟩
theorem Mir.rely {ρ : Ren} {k : LK} {L W W₁ : World} (h : Mir S P ρ k L W) (hr : Rely k W W₁) : Mir S P ρ k L W₁ := ⟨h.wr.rely hr, h.pr⟩
theorem Cont.at {b' : Frame} {K' : List Item} {base : List Frame} {up : Bool} {Q : Exit → Act → World → Prop} {ρ ρ1 : Ren} {k k1 : LK} {n n1 : Nat} (h : Cont S P J b' K' base up Q ρ k n) (hs : ρ.sub ρ1) (hu : up = true → Up k n k1 n1) : Cont S P J b' K' base up Q ρ1 k1 n1 :=
  fun e a1 L1 ρ2 k2 W2 a2 hq h1 h2 h3 h4 => h e a1 L1 ρ2 k2 W2 a2 hq (hs.trans h1) (fun e => (hu e).trans (h2 e)) h3 h4
/-- A move of control. -/
theorem j_ctl (hJ : JOk P main R J) {k : LK} {f f1 : Frame} {base base1 : List Frame} {W : World} (hs : ∀ w, stepG P main (G f base) w = .go (G f1 base1) w #[]) (h : ∀ w₁, R k W w₁ → J k (G f1 base1) w₁) : J k (G f base) W :=
  hJ.own _ _ _ rfl rfl fun w₁ hr => ⟨_, w₁, #[], hs w₁, .idle k w₁, by rw [grow_self]; exact h w₁ hr⟩
section rules
variable (hJ : JOk P main R J) {fn : FuncId} {up : Bool} {Q : Exit → Act → World → Prop} {a : Act} {L : World}
include hJ
theorem Mp.ctl {c : Code} {todo : List Item → List Item} (hs : ∀ (b : Frame) (a' : Act) K cs w, stepG P main (G (b.at a' (.code c :: K)) cs) w = .go (G (b.at a' (todo K)) cs) w #[])
    (h : ∀ (b' : Frame) (K' : List Item) (base : List Frame) (ρ : Ren) (k : LK) (W : World) (a' : Act), b'.fn = fn → b'.kind = .normal → Mir S P ρ k L W → ActR S ρ a a' → Cont S P J b' K' base up Q ρ k W.heap.size → J k (G (b'.at a' (todo K')) base) W) : Mp S P J fn c up Q a L := by
  intro b' K' base ρ k W a' h1 h2 h3 h4 h5
  refine j_ctl hJ (fun w => hs b' a' K' base w) fun w₁ hr => ?_
  have hrel := hJ.rel _ _ _ hr
  exact h b' K' base ρ k w₁ a' h1 h2 (h3.rely hrel) h4 (h5.at (.refl _) fun _ => (Up.refl _ _).wide hrel.size)
theorem Mp.skip (h : Q .normal a L) : Mp S P J fn .skip up Q a L :=
  Mp.ctl hJ (todo := fun K => K) (fun _ _ _ _ _ => stepG_skip) fun b' K' base ρ k W a' _ _ h3 h4 h5 => h5 _ _ _ _ _ _ _ h (.refl _) (fun _ => .refl _ _) h3 h4
theorem Mp.seq {x y : Code} (h : Mp S P J fn x up (Exit.then (fun a1 L1 => Mp S P J fn y up Q a1 L1) Q) a L) : Mp S P J fn (.seq x y) up Q a L := by
  refine Mp.ctl hJ (todo := fun K => .code x :: .code y :: K) (fun _ _ _ _ _ => stepG_seq) fun b' K' base ρ k W a' h1 h2 h3 h4 h5 => ?_
  refine h b' (.code y :: K') base ρ k W a' h1 h2 h3 h4 fun e a1 L1 ρ1 k1 W1 a1' hq g1 g2 g3 g4 => ?_
  cases e with
  | normal => exact hq b' K' base ρ1 k1 W1 a1' h1 h2 g3 g4 (h5.at g1 g2)
  | exit id =>
    obtain ⟨K1, hK1, hj⟩ := h5 _ _ _ _ _ _ _ hq g1 g2 g3 g4
    exact ⟨K1, by simpa [exitTo] using hK1, hj⟩
  | ret => exact h5 _ _ _ _ _ _ _ hq g1 g2 g3 g4
  | goto l => exact h5 _ _ _ _ _ _ _ hq g1 g2 g3 g4
  | panic ch => exact h5 _ _ _ _ _ _ _ hq g1 g2 g3 g4
  | outgrown => exact h5 _ _ _ _ _ _ _ hq g1 g2 g3 g4
theorem Mp.cond {c : Operand} {x y : Code} {t : Bool} (hx : okX S c) (hc : a.eval c = .bool t) (h : Mp S P J fn (if t then x else y) up Q a L) : Mp S P J fn (.cond c x y) up Q a L := by
  intro b' K' base ρ k W a' h1 h2 h3 h4 h5
  have hc' : a'.eval c = .bool t := by
    have := h4.eval.1 c hx
    rw [hc] at this
    generalize a'.eval c = v' at this
    cases this; rfl
  refine j_ctl hJ (fun w => stepG_cond hc') fun w₁ hr => ?_
  have hrel := hJ.rel _ _ _ hr
  exact h b' K' base ρ k w₁ a' h1 h2 (h3.rely hrel) h4 (h5.at (.refl _) fun _ => (Up.refl _ _).wide hrel.size)
theorem Mp.exit {id : Nat} (h : Q (.exit id) a L) : Mp S P J fn (.exit id) up Q a L := by
  intro b' K' base ρ k W a' h1 h2 h3 h4 h5
  obtain ⟨K1, hK1, _⟩ := h5 _ _ _ _ _ _ _ h (.refl _) (fun _ => .refl _ _) h3 h4
  refine j_ctl hJ (fun w => stepG_exit hK1) fun w₁ hr => ?_
  have hrel := hJ.rel _ _ _ hr
  obtain ⟨K2, hK2, hj⟩ := h5 _ _ _ _ _ _ _ h (.refl _) (fun _ => (Up.refl _ _).wide hrel.size) (h3.rely hrel) h4
  rw [hK1] at hK2; cases hK2
  exact hj
theorem Mp.block {id : Nat} {c : Code} (h : Mp S P J fn c up (Exit.inBlock id Q) a L) : Mp S P J fn (.block id c) up Q a L := by
  refine Mp.ctl hJ (todo := fun K => .code c :: .inBlock id :: K) (fun _ _ _ _ _ => stepG_block) fun b' K' base ρ k W a' h1 h2 h3 h4 h5 => ?_
  refine h b' (.inBlock id :: K') base ρ k W a' h1 h2 h3 h4 fun e a1 L1 ρ1 k1 W1 a1' hq g1 g2 g3 g4 => ?_
  cases e with
  | normal =>
    refine j_ctl hJ (fun w => stepG_inBlock) fun w₁ hr => ?_
    have hrel := hJ.rel _ _ _ hr
    exact h5 _ _ _ _ _ _ _ hq g1 (fun e => (g2 e).wide hrel.size) (g3.rely hrel) g4
  | exit id' =>
    by_cases hid : id' = id
    · simp only [Exit.inBlock, hid, if_true] at hq
      exact ⟨K', by simp [exitTo, hid], h5 _ _ _ _ _ _ _ hq g1 g2 g3 g4⟩
    · simp only [Exit.inBlock, hid, if_false] at hq
      obtain ⟨K1, hK1, hj⟩ := h5 _ _ _ _ _ _ _ hq g1 g2 g3 g4
      have : (id == id') = false := by simp; exact fun h => hid h.symm
      exact ⟨K1, by simp [exitTo, this, hK1], hj⟩
  | ret => exact h5 _ _ _ _ _ _ _ hq g1 g2 g3 g4
  | goto l => exact h5 _ _ _ _ _ _ _ hq g1 g2 g3 g4
  | panic ch => exact h5 _ _ _ _ _ _ _ hq g1 g2 g3 g4
  | outgrown => exact h5 _ _ _ _ _ _ _ hq g1 g2 g3 g4
/-- A LOOP: an invariant, a measure that every round lowers. -/
theorem Mp.loop {c : Code} (I : Act → World → Prop) (μ : Act → World → Nat) (h0 : I a L) (round : ∀ a L, I a L → Mp S P J fn c up (Exit.then (fun a1 L1 => I a1 L1 ∧ μ a1 L1 < μ a L) Q) a L) : Mp S P J fn (.loop c) up Q a L := by
  have key : ∀ N a L, μ a L = N → I a L → ∀ (b' : Frame) (K' : List Item) (base : List Frame) (ρ : Ren) (k : LK) (W : World) (a' : Act), b'.fn = fn → b'.kind = .normal → Mir S P ρ k L W → ActR S ρ a a' → Cont S P J b' K' base up Q ρ k W.heap.size → J k (G (b'.at a' (.code c :: .inLoop c :: K')) base) W := by
    intro N
    induction N using Nat.strongRecOn with
    | _ N ih =>
    intro a L hN hI b' K' base ρ k W a' h1 h2 h3 h4 h5
    refine round a L hI b' (.inLoop c :: K') base ρ k W a' h1 h2 h3 h4 fun e a1 L1 ρ1 k1 W1 a1' hq g1 g2 g3 g4 => ?_
    cases e with
    | normal =>
      refine j_ctl hJ (fun w => stepG_inLoop) fun w₁ hr => ?_
      have hrel := hJ.rel _ _ _ hr
      exact ih (μ a1 L1) (by have := hq.2; omega) a1 L1 rfl hq.1 b' K' base ρ1 k1 w₁ a1' h1 h2 (g3.rely hrel) g4 (h5.at g1 fun e => (g2 e).wide hrel.size)
    | exit id =>
      obtain ⟨K1, hK1, hj⟩ := h5 _ _ _ _ _ _ _ hq g1 g2 g3 g4
      exact ⟨K1, by simpa [exitTo] using hK1, hj⟩
    | ret => exact h5 _ _ _ _ _ _ _ hq g1 g2 g3 g4
    | goto l => exact h5 _ _ _ _ _ _ _ hq g1 g2 g3 g4
    | panic ch => exact h5 _ _ _ _ _ _ _ hq g1 g2 g3 g4
    | outgrown => exact h5 _ _ _ _ _ _ _ hq g1 g2 g3 g4
  exact Mp.ctl hJ (todo := fun K => .code c :: .inLoop c :: K) (fun _ _ _ _ _ => stepG_loop) (key _ a L rfl h0)
theorem Mp.region {id : Nat} {ops : Array Oper} (h : MpOps S P J fn ops (List.range ops.size) up Q a L) : Mp S P J fn (.region id ops false) up Q a L :=
  Mp.ctl hJ (todo := fun K => .inRegion ops (List.range ops.size) :: K) (fun _ _ _ _ _ => stepG_region) h
theorem MpOps.nil {ops : Array Oper} (h : Q .normal a L) : MpOps S P J fn ops [] up Q a L := by
  intro b' K' base ρ k W a' h1 h2 h3 h4 h5
  refine j_ctl hJ (fun w => stepG_region_end) fun w₁ hr => ?_
  have hrel := hJ.rel _ _ _ hr
  exact h5 _ _ _ _ _ _ _ h (.refl _) (fun _ => (Up.refl _ _).wide hrel.size) (h3.rely hrel) h4
/-- An operation that yields a value, or nothing. -/
theorem MpOps.op (hb : Bodies S P) {ops : Array Oper} {i : Nat} {rest : List Nat} {o : Oper} (ho : ops[i]? = some o) (hw : Region.wanted o (yielded ops a.tmps) = true) (hok : okOp S P o.op)
    (h : ∀ T, ∃ L1, (∃ v, (execOp a.eval o).run P { L with tape := T } = .ok (.value v) L1 ∧ MpOps S P J fn ops rest up Q (a.put o.dst v) L1) ∨ ((execOp a.eval o).run P { L with tape := T } = .ok .skip L1 ∧ MpOps S P J fn ops rest up Q (a.put o.dst undef) L1)) : MpOps S P J fn ops (i :: rest) up Q a L := by
  intro b' K' base ρ k W a' h1 h2 h3 h4 h5
  have hw' : Region.wanted o (yielded ops a'.tmps) = true := by rw [← yielded_same h4.tmps]; exact hw
  have hk : b'.kind ≠ .early := by rw [h2]; simp
  refine hJ.own _ _ _ rfl rfl fun w₁ hr => ?_
  have hrel := hJ.rel _ _ _ hr
  have hm := h3.rely hrel
  obtain ⟨L1, hL⟩ := h fun p q => w₁.tape (w₁.drawn + (p - L.drawn)) q
  generalize hLT : ({ L with tape := fun p q => w₁.tape (w₁.drawn + (p - L.drawn)) q } : World) = LT at hL
  have hwr : WR S ρ k LT w₁ := by subst hLT; exact hm.wr.heaps rfl rfl
  have hag : ∀ j, j < ((execOp a'.eval o).runT P w₁ #[]).1.world.drawn - w₁.drawn → ∀ q, LT.tape (LT.drawn + j) q = w₁.tape (w₁.drawn + j) q := fun j _ q => by
    subst hLT
    show w₁.tape (w₁.drawn + (L.drawn + j - L.drawn)) q = _
    rw [Nat.add_sub_cancel_left]
  rcases (sr_exec hb hm.pr h4.eval (fun v => rfl) o hok).run k LT w₁ #[] #[] hwr hag with ⟨x, L', es1, g1, g2⟩ | ⟨a0, L', es1, b, W', l, ρ', g1, g2, g3, g4, g5, g6, g7, g8⟩
  · exfalso
    rw [Sem.runT_eq] at g1
    have g1' := (Prod.mk.inj g1).1
    rcases hL with ⟨v, e, _⟩ | ⟨e, _⟩ <;> rw [e] at g1' <;> cases g1'
  · rw [Sem.runT_eq] at g1 g2
    have e1 := (Prod.mk.inj g1).1
    obtain ⟨e2, e3⟩ := Prod.mk.inj g2
    have hown : Own k w₁ W' (listed P b'.fn a' o w₁) := by
      unfold listed
      rw [e3, Array.empty_append]
      exact g6.seen _
    have hcont : Cont S P J b' K' base up Q ρ' (k.grow w₁.heap.size W'.heap.size) W'.heap.size := h5.at g3.sub fun _ => (Up.refl _ _).step hrel.size g6.chg.size
    have hmir : Mir S P ρ' (k.grow w₁.heap.size W'.heap.size) L' W' := ⟨g5, hm.pr.mono g3⟩
    rcases hL with ⟨v, e, hn⟩ | ⟨e, hn⟩
    · rw [e] at e1
      cases e1
      cases g4 with
      | value hv => exact ⟨_, W', _, stepG_value ho hw' hk e2, hown, hn b' K' base ρ' _ W' _ h1 h2 hmir ((h4.sub g3.sub).put _ hv) hcont⟩
    · rw [e] at e1
      cases e1
      cases g4 with
      | skip => exact ⟨_, W', _, stepG_none ho hw' hk e2, hown, hn b' K' base ρ' _ W' _ h1 h2 hmir ((h4.sub g3.sub).put _ VR.undef) hcont⟩
end rules
end
end Go.Proofs.Yticdjkkcfdbdcaa
namespace Go.Proofs.Yticdjkkcfdbdcaa
open Go.Conc Go.ConcN
section
variable {S : FnSet} {P : Program} {J : LK → Goroutine → World → Prop} {main : Bool} {R : LK → World → World → Prop} (hJ : JOk P main R J) (hO : OkFns S P)
include hJ
/-- A frame on its way out. -/
theorem j_ret {ρ : Ren} {f f' c' : Frame} (h : FR S P ρ f f') (hm : f.mode = .returning) (K' : List Item) {v : Value} {fn : Func} (hf : P.funcs[f.fn]? = some fn) {L : World} (hr : (results fn f.tmps).run P L = .ok v L) {base : List Frame} {k : LK} {W : World} (hM : Mir S P ρ k L W)
    (hj : ∀ v' ρ1 k1 w₁, ρ.le ρ1 → Up k W.heap.size k1 w₁.heap.size → Mir S P ρ1 k1 L w₁ → VR S ρ1 v v' → J k1 (G (c'.finish v') base) w₁) : J k (G (ext K' f') (c' :: base)) W := by
  refine hJ.own _ _ _ rfl rfl fun w₁ hR => ?_
  have hrel := hJ.rel _ _ _ hR
  have hrT : ∃ es, (results fn f.tmps).runT P L #[] = (.ok v L, es) := ⟨_, by rw [Sem.runT_eq, hr]⟩
  obtain ⟨es0, hrT⟩ := hrT
  rcases step_ret h hm (hM.wr.rely hrel) [] K' main with ⟨_, fn1, x, L', es, g1, g2⟩ | ⟨fn1, v1, v', ρ', L', W', es, l, g0, g1, g2, g3, g4, g5, g6, g7, g8, g9, g10⟩
  · rw [hf] at g1; cases g1
    rw [hrT] at g2; cases g2
  · rw [hf] at g0; cases g0
    rw [hrT] at g1; cases g1
    exact ⟨_, W', _, g10 c' base, g4, hj v' ρ' _ W' g2 ((Up.refl k W.heap.size).step hrel.size g4.chg.size) ⟨g3, hM.pr.mono g2⟩ g8⟩
omit hJ in
theorem bare_frame {fn : FuncId} (b' : Frame) (hb : b'.fn = fn) (hk : b'.kind = .normal) {f' : Frame} (h1 : f'.fn = fn) (h2 : f'.kind = .normal) (h3 : f'.roundOf = none) (h4 : f'.mode = .run) (h5 : f'.todo = []) (K' : List Item) : ext K' f' = b'.at ⟨f'.tmps, f'.defers⟩ K' := by
  obtain ⟨a1, a2, a3, a4, a5, a6, a7⟩ := f'
  simp only at h1 h2 h3 h4 h5
  subst h1 h2 h3 h4 h5
  simp [ext, Frame.at, hb, hk]
include hO
/-- ████ WHAT A LONE WALK GIVES. ████ -/
theorem Mp.lone {fn : FuncId} (hres : ResFn P fn) {c : Code} (hc : okCode S P c) {up : Bool} {Q : Exit → Act → World → Prop} {a : Act} {L : World} (h : ∀ T, c.wp P (fun e a1 L1 => (e = .normal ∨ e = .ret) ∧ (a1.defers = [] → Q e a1 L1)) a { L with tape := T }) : Mp S P J fn c up Q a L := by
  intro b' K' base ρ k W a' h1 h2 h3 h4 h5
  let bL : Frame := { fn := fn, tmps := #[], todo := [], defers := [], mode := .run, kind := .normal }
  have hFR : FR S P ρ (bL.at a [.code c]) (b'.at a' [.code c]) := by
    refine ⟨h1, ⟨hres.choose, hres.choose_spec.1⟩, rfl, fun x hx => ?_, h4.tmps, ⟨h4.d, h4.d'⟩, ⟨rfl, h2⟩, ⟨rfl, rfl⟩, .inl ⟨rfl, rfl⟩⟩
    simp only [Frame.at, List.mem_singleton] at hx
    subst hx
    exact hc
  have e0 : b'.at a' (.code c :: K') = ext K' (b'.at a' [.code c]) := rfl
  rw [e0]
  refine OW.j hJ (lone_ow hO (hJ.rel) (St := J) h3.pr hFR h3.wr (pc := true) (fun e => by cases e) (fun fr L1 => (∃ a1, fr = bL.at a1 (wk true) ∧ (a1.defers = [] → Q .normal a1 L1)) ∨ ∃ a1 todo, fr = { bL.at a1 todo with mode := .returning } ∧ (a1.defers = [] → Q .ret a1 L1)) (fun T => ?_) fun ρ' kk' f1 f1' L1 W1 g1 g2 g3 g4 g5 g6 => ?_)
  · obtain ⟨e, a1, w1, ⟨he, hq⟩, harr⟩ := h T bL (wk true) [wall P]
    rcases he with rfl | rfl
    · obtain ⟨N, hN⟩ := harr
      exact ⟨N, _, w1, hN, .inr ⟨rfl, rfl, rfl⟩, .inl ⟨a1, rfl, hq⟩⟩
    · obtain ⟨todo, N, hN⟩ := harr
      exact ⟨N, _, w1, hN, .inl rfl, .inr ⟨a1, todo, rfl, hq⟩⟩
  · have hmir : Mir S P ρ' kk' L1 W1 := ⟨g3, h3.pr.mono g1⟩
    rcases g6 with ⟨a1, e, hq⟩ | ⟨a1, todo, e, hq⟩
    · have em : f1.mode = .run := by have := congrArg Frame.mode e; exact this
      have et : f1.tmps = a1.tmps := by have := congrArg Frame.tmps e; exact this
      have ed : f1.defers = a1.defers := by have := congrArg Frame.defers e; exact this
      have ef : f1.fn = fn := by have := congrArg Frame.fn e; exact this
      have eo : f1.todo = [] := by have := congrArg Frame.todo e; simpa [ext, Frame.at] using this
      have em' : f1'.mode = .run := by rcases g2.mode with x | x; exact x.2; rw [em] at x; cases x.1
      rw [bare_frame b' h1 h2 (g2.fn.trans ef) g2.kind.2 g2.round.2 em' (g2.todo.trans eo) K']
      exact h5 .normal a1 L1 ρ' kk' W1 ⟨f1'.tmps, f1'.defers⟩ (hq (ed.symm.trans g2.defers.1)) g1.sub (fun _ => g4) hmir ⟨et ▸ g2.tmps, ed.symm.trans g2.defers.1, g2.defers.2⟩
    · have em : f1.mode = .returning := by have := congrArg Frame.mode e; exact this
      have et : f1.tmps = a1.tmps := by have := congrArg Frame.tmps e; exact this
      have ed : f1.defers = a1.defers := by have := congrArg Frame.defers e; exact this
      have ef : f1.fn = fn := by have := congrArg Frame.fn e; exact this
      have em' : f1'.mode = .returning := by rcases g2.mode with x | x; rw [em] at x; cases x.1; exact x.2
      have e1 : ext K' f1' = { b'.at ⟨f1'.tmps, f1'.defers⟩ (f1'.todo ++ K') with mode := .returning } := by
        have q1 : f1'.fn = b'.fn := (g2.fn.trans ef).trans h1.symm
        have q2 : f1'.kind = b'.kind := g2.kind.2.trans h2.symm
        have q3 := g2.round.2
        obtain ⟨a1, a2, a3, a4, a5, a6, a7⟩ := f1'
        simp only at q1 q2 q3 em'
        subst q1 q2 q3 em'
        rfl
      rw [e1]
      exact h5 .ret a1 L1 ρ' kk' W1 ⟨f1'.tmps, f1'.defers⟩ (hq (ed.symm.trans g2.defers.1)) g1.sub (fun _ => g4) hmir ⟨et ▸ g2.tmps, ed.symm.trans g2.defers.1, g2.defers.2⟩ _
/-- .. of a call. -/
theorem MCalls.lone {f : FuncId} (hf : S.call f) {args : Array Value} {up : Bool} {R' : Value → World → Prop} {L : World} (h : ∀ T, Calls P f args { L with tape := T } (fun | .returned v, w => R' v w | _, _ => False)) : MCalls S P J f args up R' L := by
  intro c' base ρ k W args' h3 h4 h5
  have hFR : FR S P ρ (Frame.enter P f args .normal) (Frame.enter P f args' .normal) := FR.enter hO hf h4
  rw [← ext_nil (Frame.enter P f args' .normal)]
  refine OW.j hJ (lone_ow hO (hJ.rel) (St := J) h3.pr hFR h3.wr (pc := false) (fun _ => rfl) (fun fr L1 => ∃ v fn, P.funcs[fr.fn]? = some fn ∧ (results fn fr.tmps).run P L1 = .ok v L1 ∧ R' v L1) (fun T => ?_) fun ρ' kk' f1 f1' L1 W1 g1 g2 g3 g4 g5 g6 => ?_)
  · obtain ⟨e, w1, fr, hR, hcm, hfn, hlv⟩ := h T [wall P]
    cases e with
    | returned v =>
      obtain ⟨N, hN⟩ := hcm
      obtain ⟨l1, l2, l3, fn, l4, l5⟩ := hlv
      refine ⟨N, fr, w1, ?_, .inl l1, v, fn, l4, l5, hR⟩
      rw [show wk false = [] from rfl, ext_nil]; exact hN
    | panicked ch => exact hR.elim
    | outgrown => exact hR.elim
  · have hm : f1.mode = .returning := by rcases g5 with x | x; exact x; cases x.1
    have hmir : Mir S P ρ' kk' L1 W1 := ⟨g3, h3.pr.mono g1⟩
    obtain ⟨v, fn, e1, e2, e3⟩ := g6
    have e1' : P.funcs[f1.fn]? = some fn := e1
    have e2' : (results fn f1.tmps).run P L1 = .ok v L1 := e2
    exact j_ret hJ g2 hm [] e1' e2' hmir fun v' ρ1 k1 w₁ hr1 hu hm1 hv => h5 v v' L1 ρ1 k1 w₁ e3 (g1.trans hr1).sub (fun _ => g4.trans hu) hm1 hv
omit hO
/-- A call, by its body's walk. -/
theorem MCalls.body {f : FuncId} {fn : Func} {c : Code} (hf : P.funcs[f]? = some fn) (hb : fn.body = some c) (hr : ∀ (i : Nat) r, fn.results[i]? = some r → ∃ t, r = .tmp t) {args : Array Value} {up : Bool} {R' : Value → World → Prop} {L : World}
    (h : Mp S P J f c up (fun e a1 L1 => (e = .normal ∨ e = .ret) ∧ R' (pack (resVals fn a1.tmps)) L1) ⟨args ++ Array.replicate (fn.ntmps - args.size) undef, []⟩ L) : MCalls S P J f args up R' L := by
  intro c' cs ρ k W args' h3 h4 h5
  rw [enter_at args' hf hb]
  have hret : ∀ (a1 a1' : Act) L1 ρ1 k1 W1, R' (pack (resVals fn a1.tmps)) L1 → ρ.sub ρ1 → (up = true → Up k W.heap.size k1 W1.heap.size) → Mir S P ρ1 k1 L1 W1 → ActR S ρ1 a1 a1' → ∀ todo, J k1 (G { (base f).at a1' todo with mode := .returning } (c' :: cs)) W1 := by
    intro a1 a1' L1 ρ1 k1 W1 q1 q2 q3 q4 q5 todo
    have hv : VR S ρ1 (pack (resVals fn a1.tmps)) (pack (resVals fn a1'.tmps)) := VRs.pack (VRs.map _ fun r _ => by
      cases r with
      | tmp t => exact q5.tmps.getD t VR.undef
      | cell a t => exact VR.undef)
    have hs : ∀ w, stepG P main (G { (base f).at a1' todo with mode := .returning } (c' :: cs)) w = .go (G (c'.finish (pack (resVals fn a1'.tmps))) cs) w #[] := fun w =>
      stepG_leave rfl q5.d' hf (by rw [results_tmps hr]; rfl) (by rw [results_tmps hr]; rfl)
    refine j_ctl hJ hs fun w₁ hR => ?_
    have hrel := hJ.rel _ _ _ hR
    exact h5 _ _ L1 ρ1 k1 w₁ q1 q2 (fun e => (q3 e).wide hrel.size) (q4.rely hrel) hv
  refine h _ [] (c' :: cs) ρ k W _ rfl rfl h3 ⟨?_, rfl, rfl⟩ fun e a1 L1 ρ1 k1 W1 a1' hq g1 g2 g3 g4 => ?_
  · simp only [← h4.1]
    exact h4.append (VRs.same VR.undef)
  · obtain ⟨he, hR⟩ := hq
    rcases he with rfl | rfl
    · refine j_ctl hJ (fun w => stepG_end) fun w₁ hr => ?_
      have hrel := hJ.rel _ _ _ hr
      exact hret a1 a1' L1 ρ1 k1 w₁ hR g1 (fun e => (g2 e).wide hrel.size) (g3.rely hrel) g4 _
    · exact hret a1 a1' L1 ρ1 k1 W1 hR g1 g2 g3 g4
/-- A call of a function that is named, as an operation. -/
theorem MpOps.call {fn : FuncId} {up : Bool} {Q : Exit → Act → World → Prop} {a : Act} {L : World} {ops : Array Oper} {i : Nat} {rest : List Nat} {o : Oper} {f : FuncId} {args : Array Operand} {ats : Array TypeId} (ho : ops[i]? = some o) (hw : Region.wanted o (yielded ops a.tmps) = true)
    (hop : o.op = .call { callee := .value (.func f), args := args, argTypes := ats }) (hargs : ∀ x ∈ args, okX S x) (hbody : ∃ g, P.funcs[f]? = some g ∧ (g.name == "runtime.NumGoroutine") = false ∧ g.body.isNone = false)
    (h : MCalls S P J f (args.map a.eval) up (fun v L1 => MpOps S P J fn ops rest up Q (a.put o.dst v) L1) L) : MpOps S P J fn ops (i :: rest) up Q a L := by
  intro b' K' base ρ k W a' h1 h2 h3 h4 h5
  have hw' : Region.wanted o (yielded ops a'.tmps) = true := by rw [← yielded_same h4.tmps]; exact hw
  have hk : b'.kind ≠ .early := by rw [h2]; simp
  have hrun : ∀ w, (execOp a'.eval o).runT P w #[] = (.ok (.enter f (args.map a'.eval)) w, #[]) := fun w => by
    obtain ⟨g, g1, g2, g3⟩ := hbody
    have : execOp a'.eval o = callFunc f (#[] ++ args.map a'.eval ++ #[]) := by
      simp only [execOp, hop, resolve, Deferred.ofValue, Act.eval]
      rfl
    rw [this]
    show Sem.runT P (Sem.bind program _) w #[] = _
    simp only [program, Sem.bind, Sem.runT]
    simp only [g1, g2, g3, Bool.false_eq_true, if_false, Array.empty_append, Array.append_empty]
    rfl
  refine hJ.own _ _ _ rfl rfl fun w₁ hr => ?_
  have hrel := hJ.rel _ _ _ hr
  have e := hrun w₁
  rw [Sem.runT_eq] at e
  obtain ⟨e1, e2⟩ := Prod.mk.inj e
  refine ⟨_, w₁, #[], by rw [stepG_enter ho hw' hk e1, listed, e2, seen_empty], .idle k w₁, ?_⟩
  rw [grow_self]
  have hmir := h3.rely hrel
  refine h _ base ρ k w₁ _ hmir (h4.eval.all hargs) fun v v' L1 ρ1 k1 W1 q1 q2 q3 q4 q5 => ?_
  have hfin : (b'.at a' (.inRegion ops (i :: rest) :: K')).finish v' = b'.at (a'.put o.dst v') (.inRegion ops rest :: K') := by rw [Frame.finish_at, ho]; rfl
  rw [hfin]
  exact q1 b' K' base ρ1 k1 W1 _ h1 h2 q4 ((h4.sub q2).put _ q5) (h5.at q2 fun e => ((Up.refl k W.heap.size).wide hrel.size).trans (q3 e))
end
end Go.Proofs.Yticdjkkcfdbdcaa
