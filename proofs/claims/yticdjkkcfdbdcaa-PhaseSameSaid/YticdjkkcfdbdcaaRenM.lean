/- Frames alike in two worlds, and their steps. No program; no conditions but those named. -/
import Derived.Test.YticdjkkcfdbdcaaRenZ
import Derived.Test.YticdjkkcfdbdcaaQuiet
import Derived.Test.YticdjkkcfdbdcaaWgM
namespace Go.Proofs.Yticdjkkcfdbdcaa
open Go.Conc
section
variable (S : FnSet) (P : Program)
/-- Code of which each operation is one of those shown alike. -/
def okCode : Code → Prop
  | .skip | .exit _ | .label _ | .ret => True
  | .region _ ops _ => ∀ (i : Nat) o, ops[i]? = some o → okOp S P o.op
  | .seq a b => okCode a ∧ okCode b
  | .cond c a b => okX S c ∧ okCode a ∧ okCode b
  | .block _ a | .loop a | .scope a => okCode a
  | .rangeFunc _ _ _ _ | .goto _ | .refuse _ => False
def okItem : Item → Prop
  | .code c => okCode S P c
  | .inBlock _ => True
  | .inScope c | .inLoop c => okCode S P c
  | .inRegion ops _ => ∀ (i : Nat) o, ops[i]? = some o → okOp S P o.op
  | _ => False
/-- The functions that may run: their text is fine, their results lie in temporaries. -/
structure OkFns : Prop where
  body : ∀ f, S.call f → ∃ fn c, P.funcs[f]? = some fn ∧ (fn.name == "runtime.NumGoroutine") = false ∧ fn.body = some c ∧ okCode S P c ∧ ∀ (i : Nat) r, fn.results[i]? = some r → ∃ t, r = .tmp t
end
/-- A function whose results lie in temporaries. -/
def ResFn (P : Program) (f : FuncId) : Prop := ∃ fn, P.funcs[f]? = some fn ∧ ∀ (i : Nat) r, fn.results[i]? = some r → ∃ t, r = .tmp t
theorem OkFns.res {S : FnSet} {P : Program} (h : OkFns S P) {f : FuncId} (hf : S.call f) : ResFn P f := by
  obtain ⟨fn, c, h1, _, _, _, h5⟩ := h.body f hf
  exact ⟨fn, h1, h5⟩
theorem OkFns.bodies {S : FnSet} {P : Program} (h : OkFns S P) : Bodies S P := fun f hf => by
  obtain ⟨fn, c, h1, h2, h3, _⟩ := h.body f hf
  exact ⟨fn, h1, h2, by simp [h3]⟩
/-- Two frames that are alike. -/
structure FR (S : FnSet) (P : Program) (ρ : Ren) (f f' : Frame) : Prop where
  fn : f'.fn = f.fn
  inS : ResFn P f.fn
  todo : f'.todo = f.todo
  ok : ∀ x ∈ f.todo, okItem S P x
  tmps : VRs S ρ f.tmps f'.tmps
  defers : f.defers = [] ∧ f'.defers = []
  kind : f.kind = .normal ∧ f'.kind = .normal
  round : f.roundOf = none ∧ f'.roundOf = none
  mode : (f.mode = .run ∧ f'.mode = .run) ∨ (f.mode = .returning ∧ f'.mode = .returning)
theorem FR.mono {S : FnSet} {P : Program} {ρ ρ' : Ren} {f f' : Frame} (h : FR S P ρ f f') (hr : ρ.le ρ') : FR S P ρ' f f' := { h with tmps := h.tmps.mono hr }
theorem FR.eval {S : FnSet} {P : Program} {ρ : Ren} {f f' : Frame} (h : FR S P ρ f f') : EvR S ρ f.eval f'.eval := by
  refine ⟨fun x hx => ?_, fun v => rfl, fun g => rfl⟩
  cases x with
  | tmp t => exact h.tmps.getD t VR.undef
  | const v => exact Bare.rel hx
  | func g => exact .func hx rfl (fun i v v' h => by simp at h) rfl (fun i v v' h => by simp at h)
  | global g => exact hx.elim
theorem exitTo_mem {id : Nat} : ∀ {k k' : List Item}, exitTo id k = some k' → ∀ x ∈ k', x ∈ k
  | [], _, h => by cases h
  | y :: k, k', h => by
    intro x hx
    cases y <;> simp only [exitTo] at h
    case inBlock id' =>
      split at h
      · cases h; exact List.mem_cons_of_mem _ hx
      · exact List.mem_cons_of_mem _ (exitTo_mem h x hx)
    all_goals exact List.mem_cons_of_mem _ (exitTo_mem h x hx)
/-- A frame goes on with a value. -/
theorem FR.finish {S : FnSet} {P : Program} {ρ : Ren} {f f' : Frame} (h : FR S P ρ f f') {v v' : Value} (hv : VR S ρ v v') : FR S P ρ (f.finish v) (f'.finish v') := by
  obtain ⟨h1, h0, h2, h3, h4, h5, h6, h7, h8⟩ := h
  obtain ⟨fn, tmps, todo, defers, mode, kind, round⟩ := f
  obtain ⟨fn', tmps', todo', defers', mode', kind', round'⟩ := f'
  simp only at h1 h2 h4 h5 h6 h7 h8
  subst h1 h2
  have same : FR S P ρ ⟨fn', tmps, todo', defers, mode, kind, round⟩ ⟨fn', tmps', todo', defers', mode', kind', round'⟩ := ⟨rfl, h0, rfl, h3, h4, h5, h6, h7, h8⟩
  cases todo' with
  | nil => exact same
  | cons it k =>
    cases it with
    | inRegion ops l =>
      cases l with
      | nil => exact same
      | cons i rest =>
        refine ⟨rfl, h0, rfl, fun x hx => ?_, ?_, h5, h6, h7, h8⟩
        · rcases List.mem_cons.1 hx with rfl | hx
          · exact h3 (.inRegion ops (i :: rest)) (by simp)
          · exact h3 x (by simp [hx])
        · simp only [Frame.finish]
          split
          · rename_i d hd; exact h4.set d hv
          · exact h4
    | code c => exact same
    | inBlock b => exact same
    | inLoop b => exact same
    | inScope b => exact same
    | _ => exact absurd (h3 _ (List.mem_cons_self ..)) (fun h => h)
end Go.Proofs.Yticdjkkcfdbdcaa

/- The steps of two frames that are alike. No program; no conditions but those named. -/
namespace Go.Proofs.Yticdjkkcfdbdcaa
open Go.Conc
section
variable {S : FnSet} {P : Program} {ρ : Ren}
/-- A frame behind whose text more stands. -/
def ext (K : List Item) (f : Frame) : Frame := { f with todo := f.todo ++ K }
theorem ext_nil (f : Frame) : ext [] f = f := by simp [ext]
theorem exitTo_app {id : Nat} : ∀ {k k' : List Item} (K : List Item), exitTo id k = some k' → exitTo id (k ++ K) = some (k' ++ K)
  | [], _, _, h => by cases h
  | y :: k, k', K, h => by
    cases y <;> simp only [exitTo, List.cons_append] at h ⊢
    case inBlock id' =>
      split at h
      · rename_i e; rw [if_pos e]; cases h; rfl
      · rename_i e; rw [if_neg e]; exact exitTo_app K h
    all_goals exact exitTo_app K h
theorem exitTo_none {id : Nat} : ∀ {k K : List Item}, exitTo id k = none → exitTo id K = none → exitTo id (k ++ K) = none
  | [], _, _, h => h
  | y :: k, K, h, hK => by
    cases y <;> simp only [exitTo, List.cons_append] at h ⊢
    case inBlock id' =>
      split at h
      · cases h
      · rename_i e; rw [if_neg e]; exact exitTo_none h hK
    all_goals exact exitTo_none h hK
/-- Steps of control: the same in whatever world; or the lone one's run is lost. -/
theorem step_ctl {f f' : Frame} (h : FR S P ρ f f') (hm : f.mode = .run) (hne : ∀ ops i rest k, f.todo ≠ .inRegion ops (i :: rest) :: k) (hnd : ∀ id ops k, f.todo ≠ .code (.region id ops true) :: k) (main main' : Bool) (cs cs' : List Frame)
    (K K' : List Item) (hK : ∀ id, exitTo id K = none) (hn : f.todo = [] → K = [] ∧ K' = []) :
    (∀ L, ∃ o, stepG P main (G (ext K f) cs) L = .ended o L #[]) ∨ ∃ f1 f1', FR S P ρ f1 f1' ∧ (∀ L, stepG P main (G (ext K f) cs) L = .go (G (ext K f1) cs) L #[]) ∧ ∀ W, stepG P main' (G (ext K' f') cs') W = .go (G (ext K' f1') cs') W #[] := by
  have he := h.eval.1
  obtain ⟨h1, h0, h2, h3, h4, h5, h6, h7, h8⟩ := h
  obtain ⟨fn, tmps, todo, defers, mode, kind, round⟩ := f
  obtain ⟨fn', tmps', todo', defers', mode', kind', round'⟩ := f'
  simp only at h1 h2 h4 h5 h6 h7 h8 hm hne hnd
  subst h1 h2 hm
  obtain ⟨rfl, rfl⟩ := h7
  have hm' : mode' = .run := by rcases h8 with h | h <;> simp_all
  subst hm'
  have to : ∀ t, (∀ x ∈ t, okItem S P x) → FR S P ρ ⟨fn', tmps, t, defers, .run, kind, none⟩ ⟨fn', tmps', t, defers', .run, kind', none⟩ := fun t ht => ⟨rfl, h0, rfl, ht, h4, h5, h6, ⟨rfl, rfl⟩, .inl ⟨rfl, rfl⟩⟩
  have rt : ∀ t, (∀ x ∈ t, okItem S P x) → FR S P ρ ⟨fn', tmps, t, defers, .returning, kind, none⟩ ⟨fn', tmps', t, defers', .returning, kind', none⟩ := fun t ht => ⟨rfl, h0, rfl, ht, h4, h5, h6, ⟨rfl, rfl⟩, .inr ⟨rfl, rfl⟩⟩
  cases todo' with
  | nil =>
    obtain ⟨rfl, rfl⟩ := hn rfl
    exact .inr ⟨_, _, rt [] h3, fun L => rfl, fun W => rfl⟩
  | cons it k =>
    have hk : ∀ x ∈ k, okItem S P x := fun x hx => h3 x (List.mem_cons_of_mem _ hx)
    have hi := h3 it (List.mem_cons_self ..)
    have app : ∀ l : List Item, (∀ x ∈ l, okItem S P x) → ∀ x ∈ l ++ k, okItem S P x := fun l hl x hx => (List.mem_append.1 hx).elim (hl x) (hk x)
    cases it with
    | inBlock id => exact .inr ⟨_, _, to k hk, fun L => rfl, fun W => rfl⟩
    | inScope c => exact .inr ⟨_, _, to k hk, fun L => rfl, fun W => rfl⟩
    | inLoop c => exact .inr ⟨_, _, to _ (app [.code c, .inLoop c] (by simp; exact ⟨hi, hi⟩)), fun L => rfl, fun W => rfl⟩
    | inRegion ops l =>
      cases l with
      | nil => exact .inr ⟨_, _, to k hk, fun L => rfl, fun W => rfl⟩
      | cons i rest => exact absurd rfl (hne _ _ _ _)
    | code c =>
      cases c with
      | skip => exact .inr ⟨_, _, to k hk, fun L => rfl, fun W => rfl⟩
      | label l => exact .inr ⟨_, _, to k hk, fun L => rfl, fun W => rfl⟩
      | ret => exact .inr ⟨_, _, rt _ h3, fun L => rfl, fun W => rfl⟩
      | seq a b => exact .inr ⟨_, _, to _ (app [.code a, .code b] (by simp; exact hi)), fun L => rfl, fun W => rfl⟩
      | block id a => exact .inr ⟨_, _, to _ (app [.code a, .inBlock id] (by simp; exact ⟨hi, trivial⟩)), fun L => rfl, fun W => rfl⟩
      | loop a => exact .inr ⟨_, _, to _ (app [.code a, .inLoop a] (by simp; exact ⟨hi, hi⟩)), fun L => rfl, fun W => rfl⟩
      | scope a => exact .inr ⟨_, _, to _ (app [.code a, .inScope a] (by simp; exact ⟨hi, hi⟩)), fun L => rfl, fun W => rfl⟩
      | region id ops d =>
        cases d with
        | true => exact absurd rfl (hnd _ _ _)
        | false => exact .inr ⟨_, _, to _ (app [.inRegion ops (List.range ops.size)] (by simp; exact hi)), fun L => rfl, fun W => rfl⟩
      | cond c a b =>
        have hv := he c hi.1
        have e1 : Frame.eval (ext K ⟨fn', tmps, .code (.cond c a b) :: k, defers, .run, kind, none⟩) c = Frame.eval ⟨fn', tmps, .code (.cond c a b) :: k, defers, .run, kind, none⟩ c := rfl
        have e2 : Frame.eval (ext K' ⟨fn', tmps', .code (.cond c a b) :: k, defers', .run, kind', none⟩) c = Frame.eval ⟨fn', tmps', .code (.cond c a b) :: k, defers', .run, kind', none⟩ c := rfl
        generalize hx : Frame.eval ⟨fn', tmps, .code (.cond c a b) :: k, defers, .run, kind, none⟩ c = v at hv e1
        generalize hx' : Frame.eval ⟨fn', tmps', .code (.cond c a b) :: k, defers', .run, kind', none⟩ c = v' at hv e2
        by_cases hb : ∃ b, v = .bool b
        · obtain ⟨t, rfl⟩ := hb
          cases hv
          refine .inr ⟨_, _, to _ (app [.code (if t then a else b)] (by simp; cases t; exact hi.2.2; exact hi.2.1)), fun L => ?_, fun W => ?_⟩
          · simp only [ext, List.cons_append] at e1
            simp only [G, ext, List.cons_append, stepG, stepG.exec, e1]; rfl
          · simp only [ext, List.cons_append] at e2
            simp only [G, ext, List.cons_append, stepG, stepG.exec, e2]; rfl
        · refine .inl fun L => ⟨.stuck "cond: bool expected" (Frame.pos P (ext K ⟨fn', tmps, .code (.cond c a b) :: k, defers, .run, kind, none⟩)), ?_⟩
          simp only [ext, List.cons_append] at e1
          simp only [G, ext, List.cons_append, stepG, stepG.exec, e1]
          cases v <;> first | rfl | exact absurd ⟨_, rfl⟩ hb
      | exit id =>
        cases hx : exitTo id k with
        | none => exact .inl fun L => ⟨.stuck "exit, goto: no such block or label" (Frame.pos P (ext K ⟨fn', tmps, .code (.exit id) :: k, defers, .run, kind, none⟩)), by simp only [G, ext, List.cons_append, stepG, stepG.exec, exitTo_none hx (hK id), Option.elim_none]; rfl⟩
        | some k' => exact .inr ⟨_, _, to k' (fun x hxm => hk x (exitTo_mem hx x hxm)), fun L => by simp only [G, ext, List.cons_append, stepG, stepG.exec, exitTo_app K hx, Option.elim_some], fun W => by simp only [G, ext, List.cons_append, stepG, stepG.exec, exitTo_app K' hx, Option.elim_some]⟩
      | _ => exact absurd hi (fun h => h)
    | _ => exact absurd hi (fun h => h)
end
end Go.Proofs.Yticdjkkcfdbdcaa

/- The steps of two frames that are alike, on: operations. No program; no conditions but those named. -/
namespace Go.Proofs.Yticdjkkcfdbdcaa
open Go.Conc
section
variable {S : FnSet} {P : Program} {ρ : Ren}
theorem yielded_same {x x' : Array Value} (h : VRs S ρ x x') (ops : Array Oper) : yielded ops x = yielded ops x' := by
  funext j
  unfold yielded
  cases hd : (ops[j]?).bind (·.dst) with
  | none => rfl
  | some d =>
    simp only [Option.bind_some]
    cases hx : x[d]? with
    | none => rw [h.none hx]
    | some v =>
      obtain ⟨v', h1, h2⟩ := h.get hx
      rw [h1]
      cases h2 <;> rfl
theorem seen_sub {fn : FuncId} {es : Array Event} : ∀ e ∈ seen P fn es, e ∈ es ∧ ∀ f, e.loc ≠ .mark (.extern f) := by
  obtain ⟨l⟩ := es
  intro e he
  unfold seen at he
  simp only [← Array.foldl_toList] at he
  suffices h : ∀ (p : Bool × Array Event), e ∈ (List.foldl _ p l).2 → e ∈ p.2 ∨ (e ∈ l ∧ ∀ f, e.loc ≠ .mark (.extern f)) by
    rcases h _ he with h | ⟨h, h'⟩
    · simp at h
    · exact ⟨by simpa using h, h'⟩
  clear he
  induction l with
  | nil => exact fun p he => .inl he
  | cons a l ih =>
    intro p he
    simp only [List.foldl_cons] at he
    rcases ih _ he with h | ⟨h, h'⟩
    · split at h
      · exact .inl h
      · rename_i hne
        simp only at h
        split at h
        · exact .inl h
        · rcases Array.mem_push.1 h with h | rfl
          · exact .inl h
          · exact .inr ⟨List.mem_cons_self .., fun f hf => hne f hf⟩
    · exact .inr ⟨List.mem_cons_of_mem _ h, h'⟩
theorem OwnX.seen {k : LK} {w w' : World} {es : Array Event} (h : OwnX k w w' es) (fn : FuncId) : Own k w w' (seen P fn es) :=
  ⟨h.chg, fun e he => by
    obtain ⟨h1, h2⟩ := seen_sub e he
    exact (h.evs e h1).elim id fun ⟨f, hf⟩ => absurd hf (h2 f)⟩
/-- The lone one's run is lost: it ends here, or it panics. -/
def Lost (P : Program) (g : Goroutine) (L : World) : Prop := (∃ o L' es, stepG P true g L = .ended o L' es) ∨ ∃ v L' es, stepG P true g L = .go (G (g.frame.raise [{ v, recovered := false }]) g.callers) L' es
/-- A frame enters a function. -/
theorem FR.enter (hO : OkFns S P) {f : FuncId} (hf : S.call f) {x x' : Array Value} (h : VRs S ρ x x') : FR S P ρ (Frame.enter P f x .normal) (Frame.enter P f x' .normal) := by
  obtain ⟨fn, c, h1, h2, h3, h4, h5⟩ := hO.body f hf
  refine ⟨rfl, hO.res hf, rfl, fun y hy => ?_, ?_, ⟨rfl, rfl⟩, ⟨rfl, rfl⟩, ⟨rfl, rfl⟩, .inl ⟨rfl, rfl⟩⟩
  · simp only [Frame.enter, h1, Option.bind_some, h3, Option.getD_some, List.mem_singleton] at hy
    subst hy
    exact h4
  · simp only [Frame.enter, ← h.1]
    exact h.append (VRs.same VR.undef)
/-- How often the step of a frame draws. -/
def curDraws (P : Program) (f : Frame) (W : World) : Nat :=
  match f.mode, f.todo with
  | .run, .inRegion ops (i :: _) :: _ => match ops[i]? with
    | some o => if Region.wanted o (yielded ops f.tmps) then ((execOp f.eval o).runT P W #[]).1.world.drawn - W.drawn else 0
    | none => 0
  | .run, .code (.region _ _ true) :: _ => 1
  | _, _ => 0
/-- What a step of both has made. -/
def Went (S : FnSet) (P : Program) (ρ : Ren) (kk : LK) (L W : World) (main : Bool) (K K' : List Item) (f f' : Frame) (cs cs' : List Frame) : Prop :=
  ∃ ρ' L' W' es l f1 f1', ρ.le ρ' ∧ WR S ρ' (kk.grow W.heap.size W'.heap.size) L' W' ∧ Own kk W W' l ∧ L'.tape = L.tape ∧ (L'.drawn = L.drawn + curDraws P f' W ∧ W'.drawn = W.drawn + curDraws P f' W) ∧ FR S P ρ' f1 f1' ∧
    ((stepG P true (G (ext K f) cs) L = .go (G (ext K f1) cs) L' es ∧ stepG P main (G (ext K' f') cs') W = .go (G (ext K' f1') cs') W' l) ∨
     ((∃ ops i rest k, f.todo = .inRegion ops (i :: rest) :: k) ∧ stepG P true (G (ext K f) cs) L = .go (G f1 (ext K f :: cs)) L' es ∧ stepG P main (G (ext K' f') cs') W = .go (G f1' (ext K' f' :: cs')) W' l))
theorem ext_finish {K : List Item} {f : Frame} {ops : Array Oper} {i : Nat} {rest : List Nat} {k : List Item} (ht : f.todo = .inRegion ops (i :: rest) :: k) (v : Value) : (ext K f).finish v = ext K (f.finish v) := by
  obtain ⟨fn, tmps, todo, defers, mode, kind, round⟩ := f
  simp only at ht
  subst ht
  simp [ext, Frame.finish]
theorem ext_eval (K : List Item) (f : Frame) : (ext K f).eval = f.eval := rfl
theorem step_oper (hO : OkFns S P) (hp : PR P ρ) {f f' : Frame} (h : FR S P ρ f f') (hm : f.mode = .run) {ops : Array Oper} {i : Nat} {rest : List Nat} {k : List Item} (ht : f.todo = .inRegion ops (i :: rest) :: k) {o : Oper} (ho : ops[i]? = some o) (hwt : Region.wanted o (yielded ops f.tmps) = true)
    {kk : LK} {L W : World} (hw : WR S ρ kk L W) (hag : ∀ j, j < ((execOp f'.eval o).runT P W #[]).1.world.drawn - W.drawn → ∀ q, L.tape (L.drawn + j) q = W.tape (W.drawn + j) q) (main : Bool) (K K' : List Item) (cs cs' : List Frame) :
    Lost P (G (ext K f) cs) L ∨ Went S P ρ kk L W main K K' f f' cs cs' := by
  have hok : okOp S P o.op := by
    have h1 : okItem S P (.inRegion ops (i :: rest)) := h.ok _ (by rw [ht]; exact List.mem_cons_self ..)
    exact h1 i o ho
  have hwt' : Region.wanted o (yielded ops f'.tmps) = true := by rw [← yielded_same h.tmps]; exact hwt
  have ht' : f'.todo = .inRegion ops (i :: rest) :: k := h.todo.trans ht
  have hm' : f'.mode = .run := by rcases h.mode with x | x; exact x.2; rw [hm] at x; cases x.1
  have htK : (ext K f).todo = .inRegion ops (i :: rest) :: (k ++ K) := by simp [ext, ht]
  have htK' : (ext K' f').todo = .inRegion ops (i :: rest) :: (k ++ K') := by simp [ext, ht']
  have hopL : (ext K f).oper? = some o := by simp [Frame.oper?, htK, ho]
  have hopW : (ext K' f').oper? = some o := by simp [Frame.oper?, htK', ho]
  have hmK : (ext K f).mode = .run := hm
  have hmK' : (ext K' f').mode = .run := hm'
  have hrK : (ext K f).roundOf = none := h.round.1
  have hrK' : (ext K' f').roundOf = none := h.round.2
  have sL : stepG P true (G (ext K f) cs) L = stepG.apply P true (ext K f) cs none (execOp f.eval o) L := by
    have hwt1 : Region.wanted o (yielded ops (ext K f).tmps) = true := hwt
    simp [G, stepG, hmK, stepG.exec, htK, ho, hwt1, stepG.oper, hopL, hrK, ext_eval]
  have sW : stepG P main (G (ext K' f') cs') W = stepG.apply P true (ext K' f') cs' none (execOp f'.eval o) W := by
    have hwt1 : Region.wanted o (yielded ops (ext K' f').tmps) = true := hwt'
    simp [G, stepG, hmK', stepG.exec, htK', ho, hwt1, stepG.oper, hopW, hrK', ext_eval]
  have hk : ((ext K f).kind == CallKind.early) = false := by show (f.kind == _) = _; rw [h.kind.1]; rfl
  have hk' : ((ext K' f').kind == CallKind.early) = false := by show (f'.kind == _) = _; rw [h.kind.2]; rfl
  rcases (sr_exec hO.bodies hp h.eval (fun v => rfl) o hok).run kk L W #[] #[] hw hag with ⟨x, L', es1, h1, h2⟩ | ⟨a, L', es1, b, W', l, ρ', h1, h2, h3, h4, h5, h6, h7, h8⟩
  · left
    cases x with
    | panic v => exact .inr ⟨v, L', _, by rw [sL]; simp only [stepG.apply, if_true, h1, htK, hk]; rfl⟩
    | stuck s => exact .inl ⟨_, L', _, by rw [sL]; simp only [stepG.apply, if_true, h1, htK, hk]; rfl⟩
    | unsupported u =>
      cases u with
      | initOrder g => exact h2.elim
      | _ => exact .inl ⟨_, L', _, by rw [sL]; simp only [stepG.apply, if_true, h1, htK, hk]; rfl⟩
    | _ => exact h2.elim
  · right
    have hl : (#[] : Array Event) ++ l = l := Array.empty_append
    rw [hl] at h2
    have h' := h.mono h3
    have ho' : Own kk W W' (seen P f'.fn l) := h6.seen f'.fn
    have hcd : curDraws P f' W = W'.drawn - W.drawn := by
      simp only [curDraws, hm', ht', ho, hwt', if_true, h2]; rfl
    replace h8 : L'.drawn = L.drawn + curDraws P f' W ∧ W'.drawn = W.drawn + curDraws P f' W := by
      obtain ⟨c, c1, c2⟩ := h8
      rw [hcd]; omega
    cases h4 with
    | value hv =>
      refine ⟨ρ', L', W', seen P f.fn es1, seen P f'.fn l, _, _, h3, h5, ho', h7, h8, h'.finish hv, .inl ⟨?_, ?_⟩⟩
      · rw [sL, ← ext_finish ht]; simp only [stepG.apply, if_true, h1, htK, hk]; rfl
      · rw [sW, ← ext_finish ht']; simp only [stepG.apply, if_true, h2, htK', hk']; rfl
    | skip =>
      refine ⟨ρ', L', W', seen P f.fn es1, seen P f'.fn l, _, _, h3, h5, ho', h7, h8, h'.finish VR.undef, .inl ⟨?_, ?_⟩⟩
      · rw [sL, ← ext_finish ht]; simp only [stepG.apply, if_true, h1, htK, hk]; rfl
      · rw [sW, ← ext_finish ht']; simp only [stepG.apply, if_true, h2, htK', hk']; rfl
    | enter hs hx =>
      refine ⟨ρ', L', W', seen P f.fn es1, seen P f'.fn l, _, _, h3, h5, ho', h7, h8, FR.enter hO hs hx, .inr ⟨⟨ops, i, rest, k, ht⟩, ?_, ?_⟩⟩
      · rw [sL]; simp only [stepG.apply, if_true, h1, htK, hk]; rfl
      · rw [sW]; simp only [stepG.apply, if_true, h2, htK', hk']; rfl
end
end Go.Proofs.Yticdjkkcfdbdcaa

/- The steps of two frames that are alike, on: a drawn order, a return. No program; no conditions but those named. -/
namespace Go.Proofs.Yticdjkkcfdbdcaa
open Go.Conc
section
variable {S : FnSet} {P : Program} {ρ : Ren}
theorem step_unwanted {f f' : Frame} (h : FR S P ρ f f') (hm : f.mode = .run) {ops : Array Oper} {i : Nat} {rest : List Nat} {k : List Item} (ht : f.todo = .inRegion ops (i :: rest) :: k) (hwt : ((ops[i]?).map (Region.wanted · (yielded ops f.tmps))).getD false = false) (main main' : Bool) (K K' : List Item) (cs cs' : List Frame) :
    ∃ f1 f1', FR S P ρ f1 f1' ∧ (∀ L, stepG P main (G (ext K f) cs) L = .go (G (ext K f1) cs) L #[]) ∧ ∀ W, stepG P main' (G (ext K' f') cs') W = .go (G (ext K' f1') cs') W #[] := by
  have hwt' : ((ops[i]?).map (Region.wanted · (yielded ops f'.tmps))).getD false = false := by rw [← yielded_same h.tmps]; exact hwt
  have ht' : f'.todo = .inRegion ops (i :: rest) :: k := h.todo.trans ht
  have hm' : f'.mode = .run := by rcases h.mode with x | x; exact x.2; rw [hm] at x; cases x.1
  have htK : (ext K f).todo = .inRegion ops (i :: rest) :: (k ++ K) := by simp [ext, ht]
  have htK' : (ext K' f').todo = .inRegion ops (i :: rest) :: (k ++ K') := by simp [ext, ht']
  have hmK : (ext K f).mode = .run := hm
  have hmK' : (ext K' f').mode = .run := hm'
  have w1 : ((ops[i]?).map (Region.wanted · (yielded ops (ext K f).tmps))).getD false = false := hwt
  have w2 : ((ops[i]?).map (Region.wanted · (yielded ops (ext K' f').tmps))).getD false = false := hwt'
  refine ⟨_, _, h.finish VR.undef, fun L => ?_, fun W => ?_⟩
  · rw [← ext_finish ht]; simp only [G, stepG, hmK, stepG.exec, htK, w1]; rfl
  · rw [← ext_finish ht']; simp only [G, stepG, hmK', stepG.exec, htK', w2]; rfl
theorem step_draw {f f' : Frame} (h : FR S P ρ f f') (hm : f.mode = .run) {id : Nat} {ops : Array Oper} {k : List Item} (ht : f.todo = .code (.region id ops true) :: k)
    {kk : LK} {L W : World} (hw : WR S ρ kk L W) (hag : ∀ q, L.tape L.drawn q = W.tape W.drawn q) (main : Bool) (K K' : List Item) (cs cs' : List Frame) : Went S P ρ kk L W main K K' f f' cs cs' := by
  have ht' : f'.todo = .code (.region id ops true) :: k := h.todo.trans ht
  have hm' : f'.mode = .run := by rcases h.mode with x | x; exact x.2; rw [hm] at x; cases x.1
  have hi : okItem S P (.code (.region id ops true)) := h.ok _ (by rw [ht]; exact List.mem_cons_self ..)
  have hf : (Question.order f.fn id).forced = false := rfl
  have htK : (ext K f).todo = .code (.region id ops true) :: (k ++ K) := by simp [ext, ht]
  have htK' : (ext K' f').todo = .code (.region id ops true) :: (k ++ K') := by simp [ext, ht']
  have hmK : (ext K f).mode = .run := hm
  have hmK' : (ext K' f').mode = .run := hm'
  have hfn : (ext K f).fn = f.fn := rfl
  have hfn' : (ext K' f').fn = f.fn := h.fn
  have to : ∀ l, FR S P ρ { f with todo := .inRegion ops l :: k } { f' with todo := .inRegion ops l :: k } := fun l => ⟨h.fn, h.inS, rfl, fun x hx => by
    rcases List.mem_cons.1 hx with rfl | hx
    · exact hi
    · exact h.ok x (by rw [ht]; exact List.mem_cons_of_mem _ hx), h.tmps, h.defers, h.kind, h.round, h.mode⟩
  refine ⟨ρ, { L with drawn := L.drawn + 1 }, { W with drawn := W.drawn + 1 }, #[], #[], _, _, .refl _, by rw [grow_self]; exact hw.heaps rfl rfl, ⟨.at kk W _, fun e he => by simp at he⟩, rfl, by simp [curDraws, hm', ht'], to (Region.schedule (P.follows .mixedOrders) ops ((Question.order f.fn id).cut (L.tape L.drawn (.order f.fn id)))), .inl ⟨?_, ?_⟩⟩
  · simp only [G, stepG, hmK, stepG.exec, htK, Bool.not_true, Bool.false_eq_true, if_false, choose, Sem.run, hfn, hf]; simp [ext, hm]
  · simp only [G, stepG, hmK', stepG.exec, htK', Bool.not_true, Bool.false_eq_true, if_false, choose, Sem.run, hfn', hf, hag]; simp [ext, hm', h.fn]
theorem mapM_pure_loop {α β : Type} {f : α → Sem β} {g : α → β} : ∀ (l : List α) (acc : List β), (∀ a ∈ l, f a = pure (g a)) → List.mapM.loop f l acc = pure (acc.reverse ++ l.map g)
  | [], acc, _ => by simp [List.mapM.loop]
  | a :: l, acc, h => by
    have := mapM_pure_loop l (g a :: acc) fun x hx => h x (List.mem_cons_of_mem _ hx)
    show Sem.bind (f a) _ = _
    rw [h a (List.mem_cons_self ..)]
    refine this.trans ?_
    simp
def pack (x : Array Value) : Value := if h : x.size = 1 then x[0] else .tuple x
def resVals (fn : Func) (tmps : Array Value) : Array Value := fn.results.map fun r => match r with | .tmp t => tmps.getD t undef | .cell _ _ => undef
theorem results_tmps {fn : Func} (h : ∀ (i : Nat) r, fn.results[i]? = some r → ∃ t, r = .tmp t) (tmps : Array Value) : results fn tmps = .pure (pack (resVals fn tmps)) := by
  unfold results
  rw [Array.mapM_eq_mapM_toList]
  show Sem.bind (Sem.bind (List.mapM.loop _ fn.results.toList []) _) _ = _
  rw [mapM_pure_loop (g := fun r => match r with | .tmp t => tmps.getD t undef | .cell _ _ => undef) fn.results.toList []]
  · simp only [List.reverse_nil, List.nil_append]
    rw [← Array.toList_map]
    rfl
  · intro r hr
    obtain ⟨i, hi⟩ := List.mem_iff_getElem?.1 hr
    obtain ⟨t, rfl⟩ := h i r (by simpa using hi)
    rfl
theorem VRs.pack {x x' : Array Value} (h : VRs S ρ x x') : VR S ρ (pack x) (pack x') := by
  unfold Go.Proofs.Yticdjkkcfdbdcaa.pack
  by_cases hx : x.size = 1
  · rw [dif_pos hx, dif_pos (h.1 ▸ hx)]
    exact h.2 0 _ _ (Array.getElem?_eq_getElem (by omega)) (Array.getElem?_eq_getElem (by have := h.1; omega))
  · rw [dif_neg hx, dif_neg (h.1 ▸ hx)]
    exact .tuple h.1 h.2
theorem step_ret {f f' : Frame} (h : FR S P ρ f f') (hm : f.mode = .returning) (K K' : List Item) : ∃ v v', VR S ρ v v' ∧ (∀ main c cs L, stepG P main (G (ext K f) (c :: cs)) L = .go (G (c.finish v) cs) L #[]) ∧ (∀ main c cs W, stepG P main (G (ext K' f') (c :: cs)) W = .go (G (c.finish v') cs) W #[]) ∧ ∃ fn, P.funcs[f.fn]? = some fn ∧ results fn f.tmps = .pure v := by
  obtain ⟨fn, h1, h5⟩ := h.inS
  have hm' : f'.mode = .returning := by rcases h.mode with x | x; rw [hm] at x; cases x.1; exact x.2
  have r1 := results_tmps h5 f.tmps
  have r2 := results_tmps h5 f'.tmps
  have hv : VRs S ρ (resVals fn f.tmps) (resVals fn f'.tmps) := VRs.map _ fun r _ => by
    cases r with
    | tmp t => exact h.tmps.getD t VR.undef
    | cell a t => exact VR.undef
  refine ⟨_, _, hv.pack, fun main c cs L => ?_, fun main c cs W => ?_, fn, h1, r1⟩
  · have e1 : (ext K f).mode = .returning := hm
    have e2 : (ext K f).defers = [] := h.defers.1
    have e3 : P.funcs[(ext K f).fn]? = some fn := h1
    have e4 : (ext K f).kind = .normal := h.kind.1
    have e5 : results fn (ext K f).tmps = _ := r1
    simp only [G, stepG, e1, unwind, e2, e3, e5, Sem.runT, GStep.after, seen_empty, doReturn, e4, Array.append_empty]
  · have e1 : (ext K' f').mode = .returning := hm'
    have e2 : (ext K' f').defers = [] := h.defers.2
    have e3 : P.funcs[(ext K' f').fn]? = some fn := by show P.funcs[f'.fn]? = _; rw [h.fn]; exact h1
    have e4 : (ext K' f').kind = .normal := h.kind.2
    have e5 : results fn (ext K' f').tmps = _ := r2
    simp only [G, stepG, e1, unwind, e2, e3, e5, Sem.runT, GStep.after, seen_empty, doReturn, e4, Array.append_empty]
end
end Go.Proofs.Yticdjkkcfdbdcaa

/- One step of two frames that are alike, whatever it is. No program; no conditions but those named. -/
namespace Go.Proofs.Yticdjkkcfdbdcaa
open Go.Conc
section
variable {S : FnSet} {P : Program} {ρ : Ren}
theorem went_still {kk : LK} {L W : World} (hw : WR S ρ kk L W) {main : Bool} {K K' : List Item} {f f' f1 f1' : Frame} (hc0 : curDraws P f' W = 0) {cs cs' : List Frame} (h : FR S P ρ f1 f1') (hL : stepG P true (G (ext K f) cs) L = .go (G (ext K f1) cs) L #[]) (hW : stepG P main (G (ext K' f') cs') W = .go (G (ext K' f1') cs') W #[]) : Went S P ρ kk L W main K K' f f' cs cs' :=
  ⟨ρ, L, W, #[], #[], f1, f1', .refl _, by rw [grow_self]; exact hw, .idle kk W, rfl, by rw [hc0]; exact ⟨rfl, rfl⟩, h, .inl ⟨hL, hW⟩⟩
theorem step_run (hO : OkFns S P) (hp : PR P ρ) {f f' : Frame} (h : FR S P ρ f f') (hm : f.mode = .run) {kk : LK} {L W : World} (hw : WR S ρ kk L W) (hag : ∀ j, j < curDraws P f' W → ∀ q, L.tape (L.drawn + j) q = W.tape (W.drawn + j) q) (main : Bool) (K K' : List Item) (hK : ∀ id, exitTo id K = none) (hn : f.todo = [] → K = [] ∧ K' = []) (cs cs' : List Frame) :
    Lost P (G (ext K f) cs) L ∨ Went S P ρ kk L W main K K' f f' cs cs' := by
  have hm' : f'.mode = .run := by rcases h.mode with x | x; exact x.2; rw [hm] at x; cases x.1
  by_cases h1 : ∃ ops i rest k, f.todo = .inRegion ops (i :: rest) :: k
  · obtain ⟨ops, i, rest, k, ht⟩ := h1
    have ht' : f'.todo = .inRegion ops (i :: rest) :: k := h.todo.trans ht
    cases hw0 : ((ops[i]?).map (Region.wanted · (yielded ops f.tmps))).getD false with
    | false =>
      have hc0 : curDraws P f' W = 0 := by
        have hw1 : ((ops[i]?).map (Region.wanted · (yielded ops f'.tmps))).getD false = false := by rw [← yielded_same h.tmps]; exact hw0
        simp only [curDraws, hm', ht', hw1]
        cases ho : ops[i]? with
        | none => rfl
        | some o => rw [ho] at hw1; simp only [Option.map_some, Option.getD_some] at hw1; simp [hw1]
      obtain ⟨f1, f1', g1, g2, g3⟩ := step_unwanted h hm ht hw0 true main K K' cs cs'
      exact .inr (went_still hw hc0 g1 (g2 L) (g3 W))
    | true =>
      cases ho : ops[i]? with
      | none => rw [ho] at hw0; cases hw0
      | some o =>
        rw [ho] at hw0
        refine step_oper hO hp h hm ht ho hw0 hw (fun j hj q => hag j ?_ q) main K K' cs cs'
        have hw1 : Region.wanted o (yielded ops f'.tmps) = true := by rw [← yielded_same h.tmps]; exact hw0
        simpa only [curDraws, hm', ht', ho, hw1, if_true] using hj
  by_cases h2 : ∃ id ops k, f.todo = .code (.region id ops true) :: k
  · obtain ⟨id, ops, k, ht⟩ := h2
    have ht' : f'.todo = .code (.region id ops true) :: k := h.todo.trans ht
    refine .inr (step_draw h hm ht hw (fun q => ?_) main K K' cs cs')
    have := hag 0 (by simp only [curDraws, hm', ht']; omega) q
    simpa using this
  rcases step_ctl h hm (fun ops i rest k e => h1 ⟨ops, i, rest, k, e⟩) (fun id ops k e => h2 ⟨id, ops, k, e⟩) true main cs cs' K K' hK hn with g | ⟨f1, f1', g1, g2, g3⟩
  · obtain ⟨o, ho⟩ := g L
    exact .inl (.inl ⟨o, L, #[], ho⟩)
  · have hc0 : curDraws P f' W = 0 := by
      unfold curDraws
      rw [hm', h.todo]
      split
      · rename_i heq; exact absurd heq (fun e => h1 ⟨_, _, _, _, e⟩)
      · rename_i heq; exact absurd heq (fun e => h2 ⟨_, _, _, e⟩)
      · rfl
    exact .inr (went_still hw hc0 g1 (g2 L) (g3 W))
end
end Go.Proofs.Yticdjkkcfdbdcaa

/- A tape made of the pieces that a run in company draws. No program; no conditions but those named. -/
namespace Go.Proofs.Yticdjkkcfdbdcaa
open Go.Conc Go.ConcN
theorem sumTo_mono (c : Nat → Nat) : ∀ {n m : Nat}, n ≤ m → sumTo n c ≤ sumTo m c := by
  intro n m h
  induction h with
  | refl => exact Nat.le_refl _
  | step _ ih => exact Nat.le_trans ih (by simp [sumTo])
theorem piece_uniq {c : Nat → Nat} {p n m : Nat} (h1 : sumTo n c ≤ p) (h2 : p < sumTo n c + c n) (h3 : sumTo m c ≤ p) (h4 : p < sumTo m c + c m) : n = m := by
  rcases Nat.lt_trichotomy n m with h | h | h
  · have := sumTo_mono c (show n + 1 ≤ m from h)
    simp only [sumTo] at this
    omega
  · exact h
  · have := sumTo_mono c (show m + 1 ≤ n from h)
    simp only [sumTo] at this
    omega
theorem tape_of (τ : Nat → Nat → Question → Nat) (d c : Nat → Nat) (b : Nat) : ∃ T : Nat → Question → Nat, ∀ n k, k < c n → ∀ q, T (b + sumTo n c + k) q = τ n (d n + k) q := by
  classical
  refine ⟨fun p q => if h : ∃ n, sumTo n c ≤ p - b ∧ p - b < sumTo n c + c n then τ h.choose (d h.choose + (p - b - sumTo h.choose c)) q else 0, fun n k hk q => ?_⟩
  have e : b + sumTo n c + k - b = sumTo n c + k := by omega
  have h : ∃ m, sumTo m c ≤ b + sumTo n c + k - b ∧ b + sumTo n c + k - b < sumTo m c + c m := ⟨n, by omega, by omega⟩
  simp only [dif_pos h]
  have hm := h.choose_spec
  have : h.choose = n := piece_uniq hm.1 hm.2 (by omega) (by omega)
  rw [this, e, Nat.add_sub_cancel_left]
/-- ████ A WALK OF ITS OWN, in whatever company: to its stop. ████ -/
inductive OW (P : Program) (main : Bool) (R : LK → World → World → Prop) (St : LK → Goroutine → World → Prop) : LK → Goroutine → World → Prop
  | stop {k : LK} {g : Goroutine} {w : World} (h : St k g w) : OW P main R St k g w
  | step {k : LK} {g : Goroutine} {w : World} (hr : g.status = .running) (ho : g.offers = none)
      (h : ∀ w₁, R k w w₁ → ∃ g' w' es, stepG P main g w₁ = .go g' w' es ∧ Own k w₁ w' es) (hn : ∀ w₁ g' w' es, R k w w₁ → stepG P main g w₁ = .go g' w' es → OW P main R St (k.grow w₁.heap.size w'.heap.size) g' w') : OW P main R St k g w
/-- Where it is none: a world in which each own step leads to where it is none. -/
theorem OW.not {P : Program} {main : Bool} {R : LK → World → World → Prop} {St : LK → Goroutine → World → Prop} {k : LK} {g : Goroutine} {w : World} (h : ¬ OW P main R St k g w) (hr : g.status = .running) (ho : g.offers = none) :
    ∃ w₁, R k w w₁ ∧ ∀ g' w' es, stepG P main g w₁ = .go g' w' es → Own k w₁ w' es → ¬ OW P main R St (k.grow w₁.heap.size w'.heap.size) g' w' := by
  refine Classical.byContradiction fun hn => h ?_
  have key : ∀ w₁, R k w w₁ → ∃ g' w' es, stepG P main g w₁ = .go g' w' es ∧ Own k w₁ w' es ∧ OW P main R St (k.grow w₁.heap.size w'.heap.size) g' w' := fun w₁ hR =>
    Classical.byContradiction fun hm => hn ⟨w₁, hR, fun g' w' es h1 h2 h3 => hm ⟨g', w', es, h1, h2, h3⟩⟩
  refine .step hr ho (fun w₁ hR => ?_) fun w₁ g' w' es hR hs => ?_
  · obtain ⟨g', w', es, h1, h2, _⟩ := key w₁ hR
    exact ⟨g', w', es, h1, h2⟩
  · obtain ⟨g1, w1, es1, h1, _, h3⟩ := key w₁ hR
    rw [hs] at h1
    cases h1
    exact h3
/-- A place on the company's way. -/
structure Plc where
  k : LK
  g : Goroutine
  w : World
open Classical in
/-- The world in which it is stepped from there: a bad one, where there is one. -/
noncomputable def badW (P : Program) (main : Bool) (R : LK → World → World → Prop) (St : LK → Goroutine → World → Prop) (x : Plc) : World :=
  if h : ∃ w₁, R x.k x.w w₁ ∧ ∀ g' w' es, stepG P main x.g w₁ = .go g' w' es → Own x.k w₁ w' es → ¬ OW P main R St (x.k.grow w₁.heap.size w'.heap.size) g' w' then h.choose else x.w
noncomputable def badN (P : Program) (main : Bool) (R : LK → World → World → Prop) (St : LK → Goroutine → World → Prop) (x : Plc) : Plc :=
  match stepG P main x.g (badW P main R St x) with
  | .go g' w' _ => ⟨x.k.grow (badW P main R St x).heap.size w'.heap.size, g', w'⟩
  | _ => x
noncomputable def badP (P : Program) (main : Bool) (R : LK → World → World → Prop) (St : LK → Goroutine → World → Prop) (x : Plc) : Nat → Plc
  | 0 => x
  | n + 1 => badN P main R St (badP P main R St x n)
theorem badW_spec {P : Program} {main : Bool} {R : LK → World → World → Prop} {St : LK → Goroutine → World → Prop} {x : Plc} (h : ¬ OW P main R St x.k x.g x.w) (hr : x.g.status = .running) (ho : x.g.offers = none) :
    R x.k x.w (badW P main R St x) ∧ ∀ g' w' es, stepG P main x.g (badW P main R St x) = .go g' w' es → Own x.k (badW P main R St x) w' es → ¬ OW P main R St (x.k.grow (badW P main R St x).heap.size w'.heap.size) g' w' := by
  have he := OW.not h hr ho
  unfold badW
  rw [dif_pos he]
  exact he.choose_spec
end Go.Proofs.Yticdjkkcfdbdcaa

/- A walk of its own serves in a team. No program; no conditions but those named. -/
namespace Go.Proofs.Yticdjkkcfdbdcaa
open Go.Conc Go.ConcN
section
variable {P : Program} {fm : Fam} {ty : TypeId} {Wg m0 p0 tot : Nat} {Shun : Loc → Prop} {Anc : Goroutine → World → Prop}
theorem OW.wp (ok : fm.Ok Wg) {i : Nat} {s : WSt fm.τ} (hal : ¬ s.rel) {St : LK → Goroutine → World → Prop} (hSt : ∀ k g w, St k g w → WP (wgProto P fm ty Wg m0 p0 tot Shun Anc) i k s g w) {k : LK} {g : Goroutine} {w : World} (h : OW P (i == 0) (fun k w w₁ => Rely k w w₁ ∧ fm.GR i w w₁) St k g w) : WP (wgProto P fm ty Wg m0 p0 tot Shun Anc) i k s g w := by
  induction h with
  | stop h => exact hSt _ _ _ h
  | step hr ho h hn ih =>
    refine wp_own ok hal hr ho fun w₁ h1 h2 => ?_
    obtain ⟨g', w', es, g1, g2⟩ := h w₁ ⟨h1, h2⟩
    exact ⟨g', w', es, g1, g2, ih w₁ g' w' es ⟨h1, h2⟩ g1⟩
end
end Go.Proofs.Yticdjkkcfdbdcaa
