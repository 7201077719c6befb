/- THE MIRRORED WALK: code of a goroutine in company, told of a lone world that is like its own. No program; no conditions but those named. -/
import Derived.Test.YticdjkkcfdbdcaaRenU
import Derived.Conc.Company
namespace Go.Proofs.Yticdjkkcfdbdcaa
open Go.Conc Go.ConcN

/-- One naming of blocks within another, whatever of them may be touched. -/
structure Ren.sub (ρ ρ' : Ren) : Prop where
  to : ∀ b p, ρ b = some p → ρ' b = some p
  base : ρ'.base = ρ.base
  chan : ∀ b p, ρ b = some p → (ρ'.isChan b ↔ ρ.isChan b)
  bad : ρ'.bad = ρ.bad
theorem Ren.le.sub {ρ ρ' : Ren} (h : ρ.le ρ') : ρ.sub ρ' := ⟨h.to, h.base, h.chan, h.bad⟩
theorem Ren.sub.refl (ρ : Ren) : ρ.sub ρ := ⟨fun _ _ h => h, rfl, fun _ _ _ => Iff.rfl, rfl⟩
theorem Ren.sub.trans {a b c : Ren} (h : a.sub b) (k : b.sub c) : a.sub c := ⟨fun x p hx => k.to x p (h.to x p hx), k.base.trans h.base, fun x p hx => (k.chan x p (h.to x p hx)).trans (h.chan x p hx), k.bad.trans h.bad⟩
theorem AR.sub {ρ ρ' : Ren} {a a' : Addr} (h : AR ρ a a') (hr : ρ.sub ρ') : AR ρ' a a' := by
  obtain ⟨⟨h1, h0⟩, c, s, h2, h3⟩ := h
  exact ⟨⟨h1, fun x => h0 ((hr.chan _ _ h2).1 x)⟩, c, s, hr.to _ _ h2, h3⟩
theorem VR.sub {S : FnSet} {ρ ρ' : Ren} {v v' : Value} (h : VR S ρ v v') (hr : ρ.sub ρ') : VR S ρ' v v' := by
  induction h with
  | ptr h => exact .ptr (h.sub hr)
  | slice h l c => exact .slice (h.sub hr) l c
  | void b o s a' => exact .void b o s a'
  | map h => exact .map (hr.to _ _ h)
  | chan h => exact .chan (hr.to _ _ h)
  | func hf sx _ sy _ ih1 ih2 => exact .func hf sx ih1 sy ih2
  | iface t _ ih => exact .iface t ih
  | agg sx _ ih => exact .agg sx ih
  | tuple sx _ ih => exact .tuple sx ih
  | bool b => exact .bool b
  | int k n => exact .int k n
  | string s => exact .string s
  | nilPtr => exact .nilPtr
  | nilSlice l c => exact .nilSlice l c
  | nilMap => exact .nilMap
  | nilChan => exact .nilChan
  | nilFunc => exact .nilFunc
  | nilIface => exact .nilIface
theorem VRs.sub {S : FnSet} {ρ ρ' : Ren} {x x' : Array Value} (h : VRs S ρ x x') (hr : ρ.sub ρ') : VRs S ρ' x x' := ⟨h.1, fun i v v' h1 h2 => (h.2 i v v' h1 h2).sub hr⟩

/-- A judgement on goroutines that bears steps of their own. -/
structure JOk (P : Program) (main : Bool) (R : LK → World → World → Prop) (J : LK → Goroutine → World → Prop) : Prop where
  own : ∀ k g w, g.status = .running → g.offers = none → (∀ w₁, R k w w₁ → ∃ g' w' es, stepG P main g w₁ = .go g' w' es ∧ Own k w₁ w' es ∧ J (k.grow w₁.heap.size w'.heap.size) g' w') → J k g w
  rel : ∀ k w w₁, R k w w₁ → Rely k w w₁
theorem OW.j {P : Program} {main : Bool} {R : LK → World → World → Prop} {J : LK → Goroutine → World → Prop} (hJ : JOk P main R J) {k : LK} {g : Goroutine} {w : World} (h : OW P main R J k g w) : J k g w := by
  induction h with
  | stop h => exact h
  | step hr ho h hn ih =>
    refine hJ.own _ _ _ hr ho fun w₁ hR => ?_
    obtain ⟨g', w', es, h1, h2⟩ := h w₁ hR
    exact ⟨g', w', es, h1, h2, ih w₁ g' w' es hR h1⟩
/-- The lone world L mirrors the company's W. -/
structure Mir (S : FnSet) (P : Program) (ρ : Ren) (k : LK) (L W : World) : Prop where
  wr : WR S ρ k L W
  pr : PR P ρ
structure ActR (S : FnSet) (ρ : Ren) (a a' : Act) : Prop where
  tmps : VRs S ρ a.tmps a'.tmps
  d : a.defers = []
  d' : a'.defers = []
theorem ActR.sub {S : FnSet} {ρ ρ' : Ren} {a a' : Act} (h : ActR S ρ a a') (hr : ρ.sub ρ') : ActR S ρ' a a' := ⟨h.tmps.sub hr, h.d, h.d'⟩
theorem ActR.put {S : FnSet} {ρ : Ren} {a a' : Act} (h : ActR S ρ a a') (d : Option Tmp) {v v' : Value} (hv : VR S ρ v v') : ActR S ρ (a.put d v) (a'.put d v') := by
  cases d with
  | none => exact h
  | some d => exact ⟨h.tmps.set d hv, h.d, h.d'⟩
theorem ActR.eval {S : FnSet} {ρ : Ren} {a a' : Act} (h : ActR S ρ a a') : EvR S ρ a.eval a'.eval := by
  refine ⟨fun x hx => ?_, fun v => rfl, fun g => rfl⟩
  cases x with
  | tmp t => exact h.tmps.getD t VR.undef
  | const v => exact Bare.rel hx
  | func g => exact .func hx rfl (fun i v v' h => by simp at h) rfl (fun i v v' h => by simp at h)
  | global g => exact hx.elim
section
variable (S : FnSet) (P : Program) (J : LK → Goroutine → World → Prop)
def AfterJ (b' : Frame) (K' : List Item) (base : List Frame) : Exit → LK → Act → World → Prop
  | .normal, k, a, W => J k (G (b'.at a K') base) W
  | .exit id, k, a, W => ∃ K1, exitTo id K' = some K1 ∧ J k (G (b'.at a K1) base) W
  | .ret, k, a, W => ∀ todo, J k (G { b'.at a todo with mode := .returning } base) W
  | _, _, _, _ => False
def Cont (b' : Frame) (K' : List Item) (base : List Frame) (up : Bool) (Q : Exit → Act → World → Prop) (ρ : Ren) (k : LK) (n : Nat) : Prop :=
  ∀ e a1 L1 ρ1 k1 W1 a1', Q e a1 L1 → ρ.sub ρ1 → (up = true → Up k n k1 W1.heap.size) → Mir S P ρ1 k1 L1 W1 → ActR S ρ1 a1 a1' → AfterJ J b' K' base e k1 a1' W1
/-- ████ THE JUDGEMENT ████ on code, at a lone world L that mirrors the company's. 'up': the licence only grows. -/
def Mp (fn : FuncId) (c : Code) (up : Bool) (Q : Exit → Act → World → Prop) (a : Act) (L : World) : Prop :=
  ∀ (b' : Frame) (K' : List Item) (base : List Frame) (ρ : Ren) (k : LK) (W : World) (a' : Act), b'.fn = fn → b'.kind = .normal → Mir S P ρ k L W → ActR S ρ a a' → Cont S P J b' K' base up Q ρ k W.heap.size → J k (G (b'.at a' (.code c :: K')) base) W
def MpOps (fn : FuncId) (ops : Array Oper) (todo : List Nat) (up : Bool) (Q : Exit → Act → World → Prop) (a : Act) (L : World) : Prop :=
  ∀ (b' : Frame) (K' : List Item) (base : List Frame) (ρ : Ren) (k : LK) (W : World) (a' : Act), b'.fn = fn → b'.kind = .normal → Mir S P ρ k L W → ActR S ρ a a' → Cont S P J b' K' base up Q ρ k W.heap.size → J k (G (b'.at a' (.inRegion ops todo :: K')) base) W
/-- .. on a call. -/
def MCalls (f : FuncId) (args : Array Value) (up : Bool) (R : Value → World → Prop) (L : World) : Prop :=
  ∀ (c' : Frame) (base : List Frame) (ρ : Ren) (k : LK) (W : World) (args' : Array Value), Mir S P ρ k L W → VRs S ρ args args' →
    (∀ v v' L1 ρ1 k1 W1, R v L1 → ρ.sub ρ1 → (up = true → Up k W.heap.size k1 W1.heap.size) → Mir S P ρ1 k1 L1 W1 → VR S ρ1 v v' → J k1 (G (c'.finish v') base) W1) → J k (G (Frame.enter P f args' .normal) (c' :: base)) W
end
section
variable {S : FnSet} {P : Program} {J : LK → Goroutine → World → Prop} {main : Bool} {R : LK → World → World → Prop}
theorem Up.wide {k k' : LK} {n n' m : Nat} (h : Up k n k' n') (hm : n' ≤ m) : Up k n k' m := ⟨Nat.le_trans h.size hm, h.W, fun l hl => (h.new l hl).imp id (NewLoc.wide (Nat.le_refl _) hm), h.R, h.A⟩
theorem Mir.rely {ρ : Ren} {k : LK} {L W W₁ : World} (h : Mir S P ρ k L W) (hr : Rely k W W₁) : Mir S P ρ k L W₁ := ⟨h.wr.rely hr, h.pr⟩
theorem Cont.at {b' : Frame} {K' : List Item} {base : List Frame} {up : Bool} {Q : Exit → Act → World → Prop} {ρ ρ1 : Ren} {k k1 : LK} {n n1 : Nat} (h : Cont S P J b' K' base up Q ρ k n) (hs : ρ.sub ρ1) (hu : up = true → Up k n k1 n1) : Cont S P J b' K' base up Q ρ1 k1 n1 :=
  fun e a1 L1 ρ2 k2 W2 a2 hq h1 h2 h3 h4 => h e a1 L1 ρ2 k2 W2 a2 hq (hs.trans h1) (fun e => (hu e).trans (h2 e)) h3 h4
/-- A move of control. -/
theorem j_ctl (hJ : JOk P main R J) {k : LK} {f f1 : Frame} {base base1 : List Frame} {W : World} (hs : ∀ w, stepG P main (G f base) w = .go (G f1 base1) w #[]) (h : ∀ w₁, R k W w₁ → J k (G f1 base1) w₁) : J k (G f base) W :=
  hJ.own _ _ _ rfl rfl fun w₁ hr => ⟨_, w₁, #[], hs w₁, .idle k w₁, by rw [grow_self]; exact h w₁ hr⟩
section rules
variable (hJ : JOk P main R J) {fn : FuncId} {up : Bool} {Q : Exit → Act → World → Prop} {a : Act} {L : World}
include hJ
theorem Mp.ctl {c : Code} {todo : List Item → List Item} (hs : ∀ (b : Frame) (a' : Act) K cs w, stepG P main (G (b.at a' (.code c :: K)) cs) w = .go (G (b.at a' (todo K)) cs) w #[])
    (h : ∀ (b' : Frame) (K' : List Item) (base : List Frame) (ρ : Ren) (k : LK) (W : World) (a' : Act), b'.fn = fn → b'.kind = .normal → Mir S P ρ k L W → ActR S ρ a a' → Cont S P J b' K' base up Q ρ k W.heap.size → J k (G (b'.at a' (todo K')) base) W) : Mp S P J fn c up Q a L := by
  intro b' K' base ρ k W a' h1 h2 h3 h4 h5
  refine j_ctl hJ (fun w => hs b' a' K' base w) fun w₁ hr => ?_
  have hrel := hJ.rel _ _ _ hr
  exact h b' K' base ρ k w₁ a' h1 h2 (h3.rely hrel) h4 (h5.at (.refl _) fun _ => (Up.refl _ _).wide hrel.size)
theorem Mp.skip (h : Q .normal a L) : Mp S P J fn .skip up Q a L :=
  Mp.ctl hJ (todo := fun K => K) (fun _ _ _ _ _ => stepG_skip) fun b' K' base ρ k W a' _ _ h3 h4 h5 => h5 _ _ _ _ _ _ _ h (.refl _) (fun _ => .refl _ _) h3 h4
theorem Mp.seq {x y : Code} (h : Mp S P J fn x up (Exit.then (fun a1 L1 => Mp S P J fn y up Q a1 L1) Q) a L) : Mp S P J fn (.seq x y) up Q a L := by
  refine Mp.ctl hJ (todo := fun K => .code x :: .code y :: K) (fun _ _ _ _ _ => stepG_seq) fun b' K' base ρ k W a' h1 h2 h3 h4 h5 => ?_
  refine h b' (.code y :: K') base ρ k W a' h1 h2 h3 h4 fun e a1 L1 ρ1 k1 W1 a1' hq g1 g2 g3 g4 => ?_
  cases e with
  | normal => exact hq b' K' base ρ1 k1 W1 a1' h1 h2 g3 g4 (h5.at g1 g2)
  | exit id =>
    obtain ⟨K1, hK1, hj⟩ := h5 _ _ _ _ _ _ _ hq g1 g2 g3 g4
    exact ⟨K1, by simpa [exitTo] using hK1, hj⟩
  | ret => exact h5 _ _ _ _ _ _ _ hq g1 g2 g3 g4
  | goto l => exact h5 _ _ _ _ _ _ _ hq g1 g2 g3 g4
  | panic ch => exact h5 _ _ _ _ _ _ _ hq g1 g2 g3 g4
  | outgrown => exact h5 _ _ _ _ _ _ _ hq g1 g2 g3 g4
theorem Mp.cond {c : Operand} {x y : Code} {t : Bool} (hx : okX S c) (hc : a.eval c = .bool t) (h : Mp S P J fn (if t then x else y) up Q a L) : Mp S P J fn (.cond c x y) up Q a L := by
  intro b' K' base ρ k W a' h1 h2 h3 h4 h5
  have hc' : a'.eval c = .bool t := by
    have := h4.eval.1 c hx
    rw [hc] at this
    generalize a'.eval c = v' at this
    cases this; rfl
  refine j_ctl hJ (fun w => stepG_cond hc') fun w₁ hr => ?_
  have hrel := hJ.rel _ _ _ hr
  exact h b' K' base ρ k w₁ a' h1 h2 (h3.rely hrel) h4 (h5.at (.refl _) fun _ => (Up.refl _ _).wide hrel.size)
theorem Mp.ret (h : Q .ret a L) : Mp S P J fn .ret up Q a L := by
  intro b' K' base ρ k W a' h1 h2 h3 h4 h5
  refine j_ctl hJ (fun w => stepG_ret') fun w₁ hr => ?_
  have hrel := hJ.rel _ _ _ hr
  exact h5 _ _ _ _ _ _ _ h (.refl _) (fun _ => (Up.refl _ _).wide hrel.size) (h3.rely hrel) h4 _
theorem Mp.exit {id : Nat} (h : Q (.exit id) a L) : Mp S P J fn (.exit id) up Q a L := by
  intro b' K' base ρ k W a' h1 h2 h3 h4 h5
  obtain ⟨K1, hK1, _⟩ := h5 _ _ _ _ _ _ _ h (.refl _) (fun _ => .refl _ _) h3 h4
  refine j_ctl hJ (fun w => stepG_exit hK1) fun w₁ hr => ?_
  have hrel := hJ.rel _ _ _ hr
  obtain ⟨K2, hK2, hj⟩ := h5 _ _ _ _ _ _ _ h (.refl _) (fun _ => (Up.refl _ _).wide hrel.size) (h3.rely hrel) h4
  rw [hK1] at hK2; cases hK2
  exact hj
theorem Mp.block {id : Nat} {c : Code} (h : Mp S P J fn c up (Exit.inBlock id Q) a L) : Mp S P J fn (.block id c) up Q a L := by
  refine Mp.ctl hJ (todo := fun K => .code c :: .inBlock id :: K) (fun _ _ _ _ _ => stepG_block) fun b' K' base ρ k W a' h1 h2 h3 h4 h5 => ?_
  refine h b' (.inBlock id :: K') base ρ k W a' h1 h2 h3 h4 fun e a1 L1 ρ1 k1 W1 a1' hq g1 g2 g3 g4 => ?_
  cases e with
  | normal =>
    refine j_ctl hJ (fun w => stepG_inBlock) fun w₁ hr => ?_
    have hrel := hJ.rel _ _ _ hr
    exact h5 _ _ _ _ _ _ _ hq g1 (fun e => (g2 e).wide hrel.size) (g3.rely hrel) g4
  | exit id' =>
    by_cases hid : id' = id
    · simp only [Exit.inBlock, hid, if_true] at hq
      exact ⟨K', by simp [exitTo, hid], h5 _ _ _ _ _ _ _ hq g1 g2 g3 g4⟩
    · simp only [Exit.inBlock, hid, if_false] at hq
      obtain ⟨K1, hK1, hj⟩ := h5 _ _ _ _ _ _ _ hq g1 g2 g3 g4
      have : (id == id') = false := by simp; exact fun h => hid h.symm
      exact ⟨K1, by simp [exitTo, this, hK1], hj⟩
  | ret => exact h5 _ _ _ _ _ _ _ hq g1 g2 g3 g4
  | goto l => exact h5 _ _ _ _ _ _ _ hq g1 g2 g3 g4
  | panic ch => exact h5 _ _ _ _ _ _ _ hq g1 g2 g3 g4
  | outgrown => exact h5 _ _ _ _ _ _ _ hq g1 g2 g3 g4
/-- A LOOP: an invariant, a measure that every round lowers. -/
theorem Mp.loop {c : Code} (I : Act → World → Prop) (μ : Act → World → Nat) (h0 : I a L) (round : ∀ a L, I a L → Mp S P J fn c up (Exit.then (fun a1 L1 => I a1 L1 ∧ μ a1 L1 < μ a L) Q) a L) : Mp S P J fn (.loop c) up Q a L := by
  have key : ∀ N a L, μ a L = N → I a L → ∀ (b' : Frame) (K' : List Item) (base : List Frame) (ρ : Ren) (k : LK) (W : World) (a' : Act), b'.fn = fn → b'.kind = .normal → Mir S P ρ k L W → ActR S ρ a a' → Cont S P J b' K' base up Q ρ k W.heap.size → J k (G (b'.at a' (.code c :: .inLoop c :: K')) base) W := by
    intro N
    induction N using Nat.strongRecOn with
    | _ N ih =>
    intro a L hN hI b' K' base ρ k W a' h1 h2 h3 h4 h5
    refine round a L hI b' (.inLoop c :: K') base ρ k W a' h1 h2 h3 h4 fun e a1 L1 ρ1 k1 W1 a1' hq g1 g2 g3 g4 => ?_
    cases e with
    | normal =>
      refine j_ctl hJ (fun w => stepG_inLoop) fun w₁ hr => ?_
      have hrel := hJ.rel _ _ _ hr
      exact ih (μ a1 L1) (by have := hq.2; omega) a1 L1 rfl hq.1 b' K' base ρ1 k1 w₁ a1' h1 h2 (g3.rely hrel) g4 (h5.at g1 fun e => (g2 e).wide hrel.size)
    | exit id =>
      obtain ⟨K1, hK1, hj⟩ := h5 _ _ _ _ _ _ _ hq g1 g2 g3 g4
      exact ⟨K1, by simpa [exitTo] using hK1, hj⟩
    | ret => exact h5 _ _ _ _ _ _ _ hq g1 g2 g3 g4
    | goto l => exact h5 _ _ _ _ _ _ _ hq g1 g2 g3 g4
    | panic ch => exact h5 _ _ _ _ _ _ _ hq g1 g2 g3 g4
    | outgrown => exact h5 _ _ _ _ _ _ _ hq g1 g2 g3 g4
  exact Mp.ctl hJ (todo := fun K => .code c :: .inLoop c :: K) (fun _ _ _ _ _ => stepG_loop) (key _ a L rfl h0)
theorem Mp.region {id : Nat} {ops : Array Oper} (h : MpOps S P J fn ops (List.range ops.size) up Q a L) : Mp S P J fn (.region id ops false) up Q a L :=
  Mp.ctl hJ (todo := fun K => .inRegion ops (List.range ops.size) :: K) (fun _ _ _ _ _ => stepG_region) h
theorem MpOps.nil {ops : Array Oper} (h : Q .normal a L) : MpOps S P J fn ops [] up Q a L := by
  intro b' K' base ρ k W a' h1 h2 h3 h4 h5
  refine j_ctl hJ (fun w => stepG_region_end) fun w₁ hr => ?_
  have hrel := hJ.rel _ _ _ hr
  exact h5 _ _ _ _ _ _ _ h (.refl _) (fun _ => (Up.refl _ _).wide hrel.size) (h3.rely hrel) h4
theorem MpOps.unwanted {ops : Array Oper} {i : Nat} {rest : List Nat} {o : Oper} (ho : ops[i]? = some o) (hw : Region.wanted o (yielded ops a.tmps) = false) (h : MpOps S P J fn ops rest up Q (a.put o.dst undef) L) : MpOps S P J fn ops (i :: rest) up Q a L := by
  intro b' K' base ρ k W a' h1 h2 h3 h4 h5
  have hw' : Region.wanted o (yielded ops a'.tmps) = false := by rw [← yielded_same h4.tmps]; exact hw
  refine j_ctl hJ (fun w => stepG_unwanted ho hw') fun w₁ hr => ?_
  have hrel := hJ.rel _ _ _ hr
  exact h b' K' base ρ k w₁ _ h1 h2 (h3.rely hrel) (h4.put _ VR.undef) (h5.at (.refl _) fun _ => (Up.refl _ _).wide hrel.size)
/-- An operation that yields a value, or nothing. -/
theorem MpOps.op (hb : Bodies S P) {ops : Array Oper} {i : Nat} {rest : List Nat} {o : Oper} (ho : ops[i]? = some o) (hw : Region.wanted o (yielded ops a.tmps) = true) (hok : okOp S P o.op)
    (h : ∀ T, ∃ L1, (∃ v, (execOp a.eval o).run P { L with tape := T } = .ok (.value v) L1 ∧ MpOps S P J fn ops rest up Q (a.put o.dst v) L1) ∨ ((execOp a.eval o).run P { L with tape := T } = .ok .skip L1 ∧ MpOps S P J fn ops rest up Q (a.put o.dst undef) L1)) : MpOps S P J fn ops (i :: rest) up Q a L := by
  intro b' K' base ρ k W a' h1 h2 h3 h4 h5
  have hw' : Region.wanted o (yielded ops a'.tmps) = true := by rw [← yielded_same h4.tmps]; exact hw
  have hk : b'.kind ≠ .early := by rw [h2]; simp
  refine hJ.own _ _ _ rfl rfl fun w₁ hr => ?_
  have hrel := hJ.rel _ _ _ hr
  have hm := h3.rely hrel
  obtain ⟨L1, hL⟩ := h fun p q => w₁.tape (w₁.drawn + (p - L.drawn)) q
  generalize hLT : ({ L with tape := fun p q => w₁.tape (w₁.drawn + (p - L.drawn)) q } : World) = LT at hL
  have hwr : WR S ρ k LT w₁ := by subst hLT; exact hm.wr.heaps rfl rfl
  have hag : ∀ j, j < ((execOp a'.eval o).runT P w₁ #[]).1.world.drawn - w₁.drawn → ∀ q, LT.tape (LT.drawn + j) q = w₁.tape (w₁.drawn + j) q := fun j _ q => by
    subst hLT
    show w₁.tape (w₁.drawn + (L.drawn + j - L.drawn)) q = _
    rw [Nat.add_sub_cancel_left]
  rcases (sr_exec hb hm.pr h4.eval (fun v => rfl) o hok).run k LT w₁ #[] #[] hwr hag with ⟨x, L', es1, g1, g2⟩ | ⟨a0, L', es1, b, W', l, ρ', g1, g2, g3, g4, g5, g6, g7, g8⟩
  · exfalso
    rw [Sem.runT_eq] at g1
    have g1' := (Prod.mk.inj g1).1
    rcases hL with ⟨v, e, _⟩ | ⟨e, _⟩ <;> rw [e] at g1' <;> cases g1'
  · rw [Sem.runT_eq] at g1 g2
    have e1 := (Prod.mk.inj g1).1
    obtain ⟨e2, e3⟩ := Prod.mk.inj g2
    have hown : Own k w₁ W' (listed P b'.fn a' o w₁) := by
      unfold listed
      rw [e3, Array.empty_append]
      exact g6.seen _
    have hcont : Cont S P J b' K' base up Q ρ' (k.grow w₁.heap.size W'.heap.size) W'.heap.size := h5.at g3.sub fun _ => (Up.refl _ _).step hrel.size g6.chg.size
    have hmir : Mir S P ρ' (k.grow w₁.heap.size W'.heap.size) L' W' := ⟨g5, hm.pr.mono g3⟩
    rcases hL with ⟨v, e, hn⟩ | ⟨e, hn⟩
    · rw [e] at e1
      cases e1
      cases g4 with
      | value hv => exact ⟨_, W', _, stepG_value ho hw' hk e2, hown, hn b' K' base ρ' _ W' _ h1 h2 hmir ((h4.sub g3.sub).put _ hv) hcont⟩
    · rw [e] at e1
      cases e1
      cases g4 with
      | skip => exact ⟨_, W', _, stepG_none ho hw' hk e2, hown, hn b' K' base ρ' _ W' _ h1 h2 hmir ((h4.sub g3.sub).put _ VR.undef) hcont⟩
end rules
end
end Go.Proofs.Yticdjkkcfdbdcaa

/- The mirrored walk, on: what a lone walk gives; calls. No program; no conditions but those named. -/
namespace Go.Proofs.Yticdjkkcfdbdcaa
open Go.Conc Go.ConcN
section
variable {S : FnSet} {P : Program} {J : LK → Goroutine → World → Prop} {main : Bool} {R : LK → World → World → Prop} (hJ : JOk P main R J) (hO : OkFns S P)
include hJ
/-- A frame on its way out. -/
theorem j_ret {ρ : Ren} {f f' c' : Frame} (h : FR S P ρ f f') (hm : f.mode = .returning) (K' : List Item) {v : Value} {fn : Func} (hf : P.funcs[f.fn]? = some fn) (hr : results fn f.tmps = .pure v) {base : List Frame} {k : LK} {W : World} (hj : ∀ v' w₁, VR S ρ v v' → R k W w₁ → J k (G (c'.finish v') base) w₁) : J k (G (ext K' f') (c' :: base)) W := by
  obtain ⟨v1, v', g1, _, g3, fn1, g4, g5⟩ := step_ret h hm [] K'
  rw [hf] at g4; cases g4
  rw [hr] at g5; cases g5
  exact j_ctl hJ (fun w => g3 main c' base w) fun w₁ hR => hj v' w₁ g1 hR
omit hJ in
theorem bare_frame {fn : FuncId} (b' : Frame) (hb : b'.fn = fn) (hk : b'.kind = .normal) {f' : Frame} (h1 : f'.fn = fn) (h2 : f'.kind = .normal) (h3 : f'.roundOf = none) (h4 : f'.mode = .run) (h5 : f'.todo = []) (K' : List Item) : ext K' f' = b'.at ⟨f'.tmps, f'.defers⟩ K' := by
  obtain ⟨a1, a2, a3, a4, a5, a6, a7⟩ := f'
  simp only at h1 h2 h3 h4 h5
  subst h1 h2 h3 h4 h5
  simp [ext, Frame.at, hb, hk]
include hO
/-- ████ WHAT A LONE WALK GIVES. ████ -/
theorem Mp.lone {fn : FuncId} (hres : ResFn P fn) {c : Code} (hc : okCode S P c) {up : Bool} {Q : Exit → Act → World → Prop} {a : Act} {L : World} (h : ∀ T, c.wp P (fun e a1 L1 => (e = .normal ∨ e = .ret) ∧ (a1.defers = [] → Q e a1 L1)) a { L with tape := T }) : Mp S P J fn c up Q a L := by
  intro b' K' base ρ k W a' h1 h2 h3 h4 h5
  let bL : Frame := { fn := fn, tmps := #[], todo := [], defers := [], mode := .run, kind := .normal }
  have hFR : FR S P ρ (bL.at a [.code c]) (b'.at a' [.code c]) := by
    refine ⟨h1, hres, rfl, fun x hx => ?_, h4.tmps, ⟨h4.d, h4.d'⟩, ⟨rfl, h2⟩, ⟨rfl, rfl⟩, .inl ⟨rfl, rfl⟩⟩
    simp only [Frame.at, List.mem_singleton] at hx
    subst hx
    exact hc
  have e0 : b'.at a' (.code c :: K') = ext K' (b'.at a' [.code c]) := rfl
  rw [e0]
  refine OW.j hJ (lone_ow hO (hJ.rel) (St := J) h3.pr hFR h3.wr (pc := true) (fun e => by cases e) (fun fr L1 => (∃ a1, fr = bL.at a1 (wk true) ∧ (a1.defers = [] → Q .normal a1 L1)) ∨ ∃ a1 todo, fr = { bL.at a1 todo with mode := .returning } ∧ (a1.defers = [] → Q .ret a1 L1)) (fun T => ?_) fun ρ' kk' f1 f1' L1 W1 g1 g2 g3 g4 g5 g6 => ?_)
  · obtain ⟨e, a1, w1, ⟨he, hq⟩, harr⟩ := h T bL (wk true) [wall P]
    rcases he with rfl | rfl
    · obtain ⟨N, hN⟩ := harr
      exact ⟨N, _, w1, hN, .inr ⟨rfl, rfl, rfl⟩, .inl ⟨a1, rfl, hq⟩⟩
    · obtain ⟨todo, N, hN⟩ := harr
      exact ⟨N, _, w1, hN, .inl rfl, .inr ⟨a1, todo, rfl, hq⟩⟩
  · have hmir : Mir S P ρ' kk' L1 W1 := ⟨g3, h3.pr.mono g1⟩
    rcases g6 with ⟨a1, e, hq⟩ | ⟨a1, todo, e, hq⟩
    · have em : f1.mode = .run := by have := congrArg Frame.mode e; exact this
      have et : f1.tmps = a1.tmps := by have := congrArg Frame.tmps e; exact this
      have ed : f1.defers = a1.defers := by have := congrArg Frame.defers e; exact this
      have ef : f1.fn = fn := by have := congrArg Frame.fn e; exact this
      have eo : f1.todo = [] := by have := congrArg Frame.todo e; simpa [ext, Frame.at] using this
      have em' : f1'.mode = .run := by rcases g2.mode with x | x; exact x.2; rw [em] at x; cases x.1
      rw [bare_frame b' h1 h2 (g2.fn.trans ef) g2.kind.2 g2.round.2 em' (g2.todo.trans eo) K']
      exact h5 .normal a1 L1 ρ' kk' W1 ⟨f1'.tmps, f1'.defers⟩ (hq (ed.symm.trans g2.defers.1)) g1.sub (fun _ => g4) hmir ⟨et ▸ g2.tmps, ed.symm.trans g2.defers.1, g2.defers.2⟩
    · have em : f1.mode = .returning := by have := congrArg Frame.mode e; exact this
      have et : f1.tmps = a1.tmps := by have := congrArg Frame.tmps e; exact this
      have ed : f1.defers = a1.defers := by have := congrArg Frame.defers e; exact this
      have ef : f1.fn = fn := by have := congrArg Frame.fn e; exact this
      have em' : f1'.mode = .returning := by rcases g2.mode with x | x; rw [em] at x; cases x.1; exact x.2
      have e1 : ext K' f1' = { b'.at ⟨f1'.tmps, f1'.defers⟩ (f1'.todo ++ K') with mode := .returning } := by
        have q1 : f1'.fn = b'.fn := (g2.fn.trans ef).trans h1.symm
        have q2 : f1'.kind = b'.kind := g2.kind.2.trans h2.symm
        have q3 := g2.round.2
        obtain ⟨a1, a2, a3, a4, a5, a6, a7⟩ := f1'
        simp only at q1 q2 q3 em'
        subst q1 q2 q3 em'
        rfl
      rw [e1]
      exact h5 .ret a1 L1 ρ' kk' W1 ⟨f1'.tmps, f1'.defers⟩ (hq (ed.symm.trans g2.defers.1)) g1.sub (fun _ => g4) hmir ⟨et ▸ g2.tmps, ed.symm.trans g2.defers.1, g2.defers.2⟩ _
/-- .. of a call. -/
theorem MCalls.lone {f : FuncId} (hf : S.call f) {args : Array Value} {up : Bool} {R' : Value → World → Prop} {L : World} (h : ∀ T, Calls P f args { L with tape := T } (fun | .returned v, w => R' v w | _, _ => False)) : MCalls S P J f args up R' L := by
  intro c' base ρ k W args' h3 h4 h5
  have hFR : FR S P ρ (Frame.enter P f args .normal) (Frame.enter P f args' .normal) := FR.enter hO hf h4
  rw [← ext_nil (Frame.enter P f args' .normal)]
  refine OW.j hJ (lone_ow hO (hJ.rel) (St := J) h3.pr hFR h3.wr (pc := false) (fun _ => rfl) (fun fr L1 => ∃ v fn, P.funcs[fr.fn]? = some fn ∧ (results fn fr.tmps).run P L1 = .ok v L1 ∧ R' v L1) (fun T => ?_) fun ρ' kk' f1 f1' L1 W1 g1 g2 g3 g4 g5 g6 => ?_)
  · obtain ⟨e, w1, fr, hR, hcm, hfn, hlv⟩ := h T [wall P]
    cases e with
    | returned v =>
      obtain ⟨N, hN⟩ := hcm
      obtain ⟨l1, l2, l3, fn, l4, l5⟩ := hlv
      refine ⟨N, fr, w1, ?_, .inl l1, v, fn, l4, l5, hR⟩
      rw [show wk false = [] from rfl, ext_nil]; exact hN
    | panicked ch => exact hR.elim
    | outgrown => exact hR.elim
  · have hm : f1.mode = .returning := by rcases g5 with x | x; exact x; cases x.1
    have hmir : Mir S P ρ' kk' L1 W1 := ⟨g3, h3.pr.mono g1⟩
    obtain ⟨v, fn, e1, e2, e3⟩ := g6
    obtain ⟨v1, v1', q1, _, _, fn1, q4, q5⟩ := step_ret g2 hm [] []
    have e1' : P.funcs[f1.fn]? = some fn := e1
    have e2' : (results fn f1.tmps).run P L1 = .ok v L1 := e2
    rw [e1'] at q4; cases q4
    rw [q5] at e2'
    simp only [Sem.run, Result.ok.injEq, and_true] at e2'
    subst e2'
    refine j_ret hJ g2 hm [] e1' q5 fun v' w₁ hv hR => ?_
    have hrel := hJ.rel _ _ _ hR
    exact h5 v1 v' L1 ρ' kk' w₁ e3 g1.sub (fun _ => g4.wide hrel.size) (hmir.rely hrel) hv
omit hO
/-- A call, by its body's walk. -/
theorem MCalls.body {f : FuncId} {fn : Func} {c : Code} (hf : P.funcs[f]? = some fn) (hb : fn.body = some c) (hr : ∀ (i : Nat) r, fn.results[i]? = some r → ∃ t, r = .tmp t) {args : Array Value} {up : Bool} {R' : Value → World → Prop} {L : World}
    (h : Mp S P J f c up (fun e a1 L1 => (e = .normal ∨ e = .ret) ∧ R' (pack (resVals fn a1.tmps)) L1) ⟨args ++ Array.replicate (fn.ntmps - args.size) undef, []⟩ L) : MCalls S P J f args up R' L := by
  intro c' cs ρ k W args' h3 h4 h5
  rw [enter_at args' hf hb]
  have hret : ∀ (a1 a1' : Act) L1 ρ1 k1 W1, R' (pack (resVals fn a1.tmps)) L1 → ρ.sub ρ1 → (up = true → Up k W.heap.size k1 W1.heap.size) → Mir S P ρ1 k1 L1 W1 → ActR S ρ1 a1 a1' → ∀ todo, J k1 (G { (base f).at a1' todo with mode := .returning } (c' :: cs)) W1 := by
    intro a1 a1' L1 ρ1 k1 W1 q1 q2 q3 q4 q5 todo
    have hv : VR S ρ1 (pack (resVals fn a1.tmps)) (pack (resVals fn a1'.tmps)) := VRs.pack (VRs.map _ fun r _ => by
      cases r with
      | tmp t => exact q5.tmps.getD t VR.undef
      | cell a t => exact VR.undef)
    have hs : ∀ w, stepG P main (G { (base f).at a1' todo with mode := .returning } (c' :: cs)) w = .go (G (c'.finish (pack (resVals fn a1'.tmps))) cs) w #[] := fun w =>
      stepG_leave rfl q5.d' hf (by rw [results_tmps hr]; rfl) (by rw [results_tmps hr]; rfl)
    refine j_ctl hJ hs fun w₁ hR => ?_
    have hrel := hJ.rel _ _ _ hR
    exact h5 _ _ L1 ρ1 k1 w₁ q1 q2 (fun e => (q3 e).wide hrel.size) (q4.rely hrel) hv
  refine h _ [] (c' :: cs) ρ k W _ rfl rfl h3 ⟨?_, rfl, rfl⟩ fun e a1 L1 ρ1 k1 W1 a1' hq g1 g2 g3 g4 => ?_
  · simp only [← h4.1]
    exact h4.append (VRs.same VR.undef)
  · obtain ⟨he, hR⟩ := hq
    rcases he with rfl | rfl
    · refine j_ctl hJ (fun w => stepG_end) fun w₁ hr => ?_
      have hrel := hJ.rel _ _ _ hr
      exact hret a1 a1' L1 ρ1 k1 w₁ hR g1 (fun e => (g2 e).wide hrel.size) (g3.rely hrel) g4 _
    · exact hret a1 a1' L1 ρ1 k1 W1 hR g1 g2 g3 g4
/-- A call of a function that is named, as an operation. -/
theorem MpOps.call {fn : FuncId} {up : Bool} {Q : Exit → Act → World → Prop} {a : Act} {L : World} {ops : Array Oper} {i : Nat} {rest : List Nat} {o : Oper} {f : FuncId} {args : Array Operand} {ats : Array TypeId} (ho : ops[i]? = some o) (hw : Region.wanted o (yielded ops a.tmps) = true)
    (hop : o.op = .call { callee := .value (.func f), args := args, argTypes := ats }) (hargs : ∀ x ∈ args, okX S x) (hbody : ∃ g, P.funcs[f]? = some g ∧ (g.name == "runtime.NumGoroutine") = false ∧ g.body.isNone = false)
    (h : MCalls S P J f (args.map a.eval) up (fun v L1 => MpOps S P J fn ops rest up Q (a.put o.dst v) L1) L) : MpOps S P J fn ops (i :: rest) up Q a L := by
  intro b' K' base ρ k W a' h1 h2 h3 h4 h5
  have hw' : Region.wanted o (yielded ops a'.tmps) = true := by rw [← yielded_same h4.tmps]; exact hw
  have hk : b'.kind ≠ .early := by rw [h2]; simp
  have hrun : ∀ w, (execOp a'.eval o).runT P w #[] = (.ok (.enter f (args.map a'.eval)) w, #[]) := fun w => by
    obtain ⟨g, g1, g2, g3⟩ := hbody
    have : execOp a'.eval o = callFunc f (#[] ++ args.map a'.eval ++ #[]) := by
      simp only [execOp, hop, resolve, Deferred.ofValue, Act.eval]
      rfl
    rw [this]
    show Sem.runT P (Sem.bind program _) w #[] = _
    simp only [program, Sem.bind, Sem.runT]
    simp only [g1, g2, g3, Bool.false_eq_true, if_false, Array.empty_append, Array.append_empty]
    rfl
  refine hJ.own _ _ _ rfl rfl fun w₁ hr => ?_
  have hrel := hJ.rel _ _ _ hr
  have e := hrun w₁
  rw [Sem.runT_eq] at e
  obtain ⟨e1, e2⟩ := Prod.mk.inj e
  refine ⟨_, w₁, #[], by rw [stepG_enter ho hw' hk e1, listed, e2, seen_empty], .idle k w₁, ?_⟩
  rw [grow_self]
  have hmir := h3.rely hrel
  refine h _ base ρ k w₁ _ hmir (h4.eval.all hargs) fun v v' L1 ρ1 k1 W1 q1 q2 q3 q4 q5 => ?_
  have hfin : (b'.at a' (.inRegion ops (i :: rest) :: K')).finish v' = b'.at (a'.put o.dst v') (.inRegion ops rest :: K') := by rw [Frame.finish_at, ho]; rfl
  rw [hfin]
  exact q1 b' K' base ρ1 k1 W1 _ h1 h2 q4 ((h4.sub q2).put _ q5) (h5.at q2 fun e => ((Up.refl k W.heap.size).wide hrel.size).trans (q3 e))
end
end Go.Proofs.Yticdjkkcfdbdcaa
