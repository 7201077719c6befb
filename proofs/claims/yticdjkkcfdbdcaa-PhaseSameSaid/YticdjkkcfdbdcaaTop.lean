/- New blocks in company; len, makeFunc; a world but for its tape; what holds at the start of every Win. No program; no conditions but those named. -/
import Derived.Test.YticdjkkcfdbdcaaOps
import Derived.Test.YticdjkkcfdbdcaaMirL
import Derived.Test.YticdjkkcfdbdcaaFam
import Derived.Test.YticdjkkcfdbdcaaOkB
import Derived.Calls
namespace Go.Proofs.Yticdjkkcfdbdcaa
open Go.Conc Go.ConcN
section
variable {P : Program} {J : LK → Goroutine → World → Prop} {main : Bool} {R : LK → World → World → Prop}
/-- An operation that makes a block. -/
theorem js_new (hJ : JOk P main R J) (S : LK → World → Prop) (hSR : ∀ k w w₁, S k w → R k w w₁ → S k w₁) {ops : Array Oper} {b : Frame} {K : List Item} {cs : List Frame} {a : Act} (hb : b.kind ≠ .early) {i : Nat} {rest : List Nat} {o : Oper} {ob : Obj} (ho : ops[i]? = some o) (hw : Region.wanted o (yielded ops a.tmps) = true)
    (hop : ∀ w, (execOp a.eval o).runT P w #[] = (.ok (.value (.pointer (some ⟨w.heap.size, 0, none⟩))) { w with heap := w.heap.push ob }, #[]))
    (hn : ∀ k w, S k w → J (k.grow w.heap.size (w.heap.size + 1)) (G (b.at (a.put o.dst (.pointer (some ⟨w.heap.size, 0, none⟩))) (.inRegion ops rest :: K)) cs) { w with heap := w.heap.push ob }) {k : LK} {W : World} (h0 : S k W) : J k (G (b.at a (.inRegion ops (i :: rest) :: K)) cs) W :=
  hJ.own _ _ _ rfl rfl fun w₁ hR => by
    have hS1 := hSR _ _ _ h0 hR
    have h1 := hop w₁
    rw [Sem.runT_eq] at h1
    obtain ⟨g1, g2⟩ := Prod.mk.inj h1
    refine ⟨_, _, _, stepG_value ho hw hb g1, ?_, ?_⟩
    · show Own k w₁ _ (seen P b.fn ((execOp a.eval o).events P w₁ #[]))
      rw [g2]
      exact (own_new ob).seen _
    · rw [Array.size_push]
      exact hn k w₁ hS1
theorem opv_run {fn : FuncId} {e : Operand → Value} {o : Oper} {k : LK} {w : World} {v : Value} (h : ∀ w, (execOp e o).runT P w #[] = (.ok (.value v) w, #[])) : OpV P fn e o k w v :=
  opv_pure fun w => by have := h w; rw [Sem.runT_eq] at this; exact Prod.mk.inj this
end
/-- The world, but for what is drawn next. -/
def AtW (k0 : LK) (w0 : World) (k : LK) (w : World) : Prop := k = k0 ∧ ∃ d, w = w0.at d
theorem AtW.r {k0 : LK} {w0 : World} : ∀ k w w₁, AtW k0 w0 k w → (∃ d, w₁ = w.at d) → AtW k0 w0 k w₁ := fun _ _ _ ⟨h1, d, h2⟩ ⟨d', h3⟩ => ⟨h1, d', by rw [h3, h2]; rfl⟩
theorem AtW.self (k : LK) (w : World) : AtW k w k w := ⟨rfl, w.drawn, rfl⟩
section
variable {P : Program} {Post : Value → World → Prop} {n0 : Nat} {W0 : World}
theorem win_pre {k : LK} {g : Goroutine} {w : World} (h : Old n0 W0 k w → (∀ l, k.W l ∨ k.R l → MemLoc w.heap.size l) → Win P Post n0 W0 k g w) : Win P Post n0 W0 k g w := by
  intro Shun gs sl t q hO h0 hL hP hRel hS hk
  exact h hO (fun l hl => (hk l hl).1) Shun gs sl t q hO h0 hL hP hRel hS hk
end
end Go.Proofs.Yticdjkkcfdbdcaa

/- Behind a join: a row of the lone world is told anew as the workers left it. No program; no conditions but those named. -/
namespace Go.Proofs.Yticdjkkcfdbdcaa
open Go.Conc Go.ConcN
section
variable {S : FnSet} {P : Program} {ρ : Ren} {k k' : LK} {L W W' : World}
/-- The lone world with a row told anew. -/
def reRow (L : World) (b : Nat) (x : Array Value) (e : TypeId) (fz : Nat × Nat) : World := { L with heap := L.heap.setIfInBounds b (.cells x e fz) }
theorem reRow_ne (L : World) {b b0 : Nat} (x : Array Value) (e : TypeId) (fz : Nat × Nat) (h : b ≠ b0) : (reRow L b0 x e fz).heap[b]? = L.heap[b]? := by
  simp [reRow, Array.getElem?_setIfInBounds, Ne.symm h]
theorem reRow_eq {L : World} {b0 : Nat} {o : Obj} (x : Array Value) (e : TypeId) (fz : Nat × Nat) (h : L.heap[b0]? = some o) : (reRow L b0 x e fz).heap[b0]? = some (.cells x e fz) := by
  have : b0 < L.heap.size := (Array.getElem?_eq_some_iff.1 h).1
  simp [reRow, Array.getElem?_setIfInBounds, this]
theorem reRow_size (L : World) (b0 : Nat) (x : Array Value) (e : TypeId) (fz : Nat × Nat) : (reRow L b0 x e fz).heap.size = L.heap.size := by simp [reRow]
theorem WR.join (h : WR S ρ k L W) {X : Loc → Prop} (hr : Rely (keepK X) W W') (hW : ∀ l, k.W l → k'.W l) (hR : ∀ l, k.R l → k'.R l) {b0 c0 s0 : Nat} {x x1 : Array Value} {e : TypeId} {fz : Nat × Nat} (hb0 : ρ b0 = some (c0, s0)) (hl0 : L.heap[b0]? = some (.cells x e fz)) (hx : x1.size = x.size)
    (hX : ∀ b c s x e fz (i : Nat), ρ b = some (c, s) → L.heap[b]? = some (.cells x e fz) → i < x.size → b ≠ b0 → X (.cell ⟨c, s + i, none⟩)) (hXo : ∀ c, k.W (.obj c) → X (.obj c))
    (hnew : ∀ (i : Nat) v, x1[i]? = some v → ∃ v', W'.cell? ⟨c0, s0 + i, none⟩ = some v' ∧ VR S ρ v v') : WR S ρ k' (reRow L b0 x1 e fz) W' := by
  have hk : ∀ l, k.W l ∨ k.R l → k'.W l ∨ k'.R l := fun l hl => hl.imp (hW l) (hR l)
  -- rows of the new world, from those of the old
  have old : ∀ (b : Nat) o, (reRow L b0 x1 e fz).heap[b]? = some o → (b = b0 ∧ o = .cells x1 e fz) ∨ (b ≠ b0 ∧ L.heap[b]? = some o) := fun b o ho => by
    by_cases hb : b = b0
    · subst hb
      rw [reRow_eq x1 e fz hl0] at ho
      cases ho
      exact .inl ⟨rfl, rfl⟩
    · rw [reRow_ne L x1 e fz hb] at ho
      exact .inr ⟨hb, ho⟩
  have row : ∀ (b : Nat) y e' fz', (reRow L b0 x1 e fz).heap[b]? = some (.cells y e' fz') → ∃ y0, L.heap[b]? = some (.cells y0 e' fz') ∧ y0.size = y.size := fun b y e' fz' ho => by
    rcases old b _ ho with ⟨rfl, e1⟩ | ⟨_, h1⟩
    · cases e1; exact ⟨x, hl0, hx.symm⟩
    · exact ⟨y, h1, rfl⟩
  have obj : ∀ (b : Nat) o, (reRow L b0 x1 e fz).heap[b]? = some o → NotCells o → L.heap[b]? = some o ∧ b ≠ b0 := fun b o ho hn => by
    rcases old b _ ho with ⟨rfl, e1⟩ | ⟨h0, h1⟩
    · exact absurd e1 (hn _ _ _)
    · exact ⟨h1, h0⟩
  refine ⟨fun b o ho => ?_, ⟨by rw [reRow_size]; exact h.base.1, Nat.le_trans h.base.2 hr.size⟩, fun b n y c s r t ho => h.chan b n y c s r t (obj b _ ho (by intro c e f hx; cases hx)).1, fun b hb => by rw [reRow_size]; exact h.chanLt b hb, fun b c s hb => ⟨by rw [reRow_size]; exact (h.lt b c s hb).1, Nat.lt_of_lt_of_le (h.lt b c s hb).2 hr.size⟩, fun b c s y e' fz' hb ho => ?_, fun b c s y e' fz' hb ho i v hv => ?_, fun b c s o hb ho hn => ?_, fun b c s o hb ho hor => ?_, fun b o hb ho hn => ?_, fun b b' c s s' y y' e1 e2 f1 f2 i i' h1 h2 h3 h4 h5 h6 h7 h8 => ?_, fun b b' c s s' o o' h1 h2 h3 h4 h5 h6 => ?_, fun b c s n y cl sn rc t hb ho => ?_⟩
  · rcases old b o ho with ⟨rfl, rfl⟩ | ⟨_, h1⟩
    · exact .inl ⟨_, _, _, rfl⟩
    · exact h.kinds b o h1
  · obtain ⟨y0, h1, h2⟩ := row b y e' fz' ho
    obtain ⟨x', e2, fz2, h3, hsh⟩ := h.shapes b c s y0 e' fz' hb h1
    obtain ⟨o₁, h4, h5⟩ := hr.shape c _ h3
    cases o₁ with
    | cells x₁ e₁ f₁ => exact ⟨_, _, _, h4, hsh.imp (fun q => ⟨q.1, q.2.1, h5.1.symm.trans (q.2.2.1.trans h2), h5.2.1.symm.trans q.2.2.2⟩) id⟩
    | _ => exact h5.elim
  · rcases old b _ ho with ⟨rfl, e1⟩ | ⟨hbn, h1⟩
    · cases e1
      rw [hb0] at hb
      cases hb
      have hi : i < x.size := hx ▸ (Array.getElem?_eq_some_iff.1 hv).1
      obtain ⟨x', e2, fz2, v', g1, g2, g3, g4, g5⟩ := h.cells b c0 s0 x e fz hb0 hl0 i _ (Array.getElem?_eq_getElem hi)
      obtain ⟨o₁, g6, g7⟩ := hr.shape c0 _ g1
      cases o₁ with
      | cells x₁ e₁ f₁ =>
        obtain ⟨_, rfl, rfl⟩ := g7
        obtain ⟨v1, q1, q2⟩ := hnew i v hv
        simp only [World.cell?, g6, Option.isSome_none, Bool.false_eq_true, if_false] at q1
        exact ⟨x₁, _, _, v1, g6, q1, q2, hk _ g4, fun hn => ⟨hW _ (g5 hn).1, (g5 hn).2⟩⟩
      | _ => exact g7.elim
    · obtain ⟨x', e2, fz2, v', g1, g2, g3, g4, g5⟩ := h.cells b c s y e' fz' hb h1 i v hv
      obtain ⟨o₁, g6, g7⟩ := hr.shape c _ g1
      cases o₁ with
      | cells x₁ e₁ f₁ =>
        obtain ⟨_, rfl, rfl⟩ := g7
        have := hr.cell ⟨c, s + i, none⟩ (.inr (hX b c s y e' fz' i hb h1 (Array.getElem?_eq_some_iff.1 hv).1 hbn))
        simp only [World.cell?, g1, g6] at this
        exact ⟨x₁, _, _, v', g6, this.trans g2, g3, hk _ g4, fun hn => ⟨hW _ (g5 hn).1, (g5 hn).2⟩⟩
      | _ => exact g7.elim
  · obtain ⟨h1, _⟩ := obj b o ho hn
    obtain ⟨g1, o', g2, g3⟩ := h.others b c s o hb h1 hn
    obtain ⟨o₁, g4, g5⟩ := hr.shape c _ g2
    exact ⟨g1, o₁, g4, g5.not g3⟩
  · obtain ⟨o1, ho1⟩ := hor
    have h1 := (obj b o ho ho1.notCells.1).1
    obtain ⟨g1, o', g2, g3, g4⟩ := h.objs b c s o hb h1 ⟨o1, ho1⟩
    exact ⟨g1, o', hr.obj c o' g2 g3.notCells.2 (.inr (hXo c g4)), g3, hW _ g4⟩
  · exact h.owns b o hb (obj b o ho hn).1 hn
  · obtain ⟨y0, q1, q2⟩ := row b y e1 f1 h3
    obtain ⟨y0', q3, q4⟩ := row b' y' e2 f2 h4
    exact h.apart b b' c s s' y0 y0' e1 e2 f1 f2 i i' h1 h2 q1 q3 (by omega) (by omega) h7 h8
  · exact h.apartO b b' c s s' o o' h1 h2 (obj b o h3 h5).1 (obj b' o' h4 h6).1 h5 h6
  · obtain ⟨x', g1, g2, g3⟩ := h.chans b c s n y cl sn rc t hb (obj b _ ho not_cells_chan).1
    exact ⟨x', hr.obj c _ g1 not_cells_chan (.inr (hXo c g3)), g2, hW _ g3⟩
end
end Go.Proofs.Yticdjkkcfdbdcaa

/- The mirrored walk by pieces: a lone walk, then what follows. No program; no conditions but those named. -/
namespace Go.Proofs.Yticdjkkcfdbdcaa
open Go.Conc Go.ConcN
/-- What a lone walk of a piece has to show at its end. -/
def MpPost (Q : Exit → Act → World → Prop) (e : Exit) (a : Act) (L : World) : Prop := (e = .normal ∨ e = .ret) ∧ (a.defers = [] → Q e a L)
section
variable {S : FnSet} {P : Program} {J : LK → Goroutine → World → Prop} {main : Bool} {R : LK → World → World → Prop}
theorem MpPost.normal {K : Act → World → Prop} {Q : Exit → Act → World → Prop} {a : Act} {L : World} (h : K a L) : MpPost (Exit.then K Q) .normal a L := ⟨.inl rfl, fun _ => h⟩
theorem MpPost.ret {K : Act → World → Prop} {Q : Exit → Act → World → Prop} {a : Act} {L : World} (h : Q .ret a L) : MpPost (Exit.then K Q) .ret a L := ⟨.inr rfl, fun _ => h⟩
theorem Mir.tape {ρ : Ren} {k : LK} {L W : World} (h : Mir S P ρ k L W) {L' : World} (e : L'.heap = L.heap) : Mir S P ρ k L' W := ⟨h.wr.heaps e rfl, h.pr⟩
theorem Mp.tape {fn : FuncId} {c : Code} {up : Bool} {Q : Exit → Act → World → Prop} {a : Act} {L L' : World} (e : L'.heap = L.heap) (h : Mp S P J fn c up Q a L) : Mp S P J fn c up Q a L' :=
  fun b' K' base ρ k W a' h1 h2 h3 h4 h5 => h b' K' base ρ k W a' h1 h2 (h3.tape e.symm) h4 h5
theorem MpOps.tape {fn : FuncId} {ops : Array Oper} {todo : List Nat} {up : Bool} {Q : Exit → Act → World → Prop} {a : Act} {L L' : World} (e : L'.heap = L.heap) (h : MpOps S P J fn ops todo up Q a L) : MpOps S P J fn ops todo up Q a L' :=
  fun b' K' base ρ k W a' h1 h2 h3 h4 h5 => h b' K' base ρ k W a' h1 h2 (h3.tape e.symm) h4 h5
theorem MCalls.tape {f : FuncId} {args : Array Value} {up : Bool} {R' : Value → World → Prop} {L L' : World} (e : L'.heap = L.heap) (h : MCalls S P J f args up R' L) : MCalls S P J f args up R' L' :=
  fun c' base ρ k W args' h1 h2 h3 => h c' base ρ k W args' (h1.tape e.symm) h2 h3
theorem Mp.piece {l v : List FuncId} (hJ : JOk P main R J) (hO : OkFns (InV l v) P) {fn : FuncId} (hres : ResFn P fn) {x y : Code} (hx : okCodeB l v P x = true) {up : Bool} {Q : Exit → Act → World → Prop} {a : Act} {L : World}
    (h : ∀ T, x.wp P (MpPost (Exit.then (fun a1 L1 => Mp (InV l v) P J fn y up Q a1 L1) Q)) a { L with tape := T }) : Mp (InV l v) P J fn (.seq x y) up Q a L :=
  Mp.seq hJ (Mp.lone hJ hO hres (okCodeB_ok hx) h)
theorem Mp.last {l v : List FuncId} (hJ : JOk P main R J) (hO : OkFns (InV l v) P) {fn : FuncId} (hres : ResFn P fn) {x : Code} (hx : okCodeB l v P x = true) {up : Bool} {Q : Exit → Act → World → Prop} {a : Act} {L : World}
    (h : ∀ T, x.wp P (MpPost Q) a { L with tape := T }) : Mp (InV l v) P J fn x up Q a L := Mp.lone hJ hO hres (okCodeB_ok hx) h
theorem Mp.piece' {l v : List FuncId} (hJ : JOk P main R J) (hO : OkFns (InV l v) P) {fn : FuncId} (hres : ResFn P fn) {x y : Code} (hx : okCodeB l v P x = true) {up : Bool} {Q : Exit → Act → World → Prop} {a : Act} {L : World} (F : World → Prop) (hF : ∀ L' : World, L'.heap = L.heap → F L')
    (h : ∀ L', F L' → x.wp P (MpPost (Exit.then (fun a1 L1 => Mp (InV l v) P J fn y up Q a1 L1) Q)) a L') : Mp (InV l v) P J fn (.seq x y) up Q a L :=
  Mp.piece hJ hO hres hx fun T => h _ (hF _ rfl)
theorem Mp.last' {l v : List FuncId} (hJ : JOk P main R J) (hO : OkFns (InV l v) P) {fn : FuncId} (hres : ResFn P fn) {x : Code} (hx : okCodeB l v P x = true) {up : Bool} {Q : Exit → Act → World → Prop} {a : Act} {L : World} (F : World → Prop) (hF : ∀ L' : World, L'.heap = L.heap → F L')
    (h : ∀ L', F L' → x.wp P (MpPost Q) a L') : Mp (InV l v) P J fn x up Q a L := Mp.last hJ hO hres hx fun T => h _ (hF _ rfl)
theorem MpPost.end {Q : Exit → Act → World → Prop} {a : Act} {L : World} (h : Q .normal a L) : MpPost Q .normal a L := ⟨.inl rfl, fun _ => h⟩
theorem MpPost.leave {Q : Exit → Act → World → Prop} {a : Act} {L : World} (h : Q .ret a L) : MpPost Q .ret a L := ⟨.inr rfl, fun _ => h⟩
/-- An operation that yields a value and turns nothing. -/
theorem MpOps.val (hJ : JOk P main R J) (hb : Bodies S P) {fn : FuncId} {ops : Array Oper} {i : Nat} {rest : List Nat} {o : Oper} {up : Bool} {Q : Exit → Act → World → Prop} {a : Act} {L : World} {v : Value} (ho : ops[i]? = some o) (hw : Region.wanted o (yielded ops a.tmps) = true) (hok : okOp S P o.op)
    (hop : ∀ w, (execOp a.eval o).runT P w #[] = (.ok (.value v) w, #[])) (h : MpOps S P J fn ops rest up Q (a.put o.dst v) L) : MpOps S P J fn ops (i :: rest) up Q a L :=
  MpOps.op hJ hb ho hw hok fun T => ⟨{ L with tape := T }, .inl ⟨v, by have := hop { L with tape := T }; rw [Sem.runT_eq] at this; exact (Prod.mk.inj this).1, MpOps.tape (L := L) (L' := { L with tape := T }) rfl h⟩⟩
end
end Go.Proofs.Yticdjkkcfdbdcaa

/- A statement 'a, b := f(x, y, z)', told of the lone world. No program; no conditions but those named. -/
namespace Go.Proofs.Yticdjkkcfdbdcaa
open Go.Conc Go.ConcN
section
variable {S : FnSet} {P : Program} {J : LK → Goroutine → World → Prop} {main : Bool} {R : LK → World → World → Prop}
theorem MCalls.mono {f : FuncId} {args : Array Value} {up : Bool} {A B : Value → World → Prop} {L : World} (h : MCalls S P J f args up A L) (hi : ∀ v L1, A v L1 → B v L1) : MCalls S P J f args up B L :=
  fun c' base ρ k W args' h1 h2 h3 => h c' base ρ k W args' h1 h2 fun v v' L1 ρ1 k1 W1 q => h3 v v' L1 ρ1 k1 W1 (hi _ _ q)
theorem run_ex (e : Operand → Value) (o : Oper) {x : Operand} {i : Nat} {vs : Array Value} {v : Value} (hop : o.op = .extract x i) (hx : e x = .tuple vs) (hv : vs[i]? = some v) (w : World) : (execOp e o).runT P w #[] = (.ok (.value v) w, #[]) := by simp [go_sem, hop, hx, hv, execOp]
/-- Its text. -/
def call3 (f : FuncId) (ats : Array TypeId) (c1 c2 c3 c4 c5 c6 c7 d1 d2 : Tmp) : Array (Op × Option (Nat × Bool) × Option Tmp) :=
  #[(.move (.tmp 0), none, some c1), (.move (.tmp 1), none, some c2), (.move (.tmp 2), none, some c3), (.call { callee := .value (.func f), args := #[.tmp c1, .tmp c2, .tmp c3], argTypes := ats }, none, some c4), (.move (.tmp c4), none, some c5), (.extract (.tmp c5) 0, none, some c6), (.extract (.tmp c5) 1, none, some c7), (.assign (.tmp c6), none, some d1), (.assign (.tmp c7), none, some d2)]
theorem MpOps.call' (hJ : JOk P main R J) {fn : FuncId} {up : Bool} {Q : Exit → Act → World → Prop} {a : Act} {L : World} {ops : Array Oper} {i : Nat} {rest : List Nat} {o : Oper} {f : FuncId} {args : Array Operand} {ats : Array TypeId} {args0 : Array Value} (ho : ops[i]? = some o) (hw : Region.wanted o (yielded ops a.tmps) = true)
    (hop : o.op = .call { callee := .value (.func f), args := args, argTypes := ats }) (hargs : ∀ x ∈ args, okX S x) (hbody : ∃ g, P.funcs[f]? = some g ∧ (g.name == "runtime.NumGoroutine") = false ∧ g.body.isNone = false) (he : args.map a.eval = args0)
    (h : MCalls S P J f args0 up (fun v L1 => MpOps S P J fn ops rest up Q (a.put o.dst v) L1) L) : MpOps S P J fn ops (i :: rest) up Q a L := MpOps.call hJ ho hw hop hargs hbody (he ▸ h)
end
end Go.Proofs.Yticdjkkcfdbdcaa

/- A region whose order is drawn, alone: the kernel looks at its text once. No program; no conditions but those named. -/
namespace Go.Proofs.Yticdjkkcfdbdcaa
open Go.Conc Go.ConcN
section
variable {ops : Array Oper} {m : Nat} {P : Program}
theorem wp_drawn (hmx : P.follows .mixedOrders = true) (hok : drawOk ops m = true) (S : World → Prop) (hSd : ∀ (w : World) d, S w → S { w with drawn := d }) (V : Nat → Value) {id : Nat} {a : Act} {Q : Exit → Act → World → Prop}
    (hop : ∀ i o, ops[i]? = some o → i ≠ m →
      (∀ w, S w → (execOp (putsV ops V (List.range m) a).eval o).run P w = .ok (.value (V i)) w) ∨
      (∃ f args, (∀ w, (execOp (putsV ops V (List.range m) a).eval o).run P w = .ok (.enter f args) w) ∧ ∀ w, S w → Calls P f args w fun e w' => e = .returned (V i) ∧ S w'))
    (hlast : ∀ w, S w → wpOps P ops Q [m] (putsV ops V (List.range m) a) w) {w : World} (h0 : S w) : (Code.region id ops true).wp P Q a w := by
  have key : ∀ (fuel t : Nat) (listed : Array Bool) (a' : Act) (w : World), Held ops V m a listed a' → ((List.range ops.size).filter fun i => !listed.getD i true).length ≤ fuel → S w → wpOps P ops Q (Region.linearise.go .any ops fuel t listed []) a' w := by
    intro fuel
    induction fuel with
    | zero =>
      intro t listed a' w hh hc _
      exfalso
      have hm : m + 1 = ops.size := by unfold drawOk at hok; simp only [Bool.and_eq_true, decide_eq_true_eq] at hok; exact hok.1
      have : m ∈ (List.range ops.size).filter fun i => !listed.getD i true := List.mem_filter.2 ⟨List.mem_range.2 (by omega), by rw [getD_true (by rw [hh.size]; omega), hh.last]; rfl⟩
      have := List.length_pos_of_mem this
      omega
    | succ fuel ih =>
      intro t listed a' w hh hc hS
      have hm : m + 1 = ops.size := by
        have hok' := hok
        unfold drawOk at hok'; simp only [Bool.and_eq_true, decide_eq_true_eq] at hok'; exact hok'.1
      have hne : ∃ j, j ∈ Region.ready .any ops listed := ready_least hok m m (Nat.le_refl _) (by omega) (by rw [getD_true (by rw [hh.size]; omega)]; exact hh.last)
      simp only [Region.linearise.go]
      change wpOps P ops Q (match (Region.ready .any ops listed)[t % (Region.ready .any ops listed).length]? with
        | some i => Region.linearise.go .any ops fuel (t / (Region.ready .any ops listed).length) (listed.setIfInBounds i true) [i]
        | none => [].reverse) a' w
      cases hi : (Region.ready .any ops listed)[t % (Region.ready .any ops listed).length]? with
      | none =>
        exfalso
        obtain ⟨j, hj⟩ := hne
        have hpos := List.length_pos_of_mem hj
        have hlt : t % (Region.ready .any ops listed).length < (Region.ready .any ops listed).length := Nat.mod_lt _ hpos
        rw [List.getElem?_eq_none_iff] at hi
        omega
      | some i =>
        simp only []
        rw [linearise_go_acc, List.reverse_singleton, List.singleton_append]
        have hmem := List.mem_of_getElem? hi
        obtain ⟨hin, hrd⟩ := List.mem_filter.1 hmem
        have hin' := List.mem_range.1 hin
        have ho : ops[i]? = some ops[i] := Array.getElem?_eq_getElem hin'
        simp only [Bool.and_eq_true, Bool.not_eq_true', ho, Option.map_some, Option.getD_some] at hrd
        obtain ⟨hun, hall⟩ := hrd
        rw [Array.all_eq_true'] at hall
        have hedge : ∀ e ∈ ops[i].after, Region.binds .any e = true → listed.getD e.on false = true := fun e he hb => by
          have := hall e he
          simpa [hb] using this
        have hli : i < listed.size := by rw [hh.size]; exact hin'
        by_cases him : i = m
        · subst him
          have hrest : Region.linearise.go .any ops fuel (t / (Region.ready .any ops listed).length) (listed.setIfInBounds i true) [] = [] := by
            have hothers : ∀ j, j < ops.size → (listed.setIfInBounds i true).getD j true = true := fun j hj => by
              rw [getD_true (by simp [hh.size]; exact hj), getD_set _ _ _ hli]
              by_cases e : j = i
              · rw [if_pos e]
              · rw [if_neg e]
                have hreach := (drawOk_at hok (Array.getElem?_eq_getElem hj)).2.2.2.2.1.resolve_left e
                exact hh.reach _ i j hreach fun o' ho' => by rw [ho] at ho'; cases ho'; exact hedge
            cases fuel with
            | zero => rfl
            | succ f =>
              simp only [Region.linearise.go]
              have : (List.range ops.size).filter (fun j => !(listed.setIfInBounds i true).getD j true && ((ops[j]?).map (·.after.all fun e => !Region.binds .any e || (listed.setIfInBounds i true).getD e.on false)).getD false) = [] := by
                rw [List.filter_eq_nil_iff]
                intro j hj
                rw [hothers j (List.mem_range.1 hj)]
                simp
              rw [this]
              rfl
          rw [hrest]
          have hfull : a' = putsV ops V (List.range i) a := hh.full hok fun j hj => by
            have hj' : j < ops.size := by omega
            have hreach := (drawOk_at hok (Array.getElem?_eq_getElem hj')).2.2.2.2.1.resolve_left (by omega)
            exact hh.reach _ i j hreach fun o' ho' => by rw [ho] at ho'; cases ho'; exact hedge
          rw [hfull]
          exact hlast w hS
        · have heval := hh.eval hok ho him hedge
          have hwant : Region.wanted ops[i] (yielded ops a'.tmps) = true := by unfold Region.wanted; rw [(drawOk_at hok ho).2.1]
          have hstep := hh.step hok ho him hedge
          have hcnt : ((List.range ops.size).filter fun j => !(listed.setIfInBounds i true).getD j true).length ≤ fuel := by
            have e : (List.range ops.size).filter (fun j => !(listed.setIfInBounds i true).getD j true) = ((List.range ops.size).filter fun j => !listed.getD j true).filter fun j => j != i := by
              rw [List.filter_filter]
              refine List.filter_congr fun j hj => ?_
              have hj' := List.mem_range.1 hj
              rw [getD_true (by simp [hh.size]; exact hj'), getD_set _ _ _ hli, getD_true (by rw [hh.size]; exact hj')]
              by_cases e : j = i
              · simp [e]
              · simp [e]
            have hmi : i ∈ (List.range ops.size).filter fun j => !listed.getD j true := List.mem_filter.2 ⟨hin, by rw [hun]; rfl⟩
            have hlt := (List.length_filter_lt_length_iff_exists (p := fun j => j != i) (l := (List.range ops.size).filter fun j => !listed.getD j true)).2 ⟨i, hmi, by simp⟩
            rw [e]; omega
          simp only [wpOps, ho, hwant, if_true]
          refine .inl ?_
          unfold Oper.wp
          rcases hop i _ ho him with hv | ⟨f, args, hrun, hcall⟩
          · have g1 := hv w hS
            rw [← heval] at g1
            rw [g1]
            exact ih _ _ _ w hstep hcnt hS
          · have g1 := hrun w
            rw [← heval] at g1
            rw [g1]
            refine (hcall w hS).mono ?_
            rintro e w' ⟨rfl, hS'⟩
            exact ih _ _ _ w' hstep hcnt hS'
  refine wp_region_draw fun t => ?_
  simp only [Region.schedule, hmx, Bool.true_or, if_true]
  refine key ops.size _ _ a _ ⟨by simp, rfl, rfl, fun t ht => ?_, fun j o hj => ?_, ?_⟩ ?_ (hSd _ _ h0)
  · unfold valAt
    have hrep : ∀ j, (Array.replicate ops.size false).getD j false = false := fun j => by
      rw [Array.getD_eq_getD_getElem?, Array.getElem?_replicate]
      split <;> rfl
    cases prodOf ops t with
    | none => rfl
    | some j => simp only [hrep]; rfl
  · exfalso
    rw [Array.getD_eq_getD_getElem?, Array.getElem?_replicate] at hj
    split at hj <;> simp at hj
  · rw [Array.getD_eq_getD_getElem?, Array.getElem?_replicate]
    split <;> rfl
  · exact Nat.le_trans (List.length_filter_le _ _) (by simp)
end
end Go.Proofs.Yticdjkkcfdbdcaa

/- The whole call: from the mirrored walk of its body to a run that ends well. No program; no conditions but those named. -/
namespace Go.Proofs.Yticdjkkcfdbdcaa
open Go.Conc Go.ConcN
section
variable {P : Program} {Post : Value → World → Prop} {n0 : Nat} {W0 : World} {S : FnSet}
/-- The last frame leaves. -/
theorem stepG_done {b : Frame} {a : Act} {todo : List Item} {fn : Func} {w : World} {v : Value} (hn : b.kind = .normal) (hd : a.defers = []) (hf : P.funcs[b.fn]? = some fn) (hr : (results fn a.tmps).run P w = .ok v w) (he : (results fn a.tmps).events P w #[] = #[]) (hi : P.inits.idxOf? b.fn = none) :
    stepG P true (G { b.at a todo with mode := .returning } []) w = .ended (.done v) w #[] := by
  simp [G, stepG, unwind, doReturn, Frame.at, hn, hd, hf, hr, he, hi, seen, GStep.after]
theorem mp_top {f : FuncId} {fn : Func} {c : Code} (hf : P.funcs[f]? = some fn) (hb : fn.body = some c) (hi : P.inits.idxOf? f = none) (hr : ∀ (i : Nat) r, fn.results[i]? = some r → ∃ t, r = .tmp t) {args args' : Array Value} {L W : World} {ρ : Ren} {k : LK} {R : Value → Prop}
    (hm : Mir S P ρ k L W) (ha : VRs S ρ args args') (h : Mp S P (fun k g w => Win P Post n0 W0 k g w) f c false (fun e a1 _ => (e = .normal ∨ e = .ret) ∧ R (pack (resVals fn a1.tmps))) ⟨args ++ Array.replicate (fn.ntmps - args.size) undef, []⟩ L)
    (hpost : ∀ v v' ρ1 k1 w, R v → VR S ρ1 v v' → Old n0 W0 k1 w → Post v' w) : Win P Post n0 W0 k (G (Frame.enter P f args' .normal) []) W := by
  have hJ : JOk P true _ (fun k g w => Win P Post n0 W0 k g w) := win_jok (P := P) (Post := Post) (n0 := n0) (W0 := W0)
  rw [enter_at args' hf hb]
  have hlast : ∀ (a1 a1' : Act) ρ1 k1 W1 todo, R (pack (resVals fn a1.tmps)) → ActR S ρ1 a1 a1' → Win P Post n0 W0 k1 (G { (base f).at a1' todo with mode := .returning } []) W1 := by
    intro a1 a1' ρ1 k1 W1 todo hR h4
    have hv : VR S ρ1 (pack (resVals fn a1.tmps)) (pack (resVals fn a1'.tmps)) := VRs.pack (VRs.map _ fun r _ => by
      cases r with
      | tmp t => exact h4.tmps.getD t VR.undef
      | cell a t => exact VR.undef)
    refine win_end rfl (v := pack (resVals fn a1'.tmps)) (fun d => stepG_done rfl h4.d' hf (by rw [results_tmps hr]; rfl) (by rw [results_tmps hr]; rfl) hi) fun d hO => hpost _ _ ρ1 k1 _ hR hv hO
  refine h _ [] [] ρ k W _ rfl rfl hm ⟨?_, rfl, rfl⟩ fun e a1 L1 ρ1 k1 W1 a1' hq _ _ g3 g4 => ?_
  · simp only [← ha.1]
    exact ha.append (VRs.same VR.undef)
  · obtain ⟨he, hR⟩ := hq
    rcases he with rfl | rfl
    · exact j_ctl hJ (fun w => stepG_end) fun w₁ _ => hlast a1 a1' ρ1 k1 w₁ [] hR g4
    · exact fun todo => hlast a1 a1' ρ1 k1 W1 todo hR g4
/-- From the start. -/
theorem win_runs {k : LK} {g : Goroutine} {W : World} (h : Win P Post W.heap.size W k g W) (hk : ∀ l, k.W l → False) (hR : ∀ l, k.R l → MemLoc W.heap.size l) : EndsWell P Post (solo g W) #[] := by
  have h1 := h (fun _ => False) #[g] none #[] (fun _ => 0) ⟨Nat.le_refl _, fun _ _ => rfl, rfl, rfl, fun l hl => (hk l hl).elim, rfl⟩ rfl ?_ ?_ (fun op hop => by simp at hop) (fun l hl => hl.elim) fun l hl => ⟨hl.elim (fun x => (hk l x).elim) (hR l), id⟩
  · exact h1
  · refine ⟨fun i g' hi hg => ?_, fun j hj => rfl⟩
    have : i < 1 := by have := (Array.getElem?_eq_some_iff.1 hg).1; simpa using this
    omega
  · exact past_nil.mono (Nat.zero_le _)
end
end Go.Proofs.Yticdjkkcfdbdcaa
