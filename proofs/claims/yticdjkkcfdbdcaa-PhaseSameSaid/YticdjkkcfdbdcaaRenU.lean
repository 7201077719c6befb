/- A lone run serves a goroutine in company: stacks, and steps of whole goroutines. No program; no conditions but those named. -/
import Derived.Test.YticdjkkcfdbdcaaRenM
import Derived.KernelRfl
namespace Go.Proofs.Yticdjkkcfdbdcaa
open Go.Conc Go.ConcN

/-- The frame at the bottom of the lone one's stack: a panic that comes to it ends the run, and so does a return. -/
def wall (P : Program) : Frame := { fn := P.funcs.size, tmps := #[], todo := [.call { target := .nil, args := #[] } false "fmt's door nowhere" #[]], defers := [], mode := .run, kind := .normal }
def Kx (K : List Item) : List Frame → List Item
  | [] => K
  | _ :: _ => []
def cal (K : List Item) : List Frame → List Frame
  | [] => []
  | c :: r => ext (Kx K r) c :: cal K r
/-- A goroutine: the piece's frames, the lowest with what stands behind it, and those below. -/
def gor (K : List Item) (f : Frame) (fs base : List Frame) : Goroutine := G (ext (Kx K fs) f) (cal K fs ++ base)
inductive Cals (S : FnSet) (P : Program) (ρ : Ren) : List Frame → List Frame → Prop
  | nil : Cals S P ρ [] []
  | cons {c c' : Frame} {r r' : List Frame} (h : FR S P ρ c c') (hm : c.mode = .run) (ht : ∃ ops i rest k, c.todo = .inRegion ops (i :: rest) :: k) (t : Cals S P ρ r r') : Cals S P ρ (c :: r) (c' :: r')
theorem Cals.mono {S : FnSet} {P : Program} {ρ ρ' : Ren} {a b : List Frame} (h : Cals S P ρ a b) (hr : ρ.le ρ') : Cals S P ρ' a b := by
  induction h with
  | nil => exact .nil
  | cons h hm ht _ ih => exact .cons (h.mono hr) hm ht ih
theorem Cals.kx {S : FnSet} {P : Program} {ρ : Ren} {a b : List Frame} (h : Cals S P ρ a b) (K : List Item) : (a = [] ↔ b = []) := by cases h <;> simp
section
variable {S : FnSet} {P : Program} {ρ : Ren}
theorem sim_step (hO : OkFns S P) (hp : PR P ρ) {f f' : Frame} {fs fs' : List Frame} (h : FR S P ρ f f') (hc : Cals S P ρ fs fs') {K K' : List Item} (hK : ∀ id, exitTo id K = none)
    (hnf : fs = [] → f.mode = .run ∧ (f.todo = [] → K = [] ∧ K' = [])) {kk : LK} {L W : World} (hw : WR S ρ kk L W) (hag : ∀ j, j < curDraws P f' W → ∀ q, L.tape (L.drawn + j) q = W.tape (W.drawn + j) q) (main : Bool) (bl bw : List Frame) :
    Lost P (gor K f fs bl) L ∧ f.mode = .run ∨ ∃ ρ' L' W' es l f1 f1' fs1 fs1', ρ.le ρ' ∧ WR S ρ' (kk.grow W.heap.size W'.heap.size) L' W' ∧ Own kk W W' l ∧ L'.tape = L.tape ∧ (L'.drawn = L.drawn + curDraws P f' W ∧ W'.drawn = W.drawn + curDraws P f' W) ∧ FR S P ρ' f1 f1' ∧ Cals S P ρ' fs1 fs1' ∧
      stepG P true (gor K f fs bl) L = .go (gor K f1 fs1 bl) L' es ∧ stepG P main (gor K' f' fs' bw) W = .go (gor K' f1' fs1' bw) W' l := by
  rcases h.mode with ⟨hm, hm'⟩ | ⟨hm, hm'⟩
  · have hn : f.todo = [] → Kx K fs = [] ∧ Kx K' fs' = [] := fun e => by
      cases hc with
      | nil => exact (hnf rfl).2 e
      | cons _ _ _ _ => exact ⟨rfl, rfl⟩
    have hKx : ∀ id, exitTo id (Kx K fs) = none := fun id => by cases fs with | nil => exact hK id | cons _ _ => rfl
    rcases step_run hO hp h hm hw hag main (Kx K fs) (Kx K' fs') hKx hn (cal K fs ++ bl) (cal K' fs' ++ bw) with g | ⟨ρ', L', W', es, l, f1, f1', g1, g2, g3, g4, g5, g6, g7⟩
    · exact .inl ⟨g, hm⟩
    · right
      rcases g7 with ⟨g7, g8⟩ | ⟨g9, g7, g8⟩
      · exact ⟨ρ', L', W', es, l, f1, f1', fs, fs', g1, g2, g3, g4, g5, g6, hc.mono g1, g7, g8⟩
      · refine ⟨ρ', L', W', es, l, f1, f1', f :: fs, f' :: fs', g1, g2, g3, g4, g5, g6, .cons (h.mono g1) hm g9 (hc.mono g1), ?_, ?_⟩
        · rw [gor, g7, gor, Kx, ext_nil]; rfl
        · rw [gor, g8, gor, Kx, ext_nil]; rfl
  · right
    cases hc with
    | nil => have := (hnf rfl).1; rw [hm] at this; cases this
    | @cons c c' r r' h1 h2 h3 h4 =>
      obtain ⟨v, v', g1, g2, g3, _⟩ := step_ret h hm [] []
      obtain ⟨ops, i, rest, k, ht⟩ := h3
      have ht' : c'.todo = .inRegion ops (i :: rest) :: k := h1.todo.trans ht
      refine ⟨ρ, L, W, #[], #[], c.finish v, c'.finish v', r, r', .refl _, by rw [grow_self]; exact hw, (.idle kk W), rfl, by simp only [curDraws, hm']; exact ⟨rfl, rfl⟩, h1.finish g1, h4, ?_, ?_⟩
      · show stepG P true (G (ext [] f) (ext (Kx K r) c :: (cal K r ++ bl))) L = _
        rw [g2, ext_finish ht]; rfl
      · show stepG P main (G (ext [] f') (ext (Kx K' r') c' :: (cal K' r' ++ bw))) W = _
        rw [g3, ext_finish ht']; rfl
/-- A panic never comes back. -/
theorem panic_never : ∀ (cs : List Frame) (f : Frame) (L : World), (∃ ch, f.mode = .panicking ch) → f.defers = [] → (∃ fn, P.funcs[f.fn]? = some fn) → (∀ c ∈ cs, c.defers = [] ∧ (∃ fn, P.funcs[c.fn]? = some fn)) →
    ∀ n fr L', runN P n (lone f (cs ++ [wall P]) L) = .next (lone fr [wall P] L') → ∃ ch, fr.mode = .panicking ch := by
  have raise : ∀ (c : Frame) ch, ∃ ch', (c.raise ch).mode = .panicking ch' ∧ (c.raise ch).defers = c.defers ∧ (c.raise ch).fn = c.fn ∧ (c.raise ch).todo = c.todo := fun c ch => by
    unfold Frame.raise
    split <;> exact ⟨_, rfl, rfl, rfl, rfl⟩
  have next : ∀ (f : Frame) (c : Frame) cs (L : World), (∃ ch, f.mode = .panicking ch) → f.defers = [] → (∃ fn, P.funcs[f.fn]? = some fn) → ∃ ch, step P (lone f (c :: cs) L) = .next (lone (c.raise ch) cs L) := fun f c cs L ⟨ch, h1⟩ h2 h3 =>
    ⟨ch, step_leave_panicked ⟨h1, h2, h3⟩⟩
  intro cs
  induction cs with
  | nil =>
    intro f L h1 h2 h3 _ n fr L' hn
    cases n with
    | zero =>
      simp only [runN, List.nil_append, Stepped.next.injEq, lone, Machine.mk.injEq, Array.mk.injEq, List.cons.injEq, Goroutine.mk.injEq, and_true] at hn
      rw [← hn.2]; exact h1
    | succ n =>
      obtain ⟨ch, hs⟩ := next f (wall P) [] L h1 h2 h3
      obtain ⟨ch', r1, r2, r3, r4⟩ := raise (wall P) ch
      simp only [runN, List.nil_append, hs] at hn
      cases n with
      | zero =>
        simp only [runN, Stepped.next.injEq, lone, Machine.mk.injEq, Array.mk.injEq, List.cons.injEq, Goroutine.mk.injEq] at hn
        simp at hn
      | succ n =>
        have hcatch : Frame.catches P ((wall P).raise ch) = true := by
          have e1 : P.funcs[((wall P).raise ch).fn]? = none := by rw [r3]; exact Array.getElem?_eq_none (Nat.le_refl _)
          unfold Frame.catches
          rw [e1, r4]
          show ("fmt's door nowhere".startsWith "fmt's door") = true
          kernel_rfl
        have hst : ∃ o, step P (lone ((wall P).raise ch) [] L) = .ended o L := by
          refine ⟨_, step_lone_ended (o := .unsupported (.noEntry "a panic or Goexit out of a method that fmt calls behind a cut's door") (((wall P).raise ch).pos P)) ?_⟩
          have e2 : ((wall P).raise ch).defers = [] := r2
          simp [stepG, r1, unwind, e2, hcatch]
        obtain ⟨o, ho⟩ := hst
        simp only [runN, ho] at hn
        cases hn
  | cons c cs ih =>
    intro f L h1 h2 h3 h4 n fr L' hn
    cases n with
    | zero =>
      simp only [runN, Stepped.next.injEq, lone, Machine.mk.injEq, Array.mk.injEq, List.cons.injEq, Goroutine.mk.injEq, and_true] at hn
      have := congrArg List.length hn.2.2
      simp at this
    | succ n =>
      obtain ⟨ch, hs⟩ := next f c (cs ++ [wall P]) L h1 h2 h3
      obtain ⟨ch', r1, r2, r3, r4⟩ := raise c ch
      simp only [runN, List.cons_append, hs] at hn
      have hc := h4 c (List.mem_cons_self ..)
      exact ih (c.raise ch) L ⟨ch', r1⟩ (r2.trans hc.1) (by rw [r3]; exact hc.2) (fun x hx => h4 x (List.mem_cons_of_mem _ hx)) n fr L' hn
end
end Go.Proofs.Yticdjkkcfdbdcaa

/- A LONE RUN SERVES A GOROUTINE IN COMPANY. No program; no conditions but those named. -/
namespace Go.Proofs.Yticdjkkcfdbdcaa
open Go.Conc Go.ConcN

def wk (pc : Bool) : List Item := if pc then [.code (.refuse "wall")] else []
theorem wk_exit (pc : Bool) (id : Nat) : exitTo id (wk pc) = none := by cases pc <;> rfl
/-- Where a piece ends: at its return; or, of a piece of code, behind it. -/
def Fin (pc : Bool) (f : Frame) : Prop := f.mode = .returning ∨ (pc = true ∧ f.mode = .run ∧ f.todo = [])
theorem runN_more {P : Program} : ∀ {n : Nat} {m : Nat} {a b : Machine}, runN P n a = .next b → runN P (n + m) a = runN P m b
  | 0, m, a, b, h => by simp only [runN, Stepped.next.injEq] at h; subst h; rw [Nat.zero_add]
  | n + 1, m, a, b, h => by
    rw [Nat.succ_add]
    simp only [runN] at h ⊢
    cases hs : step P a with
    | next a1 => rw [hs] at h; exact runN_more h
    | ended o w => rw [hs] at h; cases h
section
variable {S : FnSet} {P : Program} {ρ : Ren}
theorem final_never {f f' : Frame} (h : FR S P ρ f f') {pc : Bool} (hf : Fin pc f) (n : Nat) (fr : Frame) (L L' : World) : runN P (n + 1) (lone (ext (wk pc) f) [wall P] L) ≠ .next (lone fr [wall P] L') := by
  intro hn
  rcases hf with hm | ⟨rfl, hm, ht⟩
  · obtain ⟨v, v', _, g2, _⟩ := step_ret h hm (wk pc) []
    have hs : step P (lone (ext (wk pc) f) [wall P] L) = .next (lone ((wall P).finish v) [] L) := step_lone_go (by have := g2 true (wall P) [] L; simp only [G] at this; rw [this]; rfl)
    simp only [runN, hs] at hn
    cases n with
    | zero => simp [runN, lone] at hn
    | succ n =>
      have hnone : Extern.next "fmt's door nowhere" = none := by
        have : (Extern.next "fmt's door nowhere").isNone = true := by kernel_rfl
        simpa using this
      have he : step P (lone ((wall P).finish v) [] L) = .ended (.stuck "no extern row fmt's door nowhere" (((wall P).finish v).pos P)) L := by
        refine step_lone_ended ?_
        simp [stepG, stepG.exec, wall, Frame.finish, hnone]
      simp only [runN, he] at hn
      cases hn
  · have he : ∃ o, step P (lone (ext (wk true) f) [wall P] L) = .ended o L := by
      have e1 : (ext (wk true) f).mode = .run := hm
      have e2 : (ext (wk true) f).todo = [.code (.refuse "wall")] := by simp [ext, ht, wk]
      have e3 : ∃ o, (stepG P true { frame := ext (wk true) f, callers := [wall P], status := .running, dying := none } L).bare = .ended o L := by
        simp only [stepG, stepG.exec, e1, e2]
        exact ⟨_, rfl⟩
      exact ⟨_, step_lone_ended e3.choose_spec⟩
    obtain ⟨o, ho⟩ := he
    simp only [runN, ho] at hn
    cases hn
/-- How one's licence has grown. -/
structure Up (k : LK) (n : Nat) (k' : LK) (n' : Nat) : Prop where
  size : n ≤ n'
  W : ∀ l, k.W l → k'.W l
  new : ∀ l, k'.W l → k.W l ∨ NewLoc n n' l
  R : k'.R = k.R
  A : k'.A = k.A
theorem Up.refl (k : LK) (n : Nat) : Up k n k n := ⟨Nat.le_refl _, fun _ h => h, fun _ h => .inl h, rfl, rfl⟩
theorem NewLoc.wide {a b c d : Nat} (h1 : a ≤ b) (h2 : c ≤ d) {l : Loc} (h : NewLoc b c l) : NewLoc a d l := by cases l <;> simp_all [NewLoc] <;> omega
theorem Up.step {k k' : LK} {n n' m m' : Nat} (h : Up k n k' n') (h1 : n' ≤ m) (h2 : m ≤ m') : Up k n (k'.grow m m') m' :=
  ⟨by have := h.size; omega, fun l hl => .inl (h.W l hl), fun l hl => hl.elim (fun x => (h.new l x).imp id (NewLoc.wide (Nat.le_refl _) (by omega))) (fun x => .inr (NewLoc.wide (by have := h.size; omega) (Nat.le_refl _) x)), h.R, h.A⟩
theorem Up.trans {k k' k'' : LK} {n n' n'' : Nat} (h : Up k n k' n') (g : Up k' n' k'' n'') : Up k n k'' n'' :=
  ⟨Nat.le_trans h.size g.size, fun l hl => g.W l (h.W l hl), fun l hl => (g.new l hl).elim (fun x => (h.new l x).imp id (NewLoc.wide (Nat.le_refl _) g.size)) (fun x => .inr (NewLoc.wide h.size (Nat.le_refl _) x)), g.R.trans h.R, g.A.trans h.A⟩
theorem curDraws_ext {K : List Item} {f : Frame} (h : f.todo = [] → K = []) (W : World) : curDraws P (ext K f) W = curDraws P f W := by
  obtain ⟨fn, tmps, todo, defers, mode, kind, round⟩ := f
  cases todo with
  | nil => rw [h rfl, ext_nil]
  | cons it k =>
    simp only [ext, List.cons_append, curDraws]
    cases mode <;> cases it <;> first | rfl | skip
    · rename_i c
      cases c <;> first | rfl | skip
      rename_i d
      cases d <;> rfl
    · rename_i l
      cases l <;> rfl
/-- ████ A LONE RUN SERVES A GOROUTINE IN COMPANY. ████ -/
theorem lone_ow (hO : OkFns S P) {R : LK → World → World → Prop} (hR : ∀ k w w₁, R k w w₁ → Rely k w w₁) {main : Bool} {St : LK → Goroutine → World → Prop} (hp : PR P ρ) {f f' : Frame} (h : FR S P ρ f f')
    {kk : LK} {L W : World} (hw : WR S ρ kk L W) {pc : Bool} {K' : List Item} (hK' : pc = false → K' = []) {base : List Frame} (fin : Frame → World → Prop)
    (hreach : ∀ T, ∃ N fr L1, runN P N (lone (ext (wk pc) f) [wall P] { L with tape := T }) = .next (lone fr [wall P] L1) ∧ (fr.mode = .returning ∨ (pc = true ∧ fr.mode = .run ∧ fr.todo = wk pc)) ∧ fin fr L1)
    (hSt : ∀ ρ' kk' f1 f1' L1 W1, ρ.le ρ' → FR S P ρ' f1 f1' → WR S ρ' kk' L1 W1 → Up kk W.heap.size kk' W1.heap.size → Fin pc f1 → fin (ext (wk pc) f1) L1 → St kk' (G (ext K' f1') base) W1) :
    OW P main R St kk (G (ext K' f') base) W := by
  refine Classical.byContradiction fun hno => ?_
  let x0 : Plc := ⟨kk, G (ext K' f') base, W⟩
  let X : Nat → Plc := badP P main R St x0
  let B : Nat → World := fun n => badW P main R St (X n)
  let c : Nat → Nat := fun n => curDraws P (X n).g.frame (B n)
  obtain ⟨T, hT⟩ := tape_of (fun n => (B n).tape) (fun n => (B n).drawn) c L.drawn
  obtain ⟨N, f1, L1, hN, hfin, hpost⟩ := hreach T
  have hf1 : f1.mode = .run ∨ f1.mode = .returning := hfin.elim .inr (fun x => .inl x.2.1)
  have inv : ∀ n, n ≤ N → ∃ ρ' fn fn' fs fs' Ln, ρ.le ρ' ∧ FR S P ρ' fn fn' ∧ Cals S P ρ' fs fs' ∧ WR S ρ' (X n).k Ln (X n).w ∧ Up kk W.heap.size (X n).k (X n).w.heap.size ∧ (X n).g = gor K' fn' fs' base ∧
      runN P n (lone (ext (wk pc) f) [wall P] { L with tape := T }) = .next (lone (ext (Kx (wk pc) fs) fn) (cal (wk pc) fs ++ [wall P]) Ln) ∧ Ln.tape = T ∧ Ln.drawn = L.drawn + sumTo n c ∧ ¬ OW P main R St (X n).k (X n).g (X n).w := by
    intro n
    induction n with
    | zero => exact fun _ => ⟨ρ, f, f', [], [], { L with tape := T }, .refl _, h, .nil, hw.heaps rfl rfl, .refl _ _, rfl, rfl, rfl, rfl, hno⟩
    | succ n ih =>
      intro hn
      obtain ⟨ρ', fn, fn', fs, fs', Ln, i1, i2, i3, i4, i5, i6, i7, i8, i9, i10⟩ := ih (by omega)
      have hrest : runN P (N - n) (lone (ext (Kx (wk pc) fs) fn) (cal (wk pc) fs ++ [wall P]) Ln) = .next (lone f1 [wall P] L1) := by
        rw [← runN_more (m := N - n) i7, show n + (N - n) = N by omega]; exact hN
      obtain ⟨m, hm⟩ : ∃ m, N - n = m + 1 := ⟨N - n - 1, by omega⟩
      rw [hm] at hrest
      have hnf : fs = [] → fn.mode = .run ∧ (fn.todo = [] → wk pc = [] ∧ K' = []) := fun e => by
        subst e
        have hnfin : ¬ Fin pc fn := fun hf => final_never i2 hf m f1 Ln L1 hrest
        refine ⟨?_, fun e => ?_⟩
        · rcases i2.mode with x | x
          · exact x.1
          · exact absurd (.inl x.1) hnfin
        · cases hpc : pc with
          | false => exact ⟨rfl, hK' hpc⟩
          | true =>
            refine absurd (.inr ⟨hpc, ?_, e⟩) hnfin
            rcases i2.mode with x | x
            · exact x.1
            · exact absurd (.inl x.1) hnfin
      have hr : (X n).g.status = .running := by rw [i6]; rfl
      have ho : (X n).g.offers = none := by rw [i6]; rfl
      obtain ⟨b1, b2⟩ := badW_spec (x := X n) i10 hr ho
      have hw' : WR S ρ' (X n).k Ln (B n) := i4.rely (hR _ _ _ b1)
      have hsz : (X n).w.heap.size ≤ (B n).heap.size := (hR _ _ _ b1).size
      have hcd : curDraws P fn' (B n) = c n := by
        show _ = curDraws P (X n).g.frame (B n)
        rw [i6]
        refine (curDraws_ext (fun e => ?_) _).symm
        cases i3 with
        | nil => exact ((hnf rfl).2 (i2.todo ▸ e)).2
        | cons _ _ _ _ => rfl
      have hag : ∀ j, j < curDraws P fn' (B n) → ∀ q, Ln.tape (Ln.drawn + j) q = (B n).tape ((B n).drawn + j) q := fun j hj q => by
        rw [i8, i9]; exact hT n j (hcd ▸ hj) q
      rcases sim_step hO (hp.mono i1) i2 i3 (wk_exit pc) hnf hw' hag main [wall P] base with ⟨hlost, hrun⟩ | ⟨ρ1, L', W', es, l, g1, g1', gs, gs', s1, s2, s3, s4, s5, s6, s7, s8, s9⟩
      · exfalso
        rcases hlost with ⟨o, L', es, he⟩ | ⟨v, L', es, he⟩
        · have : step P (lone (ext (Kx (wk pc) fs) fn) (cal (wk pc) fs ++ [wall P]) Ln) = .ended o L' := step_lone_ended (by simp only [gor, G] at he; rw [he]; rfl)
          simp only [runN, this] at hrest
          cases hrest
        · have hrm : ((ext (Kx (wk pc) fs) fn).raise [{ v, recovered := false }]).mode = .panicking [{ v, recovered := false }] := by
            have : (ext (Kx (wk pc) fs) fn).mode = .run := hrun
            unfold Frame.raise
            rw [this]
          have hrd : ∀ ch, ((ext (Kx (wk pc) fs) fn).raise ch).defers = [] ∧ ((ext (Kx (wk pc) fs) fn).raise ch).fn = fn.fn := fun ch => by
            unfold Frame.raise
            split <;> exact ⟨i2.defers.1, rfl⟩
          have hfn : ∀ {a a' : Frame}, FR S P ρ' a a' → ∃ g, P.funcs[a.fn]? = some g := fun ha => by obtain ⟨g, h1, _⟩ := ha.inS; exact ⟨g, h1⟩
          have : step P (lone (ext (Kx (wk pc) fs) fn) (cal (wk pc) fs ++ [wall P]) Ln) = .next (lone ((ext (Kx (wk pc) fs) fn).raise [{ v, recovered := false }]) (cal (wk pc) fs ++ [wall P]) L') := step_lone_go (by simp only [gor, G] at he; rw [he]; rfl)
          simp only [runN, this] at hrest
          have hall : ∀ {a a' : List Frame}, Cals S P ρ' a a' → ∀ x ∈ cal (wk pc) a, x.defers = [] ∧ ∃ g, P.funcs[x.fn]? = some g := fun ha => by
            induction ha with
            | nil => intro x hx; cases hx
            | cons h1 _ _ _ ih =>
              intro x hx
              rcases List.mem_cons.1 hx with rfl | hx
              · have q := hfn h1
                exact ⟨h1.defers.1, q⟩
              · exact ih x hx
          obtain ⟨ch, hch⟩ := panic_never _ _ _ ⟨_, hrm⟩ (hrd _).1 (by rw [(hrd _).2]; exact hfn i2) (hall i3) _ _ _ hrest
          have hch' : f1.mode = .panicking ch := hch
          rcases hf1 with e | e <;> rw [e] at hch' <;> cases hch'
      · rw [← i6] at s9
        have hX : X (n + 1) = ⟨(X n).k.grow (B n).heap.size W'.heap.size, gor K' g1' gs' base, W'⟩ := by
          show badN P main R St (X n) = _
          unfold badN
          rw [show stepG P main (X n).g (badW P main R St (X n)) = _ from s9]
        have hst : step P (lone (ext (Kx (wk pc) fs) fn) (cal (wk pc) fs ++ [wall P]) Ln) = .next (lone (ext (Kx (wk pc) gs) g1) (cal (wk pc) gs ++ [wall P]) L') := step_lone_go (by simp only [gor, G] at s8; rw [s8]; rfl)
        rw [hX]
        refine ⟨ρ1, g1, g1', gs, gs', L', i1.trans s1, s6, s7, s2, i5.step hsz s3.chg.size, rfl, ?_, s4.trans i8, ?_, b2 _ _ _ s9 s3⟩
        · rw [runN_more (m := 1) i7]
          simp only [runN, hst]
        · rw [s5.1, i9, hcd]; simp only [sumTo]; omega
  obtain ⟨ρ', fn, fn', fs, fs', Ln, i1, i2, i3, i4, i5, i6, i7, i8, i9, i10⟩ := inv N (Nat.le_refl _)
  rw [hN] at i7
  simp only [Stepped.next.injEq, lone, Machine.mk.injEq, Array.mk.injEq, List.cons.injEq, Goroutine.mk.injEq, and_true] at i7
  obtain ⟨e1, e2, e3⟩ := i7
  subst e1
  have hfs : fs = [] := by
    have := congrArg List.length e3
    cases fs with
    | nil => rfl
    | cons a r => simp [cal] at this
  subst hfs
  cases i3
  have hff : f1 = ext (wk pc) fn := e2
  subst hff
  refine i10 (.stop ?_)
  rw [i6]
  refine hSt ρ' _ fn fn' L1 _ i1 i2 i4 i5 (hfin.imp id fun x => ⟨x.1, x.2.1, ?_⟩) hpost
  have := x.2.2
  simpa [ext] using this
end
end Go.Proofs.Yticdjkkcfdbdcaa
