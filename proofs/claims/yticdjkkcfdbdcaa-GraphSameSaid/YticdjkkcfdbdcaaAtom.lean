/- What each goroutine may touch, and what it knows of what was touched: licences, and how they are kept as the trace grows. No program. -/
import Derived.Conc.Beside
import Derived.Conc.CrowdTrace
import Derived.Conc.CrowdComm
import Derived.Test.YticdjkkcfdbdcaaQuiet
namespace Go.Proofs.Yticdjkkcfdbdcaa
open Go.Conc Go.ConcN
/-- W: to read and write; R: to read (nobody writes); A: to touch atomically. -/
structure LK where
  W : Loc → Prop
  R : Loc → Prop
  A : Loc → Prop
def LK.none : LK := ⟨fun _ => False, fun _ => False, fun _ => False⟩
def Alike : Obj → Obj → Prop
  | .cells c e f, .cells c' e' f' => c.size = c'.size ∧ e = e' ∧ f = f'
  | .cells _ _ _, _ => False
  | _, .cells _ _ _ => False
  | _, _ => True
theorem Alike.refl (o : Obj) : Alike o o := by cases o <;> simp [Alike]
theorem Alike.trans {a b c : Obj} (h : Alike a b) (h' : Alike b c) : Alike a c := by
  cases a <;> cases b <;> cases c <;> simp_all [Alike]
def NotCells (o : Obj) : Prop := ∀ c e f, o ≠ .cells c e f
theorem Alike.not {a b : Obj} (h : Alike a b) (ha : NotCells a) : NotCells b := by
  intro c e f hb
  subst hb
  cases a <;> simp_all [Alike, NotCells]
/-- What the others may have done meanwhile. -/
structure Rely (k : LK) (w w₁ : World) : Prop where
  size : w.heap.size ≤ w₁.heap.size
  tape : w₁.tape = w.tape
  os : w₁.os = w.os
  output : w₁.output = w.output
  shape : ∀ (b : Nat) (o : Obj), w.heap[b]? = some o → ∃ o₁, w₁.heap[b]? = some o₁ ∧ Alike o o₁
  cell : ∀ a, k.W (.cell a) ∨ k.R (.cell a) → w₁.cell? a = w.cell? a
  obj : ∀ (b : Nat) (o : Obj), w.heap[b]? = some o → NotCells o → k.W (.obj b) ∨ k.R (.obj b) → w₁.heap[b]? = some o
/-- What a step of its own does to the world. -/
structure Chg (k : LK) (w w' : World) : Prop where
  size : w.heap.size ≤ w'.heap.size
  tape : w'.tape = w.tape
  os : w'.os = w.os
  output : w'.output = w.output
  shape : ∀ (b : Nat) (o : Obj), w.heap[b]? = some o → ∃ o₁, w'.heap[b]? = some o₁ ∧ Alike o o₁
  cell : ∀ a, a.block < w.heap.size → ¬ k.W (.cell a) → w'.cell? a = w.cell? a
  obj : ∀ (b : Nat) (o : Obj), w.heap[b]? = some o → NotCells o → ¬ k.W (.obj b) → w'.heap[b]? = some o
theorem Rely.refl (k : LK) (w : World) : Rely k w w := ⟨Nat.le_refl _, rfl, rfl, rfl, fun _ o h => ⟨o, h, .refl o⟩, fun _ _ => rfl, fun _ _ h _ _ => h⟩
theorem Rely.at (k : LK) (w : World) (d : Nat) : Rely k w (w.at d) := ⟨Nat.le_refl _, rfl, rfl, rfl, fun _ o h => ⟨o, h, .refl o⟩, fun _ _ => rfl, fun _ _ h _ _ => h⟩
theorem Rely.trans {k : LK} {a b c : World} (h : Rely k a b) (h' : Rely k b c) : Rely k a c where
  size := Nat.le_trans h.size h'.size
  tape := h'.tape.trans h.tape
  os := h'.os.trans h.os
  output := h'.output.trans h.output
  shape := fun x o ho => by
    obtain ⟨o₁, h1, h2⟩ := h.shape x o ho
    obtain ⟨o₂, h3, h4⟩ := h'.shape x o₁ h1
    exact ⟨o₂, h3, h2.trans h4⟩
  cell := fun a ha => (h'.cell a ha).trans (h.cell a ha)
  obj := fun x o ho hn hk => h'.obj x o (h.obj x o ho hn hk) hn hk
theorem Chg.refl (k : LK) (w : World) : Chg k w w := ⟨Nat.le_refl _, rfl, rfl, rfl, fun _ o h => ⟨o, h, .refl o⟩, fun _ _ _ => rfl, fun _ _ h _ _ => h⟩
theorem Chg.at (k : LK) (w : World) (d : Nat) : Chg k w (w.at d) := ⟨Nat.le_refl _, rfl, rfl, rfl, fun _ o h => ⟨o, h, .refl o⟩, fun _ _ _ => rfl, fun _ _ h _ _ => h⟩
/-- One licence within another. -/
structure LK.le (k k' : LK) : Prop where
  W : ∀ l, k.W l → k'.W l
  R : ∀ l, k.R l → k'.W l ∨ k'.R l
theorem Rely.mono {k k' : LK} {w w₁ : World} (h : Rely k' w w₁) (hk : k.le k') : Rely k w w₁ :=
  ⟨h.size, h.tape, h.os, h.output, h.shape, fun a ha => h.cell a (ha.elim (fun x => .inl (hk.W _ x)) (fun x => hk.R _ x)), fun b o ho hn ha => h.obj b o ho hn (ha.elim (fun x => .inl (hk.W _ x)) (fun x => hk.R _ x))⟩
/-- A place in a block from n on, below n'. -/
def NewLoc (n n' : Nat) : Loc → Prop
  | .cell a => n ≤ a.block ∧ a.block < n'
  | .obj r => n ≤ r ∧ r < n'
  | _ => False
def MemLoc (n : Nat) : Loc → Prop
  | .cell a => a.block < n
  | .obj r => r < n
  | _ => False
def EvOk (k : LK) (n n' : Nat) (e : Event) : Prop :=
  (e.loc = .mark .noRoom) ∨ (e.sync = false ∧ MemLoc n' e.loc ∧ (NewLoc n n' e.loc ∨ k.W e.loc ∨ (e.write = false ∧ k.R e.loc)))
structure Own (k : LK) (w w' : World) (es : Array Event) : Prop where
  chg : Chg k w w'
  evs : ∀ e ∈ es, EvOk k w.heap.size w'.heap.size e
theorem Own.idle (k : LK) (w : World) : Own k w w #[] := ⟨.refl k w, by simp⟩
def LK.grow (k : LK) (n n' : Nat) : LK := { k with W := fun l => k.W l ∨ NewLoc n n' l }
theorem NewLoc.none {n : Nat} {l : Loc} : ¬ NewLoc n n l := by
  cases l <;> simp [NewLoc] <;> omega
theorem grow_self (k : LK) (n : Nat) : k.grow n n = k := by
  unfold LK.grow
  have : (fun l => k.W l ∨ NewLoc n n l) = k.W := by
    funext l
    exact propext ⟨fun h => h.resolve_right NewLoc.none, .inl⟩
  rw [this]
structure Lic (n : Nat) (K : Nat → LK) (w : World) (t : Trace) : Prop where
  ww : ∀ i j, i < n → j < n → i ≠ j → ∀ l, (K i).W l → ¬ (K j).W l
  wr : ∀ i j, i < n → j < n → i ≠ j → ∀ l, (K i).W l → ¬ (K j).R l
  wa : ∀ i j, i < n → j < n → ∀ l, (K i).W l ∨ (K i).R l → ¬ (K j).A l
  low : ∀ i, i < n → ∀ l, (K i).W l ∨ (K i).R l ∨ (K i).A l → MemLoc w.heap.size l
  pw : ∀ i, i < n → ∀ l, (K i).W l → Perm t i l
  pr : ∀ i, i < n → ∀ l, (K i).R l → PermW t i l
  pa : ∀ i, i < n → ∀ p a, touchAt t p = some a → (K i).A a.loc → a.kind = .plain → Knows t i p
  said : ∀ p a, touchAt t p = some a → a.kind = .said → Knows t 0 p
  race : ∀ said, ¬ Race said t
  seen : ∀ op ∈ t, op.act.low w.heap.size
  above : ∀ j, n ≤ j → Deaf t j = 0
theorem Chg.rely {n : Nat} {K : Nat → LK} {w w' : World} {t : Trace} (h : Lic n K w t) {i j : Nat} (hi : i < n) (hj : j < n) (hij : i ≠ j) (hc : Chg (K i) w w') : Rely (K j) w w' where
  size := hc.size
  tape := hc.tape
  os := hc.os
  output := hc.output
  shape := hc.shape
  cell := fun a ha => by
    have hl := h.low j hj (.cell a) (ha.elim .inl (fun x => .inr (.inl x)))
    exact hc.cell a hl (fun hw => ha.elim (h.ww i j hi hj hij _ hw) (h.wr i j hi hj hij _ hw))
  obj := fun b o ho hn ha => hc.obj b o ho hn (fun hw => ha.elim (h.ww i j hi hj hij _ hw) (h.wr i j hi hj hij _ hw))
theorem MemLoc.mono {n n' : Nat} (h : n ≤ n') {l : Loc} (hl : MemLoc n l) : MemLoc n' l := by
  cases l <;> simp_all [MemLoc] <;> omega
theorem NewLoc.mem {n n' : Nat} {l : Loc} (h : NewLoc n n' l) : MemLoc n' l ∧ ¬ MemLoc n l := by
  cases l <;> simp_all [MemLoc, NewLoc] <;> omega
theorem touch_ofEvent {e : Event} {a : Touch} (h : (MemAct.ofEvent e).touch? = some a) (hs : e.sync = false) (hm : ∀ m, e.loc ≠ .mark m) : a.loc = e.loc ∧ a.write = e.write ∧ a.kind = .plain := by
  obtain ⟨loc, wr, sy⟩ := e
  simp only at hs
  subst hs
  cases loc with
  | mark m => exact absurd rfl (hm m)
  | cell a => simp [MemAct.ofEvent, MemAct.touch?] at h; subst h; exact ⟨rfl, rfl, rfl⟩
  | obj r => cases wr <;> simp [MemAct.ofEvent, MemAct.touch?] at h <;> subst h <;> exact ⟨rfl, rfl, rfl⟩
  | output => simp [MemAct.ofEvent, MemAct.touch?] at h; subst h; exact ⟨rfl, rfl, rfl⟩
  | goroutines => simp [MemAct.ofEvent, MemAct.touch?] at h; subst h; exact ⟨rfl, rfl, rfl⟩
/-- What an allowed entry touches. -/
theorem EvOk.touch {k : LK} {n n' : Nat} {e : Event} (h : EvOk k n n' e) {a : Touch} (ha : (MemAct.ofEvent e).touch? = some a) : a.kind = .plain ∧ MemLoc n' a.loc ∧ (NewLoc n n' a.loc ∨ k.W a.loc ∨ (a.write = false ∧ k.R a.loc)) := by
  rcases h with h | ⟨h1, h2, h3⟩
  · obtain ⟨loc, wr, sy⟩ := e
    simp only at h
    subst h
    simp [MemAct.ofEvent, MemAct.touch?] at ha
  · have hm : ∀ m, e.loc ≠ .mark m := fun m hm => by rw [hm] at h2; exact h2
    obtain ⟨e1, e2, e3⟩ := touch_ofEvent ha h1 hm
    exact ⟨e3, e1 ▸ h2, by rw [e1, e2]; exact h3⟩
theorem EvOk.low {k : LK} {n n' : Nat} {e : Event} (h : EvOk k n n' e) : (MemAct.ofEvent e).low n' := by
  obtain ⟨loc, wr, sy⟩ := e
  rcases h with h | ⟨h1, h2, h3⟩
  · simp only at h; subst h; simp [MemAct.ofEvent, MemAct.low]
  · simp only at h1 h2
    subst h1
    cases loc with
    | mark m => exact h2.elim
    | cell a => simpa [MemAct.ofEvent, MemAct.low, Loc.low, MemLoc] using h2
    | obj r => cases wr <;> simpa [MemAct.ofEvent, MemAct.low, Loc.low, MemLoc] using h2
    | output => exact h2.elim
    | goroutines => exact h2.elim
theorem EvOk.still {k : LK} {n n' : Nat} {e : Event} (h : EvOk k n n' e) : e.loc ≠ .mark .disable ∧ e.loc ≠ .mark .enable := by
  rcases h with h | ⟨_, h2, _⟩
  · rw [h]; simp
  · constructor <;> intro hh <;> rw [hh] at h2 <;> exact h2
/-- What lies at or above the heap's end has not been touched. -/
theorem Lic.fresh {n : Nat} {K : Nat → LK} {w : World} {t : Trace} (h : Lic n K w t) {p : Nat} {a : Touch} (ha : touchAt t p = some a) {m : Nat} (hn : NewLoc w.heap.size m a.loc) : False := by
  obtain ⟨op, hop, hoa⟩ := touch_of ha
  have hl := h.seen op (mem_of_getElem? hop)
  obtain ⟨g, fn, pos, act⟩ := op
  simp only at hoa hl
  cases act with
  | access e =>
    simp only [MemAct.touch?, Option.some.injEq] at hoa
    subst hoa
    simp only [MemAct.low] at hl
    obtain ⟨loc, wr, sy⟩ := e
    cases loc <;> simp_all [NewLoc, Loc.low] <;> omega
  | mark m =>
    cases m <;> simp only [MemAct.touch?, Option.some.injEq, reduceCtorEq] at hoa
    all_goals
      subst hoa
      simp only [MemAct.low] at hl
      simp only [NewLoc] at hn
      omega
  | _ => simp [MemAct.touch?] at hoa
section
variable {n : Nat} {K : Nat → LK} {w w' : World} {t : Trace} {i : Nat} {es : Array Event}
theorem ofEvents_g {fn : FuncId} {pos : String} : ∀ op ∈ MemOp.ofEvents i fn pos es, op.g = i := fun op hop => by obtain ⟨e, _, rfl⟩ := Go.Conc.mem_ofEvents hop; rfl
/-- A STEP OF ITS OWN. -/
theorem Lic.own (h : Lic n K w t) (hi : i < n) (ho : Own (K i) w w' es) (fn : FuncId) (pos : String) :
    Lic n (upd K i ((K i).grow w.heap.size w'.heap.size)) w' (t ++ MemOp.ofEvents i fn pos es) := by
  have hmem : ∀ op ∈ MemOp.ofEvents i fn pos es, ∀ b, op.act.touch? = some b → b.kind = .plain ∧ (NewLoc w.heap.size w'.heap.size b.loc ∨ (K i).W b.loc ∨ (b.write = false ∧ (K i).R b.loc)) := fun op hop b hb => by
    obtain ⟨e, he, rfl⟩ := Go.Conc.mem_ofEvents hop
    have := (ho.evs e he).touch hb
    exact ⟨this.1, this.2.2⟩
  have hnew : ∀ j, j < n → ∀ l, NewLoc w.heap.size w'.heap.size l → ¬ ((K j).W l ∨ (K j).R l ∨ (K j).A l) := fun j hj l hl hk => hl.mem.2 (h.low j hj l hk)
  have kW : ∀ j, (upd K i ((K i).grow w.heap.size w'.heap.size) j).W = fun l => (K j).W l ∨ (j = i ∧ NewLoc w.heap.size w'.heap.size l) := fun j => by
    funext l
    by_cases e : j = i
    · subst e; rw [upd_same]; simp [LK.grow]
    · rw [upd_ne K _ e]; simp [e]
  have kR : ∀ j, (upd K i ((K i).grow w.heap.size w'.heap.size) j).R = (K j).R := fun j => by
    by_cases e : j = i
    · subst e; rw [upd_same]; rfl
    · rw [upd_ne K _ e]
  have kA : ∀ j, (upd K i ((K i).grow w.heap.size w'.heap.size) j).A = (K j).A := fun j => by
    by_cases e : j = i
    · subst e; rw [upd_same]; rfl
    · rw [upd_ne K _ e]
  refine ⟨fun a b ha hb hab l => ?_, fun a b ha hb hab l => ?_, fun a b ha hb l => ?_, fun a ha l => ?_, fun a ha l => ?_, fun a ha l => ?_, fun a ha p x hx => ?_, fun p x hx hk => ?_, fun sd => ?_, ?_, fun j hj => ?_⟩
  · rw [kW, kW]
    rintro (h1 | ⟨rfl, h1⟩) (h2 | ⟨rfl, h2⟩)
    · exact h.ww a b ha hb hab l h1 h2
    · exact hnew a ha l h2 (.inl h1)
    · exact hnew b hb l h1 (.inl h2)
    · exact hab rfl
  · rw [kW, kR]
    rintro (h1 | ⟨rfl, h1⟩) h2
    · exact h.wr a b ha hb hab l h1 h2
    · exact hnew b hb l h1 (.inr (.inl h2))
  · rw [kW, kR, kA]
    rintro ((h1 | ⟨rfl, h1⟩) | h1) h2
    · exact h.wa a b ha hb l (.inl h1) h2
    · exact hnew b hb l h1 (.inr (.inr h2))
    · exact h.wa a b ha hb l (.inr h1) h2
  · rw [kW, kR, kA]
    rintro ((h1 | ⟨rfl, h1⟩) | h1 | h1)
    · exact (h.low a ha l (.inl h1)).mono ho.chg.size
    · exact h1.mem.1
    · exact (h.low a ha l (.inr (.inl h1))).mono ho.chg.size
    · exact (h.low a ha l (.inr (.inr h1))).mono ho.chg.size
  · rw [kW]
    rintro (h1 | ⟨rfl, h1⟩)
    · refine (h.pw a ha l h1).app fun op hop b hb hbl => ?_
      rw [ofEvents_g op hop]
      rcases (hmem op hop b hb).2 with x | x | ⟨_, x⟩
      · exact absurd (h.low a ha l (.inl h1)) (hbl ▸ x).mem.2
      · by_cases e : i = a
        · exact e
        · exact absurd h1 (h.ww i a hi ha e l (hbl ▸ x))
      · by_cases e : i = a
        · exact e
        · exact absurd (hbl ▸ x) (h.wr a i ha hi (fun x => e x.symm) l h1)
    · refine Perm.app (fun p x hx hxl => (h.fresh hx (hxl ▸ h1)).elim) fun op hop b hb hbl => ofEvents_g op hop
  · rw [kR]
    intro h1
    refine (h.pr a ha l h1).app fun op hop b hb hbl hbw => ?_
    rcases (hmem op hop b hb).2 with x | x | ⟨x, _⟩
    · exact absurd (h.low a ha l (.inr (.inl h1))) (hbl ▸ x).mem.2
    · rw [ofEvents_g op hop]
      by_cases e : i = a
      · exact e
      · exact absurd h1 (h.wr i a hi ha e l (hbl ▸ x))
    · rw [x] at hbw; cases hbw
  · rw [kA]
    intro hA hk
    obtain ⟨y, hy, hyx⟩ := touch_of hx
    rcases getElem?_append_cases hy with ⟨hl, hy'⟩ | ⟨_, hyu⟩
    · exact (h.pa a ha p x (by rw [touchAt_of hy']; exact hyx) hA hk).app _
    · rcases (hmem y hyu x hyx).2 with z | z | ⟨_, z⟩
      · exact absurd (.inr (.inr hA)) (hnew a ha _ z)
      · exact absurd hA (h.wa i a hi ha _ (.inl z))
      · exact absurd hA (h.wa i a hi ha _ (.inr z))
  · obtain ⟨y, hy, hyx⟩ := touch_of hx
    rcases getElem?_append_cases hy with ⟨hl, hy'⟩ | ⟨_, hyu⟩
    · exact (h.said p x (by rw [touchAt_of hy']; exact hyx) hk).app _
    · rw [(hmem y hyu x hyx).1] at hk; cases hk
  · refine noRace_append (h.race sd) ofEvents_g fun p x hx op hop b hb hc => ?_
    rcases (hmem op hop b hb).2 with z | z | ⟨z1, z⟩
    · exact (h.fresh hx (hc.1 ▸ z)).elim
    · exact h.pw i hi b.loc z p x hx hc.1
    · exact h.pr i hi b.loc z p x hx hc.1 (hc.2.2.1.resolve_right (by simp [z1]))
  · intro op hop
    rcases Array.mem_append.1 hop with h1 | h1
    · exact MemAct.low_mono ho.chg.size (h.seen op h1)
    · obtain ⟨e, he, rfl⟩ := Go.Conc.mem_ofEvents h1
      exact (ho.evs e he).low
  · rw [Deaf_other t (g' := i) (by omega) _ ofEvents_g]; exact h.above j hj
/-- What is asked of an operation on what is shared. -/
def SyncOk (K : Nat → LK) (i n : Nat) (op : MemOp) : Prop :=
  op.g = i ∧ op.act.low n ∧ ∀ b, op.act.touch? = some b → (K i).A b.loc ∧ b.kind ≠ .plain ∧ (b.kind = .said → i = 0)
/-- A STEP ON WHAT IS SHARED: the licences stand. -/
theorem Lic.sync (h : Lic n K w t) (hi : i < n) (hs : w.heap.size ≤ w'.heap.size) {u : Trace} (hu : ∀ op ∈ u, SyncOk K i w'.heap.size op) : Lic n K w' (t ++ u) := by
  refine ⟨h.ww, h.wr, h.wa, fun a ha l hl => (h.low a ha l hl).mono hs, fun a ha l hl => (h.pw a ha l hl).app fun op hop b hb hbl => ?_, fun a ha l hl => (h.pr a ha l hl).app fun op hop b hb hbl _ => ?_, fun a ha p x hx hA hk => ?_, fun p x hx hk => ?_, fun sd => ?_, ?_, fun j hj => ?_⟩
  · exact absurd ((hu op hop).2.2 b hb).1 (h.wa a i ha hi _ (.inl (hbl ▸ hl)))
  · exact absurd ((hu op hop).2.2 b hb).1 (h.wa a i ha hi _ (.inr (hbl ▸ hl)))
  · obtain ⟨y, hy, hyx⟩ := touch_of hx
    rcases getElem?_append_cases hy with ⟨hl, hy'⟩ | ⟨_, hyu⟩
    · exact (h.pa a ha p x (by rw [touchAt_of hy']; exact hyx) hA hk).app _
    · exact absurd hk ((hu y hyu).2.2 x hyx).2.1
  · obtain ⟨y, hy, hyx⟩ := touch_of hx
    rcases getElem?_append_cases hy with ⟨hl, hy'⟩ | ⟨_, hyu⟩
    · exact (h.said p x (by rw [touchAt_of hy']; exact hyx) hk).app _
    · have := knows_own hy
      rw [(hu y hyu).1, ((hu y hyu).2.2 x hyx).2.2 hk] at this
      exact this
  · refine noRace_append (h.race sd) (fun op hop => (hu op hop).1) fun p x hx op hop b hb hc => ?_
    obtain ⟨b1, b2, b3⟩ := (hu op hop).2.2 b hb
    by_cases hp : x.kind = .plain
    · exact h.pa i hi p x hx (hc.1 ▸ b1) hp
    · obtain ⟨_, _, _, hcase⟩ := hc
      rcases hcase with z | z | ⟨_, z1, z2⟩
      · exact absurd z hp
      · exact absurd z b2
      · rw [b3 z2]; exact h.said p x hx z1
  · intro op hop
    rcases Array.mem_append.1 hop with h1 | h1
    · exact MemAct.low_mono hs (h.seen op h1)
    · exact (hu op h1).2.1
  · rw [Deaf_other t (g' := i) (by omega) _ (fun op hop => (hu op hop).1)]; exact h.above j hj
theorem Lic.at (h : Lic n K w t) (d : Nat) : Lic n K (w.at d) t := ⟨h.ww, h.wr, h.wa, h.low, h.pw, h.pr, h.pa, h.said, h.race, h.seen, h.above⟩
/-- Operations that touch nothing. -/
theorem Lic.mute (h : Lic n K w t) (hi : i < n) (hs : w.heap.size ≤ w'.heap.size) {u : Trace} (hu : ∀ op ∈ u, op.g = i ∧ op.act.low w'.heap.size ∧ op.act.touch? = none) : Lic n K w' (t ++ u) :=
  h.sync hi hs fun op hop => ⟨(hu op hop).1, (hu op hop).2.1, fun b hb => by rw [(hu op hop).2.2] at hb; cases hb⟩
/-- Licences given up, or W turned to A or R, by one goroutine. -/
theorem Lic.less (h : Lic n K w t) (hi : i < n) {k : LK} (hW : ∀ l, k.W l → (K i).W l) (hR : ∀ l, k.R l → (K i).W l ∨ (K i).R l) (hA : ∀ l, k.A l → (K i).W l ∨ (K i).A l)
    (hWA : ∀ l, k.W l ∨ k.R l → ¬ k.A l) : Lic n (upd K i k) w t := by
  have cases' : ∀ j, (j = i ∧ upd K i k j = k) ∨ (j ≠ i ∧ upd K i k j = K j) := fun j => by
    by_cases e : j = i
    · subst e; exact .inl ⟨rfl, upd_same _ _ _⟩
    · exact .inr ⟨e, upd_ne K _ e⟩
  have kw : ∀ j l, (upd K i k j).W l → (K j).W l := fun j l hl => by
    rcases cases' j with ⟨rfl, e⟩ | ⟨_, e⟩ <;> rw [e] at hl
    · exact hW l hl
    · exact hl
  refine ⟨fun a b ha hb hab l h1 h2 => h.ww a b ha hb hab l (kw a l h1) (kw b l h2), fun a b ha hb hab l h1 h2 => ?_, fun a b ha hb l h1 h2 => ?_, fun a ha l hl => ?_, fun a ha l hl => h.pw a ha l (kw a l hl), fun a ha l hl => ?_, fun a ha p x hx hA' hk => ?_, h.said, h.race, h.seen, h.above⟩
  · rcases cases' b with ⟨rfl, e⟩ | ⟨_, e⟩ <;> rw [e] at h2
    · rcases hR l h2 with h3 | h3
      · exact h.ww a b ha hb hab l (kw a l h1) h3
      · exact h.wr a b ha hb hab l (kw a l h1) h3
    · exact h.wr a b ha hb hab l (kw a l h1) h2
  · rcases cases' a with ⟨rfl, ea⟩ | ⟨hna, ea⟩ <;> rcases cases' b with ⟨rfl, eb⟩ | ⟨hnb, eb⟩ <;> rw [ea] at h1 <;> rw [eb] at h2
    · exact hWA l h1 h2
    · rcases h1 with h1 | h1
      · exact h.wa a b ha hb l (.inl (hW l h1)) h2
      · exact h.wa a b ha hb l (hR l h1) h2
    · rcases hA l h2 with h3 | h3
      · rcases h1 with h1 | h1
        · exact h.ww a b ha hb hna l h1 h3
        · exact h.wr b a hb ha (fun e => hna e.symm) l h3 h1
      · exact h.wa a b ha hb l h1 h3
    · exact h.wa a b ha hb l h1 h2
  · rcases cases' a with ⟨rfl, e⟩ | ⟨_, e⟩ <;> rw [e] at hl
    · rcases hl with hl | hl | hl
      · exact h.low a ha l (.inl (hW l hl))
      · exact h.low a ha l ((hR l hl).elim .inl (fun x => .inr (.inl x)))
      · exact h.low a ha l ((hA l hl).elim .inl (fun x => .inr (.inr x)))
    · exact h.low a ha l hl
  · rcases cases' a with ⟨rfl, e⟩ | ⟨_, e⟩ <;> rw [e] at hl
    · rcases hR l hl with h3 | h3
      · exact PermW.of (h.pw a ha l h3)
      · exact h.pr a ha l h3
    · exact h.pr a ha l hl
  · rcases cases' a with ⟨rfl, e⟩ | ⟨_, e⟩ <;> rw [e] at hA'
    · rcases hA _ hA' with h3 | h3
      · exact h.pw a ha _ h3 p x hx rfl
      · exact h.pa a ha p x hx h3 hk
    · exact h.pa a ha p x hx hA' hk
/-- A go STATEMENT of goroutine 0's: what it hands to the child it gives away, or shares. -/
theorem Lic.fork (h : Lic n K w t) (hn : 0 < n) (d0 : Deaf t 0 = 0) {k kc : LK} {x y : MemOp} (hx : x.g = 0 ∧ x.act = .go n) (hy : y.g = n ∧ y.act = .start)
    (kW : ∀ l, k.W l → (K 0).W l) (kR : ∀ l, k.R l → (K 0).W l ∨ (K 0).R l) (kA : ∀ l, k.A l → (K 0).W l ∨ (K 0).A l)
    (cW : ∀ l, kc.W l → (K 0).W l) (cR : ∀ l, kc.R l → (K 0).W l ∨ (K 0).R l) (cA : ∀ l, kc.A l → (K 0).W l ∨ (K 0).A l)
    (dWW : ∀ l, k.W l → ¬ kc.W l) (dWR : ∀ l, k.W l → ¬ kc.R l) (dRW : ∀ l, kc.W l → ¬ k.R l)
    (a1 : ∀ l, k.W l ∨ k.R l → ¬ k.A l ∧ ¬ kc.A l) (a2 : ∀ l, kc.W l ∨ kc.R l → ¬ k.A l ∧ ¬ kc.A l) :
    Lic (n + 1) (upd (upd K 0 k) n kc) w (t ++ #[x, y]) := by
  have hk0 : Deaf t n = 0 := h.above n (Nat.le_refl _)
  have hnt : ∀ op ∈ #[x, y], ∀ b, op.act.touch? = some b → False := by
    intro op hop b hb
    simp only [List.mem_toArray, List.mem_cons, List.not_mem_nil, or_false] at hop
    rcases hop with rfl | rfl
    · rw [hx.2] at hb; cases hb
    · rw [hy.2] at hb; cases hb
  have old : ∀ {p : Nat} {a : Touch}, touchAt (t ++ #[x, y]) p = some a → touchAt t p = some a := by
    intro p a ha
    obtain ⟨z, hz, hza⟩ := touch_of ha
    rcases getElem?_append_cases hz with ⟨_, hz'⟩ | ⟨_, hzu⟩
    · rw [touchAt_of hz']; exact hza
    · exact (hnt z hzu a hza).elim
  have hl := h.less hn kW kR kA (fun l hh => (a1 l hh).1)
  have en : upd (upd K 0 k) n kc n = kc := upd_same _ _ _
  have e0 : upd K 0 k 0 = k := upd_same _ _ _
  have eo : ∀ j, j < n → upd (upd K 0 k) n kc j = upd K 0 k j := fun j hj => upd_ne _ _ (by omega)
  have ej : ∀ j, j ≠ 0 → upd K 0 k j = K j := fun j hj => upd_ne _ _ hj
  have split : ∀ j, j < n + 1 → (j = n ∧ upd (upd K 0 k) n kc j = kc) ∨ (j < n ∧ upd (upd K 0 k) n kc j = upd K 0 k j) := fun j hj => by
    rcases Nat.lt_or_ge j n with h1 | h1
    · exact .inr ⟨h1, eo j h1⟩
    · obtain rfl : j = n := by omega
      exact .inl ⟨rfl, en⟩
  -- the child against the others
  have c1 : ∀ j, j < n → ∀ l, kc.W l → ¬ (upd K 0 k j).W l ∧ ¬ (upd K 0 k j).R l := fun j hj l hl' => by
    by_cases e : j = 0
    · subst e; rw [e0]; exact ⟨fun hh => dWW l hh hl', dRW l hl'⟩
    · rw [ej j e]; exact ⟨h.ww 0 j hn hj (fun x => e x.symm) l (cW l hl'), h.wr 0 j hn hj (fun x => e x.symm) l (cW l hl')⟩
  have c2 : ∀ j, j < n → ∀ l, kc.R l → ¬ (upd K 0 k j).W l := fun j hj l hl' hw => by
    by_cases e : j = 0
    · subst e; rw [e0] at hw; exact dWR l hw hl'
    · rw [ej j e] at hw
      rcases cR l hl' with h1 | h1
      · exact h.ww j 0 hj hn e l hw h1
      · exact h.wr j 0 hj hn e l hw h1
  have c3 : ∀ j, j < n → ∀ l, kc.W l ∨ kc.R l → ¬ (upd K 0 k j).A l := fun j hj l hl' ha => by
    by_cases e : j = 0
    · subst e; rw [e0] at ha; exact (a2 l hl').1 ha
    · rw [ej j e] at ha
      rcases hl' with h1 | h1
      · exact h.wa 0 j hn hj l (.inl (cW l h1)) ha
      · exact h.wa 0 j hn hj l (cR l h1) ha
  have c4 : ∀ j, j < n → ∀ l, (upd K 0 k j).W l ∨ (upd K 0 k j).R l → ¬ kc.A l := fun j hj l hl' ha => by
    by_cases e : j = 0
    · subst e; rw [e0] at hl'; exact (a1 l hl').2 ha
    · rw [ej j e] at hl'
      rcases cA l ha with h1 | h1
      · rcases hl' with h2 | h2
        · exact h.ww j 0 hj hn e l h2 h1
        · exact h.wr 0 j hn hj (fun x => e x.symm) l h1 h2
      · exact h.wa j 0 hj hn l hl' h1
  refine ⟨fun a b ha hb hab l => ?_, fun a b ha hb hab l => ?_, fun a b ha hb l => ?_, fun a ha l => ?_, fun a ha l => ?_, fun a ha l => ?_, fun a ha p z hz hA hk => ?_, fun p z hz hk => (h.said p z (old hz) hk).app _, fun sd => ?_, ?_, fun j hj => ?_⟩
  · rcases split a ha with ⟨rfl, ea⟩ | ⟨ha', ea⟩ <;> rcases split b hb with ⟨rfl, eb⟩ | ⟨hb', eb⟩ <;> (first | rw [ea, eb] | rw [ea])
    · exact absurd rfl hab
    · exact fun h1 => (c1 b hb' l h1).1
    · exact fun h1 h2 => (c1 a ha' l h2).1 h1
    · exact hl.ww a b ha' hb' hab l
  · rcases split a ha with ⟨rfl, ea⟩ | ⟨ha', ea⟩ <;> rcases split b hb with ⟨rfl, eb⟩ | ⟨hb', eb⟩ <;> (first | rw [ea, eb] | rw [ea])
    · exact absurd rfl hab
    · exact fun h1 => (c1 b hb' l h1).2
    · exact fun h1 h2 => c2 a ha' l h2 h1
    · exact hl.wr a b ha' hb' hab l
  · rcases split a ha with ⟨rfl, ea⟩ | ⟨ha', ea⟩ <;> rcases split b hb with ⟨rfl, eb⟩ | ⟨hb', eb⟩ <;> (first | rw [ea, eb] | rw [ea])
    · exact fun h1 => (a2 l h1).2
    · exact fun h1 => c3 b hb' l h1
    · exact fun h1 => c4 a ha' l h1
    · exact hl.wa a b ha' hb' l
  · rcases split a ha with ⟨rfl, ea⟩ | ⟨ha', ea⟩ <;> rw [ea]
    · rintro (h1 | h1 | h1)
      · exact h.low 0 hn l (.inl (cW l h1))
      · exact h.low 0 hn l ((cR l h1).elim .inl (fun q => .inr (.inl q)))
      · exact h.low 0 hn l ((cA l h1).elim .inl (fun q => .inr (.inr q)))
    · exact hl.low a ha' l
  · rcases split a ha with ⟨rfl, ea⟩ | ⟨ha', ea⟩ <;> rw [ea]
    · exact fun h1 p z hz e => fork_knows hx hy d0 hk0 (h.pw 0 hn l (cW l h1) p z (old hz) e)
    · exact fun h1 => (hl.pw a ha' l h1).app fun op hop b hb _ => (hnt op hop b hb).elim
  · rcases split a ha with ⟨rfl, ea⟩ | ⟨ha', ea⟩ <;> rw [ea]
    · intro h1 p z hz e hw
      rcases cR l h1 with h2 | h2
      · exact fork_knows hx hy d0 hk0 (h.pw 0 hn l h2 p z (old hz) e)
      · exact fork_knows hx hy d0 hk0 (h.pr 0 hn l h2 p z (old hz) e hw)
    · exact fun h1 => (hl.pr a ha' l h1).app fun op hop b hb _ _ => (hnt op hop b hb).elim
  · rcases split a ha with ⟨rfl, ea⟩ | ⟨ha', ea⟩ <;> rw [ea] at hA
    · rcases cA _ hA with h2 | h2
      · exact fork_knows hx hy d0 hk0 (h.pw 0 hn _ h2 p z (old hz) rfl)
      · exact fork_knows hx hy d0 hk0 (h.pa 0 hn p z (old hz) h2 hk)
    · exact (hl.pa a ha' p z (old hz) hA hk).app _
  · have e : t ++ #[x, y] = (t ++ #[x]) ++ #[y] := by apply Array.ext'; simp
    rw [e]
    refine noRace_append (g := n) (noRace_append (g := 0) (h.race sd) (fun op hop => by simp at hop; rw [hop]; exact hx.1) (fun p a _ op hop b hb _ => (hnt op (by simp at hop ⊢; exact .inl hop) b hb).elim))
      (fun op hop => by simp at hop; rw [hop]; exact hy.1) (fun p a _ op hop b hb _ => (hnt op (by simp at hop ⊢; exact .inr hop) b hb).elim)
  · intro op hop
    rcases Array.mem_append.1 hop with h1 | h1
    · exact h.seen op h1
    · simp only [List.mem_toArray, List.mem_cons, List.not_mem_nil, or_false] at h1
      rcases h1 with rfl | rfl
      · rw [hx.2]; trivial
      · rw [hy.2]; trivial
  · have e : t ++ #[x, y] = (t ++ #[x]) ++ #[y] := by apply Array.ext'; simp
    rw [e, Deaf_other _ (g' := n) (by omega) _ (fun op hop => by simp at hop; rw [hop]; exact hy.1), Deaf_other _ (g' := 0) (by omega) _ (fun op hop => by simp at hop; rw [hop]; exact hx.1)]
    exact h.above j (by omega)
theorem isMemory_of {m : Nat} {l : Loc} (h : MemLoc m l) : l.isMemory = true := by cases l <;> first | rfl | exact h.elim
theorem Lic.start {Shun : Loc → Prop} (hP : Past Shun w.heap.size t) {gs : Array Goroutine} {P : Program} {q : Nat → Nat} (hL : Leavers P t gs q) (k : LK)
    (kW : ∀ l, k.W l → MemLoc w.heap.size l ∧ ¬ Shun l) (kR : ∀ l, k.R l → MemLoc w.heap.size l ∧ ¬ Shun l) (kA : ∀ l, k.A l → MemLoc w.heap.size l ∧ ¬ Shun l) (kWA : ∀ l, k.W l ∨ k.R l → ¬ k.A l) :
    Lic gs.size (fun i => if i = 0 then k else LK.none) w t := by
  have kn : ∀ l, (MemLoc w.heap.size l ∧ ¬ Shun l) → Perm t 0 l := fun l hl p a ha e => (hP.known p a ha (by rw [e]; exact isMemory_of hl.1)).resolve_right (fun x => hl.2 (e ▸ x.1))
  refine ⟨fun a b _ _ hab l h1 h2 => ?_, fun a b _ _ hab l h1 h2 => ?_, fun a b _ _ l h1 h2 => ?_, fun a _ l h1 => ?_, fun a _ l h1 => ?_, fun a _ l h1 => ?_, fun a _ p z hz h1 _ => ?_, fun p z hz hk => ?_, hP.clean, hP.seen, hL.above⟩
  · by_cases ea : a = 0 <;> by_cases eb : b = 0 <;> simp_all [LK.none]
  · by_cases ea : a = 0 <;> by_cases eb : b = 0 <;> simp_all [LK.none]
  · by_cases ea : a = 0 <;> by_cases eb : b = 0 <;> simp_all [LK.none]
  · by_cases ea : a = 0
    · rw [if_pos ea] at h1
      rcases h1 with h1 | h1 | h1
      · exact (kW l h1).1
      · exact (kR l h1).1
      · exact (kA l h1).1
    · rw [if_neg ea] at h1; simp [LK.none] at h1
  · by_cases ea : a = 0
    · rw [if_pos ea] at h1; subst ea; exact kn l (kW l h1)
    · rw [if_neg ea] at h1; exact h1.elim
  · by_cases ea : a = 0
    · rw [if_pos ea] at h1; subst ea; exact PermW.of (kn l (kR l h1))
    · rw [if_neg ea] at h1; exact h1.elim
  · by_cases ea : a = 0
    · rw [if_pos ea] at h1; subst ea; exact kn _ (kA _ h1) p z hz rfl
    · rw [if_neg ea] at h1; exact h1.elim
  · refine (hP.known p z hz ?_).resolve_right (fun x => by rw [x.2] at hk; cases hk)
    obtain ⟨op, hop, hoa⟩ := touch_of hz
    obtain ⟨g, fn, pos, act⟩ := op
    simp only at hoa
    cases act with
    | access e =>
      simp only [MemAct.touch?, Option.some.injEq] at hoa
      subst hoa
      obtain ⟨loc, wr, sy⟩ := e
      cases sy <;> cases hk
    | mark m => cases m <;> simp only [MemAct.touch?, Option.some.injEq, reduceCtorEq] at hoa <;> subst hoa <;> rfl
    | _ => simp [MemAct.touch?] at hoa
end
end Go.Proofs.Yticdjkkcfdbdcaa
namespace Go.Proofs.Yticdjkkcfdbdcaa
open Go.Conc Go.ConcN
/-- A send's or a receive's word. -/
def CommOp (a : MemAct) : Prop := (∃ c k, a = .send c k) ∨ (∃ c k, a = .sendDone c k) ∨ (∃ c k cap, a = .recv c k cap) ∨ ∃ c k, a = .recvDone c k
def sw (p k : Nat) : Nat := if k = p then p + 1 else if k = p + 1 then p else k
theorem sw_sw (p k : Nat) : sw p (sw p k) = k := by
  unfold sw
  split <;> split <;> (try split) <;> omega
section
variable {t : Trace} {a b x y : MemOp}
theorem sw_get (t : Trace) (a b x y : MemOp) (k : Nat) : (t ++ #[a, x, b, y])[sw (t.size + 1) k]? = (t ++ #[a, b, x, y])[k]? := by
  unfold sw
  by_cases h1 : k = t.size + 1
  · subst h1
    rw [if_pos rfl, Array.getElem?_append_right (by omega), Array.getElem?_append_right (by omega)]
    simp [show t.size + 1 + 1 - t.size = 2 by omega]
  · rw [if_neg h1]
    by_cases h2 : k = t.size + 1 + 1
    · subst h2
      rw [if_pos rfl, Array.getElem?_append_right (by omega), Array.getElem?_append_right (by omega)]
      simp [show t.size + 1 + 1 - t.size = 2 by omega]
    · rw [if_neg h2]
      by_cases h3 : k < t.size
      · rw [Array.getElem?_append_left h3, Array.getElem?_append_left h3]
      · obtain ⟨d, rfl⟩ := Nat.exists_eq_add_of_le (Nat.le_of_not_lt h3)
        rw [Array.getElem?_append_right (by omega), Array.getElem?_append_right (by omega), Nat.add_sub_cancel_left]
        match d, h1, h2 with
        | 0, _, _ => rfl
        | 1, h1, _ => exact absurd rfl h1
        | 2, _, h2 => exact absurd rfl h2
        | 3, _, _ => rfl
        | d + 4, _, _ => simp
theorem sw_act (t : Trace) (a b x y : MemOp) (k : Nat) : Trace.act? (t ++ #[a, x, b, y]) (sw (t.size + 1) k) = Trace.act? (t ++ #[a, b, x, y]) k := by unfold Trace.act?; rw [sw_get]
theorem sw_g (t : Trace) (a b x y : MemOp) (k : Nat) : Trace.g? (t ++ #[a, x, b, y]) (sw (t.size + 1) k) = Trace.g? (t ++ #[a, b, x, y]) k := by unfold Trace.g?; rw [sw_get]
theorem act_b (t : Trace) (a b x y : MemOp) : Trace.act? (t ++ #[a, b, x, y]) (t.size + 1) = some b.act := by
  unfold Trace.act?
  rw [Array.getElem?_append_right (by omega), Nat.add_sub_cancel_left]
  rfl
theorem act_x (t : Trace) (a b x y : MemOp) : Trace.act? (t ++ #[a, b, x, y]) (t.size + 1 + 1) = some x.act := by
  unfold Trace.act?
  rw [Array.getElem?_append_right (by omega), show t.size + 1 + 1 - t.size = 2 by omega]
  rfl
theorem comm_not {m : MemAct} (h : CommOp m) : (∀ e, m ≠ .access e) ∧ ∀ z, m ≠ .mark z := by
  rcases h with ⟨_, _, rfl⟩ | ⟨_, _, rfl⟩ | ⟨_, _, _, rfl⟩ | ⟨_, _, rfl⟩ <;> exact ⟨fun _ e => (by cases e), fun _ e => (by cases e)⟩
/-- A place where something else than a hand-over's word stands is not moved. -/
theorem sw_fix {k : Nat} {m : MemAct} (hb : CommOp b.act) (hx : CommOp x.act) (hm : (∃ e, m = .access e) ∨ ∃ z, m = .mark z) (h : Trace.act? (t ++ #[a, b, x, y]) k = some m) : sw (t.size + 1) k = k ∧ k ≠ t.size + 1 ∧ k ≠ t.size + 1 + 1 := by
  have h1 : k ≠ t.size + 1 := fun e => by
    subst e
    rw [act_b] at h
    cases h
    rcases hm with ⟨e, he⟩ | ⟨z, he⟩
    · exact (comm_not hb).1 e he
    · exact (comm_not hb).2 z he
  have h2 : k ≠ t.size + 1 + 1 := fun e => by
    subst e
    rw [act_x] at h
    cases h
    rcases hm with ⟨e, he⟩ | ⟨z, he⟩
    · exact (comm_not hx).1 e he
    · exact (comm_not hx).2 z he
  exact ⟨by unfold sw; rw [if_neg h1, if_neg h2], h1, h2⟩
theorem deaf_step (T : Trace) (g k : Nat) (h : ∀ op, T[k]? = some op → op.act ≠ .mark .disable ∧ op.act ≠ .mark .enable) : T.deaf g (k + 1) = T.deaf g k := by
  simp only [Trace.deaf]
  split
  · rename_i h1
    exact absurd rfl (h _ h1).1
  · rename_i h1
    exact absurd rfl (h _ h1).2
  · rfl
theorem deaf_pre (T T' : Trace) (g : Nat) : ∀ k, (∀ m, m < k → T'[m]? = T[m]?) → T'.deaf g k = T.deaf g k
  | 0, _ => rfl
  | k + 1, h => by
    have ih := deaf_pre T T' g k fun m hm => h m (by omega)
    simp only [Trace.deaf, h k (by omega), ih]
theorem sw_deaf (hb : CommOp b.act) (hx : CommOp x.act) (g k : Nat) : Trace.deaf (t ++ #[a, x, b, y]) g (sw (t.size + 1) k) = Trace.deaf (t ++ #[a, b, x, y]) g k := by
  have same : ∀ m, m < t.size + 1 → (t ++ #[a, x, b, y])[m]? = (t ++ #[a, b, x, y])[m]? := fun m hm => by
    have := sw_get t a b x y m
    rwa [show sw (t.size + 1) m = m by unfold sw; rw [if_neg (by omega), if_neg (by omega)]] at this
  have gb : (t ++ #[a, b, x, y])[t.size + 1]? = some b := by rw [Array.getElem?_append_right (by omega), Nat.add_sub_cancel_left]; rfl
  have gx : (t ++ #[a, b, x, y])[t.size + 1 + 1]? = some x := by rw [Array.getElem?_append_right (by omega), show t.size + 1 + 1 - t.size = 2 by omega]; rfl
  have gb' : (t ++ #[a, x, b, y])[t.size + 1]? = some x := by rw [Array.getElem?_append_right (by omega), Nat.add_sub_cancel_left]; rfl
  have gx' : (t ++ #[a, x, b, y])[t.size + 1 + 1]? = some b := by rw [Array.getElem?_append_right (by omega), show t.size + 1 + 1 - t.size = 2 by omega]; rfl
  have nb : b.act ≠ .mark .disable ∧ b.act ≠ .mark .enable := ⟨(comm_not hb).2 _, (comm_not hb).2 _⟩
  have nx : x.act ≠ .mark .disable ∧ x.act ≠ .mark .enable := ⟨(comm_not hx).2 _, (comm_not hx).2 _⟩
  have p0 := deaf_pre (t ++ #[a, b, x, y]) (t ++ #[a, x, b, y]) g (t.size + 1) same
  have p1 := deaf_step (t ++ #[a, b, x, y]) g (t.size + 1) fun op h => by rw [gb] at h; cases h; exact nb
  have p2 := deaf_step (t ++ #[a, b, x, y]) g (t.size + 1 + 1) fun op h => by rw [gx] at h; cases h; exact nx
  have q1 := deaf_step (t ++ #[a, x, b, y]) g (t.size + 1) fun op h => by rw [gb'] at h; cases h; exact nx
  have q2 := deaf_step (t ++ #[a, x, b, y]) g (t.size + 1 + 1) fun op h => by rw [gx'] at h; cases h; exact nb
  have far : ∀ d, Trace.deaf (t ++ #[a, x, b, y]) g (t.size + 1 + 1 + 1 + d) = Trace.deaf (t ++ #[a, b, x, y]) g (t.size + 1 + 1 + 1 + d) := by
    intro d
    induction d with
    | zero => rw [Nat.add_zero, q2, q1, p2, p1, p0]
    | succ d ih =>
      have e := sw_get t a b x y (t.size + 1 + 1 + 1 + d)
      rw [show sw (t.size + 1) (t.size + 1 + 1 + 1 + d) = t.size + 1 + 1 + 1 + d by unfold sw; rw [if_neg (by omega), if_neg (by omega)]] at e
      rw [show t.size + 1 + 1 + 1 + (d + 1) = (t.size + 1 + 1 + 1 + d) + 1 by omega]
      simp only [Trace.deaf, e, ih]
  unfold sw
  by_cases h1 : k = t.size + 1
  · subst h1
    rw [if_pos rfl, q1, p0]
  · rw [if_neg h1]
    by_cases h2 : k = t.size + 1 + 1
    · subst h2
      rw [if_pos rfl, p0, p1]
    · rw [if_neg h2]
      by_cases h3 : k < t.size + 1
      · exact deaf_pre _ _ g k fun m hm => same m (by omega)
      · obtain ⟨d, rfl⟩ := Nat.exists_eq_add_of_le (show t.size + 1 + 1 + 1 ≤ k by omega)
        exact far d
theorem sw_heard (hb : CommOp b.act) (hx : CommOp x.act) {k : Nat} (h : Trace.heard (t ++ #[a, b, x, y]) k) : Trace.heard (t ++ #[a, x, b, y]) (sw (t.size + 1) k) := by
  obtain ⟨g, h1, h2⟩ := h
  exact ⟨g, (sw_g t a b x y k).trans h1, (sw_deaf hb hx g k).trans h2⟩
theorem sw_po (hg : b.g ≠ x.g) {u v : Nat} (h : ProgramOrder (t ++ #[a, b, x, y]) u v) : ProgramOrder (t ++ #[a, x, b, y]) (sw (t.size + 1) u) (sw (t.size + 1) v) := by
  obtain ⟨huv, g, h1, h2⟩ := h
  refine ⟨?_, g, (sw_g t a b x y u).trans h1, (sw_g t a b x y v).trans h2⟩
  have : ¬ (u = t.size + 1 ∧ v = t.size + 1 + 1) := fun ⟨e1, e2⟩ => by
    subst e1 e2
    unfold Trace.g? at h1 h2
    rw [Array.getElem?_append_right (by omega), Nat.add_sub_cancel_left] at h1
    rw [Array.getElem?_append_right (by omega), show t.size + 1 + 1 - t.size = 2 by omega] at h2
    simp at h1 h2
    exact hg (h1.trans h2.symm)
  unfold sw
  split <;> split <;> (try split) <;> (try split) <;> omega
theorem sw_not (hb : CommOp b.act) (hx : CommOp x.act) {u v : Nat} (h : Notices (t ++ #[a, b, x, y]) u v) : Notices (t ++ #[a, x, b, y]) (sw (t.size + 1) u) (sw (t.size + 1) v) := by
  have btw : ∀ k, k ≠ t.size + 1 → k ≠ t.size + 1 + 1 → sw (t.size + 1) k = k := fun k h1 h2 => by unfold sw; rw [if_neg h1, if_neg h2]
  cases h with
  | @atomic c hij h1 h2 h3 =>
    obtain ⟨e1, n1, n2⟩ := sw_fix hb hx (.inl ⟨_, rfl⟩) h1
    obtain ⟨e2, n3, n4⟩ := sw_fix hb hx (.inl ⟨_, rfl⟩) h2
    rw [e1, e2]
    refine .atomic hij (by have := sw_act t a b x y u; rw [e1] at this; exact this.trans h1) (by have := sw_act t a b x y v; rw [e2] at this; exact this.trans h2) fun k s hk1 hk2 => ?_
    have := sw_act t a b x y (sw (t.size + 1) k)
    rw [sw_sw] at this
    rw [this]
    have : u < sw (t.size + 1) k ∧ sw (t.size + 1) k < v := by
      unfold sw
      split <;> (try split) <;> omega
    exact h3 _ s this.1 this.2
  | spawn h1 h2 h3 => exact .spawn ((sw_act t a b x y u).trans h1) ((sw_act t a b x y v).trans h2) ((sw_g t a b x y v).trans h3)
  | handOver h1 h2 => exact .handOver ((sw_act t a b x y u).trans h1) ((sw_act t a b x y v).trans h2)
  | room h1 h2 => exact .room ((sw_act t a b x y u).trans h1) ((sw_act t a b x y v).trans h2)
  | closed h1 h2 => exact .closed ((sw_act t a b x y u).trans h1) ((sw_act t a b x y v).trans h2)
  | @marked c hij h1 h2 h3 =>
    obtain ⟨e1, n1, n2⟩ : sw (t.size + 1) u = u ∧ u ≠ t.size + 1 ∧ u ≠ t.size + 1 + 1 := by
      rcases h1 with h1 | h1
      · exact sw_fix hb hx (.inr ⟨_, rfl⟩) h1
      · exact sw_fix hb hx (.inr ⟨_, rfl⟩) h1
    obtain ⟨e2, n3, n4⟩ := sw_fix hb hx (.inr ⟨_, rfl⟩) h2
    rw [e1, e2]
    have ea := sw_act t a b x y u
    rw [e1] at ea
    refine .marked hij (by rw [ea]; exact h1) (by have := sw_act t a b x y v; rw [e2] at this; exact this.trans h2) fun k hk1 hk2 => ?_
    have := sw_act t a b x y (sw (t.size + 1) k)
    rw [sw_sw] at this
    rw [this]
    have : u < sw (t.size + 1) k ∧ sw (t.size + 1) k < v := by
      unfold sw
      split <;> (try split) <;> omega
    exact h3 _ this.1 this.2
theorem sw_hb (hb : CommOp b.act) (hx : CommOp x.act) (hg : b.g ≠ x.g) {u v : Nat} (h : HappensBefore (t ++ #[a, b, x, y]) u v) : HappensBefore (t ++ #[a, x, b, y]) (sw (t.size + 1) u) (sw (t.size + 1) v) := by
  have one : ∀ {u v : Nat}, (ProgramOrder (t ++ #[a, b, x, y]) u v ∨ (Notices (t ++ #[a, b, x, y]) u v ∧ Trace.heard (t ++ #[a, b, x, y]) u ∧ Trace.heard (t ++ #[a, b, x, y]) v)) →
      ProgramOrder (t ++ #[a, x, b, y]) (sw (t.size + 1) u) (sw (t.size + 1) v) ∨ (Notices (t ++ #[a, x, b, y]) (sw (t.size + 1) u) (sw (t.size + 1) v) ∧ Trace.heard (t ++ #[a, x, b, y]) (sw (t.size + 1) u) ∧ Trace.heard (t ++ #[a, x, b, y]) (sw (t.size + 1) v)) :=
    fun h => h.imp (sw_po hg) fun ⟨h1, h2, h3⟩ => ⟨sw_not hb hx h1, sw_heard hb hx h2, sw_heard hb hx h3⟩
  unfold HappensBefore at h ⊢
  induction h with
  | single h => exact .single (one h)
  | tail _ h ih => exact .tail ih (one h)
theorem sw_knows (hb : CommOp b.act) (hx : CommOp x.act) (hg : b.g ≠ x.g) {g u : Nat} (h : Knows (t ++ #[a, b, x, y]) g u) : Knows (t ++ #[a, x, b, y]) g (sw (t.size + 1) u) := by
  obtain ⟨q, z, h1, h2, h3⟩ := h
  refine ⟨sw (t.size + 1) q, z, (sw_get t a b x y q).trans h1, h2, ?_⟩
  rcases h3 with rfl | h3
  · exact .inl rfl
  · exact .inr (sw_hb hb hx hg h3)
theorem sw_touch (t : Trace) (a b x y : MemOp) (k : Nat) : touchAt (t ++ #[a, x, b, y]) k = touchAt (t ++ #[a, b, x, y]) (sw (t.size + 1) k) := by
  have := sw_act t a b x y (sw (t.size + 1) k)
  rw [sw_sw] at this
  unfold touchAt
  rw [this]
theorem comm_touch {m : MemAct} (h : CommOp m) : m.touch? = none := by
  rcases h with ⟨_, _, rfl⟩ | ⟨_, _, rfl⟩ | ⟨_, _, _, rfl⟩ | ⟨_, _, rfl⟩ <;> rfl
theorem sw_race (hb : CommOp b.act) (hx : CommOp x.act) (hg : b.g ≠ x.g) {sd : Bool} (h : ¬ Race sd (t ++ #[a, b, x, y])) : ¬ Race sd (t ++ #[a, x, b, y]) := by
  rintro ⟨i, j, hij, ⟨u, v, hu, hv, hc⟩, n1, n2⟩
  have fix : ∀ k z, touchAt (t ++ #[a, x, b, y]) k = some z → sw (t.size + 1) k = k := fun k z hk => by
    have hk' : (Trace.act? (t ++ #[a, x, b, y]) k).bind (·.touch?) = some z := hk
    unfold sw
    by_cases e1 : k = t.size + 1
    · subst e1
      rw [act_b] at hk'
      simp [comm_touch hx] at hk'
    · rw [if_neg e1]
      by_cases e2 : k = t.size + 1 + 1
      · subst e2
        rw [act_x] at hk'
        simp [comm_touch hb] at hk'
      · rw [if_neg e2]
  have ei := fix i u hu
  have ej := fix j v hv
  have hu' := sw_touch t a b x y i
  have hv' := sw_touch t a b x y j
  rw [ei] at hu'
  rw [ej] at hv'
  refine h ⟨i, j, hij, ⟨u, v, hu'.symm.trans hu, hv'.symm.trans hv, hc⟩, fun e => n1 ?_, fun e => n2 ?_⟩
  · have := sw_hb hb hx hg e
    rwa [ei, ej] at this
  · have := sw_hb hb hx hg e
    rwa [ei, ej] at this
theorem sw_perm (hb : CommOp b.act) (hx : CommOp x.act) (hg : b.g ≠ x.g) {g : Nat} {l : Loc} (h : Perm (t ++ #[a, b, x, y]) g l) : Perm (t ++ #[a, x, b, y]) g l := fun k z hk hl => by
  rw [sw_touch] at hk
  have := sw_knows hb hx hg (h _ z hk hl)
  rwa [sw_sw] at this
theorem sw_permW (hb : CommOp b.act) (hx : CommOp x.act) (hg : b.g ≠ x.g) {g : Nat} {l : Loc} (h : PermW (t ++ #[a, b, x, y]) g l) : PermW (t ++ #[a, x, b, y]) g l := fun k z hk hl hw => by
  rw [sw_touch] at hk
  have := sw_knows hb hx hg (h _ z hk hl hw)
  rwa [sw_sw] at this
theorem Deaf_comm (t : Trace) (g : Nat) {u : Trace} (hu : ∀ op ∈ u, CommOp op.act) : Deaf (t ++ u) g = Deaf t g := by
  obtain ⟨l⟩ := u
  rw [Deaf_append]
  replace hu : ∀ op ∈ l, CommOp op.act := fun op h => hu op (by simpa using h)
  generalize Deaf t g = d
  induction l generalizing d with
  | nil => rfl
  | cons op l ih =>
    have h1 := (comm_not (hu op (List.mem_cons_self ..))).2
    have e : deafStep g d op = d := by
      obtain ⟨g', fn, pos, act⟩ := op
      simp only at h1
      unfold deafStep
      cases act with
      | mark m => exact absurd rfl (h1 m)
      | _ => rfl
    rw [List.foldl_cons, e]
    exact ih (fun op h => hu op (List.mem_cons_of_mem _ h)) d
/-- The licences stand. -/
theorem Lic.swap {n : Nat} {K : Nat → LK} {w : World} (h : Lic n K w (t ++ #[a, b, x, y])) (ha : CommOp a.act) (hb : CommOp b.act) (hx : CommOp x.act) (hy : CommOp y.act) (hg : b.g ≠ x.g) : Lic n K w (t ++ #[a, x, b, y]) where
  ww := h.ww
  wr := h.wr
  wa := h.wa
  low := h.low
  pw i hi l hl := sw_perm hb hx hg (h.pw i hi l hl)
  pr i hi l hl := sw_permW hb hx hg (h.pr i hi l hl)
  pa i hi p z hz hA hk := by
    rw [sw_touch] at hz
    have := sw_knows hb hx hg (h.pa i hi _ z hz hA hk)
    rwa [sw_sw] at this
  said p z hz hk := by
    rw [sw_touch] at hz
    have := sw_knows hb hx hg (h.said _ z hz hk)
    rwa [sw_sw] at this
  race sd := sw_race hb hx hg (h.race sd)
  seen op hop := h.seen op (by
    rcases Array.mem_append.1 hop with h1 | h1
    · exact Array.mem_append_left _ h1
    · refine Array.mem_append_right _ ?_
      simp only [List.mem_toArray, List.mem_cons, List.not_mem_nil, or_false] at h1 ⊢
      rcases h1 with h1 | h1 | h1 | h1
      · exact .inl h1
      · exact .inr (.inr (.inl h1))
      · exact .inr (.inl h1)
      · exact .inr (.inr (.inr h1)))
  above j hj := by
    have h1 := h.above j hj
    rw [Deaf_comm] at h1 ⊢
    · exact h1
    · intro op hop
      simp only [List.mem_toArray, List.mem_cons, List.not_mem_nil, or_false] at hop
      rcases hop with rfl | rfl | rfl | rfl <;> assumption
    · intro op hop
      simp only [List.mem_toArray, List.mem_cons, List.not_mem_nil, or_false] at hop
      rcases hop with rfl | rfl | rfl | rfl <;> assumption
end
end Go.Proofs.Yticdjkkcfdbdcaa
namespace Go.Proofs.Yticdjkkcfdbdcaa
open Go.Conc Go.ConcN
/-- A protocol: what is shared. -/
structure Proto (P : Program) where
  σ : Type
  F : Nat → (Nat → σ) → (Nat → LK) → World → Trace → Prop
  FR : Nat → World → World → Prop
  blk : Nat → (Nat → σ) → World → Nat → Prop
  gone : σ → Prop
  left : Nat → (Nat → σ) → Nat
  End : σ → Goroutine → World → Prop
  idle : σ → Nat → Prop
/-- A channel that is open and has nothing; one that is closed. -/
def ChanMt (w : World) (c : Nat) : Prop := ∃ cap s r tm, w.heap[c]? = some (.chan cap #[] false s r tm)
def ChanCl (w : World) (c : Nat) : Prop := ∃ cap buf s r tm, w.heap[c]? = some (.chan cap buf true s r tm)
/-- A goroutine that stands at a receive, whatever the world. -/
def RecvAt (P : Program) (g : Goroutine) (c : Nat) (z : Value) (f : Bool) : Prop := ∀ w, stepG P false g w = .comm g #[rcase c z] true (.recv f) w #[]
/-- A goroutine that stands at a send. -/
def SendAt (P : Program) (i : Nat) (g : Goroutine) (c : Nat) (v z : Value) : Prop := ∀ w, stepG P (i == 0) g w = .comm g #[scase c v z] true .send w #[]
structure Proto.Ok {P : Program} (pr : Proto P) : Prop where
  refl : ∀ i w, pr.FR i w w
  trans : ∀ i a b c, pr.FR i a b → pr.FR i b c → pr.FR i a c
  frAt : ∀ i w d, pr.FR i w (w.at d)
  fAt : ∀ n S K w t d, pr.F n S K w t → pr.F n S K (w.at d) t
  blkAt : ∀ n S w i d, pr.blk n S w i → pr.blk n S (w.at d) i
  mute : ∀ n S K w t i fn pos (es : Array Event), pr.F n S K w t → Lic n K w t → i < n → i ≠ 0 → pr.gone (S i) → (∀ e ∈ es, Event.mute e = true) → pr.F n S K w (t ++ MemOp.ofEvents i fn pos es)
  live : ∀ n S K w t, pr.F n S K w t → Lic n K w t → ∃ i, i < n ∧ ¬ pr.gone (S i) ∧ ¬ pr.blk n S w i ∧ ∀ c, pr.idle (S i) c → ¬ ChanMt w c
  swap : (∃ s c, pr.idle s c) → ∀ n S K w t (a b x y : MemOp), (∃ S0 K0 w0, pr.F n S0 K0 w0 t) → pr.F n S K w (t ++ #[a, b, x, y]) → b.g ≠ x.g → CommOp a.act → CommOp b.act → CommOp x.act → CommOp y.act → (∃ c k, b.act = .sendDone c k) → (∃ c k cap, x.act = .recv c k cap) → pr.F n S K w (t ++ #[a, x, b, y])
inductive Tree (I : Type) where
  | leaf
  | node (f : I → Bool → Tree I)
def Below {I : Type} (a b : Tree I) : Prop := ∃ f x y, b = .node f ∧ a = f x y
theorem below_wf {I : Type} (a : Tree I) : Acc (Below (I := I)) a := by
  induction a with
  | leaf => exact ⟨_, fun b ⟨f, x, y, h, _⟩ => by cases h⟩
  | node f ih =>
    refine ⟨_, fun b ⟨f', x, y, h, e⟩ => ?_⟩
    cases h
    rw [e]
    exact ih x y
/-- One of the first n falls, the others stand. -/
def VecRel {I : Type} (n : Nat) (O' O : Nat → Tree I) : Prop := ∃ i, i < n ∧ Below (O' i) (O i) ∧ ∀ j, j < n → j ≠ i → O' j = O j
theorem vec_wf {I : Type} : ∀ (n : Nat) (O : Nat → Tree I), Acc (VecRel (I := I) n) O := by
  intro n
  induction n with
  | zero => exact fun O => ⟨_, fun O' ⟨i, hi, _⟩ => by omega⟩
  | succ n ih =>
    have key : ∀ a : Tree I, Acc (Below (I := I)) a → ∀ O : Nat → Tree I, O n = a → Acc (VecRel (I := I) (n + 1)) O := by
      intro a ha
      induction ha with
      | intro a _ iha =>
        intro O hO
        have := ih O
        induction this with
        | intro O _ ihO =>
          refine ⟨_, fun O' ⟨i, hi, hb, hs⟩ => ?_⟩
          by_cases e : i = n
          · subst e
            exact iha _ (hO ▸ hb) O' rfl
          · exact ihO O' ⟨i, by omega, hb, fun j hj hji => hs j (by omega) hji⟩ ((hs n (by omega) (fun h => e h.symm)).trans hO)
    exact fun O => key (O n) (below_wf _) O rfl
section
variable {P : Program} (pr : Proto P)
abbrev Proto.In : Type := World × Nat × (Nat → pr.σ) × (Nat → LK) × Trace
/-- Where a goroutine stands, the others having done what they may. -/
structure Sit (i : Nat) (k : LK) (s : pr.σ) (w w₁ : World) (n : Nat) (S : Nat → pr.σ) (K : Nat → LK) (t : Trace) : Prop where
  hi : i < n
  hk : K i = k
  hs : S i = s
  rely : Rely k w w₁
  fr : pr.FR i w w₁
  lic : Lic n K w₁ t
  f : pr.F n S K w₁ t
/-- What a step keeps. -/
structure Kept (i : Nat) (wake : Prop) (w₁ : World) (n : Nat) (S : Nat → pr.σ) (K : Nat → LK) (w' : World) (t' : Trace) (k' : LK) (s' : pr.σ) : Prop where
  lic : Lic n (upd K i k') w' t'
  f : pr.F n (upd S i s') (upd K i k') w' t'
  rely : ∀ j, j < n → j ≠ i → Rely (K j) w₁ w'
  fr : ∀ j, j < n → j ≠ i → pr.FR j w₁ w'
  blk : ∀ j, j < n → j ≠ i → pr.blk n S w₁ j → pr.blk n (upd S i s') w' j ∨ wake
  left : pr.left n (upd S i s') ≤ pr.left n S
/-- Who is parked at an open channel that has nothing stays so, or is woken by its closing. -/
def ChKept (i : Nat) (wake : Prop) (w₁ : World) (n : Nat) (S : Nat → pr.σ) (w' : World) (exc : Nat → Prop) : Prop :=
  ∀ j c, j < n → j ≠ i → pr.idle (S j) c → ¬ exc c → ChanMt w₁ c → ChanMt w' c ∨ (wake ∧ ChanCl w' c)
/-- A receive goes on: with what lies there, or because the channel is closed. -/
def RecvTo (i : Nat) (g : Goroutine) (c : Nat) (z : Value) (f : Bool) (w₁ : World) (g' : Goroutine) (w' : World) (ops : Array MemOp) : Prop :=
  (∃ cap buf closed s r tm, w₁.heap[c]? = some (.chan cap buf closed s r tm) ∧ 0 < buf.size ∧ g' = Go.Conc.served g (recvd f (buf.getD 0 undef) true) ∧ w' = w₁.setChan c cap (buf.extract 1 buf.size) closed s (r + 1) tm ∧
    ops = #[{ g := i, fn := g.frame.fn, pos := g.frame.place, act := .recv c r cap }, { g := i, fn := g.frame.fn, pos := g.frame.place, act := .recvDone c r }]) ∨
  (∃ cap s r tm, w₁.heap[c]? = some (.chan cap #[] true s r tm) ∧ g' = Go.Conc.served g (recvd f z false) ∧ w' = w₁ ∧ ops = #[{ g := i, fn := g.frame.fn, pos := g.frame.place, act := .recvClosed c }])
/-- What may come of a step. 'C': how the goroutine goes on. -/
inductive Out (i : Nat) (g : Goroutine) (w₁ : World) (n : Nat) (S : Nat → pr.σ) (K : Nat → LK) (t : Trace) (C : Bool → Nat → LK → pr.σ → Goroutine → World → Prop) : Prop
  | go (g' : Goroutine) (w' : World) (es : Array Event) (k' : LK) (s' : pr.σ) (h : stepG P (i == 0) g w₁ = .go g' w' es) (hr : g'.status = .running) (ho : g'.offers = none)
      (kept : Kept pr i (mayWake P g = true) w₁ n S K w' (t ++ MemOp.ofEvents i g.frame.fn g.frame.place es) k' s') (ch : ChKept pr i (mayWake P g = true) w₁ n S w' fun _ => False) (al : ¬ pr.gone s') (c : C false i k' s' g' w')
  | bye (g' : Goroutine) (w' : World) (es : Array Event) (k' : LK) (s' : pr.σ) (h : stepG P (i == 0) g w₁ = .go g' w' es)
      (kept : Kept pr i (mayWake P g = true) w₁ n S K w' (t ++ MemOp.ofEvents i g.frame.fn g.frame.place es) k' s') (ch : ChKept pr i (mayWake P g = true) w₁ n S w' fun _ => False) (gone : pr.gone s') (hi : i ≠ 0) (q : Nat) (quits : QuitsD P q (Deaf (t ++ MemOp.ofEvents i g.frame.fn g.frame.place es) i) g')
  | wait (h : stepG P (i == 0) g w₁ = .go { g with status := .blocked } w₁ #[]) (hb : pr.blk n S w₁ i)
  | spawn (g' child : Goroutine) (w' : World) (es : Array Event) (k' kc : LK) (s' sc : pr.σ) (h : stepG P (i == 0) g w₁ = .spawn g' child w' es) (hr : g'.status = .running) (ho : g'.offers = none) (cr : child.status = .running) (co : child.offers = none)
      (lic : Lic (n + 1) (upd (upd K i k') n kc) w' ((MemOp.ofEvents i g.frame.fn g.frame.place es |>.push { g := i, fn := g.frame.fn, pos := g.frame.place, act := .go n } |>.push { g := n, fn := child.frame.fn, pos := g.frame.place, act := .start }) |> (t ++ ·)))
      (f : pr.F (n + 1) (upd (upd S i s') n sc) (upd (upd K i k') n kc) w' ((MemOp.ofEvents i g.frame.fn g.frame.place es |>.push { g := i, fn := g.frame.fn, pos := g.frame.place, act := .go n } |>.push { g := n, fn := child.frame.fn, pos := g.frame.place, act := .start }) |> (t ++ ·)))
      (rely : ∀ j, j < n → j ≠ i → Rely (K j) w₁ w') (fr : ∀ j, j < n → j ≠ i → pr.FR j w₁ w') (blk : ∀ j, j < n → j ≠ i → pr.blk n S w₁ j → pr.blk (n + 1) (upd (upd S i s') n sc) w' j)
      (left : pr.left (n + 1) (upd (upd S i s') n sc) < pr.left n S) (ch : ChKept pr i False w₁ n S w' fun _ => False) (al : ¬ pr.gone s') (alc : ¬ pr.gone sc) (c : C false i k' s' g' w') (cc : C true n kc sc child w')
  | comm (g' : Goroutine) (w' : World) (ops : Array MemOp) (k' : LK) (s' : pr.σ)
      (h : ∀ (gs : Array Goroutine) (sl : Option (Nat × Nat)), gs[i]? = some g → gs.size = n → (∀ (j : Nat) (x : Goroutine), gs[j]? = some x → x.status = .blocked → x.offers = none) → runT P (crowd gs w₁ sl) i = (.next (crowd (gs.setIfInBounds i g') w' sl), ops))
      (hops : ∀ op ∈ ops, op.g = i) (hr : g'.status = .running) (ho : g'.offers = none) (kept : Kept pr i False w₁ n S K w' (t ++ ops) k' s') (np : ∀ j c, ¬ pr.idle (S j) c) (al : ¬ pr.gone s') (c : C false i k' s' g' w')
  | recv (r : Nat) (z : Value) (f : Bool) (g' : Goroutine) (w' : World) (ops : Array MemOp) (k' : LK) (s' : pr.σ) (hat : RecvAt P g r z f) (hi : i ≠ 0) (h : RecvTo i g r z f w₁ g' w' ops)
      (kept : Kept pr i False w₁ n S K w' (t ++ ops) k' s') (ch : ChKept pr i False w₁ n S w' fun _ => False) (al : ¬ pr.gone s') (c : C false i k' s' g' w')
  | park (r : Nat) (z : Value) (f : Bool) (hat : RecvAt P g r z f) (hi : i ≠ 0) (hid : pr.idle (S i) r) (hmt : ChanMt w₁ r)
  | send (r : Nat) (v z : Value) (cap : Nat) (buf : Array Value) (sn rc : Nat) (tm : Bool) (k' : LK) (s' : pr.σ) (hat : SendAt P i g r v z) (hc : w₁.heap[r]? = some (.chan cap buf false sn rc tm)) (room : buf.size < cap)
      (kept : Kept pr i False w₁ n S K (w₁.setChan r cap (buf.push v) false (sn + 1) rc tm) (t ++ #[{ g := i, fn := g.frame.fn, pos := g.frame.place, act := .send r sn }, { g := i, fn := g.frame.fn, pos := g.frame.place, act := .sendDone r sn }]) k' s')
      (ch : ChKept pr i False w₁ n S (w₁.setChan r cap (buf.push v) false (sn + 1) rc tm) fun c => c = r) (al : ¬ pr.gone s') (c : C false i k' s' (Go.Conc.served g undef) (w₁.setChan r cap (buf.push v) false (sn + 1) rc tm))
def Stop (i : Nat) (k : LK) (s : pr.σ) (g : Goroutine) (w : World) : Prop := i = 0 ∧ ∀ w₁, Rely k w w₁ → pr.FR 0 w w₁ → pr.End s g w₁
/-- THE JUDGEMENT, with its rank. -/
def WPo : Tree pr.In → Nat → LK → pr.σ → Goroutine → World → Prop
  | .leaf, i, k, s, g, w => g.status = .running ∧ g.offers = none ∧ Stop pr i k s g w
  | .node f, i, k, s, g, w => g.status = .running ∧ g.offers = none ∧ (Stop pr i k s g w ∨
      ∀ (w₁ : World) (n : Nat) (S : Nat → pr.σ) (K : Nat → LK) (t : Trace), Sit pr i k s w w₁ n S K t → Out pr i g w₁ n S K t (fun b i' k' s' g' w' => WPo (f (w₁, n, S, K, t) b) i' k' s' g' w'))
def WP (i : Nat) (k : LK) (s : pr.σ) (g : Goroutine) (w : World) : Prop := ∃ o, WPo pr o i k s g w
variable {pr}
/-- THE RULE: one step. -/
theorem WP.step {i : Nat} {k : LK} {s : pr.σ} {g : Goroutine} {w : World} (hr : g.status = .running) (ho : g.offers = none)
    (h : ∀ (w₁ : World) (n : Nat) (S : Nat → pr.σ) (K : Nat → LK) (t : Trace), Sit pr i k s w w₁ n S K t → Out pr i g w₁ n S K t (fun _ i' k' s' g' w' => WP pr i' k' s' g' w')) : WP pr i k s g w := by
  classical
  have key : ∀ x : pr.In, ∃ f : Bool → Tree pr.In, Sit pr i k s w x.1 x.2.1 x.2.2.1 x.2.2.2.1 x.2.2.2.2 → Out pr i g x.1 x.2.1 x.2.2.1 x.2.2.2.1 x.2.2.2.2 (fun b i' k' s' g' w' => WPo pr (f b) i' k' s' g' w') := by
    rintro ⟨w₁, n, S, K, t⟩
    by_cases hs : Sit pr i k s w w₁ n S K t
    · cases h w₁ n S K t hs with
      | go g' w' es k' s' h hr ho kept ch al c => obtain ⟨o, c⟩ := c; exact ⟨fun _ => o, fun _ => .go g' w' es k' s' h hr ho kept ch al c⟩
      | bye g' w' es k' s' h kept ch gone hi q quits => exact ⟨fun _ => .leaf, fun _ => .bye g' w' es k' s' h kept ch gone hi q quits⟩
      | wait h hb => exact ⟨fun _ => .leaf, fun _ => .wait h hb⟩
      | spawn g' child w' es k' kc s' sc h hr ho cr co lic f rely fr blk left ch al alc c cc =>
        obtain ⟨o, c⟩ := c
        obtain ⟨oc, cc⟩ := cc
        exact ⟨fun b => if b then oc else o, fun _ => .spawn g' child w' es k' kc s' sc h hr ho cr co lic f rely fr blk left ch al alc (by simpa using c) (by simpa using cc)⟩
      | comm g' w' ops k' s' h hops hr ho kept np al c => obtain ⟨o, c⟩ := c; exact ⟨fun _ => o, fun _ => .comm g' w' ops k' s' h hops hr ho kept np al c⟩
      | recv r z f g' w' ops k' s' hat hi h kept ch al c => obtain ⟨o, c⟩ := c; exact ⟨fun _ => o, fun _ => .recv r z f g' w' ops k' s' hat hi h kept ch al c⟩
      | park r z f hat hi hid hmt => exact ⟨fun _ => .leaf, fun _ => .park r z f hat hi hid hmt⟩
      | send r v z cap buf sn rc tm k' s' hat hc room kept ch al c => obtain ⟨o, c⟩ := c; exact ⟨fun _ => o, fun _ => .send r v z cap buf sn rc tm k' s' hat hc room kept ch al c⟩
    · exact ⟨fun _ => .leaf, fun h => absurd h hs⟩
  refine ⟨.node fun x => (key x).choose, hr, ho, .inr fun w₁ n S K t hs => ?_⟩
  exact (key (w₁, n, S, K, t)).choose_spec hs
theorem WP.stop {k : LK} {s : pr.σ} {g : Goroutine} {w : World} (hr : g.status = .running) (ho : g.offers = none) (h : ∀ w₁, Rely k w w₁ → pr.FR 0 w w₁ → pr.End s g w₁) : WP pr 0 k s g w := ⟨.leaf, hr, ho, rfl, h⟩
theorem WP.running {i : Nat} {k : LK} {s : pr.σ} {g : Goroutine} {w : World} (h : WP pr i k s g w) : g.status = .running ∧ g.offers = none := by
  obtain ⟨o, h⟩ := h
  cases o with
  | leaf => exact ⟨h.1, h.2.1⟩
  | node f => exact ⟨h.1, h.2.1⟩
theorem WP.rely (ok : pr.Ok) {i : Nat} {k : LK} {s : pr.σ} {g : Goroutine} {w w₁ : World} (h : WP pr i k s g w) (hr : Rely k w w₁) (hf : pr.FR i w w₁) : WP pr i k s g w₁ := by
  obtain ⟨o, h⟩ := h
  refine ⟨o, ?_⟩
  cases o with
  | leaf => exact ⟨h.1, h.2.1, h.2.2.1, fun w₂ h2 h3 => h.2.2.2 w₂ (hr.trans h2) (by have e := h.2.2.1; subst e; exact ok.trans _ _ _ _ hf h3)⟩
  | node f =>
    refine ⟨h.1, h.2.1, h.2.2.imp (fun x => ⟨x.1, fun w₂ h2 h3 => x.2 w₂ (hr.trans h2) (by have e := x.1; subst e; exact ok.trans _ _ _ _ hf h3)⟩) fun x w₂ n S K t hs => x w₂ n S K t ⟨hs.hi, hs.hk, hs.hs, hr.trans hs.rely, ok.trans _ _ _ _ hf hs.fr, hs.lic, hs.f⟩⟩
theorem WPo.running {o : Tree pr.In} {i : Nat} {k : LK} {s : pr.σ} {g : Goroutine} {w : World} (h : WPo pr o i k s g w) : g.status = .running ∧ g.offers = none := WP.running ⟨o, h⟩
/-- How a goroutine looks that stands where g₀ stands: so; asleep at the group; parked at a receive; let try again. -/
def Looks (n : Nat) (S : Nat → pr.σ) (K : Nat → LK) (w : World) (i : Nat) (g g₀ : Goroutine) (w₀ : World) : Prop :=
  g = g₀ ∨ (g = { g₀ with status := .blocked } ∧ pr.blk n S w i ∧ ¬ Stop pr i (K i) (S i) g₀ w₀) ∨
  (i ≠ 0 ∧ ∃ c z f, g = parked g₀ #[rcase c z] (.recv f) ∧ RecvAt P g₀ c z f ∧ pr.idle (S i) c ∧ ChanMt w c) ∨ (i ≠ 0 ∧ (∃ c, pr.idle (S i) c) ∧ ∃ x, g = { g₀ with offers := x })
/-- The whole cast. -/
structure Cast (n : Nat) (gs : Array Goroutine) (w : World) (t : Trace) (S : Nat → pr.σ) (K : Nat → LK) (O : Nat → Tree pr.In) (q : Nat → Nat) : Prop where
  size : gs.size = n
  pos : 0 < n
  lic : Lic n K w t
  f : pr.F n S K w t
  main : ¬ pr.gone (S 0)
  th : ∀ i, i < n → ∃ g, gs[i]? = some g ∧ ((¬ pr.gone (S i) ∧ ∃ g₀ w₀, Looks (pr := pr) n S K w i g g₀ w₀ ∧ Rely (K i) w₀ w ∧ pr.FR i w₀ w ∧ WPo pr (O i) i (K i) (S i) g₀ w₀) ∨
    (pr.gone (S i) ∧ i ≠ 0 ∧ QuitsD P (q i) (Deaf t i) g))
def Rn (gs : Array Goroutine) (n : Nat) : Nat := sumTo n fun i => if (gs[i]?).any (·.status == .running) then 1 else 0
theorem Looks.status {n : Nat} {S : Nat → pr.σ} {K : Nat → LK} {w : World} {i : Nat} {g g₀ : Goroutine} {w₀ : World} (h : Looks (pr := pr) n S K w i g g₀ w₀) (hr : g₀.status = .running) : g.status = .running ∨ g.status = .blocked := by
  rcases h with rfl | ⟨rfl, _⟩ | ⟨_, _, _, _, rfl, _⟩ | ⟨_, _, _, rfl⟩
  · exact .inl hr
  · exact .inr rfl
  · exact .inr rfl
  · exact .inl hr
/-- One that runs stands as g₀ does. -/
theorem Looks.runs {n : Nat} {S : Nat → pr.σ} {K : Nat → LK} {w : World} {i : Nat} {g g₀ : Goroutine} {w₀ : World} (h : Looks (pr := pr) n S K w i g g₀ w₀) (hr : g.status = .running) : g = g₀ ∨ (i ≠ 0 ∧ (∃ c, pr.idle (S i) c) ∧ ∃ x, g = { g₀ with offers := x }) := by
  rcases h with h | ⟨rfl, _⟩ | ⟨_, _, _, _, rfl, _⟩ | h
  · exact .inl h
  · cases hr
  · cases hr
  · exact .inr h
theorem Cast.awake {n : Nat} {gs : Array Goroutine} {w : World} {t : Trace} {S : Nat → pr.σ} {K : Nat → LK} {O : Nat → Tree pr.In} {q : Nat → Nat} (h : Cast n gs w t S K O q) : ∀ g ∈ gs, awake g := by
  intro g hg
  obtain ⟨i, hi⟩ := Array.mem_iff_getElem?.1 hg
  have hin : i < n := by rw [← h.size]; exact (Array.getElem?_eq_some_iff.1 hi).1
  obtain ⟨g', hg', hc⟩ := h.th i hin
  rw [hi] at hg'
  cases hg'
  intro tm htm
  rcases hc with ⟨_, g₀, w₀, hc, _, _, hw⟩ | ⟨_, _, hq⟩
  · rcases hc.status hw.running.1 with e | e <;> rw [e] at htm <;> cases htm
  · rcases hq.status with e | e <;> rw [e] at htm <;> cases htm
/-- Where nobody may be parked nobody offers. -/
theorem Cast.calm {n : Nat} {gs : Array Goroutine} {w : World} {t : Trace} {S : Nat → pr.σ} {K : Nat → LK} {O : Nat → Tree pr.In} {q : Nat → Nat} (h : Cast n gs w t S K O q) (hn : ∀ j c, ¬ pr.idle (S j) c) : ∀ (j : Nat) (x : Goroutine), gs[j]? = some x → x.status = .blocked → x.offers = none := by
  intro j x hx hb
  have hin : j < n := by rw [← h.size]; exact (Array.getElem?_eq_some_iff.1 hx).1
  obtain ⟨g', hg', hc⟩ := h.th j hin
  rw [hx] at hg'
  cases hg'
  rcases hc with ⟨_, g₀, w₀, hc, _, _, hw⟩ | ⟨_, _, hq⟩
  · rcases hc with rfl | ⟨rfl, _⟩ | ⟨_, c, _, _, _, _, hid, _⟩ | ⟨_, _, _, rfl⟩
    · exact hw.running.2
    · exact hw.running.2
    · exact absurd hid (hn j c)
    · rw [show ({ g₀ with offers := _ } : Goroutine).status = g₀.status from rfl, hw.running.1] at hb; cases hb
  · rcases hq.status with e | e <;> rw [e] at hb <;> cases hb
/-- Who offers is parked at a receive. -/
theorem Cast.offers {n : Nat} {gs : Array Goroutine} {w : World} {t : Trace} {S : Nat → pr.σ} {K : Nat → LK} {O : Nat → Tree pr.In} {q : Nat → Nat} (h : Cast n gs w t S K O q) {j : Nat} {x : Goroutine} (hx : gs[j]? = some x) {r : Nat} {send : Bool} {k : Nat} (ho : k ∈ offersAt x r send) :
    send = false ∧ k = 0 ∧ j ≠ 0 ∧ j < n ∧ ¬ pr.gone (S j) ∧ ∃ g₀ w₀ z f, x = parked g₀ #[rcase r z] (.recv f) ∧ RecvAt P g₀ r z f ∧ pr.idle (S j) r ∧ ChanMt w r ∧ Rely (K j) w₀ w ∧ pr.FR j w₀ w ∧ WPo pr (O j) j (K j) (S j) g₀ w₀ := by
  have hin : j < n := by rw [← h.size]; exact (Array.getElem?_eq_some_iff.1 hx).1
  obtain ⟨g', hg', hc⟩ := h.th j hin
  rw [hx] at hg'
  cases hg'
  have nb : x.status ≠ .blocked → False := fun hb => by rw [offersAt_of_not_blocked hb] at ho; cases ho
  rcases hc with ⟨hng, g₀, w₀, hc, h1, h2, hw⟩ | ⟨_, _, hq⟩
  · rcases hc with rfl | ⟨rfl, _⟩ | ⟨hj0, c, z, f, rfl, hat, hid, hmt⟩ | ⟨_, _, _, rfl⟩
    · exact (nb (by rw [hw.running.1]; simp)).elim
    · exfalso
      unfold offersAt at ho
      rw [show ({ g₀ with status := .blocked } : Goroutine).offers = g₀.offers from rfl, hw.running.2] at ho
      simp at ho
    · cases send with
      | true => rw [offersAt_parked_recv'] at ho; cases ho
      | false =>
        rw [offersAt_parked_recv] at ho
        split at ho
        · rename_i e
          subst e
          exact ⟨rfl, by simpa using ho, hj0, hin, hng, g₀, w₀, z, f, rfl, hat, hid, hmt, h1, h2, hw⟩
        · cases ho
    · exact (nb (by rw [show ({ g₀ with offers := _ } : Goroutine).status = g₀.status from rfl, hw.running.1]; simp)).elim
  · exact (nb (by rcases hq.status with e | e <;> rw [e] <;> simp)).elim
theorem Cast.noSender {n : Nat} {gs : Array Goroutine} {w : World} {t : Trace} {S : Nat → pr.σ} {K : Nat → LK} {O : Nat → Tree pr.In} {q : Nat → Nat} (h : Cast n gs w t S K O q) (i r : Nat) : partners (gs.setIfInBounds i ph) r true = [] := by
  refine partners_nil fun j g hg => ?_
  rcases getElem?_stand gs i j g hg with ⟨_, rfl⟩ | ⟨_, hg⟩
  · rfl
  · refine List.eq_nil_iff_forall_not_mem.2 fun k hk => ?_
    have := (h.offers hg hk).1
    cases this
/-- One or two fall. -/
def VecRel2 {I : Type} (n : Nat) (O' O : Nat → Tree I) : Prop := VecRel n O' O ∨ ∃ M, VecRel n M O ∧ VecRel n O' M
theorem vec2_wf {I : Type} (n : Nat) (O : Nat → Tree I) : Acc (VecRel2 (I := I) n) O := by
  have := vec_wf n O
  induction this with
  | intro O _ ih =>
    refine ⟨_, fun O' h => ?_⟩
    rcases h with h | ⟨M, h1, h2⟩
    · exact ih O' h
    · exact (ih M h1).inv (.inl h2)
/-- How the measure falls. -/
def Falls (n n' : Nat) (l l' : Nat) (O O' : Nat → Tree pr.In) (Q Q' R R' : Nat) : Prop :=
  l' < l ∨ (n' = n ∧ l' ≤ l ∧ (VecRel2 n O' O ∨ (O' = O ∧ (Q' < Q ∨ (Q' = Q ∧ R' < R)))))
theorem woken_blocked {P : Program} {g g' h : Goroutine} {w' : World} (hr : h.status = .running) (ho : h.offers = none) : woken P g g' w' { h with status := .blocked } = h ∨ (woken P g g' w' { h with status := .blocked } = { h with status := .blocked } ∧ ¬ (mayWake P g = true ∧ g'.status ≠ .blocked ∧ g'.status ≠ .waiting)) := by
  unfold woken
  split
  · left
    obtain ⟨fr, cs, st, dy, of⟩ := h
    simp only at hr ho
    subst hr ho
    rfl
  · rename_i hc
    exact .inr ⟨rfl, fun hx => hc (by simp [hx.1, hx.2.1, hx.2.2])⟩
theorem woken_awake {P : Program} {g g' x : Goroutine} {w' : World} (hx : x.status = .running ∨ x.status = .finished) : woken P g g' w' x = x := by
  unfold woken
  split
  · exact again_running _ hx
  · rfl
/-- One that is parked, behind a step: parked, the channel open and with nothing; or its channel is closed, and it tries again. -/
theorem woken_parked {P : Program} {g g' x : Goroutine} {w' : World} {c : Nat} {z : Value} {f : Bool} (h : ChanMt w' c ∨ (mayWake P g = true ∧ ChanCl w' c)) (h1 : g'.status ≠ .blocked) (h2 : g'.status ≠ .waiting) :
    (woken P g g' w' (parked x #[rcase c z] (.recv f)) = parked x #[rcase c z] (.recv f) ∧ ChanMt w' c) ∨ woken P g g' w' (parked x #[rcase c z] (.recv f)) = { parked x #[rcase c z] (.recv f) with status := .running } := by
  rcases h with hm | ⟨hw, cap, buf, s, r, tm, hc⟩
  · obtain ⟨cap, s, r, tm, hc⟩ := hm
    exact .inl ⟨woken_recv_open _ _ hc, cap, s, r, tm, hc⟩
  · refine .inr ?_
    unfold woken
    rw [if_pos (by simp [hw, h1, h2])]
    exact again_recv_closed hc
section
variable {n : Nat} {gs : Array Goroutine} {w : World} {t : Trace} {S : Nat → pr.σ} {K : Nat → LK} {O : Nat → Tree pr.In} {q : Nat → Nat} {sl : Option (Nat × Nat)}
/-- Another goroutine behind a step of number i's. -/
theorem Cast.other (ok : pr.Ok) (h : Cast n gs w t S K O q) {i : Nat} {w' : World} {S' : Nat → pr.σ} {K' : Nat → LK} {u : Trace} (hu : ∀ op ∈ u, op.g = i)
    {fw : Goroutine → Goroutine} (f1 : ∀ x, x.status = .running ∨ x.status = .finished → fw x = x) {wake : Prop} (f2 : ∀ x, x.status = .running → x.offers = none → fw { x with status := .blocked } = x ∨ (fw { x with status := .blocked } = { x with status := .blocked } ∧ ¬ wake))
    {n' : Nat} {j : Nat} (hj : j < n) (hji : j ≠ i) (f3 : ∀ (x : Goroutine) c z f, gs[j]? = some (parked x #[rcase c z] (.recv f)) → pr.idle (S j) c → ChanMt w c → (fw (parked x #[rcase c z] (.recv f)) = parked x #[rcase c z] (.recv f) ∧ ChanMt w' c) ∨ fw (parked x #[rcase c z] (.recv f)) = { parked x #[rcase c z] (.recv f) with status := .running })
    (hK : K' j = K j) (hS : S' j = S j) (rely : Rely (K j) w w') (fr : pr.FR j w w') (blk : pr.blk n S w j → pr.blk n' S' w' j ∨ wake) :
    ∃ g, (gs[j]?).map fw = some g ∧ ((¬ pr.gone (S' j) ∧ ∃ g₀ w₀, Looks (pr := pr) n' S' K' w' j g g₀ w₀ ∧ Rely (K' j) w₀ w' ∧ pr.FR j w₀ w' ∧ WPo pr (O j) j (K' j) (S' j) g₀ w₀) ∨
      (pr.gone (S' j) ∧ j ≠ 0 ∧ QuitsD P (q j) (Deaf (t ++ u) j) g)) := by
  obtain ⟨g, hg, hc⟩ := h.th j hj
  unfold Looks
  rw [hK, hS]
  rcases hc with ⟨hn, g₀, w₀, hc, h1, h2, h3⟩ | ⟨hgo, hj0, hq⟩
  · rcases hc with rfl | ⟨rfl, hb, hst⟩ | ⟨hj0, c, z, f, rfl, hat, hid, hmt⟩ | ⟨hj0, hid, x, rfl⟩
    · rw [hg]
      exact ⟨_, rfl, .inl ⟨hn, g, w₀, .inl (f1 _ (.inl h3.running.1)), h1.trans rely, ok.trans _ _ _ _ h2 fr, h3⟩⟩
    · rw [hg]
      rcases f2 g₀ h3.running.1 h3.running.2 with e | ⟨e, hw⟩
      · exact ⟨_, rfl, .inl ⟨hn, g₀, w₀, .inl e, h1.trans rely, ok.trans _ _ _ _ h2 fr, h3⟩⟩
      · exact ⟨_, rfl, .inl ⟨hn, g₀, w₀, .inr (.inl ⟨e, (blk hb).resolve_right hw, hst⟩), h1.trans rely, ok.trans _ _ _ _ h2 fr, h3⟩⟩
    · have h5 := f3 g₀ c z f hg hid hmt
      rw [hg]
      rcases h5 with ⟨e, hm⟩ | e
      · exact ⟨_, rfl, .inl ⟨hn, g₀, w₀, .inr (.inr (.inl ⟨hj0, c, z, f, e, hat, hid, hm⟩)), h1.trans rely, ok.trans _ _ _ _ h2 fr, h3⟩⟩
      · refine ⟨_, rfl, .inl ⟨hn, g₀, w₀, .inr (.inr (.inr ⟨hj0, ⟨c, hid⟩, some (#[rcase c z], .recv f), ?_⟩)), h1.trans rely, ok.trans _ _ _ _ h2 fr, h3⟩⟩
        rw [e]
        have := h3.running.1
        obtain ⟨a1, a2, a3, a4, a5⟩ := g₀
        simp only at this
        subst this
        rfl
    · rw [hg]
      exact ⟨_, rfl, .inl ⟨hn, g₀, w₀, .inr (.inr (.inr ⟨hj0, hid, x, f1 _ (.inl h3.running.1)⟩)), h1.trans rely, ok.trans _ _ _ _ h2 fr, h3⟩⟩
  · rw [hg]
    refine ⟨_, rfl, .inr ⟨hgo, hj0, ?_⟩⟩
    rw [f1 _ hq.status, Deaf_other t (fun e => hji e.symm) u hu]
    exact hq
theorem Cast.at (ok : pr.Ok) (h : Cast n gs w t S K O q) (d : Nat) : Cast n gs (w.at d) t S K O q := by
  refine ⟨h.size, h.pos, h.lic.at d, ok.fAt _ _ _ _ _ _ h.f, h.main, fun i hi => ?_⟩
  obtain ⟨g, hg, hc⟩ := h.th i hi
  refine ⟨g, hg, hc.imp ?_ id⟩
  rintro ⟨hn, g₀, w₀, hc, h1, h2, h3⟩
  exact ⟨hn, g₀, w₀, hc.imp id (Or.imp (fun x => ⟨x.1, ok.blkAt _ _ _ _ _ x.2.1, x.2.2⟩) id), h1.trans (.at _ _ d), ok.trans _ _ _ _ h2 (ok.frAt _ _ d), h3⟩
theorem set_get {α : Type} (a : Array α) (f : α → α) (i j : Nat) (x : α) (hi : i < a.size) : ((a.map f).setIfInBounds i x)[j]? = if j = i then some x else (a[j]?).map f := by
  by_cases e : j = i
  · subst e; simp [hi]
  · rw [if_neg e, Array.getElem?_setIfInBounds_ne (fun h => e h.symm), Array.getElem?_map]
/-- ONE STEP OF THE MACHINE. -/
theorem cast_step (ok : pr.Ok) (h : Cast n gs w t S K O q) (hns : ∀ g₀ w₀, gs[0]? = some g₀ → WPo pr (O 0) 0 (K 0) (S 0) g₀ w₀ → Rely (K 0) w₀ w → pr.FR 0 w₀ w → ¬ Stop pr 0 (K 0) (S 0) g₀ w₀) :
    ∃ gs' w' sl' u n' S' K' O' q', stepT P (crowd gs w sl) = (.next (crowd gs' w' sl'), u) ∧ Cast n' gs' w' (t ++ u) S' K' O' q' ∧
      Falls (pr := pr) n n' (pr.left n S) (pr.left n' S') O O' (sumTo n q) (sumTo n' q') (Rn gs n) (Rn gs' n') := by
  have haw := h.awake
  have some1 : ∃ (i : Nat) (g : Goroutine), gs[i]? = some g ∧ g.status = .running := by
    obtain ⟨i, hi, hn, hb, hpk⟩ := ok.live _ _ _ _ _ h.f h.lic
    obtain ⟨g, hg, hc⟩ := h.th i hi
    rcases hc with ⟨_, g₀, w₀, hc, _, _, hw⟩ | ⟨x, _⟩
    · rcases hc with rfl | ⟨_, x, _⟩ | ⟨_, c, _, _, _, _, hid, hmt⟩ | ⟨_, _, _, rfl⟩
      · exact ⟨i, g, hg, hw.running.1⟩
      · exact absurd x hb
      · exact absurd hmt (hpk c hid)
      · exact ⟨i, _, hg, hw.running.1⟩
    · exact absurd x hn
  obtain ⟨i, g, d, sl', hg, hrun, hst⟩ := crowd_pick (P := P) (w := w) (sl := sl) haw some1
  have hi : i < n := by rw [← h.size]; exact (Array.getElem?_eq_some_iff.1 hg).1
  have hns' : ∀ g₀ w₀, gs[0]? = some g₀ → WPo pr (O 0) 0 (K 0) (S 0) g₀ w₀ → Rely (K 0) w₀ (w.at d) → pr.FR 0 w₀ (w.at d) → ¬ Stop pr 0 (K 0) (S 0) g₀ w₀ := fun g₀ w₀ h0 h1 h2 h3 => hns g₀ w₀ h0 h1 ⟨h2.size, h2.tape, h2.os, h2.output, h2.shape, h2.cell, h2.obj⟩ (ok.trans _ _ _ _ h3 (ok.frAt _ (w.at d) w.drawn))
  have hR : Rn gs n = Rn gs n := rfl
  rw [hst]
  clear hst haw some1 hns
  have hb0 : ∀ j, pr.blk n S w j → pr.blk n S (w.at d) j := fun j => ok.blkAt _ _ _ _ _
  replace h := h.at ok d
  generalize w.at d = w at h hns'
  have hlt : i < gs.size := by rw [h.size]; exact hi
  obtain ⟨g', hg', hc⟩ := h.th i hi
  rw [hg] at hg'
  cases hg'
  rcases hc with ⟨hn, g₀, w₀, hc, h1, h2, h3⟩ | ⟨hgo, hi0, hq⟩
  · -- a live one
    have hrun0 := h3.running.1
    obtain ⟨xo, rfl, hg0, hgi⟩ : ∃ xo, g = { g₀ with offers := xo } ∧ (i = 0 → g = g₀) ∧ (g = g₀ ∨ ∃ c, pr.idle (S i) c) := by
      rcases hc.runs hrun with rfl | ⟨hi0, hid, xo, rfl⟩
      · exact ⟨g.offers, rfl, fun _ => rfl, .inl rfl⟩
      · exact ⟨xo, rfl, fun e => absurd e hi0, .inr hid⟩
    have hsm : ∀ m w, stepG P m { g₀ with offers := xo } w = stepG P m g₀ w := fun m w => stepG_same rfl rfl rfl w
    cases ho : O i with
    | leaf =>
      rw [ho] at h3
      obtain ⟨_, _, e, hs⟩ := h3
      subst e
      exact absurd ⟨rfl, hs⟩ (hns' g₀ w₀ (by rw [← hg0 rfl]; exact hg) (by rw [ho]; exact ⟨‹_›, ‹_›, rfl, hs⟩) h1 h2)
    | node f =>
      have h3' := h3
      rw [ho] at h3
      obtain ⟨hr0, ho0, h3⟩ := h3
      rcases h3 with hs | hact
      · obtain rfl : i = 0 := hs.1
        exact absurd hs (hns' g₀ w₀ (by rw [← hg0 rfl]; exact hg) h3' h1 h2)
      have hout := hact w n S K t ⟨hi, rfl, rfl, h1, h2, h.lic, h.f⟩
      have hfall : ∀ b, Below (f (w, n, S, K, t) b) (O i) := fun b => ⟨f, _, b, ho, rfl⟩
      have vec0 : ∀ b, VecRel n (upd O i (f (w, n, S, K, t) b)) O := fun b => ⟨i, hi, by rw [upd_same]; exact hfall b, fun j _ hji => upd_ne O _ hji⟩
      have vec : ∀ b, VecRel2 n (upd O i (f (w, n, S, K, t) b)) O := fun b => .inl (vec0 b)
      cases hout with
      | go g' w' es k' s' hstep hr ho kept ch al c =>
        have hrunT := runT_crowd_go (P := P) (sl := sl') hg ((hsm _ _).trans hstep)
        refine ⟨_, w', sl', _, n, upd S i s', upd K i k', upd O i (f (w, n, S, K, t) false), q, hrunT, ⟨by simp [h.size], h.pos, kept.lic, kept.f, ?_, fun j hj => ?_⟩, .inr ⟨rfl, kept.left, .inl (vec false)⟩⟩
        · by_cases e : i = 0
          · subst e; rw [upd_same]; exact al
          · rw [upd_ne S _ (fun x => e x.symm)]; exact h.main
        · rw [set_get _ _ _ _ _ hlt]
          by_cases e : j = i
          · subst e
            rw [if_pos rfl, upd_same, upd_same, upd_same]
            exact ⟨g', rfl, .inl ⟨al, g', w', .inl rfl, .refl _ _, ok.refl _ _, c⟩⟩
          · rw [if_neg e]
            have := h.other ok (i := i) (u := MemOp.ofEvents i g₀.frame.fn g₀.frame.place es) ofEvents_g (fw := woken P { g₀ with offers := xo } g' w') (fun x hx => woken_awake hx) (wake := mayWake P g₀ = true)
              (fun x hx hxo => (woken_blocked hx hxo).imp id (fun y => ⟨y.1, fun hm => y.2 ⟨hm, by rw [hr]; simp, by rw [hr]; simp⟩⟩)) (n' := n) hj e (fun x c z f _ hid hmt => woken_parked (ch j c hj e hid id hmt) (by rw [hr]; simp) (by rw [hr]; simp)) (K' := upd K i k') (S' := upd S i s') (upd_ne K _ e) (upd_ne S _ e) (kept.rely j hj e) (kept.fr j hj e) (kept.blk j hj e)
            rw [upd_ne O _ e]
            exact this
      | bye g' w' es k' s' hstep kept ch gone hi0 q' quits =>
        have hrunT := runT_crowd_go (P := P) (sl := sl') hg ((hsm _ _).trans hstep)
        refine ⟨_, w', sl', _, n, upd S i s', upd K i k', upd O i (f (w, n, S, K, t) false), upd q i q', hrunT, ⟨by simp [h.size], h.pos, kept.lic, kept.f, ?_, fun j hj => ?_⟩, .inr ⟨rfl, kept.left, .inl (vec false)⟩⟩
        · rw [upd_ne S _ (fun x => hi0 x.symm)]; exact h.main
        · rw [set_get _ _ _ _ _ hlt]
          by_cases e : j = i
          · subst e
            rw [if_pos rfl, upd_same, upd_same, upd_same, upd_same]
            exact ⟨g', rfl, .inr ⟨gone, hi0, quits⟩⟩
          · rw [if_neg e]
            have := h.other ok (i := i) (u := MemOp.ofEvents i g₀.frame.fn g₀.frame.place es) ofEvents_g (fw := woken P { g₀ with offers := xo } g' w') (fun x hx => woken_awake hx) (wake := mayWake P g₀ = true)
              (fun x hx hxo => (woken_blocked hx hxo).imp id (fun y => ⟨y.1, fun hm => y.2 ⟨hm, by rcases quits.status with z | z <;> rw [z] <;> simp, by rcases quits.status with z | z <;> rw [z] <;> simp⟩⟩)) (n' := n) hj e (fun x c z f _ hid hmt => woken_parked (ch j c hj e hid id hmt) (by rcases quits.status with z | z <;> rw [z] <;> simp) (by rcases quits.status with z | z <;> rw [z] <;> simp)) (K' := upd K i k') (S' := upd S i s') (upd_ne K _ e) (upd_ne S _ e) (kept.rely j hj e) (kept.fr j hj e) (kept.blk j hj e)
            rw [upd_ne O _ e, upd_ne q _ e]
            exact this
      | wait hstep hb =>
        have hrunT := runT_crowd_go (P := P) (sl := sl') hg ((hsm _ _).trans hstep)
        have hfw : woken P { g₀ with offers := xo } { g₀ with status := .blocked } w = id := by funext x; simp [woken]
        rw [hfw] at hrunT
        refine ⟨_, w, sl', _, n, S, K, O, q, hrunT, ⟨by simp [h.size], h.pos, ?_, ?_, h.main, fun j hj => ?_⟩, .inr ⟨rfl, Nat.le_refl _, .inr ⟨rfl, .inr ⟨rfl, ?_⟩⟩⟩⟩
        · rw [ofEvents_none, Array.append_empty]; exact h.lic
        · rw [ofEvents_none, Array.append_empty]; exact h.f
        · rw [set_get _ _ _ _ _ hlt, ofEvents_none, Array.append_empty]
          by_cases e : j = i
          · subst e
            rw [if_pos rfl]
            refine ⟨_, rfl, .inl ⟨hn, g₀, w₀, .inr (.inl ⟨rfl, hb, fun hs => ?_⟩), h1, h2, h3'⟩⟩
            obtain rfl : j = 0 := hs.1
            exact hns' g₀ w₀ (by rw [← hg0 rfl]; exact hg) h3' h1 h2 hs
          · rw [if_neg e]
            obtain ⟨x, hx, hcx⟩ := h.th j hj
            exact ⟨x, by rw [hx]; rfl, hcx⟩
        · have e1 : Rn ((gs.map id).setIfInBounds i { g₀ with status := .blocked }) n = sumTo n (fun a => upd (fun a => if (gs[a]?).any (·.status == .running) then 1 else 0) i 0 a) := by
            refine sumTo_congr fun a ha => ?_
            rw [set_get _ _ _ _ _ hlt]
            by_cases e : a = i
            · subst e; rw [if_pos rfl, upd_same]; rfl
            · rw [if_neg e, upd_ne _ _ e]; simp
          have e2 := sumTo_upd (fun a => if (gs[a]?).any (·.status == .running) then 1 else 0) 0 id hi
          have e3 : (if (gs[i]?).any (·.status == .running) then 1 else 0) = 1 := by rw [hg]; simp [hrun0]
          simp only [id] at e2
          rw [e3] at e2
          rw [e1]
          unfold Rn
          omega
      | spawn g' child w' es k' kc s' sc hstep hr ho cr co lic f' rely fr blk left ch al alc c cc =>
        have hrunT := runT_crowd_spawn (P := P) (sl := sl') hg ((hsm _ _).trans hstep)
        rw [h.size] at hrunT
        refine ⟨_, w', sl', _, n + 1, upd (upd S i s') n sc, upd (upd K i k') n kc, upd (upd O i (f (w, n, S, K, t) false)) n (f (w, n, S, K, t) true), q, hrunT, ⟨by simp [h.size], by omega, lic, f', ?_, fun j hj => ?_⟩, .inl left⟩
        · rw [upd_ne _ _ (by have := h.pos; omega)]
          by_cases e : i = 0
          · subst e; rw [upd_same]; exact al
          · rw [upd_ne S _ (fun x => e x.symm)]; exact h.main
        · have hget : ((gs.setIfInBounds i g').push child)[j]? = if j = n then some child else if j = i then some g' else gs[j]? := by
            rw [Array.getElem?_push]
            simp only [Array.size_setIfInBounds, h.size]
            by_cases e : j = n
            · rw [if_pos e, if_pos e]
            · rw [if_neg e, if_neg e]
              by_cases e2 : j = i
              · subst e2; rw [if_pos rfl]; simp [hlt]
              · rw [if_neg e2, Array.getElem?_setIfInBounds_ne (fun x => e2 x.symm)]
          rw [hget]
          by_cases e : j = n
          · subst e
            rw [if_pos rfl, upd_same, upd_same, upd_same]
            exact ⟨child, rfl, .inl ⟨alc, child, w', .inl rfl, .refl _ _, ok.refl _ _, cc⟩⟩
          · rw [if_neg e, upd_ne _ _ e, upd_ne _ _ e, upd_ne _ _ e]
            by_cases e2 : j = i
            · subst e2
              rw [if_pos rfl, upd_same, upd_same, upd_same]
              exact ⟨g', rfl, .inl ⟨al, g', w', .inl rfl, .refl _ _, ok.refl _ _, c⟩⟩
            · rw [if_neg e2, upd_ne _ _ e2, upd_ne _ _ e2, upd_ne _ _ e2]
              have hj' : j < n := by omega
              have hu : ∀ op ∈ (MemOp.ofEvents i g₀.frame.fn g₀.frame.place es).push { g := i, fn := g₀.frame.fn, pos := g₀.frame.place, act := .go n }, op.g = i := fun op hop => by
                rcases Array.mem_push.1 hop with x | rfl
                · exact ofEvents_g op x
                · rfl
              obtain ⟨x, hx, hcx⟩ := h.th j hj'
              refine ⟨x, hx, hcx.imp ?_ ?_⟩
              · rintro ⟨hn, x₀, v₀, hc, hr1, hr2, hr3⟩
                refine ⟨hn, x₀, v₀, ?_, hr1.trans (rely j hj' e2), ok.trans _ _ _ _ hr2 (fr j hj' e2), hr3⟩
                unfold Looks at hc ⊢
                rw [upd_ne _ _ e, upd_ne _ _ e2, upd_ne _ _ e, upd_ne _ _ e2]
                exact hc.imp id (Or.imp (fun y => ⟨y.1, blk j hj' e2 y.2.1, y.2.2⟩) (Or.imp (fun ⟨y1, c, z, f, y2, y3, y4, y5⟩ => ⟨y1, c, z, f, y2, y3, y4, (ch j c hj' e2 y4 id y5).resolve_right fun h => h.1⟩) id))
              · rintro ⟨hgo, hj0, hq⟩
                refine ⟨hgo, hj0, ?_⟩
                have ea : t ++ ((MemOp.ofEvents i g₀.frame.fn g₀.frame.place es).push { g := i, fn := g₀.frame.fn, pos := g₀.frame.place, act := .go n }).push { g := n, fn := child.frame.fn, pos := g₀.frame.place, act := .start } =
                    (t ++ (MemOp.ofEvents i g₀.frame.fn g₀.frame.place es).push { g := i, fn := g₀.frame.fn, pos := g₀.frame.place, act := .go n }) ++ #[{ g := n, fn := child.frame.fn, pos := g₀.frame.place, act := .start }] := by
                  apply Array.ext'; simp
                rw [ea, Deaf_other _ (g' := n) (fun y => e y.symm) _ (fun op hop => by simp at hop; rw [hop]), Deaf_other t (fun y => e2 y.symm) _ hu]
                exact hq
      | comm g' w' ops k' s' hstep hops hr ho kept np al c =>
        have hgx : ({ g₀ with offers := xo } : Goroutine) = g₀ := hgi.resolve_right fun ⟨c, hc⟩ => np i c hc
        rw [hgx] at hg
        have hrunT := hstep gs sl' hg h.size (h.calm np)
        refine ⟨_, w', sl', ops, n, upd S i s', upd K i k', upd O i (f (w, n, S, K, t) false), q, hrunT, ⟨by simp [h.size], h.pos, kept.lic, kept.f, ?_, fun j hj => ?_⟩, .inr ⟨rfl, kept.left, .inl (vec false)⟩⟩
        · by_cases e : i = 0
          · subst e; rw [upd_same]; exact al
          · rw [upd_ne S _ (fun x => e x.symm)]; exact h.main
        · by_cases e : j = i
          · subst e
            rw [upd_same, upd_same, upd_same]
            exact ⟨g', by simp [hlt], .inl ⟨al, g', w', .inl rfl, .refl _ _, ok.refl _ _, c⟩⟩
          · rw [Array.getElem?_setIfInBounds_ne (fun x => e x.symm)]
            have := h.other ok (i := i) (u := ops) hops (fw := id) (fun _ _ => rfl) (wake := False) (fun _ _ _ => .inr ⟨rfl, id⟩) (n' := n) hj e (fun x c z f _ hid hmt => absurd hid (np j c)) (K' := upd K i k') (S' := upd S i s') (upd_ne K _ e) (upd_ne S _ e) (kept.rely j hj e) (kept.fr j hj e) (kept.blk j hj e)
            rw [upd_ne O _ e]
            simpa using this
      | recv r z fl g' w' ops k' s' hat hi0 hto kept ch al c =>
        have hst : stepG P (i == 0) ({ g₀ with offers := xo } : Goroutine) w = .comm g₀ #[rcase r z] true (.recv fl) w #[] := by
          rw [show (i == 0) = false by simpa using hi0]
          exact (hsm _ _).trans (hat w)
        have hno := h.noSender i r
        have hrunT : runT P (crowd gs w sl') i = (.next (crowd (gs.setIfInBounds i g') w' sl'), ops) ∧ (∀ op ∈ ops, op.g = i) ∧ g'.status = .running ∧ g'.offers = none := by
          rcases hto with ⟨cap, buf, closed, s, rr, tm, hch, hpos, rfl, rfl, rfl⟩ | ⟨cap, s, rr, tm, hch, rfl, rfl, rfl⟩
          · have := crowd_recv_buf (sl := sl') hg hst hch hpos hno
            rw [finishComm_recv, ofEvents_none, Array.empty_append] at this
            exact ⟨this, fun op hop => by simp at hop; rcases hop with rfl | rfl <;> rfl, rfl, rfl⟩
          · have := crowd_recv_closed (sl := sl') hg hst hch hno
            rw [finishComm_recv, ofEvents_none, Array.empty_append] at this
            exact ⟨this, fun op hop => by simp at hop; rw [hop], rfl, rfl⟩
        obtain ⟨hrunT, hops, hr, ho'⟩ := hrunT
        refine ⟨_, w', sl', ops, n, upd S i s', upd K i k', upd O i (f (w, n, S, K, t) false), q, hrunT, ⟨by simp [h.size], h.pos, kept.lic, kept.f, ?_, fun j hj => ?_⟩, .inr ⟨rfl, kept.left, .inl (vec false)⟩⟩
        · rw [upd_ne S _ (fun x => hi0 x.symm)]; exact h.main
        · by_cases e : j = i
          · subst e
            rw [upd_same, upd_same, upd_same]
            exact ⟨g', by simp [hlt], .inl ⟨al, g', w', .inl rfl, .refl _ _, ok.refl _ _, c⟩⟩
          · rw [Array.getElem?_setIfInBounds_ne (fun x => e x.symm)]
            have := h.other ok (i := i) (u := ops) hops (fw := id) (fun _ _ => rfl) (wake := False) (fun _ _ _ => .inr ⟨rfl, id⟩) (n' := n) hj e (fun x c z f _ hid hmt => .inl ⟨rfl, (ch j c hj e hid id hmt).resolve_right fun h => h.1⟩) (K' := upd K i k') (S' := upd S i s') (upd_ne K _ e) (upd_ne S _ e) (kept.rely j hj e) (kept.fr j hj e) (kept.blk j hj e)
            rw [upd_ne O _ e]
            simpa using this
      | park r z fl hat hi0 hid hmt =>
        have hst : stepG P (i == 0) ({ g₀ with offers := xo } : Goroutine) w = .comm g₀ #[rcase r z] true (.recv fl) w #[] := by
          rw [show (i == 0) = false by simpa using hi0]
          exact (hsm _ _).trans (hat w)
        have hno := h.noSender i r
        obtain ⟨cap, s, rr, tm, hch⟩ := hmt
        have hrunT := crowd_waits (sl := sl') hg hst (fun cc hcc => by
          obtain rfl : cc = rcase r z := by simpa using hcc
          refine ⟨made_recv z hch, ?_⟩
          simp [ways, rcase, hch, hno])
        rw [ofEvents_none] at hrunT
        refine ⟨_, w, sl', _, n, S, K, O, q, hrunT, ⟨by simp [h.size], h.pos, ?_, ?_, h.main, fun j hj => ?_⟩, .inr ⟨rfl, Nat.le_refl _, .inr ⟨rfl, .inr ⟨rfl, ?_⟩⟩⟩⟩
        · rw [Array.append_empty]; exact h.lic
        · rw [Array.append_empty]; exact h.f
        · rw [Array.append_empty]
          by_cases e : j = i
          · subst e
            exact ⟨parked g₀ #[rcase r z] (.recv fl), by simp [hlt], .inl ⟨hn, g₀, w₀, .inr (.inr (.inl ⟨hi0, r, z, fl, rfl, hat, hid, cap, s, rr, tm, hch⟩)), h1, h2, h3'⟩⟩
          · rw [Array.getElem?_setIfInBounds_ne (fun x => e x.symm)]
            exact h.th j hj
        · have e1 : Rn (gs.setIfInBounds i (parked g₀ #[rcase r z] (.recv fl))) n = sumTo n (fun a => upd (fun a => if (gs[a]?).any (·.status == .running) then 1 else 0) i 0 a) := by
            refine sumTo_congr fun a ha => ?_
            by_cases e : a = i
            · subst e; rw [Array.getElem?_setIfInBounds_self_of_lt hlt, upd_same]; rfl
            · rw [Array.getElem?_setIfInBounds_ne (fun x => e x.symm), upd_ne _ _ e]
          have e2 := sumTo_upd (fun a => if (gs[a]?).any (·.status == .running) then 1 else 0) 0 id hi
          have e3 : (if (gs[i]?).any (·.status == .running) then 1 else 0) = 1 := by rw [hg]; simp [hrun0]
          simp only [id] at e2
          rw [e3] at e2
          rw [e1]
          unfold Rn
          omega
      | send r v z cap buf sn rc tm k' s' hat hc' room kept ch al c =>
        have hst : stepG P (i == 0) ({ g₀ with offers := xo } : Goroutine) w = .comm g₀ #[scase r v z] true .send w #[] := (hsm _ _).trans (hat w)
        have hrl : r < w.heap.size := (Array.getElem?_eq_some_iff.1 hc').1
        by_cases hp : partners (gs.setIfInBounds i ph) r false = []
        · have hrunT := crowd_send_room (sl := sl') hg hst hc' room hp
          rw [finishComm_send, ofEvents_none, Array.empty_append] at hrunT
          refine ⟨_, _, sl', _, n, upd S i s', upd K i k', upd O i (f (w, n, S, K, t) false), q, hrunT, ⟨by simp [h.size], h.pos, kept.lic, kept.f, ?_, fun j hj => ?_⟩, .inr ⟨rfl, kept.left, .inl (vec false)⟩⟩
          · by_cases e : i = 0
            · subst e; rw [upd_same]; exact al
            · rw [upd_ne S _ (fun x => e x.symm)]; exact h.main
          · by_cases e : j = i
            · subst e
              rw [upd_same, upd_same, upd_same]
              exact ⟨Go.Conc.served g₀ undef, by simp [hlt], .inl ⟨al, _, _, .inl rfl, .refl _ _, ok.refl _ _, c⟩⟩
            · rw [Array.getElem?_setIfInBounds_ne (fun x => e x.symm)]
              have := h.other ok (i := i) (u := #[{ g := i, fn := g₀.frame.fn, pos := g₀.frame.place, act := .send r sn }, { g := i, fn := g₀.frame.fn, pos := g₀.frame.place, act := .sendDone r sn }]) (fun op hop => by simp at hop; rcases hop with rfl | rfl <;> rfl) (fw := id) (fun _ _ => rfl) (wake := False) (fun _ _ _ => .inr ⟨rfl, id⟩) (n' := n) hj e
                (fun x c7 z7 f7 hgj hid hmt => .inl ⟨rfl, (ch j c7 hj e hid (fun hcr => by
                  have : (j, 0) ∈ partners (gs.setIfInBounds i ph) r false := mem_partners.2 ⟨_, stand_get e hgj, by rw [offersAt_parked_recv, if_pos hcr]; simp⟩
                  rw [hp] at this
                  cases this) hmt).resolve_right fun h => h.1⟩) (K' := upd K i k') (S' := upd S i s') (upd_ne K _ e) (upd_ne S _ e) (kept.rely j hj e) (kept.fr j hj e) (kept.blk j hj e)
              rw [upd_ne O _ e]
              simpa using this
        · obtain ⟨j, gj, zj, shj, d, hji, hgj, hrunT⟩ := crowd_send_meets_some (sl := sl') hg hst hc' hp (fun j k hjk => by
            obtain ⟨x, hx, hk⟩ := mem_partners.1 hjk
            rcases getElem?_stand gs i j x hx with ⟨_, rfl⟩ | ⟨hne, hx⟩
            · rw [offersAt_ph] at hk; cases hk
            · obtain ⟨_, hk0, _, _, _, g₁, _, z₁, f₁, hxe, _⟩ := h.offers hx hk
              exact ⟨hk0, hne, g₁, z₁, .recv f₁, by rw [hx, hxe]⟩)
          obtain ⟨_, _, hj0, hjn, hng, g₁, v₁, z₁, f₁, hxe, hatj, hidj, hmtj, r1, r2, r3⟩ := h.offers hgj (r := r) (send := false) (k := 0) (by rw [offersAt_parked_recv]; simp)
          have e1 : shj = .recv f₁ := by
            have := congrArg Goroutine.offers hxe
            simp only [parked, Option.some.injEq, Prod.mk.injEq] at this
            exact this.2
          have e2 : gj.frame = g₁.frame := by
            have := congrArg Goroutine.frame hxe
            simpa [parked] using this
          have e3 : gj.finishComm P #[rcase r zj] shj 0 v true = Go.Conc.served g₁ (recvd f₁ v true) := by
            rw [← finishComm_parked P gj #[rcase r zj] #[rcase r zj] shj shj, hxe, finishComm_parked, e1, finishComm_recv]
          obtain ⟨cp, s5, r5, t5, hm⟩ := hmtj
          rw [hc'] at hm
          simp only [Option.some.injEq, Obj.chan.injEq] at hm
          obtain ⟨_, rfl, _⟩ := hm
          rw [finishComm_send, e3, ofEvents_none, Array.empty_append, e2] at hrunT
          have hcj : ∀ W, stepG P (j == 0) g₁ W = .comm g₁ #[rcase r z₁] true (.recv f₁) W #[] := fun W => by
            rw [show (j == 0) = false by simpa using hj0]; exact hatj W
          cases hoj : O j with
          | leaf => rw [hoj] at r3; exact absurd r3.2.2.1 hj0
          | node f2 =>
            rw [hoj] at r3
            obtain ⟨hr1, ho1, hact2⟩ := r3
            have hact2 := hact2.resolve_left fun hs => hj0 hs.1
            have hW1 : ((w.setChan r cap (#[].push v) false (sn + 1) rc tm).at d).heap[r]? = some (.chan cap #[v] false (sn + 1) rc tm) := by
              show (w.heap.setIfInBounds r _)[r]? = _
              rw [Array.getElem?_setIfInBounds_self_of_lt hrl]
              rfl
            have hout2 := hact2 ((w.setChan r cap (#[].push v) false (sn + 1) rc tm).at d) n (upd S i s') (upd K i k') _ ⟨hjn, upd_ne K _ hji, upd_ne S _ hji, (r1.trans (kept.rely j hjn hji)).trans (.at _ _ d), ok.trans _ _ _ _ (ok.trans _ _ _ _ r2 (kept.fr j hjn hji)) (ok.frAt _ _ d), kept.lic.at d, ok.fAt _ _ _ _ _ _ kept.f⟩
            cases hout2 with
            | go _ _ _ _ _ hs => have := (hcj _).symm.trans hs; cases this
            | bye _ _ _ _ _ hs => have := (hcj _).symm.trans hs; cases this
            | wait hs => have := (hcj _).symm.trans hs; cases this
            | spawn _ _ _ _ _ _ _ _ hs => have := (hcj _).symm.trans hs; cases this
            | comm _ _ _ _ _ _ _ _ _ _ np => exact absurd (by rw [upd_ne S _ hji]; exact hidj) (np j r)
            | send _ _ _ _ _ _ _ _ _ _ hs =>
              have := (hcj w).symm.trans (hs w)
              simp [rcase, scase] at this
            | park r2' _ _ hat2 _ _ hmt2 =>
              exfalso
              have hq := (hatj w).symm.trans (hat2 w)
              simp [rcase] at hq
              obtain ⟨_, _, _, _, hm2⟩ := hmt2
              rw [← hq.1.1, hW1] at hm2
              simp at hm2
            | recv r2' z2 f2' g2 w2 ops2 k2 s2 hat2 _ hto2 kept2 ch2 al2 c2 =>
              have hq := (hatj w).symm.trans (hat2 w)
              simp [rcase] at hq
              obtain ⟨⟨rfl, rfl⟩, rfl⟩ := hq
              have hto3 := hto2.resolve_right fun ⟨_, _, _, _, hch2, _⟩ => by rw [hW1] at hch2; simp at hch2
              obtain ⟨cap2, buf2, cl2, s3, rr2, tm2, hch2, _, rfl, hw2, rfl⟩ := hto3
              rw [hW1] at hch2
              simp only [Option.some.injEq, Obj.chan.injEq] at hch2
              obtain ⟨rfl, rfl, rfl, rfl, rfl, rfl⟩ := hch2
              have ew : w2 = (w.at d).setChan r cap #[] false (sn + 1) (rc + 1) tm := by
                rw [hw2]
                simp [World.setChan, World.at]
              rw [show #[v].getD 0 undef = v from rfl] at *
              rw [← ew] at hrunT
              have hw2c : w2.heap[r]? = some (.chan cap #[] false (sn + 1) (rc + 1) tm) := by
                rw [ew]
                show (w.heap.setIfInBounds r _)[r]? = _
                rw [Array.getElem?_setIfInBounds_self_of_lt hrl]
              have hgne : (i : Nat) ≠ j := fun e => hji e.symm
              have eT : ∀ (a b x y : MemOp), (t ++ #[a, b]) ++ #[x, y] = t ++ #[a, b, x, y] := fun a b x y => by apply Array.ext'; simp
              have hlic2 := kept2.lic
              have hf2 := kept2.f
              rw [eT] at hlic2 hf2
              have hlic3 := hlic2.swap (.inl ⟨_, _, rfl⟩) (.inr (.inl ⟨_, _, rfl⟩)) (.inr (.inr (.inl ⟨_, _, _, rfl⟩))) (.inr (.inr (.inr ⟨_, _, rfl⟩))) hgne
              have hf3 := ok.swap ⟨_, _, hidj⟩ _ _ _ _ _ _ _ _ _ ⟨_, _, _, h.f⟩ hf2 hgne (.inl ⟨_, _, rfl⟩) (.inr (.inl ⟨_, _, rfl⟩)) (.inr (.inr (.inl ⟨_, _, _, rfl⟩))) (.inr (.inr (.inr ⟨_, _, rfl⟩))) ⟨_, _, rfl⟩ ⟨_, _, _, rfl⟩
              refine ⟨_, w2, sl', _, n, upd (upd S i s') j s2, upd (upd K i k') j k2, upd (upd O i (f (w, n, S, K, t) false)) j (f2 ((w.setChan r cap (#[].push v) false (sn + 1) rc tm).at d, n, upd S i s', upd K i k', t ++ #[{ g := i, fn := g₀.frame.fn, pos := g₀.frame.place, act := .send r sn }, { g := i, fn := g₀.frame.fn, pos := g₀.frame.place, act := .sendDone r sn }]) false), q, hrunT, ⟨by simp [h.size], h.pos, hlic3, hf3, ?_, fun x hx => ?_⟩, .inr ⟨rfl, Nat.le_trans kept2.left kept.left, .inl (.inr ⟨_, vec0 false, j, hjn, by rw [upd_same]; exact ⟨f2, _, false, by rw [upd_ne O _ hji]; exact hoj, rfl⟩, fun x _ hxj => upd_ne _ _ hxj⟩)⟩⟩
              · rw [upd_ne _ _ (fun e => hj0 e.symm)]
                by_cases e : i = 0
                · subst e; rw [upd_same]; exact al
                · rw [upd_ne S _ (fun x => e x.symm)]; exact h.main
              · by_cases exi : x = i
                · subst exi
                  rw [Array.getElem?_setIfInBounds_self_of_lt (by simpa using hlt), upd_ne _ _ hgne, upd_ne _ _ hgne, upd_ne _ _ hgne, upd_same, upd_same, upd_same]
                  have q1 := kept2.rely x hi hgne
                  rw [upd_same] at q1
                  exact ⟨_, rfl, .inl ⟨al, _, _, .inl rfl, (Rely.at _ _ d).trans q1, ok.trans _ _ _ _ (ok.frAt _ _ d) (kept2.fr x hi hgne), c⟩⟩
                · rw [Array.getElem?_setIfInBounds_ne (fun e => exi e.symm)]
                  by_cases exj : x = j
                  · subst exj
                    rw [Array.getElem?_setIfInBounds_self_of_lt (by rw [h.size]; exact hjn), upd_same, upd_same, upd_same]
                    exact ⟨_, rfl, .inl ⟨al2, _, _, .inl rfl, .refl _ _, ok.refl _ _, c2⟩⟩
                  · rw [Array.getElem?_setIfInBounds_ne (fun e => exj e.symm), upd_ne _ _ exj, upd_ne _ _ exj, upd_ne _ _ exj, upd_ne _ _ exi, upd_ne _ _ exi, upd_ne _ _ exi]
                    obtain ⟨g6, hg6, hc6⟩ := h.th x hx
                    have q1 := kept2.rely x hx exj
                    rw [upd_ne _ _ exi] at q1
                    refine ⟨g6, hg6, hc6.imp ?_ ?_⟩
                    · rintro ⟨hn6, g7, w7, hl6, hr6, hf6, ho6⟩
                      refine ⟨hn6, g7, w7, ?_, (hr6.trans (kept.rely x hx exi)).trans ((Rely.at _ _ d).trans q1), ok.trans _ _ _ _ (ok.trans _ _ _ _ hf6 (kept.fr x hx exi)) (ok.trans _ _ _ _ (ok.frAt _ _ d) (kept2.fr x hx exj)), ho6⟩
                      unfold Looks at hl6 ⊢
                      rw [upd_ne _ _ exj, upd_ne _ _ exj, upd_ne _ _ exi, upd_ne _ _ exi]
                      refine hl6.imp id (Or.imp (fun y => ⟨y.1, ?_, y.2.2⟩) (Or.imp (fun ⟨y1, c5, z5, f5, y2, y3, y4, y5⟩ => ⟨y1, c5, z5, f5, y2, y3, y4, ?_⟩) id))
                      · exact (kept2.blk x hx exj (ok.blkAt _ _ _ _ _ ((kept.blk x hx exi y.2.1).resolve_right id))).resolve_right id
                      · by_cases ecr : c5 = r
                        · subst ecr; exact ⟨_, _, _, _, hw2c⟩
                        · have q5 := (ch x c5 hx exi y4 ecr y5).resolve_right fun h => h.1
                          exact (ch2 x c5 hx exj (by rw [upd_ne S _ exi]; exact y4) id q5).resolve_right fun h => h.1
                    · rintro ⟨hgo, hx0, hq6⟩
                      refine ⟨hgo, hx0, ?_⟩
                      rw [Deaf_comm]
                      · exact hq6
                      · intro op hop
                        simp only [List.mem_toArray, List.mem_cons, List.not_mem_nil, or_false] at hop
                        rcases hop with rfl | rfl | rfl | rfl
                        · exact .inl ⟨_, _, rfl⟩
                        · exact .inr (.inr (.inl ⟨_, _, _, rfl⟩))
                        · exact .inr (.inl ⟨_, _, rfl⟩)
                        · exact .inr (.inr (.inr ⟨_, _, rfl⟩))
  · -- one that leaves
    cases hqi : q i with
    | zero => rw [hqi] at hq; rw [hq.1] at hrun; cases hrun
    | succ k =>
      rw [hqi] at hq
      rcases hq with ⟨hf, _⟩ | ⟨_, g', es, hm, hstp, hq'⟩
      · rw [hf] at hrun; cases hrun
      have hi00 : (i == 0) = false := by simpa using hi0
      have hstep : stepG P (i == 0) g w = .go g' w es := by rw [hi00]; exact hstp w
      have hrunT := runT_crowd_go (P := P) (sl := sl') hg hstep
      have hsum : sumTo n (upd q i k) + (k + 1) = sumTo n q + k := by
        have := sumTo_upd q k id hi
        simpa [hqi] using this
      refine ⟨_, w, sl', _, n, S, K, O, upd q i k, hrunT, ⟨by simp [h.size], h.pos, h.lic.mute hi (Nat.le_refl _) (fun op hop => ?_), ok.mute _ _ _ _ _ _ _ _ _ h.f h.lic hi hi0 hgo hm, h.main, fun j hj => ?_⟩, .inr ⟨rfl, Nat.le_refl _, .inr ⟨rfl, .inl (by omega)⟩⟩⟩
      · obtain ⟨e, he, rfl⟩ := Go.Conc.mem_ofEvents hop
        exact ⟨rfl, low_mute (hm e he) _, touch_mute (hm e he)⟩
      · rw [set_get _ _ _ _ _ hlt]
        by_cases e : j = i
        · subst e
          rw [if_pos rfl, upd_same]
          refine ⟨g', rfl, .inr ⟨hgo, hi0, ?_⟩⟩
          rw [Deaf_own]
          exact hq'
        · rw [if_neg e]
          have := h.other ok (i := i) (u := MemOp.ofEvents i g.frame.fn g.frame.place es) ofEvents_g (fw := woken P g g' w) (fun x hx => woken_awake hx) (wake := False)
            (fun x hx hxo => (woken_blocked hx hxo).imp id (fun y => ⟨y.1, id⟩)) (n' := n) hj e (fun x c z f _ hid hmt => woken_parked (.inl hmt) (by rcases hq'.status with z | z <;> rw [z] <;> simp) (by rcases hq'.status with z | z <;> rw [z] <;> simp)) (K' := K) (S' := S) rfl rfl (.refl _ _) (ok.refl _ _) .inl
          rw [upd_ne q _ e]
          exact this
/-- ON EVERY TAPE GOROUTINE 0 COMES TO ITS STOP. -/
theorem cast_runs (ok : pr.Ok) : ∀ (l n : Nat) (O : Nat → Tree pr.In), ∀ (Q R : Nat) (gs : Array Goroutine) (w : World) (t : Trace) (S : Nat → pr.σ) (K : Nat → LK) (q : Nat → Nat) (sl : Option (Nat × Nat)),
    pr.left n S = l → sumTo n q = Q → Rn gs n = R → Cast n gs w t S K O q →
    ∃ N gs' w' sl' t' n' S' K' O' q' g, runNT P N (crowd gs w sl) t = (.next (crowd gs' w' sl'), t') ∧ Cast n' gs' w' t' S' K' O' q' ∧ gs'[0]? = some g ∧ g.status = .running ∧ pr.End (S' 0) g w' := by
  intro l
  induction l using Nat.strongRecOn with
  | _ l ihl =>
  intro n O
  induction vec2_wf n O with
  | intro O _ ihO =>
  intro Q
  induction Q using Nat.strongRecOn with
  | _ Q ihQ =>
  intro R
  induction R using Nat.strongRecOn with
  | _ R ihR =>
  intro gs w t S K q sl hl hQ hR h
  classical
  by_cases hst : ∃ g₀ w₀, WPo pr (O 0) 0 (K 0) (S 0) g₀ w₀ ∧ Rely (K 0) w₀ w ∧ pr.FR 0 w₀ w ∧ gs[0]? = some g₀ ∧ Stop pr 0 (K 0) (S 0) g₀ w₀
  · obtain ⟨g₀, w₀, h1, h2, h3, h4, h5⟩ := hst
    exact ⟨0, gs, w, sl, t, n, S, K, O, q, g₀, rfl, h, h4, h1.running.1, h5.2 w h2 h3⟩
  · obtain ⟨gs₁, w₁, sl₁, u, n₁, S₁, K₁, O₁, q₁, hs, hc, hf⟩ := cast_step (sl := sl) ok h (fun g₀ w₀ h0 h1 h2 h3 h4 => hst ⟨g₀, w₀, h1, h2, h3, h0, h4⟩)
    have goal : ∃ N gs' w' sl' t' n' S' K' O' q' g, runNT P N (crowd gs₁ w₁ sl₁) (t ++ u) = (.next (crowd gs' w' sl'), t') ∧ Cast n' gs' w' t' S' K' O' q' ∧ gs'[0]? = some g ∧ g.status = .running ∧ pr.End (S' 0) g w' := by
      rcases hf with hl' | ⟨e1, hl', hv⟩
      · exact ihl _ (hl ▸ hl') n₁ O₁ _ _ gs₁ w₁ (t ++ u) S₁ K₁ q₁ sl₁ rfl rfl rfl hc
      · subst e1
        rcases Nat.lt_or_ge (pr.left n₁ S₁) l with hlt | hge
        · exact ihl _ hlt n₁ O₁ _ _ gs₁ w₁ (t ++ u) S₁ K₁ q₁ sl₁ rfl rfl rfl hc
        · have el : pr.left n₁ S₁ = l := by omega
          rcases hv with hv | ⟨e2, hv⟩
          · exact ihO O₁ hv _ _ gs₁ w₁ (t ++ u) S₁ K₁ q₁ sl₁ el rfl rfl hc
          · subst e2
            rcases hv with hv | ⟨e3, hv⟩
            · exact ihQ _ (hQ ▸ hv) _ gs₁ w₁ (t ++ u) S₁ K₁ q₁ sl₁ el rfl rfl hc
            · exact ihR _ (hR ▸ hv) gs₁ w₁ (t ++ u) S₁ K₁ q₁ sl₁ el (e3.trans hQ) rfl hc
    obtain ⟨N, gs', w', sl', t', n', S', K', O', q', g, h1, h2⟩ := goal
    exact ⟨N + 1, gs', w', sl', t', n', S', K', O', q', g, by rw [runNT_succ_next hs]; exact h1, h2⟩
end
end
end Go.Proofs.Yticdjkkcfdbdcaa
namespace Go.Proofs.Yticdjkkcfdbdcaa
open Go.Conc
/-- What a meaning did: its entries, the addresses that it read, the blocks whose shape it asked for, the addresses of which it asked whether they are frozen, what it stored, its result (none: it blocks). -/
structure ARun (α : Type) where
  evs : List Event
  rd : List Addr
  asks : List Nat
  frz : List Addr
  st : Option (Addr × Value)
  res : Option α
def oneCell : Value → Bool
  | .agg _ | .tuple _ => false
  | _ => true
def asem {α : Type} (P : Program) (v : Value) (sh : Option (TypeId × Nat)) : Sem α → Option (ARun α)
  | .pure a => some ⟨[], [], [], [], none, some a⟩
  | .program k => asem P v sh (k P)
  | .mark m k => (asem P v sh k).map fun r => { r with evs := markEv m :: r.evs }
  | .choose q k => if q.forced then asem P v sh (k 0) else none
  | .load .atomic a k => (asem P v sh (k v)).map fun r => { r with evs := ⟨.cell a, false, true⟩ :: r.evs, rd := a :: r.rd }
  | .shape b k => (asem P v sh (k sh)).map fun r => { r with asks := b :: r.asks }
  | .frozen a k => (asem P v sh (k false)).map fun r => { r with frz := a :: r.frz }
  | .store .atomic a x k => if oneCell x then (qsem P k).map fun r => ⟨⟨.cell a, true, true⟩ :: r.2.map markEv, [], [], [], some (a, x), some r.1⟩ else none
  | .halt .blocked => some ⟨[], [], [], [], none, none⟩
  | _ => none
/-- What the world must be like for it. -/
structure AFits {α : Type} (r : ARun α) (v : Value) (sh : Option (TypeId × Nat)) (w : World) : Prop where
  rd : ∀ a ∈ r.rd, w.cell? a = some v
  asks : ∀ b ∈ r.asks, w.shape? b = sh
  frz : ∀ a ∈ r.frz, w.frozen? a = false
  st : ∀ a x, r.st = some (a, x) → (∃ u, w.cell? a = some u) ∧ w.frozen? a = false
def ARun.world {α : Type} (r : ARun α) (w : World) : World := match r.st with | none => w | some (a, x) => w.setCell a x
theorem asem_runT {α : Type} {P : Program} {v : Value} {sh : Option (TypeId × Nat)} {s : Sem α} : ∀ {r : ARun α}, asem P v sh s = some r → ∀ (w : World) (es : Array Event), AFits r v sh w →
    s.runT P w es = ((match r.res with | some a => .ok a (r.world w) | none => .halt .blocked (r.world w)), es ++ r.evs.toArray) := by
  induction s with
  | pure a =>
    intro r h w es hf
    simp only [asem, Option.some.injEq] at h
    subst h
    simp [Sem.runT, ARun.world, -Sem.runT_eq]
  | program k ih =>
    intro r h w es hf
    simp only [Sem.runT]
    exact ih P (by simpa only [asem] using h) w es hf
  | mark m k ih =>
    intro r h w es hf
    simp only [asem, Option.map_eq_some_iff] at h
    obtain ⟨r1, h1, rfl⟩ := h
    simp only [Sem.runT]
    rw [ih h1 w _ ⟨hf.rd, hf.asks, hf.frz, hf.st⟩]
    simp [markEv, ARun.world]
  | choose q k ih =>
    intro r h w es hf
    simp only [asem] at h
    split at h
    · rename_i hq
      simp only [Sem.runT, hq, if_true]
      exact ih 0 h w es hf
    · cases h
  | load m a k ih =>
    intro r h w es hf
    cases m with
    | plain => simp [asem] at h
    | atomic =>
      simp only [asem, Option.map_eq_some_iff] at h
      obtain ⟨r1, h1, rfl⟩ := h
      have hc := hf.rd a (by simp)
      simp only [Sem.runT, hc]
      rw [ih v h1 w _ ⟨fun x hx => hf.rd x (by simp [hx]), hf.asks, hf.frz, hf.st⟩]
      simp [ARun.world]
  | shape b k ih =>
    intro r h w es hf
    simp only [asem, Option.map_eq_some_iff] at h
    obtain ⟨r1, h1, rfl⟩ := h
    simp only [Sem.runT, hf.asks b (by simp)]
    exact ih sh h1 w es ⟨hf.rd, fun x hx => hf.asks x (by simp [hx]), hf.frz, hf.st⟩
  | frozen a k ih =>
    intro r h w es hf
    simp only [asem, Option.map_eq_some_iff] at h
    obtain ⟨r1, h1, rfl⟩ := h
    simp only [Sem.runT, hf.frz a (by simp)]
    exact ih false h1 w es ⟨hf.rd, hf.asks, fun x hx => hf.frz x (by simp [hx]), hf.st⟩
  | store m a x k ih =>
    intro r h w es hf
    cases m with
    | plain => simp [asem] at h
    | atomic =>
      simp only [asem] at h
      split at h
      · rename_i ho
        obtain ⟨⟨y, ms⟩, h1, rfl⟩ := Option.map_eq_some_iff.1 h
        obtain ⟨⟨u, hu⟩, hz⟩ := hf.st a x rfl
        have hq := qsem_runT h1 (w.setCell a x) (es.push ⟨.cell a, true, true⟩)
        have hr : (Sem.store Mode.atomic a x k).runT P w es = k.runT P (w.setCell a x) (es.push ⟨.cell a, true, true⟩) := by
          cases x <;> first
            | (simp [oneCell] at ho; done)
            | (simp only [Sem.runT, hu, hz, Bool.false_eq_true, if_false]; rfl)
        rw [hr, hq]
        simp [ARun.world]
      · cases h
  | halt x =>
    intro r h w es hf
    cases x <;> simp only [asem, Option.some.injEq, reduceCtorEq] at h
    subst h
    simp [Sem.runT, ARun.world, -Sem.runT_eq]
  | _ => intro r h; simp [asem] at h
/-- An atomic operation of a goroutine, as one step; 'none' as the goroutine: it blocks. -/
structure AStep where
  run : ARun Unit
  g : Option Goroutine
def astep (P : Program) (X : Exts) (g : Goroutine) (v : Value) (sh : Option (TypeId × Nat)) : Option AStep :=
  if g.dying.isSome || g.status != .running || g.frame.roundOf.isSome || g.frame.kind == .early then none else
  match g.frame.mode, g.frame.todo with
  | .run, .inRegion ops (i :: rest) :: k =>
    match ops[i]? with
    | none => none
    | some o =>
      if Region.wanted o (yielded ops g.frame.tmps) then
        match asem P v sh (exop X g.frame.eval o) with
        | some r => match r.res with
          | some (.value x) => some ⟨{ r with res := some () }, some (G (g.frame.finish x) g.callers)⟩
          | none => some ⟨{ r with res := none }, none⟩
          | _ => none
        | none => none
      else none
  | _, _ => none
theorem astep_step {P : Program} {X : Exts} (hX : ExtOk P X) {g : Goroutine} {v : Value} {sh : Option (TypeId × Nat)} {a : AStep} (h : astep P X g v sh = some a) (ho : g.offers = none) (main : Bool) (w : World) (hf : AFits a.run v sh w) :
    g.status = .running ∧ match a.g with
      | some g' => stepG P main g w = .go g' (a.run.world w) (seen P g.frame.fn a.run.evs.toArray)
      | none => a.run.st = none → stepG P main g w = .go { g with status := .blocked } w (seen P g.frame.fn #[]) := by
  unfold astep at h
  split at h
  · cases h
  rename_i hd
  obtain ⟨fr, cs, st, dy, of⟩ := g
  simp only [Bool.or_eq_true, not_or, Bool.not_eq_true, Option.isSome_eq_false_iff, Option.isNone_iff_eq_none, bne_eq_false_iff_eq] at hd ho
  obtain ⟨⟨⟨rfl, rfl⟩, hro⟩, hk⟩ := hd
  subst ho
  refine ⟨rfl, ?_⟩
  split at h
  · rename_i ops i rest k hm ht
    simp only at hm ht
    split at h
    · cases h
    · rename_i o hop
      split at h
      · rename_i hw
        simp only at hw
        have hopr : fr.oper? = some o := by simp [Frame.oper?, ht, hop]
        have hkind : (match fr.todo with | .call _ true _ _ :: _ => CallKind.wrapped | _ => CallKind.normal) = .normal := by rw [ht]
        split at h
        · rename_i r hr
          split at h
          · rename_i x hx
            simp only [Option.some.injEq] at h
            subst h
            have := (exop_runT hX fr.eval o w #[]).trans (asem_runT hr w #[] ⟨hf.rd, hf.asks, hf.frz, hf.st⟩)
            rw [hx] at this
            simp only
            simp [stepG, hm, stepG.exec, ht, hop, hw, stepG.oper, hopr, hro, stepG.apply, -Sem.runT_eq, this, hk, hkind, GStep.after, G]
            rfl
          · rename_i hx
            simp only [Option.some.injEq] at h
            subst h
            have := (exop_runT hX fr.eval o w #[]).trans (asem_runT hr w #[] ⟨hf.rd, hf.asks, hf.frz, hf.st⟩)
            rw [hx] at this
            simp only
            intro hs
            have hw0 : r.world w = w := by simp [ARun.world, show r.st = none from hs]
            rw [hw0] at this
            simp [stepG, hm, stepG.exec, ht, hop, hw, stepG.oper, hopr, hro, stepG.apply, -Sem.runT_eq, this, hk, GStep.after]
          · cases h
        · cases h
      · cases h
  · cases h
end Go.Proofs.Yticdjkkcfdbdcaa
