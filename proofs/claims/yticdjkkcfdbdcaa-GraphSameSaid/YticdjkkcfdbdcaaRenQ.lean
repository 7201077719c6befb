/- The library's words, alike in two worlds. No program; no conditions but those named. -/
import Derived.Test.YticdjkkcfdbdcaaRenR
namespace Go.Proofs.Yticdjkkcfdbdcaa
open Go.Conc
def QE {α : Type} (_ : Ren) (a b : α) : Prop := a = b
/-- The type's zero value names no block. -/
def ZeroOk (P : Program) (t : TypeId) : Prop := ∀ i v, P.info? t = some i → i.zero = some v → Bare v
section
variable {S : FnSet} {P : Program} {ρ : Ren}
theorem dead_stuck {α : Type} (s : String) : Dead (stuck s : Sem α) := .halt _ trivial
theorem dead_panic {α : Type} (v : Value) : Dead (goPanic v : Sem α) := .halt _ trivial
theorem dead_elemOf {α : Type} {f : TypeId → Sem α} (t : TypeId) (h : ∀ i, Dead (f i)) : Dead (elemOf t >>= f) := by
  refine .program fun p => ?_
  show Dead (Sem.bind (Sem.bind (match p.underlying t with | some i => pure i | none => stuck "no such type") _) f)
  cases p.underlying t with
  | none => exact (dead_stuck _).bind f
  | some d => cases d <;> first | exact h _ | exact (dead_stuck _).bind f
theorem dead_newVar {α : Type} {f : Addr → Sem α} (t : TypeId) (v : Value) (h : ∀ a, Dead (f a)) : Dead (newVar t v >>= f) := .new _ fun r => h _
theorem dead_rt {α : Type} (e : RuntimeError) : Dead (runtimePanic e : Sem α) := by
  unfold runtimePanic
  refine .program fun p => ?_
  cases e with
  | typeAssertion i c a m => exact dead_elemOf _ fun e => dead_newVar _ _ fun r => dead_panic _
  | panicNil => exact dead_elemOf _ fun e => dead_newVar _ _ fun r => dead_panic _
  | _ => exact dead_panic _
theorem dead_bounds {α : Type} (k : IntKind) (x y : Int) (code : BoundsCode) : Dead (boundsPanic k x y code : Sem α) := by
  unfold boundsPanic
  split
  · exact .choose _ fun n => (show Dead (runtimePanic (.bounds (IntKind.i64.wrap x) y (n == 1) code)) from dead_rt _)
  · exact (show Dead (runtimePanic (.bounds (IntKind.i64.wrap x) y (k != .u64) code)) from dead_rt _)
theorem sr_typeInfo (t : TypeId) : SR S P (fun _ (a b : TypeInfo) => a = b ∧ P.info? t = some a) ρ (typeInfo t) (typeInfo t) := by
  refine .program ?_
  show SR S P _ ρ (match P.info? t with | some i => pure i | none => stuck "no such type") (match P.info? t with | some i => pure i | none => stuck "no such type")
  cases h : P.info? t with
  | none => (first | exact .dead (dead_stuck _) | exact .dead (dead_rt _) | exact .dead (dead_bounds _ _ _ _) | (refine .dead (.halt _ ?_); exact True.intro) | exact .dead (dead_panic _) | exact .dead ((dead_stuck _).bind _) | exact .dead ((dead_rt _).bind _) | exact .dead ((dead_bounds _ _ _ _).bind _) | (refine .dead (Dead.bind (.halt _ ?_) _); exact True.intro))
  | some i => exact .pure ⟨rfl, rfl⟩
theorem sr_underlying (t : TypeId) : SR S P (fun _ (a b : TypeDesc) => a = b ∧ P.underlying t = some a) ρ (underlying t) (underlying t) := by
  refine .program ?_
  show SR S P _ ρ (match P.underlying t with | some i => pure i | none => stuck "no such type") (match P.underlying t with | some i => pure i | none => stuck "no such type")
  cases h : P.underlying t with
  | none => (first | exact .dead (dead_stuck _) | exact .dead (dead_rt _) | exact .dead (dead_bounds _ _ _ _) | (refine .dead (.halt _ ?_); exact True.intro) | exact .dead (dead_panic _) | exact .dead ((dead_stuck _).bind _) | exact .dead ((dead_rt _).bind _) | exact .dead ((dead_bounds _ _ _ _).bind _) | (refine .dead (Dead.bind (.halt _ ?_) _); exact True.intro))
  | some i => exact .pure ⟨rfl, rfl⟩
theorem sr_sizeOf (t : TypeId) : SR S P QE ρ (sizeOf t) (sizeOf t) := (sr_typeInfo t).bind fun ρ' a b _ h => .pure (by rw [h.1]; rfl)
theorem sr_isAgg (t : TypeId) : SR S P QE ρ (isAgg t) (isAgg t) := (sr_underlying t).bind fun ρ' a b _ h => by
  rw [h.1]; cases b <;> exact .pure rfl
theorem sr_zero {t : TypeId} (hz : ZeroOk P t) : SR S P (fun ρ a b => VR S ρ a b) ρ (zeroValue t) (zeroValue t) := (sr_typeInfo t).bind fun ρ' a b _ h => by
  obtain ⟨rfl, h2⟩ := h
  cases hv : a.zero with
  | none => (first | exact .dead (dead_stuck _) | exact .dead (dead_rt _) | exact .dead (dead_bounds _ _ _ _) | (refine .dead (.halt _ ?_); exact True.intro) | exact .dead (dead_panic _) | exact .dead ((dead_stuck _).bind _) | exact .dead ((dead_rt _).bind _) | exact .dead ((dead_bounds _ _ _ _).bind _) | (refine .dead (Dead.bind (.halt _ ?_) _); exact True.intro))
  | some v => exact .pure ((hz a v h2 hv).rel)
theorem sr_load {a a' : Addr} (h : AR ρ a a') : SR S P (fun ρ a b => VR S ρ a b) ρ (load a) (load a') := .load h fun v v' hv => .pure hv
theorem sr_loadCellsFrom {a a' : Addr} (h : AR ρ a a') : ∀ (n i : Nat) {x x' : Array Value}, VRs S ρ x x' → SR S P (fun ρ a b => VRs S ρ a b) ρ (loadCellsFrom a i n x) (loadCellsFrom a' i n x')
  | 0, _, _, _, hx => .pure hx
  | n + 1, i, _, _, hx => by
    unfold loadCellsFrom
    refine .load (h.add i) fun v v' hv => ?_
    exact sr_loadCellsFrom h n (i + 1) (hx.push hv)
theorem sr_loadCells {a a' : Addr} (h : AR ρ a a') (n : Nat) : SR S P (fun ρ a b => VRs S ρ a b) ρ (loadCells a n) (loadCells a' n) := sr_loadCellsFrom h n 0 .nil
theorem sr_storeCells : ∀ {l l' : List Value} {a a' : Addr} (i : Nat), AR ρ a a' → VRs S ρ l.toArray l'.toArray → SR S P QE ρ (storeCells a l i) (storeCells a' l' i)
  | [], [], _, _, _, _, _ => .pure rfl
  | [], v :: l', _, _, _, _, h => by have := h.1; simp at this
  | v :: l, [], _, _, _, _, h => by have := h.1; simp at this
  | v :: l, v' :: l', a, a', i, ha, h => by
    unfold storeCells
    refine .store (ha.add i) (h.2 0 v v' (by simp) (by simp)) (sr_storeCells (i + 1) ha ⟨by have := h.1; simpa using this, fun j u u' h1 h2 => h.2 (j + 1) u u' (by simpa using h1) (by simpa using h2)⟩)
/-- What lies at no block of the lone one's: nothing is loaded, nothing is stored; else it is lost. -/
theorem sr_loadFar {a a' : Addr} (h : a.spot ≠ none) (n : Nat) : SR S P (fun ρ a b => VRs S ρ a b) ρ (loadCells a n) (loadCells a' n) := by
  cases n with
  | zero => exact .pure .nil
  | succ n => exact .farLoad h
theorem sr_storeFar {l l' : List Value} {a a' : Addr} (h : a.spot ≠ none) (hl : VRs S ρ l.toArray l'.toArray) : SR S P QE ρ (storeCells a l 0) (storeCells a' l' 0) := by
  cases l with
  | nil =>
    cases l' with
    | nil => exact .pure rfl
    | cons v l' => have := hl.1; simp at this
  | cons v l => exact .farStore h
theorem sr_loadVar (t : TypeId) {a a' : Addr} (h : AR ρ a a') : SR S P (fun ρ a b => VR S ρ a b) ρ (loadVar t a) (loadVar t a') := by
  refine (sr_isAgg t).bind fun ρ' b b' hr hb => ?_
  cases hb
  cases b with
  | true =>
    rw [if_pos rfl, if_pos rfl]
    refine (sr_sizeOf t).bind fun ρ'' n n' hr' hn => ?_
    cases hn
    exact (sr_loadCells ((h.mono hr).mono hr') n).bind fun ρ'' x x' hr' hx => .pure (VR.agg hx.1 hx.2)
  | false => exact sr_load (h.mono hr)
theorem sr_storeVar (t : TypeId) {a a' : Addr} (h : AR ρ a a') {v v' : Value} (hv : VR S ρ v v') : SR S P QE ρ (storeVar t a v) (storeVar t a' v') := by
  refine (sr_sizeOf t).bind fun ρ' n n' hr hn => ?_
  cases hn
  have hc := (hv.mono hr).cells
  rw [← hc.1]
  split
  · (first | exact .dead (dead_stuck _) | exact .dead (dead_rt _) | exact .dead (dead_bounds _ _ _ _) | (refine .dead (.halt _ ?_); exact True.intro) | exact .dead (dead_panic _) | exact .dead ((dead_stuck _).bind _) | exact .dead ((dead_rt _).bind _) | exact .dead ((dead_bounds _ _ _ _).bind _) | (refine .dead (Dead.bind (.halt _ ?_) _); exact True.intro))
  · exact sr_storeCells 0 (h.mono hr) hc
theorem sr_newRow (e : TypeId) {x x' : Array Value} (hx : VRs S ρ x x') : SR S P (fun ρ a b => AR ρ a b) ρ (newRow e x) (newRow e x') :=
  .new (.inl ⟨x, e, x', rfl, rfl, hx⟩) fun ρ' r r' _ hr' _ hc => .pure ⟨⟨rfl, hc⟩, r', 0, hr', by simp⟩
theorem sr_newVar (t : TypeId) {v v' : Value} (hv : VR S ρ v v') : SR S P (fun ρ a b => AR ρ a b) ρ (newVar t v) (newVar t v') := sr_newRow t hv.cells
theorem sr_part (t : TypeId) {x x' : Array Value} (hx : VRs S ρ x x') (off : Nat) : SR S P (fun ρ a b => VR S ρ a b) ρ (part t x off) (part t x' off) := by
  refine (sr_isAgg t).bind fun ρ' b b' hr hb => ?_
  cases hb
  cases b with
  | true =>
    refine (sr_sizeOf t).bind fun ρ'' n n' hr' hn => ?_
    cases hn
    have := ((hx.mono hr).mono hr').extract off (off + n)
    exact .pure (.agg this.1 this.2)
  | false =>
    show SR S P _ ρ' (match x[off]? with | some v => pure v | none => stuck "part: no such cell") (match x'[off]? with | some v => pure v | none => stuck "part: no such cell")
    cases h : x[off]? with
    | none => (first | exact .dead (dead_stuck _) | exact .dead (dead_rt _) | exact .dead (dead_bounds _ _ _ _) | (refine .dead (.halt _ ?_); exact True.intro) | exact .dead (dead_panic _) | exact .dead ((dead_stuck _).bind _) | exact .dead ((dead_rt _).bind _) | exact .dead ((dead_bounds _ _ _ _).bind _) | (refine .dead (Dead.bind (.halt _ ?_) _); exact True.intro))
    | some v =>
      obtain ⟨v', h1, h2⟩ := hx.get h
      rw [h1]
      exact .pure (h2.mono hr)
theorem sr_int {v v' : Value} (h : VR S ρ v v') : SR S P QE ρ (asIntOf v) (asIntOf v') := by
  cases h <;> first | exact .pure rfl | (first | exact .dead (dead_stuck _) | exact .dead (dead_rt _) | exact .dead (dead_bounds _ _ _ _) | (refine .dead (.halt _ ?_); exact True.intro) | exact .dead (dead_panic _) | exact .dead ((dead_stuck _).bind _) | exact .dead ((dead_rt _).bind _) | exact .dead ((dead_bounds _ _ _ _).bind _) | (refine .dead (Dead.bind (.halt _ ?_) _); exact True.intro))
theorem sr_asInt {v v' : Value} (h : VR S ρ v v') : SR S P QE ρ (asInt v) (asInt v') := (sr_int h).bind fun ρ' a b _ h => by cases h; exact .pure rfl
theorem sr_bool {v v' : Value} (h : VR S ρ v v') : SR S P QE ρ (asBool v) (asBool v') := by
  cases h <;> first | exact .pure rfl | (first | exact .dead (dead_stuck _) | exact .dead (dead_rt _) | exact .dead (dead_bounds _ _ _ _) | (refine .dead (.halt _ ?_); exact True.intro) | exact .dead (dead_panic _) | exact .dead ((dead_stuck _).bind _) | exact .dead ((dead_rt _).bind _) | exact .dead ((dead_bounds _ _ _ _).bind _) | (refine .dead (Dead.bind (.halt _ ?_) _); exact True.intro))
theorem sr_agg {v v' : Value} (h : VR S ρ v v') : SR S P (fun ρ a b => VRs S ρ a b) ρ (asAgg v) (asAgg v') := by
  cases h <;> first | exact .pure ⟨‹_›, ‹_›⟩ | (first | exact .dead (dead_stuck _) | exact .dead (dead_rt _) | exact .dead (dead_bounds _ _ _ _) | (refine .dead (.halt _ ?_); exact True.intro) | exact .dead (dead_panic _) | exact .dead ((dead_stuck _).bind _) | exact .dead ((dead_rt _).bind _) | exact .dead ((dead_bounds _ _ _ _).bind _) | (refine .dead (Dead.bind (.halt _ ?_) _); exact True.intro))
theorem sr_addr {v v' : Value} (h : VR S ρ v v') : SR S P (fun ρ a b => AR ρ a b) ρ (asAddr v) (asAddr v') := by
  cases h <;> first | exact .pure ‹_› | (simp only [asAddr]; (first | exact .dead (dead_stuck _) | exact .dead (dead_rt _) | exact .dead (dead_bounds _ _ _ _) | (refine .dead (.halt _ ?_); exact True.intro) | exact .dead (dead_panic _) | exact .dead ((dead_stuck _).bind _) | exact .dead ((dead_rt _).bind _) | exact .dead ((dead_bounds _ _ _ _).bind _) | (refine .dead (Dead.bind (.halt _ ?_) _); exact True.intro)))
theorem sr_sure {v v' : Value} (h : VR S ρ v v') : SR S P (fun ρ a b => AR ρ a b) ρ (Instr.sureAddr v) (Instr.sureAddr v') := by
  cases h <;> first | exact .pure ‹_› | (first | exact .dead (dead_stuck _) | exact .dead (dead_rt _) | exact .dead (dead_bounds _ _ _ _) | (refine .dead (.halt _ ?_); exact True.intro) | exact .dead (dead_panic _) | exact .dead ((dead_stuck _).bind _) | exact .dead ((dead_rt _).bind _) | exact .dead ((dead_bounds _ _ _ _).bind _) | (refine .dead (Dead.bind (.halt _ ?_) _); exact True.intro))
theorem sr_askRoom (n : Nat) : SR S P QE ρ (askRoom n) (askRoom n) := by
  unfold askRoom
  split
  · exact .mark (.inl rfl) (.pure rfl)
  · exact .pure rfl
theorem sr_choose (q : Question) : SR S P QE ρ (choose q) (choose q) := .choose q fun n => .pure rfl
end
end Go.Proofs.Yticdjkkcfdbdcaa
namespace Go.Proofs.Yticdjkkcfdbdcaa
open Go.Conc
section
variable {S : FnSet} {P : Program} {ρ : Ren}
theorem sr_if {α β : Type} {Q : Ren → α → β → Prop} {c : Prop} [Decidable c] {s t : Sem α} {s' t' : Sem β} (h1 : c → SR S P Q ρ s s') (h2 : ¬ c → SR S P Q ρ t t') : SR S P Q ρ (if c then s else t) (if c then s' else t') := by
  split
  · exact h1 ‹_›
  · exact h2 ‹_›
theorem pb {α β : Type} (a : α) (f : α → Sem β) : (pure a >>= f) = f a := rfl
theorem stuck_bind {α β : Type} (s : String) (f : α → Sem β) : (stuck s >>= f) = stuck s := rfl
/-- The kind of value. -/
theorem VR.ptr_inv {v' : Value} {a : Addr} (h : VR S ρ (.pointer (some a)) v') : ∃ a', v' = .pointer (some a') ∧ AR ρ a a' := by cases h; exact ⟨_, rfl, ‹_›⟩
/-! ### memory -/
theorem sr_loadAt (t : TypeId) {v v' : Value} (h : VR S ρ v v') : SR S P (fun ρ a b => VR S ρ a b) ρ (Instr.loadAt t v) (Instr.loadAt t v') := (sr_sure h).bind fun _ _ _ _ h => sr_loadVar t h
theorem sr_storeAt (t : TypeId) {a a' v v' : Value} (h : VR S ρ a a') (hv : VR S ρ v v') : SR S P QE ρ (Instr.storeAt t a v) (Instr.storeAt t a' v') := (sr_sure h).bind fun _ _ _ hr h => sr_storeVar t h (hv.mono hr)
theorem sr_box (t : TypeId) {v v' : Value} (h : VR S ρ v v') : SR S P (fun ρ a b => VR S ρ a b) ρ (Instr.box t v) (Instr.box t v') := (sr_newVar t h).bind fun _ _ _ _ h => .pure (.ptr h)
theorem sr_alloc {t : TypeId} (hz : ZeroOk P t) (old old' : Value) : SR S P (fun ρ a b => VR S ρ a b) ρ (Instr.alloc t true old) (Instr.alloc t true old') := by
  unfold Instr.alloc
  refine (sr_zero hz).bind fun ρ' z z' hr hz => ?_
  exact (sr_newVar t hz).bind fun _ _ _ _ h => .pure (.ptr h)
theorem sr_fieldAt (s n : TypeId) (hsz : ∀ fs (f : Field) i, P.underlying s = some (.struct fs) → fs[n]? = some f → P.info? f.type = some i → i.size ≠ 0) {v v' : Value} (h : VR S ρ v v') : SR S P (fun ρ a b => VR S ρ a b) ρ (Instr.fieldAt s v n) (Instr.fieldAt s v' n) := by
  refine (sr_underlying s).bind fun ρ' d d' hr hd => ?_
  obtain ⟨rfl, hd⟩ := hd
  cases d <;> first | (first | exact .dead (dead_stuck _) | exact .dead (dead_rt _) | exact .dead (dead_bounds _ _ _ _) | (refine .dead (.halt _ ?_); exact True.intro) | exact .dead (dead_panic _) | exact .dead ((dead_stuck _).bind _) | exact .dead ((dead_rt _).bind _) | exact .dead ((dead_bounds _ _ _ _).bind _) | (refine .dead (Dead.bind (.halt _ ?_) _); exact True.intro)) | skip
  rename_i fs
  cases hf : fs[n]? with
  | none => simp only [hf]; (first | exact .dead (dead_stuck _) | exact .dead (dead_rt _) | exact .dead (dead_bounds _ _ _ _) | (refine .dead (.halt _ ?_); exact True.intro) | exact .dead (dead_panic _) | exact .dead ((dead_stuck _).bind _) | exact .dead ((dead_rt _).bind _) | exact .dead ((dead_bounds _ _ _ _).bind _) | (refine .dead (Dead.bind (.halt _ ?_) _); exact True.intro))
  | some f =>
    simp only [hf]
    refine (sr_sure (h.mono hr)).bind fun ρ2 a a' hr2 ha => ?_
    refine SR.bind (Q := fun ρ a b => AR ρ a b) ?_ fun _ _ _ _ h => .pure (.ptr h)
    unfold fieldPlace sizeOf
    show SR S P _ ρ2 ((typeInfo f.type >>= fun i => pure i.size) >>= fun n => if n = 0 then partAt a f.offset f.byteOffset else pure (a.add f.offset)) ((typeInfo f.type >>= fun i => pure i.size) >>= fun n => if n = 0 then partAt a' f.offset f.byteOffset else pure (a'.add f.offset))
    refine SR.bind (Q := fun _ (x y : Nat) => x = y ∧ x ≠ 0) ((sr_typeInfo f.type).bind fun ρ3 i i' _ hi => .pure ⟨by rw [hi.1], hsz fs f i hd hf hi.2⟩) fun ρ3 x y hr3 hx => ?_
    obtain ⟨rfl, hx⟩ := hx
    rw [if_neg hx, if_neg hx]
    exact .pure ((ha.mono hr3).add _)
theorem sr_field (s n : TypeId) {v v' : Value} (h : VR S ρ v v') : SR S P (fun ρ a b => VR S ρ a b) ρ (Instr.field s v n) (Instr.field s v' n) := by
  refine (sr_underlying s).bind fun ρ' d d' hr hd => ?_
  obtain ⟨rfl, hd⟩ := hd
  cases d <;> first | (first | exact .dead (dead_stuck _) | exact .dead (dead_rt _) | exact .dead (dead_bounds _ _ _ _) | (refine .dead (.halt _ ?_); exact True.intro) | exact .dead (dead_panic _) | exact .dead ((dead_stuck _).bind _) | exact .dead ((dead_rt _).bind _) | exact .dead ((dead_bounds _ _ _ _).bind _) | (refine .dead (Dead.bind (.halt _ ?_) _); exact True.intro)) | skip
  rename_i fs
  cases hf : fs[n]? with
  | none => simp only [hf]; (first | exact .dead (dead_stuck _) | exact .dead (dead_rt _) | exact .dead (dead_bounds _ _ _ _) | (refine .dead (.halt _ ?_); exact True.intro) | exact .dead (dead_panic _) | exact .dead ((dead_stuck _).bind _) | exact .dead ((dead_rt _).bind _) | exact .dead ((dead_bounds _ _ _ _).bind _) | (refine .dead (Dead.bind (.halt _ ?_) _); exact True.intro))
  | some f =>
    simp only [hf]
    exact (sr_agg (h.mono hr)).bind fun ρ2 a a' hr2 ha => sr_part _ ha _
theorem sr_extract {v v' : Value} (h : VR S ρ v v') (n : Nat) : SR S P (fun ρ a b => VR S ρ a b) ρ (Instr.extract v n) (Instr.extract v' n) := by
  cases h with
  | @tuple x x' sx hx =>
    unfold Instr.extract
    cases hv : x[n]? with
    | none => simp only [hv]; (first | exact .dead (dead_stuck _) | exact .dead (dead_rt _) | exact .dead (dead_bounds _ _ _ _) | (refine .dead (.halt _ ?_); exact True.intro) | exact .dead (dead_panic _) | exact .dead ((dead_stuck _).bind _) | exact .dead ((dead_rt _).bind _) | exact .dead ((dead_bounds _ _ _ _).bind _) | (refine .dead (Dead.bind (.halt _ ?_) _); exact True.intro))
    | some u =>
      obtain ⟨u', h1, h2⟩ := VRs.get (S := S) (ρ := ρ) ⟨sx, hx⟩ hv
      simp only [hv, h1]
      exact .pure h2
  | _ => (first | exact .dead (dead_stuck _) | exact .dead (dead_rt _) | exact .dead (dead_bounds _ _ _ _) | (refine .dead (.halt _ ?_); exact True.intro) | exact .dead (dead_panic _) | exact .dead ((dead_stuck _).bind _) | exact .dead ((dead_rt _).bind _) | exact .dead ((dead_bounds _ _ _ _).bind _) | (refine .dead (Dead.bind (.halt _ ?_) _); exact True.intro))
theorem sr_indexFin (t : TypeId) (elem : TypeId) {a a' : Addr} (ha : AR ρ a a') (n : Nat) {c : Prop} [Decidable c] {r r' : TypeDesc → Sem Value} (hr : ∀ d, Dead (r d)) :
    SR S P (fun ρ a b => VR S ρ a b) ρ (underlying t >>= fun d => if c then sizeOf elem >>= fun m => pure (.pointer (some (a.add (n * m)))) else r d) (underlying t >>= fun d => if c then sizeOf elem >>= fun m => pure (.pointer (some (a'.add (n * m)))) else r' d) := by
  refine (sr_underlying t).bind fun ρ4 e e' hr4 he => ?_
  obtain ⟨rfl, he⟩ := he
  refine sr_if (fun _ => ?_) fun _ => .dead (hr _)
  refine (sr_sizeOf elem).bind fun ρ5 n1 n2 hr5 hn => ?_
  cases hn
  exact .pure (.ptr (((ha.mono hr4).mono hr5).add _))
theorem dead_if {α : Type} {c : Prop} [Decidable c] {s t : Sem α} (h1 : Dead s) (h2 : Dead t) : Dead (if c then s else t) := by split <;> assumption
theorem sr_indexAt (t : TypeId) {x x' i i' : Value} (hx : VR S ρ x x') (hi : VR S ρ i i') : SR S P (fun ρ a b => VR S ρ a b) ρ (Instr.indexAt t x i) (Instr.indexAt t x' i') := by
  unfold Instr.indexAt
  refine (sr_int hi).bind fun ρ1 a b hr hab => ?_
  cases hab
  obtain ⟨k, n⟩ := a
  refine (sr_underlying t).bind fun ρ2 d d' hr2 hd => ?_
  obtain ⟨rfl, hd⟩ := hd
  have hx2 := (hx.mono hr).mono hr2
  cases d with
  | array len elem =>
    simp only [pb]
    exact (sr_sure hx2).bind fun ρ3 a a' hr3 ha => sr_indexFin t elem ha n.toNat fun _ => dead_if (.halt _ trivial) (dead_bounds _ _ _ _)
  | slice elem =>
    cases hx2 with
    | nilSlice l c =>
      simp only [pb]
      exact (sr_underlying t).bind fun ρ4 e e' hr4 he => by (first | exact .dead (dead_stuck _) | exact .dead (dead_rt _) | exact .dead (dead_bounds _ _ _ _) | (refine .dead (.halt _ ?_); exact True.intro) | exact .dead (dead_panic _) | exact .dead ((dead_stuck _).bind _) | exact .dead ((dead_rt _).bind _) | exact .dead ((dead_bounds _ _ _ _).bind _) | (refine .dead (Dead.bind (.halt _ ?_) _); exact True.intro))
    | slice h l c =>
      simp only [pb]
      exact sr_indexFin t elem h n.toNat fun _ => dead_if (.halt _ trivial) (dead_bounds _ _ _ _)
    | void b o s a' =>
      simp only [pb]
      refine (sr_underlying t).bind fun ρ4 e e' hr4 he => ?_
      obtain ⟨rfl, he⟩ := he
      refine sr_if (fun hlt => absurd hlt (by omega)) fun _ => .dead (dead_if (.halt _ trivial) (dead_bounds _ _ _ _))
    | _ => simp only [stuck_bind]; (first | exact .dead (dead_stuck _) | exact .dead (dead_rt _) | exact .dead (dead_bounds _ _ _ _) | (refine .dead (.halt _ ?_); exact True.intro) | exact .dead (dead_panic _) | exact .dead ((dead_stuck _).bind _) | exact .dead ((dead_rt _).bind _) | exact .dead ((dead_bounds _ _ _ _).bind _) | (refine .dead (Dead.bind (.halt _ ?_) _); exact True.intro))
  | _ => simp only [stuck_bind]; (first | exact .dead (dead_stuck _) | exact .dead (dead_rt _) | exact .dead (dead_bounds _ _ _ _) | (refine .dead (.halt _ ?_); exact True.intro) | exact .dead (dead_panic _) | exact .dead ((dead_stuck _).bind _) | exact .dead ((dead_rt _).bind _) | exact .dead ((dead_bounds _ _ _ _).bind _) | (refine .dead (Dead.bind (.halt _ ?_) _); exact True.intro))
/-- Values that may be wanting. -/
def VO (S : FnSet) (ρ : Ren) : Option Value → Option Value → Prop
  | none, none => True
  | some v, some v' => VR S ρ v v'
  | _, _ => False
theorem VO.mono {ρ' : Ren} {x x' : Option Value} (h : VO S ρ x x') (hr : ρ.le ρ') : VO S ρ' x x' := by
  cases x <;> cases x' <;> first | trivial | exact h.elim | exact VR.mono h hr
theorem sr_bound {v v' : Value} (h : VR S ρ v v') (y : Nat) (c : BoundsCode) : SR S P (fun _ a b => a = b ∧ a ≤ y) ρ (Instr.sliceBound v y c) (Instr.sliceBound v' y c) := by
  refine (sr_int h).bind fun ρ1 a b hr hab => ?_
  cases hab
  exact sr_if (fun hb => .pure ⟨rfl, by omega⟩) fun _ => by (first | exact .dead (dead_stuck _) | exact .dead (dead_rt _) | exact .dead (dead_bounds _ _ _ _) | (refine .dead (.halt _ ?_); exact True.intro) | exact .dead (dead_panic _) | exact .dead ((dead_stuck _).bind _) | exact .dead ((dead_rt _).bind _) | exact .dead ((dead_bounds _ _ _ _).bind _) | (refine .dead (Dead.bind (.halt _ ?_) _); exact True.intro))
theorem sr_bounds0 (isS : Bool) (len cap : Nat) {l l' h h' m m' : Option Value} (hl : VO S ρ l l') (hh : VO S ρ h h') (hm : VO S ρ m m') : SR S P (fun _ a b => a = b ∧ (len = 0 → cap = 0 → a = (0, 0, 0))) ρ (Instr.sliceBounds isS len cap l h m) (Instr.sliceBounds isS len cap l' h' m') := by
  unfold Instr.sliceBounds
  cases m <;> cases m' <;> first | exact hm.elim | skip
  · simp only [pb]
    cases h <;> cases h' <;> first | exact hh.elim | skip
    · simp only [pb]
      cases l <;> cases l' <;> first | exact .pure ⟨rfl, fun e1 e2 => by subst e1 e2; rfl⟩ | exact hl.elim | exact (sr_bound hl _ _).bind fun _ _ _ _ e => by obtain ⟨rfl, e⟩ := e; exact .pure ⟨rfl, fun e1 e2 => by subst e1 e2; rw [Nat.le_zero.1 e]⟩
    · refine (sr_bound hh _ _).bind fun ρ1 a b hr e => ?_
      obtain ⟨rfl, e⟩ := e
      cases l <;> cases l' <;> first | exact .pure ⟨rfl, fun e1 e2 => by subst e1 e2; rw [Nat.le_zero.1 e]⟩ | exact hl.elim | exact (sr_bound (VR.mono hl hr) _ _).bind fun _ _ _ _ f => by obtain ⟨rfl, f⟩ := f; exact .pure ⟨rfl, fun e1 e2 => by subst e1 e2; have := Nat.le_zero.1 e; subst this; rw [Nat.le_zero.1 f]⟩
  · refine (sr_bound hm _ _).bind fun ρ1 a b hr e => ?_
    obtain ⟨rfl, e⟩ := e
    cases h <;> cases h' <;> first | exact hh.elim | skip
    · simp only [stuck_bind]; (first | exact .dead (dead_stuck _) | exact .dead (dead_rt _) | exact .dead (dead_bounds _ _ _ _) | (refine .dead (.halt _ ?_); exact True.intro) | exact .dead (dead_panic _) | exact .dead ((dead_stuck _).bind _) | exact .dead ((dead_rt _).bind _) | exact .dead ((dead_bounds _ _ _ _).bind _) | (refine .dead (Dead.bind (.halt _ ?_) _); exact True.intro))
    · refine (sr_bound (VR.mono hh hr) _ _).bind fun ρ2 a b hr2 f => ?_
      obtain ⟨rfl, f⟩ := f
      cases l <;> cases l' <;> first | exact .pure ⟨rfl, fun e1 e2 => by subst e1 e2; have := Nat.le_zero.1 e; subst this; rw [Nat.le_zero.1 f]⟩ | exact hl.elim | exact (sr_bound (VR.mono hl (hr.trans hr2)) _ _).bind fun _ _ _ _ g => by obtain ⟨rfl, g⟩ := g; exact .pure ⟨rfl, fun e1 e2 => by subst e1 e2; have := Nat.le_zero.1 e; subst this; have := Nat.le_zero.1 f; subst this; rw [Nat.le_zero.1 g]⟩
theorem sr_bounds (isS : Bool) (len cap : Nat) {l l' h h' m m' : Option Value} (hl : VO S ρ l l') (hh : VO S ρ h h') (hm : VO S ρ m m') : SR S P QE ρ (Instr.sliceBounds isS len cap l h m) (Instr.sliceBounds isS len cap l' h' m') := (sr_bounds0 isS len cap hl hh hm).mono fun _ _ _ _ h => h.1
theorem sr_sliceFin {a a' : Addr} (ha : AR ρ a a') (elem : TypeId) (l h m : Nat) : SR S P (fun ρ a b => VR S ρ a b) ρ (sizeOf elem >>= fun size => pure (.slice (some (if m = l then a else a.add (l * size))) (h - l) (m - l))) (sizeOf elem >>= fun size => pure (.slice (some (if m = l then a' else a'.add (l * size))) (h - l) (m - l))) := by
  refine (sr_sizeOf elem).bind fun ρ5 n1 n2 hr5 hn => ?_
  cases hn
  refine .pure (.slice ?_ _ _)
  split
  · exact ha.mono hr5
  · exact (ha.mono hr5).add _
theorem sr_slice (t : TypeId) {x x' : Value} {l l' h h' m m' : Option Value} (hx : VR S ρ x x') (hl : VO S ρ l l') (hh : VO S ρ h h') (hm : VO S ρ m m') : SR S P (fun ρ a b => VR S ρ a b) ρ (Instr.slice t x l h m) (Instr.slice t x' l' h' m') := by
  unfold Instr.slice
  refine (sr_underlying t).bind fun ρ2 d d' hr2 hd => ?_
  obtain ⟨rfl, hd⟩ := hd
  have hx2 := hx.mono hr2
  have hl2 := hl.mono hr2
  have hh2 := hh.mono hr2
  have hm2 := hm.mono hr2
  have hms : m.isSome = m'.isSome := by cases m <;> cases m' <;> first | rfl | exact hm.elim
  cases d with
  | string =>
    cases hx2 with
    | string s =>
      simp only [hms]
      refine sr_if (fun _ => by simp only [stuck_bind]; (first | exact .dead (dead_stuck _) | exact .dead (dead_rt _) | exact .dead (dead_bounds _ _ _ _) | (refine .dead (.halt _ ?_); exact True.intro) | exact .dead (dead_panic _) | exact .dead ((dead_stuck _).bind _) | exact .dead ((dead_rt _).bind _) | exact .dead ((dead_bounds _ _ _ _).bind _) | (refine .dead (Dead.bind (.halt _ ?_) _); exact True.intro))) fun _ => ?_
      exact (sr_bounds false s.size s.size hl2 hh2 (m := none) (m' := none) trivial).bind fun _ a b _ e => by cases e; exact .pure (.string _)
    | _ => (first | exact .dead (dead_stuck _) | exact .dead (dead_rt _) | exact .dead (dead_bounds _ _ _ _) | (refine .dead (.halt _ ?_); exact True.intro) | exact .dead (dead_panic _) | exact .dead ((dead_stuck _).bind _) | exact .dead ((dead_rt _).bind _) | exact .dead ((dead_bounds _ _ _ _).bind _) | (refine .dead (Dead.bind (.halt _ ?_) _); exact True.intro))
  | slice elem =>
    cases hx2 with
    | nilSlice n c =>
      refine (sr_bounds true n c hl2 hh2 hm2).bind fun ρ3 a b hr3 e => ?_
      cases e
      refine (sr_sizeOf elem).bind fun ρ4 n1 n2 hr4 hn => ?_
      cases hn
      refine .pure ?_
      simp only [Option.map_none, ite_self]
      exact .nilSlice _ _
    | slice ha n c =>
      refine (sr_bounds true n c hl2 hh2 hm2).bind fun ρ3 a b hr3 e => ?_
      cases e
      obtain ⟨l0, h0, m0⟩ := a
      refine (sr_sizeOf elem).bind fun ρ4 n1 n2 hr4 hn => ?_
      cases hn
      refine .pure ?_
      split
      · exact .slice ((ha.mono hr3).mono hr4) _ _
      · exact .slice (((ha.mono hr3).mono hr4).add _) _ _
    | void b o s a' =>
      refine (sr_bounds0 true 0 0 hl2 hh2 hm2).bind fun ρ3 x y hr3 e => ?_
      obtain ⟨rfl, e⟩ := e
      rw [e rfl rfl]
      refine (sr_sizeOf elem).bind fun ρ4 n1 n2 hr4 hn => ?_
      cases hn
      exact .pure (.void _ _ _ _)
    | _ => (first | exact .dead (dead_stuck _) | exact .dead (dead_rt _) | exact .dead (dead_bounds _ _ _ _) | (refine .dead (.halt _ ?_); exact True.intro) | exact .dead (dead_panic _) | exact .dead ((dead_stuck _).bind _) | exact .dead ((dead_rt _).bind _) | exact .dead ((dead_bounds _ _ _ _).bind _) | (refine .dead (Dead.bind (.halt _ ?_) _); exact True.intro))
  | pointer arr =>
    refine (sr_addr hx2).bind fun ρ3 a a' hr3 ha => ?_
    refine (sr_underlying arr).bind fun ρ4 e e' hr4 he => ?_
    obtain ⟨rfl, he⟩ := he
    cases e with
    | array n elem =>
      refine (sr_bounds false n n (hl2.mono (hr3.trans hr4)) (hh2.mono (hr3.trans hr4)) (hm2.mono (hr3.trans hr4))).bind fun ρ5 b b' hr5 e => ?_
      cases e
      exact sr_sliceFin ((ha.mono hr4).mono hr5) elem _ _ _
    | _ => (first | exact .dead (dead_stuck _) | exact .dead (dead_rt _) | exact .dead (dead_bounds _ _ _ _) | (refine .dead (.halt _ ?_); exact True.intro) | exact .dead (dead_panic _) | exact .dead ((dead_stuck _).bind _) | exact .dead ((dead_rt _).bind _) | exact .dead ((dead_bounds _ _ _ _).bind _) | (refine .dead (Dead.bind (.halt _ ?_) _); exact True.intro))
  | _ => (first | exact .dead (dead_stuck _) | exact .dead (dead_rt _) | exact .dead (dead_bounds _ _ _ _) | (refine .dead (.halt _ ?_); exact True.intro) | exact .dead (dead_panic _) | exact .dead ((dead_stuck _).bind _) | exact .dead ((dead_rt _).bind _) | exact .dead ((dead_bounds _ _ _ _).bind _) | (refine .dead (Dead.bind (.halt _ ?_) _); exact True.intro))
theorem sr_sliceAt (t : TypeId) {x x' : Value} {l l' h h' m m' : Option Value} (hx : VR S ρ x x') (hl : VO S ρ l l') (hh : VO S ρ h h') (hm : VO S ρ m m') : SR S P (fun ρ a b => VR S ρ a b) ρ (Instr.sliceAt t x l h m) (Instr.sliceAt t x' l' h' m') := by
  unfold Instr.sliceAt
  refine (sr_underlying t).bind fun ρ2 d d' hr2 hd => ?_
  obtain ⟨rfl, hd⟩ := hd
  cases d with
  | array n elem =>
    refine (sr_sure (hx.mono hr2)).bind fun ρ3 a a' hr3 ha => ?_
    refine (sr_bounds false n n (hl.mono (hr2.trans hr3)) (hh.mono (hr2.trans hr3)) (hm.mono (hr2.trans hr3))).bind fun ρ5 b b' hr5 e => ?_
    cases e
    exact sr_sliceFin (ha.mono hr5) elem _ _ _
  | _ => exact sr_slice t (hx.mono hr2) (hl.mono hr2) (hh.mono hr2) (hm.mono hr2)
end
end Go.Proofs.Yticdjkkcfdbdcaa
namespace Go.Proofs.Yticdjkkcfdbdcaa
open Go.Conc
section
variable {S : FnSet} {P : Program} {ρ : Ren}
theorem VRs.zero {z z' : Array Value} (h : VRs S ρ z z') (n : Nat) : VRs S ρ ((Array.range n).map (z[· % z.size]!)) ((Array.range n).map (z'[· % z'.size]!)) := by
  refine VRs.map _ fun i _ => ?_
  rw [← h.1, getElem!_def, getElem!_def]
  cases hz : z[i % z.size]? with
  | none => rw [h.none hz]; exact .bool _
  | some v => obtain ⟨v', h1, h2⟩ := h.get hz; rw [h1]; exact h2
theorem dead_choose {α : Type} (q : Question) {f : Nat → Sem α} (h : ∀ n, Dead (f n)) : Dead (choose q >>= f) := .choose q h
/-- A zero value's cells, wanted or not. -/
theorem sr_zeroIf {elem : TypeId} (hz : ZeroOk P elem) (n : Nat) {α β : Type} {Q : Ren → α → β → Prop} {f : Array Value → Sem α} {f' : Array Value → Sem β} (h : ∀ ρ' z z', ρ.le ρ' → VRs S ρ' z z' → SR S P Q ρ' (f z) (f' z')) :
    SR S P Q ρ (if n = 0 then pure #[] >>= f else zeroValue elem >>= fun z => pure z.cells >>= f) (if n = 0 then pure #[] >>= f' else zeroValue elem >>= fun z => pure z.cells >>= f') :=
  sr_if (fun _ => h ρ _ _ (.refl _) .nil) fun _ => (sr_zero hz).bind fun ρ' z z' hr hzz => h ρ' _ _ hr hzz.cells
theorem sr_makeSlice (t : TypeId) (hz : ∀ elem, P.underlying t = some (.slice elem) → ZeroOk P elem) {l l' c c' : Value} (hl : VR S ρ l l') (hc : VR S ρ c c') : SR S P (fun ρ a b => VR S ρ a b) ρ (Instr.makeSlice t l c) (Instr.makeSlice t l' c') := by
  unfold Instr.makeSlice
  refine (sr_underlying t).bind fun ρ1 d d' hr1 hd => ?_
  obtain ⟨rfl, hd⟩ := hd
  cases d with
  | slice elem =>
    refine (sr_asInt (hl.mono hr1)).bind fun ρ2 a b hr2 e => ?_
    cases e
    refine (sr_asInt (hc.mono (hr1.trans hr2))).bind fun ρ3 a2 b2 hr3 e => ?_
    cases e
    refine (sr_typeInfo elem).bind fun ρ4 i i' hr4 hi => ?_
    obtain ⟨rfl, _⟩ := hi
    refine sr_if (fun _ => ?_) fun _ => ?_
    · refine .dead ?_
      split
      · exact (dead_rt _).bind _
      · split
        · exact (dead_rt _).bind _
        · exact dead_choose _ fun n => (dead_rt _).bind _
    · refine (sr_askRoom _).bind fun ρ5 _ _ hr5 _ => ?_
      refine (sr_sizeOf elem).bind fun ρ6 n n' hr6 e => ?_
      cases e
      exact sr_zeroIf (hz _ hd) _ fun ρ7 z z' hr7 hzz => (sr_newRow elem (hzz.zero _)).bind fun ρ8 x x' _ h => .pure (.slice h _ _)
  | _ => (first | exact .dead (dead_stuck _) | exact .dead (dead_rt _) | exact .dead (dead_bounds _ _ _ _) | (refine .dead (.halt _ ?_); exact True.intro) | exact .dead (dead_panic _) | exact .dead ((dead_stuck _).bind _) | exact .dead ((dead_rt _).bind _) | exact .dead ((dead_bounds _ _ _ _).bind _) | (refine .dead (Dead.bind (.halt _ ?_) _); exact True.intro))
theorem VRs.foldSet : ∀ {l l' : List Value} (off k : Nat) {x x' : Array Value}, VRs S ρ l.toArray l'.toArray → VRs S ρ x x' → VRs S ρ ((l.zipIdx k).foldl (fun cs p => cs.setIfInBounds (off + p.2) p.1) x) ((l'.zipIdx k).foldl (fun cs p => cs.setIfInBounds (off + p.2) p.1) x')
  | [], [], _, _, _, _, _, h => h
  | [], v :: l', _, _, _, _, h, _ => by have := h.1; simp at this
  | v :: l, [], _, _, _, _, h, _ => by have := h.1; simp at this
  | v :: l, v' :: l', off, k, x, x', h, hx => by
    simp only [List.zipIdx_cons, List.foldl_cons]
    exact VRs.foldSet off (k + 1) ⟨by have := h.1; simpa using this, fun j u u' h1 h2 => h.2 (j + 1) u u' (by simpa using h1) (by simpa using h2)⟩ (hx.set _ (h.2 0 v v' (by simp) (by simp)))
theorem fill_rel (place : Nat → Option (Nat × Nat)) {f f' : Operand → Value} : ∀ (l : List (Nat × Operand)) {x x' : Array Value}, (∀ p ∈ l, VR S ρ (f p.2) (f' p.2)) → VRs S ρ x x' →
    (Instr.fill place x (l.map fun p => (p.1, f p.2)) = none ∧ Instr.fill place x' (l.map fun p => (p.1, f' p.2)) = none) ∨ ∃ y y', Instr.fill place x (l.map fun p => (p.1, f p.2)) = some y ∧ Instr.fill place x' (l.map fun p => (p.1, f' p.2)) = some y' ∧ VRs S ρ y y'
  | [], x, x', _, h => .inr ⟨x, x', rfl, rfl, h⟩
  | (i, o) :: l, x, x', hf, h => by
    simp only [List.map_cons, Instr.fill]
    cases hp : place i with
    | none => exact .inl ⟨rfl, rfl⟩
    | some p =>
      obtain ⟨off, size⟩ := p
      have hc := (hf (i, o) (by simp)).cells
      simp only
      rw [← hc.1, ← h.1]
      split
      · exact .inl ⟨rfl, rfl⟩
      · refine fill_rel place l (fun p hp => hf p (by simp [hp])) ?_
        have := VRs.foldSet off 0 (l := (f o).cells.toList) (l' := (f' o).cells.toList) (by simpa using hc) h
        rw [← Array.foldl_toList, ← Array.foldl_toList, Array.toList_zipIdx, Array.toList_zipIdx]
        exact this
/-- A run whose length is at hand. -/
theorem sr_mapM {α β : Type} {f f' : α → Sem β} (h : ∀ (ρ' : Ren) a, ρ.le ρ' → SR S P QE ρ' (f a) (f' a)) (l : List α) : SR S P QE ρ (l.mapM f) (l.mapM f') := by
  have key : ∀ (l : List α) (ρ1 : Ren), ρ.le ρ1 → ∀ acc : List β, SR S P QE ρ1 (List.mapM.loop f l acc) (List.mapM.loop f' l acc) := by
    intro l
    induction l with
    | nil => exact fun ρ1 _ acc => .pure rfl
    | cons a l ih => exact fun ρ1 hr acc => (h ρ1 a hr).bind fun ρ2 x y hr2 e => by cases e; exact ih ρ2 (hr.trans hr2) _
  exact key l ρ (.refl _) []
theorem sr_build {t : TypeId} (hz : ZeroOk P t) {f f' : Operand → Value} (parts : Array (Nat × Operand)) (hf : ∀ p ∈ parts, VR S ρ (f p.2) (f' p.2)) : SR S P (fun ρ a b => VR S ρ a b) ρ (Instr.build t (parts.map fun (i, x) => (i, f x))) (Instr.build t (parts.map fun (i, x) => (i, f' x))) := by
  unfold Instr.build
  have hpl : ∀ g : Operand → Value, (parts.map fun (i, x) => (i, g x)).toList = parts.toList.map fun p => (p.1, g p.2) := fun g => by simp
  refine (sr_zero hz).bind fun ρ1 z z' hr1 hzz => ?_
  refine (sr_underlying t).bind fun ρ2 d d' hr2 hd => ?_
  obtain ⟨rfl, hd⟩ := hd
  have hc := (hzz.mono hr2).cells
  cases d with
  | struct fields =>
    simp only [hpl]
    refine SR.bind (Q := QE) ?_ fun ρ3 p p' hr3 e => ?_
    · rw [Array.mapM_eq_mapM_toList]
      refine SR.bind (Q := QE) (sr_mapM (fun ρ' a hr => (sr_sizeOf _).bind fun _ _ _ _ e => by cases e; exact .pure rfl) _) fun _ _ _ _ e => by cases e; exact .pure rfl
    · cases e
      rcases fill_rel (S := S) (f := f) (f' := f') (p[·]?) parts.toList (fun x hx => (hf x (by simpa using hx)).mono (hr1.trans (hr2.trans hr3))) (hc.mono hr3) with ⟨h1, h2⟩ | ⟨y, y', h1, h2, hy⟩
      · simp only [h1, h2]; (first | exact .dead (dead_stuck _) | exact .dead (dead_rt _) | exact .dead (dead_bounds _ _ _ _) | (refine .dead (.halt _ ?_); exact True.intro) | exact .dead (dead_panic _) | exact .dead ((dead_stuck _).bind _) | exact .dead ((dead_rt _).bind _) | exact .dead ((dead_bounds _ _ _ _).bind _) | (refine .dead (Dead.bind (.halt _ ?_) _); exact True.intro))
      · simp only [h1, h2]; exact .pure (.agg hy.1 hy.2)
  | array n elem =>
    simp only [hpl]
    refine (sr_sizeOf elem).bind fun ρ3 m m' hr3 e => ?_
    cases e
    rcases fill_rel (S := S) (f := f) (f' := f') (fun i => some (i * m, m)) parts.toList (fun x hx => (hf x (by simpa using hx)).mono (hr1.trans (hr2.trans hr3))) (hc.mono hr3) with ⟨h1, h2⟩ | ⟨y, y', h1, h2, hy⟩
    · simp only [h1, h2]; (first | exact .dead (dead_stuck _) | exact .dead (dead_rt _) | exact .dead (dead_bounds _ _ _ _) | (refine .dead (.halt _ ?_); exact True.intro) | exact .dead (dead_panic _) | exact .dead ((dead_stuck _).bind _) | exact .dead ((dead_rt _).bind _) | exact .dead ((dead_bounds _ _ _ _).bind _) | (refine .dead (Dead.bind (.halt _ ?_) _); exact True.intro))
    · simp only [h1, h2]; exact .pure (.agg hy.1 hy.2)
  | _ => (first | exact .dead (dead_stuck _) | exact .dead (dead_rt _) | exact .dead (dead_bounds _ _ _ _) | (refine .dead (.halt _ ?_); exact True.intro) | exact .dead (dead_panic _) | exact .dead ((dead_stuck _).bind _) | exact .dead ((dead_rt _).bind _) | exact .dead ((dead_bounds _ _ _ _).bind _) | (refine .dead (Dead.bind (.halt _ ?_) _); exact True.intro))
theorem sr_buildSlice (t : TypeId) (hz : ∀ elem, P.underlying t = some (.slice elem) → ZeroOk P elem) (len : Nat) {f f' : Operand → Value} (parts : Array (Nat × Operand)) (hf : ∀ p ∈ parts, VR S ρ (f p.2) (f' p.2)) : SR S P (fun ρ a b => VR S ρ a b) ρ (Instr.buildSlice t len (parts.map fun (i, x) => (i, f x))) (Instr.buildSlice t len (parts.map fun (i, x) => (i, f' x))) := by
  unfold Instr.buildSlice
  have hpl : ∀ g : Operand → Value, (parts.map fun (i, x) => (i, g x)).toList = parts.toList.map fun p => (p.1, g p.2) := fun g => by simp
  refine (sr_underlying t).bind fun ρ1 d d' hr1 hd => ?_
  obtain ⟨rfl, hd⟩ := hd
  cases d with
  | slice elem =>
    simp only [hpl]
    refine (sr_sizeOf elem).bind fun ρ2 m m' hr2 e => ?_
    cases e
    refine sr_if (fun _ => by (first | exact .dead (dead_stuck _) | exact .dead (dead_rt _) | exact .dead (dead_bounds _ _ _ _) | (refine .dead (.halt _ ?_); exact True.intro) | exact .dead (dead_panic _) | exact .dead ((dead_stuck _).bind _) | exact .dead ((dead_rt _).bind _) | exact .dead ((dead_bounds _ _ _ _).bind _) | (refine .dead (Dead.bind (.halt _ ?_) _); exact True.intro))) fun _ => ?_
    refine sr_zeroIf (hz _ hd) _ fun ρ3 z z' hr3 hzz => ?_
    rcases fill_rel (S := S) (f := f) (f' := f') (fun i => some (i * m, m)) parts.toList (fun x hx => (hf x (by simpa using hx)).mono (hr1.trans (hr2.trans hr3))) (hzz.zero (len * m)) with ⟨h1, h2⟩ | ⟨y, y', h1, h2, hy⟩
    · simp only [h1, h2]; (first | exact .dead (dead_stuck _) | exact .dead (dead_rt _) | exact .dead (dead_bounds _ _ _ _) | (refine .dead (.halt _ ?_); exact True.intro) | exact .dead (dead_panic _) | exact .dead ((dead_stuck _).bind _) | exact .dead ((dead_rt _).bind _) | exact .dead ((dead_bounds _ _ _ _).bind _) | (refine .dead (Dead.bind (.halt _ ?_) _); exact True.intro))
    · simp only [h1, h2]; exact (sr_newRow elem hy).bind fun _ _ _ _ h => .pure (.slice h _ _)
  | _ => (first | exact .dead (dead_stuck _) | exact .dead (dead_rt _) | exact .dead (dead_bounds _ _ _ _) | (refine .dead (.halt _ ?_); exact True.intro) | exact .dead (dead_panic _) | exact .dead ((dead_stuck _).bind _) | exact .dead ((dead_rt _).bind _) | exact .dead ((dead_bounds _ _ _ _).bind _) | (refine .dead (Dead.bind (.halt _ ?_) _); exact True.intro))
/-! ### append, copy, len -/
theorem sr_lenOf {v v' : Value} (h : VR S ρ v v') : SR S P QE ρ (Builtin.lenOf v) (Builtin.lenOf v') := by
  cases h <;> first | exact .pure rfl | (first | exact .dead (dead_stuck _) | exact .dead (dead_rt _) | exact .dead (dead_bounds _ _ _ _) | (refine .dead (.halt _ ?_); exact True.intro) | exact .dead (dead_panic _) | exact .dead ((dead_stuck _).bind _) | exact .dead ((dead_rt _).bind _) | exact .dead ((dead_bounds _ _ _ _).bind _) | (refine .dead (Dead.bind (.halt _ ?_) _); exact True.intro))
theorem sr_firstCells (size n : Nat) {v v' : Value} (h : VR S ρ v v') : SR S P (fun ρ a b => VRs S ρ a b) ρ (Builtin.firstCells size n v) (Builtin.firstCells size n v') := by
  cases h with
  | nilSlice l c => exact .pure .nil
  | slice h l c => exact sr_loadCells h _
  | void b o s a' => exact sr_loadFar (by simp) _
  | string s => exact .pure (VRs.map _ fun b _ => .int _ _)
  | _ => (first | exact .dead (dead_stuck _) | exact .dead (dead_rt _) | exact .dead (dead_bounds _ _ _ _) | (refine .dead (.halt _ ?_); exact True.intro) | exact .dead (dead_panic _) | exact .dead ((dead_stuck _).bind _) | exact .dead ((dead_rt _).bind _) | exact .dead ((dead_bounds _ _ _ _).bind _) | (refine .dead (Dead.bind (.halt _ ?_) _); exact True.intro))
theorem VRs.zeroCells {z z' : Array Value} (h : VRs S ρ z z') (n : Nat) : VRs S ρ (Builtin.zeroCells z n) (Builtin.zeroCells z' n) := by
  unfold Builtin.zeroCells
  rw [← h.1]
  refine VRs.map _ fun i _ => ?_
  rw [getElem!_def, getElem!_def]
  cases hz : z[i % z.size]? with
  | none => rw [h.none hz]; exact .bool _
  | some v => obtain ⟨v', h1, h2⟩ := h.get hz; rw [h1]; exact h2
/-- A meaning that only looks: what is dead behind it is dead. -/
structure Calm {α : Type} (m : Sem α) : Prop where
  dead : ∀ {β : Type} (f : α → Sem β), (∀ a, Dead (f a)) → Dead (m >>= f)
theorem calm_pure {α : Type} (a : α) : Calm (pure a : Sem α) := ⟨fun f h => h a⟩
theorem calm_shape (r : Nat) : Calm (shape r) := ⟨fun f h => .shape r h⟩
theorem calm_frozen (a : Addr) : Calm (frozen a) := ⟨fun f h => .frozen a h⟩
theorem sem_assoc {α β γ : Type} (m : Sem α) (g : α → Sem β) (f : β → Sem γ) : ((m >>= g) >>= f) = (m >>= fun a => g a >>= f) := by
  show Sem.bind (Sem.bind m g) f = Sem.bind m fun a => Sem.bind (g a) f
  induction m with
  | pure a => rfl
  | halt h => rfl
  | load m a k ih => simp only [Sem.bind, ih]
  | store m a v k ih => simp only [Sem.bind, ih]
  | new o k ih => simp only [Sem.bind, ih]
  | shape r k ih => simp only [Sem.bind, ih]
  | freeze a n k ih => simp only [Sem.bind, ih]
  | frozen a k ih => simp only [Sem.bind, ih]
  | getObj r k ih => simp only [Sem.bind, ih]
  | setObj r o k ih => simp only [Sem.bind, ih]
  | choose q k ih => simp only [Sem.bind, ih]
  | sys c k ih => simp only [Sem.bind, ih]
  | program k ih => simp only [Sem.bind, ih]
  | mark m k ih => simp only [Sem.bind, ih]
theorem Calm.bind {α β : Type} {m : Sem α} {g : α → Sem β} (h : Calm m) (hg : ∀ a, Calm (g a)) : Calm (m >>= g) := ⟨fun f hf => by
  rw [sem_assoc]
  exact h.dead _ fun a => (hg a).dead f hf⟩
theorem calm_if {α : Type} {c : Prop} [Decidable c] {s t : Sem α} (h1 : Calm s) (h2 : Calm t) : Calm (if c then s else t) := by split <;> assumption
theorem calm_holds (a : Addr) (n : Nat) : Calm (Builtin.holdsCells a n) := (calm_shape _).bind fun x => by cases x <;> exact calm_pure _
theorem calm_share (size sLen n : Nat) (base : Option Addr) (x : Value) : Calm (Builtin.mayShare size sLen n base x) := by
  unfold Builtin.mayShare
  have fin : ∀ x : Value, Calm (match x with | .slice (some b) _ _ => Builtin.holdsCells b (n * size) >>= fun z => pure (!z || base.any (·.block == b.block)) | _ => pure false) := fun x => by
    split
    · exact (calm_holds _ _).bind fun _ => calm_pure _
    · exact calm_pure _
  cases base with
  | none => simp only [pb]; exact calm_if (calm_pure _) (fin x)
  | some a => exact (calm_holds _ _).bind fun b => (calm_frozen _).bind fun z => calm_if (calm_pure _) (fin x)
/-- An address that may be wanting. -/
def BR (ρ : Ren) (l c : Nat) (b b' : Option Addr) : Prop := (b = none ∧ b' = none) ∨ (∃ a a', b = some a ∧ b' = some a' ∧ AR ρ a a') ∨ (l = 0 ∧ c = 0) ∧ ∃ x o s a', b = some ⟨x, o, some s⟩ ∧ b' = some a'
theorem BR.mono {ρ' : Ren} {l c : Nat} {b b' : Option Addr} (h : BR ρ l c b b') (hr : ρ.le ρ') : BR ρ' l c b b' := h.imp id (Or.imp (fun ⟨a, a', h1, h2, h3⟩ => ⟨a, a', h1, h2, h3.mono hr⟩) id)
theorem BR.val {l c : Nat} {b b' : Option Addr} (h : BR ρ l c b b') : VR S ρ (.slice b l c) (.slice b' l c) := by
  rcases h with ⟨rfl, rfl⟩ | ⟨a, a', rfl, rfl, h⟩ | ⟨⟨rfl, rfl⟩, x, o, s, a', rfl, rfl⟩
  · exact .nilSlice l c
  · exact .slice h l c
  · exact .void x o s a'
theorem VR.slice_inv {s s' : Value} (h : VR S ρ s s') : (∃ b b' l c, s = .slice b l c ∧ s' = .slice b' l c ∧ BR ρ l c b b') ∨ ∀ b l c, s ≠ .slice b l c := by
  cases h <;> first
    | exact .inl ⟨_, _, _, _, rfl, rfl, .inl ⟨rfl, rfl⟩⟩
    | exact .inl ⟨_, _, _, _, rfl, rfl, .inr (.inl ⟨_, _, rfl, rfl, ‹_›⟩)⟩
    | exact .inl ⟨_, _, _, _, rfl, rfl, .inr (.inr ⟨⟨rfl, rfl⟩, _, _, _, _, rfl, rfl⟩)⟩
    | exact .inr fun _ _ _ e => (by cases e)
theorem sr_append (ats : Array TypeId) (hz : ∀ s elem, ats[0]? = some s → P.underlying s = some (.slice elem) → ZeroOk P elem) (t : TypeId) {args args' : Array Value} (ha : VRs S ρ args args') : SR S P (fun ρ a b => VR S ρ a b) ρ (Builtin.append_ ats t args) (Builtin.append_ ats t args') := by
  unfold Builtin.append_
  cases h1 : ats[0]? with
  | none => (first | exact .dead (dead_stuck _) | exact .dead (dead_rt _) | exact .dead (dead_bounds _ _ _ _) | (refine .dead (.halt _ ?_); exact True.intro) | exact .dead (dead_panic _) | exact .dead ((dead_stuck _).bind _) | exact .dead ((dead_rt _).bind _) | exact .dead ((dead_bounds _ _ _ _).bind _) | (refine .dead (Dead.bind (.halt _ ?_) _); exact True.intro))
  | some sType =>
  cases h2 : args[0]? with
  | none => (first | exact .dead (dead_stuck _) | exact .dead (dead_rt _) | exact .dead (dead_bounds _ _ _ _) | (refine .dead (.halt _ ?_); exact True.intro) | exact .dead (dead_panic _) | exact .dead ((dead_stuck _).bind _) | exact .dead ((dead_rt _).bind _) | exact .dead ((dead_bounds _ _ _ _).bind _) | (refine .dead (Dead.bind (.halt _ ?_) _); exact True.intro))
  | some s =>
  cases h3 : args[1]? with
  | none => (first | exact .dead (dead_stuck _) | exact .dead (dead_rt _) | exact .dead (dead_bounds _ _ _ _) | (refine .dead (.halt _ ?_); exact True.intro) | exact .dead (dead_panic _) | exact .dead ((dead_stuck _).bind _) | exact .dead ((dead_rt _).bind _) | exact .dead ((dead_bounds _ _ _ _).bind _) | (refine .dead (Dead.bind (.halt _ ?_) _); exact True.intro))
  | some x =>
  obtain ⟨s', h2', hs⟩ := ha.get h2
  obtain ⟨x', h3', hx⟩ := ha.get h3
  rw [h2', h3']
  simp only
  refine (sr_underlying sType).bind fun ρ1 d d' hr1 hd => ?_
  obtain ⟨rfl, hd⟩ := hd
  cases d with
  | slice elem =>
    rcases hs.slice_inv with ⟨b, b', sl, sc, rfl, rfl, hb⟩ | hn
    rotate_left
    · cases s <;> first | (first | exact .dead (dead_stuck _) | exact .dead (dead_rt _) | exact .dead (dead_bounds _ _ _ _) | (refine .dead (.halt _ ?_); exact True.intro) | exact .dead (dead_panic _) | exact .dead ((dead_stuck _).bind _) | exact .dead ((dead_rt _).bind _) | exact .dead ((dead_bounds _ _ _ _).bind _) | (refine .dead (Dead.bind (.halt _ ?_) _); exact True.intro)) | exact absurd rfl (hn _ _ _)
    refine (sr_sizeOf elem).bind fun ρ2 size size' hr2 e => ?_
    cases e
    have hX : ρ.le ρ2 := hr1.trans hr2
    have hzz := hz _ _ h1 hd
    cases h4 : ats[1]? with
    | none =>
      simp only [pb, Bool.false_eq_true, if_false, Bool.not_false, if_true]
      refine (sr_lenOf (hx.mono hX)).bind fun ρ4 n n' hr4 e => ?_
      cases e
      (
        refine sr_if (fun hroom => ?_) fun _ => ?_
        · refine SR.bind (Q := fun ρ a b => VRs S ρ a b) ?_ fun σ5 y y' hm5 hy => ?_
          · have hZ := (hX.trans hr4)
            (refine sr_firstCells _ _ (hx.mono ?_); first | assumption | exact (hX.trans hr4))
          · rcases (hb).mono ((hX.trans hr4).trans hm5) with ⟨e1, e2⟩ | ⟨a, a', e1, e2, hab⟩ | ⟨⟨z1, z2⟩, x0, o0, s0, a0, e1, e2⟩
            · subst e1 e2; exact .pure (VR.nilSlice _ _)
            · subst e1 e2; exact (sr_storeCells 0 (hab.add _) (by simpa using hy)).bind fun σ6 _ _ hm6 _ => .pure (VR.slice (hab.mono hm6) _ _)
            · subst e1 e2; subst z1 z2; rw [Nat.zero_mul]; exact (sr_storeFar (by simp [Addr.add]) (by simpa using hy)).bind fun σ6 _ _ hm6 _ => .pure (by clear hy; generalize 0 + _ = X at hroom ⊢; obtain rfl := Nat.le_zero.1 hroom; exact VR.void _ _ _ _)
        · refine (sr_typeInfo _).bind fun σ5 i i' hm5 hi => ?_
          obtain ⟨e1, _⟩ := hi
          subst e1
          refine sr_if (fun _ => .dead ?_) fun _ => ?_
          · exact (dead_rt _).bind _
          refine (sr_typeInfo _).bind fun σ6 i i' hm6 hi => ?_
          obtain ⟨e1, _⟩ := hi
          subst e1
          refine sr_if (fun _ => .dead ?_) fun _ => ?_
          · first
              | exact (dead_rt _).bind _
              | (refine Dead.bind ((calm_share _ _ _ _ _).dead _ fun b => ?_) _
                 exact dead_if (.mark _ (.halt _ True.intro)) (.halt _ True.intro))
              | (refine Dead.bind ?_ _; exact dead_if (dead_rt _) ((calm_share _ _ _ _ _).dead _ fun b => dead_if (.mark _ (.halt _ True.intro)) (.halt _ True.intro)))
          · refine (sr_choose _).bind fun σ7 c c' hm7 e => ?_
            cases e
            refine (sr_typeInfo _).bind fun σ8 i i' hm8 hi => ?_
            obtain ⟨e1, _⟩ := hi
            subst e1
            refine (sr_askRoom _).bind fun σ9 _ _ hm9 _ => ?_
            have hY := (hX.trans hr4).trans (hm5.trans (hm6.trans (hm7.trans (hm8.trans hm9))))
            refine (sr_firstCells _ _ ((hb).mono hY).val).bind fun σ10 o o' hm10 ho => ?_
            refine SR.bind (Q := fun ρ a b => VRs S ρ a b) ?_ fun σ11 y y' hm11 hy => ?_
            · have hZ := (hX.trans hr4).trans (hm5.trans (hm6.trans (hm7.trans (hm8.trans (hm9.trans hm10)))))
              (refine sr_firstCells _ _ (hx.mono ?_); first | assumption | exact (hX.trans hr4))
            · refine (sr_zero hzz).bind fun σ12 z z' hm12 hzz => ?_
              exact (sr_newRow _ ((((ho.mono hm11).mono hm12).append (hy.mono hm12)).append (hzz.cells.zeroCells _))).bind fun _ _ _ _ h => .pure (VR.slice h _ _))
    | some xT =>
      refine (sr_underlying xT).bind fun ρ3 e e' hr3 he => ?_
      obtain ⟨rfl, he⟩ := he
      have hX3 := hX.trans hr3
      cases e
      case int k =>
        simp only [pb, Bool.false_eq_true, if_false, Bool.not_true, if_true]
        refine (sr_asInt (hx.mono hX3)).bind fun ρ4 n n' hr4 e => ?_
        cases e
        refine sr_if (fun _ => .dead ?_) fun _ => ?_
        · exact (dead_rt _).bind _
        refine (sr_typeInfo _).bind fun ρ5 i i' hr5 hi => ?_
        obtain ⟨rfl, _⟩ := hi
        refine sr_if (fun _ => .dead ?_) fun _ => ?_
        · exact dead_choose _ fun n => (dead_rt _).bind _
        (
          refine sr_if (fun hroom => ?_) fun _ => ?_
          · refine SR.bind (Q := fun ρ a b => VRs S ρ a b) ?_ fun σ5 y y' hm5 hy => ?_
            · have hZ := (hX3.trans (hr4.trans hr5))
              (refine sr_if (fun _ => .pure .nil) fun _ => (sr_zero hzz).bind fun _ _ _ _ h => .pure (h.cells.zeroCells _))
            · rcases (hb).mono ((hX3.trans (hr4.trans hr5)).trans hm5) with ⟨e1, e2⟩ | ⟨a, a', e1, e2, hab⟩ | ⟨⟨z1, z2⟩, x0, o0, s0, a0, e1, e2⟩
              · subst e1 e2; exact .pure (VR.nilSlice _ _)
              · subst e1 e2; exact (sr_storeCells 0 (hab.add _) (by simpa using hy)).bind fun σ6 _ _ hm6 _ => .pure (VR.slice (hab.mono hm6) _ _)
              · subst e1 e2; subst z1 z2; rw [Nat.zero_mul]; exact (sr_storeFar (by simp [Addr.add]) (by simpa using hy)).bind fun σ6 _ _ hm6 _ => .pure (by clear hy; generalize 0 + _ = X at hroom ⊢; obtain rfl := Nat.le_zero.1 hroom; exact VR.void _ _ _ _)
          · refine (sr_typeInfo _).bind fun σ5 i i' hm5 hi => ?_
            obtain ⟨e1, _⟩ := hi
            subst e1
            refine sr_if (fun _ => .dead ?_) fun _ => ?_
            · exact (dead_rt _).bind _
            refine (sr_typeInfo _).bind fun σ6 i i' hm6 hi => ?_
            obtain ⟨e1, _⟩ := hi
            subst e1
            refine sr_if (fun _ => .dead ?_) fun _ => ?_
            · first
                | exact (dead_rt _).bind _
                | (refine Dead.bind ((calm_share _ _ _ _ _).dead _ fun b => ?_) _
                   exact dead_if (.mark _ (.halt _ True.intro)) (.halt _ True.intro))
                | (refine Dead.bind ?_ _; exact dead_if (dead_rt _) ((calm_share _ _ _ _ _).dead _ fun b => dead_if (.mark _ (.halt _ True.intro)) (.halt _ True.intro)))
            · refine (sr_choose _).bind fun σ7 c c' hm7 e => ?_
              cases e
              refine (sr_typeInfo _).bind fun σ8 i i' hm8 hi => ?_
              obtain ⟨e1, _⟩ := hi
              subst e1
              refine (sr_askRoom _).bind fun σ9 _ _ hm9 _ => ?_
              have hY := (hX3.trans (hr4.trans hr5)).trans (hm5.trans (hm6.trans (hm7.trans (hm8.trans hm9))))
              refine (sr_firstCells _ _ ((hb).mono hY).val).bind fun σ10 o o' hm10 ho => ?_
              refine SR.bind (Q := fun ρ a b => VRs S ρ a b) ?_ fun σ11 y y' hm11 hy => ?_
              · have hZ := (hX3.trans (hr4.trans hr5)).trans (hm5.trans (hm6.trans (hm7.trans (hm8.trans (hm9.trans hm10)))))
                (refine sr_if (fun _ => .pure .nil) fun _ => (sr_zero hzz).bind fun _ _ _ _ h => .pure (h.cells.zeroCells _))
              · refine (sr_zero hzz).bind fun σ12 z z' hm12 hzz => ?_
                exact (sr_newRow _ ((((ho.mono hm11).mono hm12).append (hy.mono hm12)).append (hzz.cells.zeroCells _))).bind fun _ _ _ _ h => .pure (VR.slice h _ _))
      all_goals
        simp only [pb, Bool.false_eq_true, if_false, Bool.not_false, if_true]
        refine (sr_lenOf (hx.mono hX3)).bind fun ρ4 n n' hr4 e => ?_
        cases e
        (
          refine sr_if (fun hroom => ?_) fun _ => ?_
          · refine SR.bind (Q := fun ρ a b => VRs S ρ a b) ?_ fun σ5 y y' hm5 hy => ?_
            · have hZ := (hX3.trans hr4)
              (refine sr_firstCells _ _ (hx.mono ?_); first | assumption | exact (hX3.trans hr4))
            · rcases (hb).mono ((hX3.trans hr4).trans hm5) with ⟨e1, e2⟩ | ⟨a, a', e1, e2, hab⟩ | ⟨⟨z1, z2⟩, x0, o0, s0, a0, e1, e2⟩
              · subst e1 e2; exact .pure (VR.nilSlice _ _)
              · subst e1 e2; exact (sr_storeCells 0 (hab.add _) (by simpa using hy)).bind fun σ6 _ _ hm6 _ => .pure (VR.slice (hab.mono hm6) _ _)
              · subst e1 e2; subst z1 z2; rw [Nat.zero_mul]; exact (sr_storeFar (by simp [Addr.add]) (by simpa using hy)).bind fun σ6 _ _ hm6 _ => .pure (by clear hy; generalize 0 + _ = X at hroom ⊢; obtain rfl := Nat.le_zero.1 hroom; exact VR.void _ _ _ _)
          · refine (sr_typeInfo _).bind fun σ5 i i' hm5 hi => ?_
            obtain ⟨e1, _⟩ := hi
            subst e1
            refine sr_if (fun _ => .dead ?_) fun _ => ?_
            · exact (dead_rt _).bind _
            refine (sr_typeInfo _).bind fun σ6 i i' hm6 hi => ?_
            obtain ⟨e1, _⟩ := hi
            subst e1
            refine sr_if (fun _ => .dead ?_) fun _ => ?_
            · first
                | exact (dead_rt _).bind _
                | (refine Dead.bind ((calm_share _ _ _ _ _).dead _ fun b => ?_) _
                   exact dead_if (.mark _ (.halt _ True.intro)) (.halt _ True.intro))
                | (refine Dead.bind ?_ _; exact dead_if (dead_rt _) ((calm_share _ _ _ _ _).dead _ fun b => dead_if (.mark _ (.halt _ True.intro)) (.halt _ True.intro)))
            · refine (sr_choose _).bind fun σ7 c c' hm7 e => ?_
              cases e
              refine (sr_typeInfo _).bind fun σ8 i i' hm8 hi => ?_
              obtain ⟨e1, _⟩ := hi
              subst e1
              refine (sr_askRoom _).bind fun σ9 _ _ hm9 _ => ?_
              have hY := (hX3.trans hr4).trans (hm5.trans (hm6.trans (hm7.trans (hm8.trans hm9))))
              refine (sr_firstCells _ _ ((hb).mono hY).val).bind fun σ10 o o' hm10 ho => ?_
              refine SR.bind (Q := fun ρ a b => VRs S ρ a b) ?_ fun σ11 y y' hm11 hy => ?_
              · have hZ := (hX3.trans hr4).trans (hm5.trans (hm6.trans (hm7.trans (hm8.trans (hm9.trans hm10)))))
                (refine sr_firstCells _ _ (hx.mono ?_); first | assumption | exact (hX3.trans hr4))
              · refine (sr_zero hzz).bind fun σ12 z z' hm12 hzz => ?_
                exact (sr_newRow _ ((((ho.mono hm11).mono hm12).append (hy.mono hm12)).append (hzz.cells.zeroCells _))).bind fun _ _ _ _ h => .pure (VR.slice h _ _))
  | _ => (first | exact .dead (dead_stuck _) | exact .dead (dead_rt _) | exact .dead (dead_bounds _ _ _ _) | (refine .dead (.halt _ ?_); exact True.intro) | exact .dead (dead_panic _) | exact .dead ((dead_stuck _).bind _) | exact .dead ((dead_rt _).bind _) | exact .dead ((dead_bounds _ _ _ _).bind _) | (refine .dead (Dead.bind (.halt _ ?_) _); exact True.intro))
end
end Go.Proofs.Yticdjkkcfdbdcaa
namespace Go.Proofs.Yticdjkkcfdbdcaa
open Go.Conc
section
variable {S : FnSet} {P : Program} {ρ : Ren}
theorem sr_copy (ats : Array TypeId) (t : TypeId) {args args' : Array Value} (ha : VRs S ρ args args') : SR S P (fun ρ a b => VR S ρ a b) ρ (Builtin.copy_ ats t args) (Builtin.copy_ ats t args') := by
  unfold Builtin.copy_
  cases h1 : ats[0]? with
  | none => (first | exact .dead (dead_stuck _) | exact .dead (dead_rt _) | exact .dead (dead_bounds _ _ _ _) | (refine .dead (.halt _ ?_); exact True.intro) | exact .dead (dead_panic _) | exact .dead ((dead_stuck _).bind _) | exact .dead ((dead_rt _).bind _) | exact .dead ((dead_bounds _ _ _ _).bind _) | (refine .dead (Dead.bind (.halt _ ?_) _); exact True.intro))
  | some sType =>
  cases h2 : args[0]? with
  | none => (first | exact .dead (dead_stuck _) | exact .dead (dead_rt _) | exact .dead (dead_bounds _ _ _ _) | (refine .dead (.halt _ ?_); exact True.intro) | exact .dead (dead_panic _) | exact .dead ((dead_stuck _).bind _) | exact .dead ((dead_rt _).bind _) | exact .dead ((dead_bounds _ _ _ _).bind _) | (refine .dead (Dead.bind (.halt _ ?_) _); exact True.intro))
  | some s =>
  cases h3 : args[1]? with
  | none => (first | exact .dead (dead_stuck _) | exact .dead (dead_rt _) | exact .dead (dead_bounds _ _ _ _) | (refine .dead (.halt _ ?_); exact True.intro) | exact .dead (dead_panic _) | exact .dead ((dead_stuck _).bind _) | exact .dead ((dead_rt _).bind _) | exact .dead ((dead_bounds _ _ _ _).bind _) | (refine .dead (Dead.bind (.halt _ ?_) _); exact True.intro))
  | some x =>
  obtain ⟨s', h2', hs⟩ := ha.get h2
  obtain ⟨x', h3', hx⟩ := ha.get h3
  rw [h2', h3']
  simp only
  refine (sr_underlying sType).bind fun ρ1 d d' hr1 hd => ?_
  obtain ⟨rfl, hd⟩ := hd
  cases d with
  | slice elem =>
    rcases hs.slice_inv with ⟨b, b', sl, sc, rfl, rfl, hb⟩ | hn
    rotate_left
    · cases s <;> first | (first | exact .dead (dead_stuck _) | exact .dead (dead_rt _) | exact .dead (dead_bounds _ _ _ _) | (refine .dead (.halt _ ?_); exact True.intro) | exact .dead (dead_panic _) | exact .dead ((dead_stuck _).bind _) | exact .dead ((dead_rt _).bind _) | exact .dead ((dead_bounds _ _ _ _).bind _) | (refine .dead (Dead.bind (.halt _ ?_) _); exact True.intro)) | exact absurd rfl (hn _ _ _)
    refine (sr_lenOf (hx.mono hr1)).bind fun ρ2 n n' hr2 e => ?_
    cases e
    refine (sr_sizeOf elem).bind fun ρ3 size size' hr3 e => ?_
    cases e
    refine (sr_firstCells _ _ (hx.mono (hr1.trans (hr2.trans hr3)))).bind fun ρ4 y y' hr4 hy => ?_
    rcases hb.mono (hr1.trans (hr2.trans (hr3.trans hr4))) with ⟨rfl, rfl⟩ | ⟨a, a', rfl, rfl, hab⟩ | ⟨⟨rfl, rfl⟩, x0, o0, s0, a0, rfl, rfl⟩
    · exact .pure (.int _ _)
    · exact (sr_storeCells 0 hab (by simpa using hy)).bind fun ρ6 _ _ hr6 _ => .pure (.int _ _)
    · exact (sr_storeFar (by simp) (by simpa using hy)).bind fun ρ6 _ _ hr6 _ => .pure (.int _ _)
  | _ => (first | exact .dead (dead_stuck _) | exact .dead (dead_rt _) | exact .dead (dead_bounds _ _ _ _) | (refine .dead (.halt _ ?_); exact True.intro) | exact .dead (dead_panic _) | exact .dead ((dead_stuck _).bind _) | exact .dead ((dead_rt _).bind _) | exact .dead ((dead_bounds _ _ _ _).bind _) | (refine .dead (Dead.bind (.halt _ ?_) _); exact True.intro))
/-- 'len' of what is no map and no channel. -/
theorem sr_len (ats : Array TypeId) (t : TypeId) (hk : ∀ d s, ats[0]? = some s → P.underlying s = some d → (∀ e b, d ≠ .chan e b) ∧ ∀ k v, d ≠ .map k v) {args args' : Array Value} (ha : VRs S ρ args args') : SR S P (fun ρ a b => VR S ρ a b) ρ (Builtin.len_ ats t args) (Builtin.len_ ats t args') := by
  unfold Builtin.len_
  cases h1 : ats[0]? with
  | none => (first | exact .dead (dead_stuck _) | exact .dead (dead_rt _) | exact .dead (dead_bounds _ _ _ _) | (refine .dead (.halt _ ?_); exact True.intro) | exact .dead (dead_panic _) | exact .dead ((dead_stuck _).bind _) | exact .dead ((dead_rt _).bind _) | exact .dead ((dead_bounds _ _ _ _).bind _) | (refine .dead (Dead.bind (.halt _ ?_) _); exact True.intro))
  | some sType =>
  cases h2 : args[0]? with
  | none => (first | exact .dead (dead_stuck _) | exact .dead (dead_rt _) | exact .dead (dead_bounds _ _ _ _) | (refine .dead (.halt _ ?_); exact True.intro) | exact .dead (dead_panic _) | exact .dead ((dead_stuck _).bind _) | exact .dead ((dead_rt _).bind _) | exact .dead ((dead_bounds _ _ _ _).bind _) | (refine .dead (Dead.bind (.halt _ ?_) _); exact True.intro))
  | some s =>
  obtain ⟨s', h2', hs⟩ := ha.get h2
  rw [h2']
  simp only
  refine (sr_underlying sType).bind fun ρ1 d d' hr1 hd => ?_
  obtain ⟨rfl, hd⟩ := hd
  obtain ⟨k1, k2⟩ := hk d sType h1 hd
  cases d with
  | chan e b => exact absurd rfl (k1 _ _)
  | map e b => exact absurd rfl (k2 _ _)
  | array n e => cases hs <;> exact .pure (.int _ _)
  | pointer arr =>
    have key : SR S P (fun ρ a b => VR S ρ a b) ρ1 (underlying arr >>= fun d => match d with | .array n _ => pure (goInt n) | _ => stuck "len: pointer to array expected") (underlying arr >>= fun d => match d with | .array n _ => pure (goInt n) | _ => stuck "len: pointer to array expected") := by
      refine (sr_underlying arr).bind fun ρ2 e e' hr2 he => ?_
      obtain ⟨rfl, he⟩ := he
      cases e <;> first | exact .pure (.int _ _) | (first | exact .dead (dead_stuck _) | exact .dead (dead_rt _) | exact .dead (dead_bounds _ _ _ _) | (refine .dead (.halt _ ?_); exact True.intro) | exact .dead (dead_panic _) | exact .dead ((dead_stuck _).bind _) | exact .dead ((dead_rt _).bind _) | exact .dead ((dead_bounds _ _ _ _).bind _) | (refine .dead (Dead.bind (.halt _ ?_) _); exact True.intro))
    cases hs <;> exact key
  | string => cases hs <;> first | exact .pure (.int _ _) | (first | exact .dead (dead_stuck _) | exact .dead (dead_rt _) | exact .dead (dead_bounds _ _ _ _) | (refine .dead (.halt _ ?_); exact True.intro) | exact .dead (dead_panic _) | exact .dead ((dead_stuck _).bind _) | exact .dead ((dead_rt _).bind _) | exact .dead ((dead_bounds _ _ _ _).bind _) | (refine .dead (Dead.bind (.halt _ ?_) _); exact True.intro))
  | slice e => cases hs <;> first | exact .pure (.int _ _) | (first | exact .dead (dead_stuck _) | exact .dead (dead_rt _) | exact .dead (dead_bounds _ _ _ _) | (refine .dead (.halt _ ?_); exact True.intro) | exact .dead (dead_panic _) | exact .dead ((dead_stuck _).bind _) | exact .dead ((dead_rt _).bind _) | exact .dead ((dead_bounds _ _ _ _).bind _) | (refine .dead (Dead.bind (.halt _ ?_) _); exact True.intro))
  | _ => cases hs <;> (first | exact .dead (dead_stuck _) | exact .dead (dead_rt _) | exact .dead (dead_bounds _ _ _ _) | (refine .dead (.halt _ ?_); exact True.intro) | exact .dead (dead_panic _) | exact .dead ((dead_stuck _).bind _) | exact .dead ((dead_rt _).bind _) | exact .dead ((dead_bounds _ _ _ _).bind _) | (refine .dead (Dead.bind (.halt _ ?_) _); exact True.intro))
theorem sr_cap (ats : Array TypeId) (t : TypeId) (hk : ∀ d s, ats[0]? = some s → P.underlying s = some d → ∃ e, d = .slice e) {args args' : Array Value} (ha : VRs S ρ args args') : SR S P (fun ρ a b => VR S ρ a b) ρ (Builtin.cap_ ats t args) (Builtin.cap_ ats t args') := by
  unfold Builtin.cap_
  cases h1 : ats[0]? with
  | none => (first | exact .dead (dead_stuck _) | exact .dead (dead_rt _) | exact .dead (dead_bounds _ _ _ _) | (refine .dead (.halt _ ?_); exact True.intro) | exact .dead (dead_panic _) | exact .dead ((dead_stuck _).bind _) | exact .dead ((dead_rt _).bind _) | exact .dead ((dead_bounds _ _ _ _).bind _) | (refine .dead (Dead.bind (.halt _ ?_) _); exact True.intro))
  | some sType =>
  cases h2 : args[0]? with
  | none => (first | exact .dead (dead_stuck _) | exact .dead (dead_rt _) | exact .dead (dead_bounds _ _ _ _) | (refine .dead (.halt _ ?_); exact True.intro) | exact .dead (dead_panic _) | exact .dead ((dead_stuck _).bind _) | exact .dead ((dead_rt _).bind _) | exact .dead ((dead_bounds _ _ _ _).bind _) | (refine .dead (Dead.bind (.halt _ ?_) _); exact True.intro))
  | some s =>
  obtain ⟨s', h2', hs⟩ := ha.get h2
  rw [h2']
  simp only
  refine (sr_underlying sType).bind fun ρ1 d d' hr1 hd => ?_
  obtain ⟨rfl, hd⟩ := hd
  obtain ⟨e, rfl⟩ := hk d sType h1 hd
  cases hs <;> first | exact .pure (.int _ _) | (first | exact .dead (dead_stuck _) | exact .dead (dead_rt _) | exact .dead (dead_bounds _ _ _ _) | (refine .dead (.halt _ ?_); exact True.intro) | exact .dead (dead_panic _) | exact .dead ((dead_stuck _).bind _) | exact .dead ((dead_rt _).bind _) | exact .dead ((dead_bounds _ _ _ _).bind _) | (refine .dead (Dead.bind (.halt _ ?_) _); exact True.intro))
/-- A meaning that gives a bare value, or ends badly. -/
inductive Mild : Sem Value → Prop
  | pure {v : Value} (h : Bare v) : Mild (.pure v)
  | dead {s : Sem Value} (h : Dead s) : Mild s
  | choose (q : Question) {k : Nat → Sem Value} (h : ∀ n, Mild (k n)) : Mild (.choose q k)
theorem Mild.rel {s : Sem Value} (h : Mild s) : SR S P (fun ρ a b => VR S ρ a b) ρ s s := by
  induction h with
  | pure h => exact .pure h.rel
  | dead h => exact .dead h
  | choose q _ ih => exact .choose q ih
theorem mild_arith (op : BinOp) (k : IntKind) (x y : Int) : Mild (Op.intArith op k x y) := by cases op <;> (first | exact .pure (.int _ _) | exact .pure (.bool _) | exact .pure (.string _) | exact .dead (dead_stuck _) | exact .dead (dead_rt _) | (refine .dead (.halt _ ?_); exact True.intro))
theorem mild_div (op : BinOp) (k : IntKind) (x y : Int) : Mild (Op.intDiv op k x y) := by
  unfold Op.intDiv
  split
  · (first | exact .pure (.int _ _) | exact .pure (.bool _) | exact .pure (.string _) | exact .dead (dead_stuck _) | exact .dead (dead_rt _) | (refine .dead (.halt _ ?_); exact True.intro))
  · cases op <;> (first | exact .pure (.int _ _) | exact .pure (.bool _) | exact .pure (.string _) | exact .dead (dead_stuck _) | exact .dead (dead_rt _) | (refine .dead (.halt _ ?_); exact True.intro))
theorem mild_cmp (op : BinOp) (x y : Int) : Mild (Op.intCmp op x y) := by cases op <;> (first | exact .pure (.int _ _) | exact .pure (.bool _) | exact .pure (.string _) | exact .dead (dead_stuck _) | exact .dead (dead_rt _) | (refine .dead (.halt _ ?_); exact True.intro))
theorem mild_bits (op : BinOp) (k : IntKind) (x y : Int) : Mild (Op.intBits op k x y) := by cases op <;> (first | exact .pure (.int _ _) | exact .pure (.bool _) | exact .pure (.string _) | exact .dead (dead_stuck _) | exact .dead (dead_rt _) | (refine .dead (.halt _ ?_); exact True.intro))
theorem mild_shift (op : BinOp) (k : IntKind) (x : Int) (yk : IntKind) (y : Int) : Mild (Op.shift op k x yk y) := by
  unfold Op.shift
  split
  · (first | exact .pure (.int _ _) | exact .pure (.bool _) | exact .pure (.string _) | exact .dead (dead_stuck _) | exact .dead (dead_rt _) | (refine .dead (.halt _ ?_); exact True.intro))
  · cases op <;> (first | exact .pure (.int _ _) | exact .pure (.bool _) | exact .pure (.string _) | exact .dead (dead_stuck _) | exact .dead (dead_rt _) | (refine .dead (.halt _ ?_); exact True.intro))
theorem mild_string (op : BinOp) (x y : ByteArray) : Mild (Op.stringOp op x y) := by
  unfold Op.stringOp
  cases op <;> first | (first | exact .pure (.int _ _) | exact .pure (.bool _) | exact .pure (.string _) | exact .dead (dead_stuck _) | exact .dead (dead_rt _) | (refine .dead (.halt _ ?_); exact True.intro)) | (simp only; split <;> (first | exact .pure (.int _ _) | exact .pure (.bool _) | exact .pure (.string _) | exact .dead (dead_stuck _) | exact .dead (dead_rt _) | (refine .dead (.halt _ ?_); exact True.intro)))
theorem sr_max2 {x x' y y' : Value} (hx : VR S ρ x x') (hy : VR S ρ y y') : SR S P (fun ρ a b => VR S ρ a b) ρ (Builtin.max2 x y) (Builtin.max2 x' y') := by
  have dead : (¬ ∃ k n m, x = .int k n ∧ ∃ k', y = .int k' m) → (¬ ∃ k n m, x = .float k n ∧ ∃ k', y = .float k' m) → (¬ ∃ s t, x = .string s ∧ y = .string t) → Dead (Builtin.max2 x y) := fun h1 h2 h3 => by
    unfold Builtin.max2
    split
    · exact absurd ⟨_, _, _, rfl, _, rfl⟩ h1
    · exact absurd ⟨_, _, _, rfl, _, rfl⟩ h2
    · exact absurd ⟨_, _, rfl, rfl⟩ h3
    · exact .halt _ trivial
    · exact .halt _ trivial
    · exact dead_stuck _
  by_cases h1 : ∃ k n m, x = .int k n ∧ ∃ k', y = .int k' m
  · obtain ⟨k, n, m, rfl, k', rfl⟩ := h1
    cases hx; cases hy
    exact .pure (.int _ _)
  by_cases h2 : ∃ k n m, x = .float k n ∧ ∃ k', y = .float k' m
  · obtain ⟨k, n, m, rfl, k', rfl⟩ := h2
    cases hx
  by_cases h3 : ∃ s t, x = .string s ∧ y = .string t
  · obtain ⟨s, t, rfl, rfl⟩ := h3
    cases hx; cases hy
    unfold Builtin.max2
    refine SR.bind (Q := (fun ρ a b => VR S ρ a b)) ((mild_string _ _ _).rel) fun _ _ _ _ h => (sr_bool h).bind fun _ _ _ _ e => ?_
    cases e
    refine .pure ?_
    split <;> exact .string _
  exact .dead (dead h1 h2 h3)
theorem sr_min2 {x x' y y' : Value} (hx : VR S ρ x x') (hy : VR S ρ y y') : SR S P (fun ρ a b => VR S ρ a b) ρ (Builtin.min2 x y) (Builtin.min2 x' y') := by
  have dead : (¬ ∃ k n m, x = .int k n ∧ ∃ k', y = .int k' m) → (¬ ∃ k n m, x = .float k n ∧ ∃ k', y = .float k' m) → (¬ ∃ s t, x = .string s ∧ y = .string t) → Dead (Builtin.min2 x y) := fun h1 h2 h3 => by
    unfold Builtin.min2
    split
    · exact absurd ⟨_, _, _, rfl, _, rfl⟩ h1
    · exact absurd ⟨_, _, _, rfl, _, rfl⟩ h2
    · exact absurd ⟨_, _, rfl, rfl⟩ h3
    · exact .halt _ trivial
    · exact .halt _ trivial
    · exact dead_stuck _
  by_cases h1 : ∃ k n m, x = .int k n ∧ ∃ k', y = .int k' m
  · obtain ⟨k, n, m, rfl, k', rfl⟩ := h1
    cases hx; cases hy
    exact .pure (.int _ _)
  by_cases h2 : ∃ k n m, x = .float k n ∧ ∃ k', y = .float k' m
  · obtain ⟨k, n, m, rfl, k', rfl⟩ := h2
    cases hx
  by_cases h3 : ∃ s t, x = .string s ∧ y = .string t
  · obtain ⟨s, t, rfl, rfl⟩ := h3
    cases hx; cases hy
    unfold Builtin.min2
    refine SR.bind (Q := (fun ρ a b => VR S ρ a b)) ((mild_string _ _ _).rel) fun _ _ _ _ h => (sr_bool h).bind fun _ _ _ _ e => ?_
    cases e
    refine .pure ?_
    split <;> exact .string _
  exact .dead (dead h1 h2 h3)
theorem sr_foldM {f : Value → Value → Sem Value} (hf : ∀ (ρ : Ren) x x' y y', VR S ρ x x' → VR S ρ y y' → SR S P (fun ρ a b => VR S ρ a b) ρ (f x y) (f x' y')) : ∀ {ρ : Ren} {l l' : List Value} {x x' : Value}, VRs S ρ l.toArray l'.toArray → VR S ρ x x' → SR S P (fun ρ a b => VR S ρ a b) ρ (l.foldlM f x) (l'.foldlM f x')
  | _, [], [], _, _, _, hx => .pure hx
  | _, [], v :: l', _, _, h, _ => by have := h.1; simp at this
  | _, v :: l, [], _, _, h, _ => by have := h.1; simp at this
  | ρ, v :: l, v' :: l', x, x', h, hx => by
    simp only [List.foldlM_cons]
    exact (hf ρ x x' v v' hx (h.2 0 v v' (by simp) (by simp))).bind fun ρ1 a b hr hab => sr_foldM hf (VRs.mono ⟨by have := h.1; simpa using this, fun j u u' h1 h2 => h.2 (j + 1) u u' (by simpa using h1) (by simpa using h2)⟩ hr) hab
theorem sr_max (ats : Array TypeId) (t : TypeId) {args args' : Array Value} (ha : VRs S ρ args args') : SR S P (fun ρ a b => VR S ρ a b) ρ (Builtin.max_ ats t args) (Builtin.max_ ats t args') := by
  obtain ⟨l⟩ := args
  obtain ⟨l'⟩ := args'
  cases l <;> cases l' <;> first | (first | exact .dead (dead_stuck _) | exact .dead (dead_rt _) | exact .dead (dead_bounds _ _ _ _) | (refine .dead (.halt _ ?_); exact True.intro) | exact .dead (dead_panic _) | exact .dead ((dead_stuck _).bind _) | exact .dead ((dead_rt _).bind _) | exact .dead ((dead_bounds _ _ _ _).bind _) | (refine .dead (Dead.bind (.halt _ ?_) _); exact True.intro)) | (have := ha.1; simp at this; done) | skip
  rename_i v l v' l'
  exact sr_foldM (fun ρ x x' y y' => sr_max2) ⟨by have := ha.1; simpa using this, fun j u u' h1 h2 => ha.2 (j + 1) u u' (by simpa using h1) (by simpa using h2)⟩ (ha.2 0 v v' (by simp) (by simp))
theorem sr_min (ats : Array TypeId) (t : TypeId) {args args' : Array Value} (ha : VRs S ρ args args') : SR S P (fun ρ a b => VR S ρ a b) ρ (Builtin.min_ ats t args) (Builtin.min_ ats t args') := by
  obtain ⟨l⟩ := args
  obtain ⟨l'⟩ := args'
  cases l <;> cases l' <;> first | (first | exact .dead (dead_stuck _) | exact .dead (dead_rt _) | exact .dead (dead_bounds _ _ _ _) | (refine .dead (.halt _ ?_); exact True.intro) | exact .dead (dead_panic _) | exact .dead ((dead_stuck _).bind _) | exact .dead ((dead_rt _).bind _) | exact .dead ((dead_bounds _ _ _ _).bind _) | (refine .dead (Dead.bind (.halt _ ?_) _); exact True.intro)) | (have := ha.1; simp at this; done) | skip
  rename_i v l v' l'
  exact sr_foldM (fun ρ x x' y y' => sr_min2) ⟨by have := ha.1; simpa using this, fun j u u' h1 h2 => ha.2 (j + 1) u u' (by simpa using h1) (by simpa using h2)⟩ (ha.2 0 v v' (by simp) (by simp))
end
end Go.Proofs.Yticdjkkcfdbdcaa
