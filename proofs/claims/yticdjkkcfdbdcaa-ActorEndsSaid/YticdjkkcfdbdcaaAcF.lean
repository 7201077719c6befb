/- Maps whose keys are ints: deletion; the operations of a walk. No conditions but those named. -/
import Derived.Test.YticdjkkcfdbdcaaAcM
import Derived.Test.YticdjkkcfdbdcaaPhR
import Derived.Test.YticdjkkcfdbdcaaAcR
import Derived.Laws.Tables
import Derived.Deep.DeepCutAuto
import Derived.BigQuiet
import Derived.BigRegion
import Derived.Deep.QuietTactic
import Derived.StillTailTactics
import Derived.WalkSmall
import Derived.Laws.ResultCell
namespace Go.Proofs.Yticdjkkcfdbdcaa
open Go.RowKit Go.Conc Go.ConcN
theorem getI_del_other (l : Assoc) {k j : Int} (h : j ≠ k) : getI (delI l k) j = getI l j := by
  induction l with
  | nil => rfl
  | cons p l ih =>
    unfold delI
    split
    · rename_i e
      simp only [getI]
      rw [if_neg (fun e2 => h (e2.symm.trans e))]
    · simp only [getI, ih]
theorem getI_none {l : Assoc} {k : Int} (h : k ∉ l.map (·.1)) : getI l k = none := by
  induction l with
  | nil => rfl
  | cons p l ih =>
    simp only [List.map_cons, List.mem_cons, not_or] at h
    simp only [getI]
    rw [if_neg (fun e => h.1 e.symm)]
    exact ih h.2
theorem getI_del_same {l : Assoc} (hn : (l.map (·.1)).Nodup) (k : Int) : getI (delI l k) k = none := by
  induction l with
  | nil => rfl
  | cons p l ih =>
    rw [List.map_cons, List.nodup_cons] at hn
    unfold delI
    split
    · rename_i e
      exact getI_none (e ▸ hn.1)
    · rename_i e
      simp only [getI, if_neg e]
      exact ih hn.2
theorem mem_putI {l : Assoc} {k : Int} {v : Value} {p : Int × Value} (h : p ∈ putI l k v) : p = (k, v) ∨ p ∈ l := by
  induction l with
  | nil => simp [putI] at h; exact .inl h
  | cons q l ih =>
    unfold putI at h
    split at h
    · rcases List.mem_cons.1 h with h | h
      · exact .inl h
      · exact .inr (List.mem_cons_of_mem _ h)
    · rcases List.mem_cons.1 h with h | h
      · exact .inr (h ▸ List.mem_cons_self ..)
      · exact (ih h).imp id (List.mem_cons_of_mem _)
theorem mem_delI {l : Assoc} {k : Int} {p : Int × Value} (h : p ∈ delI l k) : p ∈ l := by
  induction l with
  | nil => simp [delI] at h
  | cons q l ih =>
    unfold delI at h
    split at h
    · exact List.mem_cons_of_mem _ h
    · rcases List.mem_cons.1 h with h | h
      · exact h ▸ List.mem_cons_self ..
      · exact List.mem_cons_of_mem _ (ih h)
theorem nodup_putI {l : Assoc} (hn : (l.map (·.1)).Nodup) (k : Int) (v : Value) : ((putI l k v).map (·.1)).Nodup := by
  induction l with
  | nil => simp [putI]
  | cons q l ih =>
    rw [List.map_cons, List.nodup_cons] at hn
    unfold putI
    split
    · rename_i e
      rw [List.map_cons, List.nodup_cons]
      exact ⟨e ▸ hn.1, hn.2⟩
    · rename_i e
      rw [List.map_cons, List.nodup_cons]
      refine ⟨fun hm => ?_, ih hn.2⟩
      obtain ⟨p, hp, he⟩ := List.mem_map.1 hm
      rcases mem_putI hp with rfl | hp
      · exact e he.symm
      · exact hn.1 (he ▸ List.mem_map.2 ⟨p, hp, rfl⟩)
theorem nodup_delI {l : Assoc} (hn : (l.map (·.1)).Nodup) (k : Int) : ((delI l k).map (·.1)).Nodup := by
  induction l with
  | nil => exact List.nodup_nil
  | cons q l ih =>
    rw [List.map_cons, List.nodup_cons] at hn
    unfold delI
    split
    · exact hn.2
    · rw [List.map_cons, List.nodup_cons]
      refine ⟨fun hm => hn.1 ?_, ih hn.2⟩
      obtain ⟨p, hp, he⟩ := List.mem_map.1 hm
      exact he ▸ List.mem_map.2 ⟨p, mem_delI hp, rfl⟩
theorem getI_mem {l : Assoc} {k : Int} {v : Value} (h : getI l k = some v) : (k, v) ∈ l := by
  induction l with
  | nil => cases h
  | cons q l ih =>
    simp only [getI] at h
    split at h
    · rename_i e
      cases h
      subst e
      exact List.mem_cons_self ..
    · exact List.mem_cons_of_mem _ (ih h)
theorem mem_getI {l : Assoc} (hn : (l.map (·.1)).Nodup) {p : Int × Value} (h : p ∈ l) : getI l p.1 = some p.2 := by
  induction l with
  | nil => cases h
  | cons q l ih =>
    rw [List.map_cons, List.nodup_cons] at hn
    simp only [getI]
    rcases List.mem_cons.1 h with rfl | h
    · rw [if_pos rfl]
    · rw [if_neg (fun e => hn.1 (by rw [e]; exact List.mem_map.2 ⟨p, h, rfl⟩))]
      exact ih hn.2 h
theorem EntI.del : ∀ {es : List MapEntry} {l : Assoc} {k : Int} {n : Nat}, EntI es l → posI l k = some n → EntI (es.eraseIdx n) (delI l k)
  | [], _ :: _, _, _, h, _ => by cases h
  | _ :: _, [], _, _, h, _ => by cases h
  | [], [], _, _, _, h => by cases h
  | e :: es, p :: l, k, n, h, hp => by
    simp only [EntI, List.map_cons, List.cons.injEq] at h
    obtain ⟨h1, h3⟩ := h
    simp only [posI] at hp
    by_cases e0 : p.1 = k
    · rw [if_pos e0] at hp
      cases hp
      simp only [delI, if_pos e0, List.eraseIdx_cons_zero]
      exact h3
    · rw [if_neg e0] at hp
      obtain ⟨m, hm, rfl⟩ := Option.map_eq_some_iff.1 hp
      simp only [delI, if_neg e0, List.eraseIdx_cons_succ, EntI, List.map_cons, h1]
      rw [show List.map (fun e : MapEntry => (e.key, e.val)) (es.eraseIdx m) = _ from EntI.del (es := es) h3 hm]
theorem delI_none {l : Assoc} {k : Int} (h : getI l k = none) : delI l k = l := by
  induction l with
  | nil => rfl
  | cons p l ih =>
    simp only [getI] at h
    split at h
    · cases h
    · rename_i e
      simp only [delI, if_neg e, ih h]
/-- A map's block holds other entries. -/
def setMap (w : World) (r : Nat) (es : Array MapEntry) (c : Nat) : World := { w with heap := w.heap.setIfInBounds r (.map es c) }
section
variable {P : Program} {w w' : World} {r b : Nat} {l : Assoc} {t kt et : TypeId} {d : IntKind} {z : Value}
theorem setMap_size (w : World) (r : Nat) (es : Array MapEntry) (c : Nat) : (setMap w r es c).heap.size = w.heap.size := by simp [setMap]
theorem setMap_ne (w : World) {r b : Nat} (es : Array MapEntry) (c : Nat) (h : b ≠ r) : (setMap w r es c).heap[b]? = w.heap[b]? := by
  simp only [setMap, Array.getElem?_setIfInBounds, if_neg (Ne.symm h)]
theorem setMap_eq {es : Array MapEntry} {c : Nat} (hr : r < w.heap.size) (he : EntI es.toList l) : MapI (setMap w r es c) r l := ⟨es, c, by simp [setMap, hr], he⟩
theorem MapI.lt (h : MapI w r l) : r < w.heap.size := by
  obtain ⟨es, c, h, _⟩ := h
  exact (Array.getElem?_eq_some_iff.1 h).1
theorem MapI.keep (h : MapI w r l) (hk : w'.heap[r]? = w.heap[r]?) : MapI w' r l := by
  obtain ⟨es, c, h1, h2⟩ := h
  exact ⟨es, c, hk.trans h1, h2⟩
theorem MapI.not_cells (h : MapI w r l) {x : Array Value} {e : TypeId} {fz : Nat × Nat} (hb : w.heap[b]? = some (.cells x e fz)) : b ≠ r := fun e => by
  subst e
  obtain ⟨es, c, h1, _⟩ := h
  rw [h1] at hb
  cases hb
theorem run_updateI' (ht : P.underlying t = some (.map kt et)) (hk : P.underlying kt = some (.int d)) (h : MapI w r l) (k : Int) (v : Value) :
    ∃ es' c', EntI es'.toList (putI l k v) ∧ (Instr.mapUpdate t (.map (some r)) (.int .i64 k) v).run P w = .ok () (setMap w r es' c') := run_updateI ht hk h k v
theorem run_deleteI (ht : P.underlying t = some (.map kt et)) (hk : P.underlying kt = some (.int d)) (h : MapI w r l) (k : Int) (ty : TypeId) (ats : Array TypeId) (ha : ats[0]? = some t) :
    ∃ es' c', EntI es'.toList (delI l k) ∧ (Builtin.delete_ ats ty #[.map (some r), .int .i64 k]).run P w = .ok (.tuple #[]) (setMap w r es' c') := by
  obtain ⟨es, clock, hw, he⟩ := h
  have hf := he.find (d := d) k 0
  rcases posI_get l k with ⟨h1, h2⟩ | ⟨n, u, h1, h2, _⟩
  · rw [h1, h2] at hf
    have q1 := fun b w => run_checkI (P := P) (w := w) hk b k
    have q2 := fun w => run_findI (P := P) hk k hf w
    refine ⟨es, clock, by rw [delI_none h2]; exact he, ?_⟩
    unfold Builtin.delete_
    simp [go_sem, ha, run_und ht, run_getObj hw, q1, q2, run_setObj hw, setMap]
  · rw [h1, h2] at hf
    have q1 := fun b w => run_checkI (P := P) (w := w) hk b k
    have q2 := fun w => run_findI (P := P) hk k hf w
    refine ⟨es.eraseIdxIfInBounds n, clock, by rw [Array.toList_eraseIdxIfInBounds]; exact he.del h1, ?_⟩
    unfold Builtin.delete_
    simp [go_sem, ha, run_und ht, run_getObj hw, q1, q2, run_setObj hw, setMap]
theorem q_lookup {e : Operand → Value} {o : Oper} {x y : Operand} (ht : P.underlying t = some (.map kt et)) (hk : P.underlying kt = some (.int d)) (hz : ∀ w, (zeroValue et).run P w = .ok z w) (h : MapI w r l) {k : Int}
    (hop : o.op = .lookup t x y false) (hx : e x = .map (some r)) (hy : e y = .int .i64 k) : (execOp e o).run P w = .ok (.value ((getI l k).getD z)) w := by
  have := run_lookupI ht hk hz h k
  simp [go_sem, hop, hx, hy, execOp, this]
theorem q_lookupOk {e : Operand → Value} {o : Oper} {x y : Operand} (ht : P.underlying t = some (.map kt et)) (hk : P.underlying kt = some (.int d)) (hz : ∀ w, (zeroValue et).run P w = .ok z w) (h : MapI w r l) {k : Int}
    (hop : o.op = .lookup t x y true) (hx : e x = .map (some r)) (hy : e y = .int .i64 k) : (execOp e o).run P w = .ok (.value (.tuple #[(getI l k).getD z, .bool (getI l k).isSome])) w := by
  have := run_lookupOkI ht hk hz h k
  simp [go_sem, hop, hx, hy, execOp, this]
theorem q_update {e : Operand → Value} {o : Oper} {x y u : Operand} {v : Value} (ht : P.underlying t = some (.map kt et)) (hk : P.underlying kt = some (.int d)) (h : MapI w r l) {k : Int}
    (hop : o.op = .mapUpdate t x y u) (hx : e x = .map (some r)) (hy : e y = .int .i64 k) (hu : e u = v) : ∃ es' c', EntI es'.toList (putI l k v) ∧ (execOp e o).run P w = .ok .skip (setMap w r es' c') := by
  obtain ⟨es', c', h1, h2⟩ := run_updateI' ht hk h k v
  refine ⟨es', c', h1, ?_⟩
  simp [go_sem, hop, hx, hy, hu, execOp, h2]
theorem q_delete {e : Operand → Value} {o : Oper} {x y : Operand} {ats : Array TypeId} (ht : P.underlying t = some (.map kt et)) (hk : P.underlying kt = some (.int d)) (h : MapI w r l) {k : Int} (ha : ats[0]? = some t)
    (hop : o.op = .call { callee := .builtin .delete, args := #[x, y], argTypes := ats }) (hx : e x = .map (some r)) (hy : e y = .int .i64 k) : ∃ es' c', EntI es'.toList (delI l k) ∧ (execOp e o).run P w = .ok (.value (.tuple #[])) (setMap w r es' c') := by
  obtain ⟨es', c', h1, h2⟩ := run_deleteI ht hk h k o.type ats ha
  refine ⟨es', c', h1, ?_⟩
  unfold execOp
  simp only [hop, resolve, invoke, builtin, Sem.run_bind, Sem.run_pure, Result.andThen_ok, List.map_toArray, List.map_cons, List.map_nil, hx, hy, h2]
end
end Go.Proofs.Yticdjkkcfdbdcaa

/- Single operations on actors, rules, letters. No conditions but those named. -/
namespace Go.Proofs.Yticdjkkcfdbdcaa
open Go.Conc Go.ConcN Go.RowKit
def aggX (x : LetR) : Value := .agg (cellsX x).toArray
def aggRu (r : RuleR) : Value := .agg (cellsRu r).toArray
def ru0 : RuleR := ⟨0, 0, 0, 0, 0, 0, 0⟩
def le0 : LetR := ⟨0, 0, 0, 0⟩
theorem field_ac (g k : Nat) (w : World) : ∀ n, n < 4 → (Instr.fieldAt 140 (.pointer (some ⟨g, k, none⟩)) n).run Try.prog w = .ok (.pointer (some ⟨g, k + n, none⟩)) w
  | 0, _ => by kernel_rfl
  | 1, _ => by kernel_rfl
  | 2, _ => by kernel_rfl
  | 3, _ => by kernel_rfl
  | n + 4, h => absurd h (by omega)
theorem field_le (g k : Nat) (w : World) : ∀ n, n < 4 → (Instr.fieldAt 49 (.pointer (some ⟨g, k, none⟩)) n).run Try.prog w = .ok (.pointer (some ⟨g, k + n, none⟩)) w
  | 0, _ => by kernel_rfl
  | 1, _ => by kernel_rfl
  | 2, _ => by kernel_rfl
  | 3, _ => by kernel_rfl
  | n + 4, h => absurd h (by omega)
theorem field_ru (g k : Nat) (w : World) : ∀ n, n < 7 → (Instr.fieldAt 54 (.pointer (some ⟨g, k, none⟩)) n).run Try.prog w = .ok (.pointer (some ⟨g, k + n, none⟩)) w
  | 0, _ => by kernel_rfl
  | 1, _ => by kernel_rfl
  | 2, _ => by kernel_rfl
  | 3, _ => by kernel_rfl
  | 4, _ => by kernel_rfl
  | 5, _ => by kernel_rfl
  | 6, _ => by kernel_rfl
  | n + 7, h => absurd h (by omega)
theorem zero_ru (w : World) : (zeroValue 54).run Try.prog w = .ok (aggRu ru0) w := by kernel_rfl
theorem zero_les (w : World) : (zeroValue 44).run Try.prog w = .ok (.slice none 0 0) w := by kernel_rfl
section
variable {e : Operand → Value} {o : Oper} {w : World} {x y : Operand}
theorem a_mv {v : Value} (hop : o.op = .move x) (hv : e x = v) : (execOp e o).run Try.prog w = .ok (.value v) w := by rw [← hv]; exact q_move hop
theorem a_asg {v : Value} (hop : o.op = .assign x) (hv : e x = v) : (execOp e o).run Try.prog w = .ok (.value v) w := by rw [← hv]; simp [go_sem, hop, execOp]
theorem a_fac {g k n r : Nat} (hop : o.op = .fieldAddr 140 x n) (hx : e x = .pointer (some ⟨g, k, none⟩)) (hn : n < 4) (hr : k + n = r) : (execOp e o).run Try.prog w = .ok (.value (.pointer (some ⟨g, r, none⟩))) w := by subst hr; exact q_field hop hx fun w => field_ac g k w n hn
theorem a_fle {g k n r : Nat} (hop : o.op = .fieldAddr 49 x n) (hx : e x = .pointer (some ⟨g, k, none⟩)) (hn : n < 4) (hr : k + n = r) : (execOp e o).run Try.prog w = .ok (.value (.pointer (some ⟨g, r, none⟩))) w := by subst hr; exact q_field hop hx fun w => field_le g k w n hn
theorem a_fru {g k n r : Nat} (hop : o.op = .fieldAddr 54 x n) (hx : e x = .pointer (some ⟨g, k, none⟩)) (hn : n < 7) (hr : k + n = r) : (execOp e o).run Try.prog w = .ok (.value (.pointer (some ⟨g, r, none⟩))) w := by subst hr; exact q_field hop hx fun w => field_ru g k w n hn
theorem a_index {t elem : TypeId} {b q n c j sz r : Nat} (hop : o.op = .indexAddr t x y) (h1 : e x = .slice (some ⟨b, q, none⟩) n c) (h2 : e y = .int .i64 j) (hj : j < n) (ht : Try.prog.underlying t = some (.slice elem)) (hsz : ∀ w, (Go.sizeOf elem).run Try.prog w = .ok sz w) (hr : q + j * sz = r) :
    (execOp e o).run Try.prog w = .ok (.value (.pointer (some ⟨b, r, none⟩))) w := by
  subst hr
  have := (opv_index (P := Try.prog) (fn := 0) (k := LK.none) (w := w) hop h1 h2 (by omega) (by omega) ht hsz).1
  rw [show ((⟨b, q, none⟩ : Addr).add (((j : Nat) : Int).toNat * sz)) = ⟨b, q + j * sz, none⟩ by simp [Addr.add_lit']] at this
  exact this
theorem a_loadX {b q : Nat} {z : LetR} (hop : o.op = .load 49 x) (hx : e x = .pointer (some ⟨b, q, none⟩)) (h : ∀ j v, (cellsX z)[j]? = some v → w.cell? ⟨b, q + j, none⟩ = some v) : (execOp e o).run Try.prog w = .ok (.value (aggX z)) w := by
  have h0 := h 0 _ rfl
  have h1 := h 1 _ rfl
  have h2 := h 2 _ rfl
  have h3 := h 3 _ rfl
  simp only [Nat.add_zero] at h0
  simp [go_sem, hop, hx, h0, h1, h2, h3, execOp, Instr.loadAt, aggX, cellsX]
theorem a_loadRu {b q : Nat} {z : RuleR} (hop : o.op = .load 54 x) (hx : e x = .pointer (some ⟨b, q, none⟩)) (h : ∀ j v, (cellsRu z)[j]? = some v → w.cell? ⟨b, q + j, none⟩ = some v) : (execOp e o).run Try.prog w = .ok (.value (aggRu z)) w := by
  have h0 := h 0 _ rfl
  have h1 := h 1 _ rfl
  have h2 := h 2 _ rfl
  have h3 := h 3 _ rfl
  have h4 := h 4 _ rfl
  have h5 := h 5 _ rfl
  have h6 := h 6 _ rfl
  simp only [Nat.add_zero] at h0
  simp [go_sem, hop, hx, h0, h1, h2, h3, h4, h5, h6, execOp, Instr.loadAt, aggRu, cellsRu]
theorem a_allocRu (hop : o.op = .alloc 54) : (execOp e o).run Try.prog w = .ok (.value (.pointer (some ⟨w.heap.size, 0, none⟩))) (w.alloc (.cells (cellsRu ru0).toArray 54)) := by
  simp [go_sem, hop, execOp, cellsRu, ru0]
theorem a_setRu {g : Nat} {z : RuleR} {old : Array Value} (hop : o.op = .store 54 x y) (hx : e x = .pointer (some ⟨g, 0, none⟩)) (hy : e y = aggRu z) (hg : w.heap[g]? = some (.cells old 54 (0, 0))) (hold : old.size = 7) :
    (execOp e o).run Try.prog w = .ok .skip (w.setRow g (cellsRu z).toArray) := by
  unfold execOp
  simp only [hop, hx, hy, aggRu, Instr.storeAt, Instr.sureAddr, Sem.run_bind, Sem.run_pure, Result.andThen_ok, run_storeVar_row (P := Try.prog) w g 54 54 old (cellsRu z).toArray hg (by kernel_rfl) (by rw [hold]; rfl) (by simp [cellsRu]; exact ⟨rfl, rfl, rfl, rfl, rfl, rfl, rfl⟩)]
theorem a_setX {g : Nat} {z : LetR} {old : Array Value} (hop : o.op = .store 49 x y) (hx : e x = .pointer (some ⟨g, 0, none⟩)) (hy : e y = aggX z) (hg : w.heap[g]? = some (.cells old 49 (0, 0))) (hold : old.size = 4) :
    (execOp e o).run Try.prog w = .ok .skip (w.setRow g (cellsX z).toArray) := by
  unfold execOp
  simp only [hop, hx, hy, aggX, Instr.storeAt, Instr.sureAddr, Sem.run_bind, Sem.run_pure, Result.andThen_ok, run_storeVar_row (P := Try.prog) w g 49 49 old (cellsX z).toArray hg (by kernel_rfl) (by rw [hold]; rfl) (by simp [cellsX]; exact ⟨rfl, rfl, rfl, rfl⟩)]
theorem a_sliceX {t : Tmp} {z : LetR} (hop : o.op = .buildSlice 44 1 #[(0, .tmp t)]) (h1 : e (.tmp t) = aggX z) : (execOp e o).run Try.prog w = .ok (.value (.slice (some ⟨w.heap.size, 0, none⟩) 1 1)) (w.alloc (.cells (cellsX z).toArray 49)) := by
  simp [go_sem, hop, h1, execOp, aggX, cellsX]
theorem a_buildX {a b c d : Int} {x1 x2 x3 x4 : Tmp} (hop : o.op = .build 49 #[(0, .tmp x1), (1, .tmp x2), (2, .tmp x3), (3, .tmp x4)]) (h1 : e (.tmp x1) = .int .i64 a) (h2 : e (.tmp x2) = .int .i64 b) (h3 : e (.tmp x3) = .int .i64 c) (h4 : e (.tmp x4) = .int .i64 d) :
    (execOp e o).run Try.prog w = .ok (.value (aggX ⟨a, b, c, d⟩)) w := by
  simp [go_sem, hop, h1, h2, h3, h4, execOp, aggX, cellsX]
theorem a_add {t yt : TypeId} {a b : Int} (hop : o.op = .binOp .add t x y yt) (hx : e x = .int .i64 a) (hy : e y = .int .i64 b) (ht : Try.prog.underlying t = some (.int .i64)) : (execOp e o).run Try.prog w = .ok (.value (.int .i64 (w64 (a + b)))) w := by
  have := (opv_add (P := Try.prog) (fn := 0) (k := LK.none) (w := w) hop hx hy ht).1
  rw [w64_wrap] at this; exact this
theorem a_mul {t yt : TypeId} {a b : Int} (hop : o.op = .binOp .mul t x y yt) (hx : e x = .int .i64 a) (hy : e y = .int .i64 b) (ht : Try.prog.underlying t = some (.int .i64)) : (execOp e o).run Try.prog w = .ok (.value (.int .i64 (w64 (a * b)))) w := by
  rw [← w64_wrap]
  simp [go_sem, hop, hx, hy, ht, execOp]
theorem a_ext {t : Tmp} {i : Nat} {vs : Array Value} {v : Value} (hop : o.op = .extract (.tmp t) i) (ht : e (.tmp t) = .tuple vs) (hv : vs[i]? = some v) : (execOp e o).run Try.prog w = .ok (.value v) w := by
  simp [go_sem, hop, ht, execOp, hv]
theorem a_lookRu {r : Nat} {l : Assoc} {k : Int} (h : MapI w r l) (hop : o.op = .lookup 137 x y true) (hx : e x = .map (some r)) (hy : e y = .int .i64 k) : (execOp e o).run Try.prog w = .ok (.value (.tuple #[(getI l k).getD (aggRu ru0), .bool (getI l k).isSome])) w :=
  q_lookupOk Try.underlying137 Try.underlying3 zero_ru h hop hx hy
theorem a_lookC {r : Nat} {l : Assoc} {k : Int} (h : MapI w r l) (hop : o.op = .lookup 138 x y false) (hx : e x = .map (some r)) (hy : e y = .int .i64 k) : (execOp e o).run Try.prog w = .ok (.value ((getI l k).getD (.slice none 0 0))) w :=
  q_lookup Try.underlying138 Try.underlying3 zero_les h hop hx hy
end
theorem setCell_same (w w' : World) (p : Addr) (v : Value) (h : w'.heap = w.heap) : (w'.setCell p v).heap = (w.setCell p v).heap := by simp [World.setCell, h]
end Go.Proofs.Yticdjkkcfdbdcaa

/- The regions of (*Actor).Take that draw their order, alone. No conditions but that what is read is there. -/
namespace Go.Proofs.Yticdjkkcfdbdcaa
open Go.Conc Go.ConcN Go.RowKit
/-- What was there is there. -/
def Eqb (W w : World) : Prop := ∀ b, b < W.heap.size → w.heap[b]? = W.heap[b]?
theorem Eqb.cell {W w : World} (h : Eqb W w) {p : Addr} (hp : p.block < W.heap.size) : w.cell? p = W.cell? p := World.cell?_of_block (h _ hp)
theorem cell_lt {W : World} {p : Addr} {v : Value} (h : W.cell? p = some v) : p.block < W.heap.size := by
  unfold World.cell? at h
  by_cases e : p.block < W.heap.size
  · exact e
  · rw [Array.getElem?_eq_none (by omega)] at h
    simp at h
theorem Eqb.at {W w : World} (h : Eqb W w) {p : Addr} {v : Value} (hc : W.cell? p = some v) : w.cell? p = some v := (h.cell (cell_lt hc)).trans hc
theorem Eqb.alloc (W : World) (o : Obj) {w : World} (h : w.heap = (W.alloc o).heap) : Eqb W w := fun b hb => by rw [h]; exact Below.heap_alloc W o b hb
theorem setRow_eq (w : World) {g : Nat} {old cs : Array Value} {t : TypeId} {fz : Nat × Nat} (W : World) (hw : w.heap = (W.alloc (.cells old t fz)).heap) (hg : g = W.heap.size) : (w.setRow g cs).heap = (W.alloc (.cells cs t fz)).heap := by
  subst hg
  have e : w.heap = W.heap.push (.cells old t fz) := hw
  show (w.setRow W.heap.size cs).heap = W.heap.push (.cells cs t fz)
  apply Array.ext_getElem?
  intro i
  by_cases h : i = W.heap.size
  · subst h
    rw [setRow_heap w _ old cs t fz (by rw [e]; exact Array.getElem?_push_size)]
    exact Array.getElem?_push_size.symm
  · have : (w.setRow W.heap.size cs).heap[i]? = w.heap[i]? := by
      unfold World.setRow
      simp only [Array.getElem?_modify]
      rw [if_neg (fun e => h e.symm)]
    rw [this, e, Array.getElem?_push, Array.getElem?_push, if_neg h, if_neg h]
def VT1 (g og xb rb : Nat) (kd : Int) (r : RuleR) (is : Bool) : Nat → Value := fun i => match i with
  | 0 => .pointer (some ⟨g, og, none⟩)
  | 1 => .pointer (some ⟨g, og, none⟩)
  | 2 => .pointer (some ⟨g, og + 1, none⟩)
  | 3 => .map (some rb)
  | 4 => .pointer (some ⟨xb, 2, none⟩)
  | 5 => .int .i64 kd
  | 6 => .tuple #[aggRu r, .bool is]
  | 7 => .tuple #[aggRu r, .bool is]
  | 8 => aggRu r
  | 9 => .bool is
  | _ => undef
set_option maxRecDepth 100000 in
theorem t1_ok : drawOk (opsOf Try.f106 1) 12 = true := by kernel_rfl
set_option maxRecDepth 100000 in
theorem t1_ch : chainOk (opsOf Try.f106 1) 12 [10, 11] = true := by kernel_rfl
set_option maxRecDepth 100000 in
theorem t1_wp {ops : Array Oper} (hops : ops = opsOf Try.f106 1) {a : Act} {W : World} {g og xb rb : Nat} {ra : Assoc} {kd : Int} {r : RuleR} {is : Bool}
    (hz : a.tmps.size = 65) (t0 : a.eval (.tmp 0) = .pointer (some ⟨g, og, none⟩)) (t3 : a.eval (.tmp 3) = .pointer (some ⟨xb, 0, none⟩))
    (h1 : W.cell? ⟨g, og + 1, none⟩ = some (.map (some rb))) (h2 : W.cell? ⟨xb, 2, none⟩ = some (.int .i64 kd)) (hm : MapI W rb ra) (hru : Value.tuple #[(getI ra kd).getD (aggRu ru0), .bool (getI ra kd).isSome] = .tuple #[aggRu r, .bool is]) {rl : Nat} (hl : W.heap.size = rl) {Q : Exit → Act → World → Prop} {id : Nat}
    (hQ : ∀ w', w'.heap = (W.alloc (.cells (cellsRu r).toArray 54)).heap → Q .normal ((putsV ops (VE [10, 11] (VT1 g og xb rb kd r is) [.pointer (some ⟨rl, 0, none⟩), undef]) (List.range 12) a).put (some 7) (.bool is)) w') : (Code.region id ops true).wp Try.prog Q a W := by
  subst hl
  subst hops
  have hdd := drawOk_d t1_ok
  have nw : ∀ (V : Nat → Value) t j, prodOf (opsOf Try.f106 1) t = some j → j < 12 → t < 65 → (putsV (opsOf Try.f106 1) V (List.range 12) a).eval (.tmp t) = V j := fun V t j h1 h2 h3 => puts_new hdd h1 h2 (by rw [hz]; exact h3)
  have od : ∀ (V : Nat → Value) t, prodOf (opsOf Try.f106 1) t = none → (putsV (opsOf Try.f106 1) V (List.range 12) a).eval (.tmp t) = a.eval (.tmp t) := fun V t h => puts_old hdd h
  have hsz : (opsOf Try.f106 1).size = 13 := by kernel_rfl
  refine wp_drawnE2 mixed_orders t1_ok t1_ch (fun vs w => Eqb W w ∧ match vs with
    | [] => w.heap = W.heap
    | [v1] => v1 = .pointer (some ⟨W.heap.size, 0, none⟩) ∧ w.heap = (W.alloc (.cells (cellsRu ru0).toArray 54)).heap
    | v1 :: v2 :: _ => v1 = .pointer (some ⟨W.heap.size, 0, none⟩) ∧ v2 = undef ∧ w.heap = (W.alloc (.cells (cellsRu r).toArray 54)).heap) (VT1 g og xb rb kd r is) (fun i o hio him hiE vs w hS => ?_) (fun q i o hq hio vs w hl hS => ?_) (fun vs w hl hS => ?_) (fun d => ⟨fun b _ => rfl, rfl⟩)
  · have hil : i < 13 := by have := (Array.getElem?_eq_some_iff.1 hio).1; omega
    have h10 : i ≠ 10 := fun e => hiE (by subst e; simp)
    have h11 : i ≠ 11 := fun e => hiE (by subst e; simp)
    obtain rfl | rfl | rfl | rfl | rfl | rfl | rfl | rfl | rfl | rfl : i = 0 ∨ i = 1 ∨ i = 2 ∨ i = 3 ∨ i = 4 ∨ i = 5 ∨ i = 6 ∨ i = 7 ∨ i = 8 ∨ i = 9 := by omega
    · exact a_mv (op_of (p := .move (.tmp 0)) (by kernel_rfl) hio) ((od _ 0 (by kernel_rfl)).trans t0)
    · exact q_nil (op_of (p := .nilCheck (.tmp 9)) (by kernel_rfl) hio) (nw _ 9 0 (by kernel_rfl) (by decide) (by decide))
    · exact a_fac (op_of (p := .fieldAddr 140 (.tmp 10) 1) (by kernel_rfl) hio) (nw _ 10 1 (by kernel_rfl) (by decide) (by decide)) (by decide) rfl
    · exact q_load (op_of (p := .load 137 (.tmp 11)) (by kernel_rfl) hio) (nw _ 11 2 (by kernel_rfl) (by decide) (by decide)) (fun w => Try.isAgg137 w) (hS.1.at h1)
    · exact a_fle (op_of (p := .fieldAddr 49 (.tmp 3) 2) (by kernel_rfl) hio) ((od _ 3 (by kernel_rfl)).trans t3) (by decide) rfl
    · exact q_load (op_of (p := .load 3 (.tmp 13)) (by kernel_rfl) hio) (nw _ 13 4 (by kernel_rfl) (by decide) (by decide)) (fun w => Try.isAgg3 w) (hS.1.at h2)
    · exact (a_lookRu (hm.keep (hS.1 _ hm.lt)) (op_of (p := .lookup 137 (.tmp 12) (.tmp 14) true) (by kernel_rfl) hio) (nw _ 12 3 (by kernel_rfl) (by decide) (by decide)) (nw _ 14 5 (by kernel_rfl) (by decide) (by decide))).trans (by rw [hru]; rfl)
    · exact a_mv (op_of (p := .move (.tmp 15)) (by kernel_rfl) hio) (nw _ 15 6 (by kernel_rfl) (by decide) (by decide))
    · exact a_ext (op_of (p := .extract (.tmp 8) 0) (by kernel_rfl) hio) (nw _ 8 7 (by kernel_rfl) (by decide) (by decide)) rfl
    · exact a_ext (op_of (p := .extract (.tmp 8) 1) (by kernel_rfl) hio) (nw _ 8 7 (by kernel_rfl) (by decide) (by decide)) rfl
  · match q, hq with
    | 0, hq =>
      obtain rfl : 10 = i := by simpa using hq
      obtain rfl : vs = [] := List.eq_nil_of_length_eq_zero hl
      have hw : w.heap = W.heap := hS.2
      refine ⟨_, _, .inl (a_allocRu (op_of (by kernel_rfl) hio)), Eqb.alloc W (.cells (cellsRu ru0).toArray 54) ?_, ?_, ?_⟩
      · show w.heap.push _ = W.heap.push _
        rw [hw]
      · rw [hw]
      · show w.heap.push _ = W.heap.push _
        rw [hw]
    | 1, hq =>
      obtain rfl : 11 = i := by simpa using hq
      match vs, hl with
      | [v1], _ =>
        obtain ⟨hS1, rfl, hw⟩ := hS
        have e6 : (putsV (opsOf Try.f106 1) (VE [10, 11] (VT1 g og xb rb kd r is) [.pointer (some ⟨W.heap.size, 0, none⟩)]) (List.range 12) a).eval (.tmp 6) = .pointer (some ⟨W.heap.size, 0, none⟩) := nw _ 6 10 (by kernel_rfl) (by decide) (by decide)
        have e16 : (putsV (opsOf Try.f106 1) (VE [10, 11] (VT1 g og xb rb kd r is) [.pointer (some ⟨W.heap.size, 0, none⟩)]) (List.range 12) a).eval (.tmp 16) = aggRu r := nw _ 16 8 (by kernel_rfl) (by decide) (by decide)
        have hold : w.heap[W.heap.size]? = some (.cells (cellsRu ru0).toArray 54 (0, 0)) := by rw [hw]; exact heap_alloc_new W _
        have hd : o.dst = none := by
          have h : ((opsOf Try.f106 1)[11]?).map (·.dst) = some none := by kernel_rfl
          rw [hio] at h; simpa using h
        refine ⟨undef, _, .inr ⟨hd, a_setRu (op_of (by kernel_rfl) hio) e6 e16 hold rfl⟩, ?_, rfl, rfl, setRow_eq w W hw rfl⟩
        exact Eqb.alloc W (.cells (cellsRu r).toArray 54) (setRow_eq w W hw rfl)
    | q + 2, hq => simp at hq
  · match vs, hl with
    | [v1, v2], _ =>
      obtain ⟨hS1, rfl, rfl, hw⟩ := hS
      have e17 : (putsV (opsOf Try.f106 1) (VE [10, 11] (VT1 g og xb rb kd r is) [.pointer (some ⟨W.heap.size, 0, none⟩), undef]) (List.range 12) a).eval (.tmp 17) = .bool is := nw _ 17 9 (by kernel_rfl) (by decide) (by decide)
      obtain ⟨o, ho12, hop, hgd, hdst⟩ := op_ex (ops := (opsOf Try.f106 1)) (i := 12) (p := .assign (.tmp 17)) (d := some 7) (by kernel_rfl)
      simp only [wpOps, ho12, yld hgd, if_true]
      refine .inl ?_
      unfold Oper.wp
      rw [a_asg hop e17, Oper.upon_value, hdst]
      exact hQ w hw
def VT4 (g og xb rl : Nat) (num xn : Int) (r : RuleR) : Nat → Value := fun i => match i with
  | 0 => .pointer (some ⟨g, og, none⟩)
  | 1 => .pointer (some ⟨rl, 1, none⟩)
  | 2 => .int .i64 r.times
  | 3 => .pointer (some ⟨g, og, none⟩)
  | 4 => .pointer (some ⟨g, og, none⟩)
  | 5 => .pointer (some ⟨g, og, none⟩)
  | 6 => .int .i64 num
  | 7 => .int .i64 (w64 (r.times * num))
  | 8 => .pointer (some ⟨rl, 2, none⟩)
  | 9 => .int .i64 r.plus
  | 10 => .int .i64 (w64 (w64 (r.times * num) + r.plus))
  | 11 => .pointer (some ⟨xb, 3, none⟩)
  | 12 => .int .i64 xn
  | 13 => .int .i64 (w64 (w64 (w64 (r.times * num) + r.plus) + xn))
  | 14 => .pointer (some ⟨g, og, none⟩)
  | 15 => .pointer (some ⟨g, og, none⟩)
  | _ => undef
set_option maxRecDepth 100000 in
theorem t4_ok : drawOk (opsOf Try.f106 4) 16 = true := by kernel_rfl
set_option maxRecDepth 100000 in
theorem t4_ch : chainOk (opsOf Try.f106 4) 16 [] = true := by kernel_rfl
set_option maxRecDepth 100000 in
theorem t4_wp {ops : Array Oper} (hops : ops = opsOf Try.f106 4) {a : Act} {W : World} {g og xb rl : Nat} {num xn : Int} {r : RuleR}
    (hz : a.tmps.size = 65) (t0 : a.eval (.tmp 0) = .pointer (some ⟨g, og, none⟩)) (t3 : a.eval (.tmp 3) = .pointer (some ⟨xb, 0, none⟩)) (t6 : a.eval (.tmp 6) = .pointer (some ⟨rl, 0, none⟩))
    (h0 : W.cell? ⟨g, og, none⟩ = some (.int .i64 num)) (hf : W.frozen? ⟨g, og, none⟩ = false) (h1 : W.cell? ⟨rl, 1, none⟩ = some (.int .i64 r.times)) (h2 : W.cell? ⟨rl, 2, none⟩ = some (.int .i64 r.plus)) (h3 : W.cell? ⟨xb, 3, none⟩ = some (.int .i64 xn)) {Q : Exit → Act → World → Prop} {id : Nat}
    (hQ : ∀ w', w'.heap = (W.setCell ⟨g, og, none⟩ (.int .i64 (w64 (w64 (w64 (r.times * num) + r.plus) + xn)))).heap → Q .normal (putsV ops (VE [] (VT4 g og xb rl num xn r) []) (List.range 16) a) w') : (Code.region id ops true).wp Try.prog Q a W := by
  subst hops
  have hdd := drawOk_d t4_ok
  have nw : ∀ (V : Nat → Value) t j, prodOf (opsOf Try.f106 4) t = some j → j < 16 → t < 65 → (putsV (opsOf Try.f106 4) V (List.range 16) a).eval (.tmp t) = V j := fun V t j h1 h2 h3 => puts_new hdd h1 h2 (by rw [hz]; exact h3)
  have od : ∀ (V : Nat → Value) t, prodOf (opsOf Try.f106 4) t = none → (putsV (opsOf Try.f106 4) V (List.range 16) a).eval (.tmp t) = a.eval (.tmp t) := fun V t h => puts_old hdd h
  have hsz : (opsOf Try.f106 4).size = 17 := by kernel_rfl
  refine wp_drawnE mixed_orders t4_ok t4_ch (fun vs w => Eqb W w ∧ w.heap = W.heap) (VT4 g og xb rl num xn r) (fun i o hio him hiE vs w hS0 => ?_) (fun q i o hq hio vs w hl hS => by simp at hq) (fun vs w hl hS => ?_) (fun d => ⟨fun b _ => rfl, rfl⟩)
  · have hil : i < 17 := by have := (Array.getElem?_eq_some_iff.1 hio).1; omega
    have hS := hS0.1
    obtain rfl | rfl | rfl | rfl | rfl | rfl | rfl | rfl | rfl | rfl | rfl | rfl | rfl | rfl | rfl | rfl : i = 0 ∨ i = 1 ∨ i = 2 ∨ i = 3 ∨ i = 4 ∨ i = 5 ∨ i = 6 ∨ i = 7 ∨ i = 8 ∨ i = 9 ∨ i = 10 ∨ i = 11 ∨ i = 12 ∨ i = 13 ∨ i = 14 ∨ i = 15 := by omega
    · exact a_mv (op_of (p := .move (.tmp 0)) (by kernel_rfl) hio) ((od _ 0 (by kernel_rfl)).trans t0)
    · exact a_fru (op_of (p := .fieldAddr 54 (.tmp 6) 1) (by kernel_rfl) hio) ((od _ 6 (by kernel_rfl)).trans t6) (by decide) rfl
    · exact q_load (op_of (p := .load 2 (.tmp 22)) (by kernel_rfl) hio) (nw _ 22 1 (by kernel_rfl) (by decide) (by decide)) (fun w => Try.isAgg2 w) (hS.at h1)
    · exact a_mv (op_of (p := .move (.tmp 0)) (by kernel_rfl) hio) ((od _ 0 (by kernel_rfl)).trans t0)
    · exact q_nil (op_of (p := .nilCheck (.tmp 24)) (by kernel_rfl) hio) (nw _ 24 3 (by kernel_rfl) (by decide) (by decide))
    · exact a_fac (op_of (p := .fieldAddr 140 (.tmp 25) 0) (by kernel_rfl) hio) (nw _ 25 4 (by kernel_rfl) (by decide) (by decide)) (by decide) rfl
    · exact q_load (op_of (p := .load 2 (.tmp 26)) (by kernel_rfl) hio) (nw _ 26 5 (by kernel_rfl) (by decide) (by decide)) (fun w => Try.isAgg2 w) (hS.at h0)
    · exact a_mul (op_of (p := .binOp .mul 2 (.tmp 23) (.tmp 27) 2) (by kernel_rfl) hio) (nw _ 23 2 (by kernel_rfl) (by decide) (by decide)) (nw _ 27 6 (by kernel_rfl) (by decide) (by decide)) Try.underlying2
    · exact a_fru (op_of (p := .fieldAddr 54 (.tmp 6) 2) (by kernel_rfl) hio) ((od _ 6 (by kernel_rfl)).trans t6) (by decide) rfl
    · exact q_load (op_of (p := .load 2 (.tmp 29)) (by kernel_rfl) hio) (nw _ 29 8 (by kernel_rfl) (by decide) (by decide)) (fun w => Try.isAgg2 w) (hS.at h2)
    · exact a_add (op_of (p := .binOp .add 2 (.tmp 28) (.tmp 30) 2) (by kernel_rfl) hio) (nw _ 28 7 (by kernel_rfl) (by decide) (by decide)) (nw _ 30 9 (by kernel_rfl) (by decide) (by decide)) Try.underlying2
    · exact a_fle (op_of (p := .fieldAddr 49 (.tmp 3) 3) (by kernel_rfl) hio) ((od _ 3 (by kernel_rfl)).trans t3) (by decide) rfl
    · exact q_load (op_of (p := .load 2 (.tmp 32)) (by kernel_rfl) hio) (nw _ 32 11 (by kernel_rfl) (by decide) (by decide)) (fun w => Try.isAgg2 w) (hS.at h3)
    · exact a_add (op_of (p := .binOp .add 2 (.tmp 31) (.tmp 33) 2) (by kernel_rfl) hio) (nw _ 31 10 (by kernel_rfl) (by decide) (by decide)) (nw _ 33 12 (by kernel_rfl) (by decide) (by decide)) Try.underlying2
    · exact q_nil (op_of (p := .nilCheck (.tmp 21)) (by kernel_rfl) hio) (nw _ 21 0 (by kernel_rfl) (by decide) (by decide))
    · exact a_fac (op_of (p := .fieldAddr 140 (.tmp 35) 0) (by kernel_rfl) hio) (nw _ 35 14 (by kernel_rfl) (by decide) (by decide)) (by decide) rfl
  · obtain rfl : vs = [] := List.eq_nil_of_length_eq_zero hl
    have e36 : (putsV (opsOf Try.f106 4) (VE [] (VT4 g og xb rl num xn r) []) (List.range 16) a).eval (.tmp 36) = .pointer (some ⟨g, og, none⟩) := nw _ 36 15 (by kernel_rfl) (by decide) (by decide)
    have e34 : (putsV (opsOf Try.f106 4) (VE [] (VT4 g og xb rl num xn r) []) (List.range 16) a).eval (.tmp 34) = .int .i64 (w64 (w64 (w64 (r.times * num) + r.plus) + xn)) := nw _ 34 13 (by kernel_rfl) (by decide) (by decide)
    obtain ⟨o', ho16, hop, hgd, hdst⟩ := op_ex (ops := (opsOf Try.f106 4)) (i := 16) (p := .store 2 (.tmp 36) (.tmp 34)) (d := none) (by kernel_rfl)
    have hfz : w.frozen? ⟨g, og, none⟩ = false := by
      have : w.frozen? ⟨g, og, none⟩ = W.frozen? ⟨g, og, none⟩ := by simp only [World.frozen?, hS.2]
      rw [this]; exact hf
    have g1 := (op_store (P := Try.prog) (fn := 0) (k := ⟨fun _ => True, fun _ => True, fun _ => True⟩) (w := w) hop e36 e34 ⟨fun c h => (by cases h), fun c h => (by cases h)⟩ (fun w => Try.sizeOf2 w) (hS.1.at h0) hfz trivial).1
    simp only [wpOps, ho16, yld hgd, if_true]
    refine .inl ?_
    unfold Oper.wp
    rw [g1, Oper.upon_skip, hdst, put_none]
    exact hQ _ (setCell_same W w _ _ hS.2)
def VT7 (g og xb rl : Nat) (num xt : Int) (r : RuleR) : Nat → Value := fun i => match i with
  | 0 => .pointer (some ⟨xb, 0, none⟩)
  | 1 => .int .i64 xt
  | 2 => .pointer (some ⟨rl, 6, none⟩)
  | 3 => .int .i64 r.after
  | 4 => .int .i64 (w64 (xt + r.after))
  | 5 => .pointer (some ⟨rl, 5, none⟩)
  | 6 => .int .i64 r.to
  | 7 => .pointer (some ⟨rl, 4, none⟩)
  | 8 => .int .i64 r.send
  | 9 => .pointer (some ⟨g, og, none⟩)
  | 10 => .pointer (some ⟨g, og, none⟩)
  | 11 => .pointer (some ⟨g, og, none⟩)
  | 12 => .int .i64 num
  | 13 => aggX ⟨w64 (xt + r.after), r.to, r.send, num⟩
  | _ => undef
set_option maxRecDepth 100000 in
theorem t7_ok : drawOk (opsOf Try.f106 7) 15 = true := by kernel_rfl
set_option maxRecDepth 100000 in
theorem t7_ch : chainOk (opsOf Try.f106 7) 15 [14] = true := by kernel_rfl
/-- All blocks but one are there. -/
def Eqx (W w : World) (x : Nat) : Prop := ∀ b, b ≠ x → w.heap[b]? = W.heap[b]?
theorem Eqx.at {W w : World} {x : Nat} (h : Eqx W w x) {p : Addr} {v : Value} (hc : W.cell? p = some v) (hp : p.block ≠ x) : w.cell? p = some v := (World.cell?_of_block (h _ hp)).trans hc
set_option maxRecDepth 100000 in
theorem t7_wp {ops : Array Oper} (hops : ops = opsOf Try.f106 7) {a : Act} {W : World} {g og xb rl re : Nat} {num xt : Int} {r : RuleR} {old : Array Value}
    (hz : a.tmps.size = 65) (t0 : a.eval (.tmp 0) = .pointer (some ⟨g, og, none⟩)) (t3 : a.eval (.tmp 3) = .pointer (some ⟨xb, 0, none⟩)) (t6 : a.eval (.tmp 6) = .pointer (some ⟨rl, 0, none⟩)) (t4 : a.eval (.tmp 4) = .pointer (some ⟨re, 0, none⟩))
    (h0 : W.cell? ⟨g, og, none⟩ = some (.int .i64 num)) (h3 : W.cell? ⟨xb, 0, none⟩ = some (.int .i64 xt)) (h4 : W.cell? ⟨rl, 4, none⟩ = some (.int .i64 r.send)) (h5 : W.cell? ⟨rl, 5, none⟩ = some (.int .i64 r.to)) (h6 : W.cell? ⟨rl, 6, none⟩ = some (.int .i64 r.after))
    (hre : W.heap[re]? = some (.cells old 49 (0, 0))) (hold : old.size = 4) (n1 : g ≠ re) (n2 : xb ≠ re) (n3 : rl ≠ re) {Q : Exit → Act → World → Prop} {id : Nat}
    (hQ : ∀ w', Eqx W w' re → w'.heap.size = W.heap.size → w'.heap[re]? = some (.cells (cellsX ⟨w64 (xt + r.after), r.to, r.send, num⟩).toArray 49 (0, 0)) → Q .normal ((putsV ops (VE [14] (VT7 g og xb rl num xt r) [undef]) (List.range 15) a).put (some 5) (.bool true)) w') : (Code.region id ops true).wp Try.prog Q a W := by
  subst hops
  have hdd := drawOk_d t7_ok
  have nw : ∀ (V : Nat → Value) t j, prodOf (opsOf Try.f106 7) t = some j → j < 15 → t < 65 → (putsV (opsOf Try.f106 7) V (List.range 15) a).eval (.tmp t) = V j := fun V t j h1 h2 h3 => puts_new hdd h1 h2 (by rw [hz]; exact h3)
  have od : ∀ (V : Nat → Value) t, prodOf (opsOf Try.f106 7) t = none → (putsV (opsOf Try.f106 7) V (List.range 15) a).eval (.tmp t) = a.eval (.tmp t) := fun V t h => puts_old hdd h
  have hsz : (opsOf Try.f106 7).size = 16 := by kernel_rfl
  refine wp_drawnE2 mixed_orders t7_ok t7_ch (fun vs w => Eqx W w re ∧ w.heap.size = W.heap.size ∧ match vs with
    | [] => w.heap[re]? = some (.cells old 49 (0, 0))
    | v1 :: _ => v1 = undef ∧ w.heap[re]? = some (.cells (cellsX ⟨w64 (xt + r.after), r.to, r.send, num⟩).toArray 49 (0, 0))) (VT7 g og xb rl num xt r) (fun i o hio him hiE vs w hS => ?_) (fun q i o hq hio vs w hl hS => ?_) (fun vs w hl hS => ?_) (fun d => ⟨fun b _ => rfl, rfl, hre⟩)
  · have hil : i < 16 := by have := (Array.getElem?_eq_some_iff.1 hio).1; omega
    have h14 : i ≠ 14 := fun e => hiE (by subst e; simp)
    obtain rfl | rfl | rfl | rfl | rfl | rfl | rfl | rfl | rfl | rfl | rfl | rfl | rfl | rfl : i = 0 ∨ i = 1 ∨ i = 2 ∨ i = 3 ∨ i = 4 ∨ i = 5 ∨ i = 6 ∨ i = 7 ∨ i = 8 ∨ i = 9 ∨ i = 10 ∨ i = 11 ∨ i = 12 ∨ i = 13 := by omega
    · exact a_fle (op_of (p := .fieldAddr 49 (.tmp 3) 0) (by kernel_rfl) hio) ((od _ 3 (by kernel_rfl)).trans t3) (by decide) rfl
    · exact q_load (op_of (p := .load 3 (.tmp 51)) (by kernel_rfl) hio) (nw _ 51 0 (by kernel_rfl) (by decide) (by decide)) (fun w => Try.isAgg3 w) (hS.1.at h3 n2)
    · exact a_fru (op_of (p := .fieldAddr 54 (.tmp 6) 6) (by kernel_rfl) hio) ((od _ 6 (by kernel_rfl)).trans t6) (by decide) rfl
    · exact q_load (op_of (p := .load 3 (.tmp 53)) (by kernel_rfl) hio) (nw _ 53 2 (by kernel_rfl) (by decide) (by decide)) (fun w => Try.isAgg3 w) (hS.1.at h6 n3)
    · exact a_add (op_of (p := .binOp .add 3 (.tmp 52) (.tmp 54) 3) (by kernel_rfl) hio) (nw _ 52 1 (by kernel_rfl) (by decide) (by decide)) (nw _ 54 3 (by kernel_rfl) (by decide) (by decide)) Try.underlying3
    · exact a_fru (op_of (p := .fieldAddr 54 (.tmp 6) 5) (by kernel_rfl) hio) ((od _ 6 (by kernel_rfl)).trans t6) (by decide) rfl
    · exact q_load (op_of (p := .load 3 (.tmp 56)) (by kernel_rfl) hio) (nw _ 56 5 (by kernel_rfl) (by decide) (by decide)) (fun w => Try.isAgg3 w) (hS.1.at h5 n3)
    · exact a_fru (op_of (p := .fieldAddr 54 (.tmp 6) 4) (by kernel_rfl) hio) ((od _ 6 (by kernel_rfl)).trans t6) (by decide) rfl
    · exact q_load (op_of (p := .load 3 (.tmp 58)) (by kernel_rfl) hio) (nw _ 58 7 (by kernel_rfl) (by decide) (by decide)) (fun w => Try.isAgg3 w) (hS.1.at h4 n3)
    · exact a_mv (op_of (p := .move (.tmp 0)) (by kernel_rfl) hio) ((od _ 0 (by kernel_rfl)).trans t0)
    · exact q_nil (op_of (p := .nilCheck (.tmp 60)) (by kernel_rfl) hio) (nw _ 60 9 (by kernel_rfl) (by decide) (by decide))
    · exact a_fac (op_of (p := .fieldAddr 140 (.tmp 61) 0) (by kernel_rfl) hio) (nw _ 61 10 (by kernel_rfl) (by decide) (by decide)) (by decide) rfl
    · exact q_load (op_of (p := .load 2 (.tmp 62)) (by kernel_rfl) hio) (nw _ 62 11 (by kernel_rfl) (by decide) (by decide)) (fun w => Try.isAgg2 w) (hS.1.at h0 n1)
    · exact a_buildX (op_of (by kernel_rfl) hio) (nw _ 55 4 (by kernel_rfl) (by decide) (by decide)) (nw _ 57 6 (by kernel_rfl) (by decide) (by decide)) (nw _ 59 8 (by kernel_rfl) (by decide) (by decide)) (nw _ 63 12 (by kernel_rfl) (by decide) (by decide))
  · match q, hq with
    | 0, hq =>
      obtain rfl : 14 = i := by simpa using hq
      obtain rfl : vs = [] := List.eq_nil_of_length_eq_zero hl
      obtain ⟨hS1, hS2, hS3⟩ := hS
      have e4 : (putsV (opsOf Try.f106 7) (VE [14] (VT7 g og xb rl num xt r) []) (List.range 15) a).eval (.tmp 4) = .pointer (some ⟨re, 0, none⟩) := (od _ 4 (by kernel_rfl)).trans t4
      have e64 : (putsV (opsOf Try.f106 7) (VE [14] (VT7 g og xb rl num xt r) []) (List.range 15) a).eval (.tmp 64) = aggX ⟨w64 (xt + r.after), r.to, r.send, num⟩ := nw _ 64 13 (by kernel_rfl) (by decide) (by decide)
      have hd : o.dst = none := by
        have h : ((opsOf Try.f106 7)[14]?).map (·.dst) = some none := by kernel_rfl
        rw [hio] at h; simpa using h
      refine ⟨undef, _, .inr ⟨hd, a_setX (op_of (by kernel_rfl) hio) e4 e64 hS3 hold⟩, fun b hb => ?_, ?_, rfl, setRow_heap _ _ _ _ _ _ hS3⟩
      · refine Eq.trans ?_ (hS1 b hb)
        unfold World.setRow
        simp only [Array.getElem?_modify]
        rw [if_neg (fun e => hb e.symm)]
      · rw [size_setRow]; exact hS2
    | q + 1, hq => simp at hq
  · match vs, hl with
    | [v1], _ =>
      obtain ⟨hS1, hS2, rfl, hS3⟩ := hS
      obtain ⟨o', ho15, hop, hgd, hdst⟩ := op_ex (ops := (opsOf Try.f106 7)) (i := 15) (p := .assign (.const (.bool true))) (d := some 5) (by kernel_rfl)
      simp only [wpOps, ho15, yld hgd, if_true]
      refine .inl ?_
      unfold Oper.wp
      rw [a_asg (v := .bool true) hop rfl, Oper.upon_value, hdst]
      exact hQ w hS1 hS2 hS3
end Go.Proofs.Yticdjkkcfdbdcaa

/- The contract of (*Actor).Take. No conditions but that what is read is there. -/
namespace Go.Proofs.Yticdjkkcfdbdcaa
open Go.Conc Go.ConcN Go.RowKit Go.ChangeShapes Go.WideShapes Go.ChangeAt
/-- The map's entries are those rules. -/
def RulesAs (ra : Assoc) (rs : List RuleR) : Prop := ∀ k, getI ra k = (rs.find? (fun r => r.kind == k)).map aggRu
/-- One cell was set; what else was there stands. -/
structure One (w w' : World) (p : Addr) (v : Value) : Prop where
  size : w.heap.size ≤ w'.heap.size
  other : ∀ b, b < w.heap.size → b ≠ p.block → w'.heap[b]? = w.heap[b]?
  at_ : w'.heap[p.block]? = (w.setCell p v).heap[p.block]?
theorem setCell_self {w : World} {p : Addr} {v : Value} (hs : p.spot = none) (h : w.cell? p = some v) : (w.setCell p v).heap[p.block]? = w.heap[p.block]? := by
  cases hb : w.heap[p.block]? with
  | none => simp [World.cell?, hb] at h
  | some o =>
    cases o with
    | cells x e f =>
      rw [setCell_get hs hb]
      simp only [World.cell?, hb, hs, Option.isSome_none, Bool.false_eq_true, if_false] at h
      congr 2
      apply Array.ext_getElem?
      intro i
      rw [Array.getElem?_setIfInBounds]
      by_cases e1 : p.off = i
      · subst e1
        rw [if_pos rfl, if_pos (Array.getElem?_eq_some_iff.1 h).1, h]
      · rw [if_neg e1]
    | _ => simp [World.cell?, hb, hs] at h
theorem One.same {w w' : World} {p : Addr} {v : Value} (hs : p.spot = none) (hc : w.cell? p = some v) (hz : w.heap.size ≤ w'.heap.size) (h : ∀ b, b < w.heap.size → w'.heap[b]? = w.heap[b]?) : One w w' p v :=
  ⟨hz, fun b hb _ => h b hb, by rw [setCell_self hs hc]; exact h _ (cell_lt hc)⟩
/-- What a letter makes, the rule found. -/
def takeO (fo : Option RuleR) (num : Int) (x : LetR) : Int × Option LetR :=
  match fo with
  | none => (num, none)
  | some r =>
    let n := w64 (w64 (w64 (r.times * num) + r.plus) + x.n)
    (n, if r.mod = 0 ∨ n.tmod r.mod ≠ 0 then none else some ⟨x.time + r.after, r.to, r.send, n⟩)
theorem takeR_o (rs : List RuleR) (num : Int) (x : LetR) : takeR rs num x = takeO (rs.find? fun r => r.kind == x.kind) num x := rfl
def takeRet (o : Option LetR) (v : Value) : Prop := ∃ y : LetR, v = .tuple #[aggX y, .bool o.isSome] ∧ ∀ z, o = some z → y = z
theorem takeRet_none (y : LetR) : takeRet none (.tuple #[aggX y, .bool false]) := ⟨y, rfl, fun z h => by cases h⟩
theorem takeRet_some (y : LetR) : takeRet (some y) (.tuple #[aggX y, .bool true]) := ⟨y, rfl, fun z h => by cases h; rfl⟩
/-- Two new blocks: the letter, the result. -/
structure TakeW (w W : World) (x : LetR) : Prop where
  eqb : Eqb w W
  size : W.heap.size = w.heap.size + 2
  xh : W.heap[w.heap.size]? = some (.cells (cellsX x).toArray 49 (0, 0))
  rh : W.heap[w.heap.size + 1]? = some (.cells (cellsX le0).toArray 49 (0, 0))
theorem takeW_two {w W : World} {x : LetR} (h : (w.alloc (.cells (cellsX x).toArray 49)).alloc (.cells (cellsX le0).toArray 49) = W) : TakeW w W x := by
  subst h
  have hz : (w.alloc (.cells (cellsX x).toArray 49)).heap.size = w.heap.size + 1 := by simp
  refine ⟨fun b hb => ?_, by simp, ?_, ?_⟩
  · rw [Below.heap_alloc _ _ _ (by rw [hz]; omega), Below.heap_alloc _ _ _ hb]
  · rw [Below.heap_alloc _ _ _ (by rw [hz]; omega)]; exact heap_alloc_new w _
  · have := heap_alloc_new (w.alloc (.cells (cellsX x).toArray 49)) (.cells (cellsX le0).toArray 49)
    rw [hz] at this
    exact this
theorem cells_at {W : World} {b : Nat} {cs : List Value} {t : TypeId} (h : W.heap[b]? = some (.cells cs.toArray t (0, 0))) (i : Nat) (v : Value) (hi : cs[i]? = some v) : W.cell? ⟨b, i, none⟩ = some v := by
  rw [cell_of_row _ _ _ _ _ _ h]; simpa using hi
theorem frozen_at {W : World} {b : Nat} {x : Array Value} {t : TypeId} (h : W.heap[b]? = some (.cells x t (0, 0))) (i : Nat) : W.frozen? ⟨b, i, none⟩ = false := by
  simp [World.frozen?, h]
theorem TakeW.xc {w W : World} {x : LetR} (h : TakeW w W x) (i : Nat) (v : Value) (hi : (cellsX x)[i]? = some v) : W.cell? ⟨w.heap.size, i, none⟩ = some v := cells_at h.xh i v hi
/-- .. and a rule. -/
structure TakeS (w W : World) (x : LetR) (r : RuleR) : Prop where
  eqb : Eqb w W
  size : W.heap.size = w.heap.size + 3
  xh : W.heap[w.heap.size]? = some (.cells (cellsX x).toArray 49 (0, 0))
  rh : W.heap[w.heap.size + 1]? = some (.cells (cellsX le0).toArray 49 (0, 0))
  lh : W.heap[w.heap.size + 2]? = some (.cells (cellsRu r).toArray 54 (0, 0))
theorem TakeW.rule {w W W' : World} {x : LetR} {r : RuleR} (h : TakeW w W x) (hw : W'.heap = (W.alloc (.cells (cellsRu r).toArray 54)).heap) : TakeS w W' x r := by
  have e : ∀ b, b < W.heap.size → W'.heap[b]? = W.heap[b]? := fun b hb => by rw [hw]; exact Below.heap_alloc W _ b hb
  have hz := h.size
  refine ⟨fun b hb => (e b (by omega)).trans (h.eqb b hb), by rw [hw]; simp; omega, (e _ (by omega)).trans h.xh, (e _ (by omega)).trans h.rh, ?_⟩
  rw [hw, ← hz]
  exact heap_alloc_new W _
theorem TakeS.rc {w W : World} {x : LetR} {r : RuleR} (h : TakeS w W x r) : W.cell? ⟨w.heap.size + 1, 0, none⟩ = some (.int .i64 0) ∧ W.cell? ⟨w.heap.size + 1, 1, none⟩ = some (.int .i64 0) ∧ W.cell? ⟨w.heap.size + 1, 2, none⟩ = some (.int .i64 0) ∧ W.cell? ⟨w.heap.size + 1, 3, none⟩ = some (.int .i64 0) :=
  ⟨cells_at h.rh 0 _ rfl, cells_at h.rh 1 _ rfl, cells_at h.rh 2 _ rfl, cells_at h.rh 3 _ rfl⟩
theorem TakeS.rf {w W : World} {x : LetR} {r : RuleR} (h : TakeS w W x r) : W.frozen? ⟨w.heap.size + 1, 0, none⟩ = false ∧ W.frozen? ⟨w.heap.size + 1, 1, none⟩ = false ∧ W.frozen? ⟨w.heap.size + 1, 2, none⟩ = false ∧ W.frozen? ⟨w.heap.size + 1, 3, none⟩ = false :=
  ⟨frozen_at h.rh 0, frozen_at h.rh 1, frozen_at h.rh 2, frozen_at h.rh 3⟩
theorem set4 (w : World) {b re : Nat} (hb : b ≠ re) (v0 v1 v2 v3 : Value) : ((((w.setCell ⟨re, 0, none⟩ v0).setCell ⟨re, 1, none⟩ v1).setCell ⟨re, 2, none⟩ v2).setCell ⟨re, 3, none⟩ v3).heap[b]? = w.heap[b]? := by
  rw [setCell_ne hb, setCell_ne hb, setCell_ne hb, setCell_ne hb]
/-- Behind the new number. -/
structure TakeU (w W : World) (x : LetR) (r : RuleR) (g og : Nat) (n : Int) : Prop where
  one : One w W ⟨g, og, none⟩ (.int .i64 n)
  size : W.heap.size = w.heap.size + 3
  xh : W.heap[w.heap.size]? = some (.cells (cellsX x).toArray 49 (0, 0))
  rh : W.heap[w.heap.size + 1]? = some (.cells (cellsX le0).toArray 49 (0, 0))
  lh : W.heap[w.heap.size + 2]? = some (.cells (cellsRu r).toArray 54 (0, 0))
theorem TakeS.setN {w W W' : World} {x : LetR} {r : RuleR} (h : TakeS w W x r) {g og : Nat} (hg : g < w.heap.size) {n : Int} (hw : W'.heap = (W.setCell ⟨g, og, none⟩ (.int .i64 n)).heap) : TakeU w W' x r g og n := by
  have e : ∀ b, b ≠ g → W'.heap[b]? = W.heap[b]? := fun b hb => by rw [hw]; exact setCell_ne hb
  refine ⟨⟨by rw [hw, setCell_size, h.size]; omega, fun b hb hn => (e b hn).trans (h.eqb b hb), ?_⟩, by rw [hw, setCell_size, h.size], (e _ (by omega)).trans h.xh, (e _ (by omega)).trans h.rh, (e _ (by omega)).trans h.lh⟩
  rw [hw]
  have := h.eqb g hg
  show (W.setCell ⟨g, og, none⟩ (.int .i64 n)).heap[g]? = (w.setCell ⟨g, og, none⟩ (.int .i64 n)).heap[g]?
  cases hb : w.heap[g]? with
  | none => rw [Array.getElem?_eq_none_iff] at hb; omega
  | some o =>
    rw [hb] at this
    cases o with
    | cells x e f => rw [setCell_get rfl this, setCell_get rfl hb]
    | _ => simp [World.setCell, Array.getElem?_modify, this, hb]
theorem w64_small {n : Int} (h0 : -9223372036854775808 ≤ n) (h1 : n ≤ 9223372036854775807) : w64 n = n := by
  rw [← w64_wrap, IntKind.wrap_i64]; omega
section
variable {w W : World} {x : LetR} {r : RuleR} {g og : Nat} {n : Int}
theorem TakeU.same {W' : World} (h : TakeU w W x r g og n) (e : W'.heap = W.heap) : TakeU w W' x r g og n :=
  ⟨⟨by rw [e]; exact h.one.size, fun b hb hn => by rw [e]; exact h.one.other b hb hn, by rw [e]; exact h.one.at_⟩, by rw [e]; exact h.size, by rw [e]; exact h.xh, by rw [e]; exact h.rh, by rw [e]; exact h.lh⟩
theorem TakeU.rc (h : TakeU w W x r g og n) : W.cell? ⟨w.heap.size + 1, 0, none⟩ = some (.int .i64 0) ∧ W.cell? ⟨w.heap.size + 1, 1, none⟩ = some (.int .i64 0) ∧ W.cell? ⟨w.heap.size + 1, 2, none⟩ = some (.int .i64 0) ∧ W.cell? ⟨w.heap.size + 1, 3, none⟩ = some (.int .i64 0) :=
  ⟨cells_at h.rh 0 _ rfl, cells_at h.rh 1 _ rfl, cells_at h.rh 2 _ rfl, cells_at h.rh 3 _ rfl⟩
theorem TakeU.rf (h : TakeU w W x r g og n) : W.frozen? ⟨w.heap.size + 1, 0, none⟩ = false ∧ W.frozen? ⟨w.heap.size + 1, 1, none⟩ = false ∧ W.frozen? ⟨w.heap.size + 1, 2, none⟩ = false ∧ W.frozen? ⟨w.heap.size + 1, 3, none⟩ = false :=
  ⟨frozen_at h.rh 0, frozen_at h.rh 1, frozen_at h.rh 2, frozen_at h.rh 3⟩
theorem One.more {w W W' : World} {p : Addr} {v : Value} (h : One w W p v) (hp : p.block < w.heap.size) (hz : w.heap.size ≤ W'.heap.size) (hk : ∀ b, b < w.heap.size → W'.heap[b]? = W.heap[b]?) : One w W' p v :=
  ⟨hz, fun b hb hn => (hk b hb).trans (h.other b hb hn), (hk _ hp).trans h.at_⟩
theorem TakeU.num (h : TakeU w W x r g og n) (hc : ∃ v, w.cell? ⟨g, og, none⟩ = some v) : W.cell? ⟨g, og, none⟩ = some (.int .i64 n) := by
  obtain ⟨v, hc⟩ := hc
  have := h.one.at_
  rw [World.cell?_of_block this]
  simp only [World.cell?] at hc
  cases hb : w.heap[g]? with
  | none => simp [hb] at hc
  | some o =>
    cases o with
    | cells y e f =>
      simp only [World.cell?, setCell_get (a := ⟨g, og, none⟩) rfl hb]
      simp [hb] at hc
      simp [Array.getElem?_setIfInBounds, (Array.getElem?_eq_some_iff.1 hc).1]
    | _ => simp [hb] at hc
theorem TakeU.fin (h : TakeU w W x r g og n) (hg : g < w.heap.size) (v0 v1 v2 v3 : Value) : One w ((((W.setCell ⟨w.heap.size + 1, 0, none⟩ v0).setCell ⟨w.heap.size + 1, 1, none⟩ v1).setCell ⟨w.heap.size + 1, 2, none⟩ v2).setCell ⟨w.heap.size + 1, 3, none⟩ v3) ⟨g, og, none⟩ (.int .i64 n) :=
  h.one.more hg (by rw [setCell_size, setCell_size, setCell_size, setCell_size, h.size]; omega) fun b hb => set4 W (by omega) _ _ _ _
end
set_option maxRecDepth 100000 in
set_option maxHeartbeats 4000000 in
theorem take_any (w : World) (g og rb : Nat) (num : Int) (rs : List RuleR) (ra : Assoc) (x : LetR) (h0 : w.cell? ⟨g, og, none⟩ = some (.int .i64 num)) (hf : w.frozen? ⟨g, og, none⟩ = false) (h1 : w.cell? ⟨g, og + 1, none⟩ = some (.map (some rb)))
    (hm : MapI w rb ra) (hr : RulesAs ra rs) (hmod : ∀ r ∈ rs, 0 ≤ r.mod ∧ (r.mod ≠ 0 → 0 ≤ r.after ∧ r.after ≤ 1000)) (ht : 0 ≤ x.time ∧ x.time ≤ 1000000) :
    Calls Try.prog 106 #[.pointer (some ⟨g, og, none⟩), aggX x] w fun e w' => ∃ v, e = .returned v ∧ takeRet (takeR rs num x).2 v ∧ One w w' ⟨g, og, none⟩ (.int .i64 (takeR rs num x).1) := by
  obtain ⟨xt, xto, xk, xn⟩ := x
  simp only at ht
  have hgl := cell_lt h0
  simp only at hgl
  have hrl := hm.lt
  have hfind := hr xk
  obtain ⟨fo, hfo⟩ : ∃ fo, rs.find? (fun r => r.kind == xk) = fo := ⟨_, rfl⟩
  rw [hfo] at hfind
  rw [takeR_o, hfo]
  have hmo : ∀ r, fo = some r → 0 ≤ r.mod ∧ (r.mod ≠ 0 → 0 ≤ r.after ∧ r.after ≤ 1000) := fun r h => hmod r (List.mem_of_find?_eq_some (hfo.trans h))
  clear hmod hfo hr
  have H := Lib.hid (And.intro h0 (And.intro hf (And.intro h1 (And.intro hm (And.intro hfind hmo)))))
  clear h0 hf h1 hm hfind hmo
  unfold aggX cellsX
  go_enter Try.func106, Try.ntmps106
  go_wp2
  have hx3 := heap_alloc_new w (.cells #[.int .i64 xt, .int .i64 xto, .int .i64 xk, .int .i64 xn] 49)
  obtain ⟨W1, hW1⟩ : ∃ W1, (w.alloc (.cells #[.int .i64 xt, .int .i64 xto, .int .i64 xk, .int .i64 xn] 49)).alloc (.cells #[.int .i64 0, .int .i64 0, .int .i64 0, .int .i64 0] 49) = W1 := ⟨_, rfl⟩
  have T : TakeW w W1 ⟨xt, xto, xk, xn⟩ := takeW_two hW1
  rw [hW1]
  have HT := Lib.hid T; clear T hW1 hx3
  obtain ⟨r, is, hru, hcase⟩ : ∃ r is, Value.tuple #[(getI ra xk).getD (aggRu ru0), .bool (getI ra xk).isSome] = .tuple #[aggRu r, .bool is] ∧ ((fo = none ∧ is = false) ∨ (fo = some r ∧ is = true)) := by
    rw [H.out.2.2.2.2.1]
    cases fo with
    | none => exact ⟨ru0, false, rfl, .inl ⟨rfl, rfl⟩⟩
    | some r => exact ⟨r, true, rfl, .inr ⟨rfl, rfl⟩⟩
  refine t1_wp (g := g) (og := og) (xb := w.heap.size) (rb := rb) (kd := xk) (r := r) (is := is) (by kernel_rfl) rfl rfl rfl (HT.out.eqb.at H.out.2.2.1) (HT.out.xc 2 _ rfl) (H.out.2.2.2.1.keep (HT.out.eqb _ hrl)) hru HT.out.size fun w1 hw1 => ?_
  have HS := Lib.hid (HT.out.rule hw1); clear HT hw1 hru
  rw [show List.range 12 = [0, 1, 2, 3, 4, 5, 6, 7, 8, 9, 10, 11] from rfl]
  simp only [putsV, VT1, VE, List.findIdx?_cons, List.findIdx?_nil, List.getElem?_toArray, List.getElem?_cons_succ, List.getElem?_cons_zero, Option.bind_some]
  go_simp
  rcases hcase with ⟨rfl, rfl⟩ | ⟨rfl, rfl⟩
  · obtain ⟨e0, e1, e2, e3⟩ := HS.out.rc
    obtain ⟨f0, f1, f2, f3⟩ := HS.out.rf
    go_wp2
    refine bodyPost_ret (v := .tuple #[aggX le0, .bool false]) ?_ rfl ⟨_, rfl, takeRet_none le0, ?_⟩
    · rw [results_cell_tmp rfl]
      go_simp
      rfl
    · exact One.same rfl H.out.1 (by rw [setCell_size, setCell_size, setCell_size, setCell_size, HS.out.size]; omega) fun b hb => (set4 w1 (by omega) _ _ _ _).trans (HS.out.eqb b hb)
  · go_wp2
    refine t4_wp (g := g) (og := og) (xb := w.heap.size) (rl := w.heap.size + 2) (num := num) (xn := xn) (r := r) (by kernel_rfl) rfl rfl rfl rfl (HS.out.eqb.at H.out.1) ?_ (cells_at HS.out.lh 1 _ rfl) (cells_at HS.out.lh 2 _ rfl) (cells_at HS.out.xh 3 _ rfl) fun w2 hw2 => ?_
    · have := HS.out.eqb g hgl
      simp only [World.frozen?, this]
      exact H.out.2.1
    have HU := Lib.hid (HS.out.setN hgl hw2); clear hw2
    rw [show List.range 16 = [0, 1, 2, 3, 4, 5, 6, 7, 8, 9, 10, 11, 12, 13, 14, 15] from rfl]
    simp only [putsV, VT4, VE, List.findIdx?_cons, List.findIdx?_nil, List.getElem?_toArray, List.getElem?_cons_succ, List.getElem?_cons_zero, Option.bind_some]
    go_simp
    have hmo := H.out.2.2.2.2.2 r rfl
    obtain ⟨rk, rt, rp, md, sd, dt, af⟩ := r
    simp only at hmo
    have htk : takeO (some ⟨rk, rt, rp, md, sd, dt, af⟩) num ⟨xt, xto, xk, xn⟩ = (w64 (w64 (w64 (rt * num) + rp) + xn), if md = 0 ∨ (w64 (w64 (w64 (rt * num) + rp) + xn)).tmod md ≠ 0 then none else some ⟨xt + af, dt, sd, w64 (w64 (w64 (rt * num) + rp) + xn)⟩) := rfl
    have hnum := H.out.1
    clear H
    simp only at HU ⊢
    obtain ⟨N, hN⟩ : ∃ N, w64 (w64 (w64 (rt * num) + rp) + xn) = N := ⟨_, rfl⟩
    rw [hN] at HU htk ⊢
    clear hN
    have c0 := HU.out.num ⟨_, hnum⟩
    have c3 := cells_at HU.out.lh 3 _ rfl
    obtain ⟨e0, e1, e2, e3⟩ := HU.out.rc
    obtain ⟨f0, f1, f2, f3⟩ := HU.out.rf
    have hx0 := cells_at HU.out.xh 0 _ rfl
    simp only at c3 hx0
    clear hnum
    by_cases hm0 : md = 0
    · subst hm0
      rw [if_pos (.inl rfl)] at htk
      have HK := Lib.hid htk; clear htk
      clear hx0 hmo
      go_wp2
      go_quiet (fail)
      go_wp2
      refine bodyPost_ret (v := .tuple #[aggX le0, .bool false]) ?_ rfl ⟨_, rfl, by rw [HK.out]; exact takeRet_none le0, ?_⟩
      · rw [results_cell_tmp rfl]
        go_simp
        rfl
      · rw [HK.out]; exact (HU.out.same (W' := w2.drewN nq) rfl).fin hgl _ _ _ _
    have hm1 : (md == 0) = false := by simp [hm0]
    by_cases hn0 : N.tmod md = 0
    · rw [if_neg (by rintro (h | h); exact hm0 h; exact h hn0)] at htk
      have HK := Lib.hid htk; clear htk
      clear e0 e1 e2 e3 f0 f1 f2 f3 hx0
      have hn1 : (N.tmod md != 0) = false := by simp [hn0]
      have hmo2 := Lib.hid hmo; clear hmo
      clear hn0
      go_wp2
      go_quiet (fail)
      go_wp2
      have HV := Lib.hid (HU.out.same (W' := w2.drewN nq) rfl)
      have hgs : g < w.heap.size := hgl
      refine t7_wp (g := g) (og := og) (xb := w.heap.size) (rl := w.heap.size + 2) (re := w.heap.size + 1) (num := N) (xt := xt) (r := ⟨rk, rt, rp, md, sd, dt, af⟩) (by kernel_rfl) rfl rfl rfl rfl rfl ((World.cell?_of_block (by rfl)).trans c0) (cells_at HV.out.xh 0 _ rfl) (cells_at HV.out.lh 4 _ rfl) (cells_at HV.out.lh 5 _ rfl) (cells_at HV.out.lh 6 _ rfl) HV.out.rh rfl (by omega) (by omega) (by omega) fun w3 h3 h4 h5 => ?_
      have HX := Lib.hid (And.intro h3 (And.intro h4 h5)); clear h3 h4 h5
      rw [show List.range 15 = [0, 1, 2, 3, 4, 5, 6, 7, 8, 9, 10, 11, 12, 13, 14] from rfl]
      simp only [putsV, VT7, VE, List.findIdx?_cons, List.findIdx?_nil, List.getElem?_toArray, List.getElem?_cons_succ, List.getElem?_cons_zero, Option.bind_some]
      go_simp
      have ha : w64 (xt + af) = xt + af := by
        have := hmo2.out.2 (by intro h; subst h; simp at hm1)
        exact w64_small (by omega) (by omega)
      have e0 := cells_at HX.out.2.2 0 _ rfl
      have e1 := cells_at HX.out.2.2 1 _ rfl
      have e2 := cells_at HX.out.2.2 2 _ rfl
      have e3 := cells_at HX.out.2.2 3 _ rfl
      go_wp2
      refine bodyPost_ret (v := .tuple #[aggX ⟨xt + af, dt, sd, N⟩, .bool true]) ?_ rfl ⟨_, rfl, by rw [HK.out]; exact takeRet_some _, ?_⟩
      · rw [results_cell_tmp rfl]
        go_simp
        first | rfl | (simp only [ha]; rfl)
      · rw [HK.out]
        exact HV.out.one.more hgl (by rw [HX.out.2.1, HV.out.size]; omega) fun b hb => HX.out.1 b (by omega)
    · rw [if_pos (.inr hn0)] at htk
      have HK := Lib.hid htk; clear htk
      have hn1 : (N.tmod md != 0) = true := by simp [hn0]
      clear hx0 hmo hn0
      go_wp2
      go_quiet (fail)
      go_wp2
      refine bodyPost_ret (v := .tuple #[aggX le0, .bool false]) ?_ rfl ⟨_, rfl, by rw [HK.out]; exact takeRet_none le0, ?_⟩
      · rw [results_cell_tmp rfl]
        go_simp
        rfl
      · rw [HK.out]; exact (HU.out.same (W' := w2.drewN nq) rfl).fin hgl _ _ _ _
end Go.Proofs.Yticdjkkcfdbdcaa
