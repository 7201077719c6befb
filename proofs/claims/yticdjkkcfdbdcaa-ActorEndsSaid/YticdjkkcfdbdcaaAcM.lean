/- Maps whose keys are ints: what a lookup, a store, a deletion makes of them. No conditions but those named. -/
import Derived.Test.YticdjkkcfdbdcaaAcR
namespace Go.Proofs.Yticdjkkcfdbdcaa
open Go.RowKit
abbrev Assoc := List (Int × Value)
def getI : Assoc → Int → Option Value
  | [], _ => none
  | p :: l, k => if p.1 = k then some p.2 else getI l k
def putI : Assoc → Int → Value → Assoc
  | [], k, v => [(k, v)]
  | p :: l, k, v => if p.1 = k then (k, v) :: l else p :: putI l k v
def delI : Assoc → Int → Assoc
  | [], _ => []
  | p :: l, k => if p.1 = k then l else p :: delI l k
def posI : Assoc → Int → Option Nat
  | [], _ => none
  | p :: l, k => if p.1 = k then some 0 else (posI l k).map (· + 1)
/-- The entries are those. -/
def EntI (es : List MapEntry) (l : Assoc) : Prop := es.map (fun e => (e.key, e.val)) = l.map fun p => (Value.int .i64 p.1, p.2)
theorem EntI.find {d : IntKind} : ∀ {es : List MapEntry} {l : Assoc} (k : Int) (i : Nat), EntI es l → Instr.findNow (.int d) (.int .i64 k) es i = some (match posI l k, getI l k with | some n, some v => some (i + n, v) | _, _ => none)
  | [], [], k, i, _ => rfl
  | [], _ :: _, _, _, h => by cases h
  | _ :: _, [], _, _, h => by cases h
  | e :: es, p :: l, k, i, h => by
    simp only [EntI, List.map_cons, List.cons.injEq, Prod.mk.injEq] at h
    obtain ⟨⟨h1, h2⟩, h3⟩ := h
    have ih := EntI.find (d := d) (es := es) (l := l) k (i + 1) h3
    unfold Instr.findNow
    rw [h1]
    show (match (if IntKind.i64 = IntKind.i64 then some (k == p.1) else none) with | some true => _ | some false => _ | none => _) = _
    rw [if_pos rfl]
    by_cases e0 : p.1 = k
    · have : (k == p.1) = true := by simp [e0]
      rw [this]
      simp only [posI, getI, if_pos e0, h2, Nat.add_zero]
    · have : (k == p.1) = false := by simp; exact fun h => e0 h.symm
      rw [this]
      simp only [posI, getI, if_neg e0]
      rw [ih]
      cases posI l k <;> cases getI l k <;> simp <;> omega
theorem posI_get : ∀ (l : Assoc) (k : Int), (posI l k = none ∧ getI l k = none) ∨ ∃ n v, posI l k = some n ∧ getI l k = some v ∧ n < l.length
  | [], _ => .inl ⟨rfl, rfl⟩
  | p :: l, k => by
    by_cases e0 : p.1 = k
    · exact .inr ⟨0, p.2, by simp [posI, e0], by simp [getI, e0], by simp⟩
    · rcases posI_get l k with ⟨h1, h2⟩ | ⟨n, v, h1, h2, h3⟩
      · exact .inl ⟨by simp [posI, e0, h1], by simp [getI, e0, h2]⟩
      · exact .inr ⟨n + 1, v, by simp [posI, e0, h1], by simp [getI, e0, h2], by simp; omega⟩
theorem getI_put_same (l : Assoc) (k : Int) (v : Value) : getI (putI l k v) k = some v := by
  induction l with
  | nil => simp [putI, getI]
  | cons p l ih => unfold putI; split <;> simp_all [getI]
theorem getI_put_other (l : Assoc) {k j : Int} (v : Value) (h : j ≠ k) : getI (putI l k v) j = getI l j := by
  induction l with
  | nil => simp [putI, getI, Ne.symm h]
  | cons p l ih =>
    unfold putI
    split
    · rename_i e
      simp only [getI]
      rw [if_neg (fun e => h e.symm), if_neg (fun e2 => h (e2.symm.trans e))]
    · simp only [getI, ih]
/-- Block r is a map of those. -/
def MapI (w : World) (r : Nat) (l : Assoc) : Prop := ∃ es clock, w.heap[r]? = some (.map es clock) ∧ EntI es.toList l
section
variable {P : Program} {w : World} {r : Nat} {l : Assoc} {t kt et : TypeId} {d : IntKind} {z : Value}
theorem run_und {x : TypeDesc} {t : TypeId} (h : P.underlying t = some x) (w : World) : (underlying t).run P w = .ok x w := by
  show (match P.underlying t with | some d => Sem.pure d | none => stuck "no such type").run P w = _
  rw [h]
  rfl
theorem run_getObj {es : Array MapEntry} {clock : Nat} {r : Nat} {w : World} (h : w.heap[r]? = some (.map es clock)) : (getObj r).run P w = .ok (.map es clock) w := by
  simp [getObj, Sem.run, h]
theorem run_checkI (hk : P.underlying kt = some (.int d)) (b : Bool) (k : Int) (w : World) : (Instr.checkKey b 10000 kt (.int .i64 k)).run P w = .ok () w := by
  unfold Instr.checkKey
  simp [go_sem, run_und hk]
theorem run_findI (hk : P.underlying kt = some (.int d)) {es : List MapEntry} (k : Int) {x : Option (Nat × Value)} (h : Instr.findNow (.int d) (.int .i64 k) es 0 = some x) (w : World) : (Instr.findKey kt (.int .i64 k) es).run P w = .ok x w := by
  unfold Instr.findKey
  simp [go_sem, run_und hk, h]
theorem run_lookupI (ht : P.underlying t = some (.map kt et)) (hk : P.underlying kt = some (.int d)) (hz : ∀ w, (zeroValue et).run P w = .ok z w) (h : MapI w r l) (k : Int) :
    (Instr.lookup t (.map (some r)) (.int .i64 k) false).run P w = .ok ((getI l k).getD z) w := by
  obtain ⟨es, clock, hw, he⟩ := h
  have hf := he.find (d := d) k 0
  rcases posI_get l k with ⟨h1, h2⟩ | ⟨n, v, h1, h2, _⟩
  · rw [h1, h2] at hf
    have q1 := fun b w => run_checkI (P := P) (w := w) hk b k
    have q2 := fun w => run_findI (P := P) hk k hf w
    unfold Instr.lookup
    simp [go_sem, run_und ht, run_getObj hw, q1, q2, hz, h2]
  · rw [h1, h2] at hf
    have q1 := fun b w => run_checkI (P := P) (w := w) hk b k
    have q2 := fun w => run_findI (P := P) hk k hf w
    unfold Instr.lookup
    simp [go_sem, run_und ht, run_getObj hw, q1, q2, hz, h2]
theorem run_lookupOkI (ht : P.underlying t = some (.map kt et)) (hk : P.underlying kt = some (.int d)) (hz : ∀ w, (zeroValue et).run P w = .ok z w) (h : MapI w r l) (k : Int) :
    (Instr.lookup t (.map (some r)) (.int .i64 k) true).run P w = .ok (.tuple #[(getI l k).getD z, .bool (getI l k).isSome]) w := by
  obtain ⟨es, clock, hw, he⟩ := h
  have hf := he.find (d := d) k 0
  rcases posI_get l k with ⟨h1, h2⟩ | ⟨n, v, h1, h2, _⟩
  · rw [h1, h2] at hf
    have q1 := fun b w => run_checkI (P := P) (w := w) hk b k
    have q2 := fun w => run_findI (P := P) hk k hf w
    unfold Instr.lookup
    simp [go_sem, run_und ht, run_getObj hw, q1, q2, hz, h2]
  · rw [h1, h2] at hf
    have q1 := fun b w => run_checkI (P := P) (w := w) hk b k
    have q2 := fun w => run_findI (P := P) hk k hf w
    unfold Instr.lookup
    simp [go_sem, run_und ht, run_getObj hw, q1, q2, hz, h2]
omit P w r t kt et d z in
theorem putI_new {l : Assoc} {k : Int} (h : getI l k = none) (v : Value) : putI l k v = l ++ [(k, v)] := by
  induction l with
  | nil => rfl
  | cons p l ih =>
    simp only [getI] at h
    split at h
    · cases h
    · rename_i e
      simp only [putI, if_neg e, ih h, List.cons_append]
theorem EntI.put_new {es : List MapEntry} {l : Assoc} (h : EntI es l) {k : Int} (hg : getI l k = none) (v : Value) (b : Nat) : EntI (es ++ [⟨.int .i64 k, v, b⟩]) (putI l k v) := by
  rw [putI_new hg]
  simp only [EntI, List.map_append, List.map_cons, List.map_nil] at h ⊢
  rw [h]
theorem EntI.put_old : ∀ {es : List MapEntry} {l : Assoc} {k : Int} {n : Nat} (v : Value), EntI es l → posI l k = some n → (∃ e, es[n]? = some e ∧ e.key = .int .i64 k) ∧ EntI (es.modify n fun e => { e with key := .int .i64 k, val := v }) (putI l k v)
  | [], _ :: _, _, _, _, h, _ => by cases h
  | _ :: _, [], _, _, _, h, _ => by cases h
  | [], [], _, _, _, _, h => by cases h
  | e :: es, p :: l, k, n, v, h, hp => by
    simp only [EntI, List.map_cons, List.cons.injEq, Prod.mk.injEq] at h
    obtain ⟨⟨h1, h2⟩, h3⟩ := h
    simp only [posI] at hp
    by_cases e0 : p.1 = k
    · rw [if_pos e0] at hp
      cases hp
      refine ⟨⟨e, rfl, by rw [h1, e0]⟩, ?_⟩
      simp only [putI, if_pos e0, EntI, List.modify_zero_cons, List.map_cons, h3]
    · rw [if_neg e0] at hp
      obtain ⟨m, hm, rfl⟩ := Option.map_eq_some_iff.1 hp
      obtain ⟨⟨e', q1, q2⟩, q3⟩ := EntI.put_old (es := es) v h3 hm
      refine ⟨⟨e', by simpa using q1, q2⟩, ?_⟩
      simp only [putI, if_neg e0, EntI, List.modify_succ_cons, List.map_cons, h1, h2]
      rw [show List.map (fun e : MapEntry => (e.key, e.val)) (es.modify m fun e => { e with key := .int .i64 k, val := v }) = _ from q3]
theorem run_setObj {r : Nat} {w : World} {es : Array MapEntry} {clock : Nat} {o : Obj} (h : w.heap[r]? = some (.map es clock)) : (setObj r o).run P w = .ok () { w with heap := w.heap.setIfInBounds r o } := by
  simp [setObj, Sem.run, h]
theorem run_updateI (ht : P.underlying t = some (.map kt et)) (hk : P.underlying kt = some (.int d)) (h : MapI w r l) (k : Int) (v : Value) :
    ∃ es' c', EntI es'.toList (putI l k v) ∧ (Instr.mapUpdate t (.map (some r)) (.int .i64 k) v).run P w = .ok () { w with heap := w.heap.setIfInBounds r (.map es' c') } := by
  obtain ⟨es, clock, hw, he⟩ := h
  have hf := he.find (d := d) k 0
  rcases posI_get l k with ⟨h1, h2⟩ | ⟨n, u, h1, h2, _⟩
  · rw [h1, h2] at hf
    have q1 := fun b w => run_checkI (P := P) (w := w) hk b k
    have q2 := fun w => run_findI (P := P) hk k hf w
    refine ⟨es.push ⟨.int .i64 k, v, clock⟩, clock + 1, by rw [Array.toList_push]; exact he.put_new h2 v clock, ?_⟩
    unfold Instr.mapUpdate
    simp [go_sem, run_und ht, run_getObj hw, q1, q2, run_setObj hw]
  · rw [h1, h2] at hf
    have q1 := fun b w => run_checkI (P := P) (w := w) hk b k
    have q2 := fun w => run_findI (P := P) hk k hf w
    obtain ⟨⟨e, p1, p2⟩, p3⟩ := he.put_old v h1
    have p1' : es[n]? = some e := by simpa using p1
    refine ⟨es.modify n fun e => { e with key := .int .i64 k, val := v }, clock, by rw [Array.toList_modify]; exact p3, ?_⟩
    have q3 : ∀ w, (Instr.keyThatStays (.int .i64 k) (.int .i64 k)).run P w = .ok (.int .i64 k) w := fun w => by
      unfold Instr.keyThatStays
      rw [if_pos (by simp [Instr.sameBits])]
      rfl
    unfold Instr.mapUpdate
    simp [go_sem, run_und ht, run_getObj hw, q1, q2, run_setObj hw, p1', p2, q3]
end
end Go.Proofs.Yticdjkkcfdbdcaa
