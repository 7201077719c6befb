/- Ranging over a map from names to numbers, as a function. No conditions. -/
import Derived.Test.YtgiceeholamphaaDoorMap
namespace Go.Proofs.YtgiceeholamphaaDoor
open Go.ChangeShapes Go.WideShapes Go.ChangeAt Go.RowKit Go.Maps

/-- A range over the map in block b is under way (its iterator: block r): the names that are still to come. -/
def LeftAt (w : World) (e : TypeId) (b r N : Nat) (f : ByteArray → Option Int) (todo : ByteArray → Bool) (cnt : Nat) : Prop :=
  ∃ (D : DataW Unit) (left : Lit → Bool), w.ranges Tryd.prog 9 (plainElem Tryd.prog e) b r N D left cnt ∧ Says D f ∧ ∀ s, left (keyL s) = todo s
section
variable {w w' : World} {e : TypeId} {b r N cnt : Nat} {f : ByteArray → Option Int} {todo : ByteArray → Bool}
theorem LeftAt.left (h : LeftAt w e b r N f todo cnt) : w.rangeLeft b r = cnt := by obtain ⟨D, l, h, _⟩ := h; exact h.left_eq
theorem LeftAt.kept {row : Option Nat} (h : LeftAt w e b r N f todo cnt) (hg : w.grownBy w' row) (hb : some b ≠ row) (hr : some r ≠ row) : LeftAt w' e b r N f todo cnt := by
  obtain ⟨D, l, h, h'⟩ := h
  exact ⟨D, l, h.kept hg hb hr, h'⟩
theorem LeftAt.alloc (h : LeftAt w e b r N f todo cnt) (o : Obj) : LeftAt (w.alloc o) e b r N f todo cnt := h.kept (World.grownBy_alloc w o none) (by simp) (by simp)
theorem LeftAt.lt (h : LeftAt w e b r N f todo cnt) : r < w.heap.size := by obtain ⟨D, l, h, _⟩ := h; exact h.lt
theorem LeftAt.owns (h : LeftAt w e b r N f todo cnt) : MapAt w e b N f := by obtain ⟨D, l, h, h', _⟩ := h; exact ⟨D, h.owns, h'⟩
end
theorem sameKey_keyL (s t : ByteArray) : (keyL t).sameKey (keyL s) = decide (t = s) := by
  by_cases h : t = s
  · subst h
    rw [decide_eq_true rfl]
    exact WideAt.sameKey_self (isKey_keyL t)
  · rw [decide_eq_false h]
    exact sameKey_ne fun e => h (keyL_inj e)
section
variable {w : World} {ops : Array Oper} {rest : List Oper} {o : Oper} {a : Act} {Q : Exit → Act → World → Prop} {e : TypeId} {b N : Nat} {f : ByteArray → Option Int}
theorem wpList_map_range (hg : o.guard = none) (m : Operand) (t : TypeId) (hop : o.op = Op.range t m) (ht : Tryd.prog.underlying t = some (.map 9 e)) (hm : a.eval m = .map (some b)) (hown : MapAt w e b N f)
    (hK : ∀ w' cnt, LeftAt w' e b w.heap.size N f (fun s => (f s).isSome) cnt → cnt ≤ N → w.grownBy w' none → w'.heap.size = w.heap.size + 1 → wpList Tryd.prog ops Q rest (a.put o.dst (.pointer (some ⟨w.heap.size, 0, none⟩))) w') :
    wpList Tryd.prog ops Q (o :: rest) a w := by
  obtain ⟨D, h, h'⟩ := hown
  exact wpList_range_own w hg m t hop _ e kS ht _ b N D hm h fun w' h1 h2 h3 => hK w' _ ⟨D, _, h1, h', h'.has⟩ h.size_le h2 h3
theorem wpList_map_next {r cnt : Nat} {todo : ByteArray → Bool} (hg : o.guard = none) (it : Operand) (hop : o.op = Op.next it false) (he : Tryd.prog.underlying e = some (.int .i64)) (hit : a.eval it = .pointer (some ⟨r, 0, none⟩)) (h : LeftAt w e b r N f todo cnt)
    (hDone : (∀ s, todo s = false) → wpList Tryd.prog ops Q rest (a.put o.dst (.tuple #[.bool false])) w)
    (hMore : ∀ (s : ByteArray) (c : Int) (w' : World) (cnt' : Nat), s.size ≤ maxLen → todo s = true → f s = some c → LeftAt w' e b r N f (fun t => todo t && !decide (t = s)) cnt' → cnt' < cnt → w.grownBy w' (some r) → w'.heap.size = w.heap.size →
      (Instr.entry (.pointer (some ⟨r, 0, none⟩))).run Tryd.prog w' = .ok (.tuple #[.string s, .int .i64 c]) w' → wpList Tryd.prog ops Q rest (a.put o.dst (.tuple #[.bool true, .string s, .int .i64 c])) w') :
    wpList Tryd.prog ops Q (o :: rest) a w := by
  obtain ⟨D, left, h, hs, hl⟩ := h
  refine wpList_next_ranges w hg it hop _ kS _ Value.string (Value.int .i64) (fun key kl hk => ?_) (fun v y hv => ?_) b r N D left cnt hit h (fun _ h0 => hDone fun s => by rw [← hl]; exact h0 _) fun x c kl y w' cnt' hk hlk hv hat hrg hlt hgr hsz hen => ?_
  · obtain ⟨s, e1, _, _⟩ := WideMaps.string_of_keyOf Tryd.underlying9 hk
    exact ⟨s, e1⟩
  · obtain ⟨c, e1, _⟩ := plainElem_int_inv he hv
    exact ⟨c, e1⟩
  · obtain ⟨s, e1, e2, hsz'⟩ := WideMaps.string_of_keyOf Tryd.underlying9 hk
    obtain rfl := Value.string.inj e1
    obtain ⟨c', e3, e4, _⟩ := plainElem_int_inv he hv
    obtain ⟨_, rfl⟩ := Value.int.inj e3
    obtain rfl : kl = keyL x := e2
    rw [e4] at hat
    have hf : f x = some c := by
      have h1 := has_true_of_atKey (D := D) (k := keyL x) hat
      rw [hs.has] at h1
      obtain ⟨c1, hc1⟩ := Option.isSome_iff_exists.1 h1
      have h2 := hs.val x c1 hc1 (.lit (.int .i64 0))
      have h3 := (hat (.lit (.int .i64 0))).symm.trans h2
      have h4 := (Lit.int.inj (DataW.lit.inj h3)).2
      rw [hc1, h4]
    exact hMore x c w' cnt' hsz' ((hl x).symm.trans hlk) hf ⟨D, _, hrg, hs, fun t => by rw [hl t, sameKey_keyL]⟩ hlt hgr hsz hen
end
end Go.Proofs.YtgiceeholamphaaDoor
