/- Maps from names to numbers, as functions: what a look-up gives, what a store makes. No conditions. -/
import Derived.Test.YtgiceeholamphaaDoorOwn
import Derived.Maps.OwnSet
import Derived.Maps.RangeWalk
import Derived.StringKeys
namespace Go.Proofs.YtgiceeholamphaaDoor
open Go.ChangeShapes Go.WideShapes Go.ChangeAt Go.RowKit Go.Maps

theorem bytes_data {s t : ByteArray} (h : s.data.toList = t.data.toList) : s = t := by
  obtain ⟨a⟩ := s
  obtain ⟨b⟩ := t
  congr 1
  exact Array.ext' h
def keyL (s : ByteArray) : Lit := .string s.data.toList
theorem keyL_inj {s t : ByteArray} (h : keyL s = keyL t) : s = t := by
  unfold keyL at h
  injection h with h
  exact bytes_data h
theorem isKey_keyL (s : ByteArray) : WideAt.IsKeyLit (keyL s) := trivial
/-- A map as a function. -/
def upd (f : ByteArray → Option Int) (s : ByteArray) (v : Int) : ByteArray → Option Int := fun t => if t = s then some v else f t
theorem upd_same (f : ByteArray → Option Int) (s : ByteArray) (v : Int) : upd f s v s = some v := if_pos rfl
theorem upd_other (f : ByteArray → Option Int) {s t : ByteArray} (v : Int) (h : t ≠ s) : upd f s v t = f t := if_neg h
/-- D is a map from names that says what f says. -/
structure Says (D : DataW Unit) (f : ByteArray → Option Int) : Prop where
  has : ∀ s, Maps.has D (keyL s) = (f s).isSome
  val : ∀ s c, f s = some c → ∀ z, D.atKey (keyL s) z = .lit (.int .i64 c)
/-- Block b is a map (its elements of type e) of at most N entries that says what f says. -/
def MapAt (w : World) (e : TypeId) (b N : Nat) (f : ByteArray → Option Int) : Prop := ∃ D : DataW Unit, w.ownsMap Tryd.prog 9 (plainElem Tryd.prog e) b N D ∧ Says D f
theorem Says.empty : Says (.map []) (fun _ => none) := ⟨fun _ => rfl, fun s c h => by cases h⟩
theorem Says.put {D : DataW Unit} {f : ByteArray → Option Int} (h : Says D f) (hD : IsMap D) (s : ByteArray) (v : Int) : Says (D.put (keyL s) (.lit (.int .i64 v))) (upd f s v) where
  has := fun t => by
    by_cases e : t = s
    · subst e
      rw [upd_same, has_put_same hD (isKey_keyL t)]; rfl
    · rw [upd_other f v e, has_put_other (fun h => e (keyL_inj h)), h.has]
  val := fun t c hc z => by
    by_cases e : t = s
    · subst e
      rw [upd_same] at hc
      injection hc with hc
      rw [atKey_put_same hD (isKey_keyL t), hc]
    · rw [upd_other f v e] at hc
      rw [atKey_put_other (fun h => e (keyL_inj h))]
      exact h.val t c hc z
theorem Says.get {D : DataW Unit} {f : ByteArray → Option Int} (h : Says D f) (s : ByteArray) : D.atKey (keyL s) (.lit (.int .i64 0)) = .lit (.int .i64 ((f s).getD 0)) := by
  cases hf : f s with
  | none => exact atKey_of_not_has (by rw [h.has, hf]; rfl) _
  | some c => exact h.val s c hf _
section
variable {w w' : World} {e : TypeId} {b N : Nat} {f : ByteArray → Option Int}
theorem MapAt.lt (h : MapAt w e b N f) : b < w.heap.size := by obtain ⟨D, h, _⟩ := h; exact h.lt
theorem MapAt.mono (h : MapAt w e b N f) {M : Nat} (hM : N ≤ M) : MapAt w e b M f := by obtain ⟨D, h, h'⟩ := h; exact ⟨D, h.mono hM, h'⟩
theorem MapAt.kept {row : Option Nat} (h : MapAt w e b N f) (hg : w.grownBy w' row) (hne : some b ≠ row) : MapAt w' e b N f := by obtain ⟨D, h, h'⟩ := h; exact ⟨D, h.kept hg hne, h'⟩
theorem MapAt.block (h : MapAt w e b N f) (hb : w'.heap[b]? = w.heap[b]?) : MapAt w' e b N f := by
  obtain ⟨D, ⟨es, clock, h1, h2⟩, h'⟩ := h
  exact ⟨D, ⟨es, clock, hb.trans h1, h2⟩, h'⟩
theorem MapAt.below (h : MapAt w e b N f) {B : Nat} (hb : Below B w w') (hB : b < B) : MapAt w' e b N f := h.block (hb.block b hB)
theorem MapAt.alloc (h : MapAt w e b N f) (o : Obj) : MapAt (w.alloc o) e b N f := by obtain ⟨D, h, h'⟩ := h; exact ⟨D, h.alloc o, h'⟩
theorem MapAt.drew (h : MapAt w e b N f) : MapAt w.drew e b N f := h
theorem MapAt.made (w : World) (e : TypeId) : MapAt (w.alloc (.map #[] 0)) e w.heap.size 0 (fun _ => none) := ⟨_, World.ownsMap_made _ _ _ _, Says.empty⟩
theorem MapAt.setCell (h : MapAt w e b N f) {p : Addr} (hp : b ≠ p.block) (u : Value) : MapAt (w.setCell p u) e b N f := by
  obtain ⟨D, h, h'⟩ := h
  exact ⟨D, h.setCell hp u, h'⟩
theorem MapAt.ext (h : MapAt w e b N f) {g : ByteArray → Option Int} (hg : ∀ s, f s = g s) : MapAt w e b N g := by
  obtain rfl : f = g := funext hg
  exact h
end
theorem kS : Keyed Tryd.prog 9 := string_keyed Tryd.underlying9
theorem zero_int (w : World) : (zeroValue 3).run Tryd.prog w = .ok (.int .i64 0) w := by kernel_rfl
theorem zero_int64 (w : World) : (zeroValue 2).run Tryd.prog w = .ok (.int .i64 0) w := by kernel_rfl
section
variable {w : World} {ops : Array Oper} {rest : List Oper} {o : Oper} {a : Act} {Q : Exit → Act → World → Prop} {e : TypeId} {b N : Nat} {f : ByteArray → Option Int}
/-- m[s] -/
theorem wpList_map_get (hg : o.guard = none) (m x : Operand) (t : TypeId) (hop : o.op = Op.lookup t m x false) (he : Tryd.prog.underlying e = some (.int .i64)) (hz : (zeroValue e).run Tryd.prog w = .ok (.int .i64 0) w) (ht : Tryd.prog.underlying t = some (.map 9 e))
    (hm : a.eval m = .map (some b)) (hown : MapAt w e b N f) (s : ByteArray) (hs : s.size ≤ maxLen) (hx : a.eval x = .string s)
    (hK : wpList Tryd.prog ops Q rest (a.put o.dst (.int .i64 ((f s).getD 0))) w) : wpList Tryd.prog ops Q (o :: rest) a w := by
  obtain ⟨D, h, h'⟩ := hown
  refine wpList_lookup_own_int w hg m x t hop _ e .i64 kS ht he hz b N D hm h (.string s) (keyL s) hx (WideMaps.keyOf_string_mk Tryd.underlying9 hs) fun c hat _ => ?_
  rw [h'.get s] at hat
  injection hat with hat
  injection hat with _ hat
  rw [← hat]
  exact hK
/-- v, ok := m[s] -/
theorem wpList_map_ok (hg : o.guard = none) (m x : Operand) (t : TypeId) (hop : o.op = Op.lookup t m x true) (he : Tryd.prog.underlying e = some (.int .i64)) (hz : (zeroValue e).run Tryd.prog w = .ok (.int .i64 0) w) (ht : Tryd.prog.underlying t = some (.map 9 e))
    (hm : a.eval m = .map (some b)) (hown : MapAt w e b N f) (s : ByteArray) (hs : s.size ≤ maxLen) (hx : a.eval x = .string s)
    (hK : wpList Tryd.prog ops Q rest (a.put o.dst (.tuple #[.int .i64 ((f s).getD 0), .bool (f s).isSome])) w) : wpList Tryd.prog ops Q (o :: rest) a w := by
  obtain ⟨D, h, h'⟩ := hown
  refine wpList_lookup_own_ok_int w hg m x t hop _ e .i64 kS ht he hz b N D hm h (.string s) (keyL s) hx (WideMaps.keyOf_string_mk Tryd.underlying9 hs) fun c hat _ => ?_
  rw [h'.get s] at hat
  injection hat with hat
  injection hat with _ hat
  rw [← hat, h'.has s]
  exact hK
/-- m[s] = v -/
theorem wpList_map_set (hg : o.guard = none) (m x v : Operand) (t : TypeId) (hop : o.op = Op.mapUpdate t m x v) (he : Tryd.prog.underlying e = some (.int .i64)) (ht : Tryd.prog.underlying t = some (.map 9 e))
    (hm : a.eval m = .map (some b)) (hown : MapAt w e b N f) (hN : N < maxLen) (s : ByteArray) (hs : s.size ≤ maxLen) (hx : a.eval x = .string s) (c : Int) (hv : a.eval v = .int .i64 c) (hw : (Lit.int .i64 c).wf = true)
    (hK : ∀ w', MapAt w' e b (if (f s).isSome then N else N + 1) (upd f s c) → w.grownBy w' (some b) → wpList Tryd.prog ops Q rest (a.put o.dst undef) w') : wpList Tryd.prog ops Q (o :: rest) a w := by
  obtain ⟨D, h, h'⟩ := hown
  refine wpList_mapUpdate_own w hg m x v t hop _ e kS ht _ b N D hm h hN (.string s) (.int .i64 c) (keyL s) hx hv (WideMaps.keyOf_string_mk Tryd.underlying9 hs) _ [] (plainElem_int he hw) fun w' h1 h2 => ?_
  refine hK w' ⟨_, ?_, h'.put h.isMap s c⟩ h2
  split
  · rename_i hf
    have hsz := size_put (k := keyL s) (h.tidy kS) (.lit (.int .i64 c))
    rw [h'.has s, if_pos hf] at hsz
    have hle := h.size_le
    obtain ⟨es, clock, g1, g2, g3, g4⟩ := h1
    refine ⟨es, clock, g1, g2, ?_, g4⟩
    rw [g4, Maps.size_eq, Go.length_read] at hsz
    omega
  · exact h1
end
end Go.Proofs.YtgiceeholamphaaDoor
