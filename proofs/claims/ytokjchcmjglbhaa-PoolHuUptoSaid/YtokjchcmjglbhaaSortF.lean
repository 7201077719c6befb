/- What the sort makes of the list that Greedy hands to it: the same numbers, the deepest ahead. No conditions but that what is read is there. -/
import Derived.Test.YtokjchcmjglbhaaCmp
import Derived.Test.YtokjchcmjglbhaaOff
namespace Go.Proofs.Ytokjchcmjglbhaa
open Go.ChangeShapes Go.WideShapes Go.ChangeAt Go.RowKit Go.Sort

def nats (l : List Nat) : List Int := l.map fun (x : Nat) => (x : Int)
@[simp] theorem length_nats (l : List Nat) : (nats l).length = l.length := by simp [nats]
theorem cmpDepth_neg (dep : Nat → Int) (a b : Nat) : cmpDepth dep a b < 0 ↔ dep b < dep a ∨ (dep a = dep b ∧ a < b) := by
  unfold cmpDepth orInt Lib.compareInt
  (repeat' split) <;> omega
theorem swo_depth (dep : Nat → Int) (N : Nat) : SWO (ltOf fun x y : Fin (N + 1) => cmpDepth dep x.val y.val) where
  irrefl x := by unfold ltOf; rw [decide_eq_false_iff_not, cmpDepth_neg]; omega
  trans x y z h1 h2 := by unfold ltOf at *; rw [decide_eq_true_eq, cmpDepth_neg] at *; omega
  ntrans x y z h1 h2 := by unfold ltOf at *; rw [decide_eq_false_iff_not, cmpDepth_neg] at *; omega
section
variable {N : Nat}
def finsOf (N : Nat) (l : List Nat) : Array (Fin (N + 1)) := (l.map (Fin.ofNat (N + 1))).toArray
theorem intsF_finsOf {l : List Nat} (h : ∀ x ∈ l, x < N + 1) : intsF (finsOf N l) = nats l := by
  unfold intsF finsOf nats
  rw [List.map_map]
  refine List.map_congr_left fun x hx => ?_
  have := h x hx
  simp [Fin.ofNat, Nat.mod_eq_of_lt this]
/-- The list in an array of such numbers. -/
def natsF (d : Array (Fin (N + 1))) : List Nat := d.toList.map (·.val)
theorem intsF_nats (d : Array (Fin (N + 1))) : intsF d = nats (natsF d) := by simp [intsF, nats, natsF]
theorem natsF_finsOf {l : List Nat} (h : ∀ x ∈ l, x < N + 1) : natsF (finsOf N l) = l := by
  unfold natsF finsOf
  rw [List.map_map]
  refine (List.map_congr_left (g := id) fun x hx => ?_).trans (by simp)
  have := h x hx
  simp [Fin.ofNat, Nat.mod_eq_of_lt this]
theorem natsF_perm {d d' : Array (Fin (N + 1))} (h : PermIn 0 d.size d d') : (natsF d').Perm (natsF d) := by
  have h1 := h.2.2
  have h2 : d'.extract 0 d.size = d' := by rw [← h.1]; simp
  rw [h2] at h1
  simp only [Array.extract_size] at h1
  exact h1.map _
theorem natsF_sorted {dep : Nat → Int} {d : Array (Fin (N + 1))} {n : Nat} (hn : n = d.size) (h : SortedIn (ltOf fun x y : Fin (N + 1) => cmpDepth dep x.val y.val) 0 n d) : (natsF d).Pairwise fun a b => dep b ≤ dep a := by
  subst hn
  rw [List.pairwise_iff_getElem]
  intro i j hi hj hij
  have hi' : i < d.size := by simpa [natsF] using hi
  have hj' : j < d.size := by simpa [natsF] using hj
  have h1 := h i j (Nat.zero_le _) hij hj'
  unfold ltOf at h1
  rw [decide_eq_false_iff_not, cmpDepth_neg] at h1
  simp only [natsF, List.getElem_map, Array.getElem_toList]
  rw [getElem!_pos d i hi', getElem!_pos d j hj'] at h1
  omega
end
section
variable {w : World} {bx lb cc N : Nat} {dep : Nat → Int}
theorem cmpLays_depth {g o : Nat} (hb1 : bx < w.heap.size) (hb2 : lb < w.heap.size) (hn1 : bx ≠ g) (hn2 : lb ≠ g)
    (hbox : w.cell? ⟨bx, 0, none⟩ = some (.slice (some ⟨lb, 0, none⟩) (N + 1) cc)) (hd : ∀ i, i < N + 1 → w.cell? ⟨lb, i * 3, none⟩ = some (.int .i64 (dep i))) (size : Nat) :
    Go.Proofs.CmpLays1 Try.prog 13 #[.pointer (some ⟨bx, 0, none⟩)] (encF (N := N)) (fun x y => cmpDepth dep x.val y.val) g o size w := fun m os dk _ x y => by
  have hc : ∀ b k, b < w.heap.size → b ≠ g → (sortWorld (encF (N := N)) w g o m dk os).cell? ⟨b, k, none⟩ = w.cell? ⟨b, k, none⟩ := fun b k hb hne => by
    unfold sortWorld
    rw [cell?_grow _ _ _ (by simpa using hb), cell?_putRow_other _ _ _ _ _ _ (.inl hne), cell?_ahead]
  have h := closure_any (sortWorld (encF (N := N)) w g o m dk os) bx lb (N + 1) cc dep ((hc bx 0 hb1 hn1).trans hbox) (fun i hi => (hc lb _ hb2 hn2).trans (hd i hi)) x.val y.val x.isLt y.isLt
  exact h
end
/-- What the sort does, said for Greedy. -/
def SortSays : Prop := ∀ (w : World) (base bx lb cc N : Nat) (dep : Nat → Int) (A : Option Addr) (c : Nat) (l : List Nat), OffR w base (.slice A l.length c) (nats l) → 0 < l.length → l.length ≤ 1048576 →
    (∀ x ∈ l, x < N + 1) → bx < w.heap.size → lb < w.heap.size → bx < base → lb < base →
    w.cell? ⟨bx, 0, none⟩ = some (.slice (some ⟨lb, 0, none⟩) (N + 1) cc) → (∀ i, i < N + 1 → w.cell? ⟨lb, i * 3, none⟩ = some (.int .i64 (dep i))) →
    Calls Try.prog 12 #[.slice A l.length c, .func (.func 13) #[] #[.pointer (some ⟨bx, 0, none⟩)]] w fun e w' =>
      e = .returned (.tuple #[]) ∧ ∃ l', l'.Perm l ∧ (l'.Pairwise fun a b => dep b ≤ dep a) ∧ OffR w' base (.slice A l.length c) (nats l') ∧ w.grownBy w' (Value.ownBlock (.slice A l.length c))
end Go.Proofs.Ytokjchcmjglbhaa
