/- Trees as they are read; their nodes, depth; what measure makes of them: plain Lean. No conditions. -/
import Derived.Test.YtokjchcmjglbhaaBase
namespace Go.Proofs.Ytokjchcmjglbhaa
open Go.ChangeShapes Go.WideShapes Go.ChangeAt Go.RowKit

/-- A tree as it is read: its fields; where its kids lie. -/
inductive TreeR where
  | mk (kind n : Int) (sA : Option Addr) (sc : Nat) (kids : List TreeR)
def TreeR.kind : TreeR → Int | .mk k _ _ _ _ => k
def TreeR.n : TreeR → Int | .mk _ n _ _ _ => n
def TreeR.sA : TreeR → Option Addr | .mk _ _ a _ _ => a
def TreeR.sc : TreeR → Nat | .mk _ _ _ c _ => c
def TreeR.kids : TreeR → List TreeR | .mk _ _ _ _ l => l
mutual
def TreeR.nodes : TreeR → Nat | .mk _ _ _ _ l => 1 + nodesL l
def nodesL : List TreeR → Nat
  | [] => 0
  | t :: l => t.nodes + nodesL l
end
mutual
def TreeR.depth : TreeR → Nat | .mk _ _ _ _ l => 1 + depthL l
def depthL : List TreeR → Nat
  | [] => 0
  | t :: l => max t.depth (depthL l)
end
theorem nodes_eq (t : TreeR) : t.nodes = 1 + nodesL t.kids := by cases t; simp [TreeR.nodes, TreeR.kids]
theorem depth_eq (t : TreeR) : t.depth = 1 + depthL t.kids := by cases t; simp [TreeR.depth, TreeR.kids]
theorem nodesL_append (a b : List TreeR) : nodesL (a ++ b) = nodesL a + nodesL b := by
  induction a with
  | nil => simp [nodesL]
  | cons x a ih => simp [nodesL, ih]; omega
theorem nodes_le {t : TreeR} {l : List TreeR} (h : t ∈ l) : t.nodes ≤ nodesL l := by
  induction l with
  | nil => cases h
  | cons x l ih =>
    simp only [nodesL]
    rcases List.mem_cons.1 h with rfl | h
    · omega
    · have := ih h; omega
theorem depth_le {t : TreeR} {l : List TreeR} (h : t ∈ l) : t.depth ≤ depthL l := by
  induction l with
  | nil => cases h
  | cons x l ih =>
    simp only [depthL]
    rcases List.mem_cons.1 h with rfl | h
    · omega
    · have := ih h; omega
theorem nodes_kid {t k : TreeR} (h : k ∈ t.kids) : k.nodes < t.nodes := by have := nodes_le h; rw [nodes_eq t]; omega
theorem TreeR.ind {p : TreeR → Prop} (h : ∀ t, (∀ k ∈ t.kids, p k) → p t) : ∀ t, p t := by
  have key : ∀ m t, TreeR.nodes t ≤ m → p t := by
    intro m
    induction m with
    | zero => intro t ht; rw [nodes_eq] at ht; omega
    | succ m ih => exact fun t ht => h t fun k hk => ih k (by have := nodes_kid hk; omega)
  exact fun t => key _ t (Nat.le_refl _)
/-- The cells of a tree, by value. -/
def TreeR.cells (t : TreeR) : List Value := [.int .i64 t.kind, .int .i64 t.n, .slice t.sA t.kids.length t.sc]
def TreeR.val (t : TreeR) : Value := .agg #[.int .i64 t.kind, .int .i64 t.n, .slice t.sA t.kids.length t.sc]
inductive RdT (w : World) (B : Nat) : TreeR → Prop
  | mk (t : TreeR) (row : t.kids ≠ [] → ∃ b o, t.sA = some ⟨b, o, none⟩ ∧ b < B ∧ ∀ (i : Nat) (h : i < t.kids.length), w.cell? ⟨b, o + i * 3, none⟩ = some (.int .i64 t.kids[i].kind) ∧ w.cell? ⟨b, o + i * 3 + 1, none⟩ = some (.int .i64 t.kids[i].n) ∧
      w.cell? ⟨b, o + i * 3 + 2, none⟩ = some (.slice t.kids[i].sA t.kids[i].kids.length t.kids[i].sc)) (each : ∀ k ∈ t.kids, RdT w B k) (fits : Fits t.kids.length) : RdT w B t
theorem RdT.kid {w : World} {B : Nat} {t k : TreeR} (h : RdT w B t) (hk : k ∈ t.kids) : RdT w B k := by cases h with | mk _ _ each _ => exact each k hk
theorem RdT.fits {w : World} {B : Nat} {t : TreeR} (h : RdT w B t) : Fits t.kids.length := by cases h with | mk _ _ _ f => exact f
theorem RdT.at_ {w : World} {B : Nat} {t : TreeR} (h : RdT w B t) {i : Nat} (hi : i < t.kids.length) : ∃ b o, t.sA = some ⟨b, o, none⟩ ∧ b < B ∧ w.cell? ⟨b, o + i * 3, none⟩ = some (.int .i64 t.kids[i].kind) ∧ w.cell? ⟨b, o + i * 3 + 1, none⟩ = some (.int .i64 t.kids[i].n) ∧
      w.cell? ⟨b, o + i * 3 + 2, none⟩ = some (.slice t.kids[i].sA t.kids[i].kids.length t.kids[i].sc) := by
  cases h with
  | mk _ row _ _ =>
    obtain ⟨b, o, e, hb, hc⟩ := row (fun e => by rw [e] at hi; simp at hi)
    exact ⟨b, o, e, hb, hc i hi⟩
theorem RdT.keep {w w' : World} {B : Nat} {t : TreeR} (h : RdT w B t) (hk : ∀ p : Addr, p.block < B → w'.cell? p = w.cell? p) : RdT w' B t := by
  induction h with
  | mk t row each f ih =>
    refine ⟨t, fun hn => ?_, ih, f⟩
    obtain ⟨b, o, e, hb, hc⟩ := row hn
    refine ⟨b, o, e, hb, fun i hi => ?_⟩
    obtain ⟨h0, h1, h2⟩ := hc i hi
    exact ⟨(hk _ hb).trans h0, (hk _ hb).trans h1, (hk _ hb).trans h2⟩
theorem RdT.under {w w' : World} {B : Nat} {t : TreeR} (h : RdT w B t) (hb : Below B w w') : RdT w' B t := h.keep fun _ hp => hb.cell hp
theorem RdT.more {w : World} {B B' : Nat} {t : TreeR} (h : RdT w B t) (hB : B ≤ B') : RdT w B' t := by
  induction h with
  | mk t row each f ih =>
    refine ⟨t, fun hn => ?_, ih, f⟩
    obtain ⟨b, o, e, hb, hc⟩ := row hn
    exact ⟨b, o, e, by omega, hc⟩

/-! ### What measure makes of a tree -/
def badT (t : TreeR) : Prop := t.kind < 1 ∨ 5 < t.kind ∨ 100 < t.kids.length ∨ (t.kind = 1 ∧ 0 < t.kids.length) ∨ (t.kind ≠ 1 ∧ t.n ≠ 0)
instance (t : TreeR) : Decidable (badT t) := inferInstanceAs (Decidable (_ ∨ _))
def foldM (f : TreeR → Nat × Nat × Bool) : List TreeR → Nat → Nat → Nat × Nat × Bool
  | [], n, d => (n, d + 1, true)
  | k :: l, n, d => if (f k).2.2 = true then foldM f l (n + (f k).1) (max d (f k).2.1) else (0, 0, false)
def meas : Nat → TreeR → Nat × Nat × Bool
  | 0, _ => (1, 1, true)
  | r + 1, t => if badT t then (0, 0, false) else foldM (meas r) t.kids 1 0
inductive AllOk : TreeR → Prop
  | mk (t : TreeR) (ok : ¬ badT t) (each : ∀ k ∈ t.kids, AllOk k) : AllOk t
theorem AllOk.kid {t k : TreeR} (h : AllOk t) (hk : k ∈ t.kids) : AllOk k := by cases h with | mk _ _ each => exact each k hk
theorem AllOk.ok {t : TreeR} (h : AllOk t) : ¬ badT t := by cases h with | mk _ ok _ => exact ok
theorem foldM_le {f : TreeR → Nat × Nat × Bool} : ∀ {l : List TreeR} {n d : Nat}, (∀ k ∈ l, (f k).1 ≤ k.nodes ∧ (f k).2.1 ≤ k.depth) → (foldM f l n d).1 ≤ n + nodesL l ∧ (foldM f l n d).2.1 ≤ 1 + max d (depthL l)
  | [], n, d, _ => by simp [foldM, nodesL, depthL]; omega
  | k :: l, n, d, h => by
    simp only [foldM, nodesL, depthL]
    have hk := h k (by simp)
    split
    · have := foldM_le (f := f) (l := l) (n := n + (f k).1) (d := max d (f k).2.1) fun x hx => h x (by simp [hx])
      omega
    · simp
theorem meas_le : ∀ (r : Nat) (t : TreeR), (meas r t).1 ≤ t.nodes ∧ (meas r t).2.1 ≤ t.depth
  | 0, t => by simp [meas]; rw [nodes_eq, depth_eq]; omega
  | r + 1, t => by
    simp only [meas]
    split
    · simp
    · have := foldM_le (f := meas r) (l := t.kids) (n := 1) (d := 0) fun k _ => meas_le r k
      rw [nodes_eq, depth_eq]; omega
theorem foldM_room {f : TreeR → Nat × Nat × Bool} {r : Nat} : ∀ {l : List TreeR} {n d : Nat}, (∀ k ∈ l, (f k).2.1 ≤ r + 1) → d ≤ r + 1 → (foldM f l n d).2.1 ≤ r + 2
  | [], n, d, _, hd => by simp [foldM]; omega
  | k :: l, n, d, h, hd => by
    have hk := h k (by simp)
    simp only [foldM]
    split
    · exact foldM_room (fun x hx => h x (by simp [hx])) (by omega)
    · simp
theorem meas_room : ∀ (r : Nat) (t : TreeR), (meas r t).2.1 ≤ r + 1
  | 0, t => by simp [meas]
  | r + 1, t => by
    simp only [meas]
    split
    · simp
    · exact foldM_room (fun k _ => meas_room r k) (by omega)
/-- Of a tree that is one: the nodes, the depth, as far as it looks. -/
theorem foldM_ok {f : TreeR → Nat × Nat × Bool} {r : Nat} : ∀ {l : List TreeR} {n d : Nat}, (∀ k ∈ l, (f k).2.2 = true ∧ (f k).2.1 = min k.depth (r + 1) ∧ (k.depth ≤ r + 1 → (f k).1 = k.nodes)) → d ≤ r + 1 →
    (foldM f l n d).2.2 = true ∧ (foldM f l n d).2.1 = 1 + min (max d (depthL l)) (r + 1) ∧ (depthL l ≤ r + 1 → (foldM f l n d).1 = n + nodesL l)
  | [], n, d, _, hd => by simp [foldM, nodesL, depthL]; omega
  | k :: l, n, d, h, hd => by
    have hk := h k (by simp)
    simp only [foldM, nodesL, depthL, if_pos hk.1]
    have := foldM_ok (f := f) (r := r) (l := l) (n := n + (f k).1) (d := max d (f k).2.1) (fun x hx => h x (by simp [hx])) (by omega)
    refine ⟨this.1, by omega, fun hh => ?_⟩
    have h1 := hk.2.2 (by omega)
    have h2 := this.2.2 (by omega)
    omega
theorem meas_ok : ∀ (r : Nat) (t : TreeR), AllOk t → (meas r t).2.2 = true ∧ (meas r t).2.1 = min t.depth (r + 1) ∧ (t.depth ≤ r + 1 → (meas r t).1 = t.nodes)
  | 0, t, _ => by
    have h1 := depth_eq t
    have h2 := nodes_eq t
    refine ⟨rfl, by simp [meas]; omega, fun h => ?_⟩
    have : t.kids = [] := by
      cases hk : t.kids with
      | nil => rfl
      | cons x l =>
        rw [hk] at h1
        simp only [depthL] at h1
        have := depth_eq x
        omega
    rw [this] at h2
    simp [meas, h2, nodesL]
  | r + 1, t, h => by
    simp only [meas, if_neg h.ok]
    have := foldM_ok (f := meas r) (r := r) (l := t.kids) (n := 1) (d := 0) (fun k hk => meas_ok r k (h.kid hk)) (by omega)
    have h1 := depth_eq t
    have h2 := nodes_eq t
    refine ⟨this.1, by omega, fun hh => ?_⟩
    have := this.2.2 (by omega)
    omega
end Go.Proofs.Ytokjchcmjglbhaa
