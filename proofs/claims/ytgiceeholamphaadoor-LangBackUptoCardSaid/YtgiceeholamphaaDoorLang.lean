/- Programs as they are read: expressions, statements, blocks; their nodes, depth; where their rows lie: plain Lean. No conditions. -/
import Derived.Test.YtgiceeholamphaaDoorBase
namespace Go.Proofs.YtgiceeholamphaaDoor
open Go.ChangeShapes Go.WideShapes Go.ChangeAt Go.RowKit

/-- An expression as it is read: its fields; where its kids lie. -/
inductive ExprR where
  | mk (kind n : Int) (name : ByteArray) (sA : Option Addr) (sc : Nat) (kids : List ExprR)
def ExprR.kind : ExprR → Int | .mk k _ _ _ _ _ => k
def ExprR.n : ExprR → Int | .mk _ n _ _ _ _ => n
def ExprR.name : ExprR → ByteArray | .mk _ _ s _ _ _ => s
def ExprR.sA : ExprR → Option Addr | .mk _ _ _ a _ _ => a
def ExprR.sc : ExprR → Nat | .mk _ _ _ _ c _ => c
def ExprR.kids : ExprR → List ExprR | .mk _ _ _ _ _ l => l
mutual
/-- A statement as it is read. -/
inductive StatR where
  | mk (kind : Int) (name : ByteArray) (e : ExprR) (n : Int) (bA : Option Addr) (bc : Nat) (blocks : List BlockR)
/-- A block: where its statements lie. -/
inductive BlockR where
  | mk (A : Option Addr) (c : Nat) (l : List StatR)
end
def StatR.kind : StatR → Int | .mk k _ _ _ _ _ _ => k
def StatR.name : StatR → ByteArray | .mk _ s _ _ _ _ _ => s
def StatR.e : StatR → ExprR | .mk _ _ e _ _ _ _ => e
def StatR.n : StatR → Int | .mk _ _ _ n _ _ _ => n
def StatR.bA : StatR → Option Addr | .mk _ _ _ _ a _ _ => a
def StatR.bc : StatR → Nat | .mk _ _ _ _ _ c _ => c
def StatR.blocks : StatR → List BlockR | .mk _ _ _ _ _ _ l => l
def BlockR.A : BlockR → Option Addr | .mk a _ _ => a
def BlockR.c : BlockR → Nat | .mk _ c _ => c
def BlockR.l : BlockR → List StatR | .mk _ _ l => l

/-! ### Nodes -/
mutual
def ExprR.nodes : ExprR → Nat | .mk _ _ _ _ _ l => 1 + nodesE l
def nodesE : List ExprR → Nat
  | [] => 0
  | e :: l => e.nodes + nodesE l
end
mutual
def StatR.nodes : StatR → Nat | .mk _ _ e _ _ _ l => 1 + e.nodes + nodesB l
def nodesB : List BlockR → Nat
  | [] => 0
  | b :: l => b.nodes + nodesB l
def BlockR.nodes : BlockR → Nat | .mk _ _ l => nodesS l
def nodesS : List StatR → Nat
  | [] => 0
  | x :: l => x.nodes + nodesS l
end
theorem ExprR.nodes_eq (e : ExprR) : e.nodes = 1 + nodesE e.kids := by cases e; simp [ExprR.nodes, ExprR.kids]
theorem StatR.nodes_eq (x : StatR) : x.nodes = 1 + x.e.nodes + nodesB x.blocks := by cases x; simp [StatR.nodes, StatR.e, StatR.blocks]
theorem BlockR.nodes_eq (b : BlockR) : b.nodes = nodesS b.l := by cases b; simp [BlockR.nodes, BlockR.l]
theorem nodesE_le {e : ExprR} {l : List ExprR} (h : e ∈ l) : e.nodes ≤ nodesE l := by
  induction l with
  | nil => cases h
  | cons x l ih =>
    simp only [nodesE]
    rcases List.mem_cons.1 h with rfl | h
    · omega
    · have := ih h; omega
theorem nodesS_le {x : StatR} {l : List StatR} (h : x ∈ l) : x.nodes ≤ nodesS l := by
  induction l with
  | nil => cases h
  | cons y l ih =>
    simp only [nodesS]
    rcases List.mem_cons.1 h with rfl | h
    · omega
    · have := ih h; omega
theorem nodesB_le {b : BlockR} {l : List BlockR} (h : b ∈ l) : b.nodes ≤ nodesB l := by
  induction l with
  | nil => cases h
  | cons y l ih =>
    simp only [nodesB]
    rcases List.mem_cons.1 h with rfl | h
    · omega
    · have := ih h; omega
theorem nodesE_append (a b : List ExprR) : nodesE (a ++ b) = nodesE a + nodesE b := by
  induction a with
  | nil => simp [nodesE]
  | cons x a ih => simp [nodesE, ih]; omega
theorem nodesS_append (a b : List StatR) : nodesS (a ++ b) = nodesS a + nodesS b := by
  induction a with
  | nil => simp [nodesS]
  | cons x a ih => simp [nodesS, ih]; omega
theorem nodes_pos (x : StatR) : 1 ≤ x.nodes := by rw [x.nodes_eq]; omega
theorem nodesE_pos (e : ExprR) : 1 ≤ e.nodes := by rw [e.nodes_eq]; omega
theorem length_leE (l : List ExprR) : l.length ≤ nodesE l := by
  induction l with
  | nil => simp
  | cons x l ih => have := nodesE_pos x; simp only [nodesE, List.length_cons]; omega
theorem length_leS (l : List StatR) : l.length ≤ nodesS l := by
  induction l with
  | nil => simp
  | cons x l ih => have := nodes_pos x; simp only [nodesS, List.length_cons]; omega
theorem ExprR.kid_lt {e k : ExprR} (h : k ∈ e.kids) : k.nodes < e.nodes := by have := nodesE_le h; rw [nodes_eq e]; omega
theorem StatR.in_lt {x y : StatR} {b : BlockR} (hb : b ∈ x.blocks) (hy : y ∈ b.l) : y.nodes < x.nodes := by
  have h1 := nodesB_le hb
  have h2 := nodesS_le hy
  rw [b.nodes_eq] at h1
  rw [nodes_eq x]; omega
theorem ExprR.ind {p : ExprR → Prop} (h : ∀ e, (∀ k ∈ e.kids, p k) → p e) : ∀ e, p e := by
  have key : ∀ m e, ExprR.nodes e ≤ m → p e := by
    intro m
    induction m with
    | zero => intro e he; have := nodesE_pos e; omega
    | succ m ih => exact fun e he => h e fun k hk => ih k (by have := kid_lt hk; omega)
  exact fun e => key _ e (Nat.le_refl _)
theorem StatR.ind {p : StatR → Prop} (h : ∀ x, (∀ b ∈ x.blocks, ∀ y ∈ b.l, p y) → p x) : ∀ x, p x := by
  have key : ∀ m x, StatR.nodes x ≤ m → p x := by
    intro m
    induction m with
    | zero => intro x hx; have := nodes_pos x; omega
    | succ m ih => exact fun x hx => h x fun b hb y hy => ih y (by have := in_lt hb hy; omega)
  exact fun x => key _ x (Nat.le_refl _)

/-! ### The cells -/
def ExprR.cells (e : ExprR) : List Value := [.int .i64 e.kind, .int .i64 e.n, .string e.name, .slice e.sA e.kids.length e.sc]
def ExprR.val (e : ExprR) : Value := .agg #[.int .i64 e.kind, .int .i64 e.n, .string e.name, .slice e.sA e.kids.length e.sc]
def StatR.cells (x : StatR) : List Value := [.int .i64 x.kind, .string x.name, .int .i64 x.e.kind, .int .i64 x.e.n, .string x.e.name, .slice x.e.sA x.e.kids.length x.e.sc, .int .i64 x.n, .slice x.bA x.blocks.length x.bc]
def StatR.val (x : StatR) : Value := .agg #[.int .i64 x.kind, .string x.name, .int .i64 x.e.kind, .int .i64 x.e.n, .string x.e.name, .slice x.e.sA x.e.kids.length x.e.sc, .int .i64 x.n, .slice x.bA x.blocks.length x.bc]
def BlockR.val (b : BlockR) : Value := .slice b.A b.l.length b.c
def cellsE (l : List ExprR) : List Value := l.flatMap ExprR.cells
def cellsS (l : List StatR) : List Value := l.flatMap StatR.cells
/-- The eight cells of a statement, from o on in block b. -/
structure StatAt (w : World) (b o : Nat) (x : StatR) : Prop where
  c0 : w.cell? ⟨b, o, none⟩ = some (.int .i64 x.kind)
  c1 : w.cell? ⟨b, o + 1, none⟩ = some (.string x.name)
  c2 : w.cell? ⟨b, o + 2, none⟩ = some (.int .i64 x.e.kind)
  c3 : w.cell? ⟨b, o + 3, none⟩ = some (.int .i64 x.e.n)
  c4 : w.cell? ⟨b, o + 4, none⟩ = some (.string x.e.name)
  c5 : w.cell? ⟨b, o + 5, none⟩ = some (.slice x.e.sA x.e.kids.length x.e.sc)
  c6 : w.cell? ⟨b, o + 6, none⟩ = some (.int .i64 x.n)
  c7 : w.cell? ⟨b, o + 7, none⟩ = some (.slice x.bA x.blocks.length x.bc)
structure ExprAt (w : World) (b o : Nat) (e : ExprR) : Prop where
  c0 : w.cell? ⟨b, o, none⟩ = some (.int .i64 e.kind)
  c1 : w.cell? ⟨b, o + 1, none⟩ = some (.int .i64 e.n)
  c2 : w.cell? ⟨b, o + 2, none⟩ = some (.string e.name)
  c3 : w.cell? ⟨b, o + 3, none⟩ = some (.slice e.sA e.kids.length e.sc)
section
variable {w w' : World} {B B' b o : Nat}
theorem StatAt.keep {x : StatR} (h : StatAt w b o x) (hb : b < B) (hk : ∀ p : Addr, p.block < B → w'.cell? p = w.cell? p) : StatAt w' b o x :=
  ⟨(hk _ hb).trans h.c0, (hk _ hb).trans h.c1, (hk _ hb).trans h.c2, (hk _ hb).trans h.c3, (hk _ hb).trans h.c4, (hk _ hb).trans h.c5, (hk _ hb).trans h.c6, (hk _ hb).trans h.c7⟩
theorem ExprAt.keep {e : ExprR} (h : ExprAt w b o e) (hb : b < B) (hk : ∀ p : Addr, p.block < B → w'.cell? p = w.cell? p) : ExprAt w' b o e :=
  ⟨(hk _ hb).trans h.c0, (hk _ hb).trans h.c1, (hk _ hb).trans h.c2, (hk _ hb).trans h.c3⟩
/-- The expressions l lie in a row, below block B. -/
def RowE (w : World) (B : Nat) (A : Option Addr) (l : List ExprR) : Prop := l ≠ [] → ∃ b o, A = some ⟨b, o, none⟩ ∧ b < B ∧ ∀ (i : Nat) (h : i < l.length), ExprAt w b (o + i * 4) l[i]
def RowS (w : World) (B : Nat) (A : Option Addr) (l : List StatR) : Prop := l ≠ [] → ∃ b o, A = some ⟨b, o, none⟩ ∧ b < B ∧ ∀ (i : Nat) (h : i < l.length), StatAt w b (o + i * 8) l[i]
def RowB (w : World) (B : Nat) (A : Option Addr) (l : List BlockR) : Prop := l ≠ [] → ∃ b o, A = some ⟨b, o, none⟩ ∧ b < B ∧ ∀ (i : Nat) (h : i < l.length), w.cell? ⟨b, o + i, none⟩ = some l[i].val
theorem RowE.keep {A : Option Addr} {l : List ExprR} (h : RowE w B A l) (hk : ∀ p : Addr, p.block < B → w'.cell? p = w.cell? p) : RowE w' B A l := fun hn => by
  obtain ⟨b, o, e, hb, hc⟩ := h hn
  exact ⟨b, o, e, hb, fun i hi => (hc i hi).keep hb hk⟩
theorem RowS.keep {A : Option Addr} {l : List StatR} (h : RowS w B A l) (hk : ∀ p : Addr, p.block < B → w'.cell? p = w.cell? p) : RowS w' B A l := fun hn => by
  obtain ⟨b, o, e, hb, hc⟩ := h hn
  exact ⟨b, o, e, hb, fun i hi => (hc i hi).keep hb hk⟩
theorem RowB.keep {A : Option Addr} {l : List BlockR} (h : RowB w B A l) (hk : ∀ p : Addr, p.block < B → w'.cell? p = w.cell? p) : RowB w' B A l := fun hn => by
  obtain ⟨b, o, e, hb, hc⟩ := h hn
  exact ⟨b, o, e, hb, fun i hi => (hk _ hb).trans (hc i hi)⟩
theorem RowE.more {A : Option Addr} {l : List ExprR} (h : RowE w B A l) (hB : B ≤ B') : RowE w B' A l := fun hn => by
  obtain ⟨b, o, e, hb, hc⟩ := h hn
  exact ⟨b, o, e, by omega, hc⟩
theorem RowS.more {A : Option Addr} {l : List StatR} (h : RowS w B A l) (hB : B ≤ B') : RowS w B' A l := fun hn => by
  obtain ⟨b, o, e, hb, hc⟩ := h hn
  exact ⟨b, o, e, by omega, hc⟩
theorem RowB.more {A : Option Addr} {l : List BlockR} (h : RowB w B A l) (hB : B ≤ B') : RowB w B' A l := fun hn => by
  obtain ⟨b, o, e, hb, hc⟩ := h hn
  exact ⟨b, o, e, by omega, hc⟩
theorem RowE.nil (w : World) (B : Nat) (A : Option Addr) : RowE w B A [] := fun h => absurd rfl h
theorem RowS.nil (w : World) (B : Nat) (A : Option Addr) : RowS w B A [] := fun h => absurd rfl h
theorem RowB.nil (w : World) (B : Nat) (A : Option Addr) : RowB w B A [] := fun h => absurd rfl h
theorem RowE.at_ {A : Option Addr} {l : List ExprR} (h : RowE w B A l) {i : Nat} (hi : i < l.length) : ∃ b o, A = some ⟨b, o, none⟩ ∧ b < B ∧ ExprAt w b (o + i * 4) l[i] := by
  obtain ⟨b, o, e, hb, hc⟩ := h (fun e => by rw [e] at hi; simp at hi)
  exact ⟨b, o, e, hb, hc i hi⟩
theorem RowS.at_ {A : Option Addr} {l : List StatR} (h : RowS w B A l) {i : Nat} (hi : i < l.length) : ∃ b o, A = some ⟨b, o, none⟩ ∧ b < B ∧ StatAt w b (o + i * 8) l[i] := by
  obtain ⟨b, o, e, hb, hc⟩ := h (fun e => by rw [e] at hi; simp at hi)
  exact ⟨b, o, e, hb, hc i hi⟩
theorem RowB.at_ {A : Option Addr} {l : List BlockR} (h : RowB w B A l) {i : Nat} (hi : i < l.length) : ∃ b o, A = some ⟨b, o, none⟩ ∧ b < B ∧ w.cell? ⟨b, o + i, none⟩ = some l[i].val := by
  obtain ⟨b, o, e, hb, hc⟩ := h (fun e => by rw [e] at hi; simp at hi)
  exact ⟨b, o, e, hb, hc i hi⟩
end

/-! ### What is read -/
inductive RdE (w : World) (B : Nat) : ExprR → Prop
  | mk (e : ExprR) (row : RowE w B e.sA e.kids) (each : ∀ k ∈ e.kids, RdE w B k) (fits : Fits e.kids.length) : RdE w B e
inductive RdS (w : World) (B : Nat) : StatR → Prop
  | mk (x : StatR) (he : RdE w B x.e) (row : RowB w B x.bA x.blocks) (rows : ∀ b ∈ x.blocks, RowS w B b.A b.l ∧ Fits b.l.length) (each : ∀ b ∈ x.blocks, ∀ y ∈ b.l, RdS w B y) (fits : Fits x.blocks.length) : RdS w B x
/-- A block, read. -/
structure RdB (w : World) (B : Nat) (b : BlockR) : Prop where
  row : RowS w B b.A b.l
  each : ∀ y ∈ b.l, RdS w B y
  fits : Fits b.l.length
section
variable {w w' : World} {B B' : Nat}
theorem RdE.row {e : ExprR} (h : RdE w B e) : RowE w B e.sA e.kids := by cases h with | mk _ r _ _ => exact r
theorem RdE.kid {e k : ExprR} (h : RdE w B e) (hk : k ∈ e.kids) : RdE w B k := by cases h with | mk _ _ r _ => exact r k hk
theorem RdE.fits {e : ExprR} (h : RdE w B e) : Fits e.kids.length := by cases h with | mk _ _ _ r => exact r
theorem RdS.e {x : StatR} (h : RdS w B x) : RdE w B x.e := by cases h with | mk _ r _ _ _ _ => exact r
theorem RdS.row {x : StatR} (h : RdS w B x) : RowB w B x.bA x.blocks := by cases h with | mk _ _ r _ _ _ => exact r
theorem RdS.fits {x : StatR} (h : RdS w B x) : Fits x.blocks.length := by cases h with | mk _ _ _ _ _ r => exact r
theorem RdS.block {x : StatR} {b : BlockR} (h : RdS w B x) (hb : b ∈ x.blocks) : RdB w B b := by
  cases h with | mk _ _ _ rows each _ => exact ⟨(rows b hb).1, each b hb, (rows b hb).2⟩
theorem RdE.keep {e : ExprR} (h : RdE w B e) (hk : ∀ p : Addr, p.block < B → w'.cell? p = w.cell? p) : RdE w' B e := by
  induction h with
  | mk e row each f ih => exact ⟨e, row.keep hk, ih, f⟩
theorem RdS.keep {x : StatR} (h : RdS w B x) (hk : ∀ p : Addr, p.block < B → w'.cell? p = w.cell? p) : RdS w' B x := by
  induction h with
  | mk x he row rows each f ih => exact ⟨x, he.keep hk, row.keep hk, fun b hb => ⟨(rows b hb).1.keep hk, (rows b hb).2⟩, ih, f⟩
theorem RdB.keep {b : BlockR} (h : RdB w B b) (hk : ∀ p : Addr, p.block < B → w'.cell? p = w.cell? p) : RdB w' B b := ⟨h.row.keep hk, fun y hy => (h.each y hy).keep hk, h.fits⟩
theorem RdE.more {e : ExprR} (h : RdE w B e) (hB : B ≤ B') : RdE w B' e := by
  induction h with
  | mk e row each f ih => exact ⟨e, row.more hB, ih, f⟩
theorem RdS.more {x : StatR} (h : RdS w B x) (hB : B ≤ B') : RdS w B' x := by
  induction h with
  | mk x he row rows each f ih => exact ⟨x, he.more hB, row.more hB, fun b hb => ⟨(rows b hb).1.more hB, (rows b hb).2⟩, ih, f⟩
theorem RdB.more {b : BlockR} (h : RdB w B b) (hB : B ≤ B') : RdB w B' b := ⟨h.row.more hB, fun y hy => (h.each y hy).more hB, h.fits⟩
theorem RdE.under {e : ExprR} (h : RdE w B e) (hb : Below B w w') : RdE w' B e := h.keep fun _ hp => hb.cell hp
theorem RdS.under {x : StatR} (h : RdS w B x) (hb : Below B w w') : RdS w' B x := h.keep fun _ hp => hb.cell hp
theorem RdB.under {b : BlockR} (h : RdB w B b) (hb : Below B w w') : RdB w' B b := h.keep fun _ hp => hb.cell hp
end
end Go.Proofs.YtgiceeholamphaaDoor
