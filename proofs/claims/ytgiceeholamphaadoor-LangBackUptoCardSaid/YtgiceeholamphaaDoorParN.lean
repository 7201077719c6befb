/- How many nodes a text's tokens are read as: not more than there are tokens. Plain; no conditions. -/
import Derived.Test.YtgiceeholamphaaDoorPar
namespace Go.Proofs.YtgiceeholamphaaDoor
open Go.ChangeShapes Go.WideShapes Go.ChangeAt Go.RowKit

def Cost {α : Type} (f : α → Nat) (k : Nat) (r : PR α) : Prop := match r with | .ok a ts' => f a + ts'.length ≤ k | .no _ => True
theorem Cost.le {α : Type} {f : α → Nat} {k k' : Nat} {r : PR α} (h : Cost f k r) (hk : k ≤ k') : Cost f k' r := by
  cases r with
  | ok a t => simp only [Cost] at h ⊢; omega
  | no n => trivial
theorem thenR_cost {α β : Type} {f : α → Nat} {g : β → Nat} {x : Option (PR α)} {k : α → List Tok → Option (PR β)} {r : PR β} {n m : Nat} (h : thenR x k = some r) (hx : ∀ z, x = some z → Cost f n z)
    (hk : ∀ a ts, f a + ts.length ≤ n → k a ts = some r → Cost g m r) : Cost g m r := by
  cases x with
  | none => cases h
  | some z =>
    cases z with
    | ok a ts => exact hk a ts (hx _ rfl) h
    | no n => cases h; trivial
theorem needT_cost {α : Type} {f : α → Nat} {s : List UInt8} (hs : s ≠ []) {ts : List Tok} {k : List Tok → Option (PR α)} {r : PR α} {m : Nat} (h : needT s ts k = some r) (hk : ts.tail.length + 1 = ts.length → k ts.tail = some r → Cost f m r) : Cost f m r := by
  unfold needT at h
  split at h
  · rename_i e; exact hk (tail_lt hs e) h
  · cases h; trivial
theorem nameR_cost (ts : List Tok) : Cost (fun _ => 1) ts.length (nameR ts) := by
  have h := nameR_takes ts
  cases hr : nameR ts with
  | ok a t => rw [hr] at h; simp only [Takes, Cost] at h ⊢; omega
  | no n => trivial
theorem numR_cost (b : Int) (ts : List Tok) : Cost (fun _ => 1) ts.length (numR b ts) := by
  have h := numR_takes b ts
  cases hr : numR b ts with
  | ok a t => rw [hr] at h; simp only [Takes, Cost] at h ⊢; omega
  | no n => trivial
theorem nodes_op (k : Int) (a b : ExprR) : (mkOp k a b).nodes = 1 + a.nodes + b.nodes := by simp [mkOp, ExprR.nodes, nodesE]; omega
theorem nodes_if1 (e : ExprR) (b : List StatR) : (mkIf e [mkB b]).nodes = 1 + e.nodes + nodesS b := by simp [mkIf, mkB, StatR.nodes, nodesB, BlockR.nodes]
theorem nodes_if2 (e : ExprR) (b c : List StatR) : (mkIf e [mkB b, mkB c]).nodes = 1 + e.nodes + nodesS b + nodesS c := by simp [mkIf, mkB, StatR.nodes, nodesB, BlockR.nodes]; omega
theorem nodes_rep (n : Int) (b : List StatR) : (mkRep n (mkB b)).nodes = 2 + nodesS b := by simp [mkRep, mkB, noE, StatR.nodes, ExprR.nodes, nodesE, nodesB, BlockR.nodes]
theorem nodes_par (bs : List BlockR) : (mkPar bs).nodes = 2 + nodesB bs := by simp [mkPar, noE, StatR.nodes, ExprR.nodes, nodesE]
theorem nodes_set (k : Int) (s : ByteArray) (e : ExprR) : (mkSet k s e).nodes = 1 + e.nodes := by simp [mkSet, StatR.nodes, nodesB]
theorem nodesB_add (a b : List BlockR) : nodesB (a ++ b) = nodesB a + nodesB b := by
  induction a with
  | nil => simp [nodesB]
  | cons x a ih => simp only [List.cons_append, nodesB, ih]; omega
theorem nodesB_one (l : List StatR) : nodesB [mkB l] = nodesS l := by simp [mkB, nodesB, BlockR.nodes]
theorem nodesS_one (x : StatR) : nodesS [x] = x.nodes := by simp [nodesS]
structure Few (f : Nat) : Prop where
  expr : ∀ t ts r, (gram f).expr t ts = some r → Cost ExprR.nodes ts.length r
  loop : ∀ t e ts r, (gram f).loop t e ts = some r → Cost ExprR.nodes (e.nodes + ts.length) r
  stat : ∀ ts r, (gram f).stat ts = some r → Cost StatR.nodes ts.length r
  braced : ∀ ts r, (gram f).braced ts = some r → Cost (fun l => nodesS l + 2) ts.length r
  list : ∀ a ts r, (gram f).list a ts = some r → Cost nodesS (nodesS a + ts.length) r
  par : ∀ a ts r, (gram f).par a ts = some r → Cost nodesB (nodesB a + ts.length) r
theorem gram_few (f : Nat) : Few f := by
  induction f with
  | zero => refine ⟨fun _ _ _ h => ?_, fun _ _ _ _ h => ?_, fun _ _ h => ?_, fun _ _ h => ?_, fun _ _ _ h => ?_, fun _ _ _ h => ?_⟩ <;> cases h
  | succ f ih =>
    constructor <;> rw [gram_succ]
    · intro t ts r h
      simp only at h
      split at h
      · split at h
        · rename_i e
          have hl := tail_lt (by simp) e
          exact thenR_cost h (fun z hz => ih.expr _ _ _ hz) fun a ts1 h1 h => needT_cost (by simp) h fun h2 h => by cases h; simp only [Cost]; omega
        · split at h
          · cases h
            have k := numR_cost 1000000000 ts
            cases hr : numR 1000000000 ts with
            | ok a t => rw [hr] at k; simp only [Cost, PR.map, mkNum, ExprR.nodes, nodesE] at k ⊢; omega
            | no n => trivial
          · cases h
            have k := nameR_cost ts
            cases hr : nameR ts with
            | ok a t => rw [hr] at k; simp only [Cost, PR.map, mkName, ExprR.nodes, nodesE] at k ⊢; omega
            | no n => trivial
      · exact thenR_cost h (fun z hz => ih.expr _ _ _ hz) fun a ts1 h1 h => (ih.loop _ _ _ _ h).le h1
    · intro t e ts r h
      simp only at h
      cases hk : opK t ts with
      | none => rw [hk] at h; cases h; simp only [Cost]; omega
      | some k =>
        rw [hk] at h
        have hl := opK_tail hk
        exact thenR_cost h (fun z hz => ih.expr _ _ _ hz) fun a ts1 h1 h => (ih.loop _ _ _ _ h).le (by rw [nodes_op]; omega)
    · intro ts r h
      simp only at h
      split at h
      · rename_i e
        have hl := tail_lt (by simp) e
        refine thenR_cost h (fun z hz => ih.expr _ _ _ hz) fun a ts1 h1 h => thenR_cost h (fun z hz => ih.braced _ _ hz) fun b ts2 h2 h => ?_
        split at h
        · rename_i e
          have hl := tail_lt (by simp) e
          exact thenR_cost h (fun z hz => ih.braced _ _ hz) fun c ts3 h3 h => by cases h; simp only [Cost, nodes_if2]; omega
        · cases h; simp only [Cost, nodes_if1]; omega
      · split at h
        · rename_i e
          have hl := tail_lt (by simp) e
          refine thenR_cost h (fun z hz => by cases hz; exact numR_cost _ _) fun a ts1 h1 h => thenR_cost h (fun z hz => ih.braced _ _ hz) fun b ts2 h2 h => ?_
          cases h; simp only [Cost, nodes_rep]; omega
        · split at h
          · rename_i e
            have hl := tail_lt (by simp) e
            refine thenR_cost h (fun z hz => ih.braced _ _ hz) fun b ts2 h2 h => thenR_cost h (fun z hz => ih.par _ _ _ hz) fun bs ts3 h3 h => ?_
            rw [nodesB_one] at h3
            cases h; simp only [Cost, nodes_par]; omega
          · refine thenR_cost h (fun z hz => by cases hz; exact nameR_cost _) fun a ts1 h1 h => ?_
            split at h
            · rename_i e
              have hl := tail_lt (by simp) e
              exact thenR_cost h (fun z hz => ih.expr _ _ _ hz) fun b ts2 h2 h => by cases h; simp only [Cost, nodes_set]; omega
            · exact needT_cost (by simp) h fun hl h => thenR_cost h (fun z hz => ih.expr _ _ _ hz) fun b ts2 h2 h => by cases h; simp only [Cost, nodes_set]; omega
    · intro ts r h
      simp only at h
      refine needT_cost (by simp) h fun hl h => thenR_cost h (fun z hz => ih.list _ _ _ hz) fun b ts2 h2 h => needT_cost (by simp) h fun h3 h => ?_
      simp only [nodesS] at h2
      cases h; simp only [Cost]; omega
    · intro a ts r h
      simp only at h
      split at h
      · cases h; simp only [Cost]; omega
      · refine thenR_cost h (fun z hz => ih.stat _ _ hz) fun x ts1 h1 h => ?_
        split at h
        · rename_i e
          have hl := tail_lt (by simp) e
          exact (ih.list _ _ _ h).le (by rw [nodesS_append, nodesS_one]; omega)
        · cases h; simp only [Cost, nodesS_append, nodesS_one]; omega
    · intro a ts r h
      simp only at h
      split at h
      · rename_i e
        have hl := tail_lt (by simp) (Bool.and_eq_true_iff.1 e).2
        exact thenR_cost h (fun z hz => ih.braced _ _ hz) fun b ts1 h1 h => (ih.par _ _ _ h).le (by rw [nodesB_add, nodesB_one]; omega)
      · cases h; simp only [Cost]; omega
end Go.Proofs.YtgiceeholamphaaDoor
