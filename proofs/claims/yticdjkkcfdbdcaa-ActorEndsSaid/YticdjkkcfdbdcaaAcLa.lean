/- The contract of Same over letters: two lists that are one. No conditions but that what is read is there. -/
import Derived.Test.YticdjkkcfdbdcaaAcH
import Derived.Test.YticdjkkcfdbdcaaPhN
import Derived.Test.YticdjkkcfdbdcaaAcRa
namespace Go.Proofs.Yticdjkkcfdbdcaa
open Go.ChangeShapes Go.WideShapes Go.ChangeAt Go.RowKit
set_option maxRecDepth 100000 in
set_option maxHeartbeats 1000000 in
theorem same_x (w : World) (B : Nat) (A A' : Option Addr) (c c' n : Nat) (l : List LetR) (hA : Rd w B A (flatX l)) (hA' : Rd w B A' (flatX l)) (hB : B ≤ w.heap.size) (hn : l.length = n) (hl : n ≤ 1048576) :
    Calls Try.prog 26 #[.slice A n c, .slice A' n c'] w fun e w' => e = .returned (.bool true) ∧ RowKit.Below w.heap.size w w' := by
  have HA := Lib.hid (And.intro hA (And.intro hA' hn)); clear hA hA' hn
  go_enter Try.func26, Try.ntmps26
  go_wp2
  go_loopg [13] n (fun gk i wr => ∃ k : Nat, gk + k = n ∧ i = .int .i64 k ∧ RowKit.Below w.heap.size w wr)
  case atStart => exact ⟨0, by omega, rfl, RowKit.Below.refl _ _⟩
  case round =>
    obtain ⟨k, hgk, rfl, hb⟩ := hrel
    by_cases hk : k < n
    · have hkl : k < l.length := by have := HA.out.2.2; omega
      obtain ⟨g, o, rfl, hg, hc⟩ := rd_flat (f := cellsX) (s := 4) (by decide) (fun _ => rfl) (HA.out.1.keep (w' := wr) fun p hp => hb.cell (by omega)) hkl
      obtain ⟨g', o', rfl, hg', hd⟩ := rd_flat (f := cellsX) (s := 4) (by decide) (fun _ => rfl) (HA.out.2.1.keep (w' := wr) fun p hp => hb.cell (by omega)) hkl
      have Hb := Lib.hid hb
      clear hb
      generalize l[k] = x at hc hd
      obtain ⟨xt, xd, xk, xn⟩ := x
      have c0 := hc 0 _ rfl
      have c1 := hc 1 _ rfl
      have c2 := hc 2 _ rfl
      have c3 := hc 3 _ rfl
      have d0 := hd 0 _ rfl
      have d1 := hd 1 _ rfl
      have d2 := hd 2 _ rfl
      have d3 := hd 3 _ rfl
      rw [Nat.add_zero] at c0 d0
      simp only at c0 c1 c2 c3 d0 d1 d2 d3
      clear hc hd
      go_wp2
      go_quiet (fail)
      go_wp2
      go_roundg (gk - 1)
      case measure => omega
      case rel => exact ⟨k + 1, by omega, by go_num, below_drewN Hb.out _⟩
    · have Hb := Lib.hid hb
      clear hb
      go_wp2
      go_ret
      exact ⟨rfl, Hb.out⟩
end Go.Proofs.Yticdjkkcfdbdcaa

/- What actor.Run and the reference's Played say, in one form; Played in company. No conditions but those named. -/
namespace Go.Proofs.Yticdjkkcfdbdcaa
open Go.Conc Go.ConcN Go.RowKit Go.ChangeShapes Go.WideShapes Go.ChangeAt
theorem pack_one {fn : Func} {i : Tmp} (h : fn.results = #[.tmp i]) (T : Array Value) : pack (resVals fn T) = T.getD i undef := by
  simp [resVals, h, pack]
theorem run_as (e : Operand → Value) (o : Oper) {x : Operand} (hop : o.op = .assign x) (w : World) : (execOp e o).runT Try.prog w #[] = (.ok (.value (e x)) w, #[]) := by simp [go_sem, hop, execOp]
def Keeps (L L' : World) : Prop := L.heap.size ≤ L'.heap.size ∧ ∀ b, b < L.heap.size → L'.heap[b]? = L.heap[b]?
theorem Keeps.trans {L L1 L2 : World} (h : Keeps L L1) (h' : Keeps L1 L2) : Keeps L L2 := ⟨Nat.le_trans h.1 h'.1, fun b hb => (h'.2 b (Nat.lt_of_lt_of_le hb h.1)).trans (h.2 b hb)⟩
theorem Keeps.below {L L1 : World} (h : RowKit.Below L.heap.size L L1) : Keeps L L1 := ⟨h.size, fun b hb => h.block b hb⟩
theorem Keeps.eq {L L1 : World} (e : L1.heap = L.heap) : Keeps L L1 := ⟨by rw [e]; exact Nat.le_refl _, fun b _ => by rw [e]⟩
theorem Keeps.cell {L L1 : World} (h : Keeps L L1) {p : Addr} (hp : p.block < L.heap.size) : L1.cell? p = L.cell? p := by simp only [World.cell?, h.2 _ hp]
theorem kp_keeps {L L1 : World} (h : Kp L.heap.size L L1) : Keeps L L1 := ⟨h.size, h.at_⟩
theorem Rd.kept {L L1 : World} {B : Nat} {A : Option Addr} {vs : List Value} (h : Rd L B A vs) (hB : B ≤ L.heap.size) (hk : Keeps L L1) : Rd L1 B A vs := h.keep fun p hp => hk.cell (Nat.lt_of_lt_of_le hp hB)
theorem RdRules.kept {L L1 : World} {B : Nat} {A : Option Addr} {R : List RulR} (h : RdRules L B A R) (hB : B ≤ L.heap.size) (hk : Keeps L L1) : RdRules L1 B A R := h.keep fun p hp => hk.cell (Nat.lt_of_lt_of_le hp hB)
theorem RdRules.more {w : World} {B B' : Nat} {A : Option Addr} {R : List RulR} (h : RdRules w B A R) (hB : B ≤ B') : RdRules w B' A R :=
  ⟨fun hn => by
    obtain ⟨b, o, e, hb, hc⟩ := h.row hn
    exact ⟨b, o, e, Nat.lt_of_lt_of_le hb hB, hc⟩, fun k hk => (h.each k hk).more hB, h.small, h.fits⟩
theorem own_rd {w : World} {base n s : Nat} {e : TypeId} {v : Value} {vs : List Value} {p : Option Addr} {cc : Nat} (h : w.ownsRow base e s v n vs) (hv : v = .slice p n cc) : Rd w w.heap.size p vs := by
  subst hv
  intro hne
  rcases h.2 with ⟨_, h0⟩ | ⟨g, cap, cur, hv, _, hg, _, _, _, ht⟩
  · exfalso
    have := h.1
    rw [h0, Nat.zero_mul] at this
    exact hne (List.eq_nil_of_length_eq_zero this)
  · cases hv
    refine ⟨g, 0, rfl, (Array.getElem?_eq_some_iff.1 hg).1, fun i u hu => ?_⟩
    rw [Nat.zero_add, cell_of_row _ _ _ _ _ _ hg]
    rw [← ht, List.getElem?_take] at hu
    split at hu
    · simpa using hu
    · cases hu
theorem timeR_nums (R : List (List RuleR)) (c : Come) (t : Int) (nums : List Int) : (timeR R c t nums).1.length = nums.length := by simp [timeR]
/-- What a run comes to is not long. -/
theorem runA_some {R : List (List RuleR)} : ∀ (k : Nat) (t : Int) (nums : List Int) (c : Come) (log : List LetR) {ys : List Int} {zs : List LetR}, log.length ≤ 100000 → runA R k t nums c log = some (ys, zs) → ys.length = nums.length ∧ zs.length ≤ 100000
  | 0, t, nums, c, log, ys, zs, hl, h => by
    obtain ⟨rfl, rfl⟩ := Prod.mk.inj (Option.some.inj h)
    exact ⟨rfl, hl⟩
  | k + 1, t, nums, c, log, ys, zs, hl, h => by
    have h2 : (if 100000 < (log ++ logR R.length c t).length then none else runA R k (t + 1) (timeR R c t nums).1 (c.addAll (timeR R c t nums).2) (log ++ logR R.length c t)) = some (ys, zs) := h
    split at h2
    · cases h2
    · have h3 := runA_some k _ _ _ _ (by omega) h2
      rw [timeR_nums] at h3
      exact h3
theorem goCode_zero {R : List RulR} {ls : List LetR} {E wk : Int} (h : goCode R ls E wk = 0) : actCode R ls = 0 ∧ (0 ≤ E ∧ E ≤ 1000) ∧ wkOk wk := by
  unfold goCode at h
  split at h
  · rename_i h0
    exact absurd h h0
  · rename_i h0
    split at h
    · rename_i h1
      exact ⟨Classical.byContradiction h0, h1⟩
    · cases h
end Go.Proofs.Yticdjkkcfdbdcaa
