/- What graph.Run and the reference answer, in one form; the contract of Same over int64. No conditions but that what is read is there. -/
import Derived.Test.YticdjkkcfdbdcaaGrRun
import Derived.Test.YticdjkkcfdbdcaaGrRw
namespace Go.Proofs.Yticdjkkcfdbdcaa
open Go.Conc Go.ConcN Go.RowKit Go.ChangeShapes Go.WideShapes Go.ChangeAt
theorem drewN_g {B : Nat} {w w' : World} (h : RowKit.Below B w w') (m : Nat) : RowKit.Below B w (w'.drewN m) := ⟨h.1, h.2, h.3, h.4, h.5⟩
set_option maxRecDepth 100000 in
set_option maxHeartbeats 1000000 in
theorem same_g (w : World) (B : Nat) (A A' : Option Addr) (c c' : Nat) (l : List Int) (hA : Rd w B A (ints l)) (hA' : Rd w B A' (ints l)) (hB : B ≤ w.heap.size) (hl : l.length ≤ 1048576) :
    Calls Try.prog 17 #[.slice A l.length c, .slice A' l.length c'] w fun e w' => e = .returned (.bool true) ∧ RowKit.Below w.heap.size w w' := by
  have HA := Lib.hid (And.intro hA hA'); clear hA hA'
  go_enter Try.func17, Try.ntmps17
  go_wp2
  go_loopg [13] l.length (fun gk i wr => ∃ k : Nat, gk + k = l.length ∧ i = .int .i64 k ∧ RowKit.Below w.heap.size w wr)
  case atStart => exact ⟨0, by omega, rfl, Below.refl _ _⟩
  case round =>
    obtain ⟨k, hgk, rfl, hb⟩ := hrel
    by_cases hk : k < l.length
    · obtain ⟨g, o, rfl, hg, c0⟩ := (HA.out.1.keep (w' := wr) fun p hp => hb.cell (by omega)).atMap hk
      obtain ⟨g', o', rfl, hg', d0⟩ := (HA.out.2.keep (w' := wr) fun p hp => hb.cell (by omega)).atMap hk
      have Hb := Lib.hid hb
      clear hb
      generalize l[k] = x at c0 d0
      go_wp2
      go_quiet (fail)
      go_wp2
      go_roundg (gk - 1)
      case measure => omega
      case rel => exact ⟨k + 1, by omega, by go_num, drewN_g Hb.out _⟩
    · have Hb := Lib.hid hb
      clear hb
      go_wp2
      go_ret
      exact ⟨rfl, Hb.out⟩
theorem pack_oneG {fn : Func} {i : Tmp} (h : fn.results = #[.tmp i]) (T : Array Value) : pack (resVals fn T) = T.getD i undef := by
  simp [resVals, h, pack]
def KeepsG (L L' : World) : Prop := KpG L.heap.size L L'
theorem KeepsG.trans {L L1 L2 : World} (h : KeepsG L L1) (h' : KeepsG L1 L2) : KeepsG L L2 := ⟨Nat.le_trans h.size h'.size, fun b hb => (h'.at_ b (Nat.lt_of_lt_of_le hb h.size)).trans (h.at_ b hb)⟩
theorem KeepsG.below {L L1 : World} (h : RowKit.Below L.heap.size L L1) : KeepsG L L1 := ⟨h.size, fun b hb => h.block b hb⟩
theorem KeepsG.eq {L L1 : World} (e : L1.heap = L.heap) : KeepsG L L1 := ⟨by rw [e]; exact Nat.le_refl _, fun b _ => by rw [e]⟩
theorem KeepsG.cell {L L1 : World} (h : KeepsG L L1) {p : Addr} (hp : p.block < L.heap.size) : L1.cell? p = L.cell? p := World.cell?_of_block (h.at_ _ hp)
theorem Rd.keptG {L L1 : World} {B : Nat} {A : Option Addr} {vs : List Value} (h : Rd L B A vs) (hB : B ≤ L.heap.size) (hk : KeepsG L L1) : Rd L1 B A vs := h.keep fun p hp => hk.cell (Nat.lt_of_lt_of_le hp hB)
theorem RdJobs.kept {L L1 : World} {B : Nat} {A : Option Addr} {J : List JobR} (h : RdJobs L B A J) (hB : B ≤ L.heap.size) (hk : KeepsG L L1) : RdJobs L1 B A J := h.keep fun p hp => hk.cell (Nat.lt_of_lt_of_le hp hB)
/-- What the reference answers. -/
def RefG (J : List JobR) (wk : Int) (L : World) (v : Value) (L1 : World) : Prop := (∃ u, v = .tuple #[u, .int .i64 (askedCode J wk)] ∧ (askedCode J wk ≠ 0 → u = .slice none 0 0) ∧
  (askedCode J wk = 0 → ∃ g, u = .slice (some ⟨g, 0, none⟩) J.length J.length ∧ Blk L1 g 2 (ints ((List.range J.length).map (valJ J))))) ∧ KeepsG L L1
/-- One form for right and for wrong input. -/
structure SaidG (J : List JobR) (wk : Int) (ys : List Int) (code : Int) : Prop where
  len : ys.length ≤ 200
  run : ∀ v L L1, RunPG J wk L v L1 → ∃ p c, v = .tuple #[.slice p ys.length c, .int .i64 code] ∧ Rd L1 L1.heap.size p (ints ys) ∧ KeepsG L L1
  ref : ∀ v L L1, RefG J wk L v L1 → ∃ p c, v = .tuple #[.slice p ys.length c, .int .i64 code] ∧ Rd L1 L1.heap.size p (ints ys) ∧ KeepsG L L1
  ok : code = askedCode J wk ∧ (code = 0 → ys = (List.range J.length).map (valJ J))
theorem asked_good {J : List JobR} {wk : Int} (h : askedCode J wk = 0) : Good J :=
  good_of_zero (Classical.byContradiction fun hx => hx ((askedCode_bad (n := wk) hx).symm.trans h))
theorem saidG (J : List JobR) (wk : Int) : ∃ ys code, SaidG J wk ys code := by
  by_cases h0 : askedCode J wk = 0
  · refine ⟨(List.range J.length).map (valJ J), 0, by simpa using (asked_good h0).few, fun v L L1 h => ?_, fun v L L1 h => ?_, h0.symm, fun _ => rfl⟩
    · obtain ⟨g, rfl, h2, h3⟩ := h.2.1 h0
      exact ⟨_, J.length, by simp, h3.rd, h.2.2⟩
    · obtain ⟨⟨u, rfl, _, h2⟩, h3⟩ := h
      obtain ⟨g, rfl, h4⟩ := h2 h0
      exact ⟨_, J.length, by simp [h0], h4.rd, h3⟩
  · refine ⟨[], askedCode J wk, by simp, fun v L L1 h => ⟨none, 0, h.1 h0, .nil _ _ _, h.2.2⟩, fun v L L1 h => ?_, rfl, fun h => absurd h h0⟩
    obtain ⟨⟨u, rfl, h1, _⟩, h3⟩ := h
    rw [h1 h0]
    exact ⟨none, 0, rfl, .nil _ _ _, h3⟩
end Go.Proofs.Yticdjkkcfdbdcaa

/- The law steplaw.GraphRuns' body in company, told of the lone world: true. No conditions but those named. -/
namespace Go.Proofs.Yticdjkkcfdbdcaa
open Go.Conc Go.ConcN Go.RowKit Go.ChangeShapes Go.WideShapes Go.ChangeAt
theorem run_asG (e : Operand → Value) (o : Oper) {x : Operand} (hop : o.op = .assign x) (w : World) : (execOp e o).runT Try.prog w #[] = (.ok (.value (e x)) w, #[]) := by simp [go_sem, hop, execOp]
end Go.Proofs.Yticdjkkcfdbdcaa
