/- The memory of the reference's Played; the region that calls sooner. No conditions but that what is read is there. -/
import Derived.Test.YticdjkkcfdbdcaaAcSo
import Derived.Test.YticdjkkcfdbdcaaAcH
import Derived.Test.YticdjkkcfdbdcaaAcSu
import Derived.Test.YticdjkkcfdbdcaaAcRf
import Derived.Test.YticdjkkcfdbdcaaPhN
import Derived.Test.YticdjkkcfdbdcaaPhVc
import Derived.Laws.Tables
import Derived.Conc.Own4
import Derived.Maps.AppendAt
namespace Go.Proofs.Yticdjkkcfdbdcaa
open Go.ChangeShapes Go.WideShapes Go.ChangeAt Go.RowKit Go.Conc Go.ConcN
def cellsSs (l : List SentR) : List Value := l.flatMap cellsS
theorem cellsSs_len (l : List SentR) : (cellsSs l).length = l.length * 7 := flat_len (f := cellsS) (s := 7) (fun _ => rfl) l
theorem cellsSs_app (a b : List SentR) : cellsSs (a ++ b) = cellsSs a ++ cellsSs b := by simp [cellsSs]
theorem cellsSs_one (s : SentR) : cellsSs [s] = cellsS s := by simp [cellsSs]
theorem cellsSs_at (l : List SentR) (k : Nat) (h : k < l.length) (i : Nat) (hi : i < 7) : (cellsSs l)[k * 7 + i]? = (cellsS l[k])[i]? := flat_at (f := cellsS) (s := 7) (fun _ => rfl) l k i h hi
theorem cellsS_one' (s : SentR) : ∀ u ∈ cellsS s, u.oneCell' = true := by
  intro u hu
  simp [cellsS] at hu
  rcases hu with rfl | rfl | rfl | rfl | rfl | rfl | rfl <;> rfl
theorem cellsX_one' (x : LetR) : ∀ u ∈ cellsX x, u.oneCell' = true := by
  intro u hu
  simp [cellsX] at hu
  rcases hu with rfl | rfl | rfl | rfl <;> rfl
abbrev ownS (w : World) (base : Nat) (v : Value) (l : List SentR) : Prop := w.ownsRow base 145 7 v l.length (cellsSs l)
def sent0 : SentR := ⟨⟨0, 0, 0, 0⟩, 0, 0, 0⟩
theorem info_sent : (Try.prog.info? 145).map (fun i => (i.zero, i.size, i.bytes)) = some (some (aggS sent0), 7, 56) := by kernel_rfl
theorem cells_newly (w : World) (vs : List Value) (t : TypeId) : ∀ j u, vs[j]? = some u → (w.alloc (.cells vs.toArray t)).cell? ((⟨w.heap.size, 0, none⟩ : Addr).add j) = some u := fun j u hu => by
  rw [show ((⟨w.heap.size, 0, none⟩ : Addr).add j) = ⟨w.heap.size, j, none⟩ by simp [Addr.add_lit']]
  exact cells_at (heap_alloc_new w _) j u hu
structure PlSt (w0 w : World) (g : Nat) (nums : List Int) (tv : Value) (todo : List SentR) (lv : Value) (log : List LetR) : Prop where
  blk : Blk w g 2 (ints nums)
  own : ownS w w0.heap.size tv todo
  olog : ownX w w0.heap.size lv log
  bel : RowKit.Below w0.heap.size w0 w
  low : w0.heap.size ≤ g
section
variable {w0 w w' : World} {g : Nat} {nums : List Int} {tv : Value} {todo : List SentR} {lv : Value} {log : List LetR}
theorem PlSt.keep (h : PlSt w0 w g nums tv todo lv log) (hb : RowKit.Below w.heap.size w w') : PlSt w0 w' g nums tv todo lv log where
  blk := h.blk.below hb h.blk.lt
  own := own_of_block h.own fun b hb' => hb.block b (h.own.lt _ hb').2
  olog := own_of_block h.olog fun b hb' => hb.block b (h.olog.lt _ hb').2
  bel := h.bel.trans (hb.mono h.bel.size)
  low := h.low
theorem PlSt.alloc (h : PlSt w0 w g nums tv todo lv log) (o : Obj) : PlSt w0 (w.alloc o) g nums tv todo lv log := h.keep ((RowKit.Below.refl _ _).alloc (Nat.le_refl _) o)
theorem PlSt.drewN (h : PlSt w0 w g nums tv todo lv log) (m : Nat) : PlSt w0 (w.drewN m) g nums tv todo lv log := ⟨h.blk, h.own, h.olog, ⟨h.bel.os, h.bel.tape, h.bel.output, h.bel.size, h.bel.block⟩, h.low⟩
theorem PlSt.apart (h : PlSt w0 w g nums tv todo lv log) : some g ≠ tv.ownBlock ∧ some g ≠ lv.ownBlock ∧ ∀ b, tv.ownBlock = some b → some b ≠ lv.ownBlock := by
  have h1 := h.blk
  unfold Blk at h1
  refine ⟨fun e => ?_, fun e => ?_, fun b hb e => ?_⟩
  · obtain ⟨_, cur, h2⟩ := own_block_at h.own e.symm
    rw [h1] at h2; cases h2
  · obtain ⟨_, cur, h2⟩ := own_block_at h.olog e.symm
    rw [h1] at h2; cases h2
  · obtain ⟨_, cur, h2⟩ := own_block_at h.olog e.symm
    obtain ⟨_, cur2, h3⟩ := own_block_at h.own hb
    rw [h3] at h2; cases h2
theorem bel_grown {row : Option Nat} (h : RowKit.Below w0.heap.size w0 w) (hg : w.grownBy w' row) (hr : ∀ b, row = some b → w0.heap.size ≤ b) : RowKit.Below w0.heap.size w0 w' :=
  ⟨hg.os.trans h.os, hg.tape.trans h.tape, hg.output.trans h.output, Nat.le_trans h.size hg.size, fun b hb => (hg.block b (Nat.lt_of_lt_of_le hb h.size) (fun e => by have := hr b e.symm; omega)).trans (h.block b hb)⟩
theorem PlSt.pushTodo (h : PlSt w0 w g nums tv todo lv log) {tv' : Value} {s : SentR} (hg : w.grownBy w' tv.ownBlock) (ho : w'.ownsRow w0.heap.size 145 7 tv' (todo.length + 1) (cellsSs todo ++ cellsS s)) : PlSt w0 w' g nums tv' (todo ++ [s]) lv log where
  blk := h.blk.grown hg h.apart.1
  own := by unfold ownS; rw [List.length_append, cellsSs_app, cellsSs_one]; exact ho
  olog := own_of_block h.olog fun b hb => hg.block b (h.olog.lt _ hb).2 fun e => h.apart.2.2 b e.symm hb.symm
  bel := bel_grown h.bel hg fun b hb => (h.own.lt _ hb).1
  low := h.low
theorem PlSt.pushLog (h : PlSt w0 w g nums tv todo lv log) {lv' : Value} {x : LetR} (hg : w.grownBy w' lv.ownBlock) (ho : w'.ownsRow w0.heap.size 49 4 lv' (log.length + 1) (flatX log ++ cellsX x)) : PlSt w0 w' g nums tv todo lv' (log ++ [x]) where
  blk := h.blk.grown hg h.apart.2.1
  own := own_of_block h.own fun b hb => hg.block b (h.own.lt _ hb).2 fun e => h.apart.2.2 b hb e
  olog := by unfold ownX; rw [List.length_append, flatX_app, flatX_one]; exact ho
  bel := bel_grown h.bel hg fun b hb => (h.olog.lt _ hb).1
  low := h.low
theorem PlSt.setNum (h : PlSt w0 w g nums tv todo lv log) (k : Nat) (v : Int) : PlSt w0 (w.setCell ⟨g, k, none⟩ (.int .i64 v)) g (nums.set k v) tv todo lv log where
  blk := by have := h.blk.set_ k (.int .i64 v); rwa [ints_set] at this
  own := own_of_block h.own fun b hb => setCell_ne (fun e => h.apart.1 (by rw [hb]; exact congrArg some e.symm))
  olog := own_of_block h.olog fun b hb => setCell_ne (fun e => h.apart.2.1 (by rw [hb]; exact congrArg some e.symm))
  bel := ⟨h.bel.os, h.bel.tape, h.bel.output, by have := h.bel.size; simpa [World.setCell] using this, fun b hb => (Below.heap_setCell w ⟨g, k, none⟩ _ b (by have := h.low; show b ≠ g; omega)).trans (h.bel.block b hb)⟩
  low := h.low
theorem PlSt.numCell (h : PlSt w0 w g nums tv todo lv log) {k : Nat} (hk : k < nums.length) : w.cell? ⟨g, k, none⟩ = some (.int .i64 (nums.getD k 0)) ∧ w.frozen? ⟨g, k, none⟩ = false := by
  refine ⟨?_, h.blk.frozen k⟩
  rw [h.blk.atInt hk]; simp [List.getD_eq_getElem?_getD, hk]
/-- One of the row. -/
theorem PlSt.at_ (h : PlSt w0 w g nums tv todo lv log) (hne : 0 < todo.length) : ∃ gt c, tv = .slice (some ⟨gt, 0, none⟩) todo.length c ∧ todo.length ≤ c ∧ c ≤ maxLen ∧ w0.heap.size ≤ gt ∧ gt < w.heap.size ∧ ∀ (k : Nat) (hk : k < todo.length) (j : Nat) (v : Value), (cellsS todo[k])[j]? = some v → w.cell? ⟨gt, k * 7 + j, none⟩ = some v ∧ w.frozen? ⟨gt, k * 7 + j, none⟩ = false := by
  have ho := h.own
  rcases ho.2 with ⟨_, h0⟩ | ⟨gt, cap, cur, rfl, h1, h2, h3, h4, h5, h6⟩
  · omega
  · refine ⟨gt, cap, rfl, h3, h4, h1, (Array.getElem?_eq_some_iff.1 h2).1, fun k hk j v hv => ⟨?_, frozen_at h2 _⟩⟩
    have hj : j < 7 := (List.getElem?_eq_some_iff.1 hv).1
    rw [cell_of_row _ _ _ _ _ _ h2, ← hv, ← cellsSs_at todo k hk j hj, ← h6, List.getElem?_take, if_pos (by omega)]
    simp
end
theorem a_loadS {e : Operand → Value} {o : Oper} {w : World} {x : Operand} {b q : Nat} {z : SentR} (hop : o.op = .load 145 x) (hx : e x = .pointer (some ⟨b, q, none⟩)) (h : ∀ j v, (cellsS z)[j]? = some v → w.cell? ⟨b, q + j, none⟩ = some v) : (execOp e o).run Try.prog w = .ok (.value (aggS z)) w := by
  have h0 := h 0 _ rfl
  have h1 := h 1 _ rfl
  have h2 := h 2 _ rfl
  have h3 := h 3 _ rfl
  have h4 := h 4 _ rfl
  have h5 := h 5 _ rfl
  have h6 := h 6 _ rfl
  simp only [Nat.add_zero] at h0
  simp [go_sem, hop, hx, h0, h1, h2, h3, h4, h5, h6, execOp, Instr.loadAt, aggS, cellsS]
def VP20 (gt n c i0 f0 : Nat) (s s2 : SentR) : Nat → Value := fun i => match i with
  | 0 => .slice (some ⟨gt, 0, none⟩) n c
  | 1 => .int .i64 i0
  | 2 => .pointer (some ⟨gt, i0 * 7, none⟩)
  | 3 => aggS s
  | 4 => .slice (some ⟨gt, 0, none⟩) n c
  | 5 => .int .i64 f0
  | 6 => .pointer (some ⟨gt, f0 * 7, none⟩)
  | 7 => aggS s2
  | _ => undef
set_option maxRecDepth 100000 in
theorem p20_ok : drawOk (opsOf Try.f25 20) 8 = true := by kernel_rfl
set_option maxRecDepth 100000 in
theorem p20_ch : chainOk (opsOf Try.f25 20) 8 [] = true := by kernel_rfl
set_option maxRecDepth 100000 in
theorem p20_wp {ops : Array Oper} (hops : ops = opsOf Try.f25 20) {a : Act} {W : World} {gt n c i0 f0 : Nat} {s s2 : SentR}
    (hz : a.tmps.size = 182) (t12 : a.eval (.tmp 12) = .slice (some ⟨gt, 0, none⟩) n c) (t18 : a.eval (.tmp 18) = .int .i64 i0) (t17 : a.eval (.tmp 17) = .int .i64 f0) (hi : i0 < n) (hf : f0 < n)
    (h1 : ∀ j v, (cellsS s)[j]? = some v → W.cell? ⟨gt, i0 * 7 + j, none⟩ = some v) (h2 : ∀ j v, (cellsS s2)[j]? = some v → W.cell? ⟨gt, f0 * 7 + j, none⟩ = some v) {Q : Exit → Act → World → Prop} {id : Nat}
    (hQ : ∀ w', RowKit.Below W.heap.size W w' → Q .normal ((putsV ops (VE [] (VP20 gt n c i0 f0 s s2) []) (List.range 8) a).put (some 74) (.bool (decide (soonerR s s2)))) w') : (Code.region id ops true).wp Try.prog Q a W := by
  subst hops
  have hdd := drawOk_d p20_ok
  have nw : ∀ (V : Nat → Value) t j, prodOf (opsOf Try.f25 20) t = some j → j < 8 → t < 182 → (putsV (opsOf Try.f25 20) V (List.range 8) a).eval (.tmp t) = V j := fun V t j h1 h2 h3 => puts_new hdd h1 h2 (by rw [hz]; exact h3)
  have od : ∀ (V : Nat → Value) t, prodOf (opsOf Try.f25 20) t = none → (putsV (opsOf Try.f25 20) V (List.range 8) a).eval (.tmp t) = a.eval (.tmp t) := fun V t h => puts_old hdd h
  have hsz : (opsOf Try.f25 20).size = 9 := by kernel_rfl
  refine wp_drawnE mixed_orders p20_ok p20_ch (fun vs w => w.heap = W.heap ∧ w.os = W.os ∧ w.tape = W.tape ∧ w.output = W.output) (VP20 gt n c i0 f0 s s2) (fun i o hio him hiE vs w hS => ?_) (fun q i o hq hio vs w hl hS => ?_) (fun vs w hl hS => ?_) (fun d => ⟨rfl, rfl, rfl, rfl⟩)
  · have hil : i < 9 := by have := (Array.getElem?_eq_some_iff.1 hio).1; omega
    obtain rfl | rfl | rfl | rfl | rfl | rfl | rfl | rfl : i = 0 ∨ i = 1 ∨ i = 2 ∨ i = 3 ∨ i = 4 ∨ i = 5 ∨ i = 6 ∨ i = 7 := by omega
    · exact a_mv (op_of (p := .move (.tmp 12)) (by kernel_rfl) hio) ((od _ 12 (by kernel_rfl)).trans t12)
    · exact a_mv (op_of (p := .move (.tmp 18)) (by kernel_rfl) hio) ((od _ 18 (by kernel_rfl)).trans t18)
    · exact a_index (op_of (p := .indexAddr 143 (.tmp 66) (.tmp 67)) (by kernel_rfl) hio) (nw _ 66 0 (by kernel_rfl) (by decide) (by decide)) (nw _ 67 1 (by kernel_rfl) (by decide) (by decide)) hi Try.underlying143 (fun w => Try.sizeOf145 w) (by omega)
    · exact (a_loadS (op_of (p := .load 145 (.tmp 68)) (by kernel_rfl) hio) (nw _ 68 2 (by kernel_rfl) (by decide) (by decide)) (fun j u hu => (World.cell?_of_block (by rw [hS.1])).trans (h1 j u hu)))
    · exact a_mv (op_of (p := .move (.tmp 12)) (by kernel_rfl) hio) ((od _ 12 (by kernel_rfl)).trans t12)
    · exact a_mv (op_of (p := .move (.tmp 17)) (by kernel_rfl) hio) ((od _ 17 (by kernel_rfl)).trans t17)
    · exact a_index (op_of (p := .indexAddr 143 (.tmp 70) (.tmp 71)) (by kernel_rfl) hio) (nw _ 70 4 (by kernel_rfl) (by decide) (by decide)) (nw _ 71 5 (by kernel_rfl) (by decide) (by decide)) hf Try.underlying143 (fun w => Try.sizeOf145 w) (by omega)
    · exact (a_loadS (op_of (p := .load 145 (.tmp 72)) (by kernel_rfl) hio) (nw _ 72 6 (by kernel_rfl) (by decide) (by decide)) (fun j u hu => (World.cell?_of_block (by rw [hS.1])).trans (h2 j u hu)))
  · simp at hq
  · obtain rfl : vs = [] := List.eq_nil_of_length_eq_zero hl
    obtain ⟨hS, ho1, ho2, ho3⟩ := hS
    have e69 : (putsV (opsOf Try.f25 20) (VE [] (VP20 gt n c i0 f0 s s2) []) (List.range 8) a).eval (.tmp 69) = aggS s := nw _ 69 3 (by kernel_rfl) (by decide) (by decide)
    have e73 : (putsV (opsOf Try.f25 20) (VE [] (VP20 gt n c i0 f0 s s2) []) (List.range 8) a).eval (.tmp 73) = aggS s2 := nw _ 73 7 (by kernel_rfl) (by decide) (by decide)
    obtain ⟨o, ho8, hop, hgd, hdst⟩ := op_ex (ops := (opsOf Try.f25 20)) (i := 8) (p := .call { callee := .value (.func 65), args := #[.tmp 69, .tmp 73], argTypes := #[145, 145] }) (d := some 74) (by kernel_rfl)
    simp only [wpOps, ho8, yld hgd, if_true]
    refine .inl ?_
    unfold Oper.wp
    rw [run_call_body hop Try.func65 (by kernel_rfl) (by kernel_rfl), Oper.upon_enter]
    simp only [List.map_toArray, List.map_cons, List.map_nil, e69, e73]
    refine (sooner_b w s s2).mono ?_
    rintro e w' ⟨rfl, hb⟩
    simp only [hdst]
    refine hQ _ ⟨hb.os.trans ho1, hb.tape.trans ho2, hb.output.trans ho3, by rw [← hS]; exact hb.size, fun b hb' => by rw [← hS] at hb' ⊢; exact hb.block b hb'⟩
end Go.Proofs.Yticdjkkcfdbdcaa

/- The reference's Played, plain: what its loops keep. No program. -/
namespace Go.Proofs.Yticdjkkcfdbdcaa
open Go.ChangeShapes Go.WideShapes Go.ChangeAt Go.RowKit Go.Conc Go.ConcN
theorem actCode_zero {R : List RulR} {ls : List LetR} (h : actCode R ls = 0) : R.length ≤ 200 ∧ ls.length ≤ 200 ∧ (∀ x ∈ ls, letOk R.length x) ∧ (∀ r ∈ R, r.rs.length ≤ 200) ∧ ∀ r ∈ R, ¬ rulesBad R.length r.rs := by
  unfold actCode at h
  split at h
  · cases h
  · rename_i h1
    split at h
    · cases h
    · rename_i h2
      split at h
      · cases h
      · rename_i h3
        refine ⟨Classical.byContradiction fun hx => h3 (.inl (by omega)), Classical.byContradiction fun hx => h3 (.inr (.inl (by omega))), fun x hx => Classical.byContradiction fun hn => h1 ⟨x, hx, hn⟩, fun r hr => Classical.byContradiction fun hn => h3 (.inr (.inr ⟨r, hr, by omega⟩)), fun r hr hb => h2 ⟨r, hr, hb⟩⟩
def todo0 (ls : List LetR) : List SentR := ls.mapIdx fun j x => ⟨x, -1, -1, j⟩
theorem todo0_succ {ls : List LetR} {k : Nat} (h : k < ls.length) : (todo0 ls).take (k + 1) = (todo0 ls).take k ++ [⟨ls[k], -1, -1, k⟩] := by
  rw [List.take_succ_eq_append_getElem (by simpa [todo0] using h)]
  simp [todo0]
/-- What is still to come is in order. -/
def sentOk (n : Nat) (s : SentR) : Prop := 0 ≤ s.x.time ∧ s.x.time ≤ 100000 ∧ 0 ≤ s.x.to ∧ s.x.to < n
structure PlInv (n : Nat) (R : List RulR) (ls : List LetR) (E : Int) (todo : List SentR) (nums : List Int) (no : Int) (log : List LetR) : Prop where
  runs : ∀ res, RefRun (R.map (·.rs)) E todo nums no log res → RefRun (R.map (·.rs)) E (todo0 ls) (List.replicate n 0) ls.length [] res
  ok : ∀ s ∈ todo, sentOk n s
  num : nums.length = n
  ll : log.length ≤ 100000
  len : todo.length ≤ 200
  no0 : 0 ≤ no
  no1 : no ≤ 200 + log.length
theorem PlInv.start {n : Nat} {R : List RulR} {ls : List LetR} {E : Int} (h : ls.length ≤ 200) (hl : ∀ x ∈ ls, letOk R.length x) (hn : R.length = n) : PlInv n R ls E (todo0 ls) (List.replicate n 0) ls.length [] where
  runs := fun _ h => h
  ok := fun s hs => by
    obtain ⟨i, hi, rfl⟩ := List.getElem_of_mem hs
    simp only [todo0, List.length_mapIdx] at hi
    have := hl ls[i] (List.getElem_mem hi)
    unfold letOk at this
    simp only [todo0, List.getElem_mapIdx, sentOk]
    omega
  num := by simp
  ll := by simp
  len := by simpa [todo0] using h
  no0 := by omega
  no1 := by simp; omega
/-- What Played comes to. -/
def PlayedPost (w : World) (R : List RulR) (ls : List LetR) (E : Int) (e : Ending) (w' : World) : Prop := RowKit.Below w.heap.size w w' ∧ ∃ res, RefRun (R.map (·.rs)) E (todo0 ls) (List.replicate R.length 0) ls.length [] res ∧
  ((res = none ∧ e = .returned (.tuple #[.slice none 0 0, .slice none 0 0, .int .i64 2])) ∨ ∃ nums log g c lv, res = some (nums, log) ∧ e = .returned (.tuple #[.slice (some ⟨g, 0, none⟩) R.length c, lv, .int .i64 0]) ∧ Blk w' g 2 (ints nums) ∧ ownX w' w.heap.size lv log)
theorem outR_len {l : List SentR} {f : Nat} (hf : f < l.length) : (outR l f hf).length = l.length - 1 := by simp [outR]
theorem outR_at {l : List SentR} {f : Nat} (hf : f < l.length) {k : Nat} (hk : k < l.length - 1) : (outR l f hf)[k]? = some (if k = f then l[l.length - 1]'(by omega) else l[k]'(by omega)) := by
  simp only [outR, List.getElem?_dropLast, List.length_set, if_pos hk, List.getElem?_set]
  by_cases e : f = k
  · subst e; simp [hf]
  · simp [e, show k < l.length by omega]
    exact fun h => absurd h.symm e
theorem info_sent_sz : (Try.prog.info? 145).map (·.size) = some 7 := by kernel_rfl
/-- One is taken out, the last put in its place. -/
theorem PlSt.outR {w0 w : World} {g gt ct f : Nat} {nums : List Int} {todo : List SentR} {lv : Value} {log : List LetR} (h : PlSt w0 w g nums (.slice (some ⟨gt, 0, none⟩) todo.length ct) todo lv log) (hf : f < todo.length) :
    ∃ W2, (Instr.storeAt 145 (.pointer (some ⟨gt, f * 7, none⟩)) (aggS (todo[todo.length - 1]'(by omega)))).run Try.prog w = .ok () W2 ∧ PlSt w0 W2 g nums (.slice (some ⟨gt, 0, none⟩) (todo.length - 1) ct) (Go.Proofs.Yticdjkkcfdbdcaa.outR todo f hf) lv log ∧ ∀ b, b ≠ gt → W2.heap[b]? = w.heap[b]? := by
  obtain ⟨x, hx⟩ : ∃ x, todo[todo.length - 1]'(by omega) = x := ⟨_, rfl⟩
  rw [hx]
  rcases h.own.2 with ⟨h0, _⟩ | ⟨gt', cap, cur, he, h1, h2, h3, h4, h5, h6⟩
  · cases h0
  obtain ⟨rfl, rfl⟩ : gt = gt' ∧ ct = cap := by simp only [Value.slice.injEq, Option.some.injEq, Addr.mk.injEq] at he; exact ⟨he.1.1, he.2.2⟩
  have hrun := run_storeCells_at (P := Try.prog) gt (f * 7) 145 (cellsS x) 0 cur w h2 (by rw [h5]; show f * 7 + 0 + 7 ≤ ct * 7; omega) (cellsS_one' x)
  have hne : ∀ b, b ≠ gt → (w.setRow gt (cur.toList.take (f * 7 + 0) ++ cellsS x ++ cur.toList.drop (f * 7 + 0 + (cellsS x).length)).toArray).heap[b]? = w.heap[b]? := fun b hb => by
    unfold World.setRow
    simp only [Array.getElem?_modify]
    rw [if_neg (fun e => hb e.symm)]
  have hgt := setRow_heap w gt cur (cur.toList.take (f * 7 + 0) ++ cellsS x ++ cur.toList.drop (f * 7 + 0 + (cellsS x).length)).toArray 145 (0, 0) h2
  have hsz : (w.setRow gt (cur.toList.take (f * 7 + 0) ++ cellsS x ++ cur.toList.drop (f * 7 + 0 + (cellsS x).length)).toArray).heap.size = w.heap.size := by simp [World.setRow]
  have hap := h.apart
  refine ⟨_, ?_, ⟨?_, ⟨?_, .inr ⟨gt, ct, _, by rw [outR_len], h1, hgt, by rw [outR_len]; omega, h4, ?_, ?_⟩⟩, ?_, ?_, h.low⟩, hne⟩
  · cases hq : Try.prog.info? 145 with
    | none => have := info_sent_sz; rw [hq] at this; cases this
    | some i =>
      have hs : i.size = 7 := by have := info_sent_sz; rw [hq] at this; simpa using this
      have hrun' := hrun
      have hcs : (cellsS x).length = 7 := rfl
      simp only [Instr.storeAt, Instr.sureAddr, Sem.run_bind, Sem.run_pure, Result.andThen_ok]
      simp only [aggS, storeVar, sizeOf, typeInfo, Sem.run_bind, Value.cells]
      simp [hq, hs, hcs]
      simpa [hcs] using hrun'
  · exact (hne g (fun e => hap.1 (by rw [e]; rfl))).trans h.blk
  · rw [cellsSs_len]
  · simp [h5, show (cellsS x).length = 7 from rfl]; omega
  · have hcl : cur.toList.length = ct * 7 := by simpa using h5
    rw [outR_len]
    apply List.ext_getElem?
    intro j
    rw [List.getElem?_take]
    by_cases hj : j < (todo.length - 1) * 7
    · rw [if_pos hj]
      obtain ⟨k, i, hi, rfl⟩ : ∃ k i, i < 7 ∧ j = k * 7 + i := ⟨j / 7, j % 7, by omega, by omega⟩
      have hk : k < (Go.Proofs.Yticdjkkcfdbdcaa.outR todo f hf).length := by rw [outR_len]; omega
      rw [cellsSs_at _ k hk i hi]
      have hat := outR_at hf (k := k) (by omega)
      rw [List.getElem?_eq_getElem hk] at hat
      rw [Option.some.inj hat]
      simp only [List.toList_toArray, Nat.add_zero, show (cellsS x).length = 7 from rfl]
      by_cases e : k = f
      · subst e
        rw [if_pos rfl, hx, List.append_assoc, List.getElem?_append_right (by rw [List.length_take, hcl]; omega), List.length_take, hcl, show min (k * 7) (ct * 7) = k * 7 by omega, show k * 7 + i - k * 7 = i by omega, List.getElem?_append_left (by show i < 7; omega)]
      · rw [if_neg e]
        have hold : cur.toList[k * 7 + i]? = (cellsS (todo[k]'(by omega)))[i]? := by
          rw [← cellsSs_at todo k (by omega) i hi, ← h6, List.getElem?_take, if_pos (by omega)]
        rw [← hold]
        by_cases e2 : k < f
        · rw [List.append_assoc, List.getElem?_append_left (by rw [List.length_take, hcl]; omega), List.getElem?_take, if_pos (by omega)]
        · rw [List.getElem?_append_right (by simp [show (cellsS x).length = 7 from rfl]; omega)]
          have hl : (cur.toList.take (f * 7) ++ cellsS x).length = f * 7 + 7 := by simp [hcl, show (cellsS x).length = 7 from rfl]; have := h5; omega
          rw [hl, List.getElem?_drop, show f * 7 + 7 + (k * 7 + i - (f * 7 + 7)) = k * 7 + i by omega]
    · rw [if_neg hj, List.getElem?_eq_none (by rw [cellsSs_len, outR_len]; omega)]
  · exact own_of_block h.olog fun b hb => hne b (fun e => hap.2.2 gt rfl (by rw [← e]; exact hb.symm))
  · exact ⟨h.bel.os, h.bel.tape, h.bel.output, by rw [hsz]; exact h.bel.size, fun b hb => (hne b (by omega)).trans (h.bel.block b hb)⟩
theorem takeR_none {rs : List RuleR} {num : Int} {x : LetR} (h : ∀ r ∈ rs, r.kind ≠ x.kind) : takeR rs num x = (num, none) := by
  unfold takeR
  rw [List.find?_eq_none.2 (fun r hr => by simpa using h r hr)]
theorem takeR_ne {rs : List RuleR} {num : Int} {x : LetR} {q : Nat} (hq : q < rs.length) (h : rs[q].kind ≠ x.kind) : takeR (rs.take (q + 1)) num x = takeR (rs.take q) num x := by
  unfold takeR
  rw [List.take_succ_eq_append_getElem hq, List.find?_append]
  have : [rs[q]].find? (fun r => r.kind == x.kind) = none := List.find?_eq_none.2 (fun r hr => by rw [List.mem_singleton] at hr; subst hr; simpa using h)
  rw [this, Option.or_none]
theorem takeR_eq {rs : List RuleR} {num : Int} {x : LetR} {q : Nat} (hn : (rs.map (·.kind)).Nodup) (hq : q < rs.length) (h : rs[q].kind = x.kind) : takeR (rs.take q) num x = (num, none) ∧
    takeR (rs.take (q + 1)) num x = (w64 (w64 (w64 (rs[q].times * num) + rs[q].plus) + x.n), if rs[q].mod = 0 ∨ (w64 (w64 (w64 (rs[q].times * num) + rs[q].plus) + x.n)).tmod rs[q].mod ≠ 0 then none else some ⟨x.time + rs[q].after, rs[q].to, rs[q].send, w64 (w64 (w64 (rs[q].times * num) + rs[q].plus) + x.n)⟩) := by
  have hno : ∀ r ∈ rs.take q, r.kind ≠ x.kind := fun r hr e => by
    obtain ⟨j, hj, rfl⟩ := List.getElem_of_mem hr
    rw [List.length_take] at hj
    rw [List.getElem_take] at e
    have h1 : (rs.map (·.kind))[j]'(by rw [List.length_map]; omega) = (rs.map (·.kind))[q]'(by rw [List.length_map]; omega) := by rw [List.getElem_map, List.getElem_map, e, h]
    have := (List.getElem_inj hn).1 h1
    omega
  refine ⟨takeR_none hno, ?_⟩
  unfold takeR
  rw [List.take_succ_eq_append_getElem hq, List.find?_append, List.find?_eq_none.2 (fun r hr => by simpa using hno r hr)]
  simp [h]
/-- The letter has been told to the first q rules. -/
def DoneQ (rs : List RuleR) (x : LetR) (kx : Nat) (out : List SentR) (nums : List Int) (no : Int) (q : Nat) (todo' : List SentR) (nums' : List Int) (no' : Int) : Prop :=
  nums' = nums.set kx (takeR (rs.take q) (nums.getD kx 0) x).1 ∧ (((takeR (rs.take q) (nums.getD kx 0) x).2 = none ∧ todo' = out ∧ no' = no) ∨ ∃ y, (takeR (rs.take q) (nums.getD kx 0) x).2 = some y ∧ todo' = out ++ [⟨y, x.time, x.to, no⟩] ∧ no' = no + 1)
theorem doneQ_zero (rs : List RuleR) (x : LetR) {kx : Nat} (out : List SentR) {nums : List Int} (no : Int) (hk : kx < nums.length) : DoneQ rs x kx out nums no 0 out nums no := by
  refine ⟨?_, .inl ⟨rfl, rfl, rfl⟩⟩
  show nums = nums.set kx (nums.getD kx 0)
  apply List.ext_getElem?
  intro j
  rw [List.getElem?_set]
  by_cases e : kx = j
  · subst e; simp [hk]
  · simp [e]
theorem DoneQ.ne {rs : List RuleR} {x : LetR} {kx : Nat} {out : List SentR} {nums : List Int} {no : Int} {q : Nat} {todo' : List SentR} {nums' : List Int} {no' : Int} (h : DoneQ rs x kx out nums no q todo' nums' no') (hq : q < rs.length) (hk : rs[q].kind ≠ x.kind) : DoneQ rs x kx out nums no (q + 1) todo' nums' no' := by
  unfold DoneQ at h ⊢
  rw [takeR_ne hq hk]
  exact h
/-- The rule is met: nothing was done before. -/
theorem DoneQ.met {rs : List RuleR} {x : LetR} {kx : Nat} {out : List SentR} {nums : List Int} {no : Int} {q : Nat} {todo' : List SentR} {nums' : List Int} {no' : Int} (h : DoneQ rs x kx out nums no q todo' nums' no') (hn : (rs.map (·.kind)).Nodup) (hq : q < rs.length) (hk : rs[q].kind = x.kind) (hkx : kx < nums.length) :
    todo' = out ∧ nums' = nums ∧ no' = no ∧ ∀ N, w64 (w64 (w64 (rs[q].times * nums.getD kx 0) + rs[q].plus) + x.n) = N → ((rs[q].mod = 0 ∨ N.tmod rs[q].mod ≠ 0) → DoneQ rs x kx out nums no (q + 1) out (nums.set kx N) no) ∧
      (¬ (rs[q].mod = 0 ∨ N.tmod rs[q].mod ≠ 0) → DoneQ rs x kx out nums no (q + 1) (out ++ [⟨⟨x.time + rs[q].after, rs[q].to, rs[q].send, N⟩, x.time, x.to, no⟩]) (nums.set kx N) (no + 1)) := by
  obtain ⟨e1, e2⟩ := takeR_eq (num := nums.getD kx 0) hn hq hk
  unfold DoneQ at h
  rw [e1] at h
  obtain ⟨h1, h2⟩ := h
  have hz := (doneQ_zero rs x out no hkx).1
  have hnu : nums' = nums := by rw [h1]; exact hz.symm
  rcases h2 with ⟨_, h3, h4⟩ | ⟨y, h3, _⟩
  · refine ⟨h3, hnu, h4, fun N hN => ⟨fun hc => ?_, fun hc => ?_⟩⟩
    · unfold DoneQ
      rw [e2, hN, if_pos hc]
      exact ⟨rfl, .inl ⟨rfl, rfl, rfl⟩⟩
    · unfold DoneQ
      rw [e2, hN, if_neg hc]
      exact ⟨rfl, .inr ⟨_, rfl, rfl, rfl⟩⟩
  · cases h3
section
variable {n : Nat} {R : List RulR} {ls : List LetR} {E : Int} {todo : List SentR} {nums : List Int} {no : Int} {log : List LetR} {f : Nat}
theorem mem_outR {l : List SentR} {f : Nat} (hf : f < l.length) {s : SentR} (h : s ∈ outR l f hf) : s ∈ l := by
  have := (List.dropLast_sublist _).subset h
  rcases List.mem_or_eq_of_mem_set this with h | h
  · exact h
  · rw [h]; exact List.getElem_mem _
theorem PlInv.late (h : PlInv n R ls E todo nums no log) (h1 : IsFirst todo f) (hf : f < todo.length) (h2 : E < todo[f].x.time) : PlInv n R ls E (outR todo f hf) nums no log :=
  ⟨fun res hr => h.runs res (.late hf h1 h2 hr), fun s hs => h.ok s (mem_outR hf hs), h.num, h.ll, by rw [outR_len]; have := h.len; omega, h.no0, h.no1⟩
theorem PlInv.large (h : PlInv n R ls E todo nums no log) (h1 : IsFirst todo f) (hf : f < todo.length) (h2 : todo[f].x.time ≤ E) (h3 : 100000 < log.length + 1) : RefRun (R.map (·.rs)) E (todo0 ls) (List.replicate n 0) ls.length [] none := h.runs _ (.large hf h1 h2 h3)
theorem PlInv.done (h : PlInv n R ls E todo nums no log) (h1 : IsFirst todo f) (hf : f < todo.length) (h2 : todo[f].x.time ≤ E) (h3 : ¬ 100000 < log.length + 1) {x : LetR} {kx : Nat} {rs : List RuleR} (hx : todo[f].x = x) (hkx : x.to = kx) (hrs : (R.map (·.rs)).getD kx [] = rs) (hE : 0 ≤ E ∧ E ≤ 1000) (hro : ∀ r ∈ rs, ruleOk n r)
    {todo' : List SentR} {nums' : List Int} {no' : Int} (hd : DoneQ rs x kx (outR todo f hf) nums no rs.length todo' nums' no') : PlInv n R ls E todo' nums' no' (log ++ [x]) ∧ todo'.length ≤ todo.length := by
  obtain ⟨d1, d2⟩ := hd
  rw [List.take_length] at d1 d2
  have hfo := h.ok _ (List.getElem_mem hf)
  unfold sentOk at hfo
  have ht : todo[f].x.to.toNat = kx := by rw [hx, hkx]; rfl
  have hol := outR_len hf
  have hlen := h.len
  have hno1 := h.no1
  have hno0 := h.no0
  rcases d2 with ⟨d2, rfl, rfl⟩ | ⟨y, d2, rfl, rfl⟩
  · refine ⟨⟨fun res hr => h.runs res (.quiet hf h1 h2 (by omega) (m := (takeR rs (nums.getD kx 0) x).1) (by rw [ht, hrs, hx, ← d2]) (by rw [ht, ← d1, hx]; exact hr)), fun s hs => h.ok s (mem_outR hf hs), by rw [d1, List.length_set]; exact h.num, by simp; omega, by omega, hno0, by simp; omega⟩, by omega⟩
  · have hy : 0 ≤ y.time ∧ y.time ≤ 100000 ∧ 0 ≤ y.to ∧ y.to < n := by
      unfold takeR at d2
      split at d2
      · cases d2
      · rename_i r hfi
        have hr := hro r (List.mem_of_find?_eq_some hfi)
        unfold ruleOk at hr
        simp only at d2
        split at d2
        · cases d2
        · rename_i hne
          cases d2
          have : r.mod ≠ 0 := fun e => hne (.inl e)
          have hxt : x.time = todo[f].x.time := by rw [hx]
          simp only
          omega
    refine ⟨⟨fun res hr => h.runs res (.send hf h1 h2 (by omega) (m := (takeR rs (nums.getD kx 0) x).1) (y := y) (by rw [ht, hrs, hx, ← d2]) (by rw [ht, ← d1, hx]; exact hr)), fun s hs => ?_, by rw [d1, List.length_set]; exact h.num, by simp; omega, by simp; omega, by omega, by simp; omega⟩, by simp; omega⟩
    rcases List.mem_append.1 hs with hs | hs
    · exact h.ok s (mem_outR hf hs)
    · rw [List.mem_singleton] at hs
      subst hs
      exact hy
theorem PlInv.end_ (h : PlInv n R ls E [] nums no log) : RefRun (R.map (·.rs)) E (todo0 ls) (List.replicate n 0) ls.length [] (some (nums, log)) := h.runs _ .done
end
/-- A store whose run is told by an equation. -/
theorem wpList_store_eq {P : Program} {ops : Array Oper} {rest : List Oper} {op : Oper} {a : Act} {w w2 : World} {Q : Exit → Act → World → Prop} {ty : TypeId} {x y : Operand} {px vy : Value} (hgd : op.guard = none) (ho : op.op = .store ty x y)
    (hx : a.eval x = px) (hy : a.eval y = vy) (hr : (Instr.storeAt ty px vy).run P w = .ok () w2) (h : wpList P ops Q rest (a.put op.dst undef) w2) : wpList P ops Q (op :: rest) a w :=
  wpList_plain hgd fun K hK => by
    unfold Oper.wp execOp
    simp only [ho, hx, hy, Sem.run_bind, hr, Result.andThen_ok, Sem.run_pure]
    exact hK _ _ h
end Go.Proofs.Yticdjkkcfdbdcaa
