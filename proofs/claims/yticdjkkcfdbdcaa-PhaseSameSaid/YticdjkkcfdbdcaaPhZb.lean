/- phase.Run in company, told of the lone world. No conditions but those named. -/
import Derived.Test.YticdjkkcfdbdcaaPhU
import Derived.Test.YticdjkkcfdbdcaaPhY
import Derived.Test.YticdjkkcfdbdcaaPhE
import Derived.Test.YticdjkkcfdbdcaaPhN
import Derived.Conc.SmallLaws
namespace Go.Proofs.Yticdjkkcfdbdcaa
open Go.Conc Go.ConcN Go.RowKit Go.ChangeShapes Go.WideShapes Go.ChangeAt
theorem run_mv (e : Operand → Value) (o : Oper) {x : Operand} (hop : o.op = .move x) (w : World) : (execOp e o).runT Try.prog w #[] = (.ok (.value (e x)) w, #[]) := by simp [go_sem, hop, execOp]
theorem pack_three {fn : Func} {i j k : Tmp} (h : fn.results = #[.tmp i, .tmp j, .tmp k]) (T : Array Value) : pack (resVals fn T) = .tuple #[T.getD i undef, T.getD j undef, T.getD k undef] := by
  simp [resVals, h, pack]
set_option maxRecDepth 100000 in
theorem res_15 : ResFn Try.prog 15 := resB_ok Try.func15 (by kernel_rfl)
theorem results_15 : Try.f15.results = #[.tmp 4, .tmp 5, .tmp 6] := by kernel_rfl
open Classical in
noncomputable def runCode (D : List DosR) (wk : Int) : Int := if dosCode D ≠ 0 then dosCode D else if wkOk wk then 0 else 1
/-- What phase.Run answers. -/
def RunPM (D : List DosR) (wk : Int) (L : World) (v : Value) (L1 : World) : Prop :=
  (runCode D wk = 0 → ∃ k ps u, Phs (startP D) k ps ∧ v = .tuple #[u, .int .i64 k, .int .i64 0] ∧ L1.ownsRow L.heap.size 2 1 u D.length (ints (ps.map (·.num)))) ∧
  (runCode D wk ≠ 0 → v = .tuple #[.slice none 0 0, .int .i64 0, .int .i64 (runCode D wk)]) ∧ Kp L.heap.size L L1
theorem dosCode_zero {D : List DosR} (h : dosCode D = 0) : D.length ≤ 200 ∧ (∀ l ∈ D, l.ds.length ≤ 1000) ∧ ∀ l ∈ D, ∀ d ∈ l.ds, okDo D.length d := by
  unfold dosCode at h
  split at h
  · cases h
  · rename_i h1
    split at h
    · cases h
    · rename_i h2
      unfold Large at h2
      refine ⟨Classical.byContradiction fun hx => h2 (.inl (by omega)), fun l hl => Classical.byContradiction fun hx => h2 (.inr ⟨l, hl, by omega⟩), fun l hl d hd => Classical.byContradiction fun hx => h1 ⟨l, hl, d, hd, hx⟩⟩
theorem info_procz : (Try.prog.info? 102).map (fun i => (i.zero, i.size, i.bytes)) = some (some (.agg #[.slice none 0 0, .int .i64 0, .slice none 0 0, .slice none 0 0]), 4, 80) := by kernel_rfl
def pl0 : PL := ⟨⟨[], 0, [], []⟩, none, 0, .slice none 0 0, none, 0⟩
theorem made_proc (n : Nat) : (madeCells #[.slice none 0 0, .int .i64 0, .slice none 0 0, .slice none 0 0] (n * 4)).toList = cellsP (List.replicate n pl0) := by
  apply List.ext_getElem?
  intro j
  by_cases h : j < n * 4
  · obtain ⟨q, i, hi, rfl⟩ : ∃ q i, i < 4 ∧ j = q * 4 + i := ⟨j / 4, j % 4, by omega, by omega⟩
    rw [cellsP_at _ q (by simp; omega) i hi]
    have : (q * 4 + i) % 4 = i := by omega
    obtain rfl | rfl | rfl | rfl : i = 0 ∨ i = 1 ∨ i = 2 ∨ i = 3 := by omega
    all_goals
      (try simp only [Nat.add_zero] at h this ⊢)
      simp [madeCells, h, Value.cells, this, PL.cells, pl0]
  · rw [List.getElem?_eq_none (by simpa [madeCells] using h), List.getElem?_eq_none (by rw [cellsP_length]; simpa using h)]
theorem make_proc (n : Nat) (hn : n ≤ 200) (w : World) : (Instr.makeSlice 99 (.int .i64 (n : Int)) (.int .i64 (n : Int))).run Try.prog w = .ok (.slice (some ⟨w.heap.size, 0, none⟩) n n) (w.alloc (.cells (madeCells #[.slice none 0 0, .int .i64 0, .slice none 0 0, .slice none 0 0] (n * 4)) 102)) := by
  obtain ⟨i, hi, hz⟩ := Option.map_eq_some_iff.1 info_procz
  simp only [Prod.mk.injEq] at hz
  have := run_make_cells (P := Try.prog) 99 102 i _ Try.underlying99 hi hz.1 .i64 .i64 n (by rw [hz.2.2]; omega) (by omega) w
  rwa [hz.2.1] at this
/-- The processes, k of them filled. -/
def fillP (D : List DosR) (k : Nat) : List PL := (List.range D.length).map fun j => if h : j < k ∧ j < D.length then ⟨⟨D[j].ds, 0, [], []⟩, D[j].A, D[j].c, .slice none 0 0, none, 0⟩ else pl0
theorem fillP_length (D : List DosR) (k : Nat) : (fillP D k).length = D.length := by simp [fillP]
theorem fillP_zero (D : List DosR) : fillP D 0 = List.replicate D.length pl0 := by
  apply List.ext_getElem?; intro j; simp [fillP, List.getElem?_replicate]
  by_cases h : j < D.length <;> simp [h]
theorem fillP_at {D : List DosR} {k j : Nat} (h : j < D.length) : (fillP D k)[j]'(by rw [fillP_length]; exact h) = if j < k then ⟨⟨D[j].ds, 0, [], []⟩, D[j].A, D[j].c, .slice none 0 0, none, 0⟩ else pl0 := by
  by_cases e : j < k <;> simp [fillP, h, e]
theorem fillP_succ {D : List DosR} {k : Nat} (h : k < D.length) : (fillP D k).set k ⟨⟨D[k].ds, 0, [], []⟩, D[k].A, D[k].c, .slice none 0 0, none, 0⟩ = fillP D (k + 1) := by
  apply List.ext_getElem
  · simp [fillP_length]
  · intro j h1 h2
    rw [fillP_length] at h2
    rw [List.getElem_set, fillP_at h2]
    by_cases e : k = j
    · subst e; rw [if_pos rfl, fillP_at h2, if_pos (by omega)]
    · rw [if_neg e, fillP_at h2]
      by_cases e2 : j < k
      · rw [if_pos e2, if_pos (by omega)]
      · rw [if_neg e2, if_neg (by omega)]
theorem fillP_full (D : List DosR) : (fillP D D.length).map (·.p) = startP D := by
  apply List.ext_getElem
  · simp [fillP_length, startP]
  · intro j h1 h2
    simp [startP] at h2
    simp [startP, fillP_at h2, h2]
theorem run_lenP (e : Operand → Value) (o : Oper) {x : Operand} {A : Option Addr} {n c : Nat} (hop : o.op = .call { callee := .builtin .len, args := #[x], argTypes := #[99] }) (hx : e x = .slice A n c) (w : World) : (execOp e o).runT Try.prog w #[] = (.ok (.value (.int .i64 n)) w, #[]) := by
  simp [go_sem, hop, hx, execOp]
theorem info_procp : (Try.prog.info? 104).map (fun i => i.bytes) = some 8 := by kernel_rfl
theorem run_makeC (e : Operand → Value) (o : Oper) {x : Operand} {n : Nat} (hop : o.op = .makeChan 103 x) (hx : e x = .int .i64 n) (hn : n ≤ 200) (w : World) : (execOp e o).runT Try.prog w #[] = (.ok (.value (.chan (some w.heap.size))) { w with heap := w.heap.push (.chan n #[] false 0 0 false) }, #[]) := by
  obtain ⟨i, hi, hb⟩ := Option.map_eq_some_iff.1 info_procp
  have h1 := run_makeChan (P := Try.prog) (w := w) Try.underlying103 hi .i64 n (by omega) (by rw [hb]; omega)
  have h2 := events_makeChan (P := Try.prog) (w := w) Try.underlying103 hi .i64 n (by omega) (by rw [hb]; omega) #[]
  simp [go_sem, hop, hx, execOp, h1, h2]
theorem run_allocC (e : Operand → Value) (o : Oper) (hop : o.op = .alloc 103) (w : World) : (execOp e o).run Try.prog w = .ok (.value (.pointer (some ⟨w.heap.size, 0, none⟩))) (w.alloc (.cells #[.chan none] 103)) := by
  simp [go_sem, hop, execOp]
theorem run_storeC (e : Operand → Value) (o : Oper) {x y : Operand} {p : Addr} {c : Nat} {u : Value} (hop : o.op = .store 103 x y) (hx : e x = .pointer (some p)) (hy : e y = .chan (some c)) (w : World) (hc : w.cell? p = some u) (hz : w.frozen? p = false) : (execOp e o).run Try.prog w = .ok .skip (w.setCell p (.chan (some c))) :=
  (op_store (P := Try.prog) (fn := 0) (k := ⟨fun _ => True, fun _ => True, fun _ => True⟩) (w := w) hop hx hy ⟨fun c h => (by cases h), fun c h => (by cases h)⟩ (fun w => Try.sizeOf103 w) hc hz trivial).1
theorem q_indexP {e : Operand → Value} {o : Oper} {x y : Operand} {gl n c8 j : Nat} (w : World) (hop : o.op = .indexAddr 99 x y) (h1 : e x = .slice (some ⟨gl, 0, none⟩) n c8) (h2 : e y = .int .i64 j) (hj : j < n) : (execOp e o).run Try.prog w = .ok (.value (.pointer (some ⟨gl, j * 4, none⟩))) w := by
  have := (opv_index (P := Try.prog) (fn := 0) (k := LK.none) (w := w) hop h1 h2 (by omega) (by omega) Try.underlying99 (fun w => Try.sizeOf102 w)).1
  rw [show ((⟨gl, 0, none⟩ : Addr).add (((j : Nat) : Int).toNat * 4)) = ⟨gl, j * 4, none⟩ by simp [Addr.add_lit']] at this
  exact this
def V17 (gl n cL j : Nat) : Nat → Value := fun i => match i with
  | 0 => .chan (some cL)
  | 1 => .slice (some ⟨gl, 0, none⟩) n n
  | 2 => .int .i64 j
  | 3 => .pointer (some ⟨gl, j * 4, none⟩)
  | _ => undef
theorem act_lit (N : Nat) {a : Act} (h : a.tmps.size = N) : ∃ f : Nat → Value, a.tmps = ((List.range N).map f).toArray ∧ ∀ i, f i = a.eval (.tmp i) := by
  refine ⟨fun i => a.eval (.tmp i), ?_, fun _ => rfl⟩
  apply Array.ext
  · simp [h]
  · intro i h1 h2
    simp only [List.getElem_toArray, List.getElem_map, List.getElem_range]
    exact (eval_of (Array.getElem?_eq_getElem h1)).symm
/-- The measure of the main loop. -/
def phMeas (a : Act) : Nat := match a.eval (.tmp 5) with
  | .int _ p => (200001 - p).toNat
  | _ => 0
/-- What is known of the processes between two phases. -/
structure Between (D : List DosR) (ph : Nat) (l : List PL) : Prop where
  len : l.length = D.length
  nil : ∀ x ∈ l, x.p.sends = [] ∧ x.sA = none ∧ x.sc = 0
  come : ∀ x ∈ l, x.p.come.length + todoSum (l.map (·.p)) ≤ 200000
  left : ph + todoSum (l.map (·.p)) ≤ 200000
  ok : ∀ x ∈ l, ∀ d ∈ x.p.todo, okDo D.length d
  phs : ∀ k ps', Phs (l.map (·.p)) k ps' → Phs (startP D) (ph + k) ps'
/-- The frame between two phases. -/
structure MainA (A : Option Addr) (c n : Nat) (wk : Int) (gl ph : Nat) (a : Act) : Prop where
  size : a.tmps.size = 130
  d : a.defers = []
  t0 : a.eval (.tmp 0) = .slice A n c
  t1 : a.eval (.tmp 1) = .int .i64 wk
  t4 : a.eval (.tmp 4) = .slice none 0 0
  t5 : a.eval (.tmp 5) = .int .i64 ph
  t8 : a.eval (.tmp 8) = .slice (some ⟨gl, 0, none⟩) n n
def MainI (A : Option Addr) (c n : Nat) (wk : Int) (gl : Nat) (D : List DosR) (L : World) (a : Act) (L' : World) : Prop :=
  ∃ (ph : Nat) (l : List PL), MainA A c n wk gl ph a ∧ Between D ph l ∧ Lies L' L.heap.size (gl + 1) gl l ∧ Kp L.heap.size L L'
theorem todoSum_le {m : Nat} : ∀ (ps : List ProcR), (∀ p ∈ ps, p.todo.length ≤ m) → todoSum ps ≤ ps.length * m
  | [], _ => Nat.zero_le _
  | p :: ps, h => by
    have := todoSum_le ps fun q hq => h q (List.mem_cons_of_mem _ hq)
    have := h p (List.mem_cons_self ..)
    simp only [todoSum, List.map_cons, List.sum_cons, List.length_cons, Nat.succ_mul] at *
    omega
theorem between_start {D : List DosR} (hn : D.length ≤ 200) (h1 : ∀ l ∈ D, l.ds.length ≤ 1000) (h2 : ∀ l ∈ D, ∀ d ∈ l.ds, okDo D.length d) : Between D 0 (fillP D D.length) := by
  have hat : ∀ x ∈ fillP D D.length, ∃ (j : Nat) (h : j < D.length), x = ⟨⟨D[j].ds, 0, [], []⟩, D[j].A, D[j].c, .slice none 0 0, none, 0⟩ := fun x hx => by
    obtain ⟨j, hj, rfl⟩ := List.getElem_of_mem hx
    rw [fillP_length] at hj
    exact ⟨j, hj, by rw [fillP_at hj, if_pos hj]⟩
  have hts : todoSum (startP D) ≤ 200000 := by
    have := todoSum_le (m := 1000) (startP D) fun p hp => by
      simp only [startP, List.mem_map] at hp
      obtain ⟨l, hl, rfl⟩ := hp
      exact h1 l hl
    have : (startP D).length = D.length := by simp [startP]
    omega
  refine ⟨fillP_length .., fun x hx => ?_, fun x hx => ?_, ?_, fun x hx d hd => ?_, fun k ps' h => ?_⟩
  · obtain ⟨j, hj, rfl⟩ := hat x hx; exact ⟨rfl, rfl, rfl⟩
  · obtain ⟨j, hj, rfl⟩ := hat x hx; rw [fillP_full]; simpa using hts
  · rw [fillP_full]; omega
  · obtain ⟨j, hj, rfl⟩ := hat x hx; exact h2 _ (List.getElem_mem hj) d hd
  · rw [fillP_full] at h; rw [Nat.zero_add]; exact h
/-- The channel of a phase and its box. -/
structure ChanL (N : Nat) (L : World) (cL n : Nat) (x : Array Value) (cl : Bool) : Prop where
  low : N ≤ cL
  ch : L.heap[cL]? = some (.chan n x cl x.size 0 false)
  box : L.heap[cL + 1]? = some (.cells #[.chan (some cL)] 103 (0, 0))
theorem ChanL.same {N : Nat} {L L' : World} {cL n : Nat} {x : Array Value} {cl : Bool} (h : ChanL N L cL n x cl) (e : L'.heap = L.heap) : ChanL N L' cL n x cl := ⟨h.low, by rw [e]; exact h.ch, by rw [e]; exact h.box⟩
theorem chan_start {L0 L : World} {B base gl n : Nat} {l : List PL} (h : Lies L B base gl l) (hk : Kp B L0 L) : let L2 := (({ L with heap := L.heap.push (.chan n #[] false 0 0 false) } : World).alloc (.cells #[.chan none] 103)).setCell ⟨L.heap.size + 1, 0, none⟩ (.chan (some L.heap.size))
    Lies L2 B base gl l ∧ Kp B L0 L2 ∧ ChanL B L2 L.heap.size n #[] false := by
  intro L2
  have h1 : Lies (L.alloc (.chan n #[] false 0 0 false)) B base gl l := h.alloc _
  have h2 := h1.alloc (.cells #[.chan none] 103)
  have hb := h.bound
  have hlo := h.low
  have hbe := h.below
  have hz : (L.alloc (.chan n #[] false 0 0 false)).heap.size = L.heap.size + 1 := by simp
  have hbk := Blk.new (L.alloc (.chan n #[] false 0 0 false)) 103 [.chan none]
  rw [hz] at hbk
  have hne : ∀ b, b ≠ L.heap.size + 1 → L2.heap[b]? = ((L.alloc (.chan n #[] false 0 0 false)).alloc (.cells #[.chan none] 103)).heap[b]? := fun b hb => Below.heap_setCell _ ⟨L.heap.size + 1, 0, none⟩ _ b hb
  refine ⟨h2.keep (by
      have : L2.heap.size = ((L.alloc (.chan n #[] false 0 0 false)).alloc (.cells #[.chan none] 103)).heap.size := by
        show (World.setCell _ _ _).heap.size = _
        simp [World.setCell]
      omega) (fun b hb => hne b (by omega)) (hne gl (by omega)) (fun b cur h3 h4 => hne b fun e => ?_) (fun b x ty fz h3 h4 => hne b fun e => ?_), ?_, ?_⟩
  · subst e
    unfold Blk at hbk
    rw [hbk] at h4
    injection h4 with h4
    injection h4 with _ ht _
    exact absurd ht (by decide)
  · subst e
    unfold Blk at hbk
    rw [hbk] at h4
    injection h4 with h4
    injection h4 with _ ht _
    subst ht
    have : (Try.prog.info? 103).isSome = true := by kernel_rfl
    rw [h3] at this
    cases this
  · exact ((hk.alloc (.chan n #[] false 0 0 false)).alloc (.cells #[.chan none] 103)).set_ (by show B ≤ L.heap.size + 1; omega) _
  · refine ⟨by omega, ?_, ?_⟩
    rw [hne _ (by omega), Below.heap_alloc _ _ _ (by rw [hz]; omega)]
    · exact heap_alloc_new L _
    have := hbk.set_ 0 (.chan (some L.heap.size))
    exact this
theorem box_new {L w : World} {n : Nat} (hw : w.heap = (({ L with heap := L.heap.push (.chan n #[] false 0 0 false) } : World).alloc (.cells #[.chan none] 103)).heap) : w.cell? ⟨L.heap.size + 1, 0, none⟩ = some (.chan none) ∧ w.frozen? ⟨L.heap.size + 1, 0, none⟩ = false := by
  have hz : (L.alloc (.chan n #[] false 0 0 false)).heap.size = L.heap.size + 1 := by simp
  have hbk := Blk.new (L.alloc (.chan n #[] false 0 0 false)) 103 [.chan none]
  rw [hz] at hbk
  have : Blk w (L.heap.size + 1) 103 [.chan none] := by unfold Blk at hbk ⊢; rw [hw]; exact hbk
  exact ⟨this.cell 0, this.frozen 0⟩
/-- Who has something to do, among the first j. -/
def busyP (l : List PL) (j : Nat) : List Nat := (List.range j).filter fun i => match l[i]? with
  | some x => !x.p.todo.isEmpty
  | none => false
def itemsP (gl : Nat) (l : List PL) (j : Nat) : Array Value := ((busyP l j).map fun i => Value.pointer (some ⟨gl, i * 4, none⟩)).toArray
def fillMeas (k : Nat) (a : Act) : Nat := match a.eval (.tmp 50) with
  | .int _ p => ((k : Int) - p).toNat
  | _ => 0
def FillI (A : Option Addr) (c n : Nat) (wk : Int) (gl cL ph B : Nat) (L : World) (l : List PL) (a : Act) (L' : World) : Prop :=
  ∃ j : Nat, j ≤ n ∧ MainA A c n wk gl ph a ∧ a.eval (.tmp 10) = .pointer (some ⟨cL + 1, 0, none⟩) ∧ a.eval (.tmp 49) = .int .i64 n ∧ a.eval (.tmp 50) = .int .i64 j ∧ Lies L' B (gl + 1) gl l ∧ Kp B L L' ∧ ChanL B L' cL n (itemsP gl l j) false
/-- The channel's content changes. -/
theorem chan_set {L0 L : World} {B base gl cL n : Nat} {l : List PL} {x y : Array Value} {cl c1 : Bool} (h : Lies L B base gl l) (hk : Kp B L0 L) (hc : ChanL B L cL n x cl) : Lies { L with heap := L.heap.setIfInBounds cL (.chan n y c1 y.size 0 false) } B base gl l ∧ Kp B L0 { L with heap := L.heap.setIfInBounds cL (.chan n y c1 y.size 0 false) } ∧ ChanL B { L with heap := L.heap.setIfInBounds cL (.chan n y c1 y.size 0 false) } cL n y c1 := by
  have hne : ∀ b, b ≠ cL → ({ L with heap := L.heap.setIfInBounds cL (.chan n y c1 y.size 0 false) } : World).heap[b]? = L.heap[b]? := fun b hb => by
    show (L.heap.setIfInBounds cL _)[b]? = _
    rw [Array.getElem?_setIfInBounds, if_neg (fun e => hb e.symm)]
  have hch := hc.ch
  have hlow := hc.low
  have hnc : ∀ b c e f, L.heap[b]? = some (.cells c e f) → b ≠ cL := fun b c e f h1 h2 => by subst h2; rw [hch] at h1; cases h1
  have hlt := (Array.getElem?_eq_some_iff.1 hch).1
  refine ⟨h.keep (by simp) (fun b hb => hne b (by omega)) (hne gl (hnc _ _ _ _ h.blk)) (fun b cur _ h4 => hne b (hnc _ _ _ _ h4)) (fun b x ty fz _ h4 => hne b (hnc _ _ _ _ h4)), hk.keep (by simp) fun b hb => hne b (by omega), hlow, ?_, (hne _ (by omega)).trans hc.box⟩
  show (L.heap.setIfInBounds cL _)[cL]? = _
  rw [Array.getElem?_setIfInBounds, if_pos rfl, if_pos hlt]
theorem ChanL.boxc {N cL n : Nat} {L w : World} {x : Array Value} {cl : Bool} (h : ChanL N L cL n x cl) (e : w.heap = L.heap) : w.cell? ⟨cL + 1, 0, none⟩ = some (.chan (some cL)) := by
  simp [World.cell?, e, h.box]
theorem busyP_succ (l : List PL) (j : Nat) (h : j < l.length) : busyP l (j + 1) = busyP l j ++ if l[j].p.todo = [] then [] else [j] := by
  unfold busyP
  rw [List.range_succ, List.filter_append]
  congr 1
  by_cases e : l[j].p.todo = []
  · simp [h, e]
  · simp [h, e, List.isEmpty_iff]
theorem itemsP_busy (gl : Nat) (l : List PL) (j : Nat) (h : j < l.length) (hb : l[j].p.todo ≠ []) : itemsP gl l (j + 1) = (itemsP gl l j).push (.pointer (some ⟨gl, j * 4, none⟩)) := by
  unfold itemsP
  rw [busyP_succ l j h, if_neg hb]
  simp
theorem itemsP_idle (gl : Nat) (l : List PL) (j : Nat) (h : j < l.length) (hb : l[j].p.todo = []) : itemsP gl l (j + 1) = itemsP gl l j := by
  unfold itemsP
  rw [busyP_succ l j h, if_pos hb, List.append_nil]
theorem busyP_le (l : List PL) (j : Nat) : (busyP l j).length ≤ j := by
  have := List.length_filter_le (fun i => match l[i]? with | some x => !x.p.todo.isEmpty | none => false) (List.range j)
  simpa [busyP] using this
theorem itemsP_size (gl : Nat) (l : List PL) (j : Nat) : (itemsP gl l j).size ≤ j := by
  have := busyP_le l j
  simpa [itemsP] using this
theorem lies_start {D : List DosR} (L5 : World) {B : Nat} (hB : B ≤ L5.heap.size) : Lies (L5.alloc (.cells (madeCells #[.slice none 0 0, .int .i64 0, .slice none 0 0, .slice none 0 0] (D.length * 4)) 102)) B (L5.heap.size + 1) L5.heap.size (fillP D 0) := by
  rw [fillP_zero]
  have hz : ∀ x ∈ List.replicate D.length pl0, x = pl0 := fun x hx => (List.mem_replicate.1 hx).2
  refine ⟨Blk.newArr L5 _ (made_proc D.length), fun x hx => ?_, fun x hx => ?_, fun i j x y hx _ _ => ?_, fun x hx hn => ?_, hB, Nat.lt_succ_self _, by simp⟩
  · rw [hz x hx]; exact ⟨.nil _ _ _, Nat.le_refl _, Nat.zero_le _⟩
  · rw [hz x hx]; exact ⟨World.ownsRow_nil .., fun _ => rfl⟩
  · rw [hz x (List.mem_of_getElem? hx)]; exact .inl rfl
  · rw [hz x hx] at hn; exact absurd rfl hn
theorem lies_fill {D : List DosR} {L L0 : World} {gl base k : Nat} (h : Lies L L0.heap.size base gl (fillP D k)) (hk : k < D.length) (hr : RdDos L0 L0.heap.size D[k].A D[k].ds) (hc : D[k].ds.length ≤ D[k].c) (h1 : D[k].ds.length ≤ 1000) (hkp : Kp L0.heap.size L0 L) :
    Lies (L.setCell ⟨gl, k * 4 + 0, none⟩ (.slice D[k].A D[k].ds.length D[k].c)) L0.heap.size base gl (fillP D (k + 1)) := by
  rw [← fillP_succ hk]
  have hlk : k < (fillP D k).length := by rw [fillP_length]; exact hk
  have hat : (fillP D k)[k] = pl0 := by rw [fillP_at hk, if_neg (Nat.lt_irrefl _)]
  refine h.set_ hlk (by omega) (by rw [hat]; rfl) ⟨hr.keep fun p hp => World.cell?_of_block (hkp.at_ _ hp), hc, h1⟩ ⟨World.ownsRow_nil .., fun _ => rfl⟩ (.inr rfl) fun hn => absurd rfl hn
theorem fill_step {A : Option Addr} {c k j gl cL ph B μ : Nat} {wk : Int} {L L' : World} {l : List PL} {a : Act} (hm : μ = ((k : Int) - (j : Int)).toNat) (hj : j < k) (hA : MainA A c k wk gl ph a) (e10 : a.eval (.tmp 10) = .pointer (some ⟨cL + 1, 0, none⟩)) (e49 : a.eval (.tmp 49) = .int .i64 k) (e50 : a.eval (.tmp 50) = .int .i64 ((j + 1 : Nat) : Int))
    (h : Lies L' B (gl + 1) gl l ∧ Kp B L L' ∧ ChanL B L' cL k (itemsP gl l (j + 1)) false) : FillI A c k wk gl cL ph B L l a L' ∧ fillMeas k a < μ := by
  subst hm
  refine ⟨⟨j + 1, hj, hA, e10, e49, e50, h⟩, ?_⟩
  unfold fillMeas
  rw [e50]
  simp only
  omega
theorem run_eqlI {e : Operand → Value} {o : Oper} {x y : Operand} {t yt : TypeId} {a b : Int} (hop : o.op = .binOp .eql t x y yt) (hx : e x = .int .i64 a) (hy : e y = .int .i64 b) (ht : Try.prog.underlying t = some (.int .i64)) (w : World) : (execOp e o).run Try.prog w = .ok (.value (.bool (a == b))) w := by
  simp [go_sem, hop, hx, hy, ht, execOp]
theorem busyP_mem (l : List PL) (j : Nat) : j ∈ busyP l l.length ↔ ∃ h : j < l.length, l[j].p.todo ≠ [] := by
  unfold busyP
  rw [List.mem_filter, List.mem_range]
  constructor
  · rintro ⟨h, h2⟩
    refine ⟨h, ?_⟩
    rw [List.getElem?_eq_getElem h] at h2
    simpa [List.isEmpty_iff] using h2
  · rintro ⟨h, h2⟩
    refine ⟨h, ?_⟩
    rw [List.getElem?_eq_getElem h]
    simpa [List.isEmpty_iff] using h2
theorem busyP_nodup (l : List PL) (j : Nat) : (busyP l j).Nodup := List.nodup_range.filter _
theorem itemsP_len (gl : Nat) (l : List PL) (j : Nat) : (busyP l j).length = (itemsP gl l j).size := by simp [itemsP]
theorem itemsP_at (gl : Nat) (l : List PL) (j : Nat) (r : Nat) (h : r < (busyP l j).length) : (itemsP gl l j)[r]? = some (.pointer (some ⟨gl, (busyP l j).getD r 0 * 4, none⟩)) := by
  unfold itemsP
  rw [List.getD_eq_getElem?_getD, List.getElem?_eq_getElem h]
  simp [h]
theorem sum_pos {l : List PL} {n : Nat} (h : (itemsP n l l.length).size ≠ 0) : ∃ x ∈ l, x.p.todo ≠ [] := by
  have h1 : (busyP l l.length).length ≠ 0 := by rw [itemsP_len n]; exact h
  obtain ⟨j, hj⟩ := List.exists_mem_of_length_pos (Nat.pos_of_ne_zero h1)
  obtain ⟨h2, h3⟩ := (busyP_mem l j).1 hj
  exact ⟨_, List.getElem_mem h2, h3⟩
theorem busy_of {l : List PL} {n : Nat} (h : (itemsP n l l.length).size ≠ 0) : ∃ p ∈ l.map (·.p), p.todo ≠ [] := by
  obtain ⟨x, h1, h2⟩ := sum_pos h
  exact ⟨x.p, List.mem_map.2 ⟨x, h1, rfl⟩, h2⟩
theorem Between.room {D : List DosR} {ph j gl : Nat} {l : List PL} (h : Between D ph l) (hl : l.length = j) (hz : ¬ (itemsP gl l j).size = 0) : ph < 200000 := by
  subst hl
  have := todoSum_lt (busy_of hz)
  have := h.left
  omega
theorem Between.nil4 {D : List DosR} {ph : Nat} {l : List PL} (h : Between D ph l) {x : PL} (hx : x ∈ l) : x.p.sends = [] ∧ x.sA = none ∧ x.sc = 0 ∧ x.p.come.length ≤ 1000000 := by
  obtain ⟨a, b, c⟩ := h.nil x hx
  have := h.come x hx
  exact ⟨a, b, c, by omega⟩
theorem chan_info : Try.prog.info? 103 ≠ none := by
  have : (Try.prog.info? 103).isSome = true := by kernel_rfl
  intro e; rw [e] at this; cases this
theorem box_ne {L : World} {gl c : Nat} {vs : List Value} (h : Blk L gl 102 vs) (h2 : L.heap[gl]? = some (.cells #[.chan (some c)] 103 (0, 0))) : False := by
  unfold Blk at h
  rw [h] at h2
  injection h2 with h2
  injection h2 with _ ht _
  exact absurd ht (by decide)
theorem q_moveV {e : Operand → Value} {o : Oper} {w : World} {x : Operand} {v : Value} (hop : o.op = .move x) (hv : e x = v) : (execOp e o).run Try.prog w = .ok (.value v) w := by rw [← hv]; exact q_move hop
section
variable {Post : Value → World → Prop} {n0 : Nat} {W0 : World}
set_option maxRecDepth 100000 in
theorem f15_r17 : drawOk (opsOf Try.f15 17) 4 = true := by kernel_rfl
set_option maxRecDepth 100000 in
/-- A process is sent. -/
theorem m_r17 {ops : Array Oper} (hops : ops = opsOf Try.f15 17) {a : Act} {gl n cL j N : Nat} {x : Array Value} {L : World} (hz : a.tmps.size = 130) (t8 : a.eval (.tmp 8) = .slice (some ⟨gl, 0, none⟩) n n) (t10 : a.eval (.tmp 10) = .pointer (some ⟨cL + 1, 0, none⟩)) (t11 : a.eval (.tmp 11) = .int .i64 j) (hj : j < n) (hc : ChanL N L cL n x false) (hroom : x.size < n)
    {fn : FuncId} {id : Nat} {up : Bool} {Q : Exit → Act → World → Prop} (h : Q .normal (putsV ops (V17 gl n cL j) (List.range 4) a) { L with heap := L.heap.setIfInBounds cL (.chan n (x.push (.pointer (some ⟨gl, j * 4, none⟩))) false (x.push (.pointer (some ⟨gl, j * 4, none⟩))).size 0 false) }) :
    Mp (InV phL phV) Try.prog (fun k g w => Win Try.prog Post n0 W0 k g w) fn (.region id ops true) up Q a L := by
  subst hops
  have hJ : JOk Try.prog true _ (fun k g w => Win Try.prog Post n0 W0 k g w) := win_jok (P := Try.prog) (Post := Post) (n0 := n0) (W0 := W0)
  have hdd := drawOk_d f15_r17
  have nw : ∀ t j', prodOf (opsOf Try.f15 17) t = some j' → j' < 4 → t < 130 → (putsV (opsOf Try.f15 17) (V17 gl n cL j) (List.range 4) a).eval (.tmp t) = V17 gl n cL j j' := fun t j' h1 h2 h3 => puts_new hdd h1 h2 (by rw [hz]; exact h3)
  have od : ∀ t, prodOf (opsOf Try.f15 17) t = none → (putsV (opsOf Try.f15 17) (V17 gl n cL j) (List.range 4) a).eval (.tmp t) = a.eval (.tmp t) := fun t h1 => puts_old hdd h1
  have hok : ∀ (i : Nat) o, (opsOf Try.f15 17)[i]? = some o → i ≠ 4 → okOp (InV phL phV) Try.prog o.op := by
    have hall : ((opsOf Try.f15 17).toList.take 4).all (fun o => okOpB phL phV Try.prog o.op) = true := by kernel_rfl
    rw [List.all_eq_true] at hall
    intro i o hio him
    have hsz : (opsOf Try.f15 17).size = 5 := by kernel_rfl
    have hi := (Array.getElem?_eq_some_iff.1 hio).1
    refine okOpB_ok (hall o (List.mem_of_getElem? (i := i) ?_))
    rw [List.getElem?_take, if_pos (by omega)]
    simpa using hio
  refine Mp.drawn hJ ph_ok.bodies mixed_orders f15_r17 (V17 gl n cL j) (fun i o hio him => ⟨hok i o hio him, fun w hw => ?_⟩) ?_
  · have hsz : (opsOf Try.f15 17).size = 5 := by kernel_rfl
    have hi5 := (Array.getElem?_eq_some_iff.1 hio).1
    obtain rfl | rfl | rfl | rfl : i = 0 ∨ i = 1 ∨ i = 2 ∨ i = 3 := by omega
    · exact q_load (op_of (p := .load 103 (.tmp 10)) (by kernel_rfl) hio) ((od 10 (by kernel_rfl)).trans t10) (fun w => Try.isAgg103 w) (hc.boxc hw)
    · exact q_moveV (op_of (p := .move (.tmp 8)) (by kernel_rfl) hio) ((od 8 (by kernel_rfl)).trans t8)
    · exact q_moveV (op_of (p := .move (.tmp 11)) (by kernel_rfl) hio) ((od 11 (by kernel_rfl)).trans t11)
    · exact q_indexP w (op_of (p := .indexAddr 99 (.tmp 61) (.tmp 62)) (by kernel_rfl) hio) (nw 61 1 (by kernel_rfl) (by decide) (by decide)) (nw 62 2 (by kernel_rfl) (by decide) (by decide)) hj
  · obtain ⟨o, ho4, hop, hgd, hdst⟩ := op_ex (ops := opsOf Try.f15 17) (i := 4) (p := .send (.tmp 60) (.tmp 63)) (d := none) (by kernel_rfl)
    refine MpOps.send ho4 (yld hgd _) hop hdst trivial trivial (cL := cL) (nw 60 0 (by kernel_rfl) (by decide) (by decide)) hc.ch hroom ?_
    rw [show (putsV (opsOf Try.f15 17) (V17 gl n cL j) (List.range 4) a).eval (.tmp 63) = .pointer (some ⟨gl, j * 4, none⟩) from nw 63 3 (by kernel_rfl) (by decide) (by decide)]
    refine MpOps.nil hJ ?_
    rw [show x.size + 1 = (x.push (.pointer (some ⟨gl, j * 4, none⟩))).size by simp]
    exact h
end
end Go.Proofs.Yticdjkkcfdbdcaa

/- Letters handed on, in plain Lean; the next phase. No program; no conditions. -/
namespace Go.Proofs.Yticdjkkcfdbdcaa
open Go.ChangeShapes Go.WideShapes Go.ChangeAt Go.RowKit
theorem mailTo_nil (j : Nat) : mailTo j [] = [] := rfl
theorem mailTo_app (j : Nat) (a b : List (Int × Int)) : mailTo j (a ++ b) = mailTo j a ++ mailTo j b := by simp [mailTo]
theorem mailTo_one (j d : Nat) (v : Int) : mailTo j [((d : Int), v)] = if d = j then [v] else [] := by
  by_cases h : d = j
  · subst h; simp [mailTo]
  · have : ¬ ((d : Int) = (j : Int)) := by omega
    simp [mailTo, h, this]
theorem mailTo_len (j : Nat) (l : List (Int × Int)) : (mailTo j l).length ≤ l.length := by
  unfold mailTo; rw [List.length_map]; exact List.length_filter_le ..
structure Dist (l' : List PL) (ls : List (Int × Int)) (i : Nat) (lx : List PL) : Prop where
  len : lx.length = l'.length
  at_ : ∀ (j : Nat) (h : j < l'.length) (h' : j < lx.length), lx[j].p.todo = l'[j].p.todo ∧ lx[j].p.num = l'[j].p.num ∧ lx[j].p.come = l'[j].p.come ++ mailTo j ls ∧
    (j < i → lx[j].p.sends = [] ∧ lx[j].sA = none ∧ lx[j].sc = 0) ∧ (¬ j < i → lx[j].p.sends = l'[j].p.sends ∧ lx[j].sA = l'[j].sA ∧ lx[j].sc = l'[j].sc)
section
variable {l' lx : List PL} {ls : List (Int × Int)} {i d : Nat}
theorem Dist.start (l' : List PL) : Dist l' [] 0 l' := ⟨rfl, fun j h _ => ⟨rfl, rfl, by simp [mailTo_nil], fun h => absurd h (Nat.not_lt_zero _), fun _ => ⟨rfl, rfl, rfl⟩⟩⟩
theorem Dist.letter (h : Dist l' ls i lx) (hd : d < lx.length) (v : Int) (v2 : Value) : Dist l' (ls ++ [((d : Int), v)]) i (lx.set d { lx[d] with p := { lx[d].p with come := lx[d].p.come ++ [v] }, cv := v2 }) := by
  refine ⟨by simp [h.len], fun j hj hj' => ?_⟩
  have hjx : j < lx.length := by simpa using hj'
  obtain ⟨a, b, c, e, f⟩ := h.at_ j hj hjx
  rw [List.getElem_set]
  by_cases hdj : d = j
  · subst hdj
    rw [if_pos rfl]
    exact ⟨a, b, by rw [mailTo_app, mailTo_one, if_pos rfl, ← List.append_assoc, ← c], e, f⟩
  · rw [if_neg hdj]
    exact ⟨a, b, by rw [mailTo_app, mailTo_one, if_neg hdj, List.append_nil]; exact c, e, f⟩
theorem Dist.done (h : Dist l' ls i lx) (hi : i < lx.length) : Dist l' ls (i + 1) (lx.set i { lx[i] with p := { lx[i].p with sends := [] }, sA := none, sc := 0 }) := by
  refine ⟨by simp [h.len], fun j hj hj' => ?_⟩
  have hjx : j < lx.length := by simpa using hj'
  obtain ⟨a, b, c, e, f⟩ := h.at_ j hj hjx
  rw [List.getElem_set]
  by_cases hdj : i = j
  · subst hdj
    rw [if_pos rfl]
    exact ⟨a, b, c, fun _ => ⟨rfl, rfl, rfl⟩, fun h => absurd (Nat.lt_succ_self _) h⟩
  · rw [if_neg hdj]
    exact ⟨a, b, c, fun h => e (by omega), fun h => f (by omega)⟩
/-- The letters of the first i. -/
def lsI (l' : List PL) (i : Nat) : List (Int × Int) := (l'.take i).flatMap (·.p.sends)
theorem lsI_succ (hi : i < l'.length) : lsI l' (i + 1) = lsI l' i ++ l'[i].p.sends := by
  unfold lsI
  rw [List.take_succ_eq_append_getElem hi, List.flatMap_append]
  simp
theorem lsI_full (l' : List PL) : lsI l' l'.length = (l'.map (·.p)).flatMap (·.sends) := by
  unfold lsI
  rw [List.take_length, List.flatMap_map]
theorem flat_take_len (l' : List PL) (i : Nat) : (lsI l' i).length ≤ (lsI l' l'.length).length := by
  unfold lsI
  rw [List.take_length]
  conv => rhs; rw [← List.take_append_drop i l', List.flatMap_append, List.length_append]
  omega
end
theorem runP_bounds : ∀ (t : List DoR) (n : Int) (c : List Int) (s : List (Int × Int)), (runP n c s t).sends.length + (runP n c s t).todo.length ≤ s.length + t.length ∧ (runP n c s t).come.length ≤ c.length ∧ ∀ y ∈ (runP n c s t).sends, y ∈ s ∨ ∃ d ∈ t, d.kind = 2 ∧ y.1 = d.to
  | [], n, c, s => ⟨Nat.le_refl _, Nat.le_refl _, fun y hy => .inl hy⟩
  | d :: t, n, c, s => by
    have up : ∀ {s' : List (Int × Int)} {y}, (y ∈ s' ∨ ∃ d ∈ t, d.kind = 2 ∧ y.1 = d.to) → (y ∈ s' ∨ ∃ e ∈ d :: t, e.kind = 2 ∧ y.1 = e.to) := fun h => h.imp id fun ⟨e, h1, h2⟩ => ⟨e, List.mem_cons_of_mem _ h1, h2⟩
    unfold runP
    split
    · obtain ⟨a, b, e⟩ := runP_bounds t (w64 (n + d.n)) c s
      exact ⟨by simp only [List.length_cons]; omega, b, fun y hy => up (e y hy)⟩
    · split
      · rename_i hk
        obtain ⟨a, b, e⟩ := runP_bounds t n c (s ++ [(d.to, w64 (n + d.n))])
        refine ⟨by simp only [List.length_append, List.length_cons, List.length_nil] at a ⊢; omega, b, fun y hy => ?_⟩
        rcases e y hy with h | ⟨e, h1, h2⟩
        · rcases List.mem_append.1 h with h | h
          · exact .inl h
          · simp at h; subst h; exact .inr ⟨d, List.mem_cons_self .., hk, rfl⟩
        · exact .inr ⟨e, List.mem_cons_of_mem _ h1, h2⟩
      · split
        · obtain ⟨a, b, e⟩ := runP_bounds t (foldN n c) [] s
          exact ⟨by simp only [List.length_cons]; omega, Nat.le_trans b (Nat.zero_le _), fun y hy => up (e y hy)⟩
        · exact ⟨by simp only [List.length_cons]; omega, Nat.le_refl _, fun y hy => .inl hy⟩
theorem sends_sum : ∀ (ps : List ProcR), ((ps.map ranP).flatMap (·.sends)).length + ((ps.map ranP).map fun p => p.todo.length).sum ≤ todoSum ps
  | [] => Nat.le_refl _
  | p :: ps => by
    have h1 := sends_sum ps
    obtain ⟨h2, _⟩ := runP_bounds p.todo p.num p.come []
    simp only [todoSum, List.map_cons, List.flatMap_cons, List.length_append, List.sum_cons, List.length_nil] at *
    unfold ranP at *
    omega
/-- What is known of the processes behind the join. -/
structure Mid (D : List DosR) (l l' : List PL) : Prop where
  map : l'.map (·.p) = l.map (fun x => ranP x.p)
  len : l'.length = D.length
  come : ∀ x ∈ l', x.p.come.length + todoSum (l.map (·.p)) ≤ 200000
  tot : (lsI l' l'.length).length + todoSum (phaseAll (l.map (·.p))) ≤ todoSum (l.map (·.p))
  few : todoSum (l.map (·.p)) ≤ 200000
  dst : ∀ x ∈ l', ∀ y ∈ x.p.sends, 0 ≤ y.1 ∧ y.1 < D.length
theorem Between.mid {D : List DosR} {ph : Nat} {l l' : List PL} (h : Between D ph l) (hm : l'.map (·.p) = l.map (fun x => ranP x.p)) : Mid D l l' := by
  have hat : ∀ x ∈ l', ∃ y ∈ l, x.p = ranP y.p := fun x hx => by
    have : x.p ∈ l'.map (·.p) := List.mem_map.2 ⟨x, hx, rfl⟩
    rw [hm] at this
    obtain ⟨y, hy, e⟩ := List.mem_map.1 this
    exact ⟨y, hy, e.symm⟩
  have hmm : l'.map (·.p) = (l.map (·.p)).map ranP := by rw [hm, List.map_map]; rfl
  refine ⟨hm, ?_, fun x hx => ?_, ?_, by have := h.left; omega, fun x hx y hy => ?_⟩
  · have := congrArg List.length hm
    simp at this
    rw [this, h.len]
  · obtain ⟨y, hy, e⟩ := hat x hx
    have := h.come y hy
    obtain ⟨_, h2, _⟩ := runP_bounds y.p.todo y.p.num y.p.come []
    rw [e]
    unfold ranP
    omega
  · have h1 := sends_sum (l.map (·.p))
    rw [lsI_full, hmm, todoSum_eq]
    have e : ((l.map (·.p)).map ranP).map (fun p => p.todo.length) = (l.map (·.p)).map (fun p => (ranP p).todo.length) := by rw [List.map_map]; rfl
    rw [e] at h1
    exact h1
  · obtain ⟨z, hz, e⟩ := hat x hx
    rw [e] at hy
    obtain ⟨_, _, h3⟩ := runP_bounds z.p.todo z.p.num z.p.come []
    rcases h3 y hy with h4 | ⟨d, hd, hk, he⟩
    · cases h4
    · have := h.ok z hz d hd
      unfold okDo at this
      rw [he]
      omega
theorem Dist.fin {D : List DosR} {l l' lx : List PL} (hM : Mid D l l') (h : Dist l' (lsI l' l'.length) l'.length lx) : lx.map (·.p) = phaseAll (l.map (·.p)) ∧ ∀ x ∈ lx, x.p.sends = [] ∧ x.sA = none ∧ x.sc = 0 := by
  have hmm : l'.map (·.p) = (l.map (·.p)).map ranP := by rw [hM.map, List.map_map]; rfl
  constructor
  · apply List.ext_getElem?
    intro j
    by_cases hj : j < l'.length
    · have hjl : j < (l.map (·.p)).length := by
        have := congrArg List.length hmm
        simp at this
        simp
        omega
      have hjx : j < lx.length := by rw [h.len]; exact hj
      rw [phaseAll_at _ hjl, List.getElem?_map, List.getElem?_eq_getElem hjx, ← hmm, ← lsI_full]
      obtain ⟨a, b, c, e, _⟩ := h.at_ j hj hjx
      have hp : l'[j].p = ranP (l.map (·.p))[j] := by
        have h1 : (l'.map (·.p))[j]? = ((l.map (·.p)).map ranP)[j]? := by rw [hmm]
        rw [List.getElem?_map, List.getElem?_map, List.getElem?_eq_getElem hj, List.getElem?_eq_getElem hjl] at h1
        exact Option.some.inj h1
      rw [← hp]
      simp only [Option.map_some, Option.some.injEq]
      have e1 := (e hj).1
      rw [← a, ← b, ← c]
      generalize lx[j].p = q at e1 ⊢
      obtain ⟨q1, q2, q3, q4⟩ := q
      simp only at e1
      subst e1
      rfl
    · rw [List.getElem?_eq_none (by simp [h.len]; omega), List.getElem?_eq_none (by rw [phaseAll_length]; have := congrArg List.length hmm; simp at this ⊢; omega)]
  · intro x hx
    obtain ⟨j, hj, rfl⟩ := List.getElem_of_mem hx
    have hj' : j < l'.length := by rw [← h.len]; exact hj
    exact (h.at_ j hj' hj).2.2.2.1 hj'
theorem Between.next {D : List DosR} {ph : Nat} {l l' lx : List PL} (h : Between D ph l) (hM : Mid D l l') (hd : Dist l' (lsI l' l'.length) l'.length lx) (hb : ∃ p ∈ l.map (·.p), p.todo ≠ []) : Between D (ph + 1) lx := by
  obtain ⟨h1, h2⟩ := hd.fin hM
  have hlt := todoSum_lt hb
  have hleft := h.left
  have htot := hM.tot
  refine ⟨by rw [hd.len, hM.len], h2, fun x hx => ?_, by rw [h1]; omega, fun x hx d hdd => ?_, fun k ps' hp => ?_⟩
  · obtain ⟨j, hj, rfl⟩ := List.getElem_of_mem hx
    have hj' : j < l'.length := by rw [← hd.len]; exact hj
    obtain ⟨_, _, c, _⟩ := hd.at_ j hj' hj
    have h3 := mailTo_len j (lsI l' l'.length)
    have h4 := hM.come _ (List.getElem_mem hj')
    rw [c, h1, List.length_append]
    omega
  · obtain ⟨j, hj, rfl⟩ := List.getElem_of_mem hx
    have hj' : j < l'.length := by rw [← hd.len]; exact hj
    obtain ⟨a, _⟩ := hd.at_ j hj' hj
    rw [a] at hdd
    have : l'[j].p ∈ l'.map (·.p) := List.mem_map.2 ⟨_, List.getElem_mem hj', rfl⟩
    rw [hM.map] at this
    obtain ⟨y, hy, e⟩ := List.mem_map.1 this
    rw [← e] at hdd
    obtain ⟨q, hq, _⟩ := runP_todo y.p.todo y.p.num y.p.come []
    unfold ranP at hdd
    rw [hq] at hdd
    exact h.ok y hy d (List.mem_of_mem_drop hdd)
  · rw [h1] at hp
    have := h.phs (k + 1) ps' (.step hb hp)
    rw [show ph + 1 + k = ph + (k + 1) by omega]
    exact this
theorem cellsL_at : ∀ (l : List (Int × Int)) (k : Nat) (h : k < l.length), (cellsL l)[k * 2]? = some (.int .i64 l[k].1) ∧ (cellsL l)[k * 2 + 1]? = some (.int .i64 l[k].2)
  | d :: l, 0, _ => ⟨rfl, rfl⟩
  | d :: l, k + 1, h => by
    have := cellsL_at l k (by simp at h; omega)
    have e : cellsL (d :: l) = .int .i64 d.1 :: .int .i64 d.2 :: cellsL l := rfl
    rw [e, show (k + 1) * 2 = k * 2 + 1 + 1 by omega]
    simpa using this
theorem Dist.sameq {l' lx : List PL} {ls : List (Int × Int)} {i : Nat} (h : Dist l' ls i lx) (hi : i < l'.length) (hi' : i < lx.length) : lx[i].p.sends = l'[i].p.sends ∧ lx[i].sA = l'[i].sA ∧ lx[i].sc = l'[i].sc := (h.at_ i hi hi').2.2.2.2 (Nat.lt_irrefl _)
theorem Mid.fewc {D : List DosR} {l l' lx : List PL} (hM : Mid D l l') {q t : Nat} (hq : q < l'.length) (h : Dist l' (lsI l' q ++ l'[q].p.sends.take t) q lx) {d : Nat} (hd : d < lx.length) : lx[d].p.come.length < 1000000 := by
  have hd' : d < l'.length := by rw [← h.len]; exact hd
  obtain ⟨_, _, c, _⟩ := h.at_ d hd' hd
  have h1 := mailTo_len d (lsI l' q ++ l'[q].p.sends.take t)
  have h2 := hM.come _ (List.getElem_mem hd')
  have h3 := hM.tot
  have h4 := hM.few
  have h5 := flat_take_len l' (q + 1)
  rw [lsI_succ hq, List.length_append] at h5
  rw [List.length_append, List.length_take] at h1
  rw [c, List.length_append]
  omega
theorem Lies.drop3 {L : World} {B base gl : Nat} {l : List PL} (h : Lies L B base gl l) {q : Nat} (hq : q < l.length) : Lies (L.setCell ⟨gl, q * 4 + 3, none⟩ (.slice none 0 0)) B base gl (l.set q { l[q] with p := { l[q].p with sends := [] }, sA := none, sc := 0 }) := by
  obtain ⟨h1, h2, h3⟩ := h.todo _ (List.getElem_mem hq)
  have h4 := h.come l[q] (List.getElem_mem hq)
  exact h.set_ hq (by omega) rfl ⟨h1, h2, h3⟩ h4 (.inl rfl) fun hn => absurd rfl hn
theorem main_step {A : Option Addr} {c n gl ph μ : Nat} {wk : Int} {D : List DosR} {L L' : World} {a : Act} {l : List PL} (hm : μ = (200001 - (ph : Int)).toNat) (hp : ph < 200000) (hA : MainA A c n wk gl (ph + 1) a) (hB : Between D (ph + 1) l) (h : Lies L' L.heap.size (gl + 1) gl l ∧ Kp L.heap.size L L') : MainI A c n wk gl D L a L' ∧ phMeas a < μ := by
  refine ⟨⟨ph + 1, l, hA, hB, h⟩, ?_⟩
  unfold phMeas
  rw [hA.t5, hm]
  simp only
  omega
theorem Mid.one {D : List DosR} {l l' : List PL} (hM : Mid D l l') {q : Nat} (hq : q < l'.length) : l'[q].p.sends.length ≤ 200000 := by
  have h3 := hM.tot
  have h4 := hM.few
  have h5 := flat_take_len l' (q + 1)
  rw [lsI_succ hq, List.length_append] at h5
  omega
theorem idle_of {l : List PL} {gl : Nat} (h : (itemsP gl l l.length).size = 0) : ∀ p ∈ l.map (·.p), p.todo = [] := by
  intro p hp
  obtain ⟨x, hx, rfl⟩ := List.mem_map.1 hp
  refine Classical.byContradiction fun hn => ?_
  obtain ⟨j, hj, rfl⟩ := List.getElem_of_mem hx
  have := (busyP_mem l j).2 ⟨hj, hn⟩
  have h2 := List.length_pos_of_mem this
  rw [itemsP_len gl] at h2
  omega
theorem own_lower {w : World} {b b' s n : Nat} {e : TypeId} {v : Value} {vs : List Value} (h : w.ownsRow b e s v n vs) (hb : b' ≤ b) : w.ownsRow b' e s v n vs := by
  refine ⟨h.1, ?_⟩
  rcases h.2 with h1 | ⟨g, cap, cur, rfl, h1, h2⟩
  · exact .inl h1
  · exact .inr ⟨g, cap, cur, rfl, Nat.le_trans hb h1, h2⟩
/-- The numbers, i of them. -/
structure OutN (L0 : World) (gl : Nat) (l : List PL) (i : Nat) (v : Value) (w : World) : Prop where
  blk : Blk w gl 102 (cellsP l)
  kp : Kp L0.heap.size L0 w
  low : L0.heap.size ≤ gl
  own : w.ownsRow (gl + 1) 2 1 v i (ints ((l.map (·.p.num)).take i))
theorem OutN.same {L0 w w' : World} {gl i : Nat} {l : List PL} {v : Value} (h : OutN L0 gl l i v w) (e : w'.heap = w.heap) : OutN L0 gl l i v w' :=
  ⟨by have := h.blk; unfold Blk at this ⊢; rw [e]; exact this, h.kp.same e, h.low, own_of_block h.own fun b _ => by rw [e]⟩
theorem OutN.push {L0 w w' : World} {gl i : Nat} {l : List PL} {v v' : Value} (h : OutN L0 gl l i v w) (hi : i < l.length) {o : Obj} (hg : (w.alloc o).grownBy w' v.ownBlock) (ho : w'.ownsRow (gl + 1) 2 1 v' (i + 1) (ints ((l.map (·.p.num)).take i) ++ [.int .i64 l[i].p.num])) : OutN L0 gl l (i + 1) v' w' where
  blk := (h.blk.alloc o).grown hg fun e => by have := (own_block_at h.own e.symm).1; omega
  kp := (h.kp.alloc o).grown hg fun b hb => by have := (own_block_at h.own hb).1; have := h.low; omega
  low := h.low
  own := by
    rw [List.take_succ_eq_append_getElem (by simpa using hi), ints_app, List.getElem_map]
    exact ho
end Go.Proofs.Yticdjkkcfdbdcaa
