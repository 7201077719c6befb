/- How graph.Run lays its memory, and its loop over the jobs. No conditions but those named. -/
import Derived.Test.YticdjkkcfdbdcaaGrMf
import Derived.Conc.SmallLaws
namespace Go.Proofs.Yticdjkkcfdbdcaa
open Go.Conc Go.ConcN Go.RowKit Go.ChangeShapes Go.WideShapes Go.ChangeAt
/-- What is laid behind the box of the jobs. -/
structure LayG (L0 L : World) (g bJ : Nat) (A : Option Addr) (c n : Nat) (xs : List Obj) : Prop where
  bj : Blk L bJ 34 [.slice A n c]
  at_ : ∀ (i : Nat) o, xs[i]? = some o → L.heap[g + i]? = some o
  sz : L.heap.size = g + xs.length
  kp : KpG L0.heap.size L0 L
  jlow : L0.heap.size ≤ bJ ∧ bJ < g
section
variable {L0 L L' : World} {g bJ : Nat} {A : Option Addr} {c n : Nat} {xs : List Obj}
theorem LayG.same (h : LayG L0 L g bJ A c n xs) (e : L'.heap = L.heap) : LayG L0 L' g bJ A c n xs := ⟨by have := h.bj; unfold Blk at this ⊢; rw [e]; exact this, fun i o hi => by rw [e]; exact h.at_ i o hi, by rw [e]; exact h.sz, ⟨by rw [e]; exact h.kp.size, fun b hb => by rw [e]; exact h.kp.at_ b hb⟩, h.jlow⟩
theorem LayG.add (h : LayG L0 L g bJ A c n xs) (o : Obj) : LayG L0 (L.alloc o) g bJ A c n (xs ++ [o]) := by
  have hz := h.sz
  have hj := h.jlow
  have hk := h.kp.size
  have old : ∀ b, b < L.heap.size → (L.alloc o).heap[b]? = L.heap[b]? := fun b hb => Below.heap_alloc L o b hb
  refine ⟨(old _ (by omega)).trans h.bj, fun i o' hi => ?_, by simp; omega, ⟨by simp; omega, fun b hb => (old b (by omega)).trans (h.kp.at_ b hb)⟩, h.jlow⟩
  by_cases e : i < xs.length
  · rw [List.getElem?_append_left e] at hi
    exact (old _ (by omega)).trans (h.at_ i o' hi)
  · have hi2 := (List.getElem?_eq_some_iff.1 hi).1
    simp at hi2
    obtain rfl : i = xs.length := by omega
    rw [List.getElem?_append_right (Nat.le_refl _), Nat.sub_self] at hi
    cases hi
    rw [← hz]
    exact heap_alloc_new L o
end
theorem run_make_cellsG {P : Program} (t e : TypeId) (i : TypeInfo) (z : Value) (ht : P.underlying t = some (.slice e)) (hi : P.info? e = some i) (hz : i.zero = some z)
    (kl kc : IntKind) (n : Nat) (hbytes : i.bytes * n ≤ 281474976710656) (h63 : n ≤ 9223372036854775807) (w : World) :
    (Instr.makeSlice t (.int kl (n : Int)) (.int kc (n : Int))).run P w = .ok (.slice (some ⟨w.heap.size, 0, none⟩) n n) (w.alloc (.cells (madeCells z.cells (n * i.size)) e)) := by
  have hb : (i.bytes : Int) * (n : Int) ≤ 281474976710656 := by
    have h : ((i.bytes * n : Nat) : Int) ≤ 281474976710656 := by omega
    rwa [Int.natCast_mul] at h
  have hr := run_make (P := P) w t e i z ht hi hz kl kc n n (by omega) (by omega) hb (by omega)
  simp only [Int.toNat_natCast] at hr
  exact hr
theorem info_at : (Try.prog.info? 128).map (fun i => (i.zero.map (·.cells), i.size, i.bytes)) = some (some #[.int .i64 0], 1, 8) := by kernel_rfl
theorem info_i64g : (Try.prog.info? 2).map (fun i => (i.zero, i.size, i.bytes)) = some (some (.int .i64 0), 1, 8) := by kernel_rfl
theorem make_atG (n : Nat) (hn : n ≤ 200) (w : World) : (Instr.makeSlice 124 (.int .i64 (n : Int)) (.int .i64 (n : Int))).run Try.prog w = .ok (.slice (some ⟨w.heap.size, 0, none⟩) n n) (w.alloc (.cells (madeCells #[.int .i64 0] n) 128)) := by
  obtain ⟨i, hi, hz⟩ := Option.map_eq_some_iff.1 info_at
  simp only [Prod.mk.injEq] at hz
  obtain ⟨z, hz1, hz2⟩ := Option.map_eq_some_iff.1 hz.1
  have := run_make_cellsG (P := Try.prog) 124 128 i z Try.underlying124 hi hz1 .i64 .i64 n (by rw [hz.2.2]; omega) (by omega) w
  rw [hz.2.1, hz2, Nat.mul_one] at this
  exact this
theorem made_ints (n : Nat) : (madeCells #[.int .i64 0] n) = (ints (fnI n fun _ => 0)).toArray := by
  apply Array.ext'
  rw [made_one]
  apply List.ext_getElem?; intro j; simp [ints, fnI, List.getElem?_replicate]; split <;> simp_all
/-- The channel, its box and the count of those that are over. -/
def objsG (g n : Nat) : List Obj := [.cells (madeCells #[.int .i64 0] n) 2, .cells #[.slice (some ⟨g, 0, none⟩) n n] 23, .cells (madeCells #[.int .i64 0] n) 128, .cells #[.slice (some ⟨g + 2, 0, none⟩) n n] 124, .cells (madeCells #[.slice none 0 0] n) 39, .cells #[.slice (some ⟨g + 4, 0, none⟩) n n] 125, .chan n #[] false 0 0 false, .cells #[.chan (some (g + 6))] 126, .cells #[.int .i64 0] 128]
theorem runSt_start {L0 L : World} {g bJ : Nat} {A : Option Addr} {c n : Nat} (h : LayG L0 L g bJ A c n (objsG g n)) : RunSt L0 L g bJ A c n (fun _ => 0) (fun _ => []) (List.replicate n (.slice none 0 0)) [] false := by
  have hz : L.heap.size = g + 9 := h.sz
  refine ⟨h.bj, ?_, h.at_ 1 _ rfl, ?_, h.at_ 3 _ rfl, ?_, h.at_ 5 _ rfl, h.at_ 6 _ rfl, h.at_ 7 _ rfl, h.at_ 8 _ rfl, h.kp, h.jlow⟩
  · have := h.at_ 0 _ rfl
    unfold Blk
    rw [Nat.add_zero] at this
    rw [this, made_ints]
    congr 3
    apply List.ext_getElem?; intro j; simp [ints, fnI, List.getElem?_replicate]; split <;> simp_all
  · have := h.at_ 2 _ rfl
    unfold Blk
    rw [this, made_ints]
  · have e : fnL n (fun _ => []) = List.replicate n [] := by apply List.ext_getElem?; intro j; simp [fnL, List.getElem?_replicate]; split <;> simp_all
    rw [e]
    refine Rows.start ?_ (by omega) (by omega)
    have := h.at_ 4 _ rfl
    unfold Blk
    rw [this]
    congr 2
    apply Array.ext'
    rw [made_one]
/-- How many the jobs wait for, k jobs listed; who may begin. -/
def leftTo (J : List JobR) (k j : Nat) : Int := if j < k then ((aft J j).length : Int) else 0
def rdyTo (J : List JobR) (k : Nat) : List Nat := (List.range k).filter fun i => (aft J i).isEmpty
theorem rdyTo_all (J : List JobR) : rdyTo J J.length = readyQ (parJ J) := by
  unfold rdyTo readyQ
  show (List.range J.length).filter _ = (List.range J.length).filter fun k => ((aft J k).map Int.toNat).isEmpty
  congr 1
  funext i
  cases aft J i <;> rfl
theorem rdyTo_yes {J : List JobR} {k : Nat} (h : aft J k = []) : rdyTo J (k + 1) = rdyTo J k ++ [k] := by
  unfold rdyTo
  rw [List.range_succ, List.filter_append]
  simp [h]
theorem rdyTo_no {J : List JobR} {k : Nat} (h : aft J k ≠ []) : rdyTo J (k + 1) = rdyTo J k := by
  unfold rdyTo
  rw [List.range_succ, List.filter_append]
  simp [h]
theorem rdyTo_le (J : List JobR) (k : Nat) : (rdyTo J k).length ≤ k := by
  have := List.length_filter_le (fun i => (aft J i).isEmpty) (List.range k)
  simpa [rdyTo] using this
theorem bufQ_push (q : List Nat) (k : Nat) : (bufQ q).push (.int .i64 (k : Int)) = bufQ (q ++ [k]) := by simp [bufQ]
/-- What lies between two jobs. -/
def FillS (L0 L : World) (g bJ : Nat) (A : Option Addr) (c n : Nat) (J : List JobR) (k : Nat) : Prop := ∃ vs, RunSt L0 L g bJ A c n (leftTo J k) (fun x => nxTo J x k) vs (rdyTo J k) false
structure FillA (A : Option Addr) (c n : Nat) (wk : Int) (g bJ k : Nat) (a : Act) : Prop where
  size : a.tmps.size = 86
  d : a.defers = []
  t1 : a.eval (.tmp 1) = .int .i64 wk
  t2 : a.eval (.tmp 2) = .pointer (some ⟨bJ, 0, none⟩)
  t7 : a.eval (.tmp 7) = .pointer (some ⟨g + 1, 0, none⟩)
  t8 : a.eval (.tmp 8) = .pointer (some ⟨g + 3, 0, none⟩)
  t9 : a.eval (.tmp 9) = .pointer (some ⟨g + 5, 0, none⟩)
  t10 : a.eval (.tmp 10) = .pointer (some ⟨g + 7, 0, none⟩)
  t11 : a.eval (.tmp 11) = .pointer (some ⟨g + 8, 0, none⟩)
  t35 : a.eval (.tmp 35) = .slice A n c
  t36 : a.eval (.tmp 36) = .int .i64 n
  t37 : a.eval (.tmp 37) = .int .i64 k
def fillMeas (k : Nat) (a : Act) : Nat := match a.eval (.tmp 37) with
  | .int _ p => ((k : Int) - p).toNat
  | _ => 0
def FillG (L0 : World) (g bJ : Nat) (A : Option Addr) (c n : Nat) (wk : Int) (J : List JobR) (a : Act) (L : World) : Prop := ∃ k, k ≤ n ∧ FillA A c n wk g bJ k a ∧ FillS L0 L g bJ A c n J k
theorem FillS.same {L0 L L' : World} {g bJ : Nat} {A : Option Addr} {c n : Nat} {J : List JobR} {k : Nat} (h : FillS L0 L g bJ A c n J k) (e : L'.heap = L.heap) : FillS L0 L' g bJ A c n J k := by
  obtain ⟨vs, h⟩ := h
  exact ⟨vs, h.same e⟩
theorem FillS.start {L0 L : World} {g bJ : Nat} {A : Option Addr} {c n : Nat} {J : List JobR} (h : LayG L0 L g bJ A c n (objsG g n)) : FillS L0 L g bJ A c n J 0 := by
  have h1 := runSt_start h
  have e : leftTo J 0 = fun _ => 0 := by funext j; simp [leftTo]
  rw [← e] at h1
  exact ⟨_, h1⟩
theorem fill_stepG {A : Option Addr} {c k j g bJ μ : Nat} {wk : Int} {L0 L' : World} {J : List JobR} {a : Act} (hm : μ = ((k : Int) - (j : Int)).toNat) (hj : j < k) (hA : FillA A c k wk g bJ (j + 1) a) (h : FillS L0 L' g bJ A c k J (j + 1)) : FillG L0 g bJ A c k wk J a L' ∧ fillMeas k a < μ := by
  subst hm
  refine ⟨⟨j + 1, hj, hA, h⟩, ?_⟩
  unfold fillMeas
  rw [hA.t37]
  simp only
  omega
theorem act_litG (N : Nat) {a : Act} (h : a.tmps.size = N) : ∃ f : Nat → Value, a.tmps = ((List.range N).map f).toArray ∧ ∀ i, f i = a.eval (.tmp i) := by
  refine ⟨fun i => a.eval (.tmp i), ?_, fun _ => rfl⟩
  apply Array.ext
  · simp [h]
  · intro i h1 h2
    simp only [List.getElem_toArray, List.getElem_map, List.getElem_range]
    exact (eval_ofG (Array.getElem?_eq_getElem h1)).symm
/-- What graph.Run answers. -/
def RunPG (J : List JobR) (wk : Int) (L0 : World) (v : Value) (L : World) : Prop :=
  (askedCode J wk ≠ 0 → v = .tuple #[.slice none 0 0, .int .i64 (askedCode J wk)]) ∧
  (askedCode J wk = 0 → ∃ g, v = .tuple #[.slice (some ⟨g, 0, none⟩) J.length J.length, .int .i64 0] ∧ L0.heap.size ≤ g ∧ Blk L g 2 (ints ((List.range J.length).map (valJ J)))) ∧ KpG L0.heap.size L0 L
theorem blk_same {w w' : World} {g : Nat} {t : TypeId} {vs : List Value} (h : Blk w g t vs) (e : w'.heap = w.heap) : Blk w' g t vs := by unfold Blk at h ⊢; rw [e]; exact h
theorem KpG.refl (L : World) : KpG L.heap.size L L := ⟨Nat.le_refl _, fun _ _ => rfl⟩
theorem KpG.same {N : Nat} {L0 L L' : World} (h : KpG N L0 L) (e : L'.heap = L.heap) : KpG N L0 L' := ⟨by rw [e]; exact h.size, fun b hb => by rw [e]; exact h.at_ b hb⟩
theorem KpG.keep {N : Nat} {L0 L L' : World} (h : KpG N L0 L) (hz : L.heap.size ≤ L'.heap.size) (hk : ∀ b, b < N → L'.heap[b]? = L.heap[b]?) : KpG N L0 L' := ⟨Nat.le_trans h.size hz, fun b hb => (hk b hb).trans (h.at_ b hb)⟩
theorem pack_twoG {fn : Func} {i j : Tmp} (h : fn.results = #[.tmp i, .tmp j]) (T : Array Value) : pack (resVals fn T) = .tuple #[T.getD i undef, T.getD j undef] := by
  simp [resVals, h, pack]
set_option maxRecDepth 100000 in
theorem res_20 : ResFn Try.prog 20 := resB_ok Try.func20 (by kernel_rfl)
theorem results_20 : Try.f20.results = #[.tmp 4, .tmp 5] := by kernel_rfl
/-- .. with a job in its box. -/
structure JobSt (L0 L : World) (g bJ : Nat) (A : Option Addr) (c n : Nat) (left : Nat → Int) (nxf : Nat → List Int) (vs : List Value) (q : List Nat) (jb : Nat) (box : List Value) : Prop where
  run : RunSt L0 L g bJ A c n left nxf vs q false
  box : Blk L jb 41 box
  low : g + 9 ≤ jb
  far : ∀ (j : Nat) v, vs[j]? = some v → v.ownBlock ≠ some jb
section
variable {L0 L L' : World} {g bJ : Nat} {A : Option Addr} {c n : Nat} {left left' : Nat → Int} {nxf nxf' : Nat → List Int} {vs : List Value} {q : List Nat} {jb : Nat} {box : List Value}
theorem JobSt.start (h : RunSt L0 L g bJ A c n left nxf vs q false) (box : List Value) : JobSt L0 (L.alloc (.cells box.toArray 41)) g bJ A c n left nxf vs q L.heap.size box :=
  ⟨h.alloc _, Blk.new _ _ _, h.rows.bound, fun j v hv e => by have := ownBlock_lt h.rows hv e; omega⟩
theorem JobSt.same (h : JobSt L0 L g bJ A c n left nxf vs q jb box) (e : L'.heap = L.heap) : JobSt L0 L' g bJ A c n left nxf vs q jb box := ⟨h.run.same e, blk_same h.box e, h.low, h.far⟩
theorem JobSt.setLeft (h : JobSt L0 L g bJ A c n left nxf vs q jb box) (k : Nat) (x : Int) (hx : left' k = x) (hg : ∀ j, j < n → j ≠ k → left' j = left j) : JobSt L0 (L.setCell ⟨g + 2, k, none⟩ (.int .i64 x)) g bJ A c n left' nxf vs q jb box :=
  ⟨h.run.setLeft k x hx hg, (Below.heap_setCell L ⟨g + 2, k, none⟩ _ jb (by have := h.low; show jb ≠ g + 2; omega)).trans h.box, h.low, h.far⟩
theorem JobSt.push (h : JobSt L0 L g bJ A c n left nxf vs q jb box) {x : Nat} {v v2 : Value} (hv : vs[x]? = some v) (h1 : RunSt L0 L' g bJ A c n left nxf' (vs.set x v2) q false) (h3 : v2.ownBlock = v.ownBlock ∨ v2.ownBlock = some (L.heap.size + 1)) (h4 : ∀ b, b < L.heap.size → b ≠ g + 4 → v.ownBlock ≠ some b → L'.heap[b]? = L.heap[b]?) : JobSt L0 L' g bJ A c n left nxf' (vs.set x v2) q jb box := by
  have hlt := h.box.lt
  refine ⟨h1, (h4 jb hlt (by have := h.low; omega) (h.far x v hv)).trans h.box, h.low, fun j u hu => ?_⟩
  rw [List.getElem?_set] at hu
  by_cases e : x = j
  · subst e
    split at hu
    · split at hu
      · cases hu
        rcases h3 with e | e
        · rw [e]; exact h.far x v hv
        · rw [e]
          intro e2
          injection e2 with e2
          omega
      · cases hu
    · rename_i hh; exact absurd rfl hh
  · rw [if_neg e] at hu
    exact h.far j u hu
theorem JobSt.next (h : JobSt L0 L g bJ A c n left nxf vs q jb box) (h1 : ∀ j, j < n → left j = left' j) (h2 : ∀ j, j < n → nxf j = nxf' j) : JobSt L0 L g bJ A c n left' nxf' vs q jb box := by
  have e1 : fnI n left = fnI n left' := by unfold fnI; exact List.map_congr_left fun j hj => h1 j (List.mem_range.1 hj)
  have e2 : fnL n nxf = fnL n nxf' := by unfold fnL; exact List.map_congr_left fun j hj => h2 j (List.mem_range.1 hj)
  have hr := h.run
  exact ⟨⟨hr.bj, hr.num, hr.bn, by rw [← e1]; exact hr.left, hr.bl, by rw [← e2]; exact hr.rows, hr.bx, hr.ch, hr.bc, hr.ov, hr.kp, hr.jlow⟩, h.box, h.low, h.far⟩
end
theorem run_mvG (e : Operand → Value) (o : Oper) {x : Operand} (hop : o.op = .move x) (w : World) : (execOp e o).runT Try.prog w #[] = (.ok (.value (e x)) w, #[]) := by simp [go_sem, hop, execOp]
theorem info_intb : (Try.prog.info? 3).map (fun i => i.bytes) = some 8 := by kernel_rfl
theorem run_makeCG (e : Operand → Value) (o : Oper) {x : Operand} {n : Nat} (hop : o.op = .makeChan 126 x) (hx : e x = .int .i64 n) (hn : n ≤ 200) (w : World) : (execOp e o).runT Try.prog w #[] = (.ok (.value (.chan (some w.heap.size))) { w with heap := w.heap.push (.chan n #[] false 0 0 false) }, #[]) := by
  obtain ⟨i, hi, hb⟩ := Option.map_eq_some_iff.1 info_intb
  have h1 := run_makeChan (P := Try.prog) (w := w) Try.underlying126 hi .i64 n (by omega) (by rw [hb]; omega)
  have h2 := events_makeChan (P := Try.prog) (w := w) Try.underlying126 hi .i64 n (by omega) (by rw [hb]; omega) #[]
  simp [go_sem, hop, hx, execOp, h1, h2]
theorem run_allocCG (e : Operand → Value) (o : Oper) (hop : o.op = .alloc 126) (w : World) : (execOp e o).run Try.prog w = .ok (.value (.pointer (some ⟨w.heap.size, 0, none⟩))) (w.alloc (.cells #[.chan none] 126)) := by
  simp [go_sem, hop, execOp]
theorem run_storeCG (e : Operand → Value) (o : Oper) {x y : Operand} {p : Addr} {c : Nat} {u : Value} (hop : o.op = .store 126 x y) (hx : e x = .pointer (some p)) (hy : e y = .chan (some c)) (w : World) (hc : w.cell? p = some u) (hz : w.frozen? p = false) : (execOp e o).run Try.prog w = .ok .skip (w.setCell p (.chan (some c))) :=
  (op_store (P := Try.prog) (fn := 0) (k := ⟨fun _ => True, fun _ => True, fun _ => True⟩) (w := w) hop hx hy ⟨fun c h => (by cases h), fun c h => (by cases h)⟩ (fun w => Try.sizeOf126 w) hc hz trivial).1
theorem box_newG {L w : World} {n : Nat} (hw : w.heap = (({ L with heap := L.heap.push (.chan n #[] false 0 0 false) } : World).alloc (.cells #[.chan none] 126)).heap) : w.cell? ⟨L.heap.size + 1, 0, none⟩ = some (.chan none) ∧ w.frozen? ⟨L.heap.size + 1, 0, none⟩ = false := by
  have hz : (L.alloc (.chan n #[] false 0 0 false)).heap.size = L.heap.size + 1 := by simp
  have hbk := Blk.new (L.alloc (.chan n #[] false 0 0 false)) 126 [.chan none]
  rw [hz] at hbk
  have : Blk w (L.heap.size + 1) 126 [.chan none] := by unfold Blk at hbk ⊢; rw [hw]; exact hbk
  exact ⟨this.cell 0, this.frozen 0⟩
end Go.Proofs.Yticdjkkcfdbdcaa
