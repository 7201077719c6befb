/- Jobs as an argument are read, and come into a small lone world. No conditions but that what is read is there. -/
import Derived.Test.YticdjkkcfdbdcaaGrLb
import Derived.Test.YticdjkkcfdbdcaaReadN
import Derived.Test.YticdjkkcfdbdcaaDrawE
namespace Go.Proofs.Yticdjkkcfdbdcaa
open Go.Conc Go.ConcN Go.ChangeShapes Go.WideShapes Go.ChangeAt Go.RowKit Go.Deep
theorem ints_inv {zs : List Int} {j : Nat} {u : Value} (h : (ints zs)[j]? = some u) : ∃ n, u = .int .i64 n := by
  have := List.mem_of_getElem? h
  simp only [ints, List.mem_map] at this
  obtain ⟨n, _, rfl⟩ := this
  exact ⟨n, rfl⟩
/-- A list of ints, read. -/
theorem ints_readN {H : Type} {enc : TypeId × Value → H} {w : World} {base : Nat} {held : Bool} {fuel : Nat} {v : Value} {y : DataW H × List MemPlace}
    (h : DataW.trod enc Try.prog w base (fun _ => true) held fuel 39 [v] = some y) (hz : ∀ n ∈ y.1.weights Try.prog 39, n ≤ reachBytes) :
    ∃ (A : Option Addr) (c : Nat) (zs : List Int), v = .slice A zs.length c ∧ CellN w v (ints zs) ∧ zs.length ≤ c ∧ Fits zs.length := by
  rcases open_ints Try.underlying39 Try.underlying3 (by kernel_rfl) h with ⟨hcs, hx⟩ | ⟨a, len, cap, zs, hcs, _, hl, hm, hzl, hx, hcell, hwz⟩
  · simp at hcs
    subst hcs
    exact ⟨none, 0, [], rfl, .bare (.nilSlice _ _), Nat.le_refl _, by simp [Fits]⟩
  · simp at hcs
    subst hcs
    simp only [if_true] at hzl
    have hlz : (zs.take len).length = len := by rw [List.length_take]; omega
    refine ⟨some a, cap, zs.take len, by rw [hlz], ?_, by rw [hlz]; exact hl, ?_⟩
    · by_cases hc0 : cap = 0
      · obtain rfl : len = 0 := by omega
        subst hc0
        simp only [List.take_zero, ints, List.map_nil]
        exact .void a
      · have hc := hcell 0 (by omega)
        obtain ⟨hs, x, e, fz, hx', _⟩ := cell_row hc
        obtain ⟨b, o, sp⟩ := a
        have hs' : sp = none := by simpa [Addr.add] using hs
        subst hs'
        rw [add_block] at hx'
        refine .row b o len cap _ hc0 ⟨x, e, fz, hx', fun j u hu => ?_⟩ fun u hu => ?_
        · have hj : j < len := by
            have := (List.getElem?_eq_some_iff.1 hu).1
            simp [ints] at this; omega
          have q := hcell j (by omega)
          rw [Addr.add_lit'] at q
          simp only [World.cell?, hx', Option.isSome_none, Bool.false_eq_true, if_false] at q
          rw [q, ← hu]
          simp [ints, hj, show j < zs.length by omega, List.getD]
        · obtain ⟨i, hi'⟩ := List.getElem?_of_mem hu
          obtain ⟨n, rfl⟩ := ints_inv hi'
          exact .int _ _
    · subst hx
      have := hz ((zs.take len).length + (zs.drop len).length |>.mul (Try.prog.bytesOf 3)) (by simp [DataW.weights, Try.underlying39, lits])
      rw [show Try.prog.bytesOf 3 = 8 by kernel_rfl] at this
      simp only [reachBytes, Fits, Nat.mul_eq] at this ⊢
      omega
/-- What a row's argument is, read. -/
def JobsArg (w : World) (v : Value) : Prop :=
  v = .slice none 0 0 ∨ (∃ a, v = .slice (some a) 0 0) ∨ ∃ (b o c : Nat) (x : Array Value) (e : TypeId) (fz : Nat × Nat) (J : List JobR), v = .slice (some ⟨b, o, none⟩) J.length c ∧ w.heap[b]? = some (.cells x e fz) ∧ Fits J.length ∧
      ∀ (k : Nat) (h : k < J.length), (x[o + k * 4]? = some (.int .i64 J[k].len) ∧ x[o + (k * 4 + 1)]? = some (.int .i64 J[k].urg) ∧ x[o + (k * 4 + 2)]? = some (.slice J[k].sA J[k].after.length J[k].sc) ∧ x[o + (k * 4 + 3)]? = some (.int .i64 J[k].n)) ∧
        CellN w (.slice J[k].sA J[k].after.length J[k].sc) (ints J[k].after) ∧ J[k].after.length ≤ J[k].sc ∧ Fits J[k].after.length
theorem jobs_readN {H : Type} {enc : TypeId × Value → H} {w : World} {base : Nat} {held : Bool} {fuel : Nat} {v : Value} {y : DataW H × List MemPlace}
    (h : DataW.trod enc Try.prog w base (fun _ => true) held fuel 34 [v] = some y) (hz : ∀ n ∈ y.1.weights Try.prog 34, n ≤ reachBytes) : JobsArg w v := by
  rcases open_slice_fields Try.underlying34 Try.underlying41 (by kernel_rfl) (by kernel_rfl) h with ⟨hcs, hx⟩ | ⟨a, len, cap, m, D, Pl, hcs, _, hl, hm, hmm, hx, hi⟩
  · simp at hcs
    exact .inl hcs
  · simp at hcs
    subst hcs
    simp only [if_true] at hmm
    subst hmm
    subst hx
    by_cases hm0 : m = 0
    · obtain rfl : len = 0 := by omega
      subst hm0
      exact .inr (.inl ⟨a, rfl⟩)
    have hzl := hz ((((List.range len).map D).length + ((List.range (m - len)).map fun j => D (len + j)).length) * Try.prog.bytesOf 41) (by simp [DataW.weights, Try.underlying34])
    rw [show Try.prog.bytesOf 41 = 48 by kernel_rfl] at hzl
    simp only [List.length_map, List.length_range, reachBytes] at hzl
    have hze : ∀ i, i < len → ∀ n ∈ (D i).weights Try.prog 41, n ≤ reachBytes := fun i hil n hn => hz n (by
      simp only [DataW.weights, Try.underlying34, List.mem_cons, List.mem_append]
      exact .inr (.inl (weights_all (List.mem_map.2 ⟨i, List.mem_range.2 hil, rfl⟩) n hn)))
    have each : ∀ i, i < len → ∃ j : JobR, (w.cell? (a.add (i * 4)) = some (.int .i64 j.len) ∧ w.cell? (a.add (i * 4 + 1)) = some (.int .i64 j.urg) ∧
        w.cell? (a.add (i * 4 + 2)) = some (.slice j.sA j.after.length j.sc) ∧ w.cell? (a.add (i * 4 + 3)) = some (.int .i64 j.n)) ∧ CellN w (.slice j.sA j.after.length j.sc) (ints j.after) ∧ j.after.length ≤ j.sc ∧ Fits j.after.length := fun i hil => by
      obtain ⟨ys, n, hD, _, hyl, hf⟩ := hi i (by omega)
      obtain ⟨v0, y0, c0, hy0, t0⟩ := hf 0 _ rfl
      obtain ⟨v1, y1, c1, hy1, t1⟩ := hf 1 _ rfl
      obtain ⟨v2, y2, c2, hy2, t2⟩ := hf 2 _ rfl
      obtain ⟨v3, y3, c3, hy3, t3⟩ := hf 3 _ rfl
      obtain ⟨n0, e0, -, -⟩ := DataW.trod_int (Try.underlying3) t0
      obtain ⟨n1, e1, -, -⟩ := DataW.trod_int (Try.underlying3) t1
      obtain ⟨n3, e3, -, -⟩ := DataW.trod_int (Try.underlying2) t3
      simp only [List.cons.injEq, and_true] at e0 e1 e3
      subst e0 e1 e3
      obtain ⟨A2, cc, zs, rfl, hrd, hle, hfit⟩ := ints_readN t2 (fun n hn => hze i hil n (by
        rw [hD]
        simp only [DataW.weights, Try.underlying41]
        refine DataW.weights_mem_each (j := 2) rfl ?_ n hn
        simp [hy2]))
      exact ⟨⟨n0, n1, n3, A2, cc, zs⟩, ⟨c0, c1, c2, c3⟩, hrd, hle, hfit⟩
    obtain ⟨J, hJ, hp⟩ := list_of_each each
    obtain ⟨ys, n, hD, _, hyl, hf⟩ := hi 0 (by omega)
    obtain ⟨v0, y0, c0, -, -⟩ := hf 0 _ rfl
    obtain ⟨hs, x, e, fz, hx, _⟩ := cell_row c0
    obtain ⟨b, o, sp⟩ := a
    have hs' : sp = none := by simpa [Addr.add] using hs
    subst hs'
    rw [add_block] at hx
    refine .inr (.inr ⟨b, o, m, x, e, fz, J, by rw [hJ], hx, by rw [hJ]; simp only [Fits]; omega, fun k hk => ?_⟩)
    obtain ⟨⟨q0, q1, q2, q3⟩, r1, r2, r3⟩ := hp k hk
    rw [Addr.add_lit'] at q0 q1 q2 q3
    simp only [World.cell?, hx, Option.isSome_none, Bool.false_eq_true, if_false] at q0 q1 q2 q3
    exact ⟨⟨q0, q1, q2, q3⟩, r1, r2, r3⟩
theorem no_globals : Try.prog.globals.size = 0 := by kernel_rfl
def inP (N i : Nat) (A : Option Addr) (c : Nat) : Option Addr := match A with
  | none => none
  | some _ => if c = 0 then some ⟨0, 0, some 0⟩ else some ⟨N + 1 + i, 0, none⟩
theorem loneV_sl (N i n c : Nat) (A : Option Addr) (h : n ≤ c) : loneV N i (.slice A n c) = .slice (inP N i A c) n c := by
  cases A with
  | none => rfl
  | some a =>
    simp only [loneV, inP]
    split
    · rename_i h0
      subst h0
      simp only [Nat.le_zero] at h
      rw [h]
    · rfl
theorem cellN_ne {W : World} {A : Option Addr} {n c : Nat} {cs : List Value} (h : CellN W (.slice A n c) cs) (hne : cs ≠ []) : (∃ a, A = some a) ∧ c ≠ 0 := by
  cases h with
  | bare _ => exact absurd rfl hne
  | void _ => exact absurd rfl hne
  | row b o l c cs hc _ _ => exact ⟨⟨_, rfl⟩, hc⟩
/-- A job's cells, with what they name. -/
def cellsJ (y : JobR) : List (Value × List Value) := [(.int .i64 y.len, []), (.int .i64 y.urg, []), (.slice y.sA y.after.length y.sc, ints y.after), (.int .i64 y.n, [])]
theorem flatJ_len (J : List JobR) : (J.flatMap cellsJ).length = J.length * 4 := by
  induction J with
  | nil => rfl
  | cons a l ih => rw [List.flatMap_cons, List.length_append, ih, List.length_cons]; simp [cellsJ]; omega
theorem flatJ_at : ∀ (J : List JobR) (k : Nat) (h : k < J.length) (i : Nat), i < 4 → (J.flatMap cellsJ)[k * 4 + i]? = (cellsJ J[k])[i]?
  | a :: l, 0, _, i, hi => by rw [List.flatMap_cons, List.getElem?_append_left (by simp [cellsJ]; omega)]; simp
  | a :: l, k + 1, h, i, hi => by
    rw [List.flatMap_cons, List.getElem?_append_right (by simp [cellsJ]; omega)]
    have := flatJ_at l k (by simpa using h) i hi
    rw [show (k + 1) * 4 + i - (cellsJ a).length = k * 4 + i by simp [cellsJ]; omega, this]
    rfl
theorem rdJobs_nil (w : World) (B : Nat) (A : Option Addr) : RdJobs w B A [] := ⟨fun h => absurd rfl h, fun k h => absurd h (by simp), fun k h => absurd h (by simp), by simp [Fits]⟩
theorem jobs_imp {W : World} {v : Value} (h : JobsArg W v) : ∃ (A : Option Addr) (n c : Nat) (J : List JobR) (ρ : Ren) (k : LK) (L : World), Mir (InV grL grV) Try.prog ρ k L W ∧ VR (InV grL grV) ρ (.slice A n c) v ∧ RdJobs L L.heap.size A J ∧ J.length = n ∧
    (∀ l, k.W l → False) ∧ ∀ l, k.R l → MemLoc W.heap.size l := by
  rcases h with rfl | ⟨a, rfl⟩ | ⟨b, o, c, x, e, fz, J, rfl, hW, hfit, hJ⟩
  · exact ⟨none, 0, 0, [], renNone Try.prog badTy, LK.nil, blank Try.prog badTy W, mir_none bad_ty (by rw [no_globals]; exact Nat.zero_le _) LK.nil, .nilSlice _ _, rdJobs_nil _ _ _, rfl, fun l hl => hl, fun l hl => hl.elim⟩
  · exact ⟨some ⟨0, 0, some 0⟩, 0, 0, [], renNone Try.prog badTy, LK.nil, blank Try.prog badTy W, mir_none bad_ty (by rw [no_globals]; exact Nat.zero_le _) LK.nil, .void _ _ _ _, rdJobs_nil _ _ _, rfl, fun l hl => hl, fun l hl => hl.elim⟩
  · obtain ⟨l, hldef⟩ : ∃ l : List (Value × List Value), J.flatMap cellsJ = l := ⟨_, rfl⟩
    have hl : ∀ (k : Nat) (h : k < J.length) (i : Nat), i < 4 → l[k * 4 + i]? = (cellsJ J[k])[i]? := fun k hk i hi => by subst hldef; exact flatJ_at J k hk i hi
    have hll : l.length = J.length * 4 := by subst hldef; exact flatJ_len J
    have hm : Mir (InV grL grV) Try.prog (renP Try.prog badTy (plN b o l) (plN_ok no_globals b o l)) (readAll W.heap.size) (partsW Try.prog badTy (rowsN Try.prog.globals.size l) W) W := mir_n bad_ty no_globals hW fun i v cs hi => by
      have hi' : i < J.length * 4 := by rw [← hll]; exact (List.getElem?_eq_some_iff.1 hi).1
      obtain ⟨k, j, hk, hj, rfl⟩ : ∃ k j, k < J.length ∧ j < 4 ∧ i = k * 4 + j := ⟨i / 4, i % 4, by omega, by omega, by omega⟩
      rw [hl k hk j hj] at hi
      obtain ⟨⟨q0, q1, q2, q3⟩, r1, r2, r3⟩ := hJ k hk
      obtain rfl | rfl | rfl | rfl : j = 0 ∨ j = 1 ∨ j = 2 ∨ j = 3 := by omega
      · simp only [cellsJ, List.getElem?_cons_zero, Option.some.injEq, Prod.mk.injEq] at hi
        obtain ⟨rfl, rfl⟩ := hi
        exact ⟨q0, .bare (.int _ _)⟩
      · simp only [cellsJ, List.getElem?_cons_succ, List.getElem?_cons_zero, Option.some.injEq, Prod.mk.injEq] at hi
        obtain ⟨rfl, rfl⟩ := hi
        exact ⟨q1, .bare (.int _ _)⟩
      · simp only [cellsJ, List.getElem?_cons_succ, List.getElem?_cons_zero, Option.some.injEq, Prod.mk.injEq] at hi
        obtain ⟨rfl, rfl⟩ := hi
        exact ⟨q2, r1⟩
      · simp only [cellsJ, List.getElem?_cons_succ, List.getElem?_cons_zero, Option.some.injEq, Prod.mk.injEq] at hi
        obtain ⟨rfl, rfl⟩ := hi
        exact ⟨q3, .bare (.int _ _)⟩
    refine ⟨some ⟨Try.prog.globals.size, 0, none⟩, J.length, c, J.mapIdx fun i x => ⟨x.len, x.urg, x.n, inP Try.prog.globals.size (i * 4 + 2) x.sA x.sc, x.sc, x.after⟩, _, _, _, hm, nameN no_globals l _ _, ?_, by simp, fun l hl => hl, ?_⟩
    · refine ⟨fun _ => ⟨Try.prog.globals.size, 0, rfl, by rw [sizeN]; omega, fun k hk => ?_⟩, fun k hk => ?_, fun k hk => ?_, by simpa using hfit⟩
      · have hk' : k < J.length := by simpa using hk
        have o0 := cellN_outer (P := Try.prog) (bad := badTy) (W := W) l (hl k hk' 0 (by omega))
        have o1 := cellN_outer (P := Try.prog) (bad := badTy) (W := W) l (hl k hk' 1 (by omega))
        have o2 := cellN_outer (P := Try.prog) (bad := badTy) (W := W) l (hl k hk' 2 (by omega))
        have o3 := cellN_outer (P := Try.prog) (bad := badTy) (W := W) l (hl k hk' 3 (by omega))
        rw [loneV_sl _ _ _ _ _ (hJ k hk').2.2.1] at o2
        simp only [List.getElem_mapIdx, Nat.zero_add]
        exact ⟨o0, o1, o2, o3⟩
      · have hk' : k < J.length := by simpa using hk
        simp only [List.getElem_mapIdx]
        intro hne
        obtain ⟨⟨a, hA⟩, hc0⟩ := cellN_ne (hJ k hk').2.1 hne
        refine ⟨Try.prog.globals.size + 1 + (k * 4 + 2), 0, by simp only [inP, hA, if_neg hc0], by rw [sizeN, hll]; omega, fun i u hi => ?_⟩
        rw [Nat.zero_add]
        exact cellN_inner l (hl k hk' 2 (by omega)) hi
      · have hk' : k < J.length := by simpa using hk
        simp only [List.getElem_mapIdx]
        exact (hJ k hk').2.2.2
    · rintro l ⟨b, i, rfl, hb⟩
      exact hb
end Go.Proofs.Yticdjkkcfdbdcaa

/- The law stepkeep.GraphSame's body in company, told of the lone world: true. No conditions but those named. -/
namespace Go.Proofs.Yticdjkkcfdbdcaa
open Go.Conc Go.ConcN Go.RowKit Go.ChangeShapes Go.WideShapes Go.ChangeAt
set_option maxRecDepth 100000 in
theorem res_6 : ResFn Try.prog 6 := resB_ok Try.func6 (by kernel_rfl)
theorem results_6 : Try.f6.results = #[.tmp 6] := by kernel_rfl
theorem build_job (e : Operand → Value) (o : Oper) (w : World) (hop : o.op = .build 41 #[(0, .const (.int .i64 1)), (3, .const (.int .i64 5))]) (h0 : e (.const (.int .i64 1)) = .int .i64 1) (h2 : e (.const (.int .i64 5)) = .int .i64 5) : (execOp e o).run Try.prog w = .ok (.value (.agg #[.int .i64 1, .int .i64 0, .slice none 0 0, .int .i64 5])) w := by
  simp [go_sem, hop, h0, h2, execOp]
theorem slice_job (e : Operand → Value) (o : Oper) (w : World) {t : Nat} (hop : o.op = .buildSlice 34 1 #[(0, .tmp t)]) {a b c d : Value} (h1 : e (.tmp t) = .agg #[a, b, c, d]) : (execOp e o).run Try.prog w = .ok (.value (.slice (some ⟨w.heap.size, 0, none⟩) 1 1)) (w.alloc (.cells #[a, b, c, d] 41)) := by
  simp [go_sem, hop, h1, execOp]
/-- The one job of the law's own. -/
def J1 : List JobR := [⟨1, 0, 5, none, 0, []⟩]
theorem j1_can : Can J1 0 := .mk 0 (by decide) fun a ha => by cases ha
theorem j1_code : askedCode J1 1 = 0 := by
  unfold askedCode
  rw [if_neg, if_pos (by decide)]
  rw [jobsCode_zero (fun j hj => ?_) (by decide) fun i hi => ?_]
  · simp
  · simp only [J1, List.mem_singleton] at hj
    subst hj
    exact ⟨⟨by decide, by decide⟩, fun a ha => by cases ha⟩
  · obtain rfl : i = 0 := by simp [J1] at hi; omega
    exact j1_can
theorem j1_val : valJ J1 0 = 5 := by
  rw [valJ_eq (fun i hi => by obtain rfl : i = 0 := by simp [J1] at hi; omega
                              exact j1_can) (by decide)]
  rfl
theorem j1_rd {L : World} {g : Nat} (h : L.heap[g]? = some (.cells #[.int .i64 1, .int .i64 0, .slice none 0 0, .int .i64 5] 41 (0, 0))) : RdJobs L L.heap.size (some ⟨g, 0, none⟩) J1 := by
  refine ⟨fun _ => ⟨g, 0, rfl, (Array.getElem?_eq_some_iff.1 h).1, fun k hk => ?_⟩, fun k hk => ?_, fun k hk => ?_, by simp [Fits, J1]⟩
  · obtain rfl : k = 0 := by simp [J1] at hk; omega
    simp [World.cell?, h, J1]
  · obtain rfl : k = 0 := by simp [J1] at hk; omega
    exact Rd.nil _ _ _
  · obtain rfl : k = 0 := by simp [J1] at hk; omega
    simp [Fits, J1]
section
variable {Post : Value → World → Prop} {n0 : Nat} {W0 : World}
set_option maxRecDepth 100000 in
set_option maxHeartbeats 4000000 in
theorem same_m {A : Option Addr} {c n : Nat} {J : List JobR} {one two : Int} {L : World} (hR : RdJobs L L.heap.size A J) (hn : J.length = n) {code : Code} (hcode : Try.f6.body = some code) :
    Mp (InV grL grV) Try.prog (fun k g w => Win Try.prog Post n0 W0 k g w) 6 code false (fun e a1 _ => (e = .normal ∨ e = .ret) ∧ pack (resVals Try.f6 a1.tmps) = .bool true) ⟨#[.slice A n c, .int .i64 one, .int .i64 two] ++ Array.replicate (Try.f6.ntmps - #[Value.slice A n c, .int .i64 one, .int .i64 two].size) undef, []⟩ L := by
  have hJ : JOk Try.prog true _ (fun k g w => Win Try.prog Post n0 W0 k g w) := win_jok (P := Try.prog) (Post := Post) (n0 := n0) (W0 := W0)
  have hcode' := (show Try.f6.body = some _ from rfl).symm.trans hcode
  obtain rfl := Option.some.inj hcode'
  clear hcode hcode'
  simp only [Try.ntmps6, List.size_toArray, List.length_cons, List.length_nil, Nat.reduceAdd, Nat.reduceSub, Array.replicate_succ, Array.replicate_zero, List.push_toArray, List.append_toArray, List.nil_append, List.cons_append]
  have Hn := Lib.hid hn; clear hn
  have HR := Lib.hid hR; clear hR
  refine Mp.piece' hJ gr_ok res_6 (by kernel_rfl) (fun L' => Hid (L'.heap = L.heap)) (fun L' e => Lib.hid e) fun L2 Hs => ?_
  go_wp2
  refine MpPost.normal ?_
  have k2 : KeepsG L L2 := .eq Hs.out
  clear Hs
  -- one job
  refine Mp.seq hJ (Mp.seq hJ (Mp.region hJ ?_))
  refine MpOps.val' hJ gr_ok.bodies rfl (yld rfl _) (okOpB_ok (by kernel_rfl)) (fun w => build_job _ _ w rfl rfl rfl) ?_
  refine MpOps.new hJ gr_ok.bodies (v := .slice (some ⟨L2.heap.size, 0, none⟩) 1 1) (x := .cells #[.int .i64 1, .int .i64 0, .slice none 0 0, .int .i64 5] 41) rfl (yld rfl _) (okOpB_ok (by kernel_rfl)) (fun w hw => by rw [slice_job _ _ w rfl rfl, hw]) ?_
  have hb := j1_rd (heap_alloc_new L2 (.cells #[.int .i64 1, .int .i64 0, .slice none 0 0, .int .i64 5] 41))
  have kA : KeepsG L (L2.alloc (.cells #[.int .i64 1, .int .i64 0, .slice none 0 0, .int .i64 5] 41)) := k2.trans ⟨by simp, fun b hb => Below.heap_alloc _ _ b hb⟩
  generalize L2.alloc (.cells #[.int .i64 1, .int .i64 0, .slice none 0 0, .int .i64 5] 41) = LA at hb kA ⊢
  have hc0 := run_m (Post := Post) (n0 := n0) (W0 := W0) (c := 1) (wk := 1) (L := LA) hb (Nat.le_refl _) (n := 1) rfl
  generalize L2.heap.size = g2 at hb hc0 ⊢
  clear k2 hb L2
  go_simp
  refine MpOps.call' hJ rfl (yld rfl _) rfl (fun x hx => ?_) ⟨_, Try.func20, by kernel_rfl, by kernel_rfl⟩ (by simp only [List.map_toArray, List.map_cons, List.map_nil]; rfl) (MCalls.mono hc0 fun v L3 hv => ?_)
  · simp at hx
    rcases hx with rfl | rfl <;> first | trivial | exact .int _ _
  clear hc0
  obtain ⟨g5, rfl, -, r5⟩ := hv.2.1 j1_code
  have k3 : KeepsG L L3 := kA.trans hv.2.2
  clear hv kA
  go_simp
  refine MpOps.val hJ gr_ok.bodies rfl (yld rfl _) (okOpB_ok (by kernel_rfl)) (fun w => run_mvG _ _ rfl w) ?_
  go_simp
  refine MpOps.val hJ gr_ok.bodies rfl (yld rfl _) (okOpB_ok (by kernel_rfl)) (fun w => run_extr rfl rfl (.inl rfl) w) ?_
  refine MpOps.val hJ gr_ok.bodies rfl (yld rfl _) (okOpB_ok (by kernel_rfl)) (fun w => run_extr rfl rfl (.inr rfl) w) ?_
  go_simp
  refine MpOps.val hJ gr_ok.bodies rfl (yld rfl _) (okOpB_ok (by kernel_rfl)) (fun w => run_asG _ _ rfl w) ?_
  refine MpOps.val hJ gr_ok.bodies rfl (yld rfl _) (okOpB_ok (by kernel_rfl)) (fun w => run_asG _ _ rfl w) ?_
  refine MpOps.nil hJ ?_
  show Mp _ _ _ _ _ _ _ _ _
  go_simp
  have r5' : Blk L3 g5 2 (ints [5]) := by
    have : (List.range J1.length).map (valJ J1) = [5] := by rw [show J1.length = 1 from rfl]; simp [List.range_succ, j1_val]
    rwa [this] at r5
  rw [show J1.length = 1 from rfl]
  clear r5
  refine Mp.last' hJ gr_ok res_6 (by kernel_rfl) (fun L' => Hid (L'.heap = L3.heap)) (fun L' e => Lib.hid e) fun L4 H4 => ?_
  have k4 : KeepsG L L4 := k3.trans (.eq H4.out)
  have hsame : Calls Try.prog 17 #[.slice (some ⟨g5, 0, none⟩) 1 1, .slice (some ⟨L4.heap.size, 0, none⟩) 1 1] (L4.alloc (.cells #[.int .i64 5] 2)) fun e w' => e = .returned (.bool true) ∧ KeepsG L w' := by
    have h1 : Rd (L4.alloc (.cells #[.int .i64 5] 2)) (L4.alloc (.cells #[.int .i64 5] 2)).heap.size (some ⟨g5, 0, none⟩) (ints [5]) := ((blk_same r5' H4.out).alloc _).rd
    have h2 : Rd (L4.alloc (.cells #[.int .i64 5] 2)) (L4.alloc (.cells #[.int .i64 5] 2)).heap.size (some ⟨L4.heap.size, 0, none⟩) (ints [5]) := (Blk.new L4 2 (ints [5])).rd
    refine (same_g _ _ _ _ 1 1 [5] h1 h2 (Nat.le_refl _) (by decide)).mono ?_
    rintro e w' ⟨rfl, hb⟩
    exact ⟨rfl, k4.trans (KeepsG.trans ⟨by simp, fun b hb => Below.heap_alloc _ _ b hb⟩ (KeepsG.below hb))⟩
  have HSm := Lib.hid hsame
  clear hsame r5' k3 k4 H4
  go_wp2_with (first
    | (go_at_call 17; refine (HSm.out).mono ?_; rintro e w1 ⟨rfl, hb⟩; have Hb := Lib.hid hb; clear hb))
  refine MpPost.normal ?_
  obtain ⟨ys1, code1, hS1⟩ := saidG J one
  obtain ⟨ys2, code2, hS2⟩ := saidG J two
  have k5 := Hb.out
  clear Hb HSm
  have hc1 := run_m (Post := Post) (n0 := n0) (W0 := W0) (A := A) (c := c) (wk := one) (L := w1) ((HR.out.kept (Nat.le_refl _) k5).more k5.size) (Nat.le_refl _) Hn.out
  refine Mp.seq hJ (Mp.region hJ ?_)
  ((refine MpOps.val hJ gr_ok.bodies rfl (yld rfl _) (okOpB_ok (by kernel_rfl)) (fun w => run_mvG _ _ rfl w) ?_; refine MpOps.val hJ gr_ok.bodies rfl (yld rfl _) (okOpB_ok (by kernel_rfl)) (fun w => run_mvG _ _ rfl w) ?_))
  go_simp
  refine MpOps.call' hJ rfl (yld rfl _) rfl (fun x hx => ?_) ⟨_, Try.func20, by kernel_rfl, by kernel_rfl⟩ (by simp only [List.map_toArray, List.map_cons, List.map_nil]; rfl) (MCalls.mono hc1 fun v L5 hv => ?_)
  · simp at hx
    rcases hx with rfl | rfl <;> trivial
  obtain ⟨p1, c1, rfl, r1, j1⟩ := hS1.run _ _ _ hv
  clear hc1 hv
  go_simp
  refine MpOps.val hJ gr_ok.bodies rfl (yld rfl _) (okOpB_ok (by kernel_rfl)) (fun w => run_mvG _ _ rfl w) ?_
  go_simp
  refine MpOps.val hJ gr_ok.bodies rfl (yld rfl _) (okOpB_ok (by kernel_rfl)) (fun w => run_extr rfl rfl (.inl rfl) w) ?_
  refine MpOps.val hJ gr_ok.bodies rfl (yld rfl _) (okOpB_ok (by kernel_rfl)) (fun w => run_extr rfl rfl (.inr rfl) w) ?_
  go_simp
  refine MpOps.val hJ gr_ok.bodies rfl (yld rfl _) (okOpB_ok (by kernel_rfl)) (fun w => run_asG _ _ rfl w) ?_
  refine MpOps.val hJ gr_ok.bodies rfl (yld rfl _) (okOpB_ok (by kernel_rfl)) (fun w => run_asG _ _ rfl w) ?_
  refine MpOps.nil hJ ?_
  show Mp _ _ _ _ _ _ _ _ _
  go_simp
  have k6 := k5.trans j1
  have hc2 := run_m (Post := Post) (n0 := n0) (W0 := W0) (A := A) (c := c) (wk := two) (L := L5) ((HR.out.kept (Nat.le_refl _) k6).more k6.size) (Nat.le_refl _) Hn.out
  refine Mp.seq hJ (Mp.region hJ ?_)
  ((refine MpOps.val hJ gr_ok.bodies rfl (yld rfl _) (okOpB_ok (by kernel_rfl)) (fun w => run_mvG _ _ rfl w) ?_; refine MpOps.val hJ gr_ok.bodies rfl (yld rfl _) (okOpB_ok (by kernel_rfl)) (fun w => run_mvG _ _ rfl w) ?_))
  go_simp
  refine MpOps.call' hJ rfl (yld rfl _) rfl (fun x hx => ?_) ⟨_, Try.func20, by kernel_rfl, by kernel_rfl⟩ (by simp only [List.map_toArray, List.map_cons, List.map_nil]; rfl) (MCalls.mono hc2 fun v L6 hv => ?_)
  · simp at hx
    rcases hx with rfl | rfl <;> trivial
  obtain ⟨p2, c2, rfl, r2, j2⟩ := hS2.run _ _ _ hv
  clear hc2 hv
  go_simp
  refine MpOps.val hJ gr_ok.bodies rfl (yld rfl _) (okOpB_ok (by kernel_rfl)) (fun w => run_mvG _ _ rfl w) ?_
  go_simp
  refine MpOps.val hJ gr_ok.bodies rfl (yld rfl _) (okOpB_ok (by kernel_rfl)) (fun w => run_extr rfl rfl (.inl rfl) w) ?_
  refine MpOps.val hJ gr_ok.bodies rfl (yld rfl _) (okOpB_ok (by kernel_rfl)) (fun w => run_extr rfl rfl (.inr rfl) w) ?_
  go_simp
  refine MpOps.val hJ gr_ok.bodies rfl (yld rfl _) (okOpB_ok (by kernel_rfl)) (fun w => run_asG _ _ rfl w) ?_
  refine MpOps.val hJ gr_ok.bodies rfl (yld rfl _) (okOpB_ok (by kernel_rfl)) (fun w => run_asG _ _ rfl w) ?_
  refine MpOps.nil hJ ?_
  show Mp _ _ _ _ _ _ _ _ _
  go_simp
  have k7 := k6.trans j2
  have q1 : Rd L6 L5.heap.size p1 (ints ys1) := r1.keptG (Nat.le_refl _) j2
  have qA : RdJobs L6 L.heap.size A J := HR.out.kept (Nat.le_refl _) k7
  refine Mp.last' hJ gr_ok res_6 (by kernel_rfl) (fun L' => Hid (Rd L' L'.heap.size p1 (ints ys1) ∧ Rd L' L'.heap.size p2 (ints ys2) ∧ RdJobs L' L'.heap.size A J)) (fun L' e => Lib.hid ⟨(q1.keptG j2.size (.eq e)).more (by rw [e]; exact j2.size), (r2.keptG (Nat.le_refl _) (.eq e)).more (by rw [e]; exact Nat.le_refl _), (qA.kept k7.size (.eq e)).more (by rw [e]; exact k7.size)⟩) fun L8 H8 => ?_
  have ho1 := hS1.ok
  have ho2 := hS2.ok
  clear q1 r1 r2 qA k7 k6 k5 j1 j2 hS1 hS2 HR
  by_cases hz1 : code1 = 0
  case neg =>
    have h1' : (code1 == 0) = false := by simp [hz1]
    clear ho1 ho2
    go_wp2
    refine MpPost.leave ⟨.inr rfl, ?_⟩
    rw [pack_oneG results_6]
    rfl
  by_cases hz2 : code2 = 0
  case neg =>
    have h2' : (code2 == 0) = false := by simp [hz2]
    subst hz1
    clear ho1 ho2
    go_wp2
    refine MpPost.leave ⟨.inr rfl, ?_⟩
    rw [pack_oneG results_6]
    rfl
  subst hz1 hz2
  have hgood := asked_good ho1.1.symm
  have hn2 : n ≤ 200 := Hn.out ▸ hgood.few
  have hy1 := ho1.2 rfl
  have hy2 := ho2.2 rfl
  rw [Hn.out] at hy1 hy2
  subst hy1 hy2
  clear ho1 ho2
  have hsame : ∀ W : World, W.heap = L8.heap → Calls Try.prog 17 #[.slice p1 n c1, .slice p2 n c2] W fun e w' => e = .returned (.bool true) ∧ KeepsG L8 w' := fun W e => by
    have h1 : Rd W W.heap.size p1 (ints ((List.range n).map (valJ J))) := (H8.out.1.keptG (Nat.le_refl _) (.eq e)).more (by rw [e]; exact Nat.le_refl _)
    have h2 : Rd W W.heap.size p2 (ints ((List.range n).map (valJ J))) := (H8.out.2.1.keptG (Nat.le_refl _) (.eq e)).more (by rw [e]; exact Nat.le_refl _)
    have := same_g W W.heap.size p1 p2 c1 c2 _ h1 h2 (Nat.le_refl _) (by simp; omega)
    rw [show ((List.range n).map (valJ J)).length = n by simp] at this
    refine this.mono ?_
    rintro e' w' ⟨rfl, hb⟩
    exact ⟨rfl, (KeepsG.eq e).trans (KeepsG.below hb)⟩
  have HSm := Lib.hid hsame; clear hsame
  have Hgood := Lib.hid hgood; clear hgood
  simp only [List.length_map, List.length_range]
  go_wp2_with (first
    | (go_at_call 17; refine (HSm.out _ rfl).mono ?_; rintro e w1 ⟨rfl, hb⟩; have Hb := Lib.hid hb; clear hb))
  go_loopg [61] n (fun gk i wr => ∃ k : Nat, gk + k = n ∧ i = .int .i64 k ∧ KeepsG L8 wr)
  case atStart => exact ⟨0, by omega, rfl, Hb.out⟩
  case round =>
    obtain ⟨k, hgk, rfl, hkp⟩ := hrel
    by_cases hk : k < n
    · have hkJ : k < J.length := by have := Hn.out; omega
      obtain ⟨ob, oo, rfl, hob, -, -, c22, c3⟩ := (H8.out.2.2.kept (Nat.le_refl _) hkp).at_ hkJ
      obtain ⟨gb, go', rfl, hgb, ca⟩ := (H8.out.1.keptG (Nat.le_refl _) hkp).atMap (k := k) (by simpa using hk)
      have hrd := (H8.out.2.2.kept (Nat.le_refl _) hkp).after k hkJ
      have hin : ∀ a ∈ J[k].after, okIn n a := fun a ha => Hn.out ▸ (Hgood.out.ok k hkJ).2 a ha
      have hsh := Hgood.out.short k hkJ
      have haft : aft J k = J[k].after := aft_eq hkJ
      have hnum : numJ J k = J[k].n := numJ_eq hkJ
      simp only [List.getElem_map, List.getElem_range] at ca
      generalize hj : J[k] = j at *
      have Hin := Lib.hid (And.intro hin (And.intro haft (And.intro hnum hrd))); clear hin haft hnum hrd hj
      have Hkp := Lib.hid hkp; clear hkp
      go_wp2
      have h0 : foldJ J k 0 = j.n := by unfold foldJ; rw [List.take_zero, List.foldl_nil, Hin.out.2.2.1]
      rw [← h0]
      clear h0 c3
      obtain ⟨wo, rfl⟩ : ∃ wo : World, wo = wr := ⟨_, rfl⟩
      obtain ⟨gj, rfl⟩ : ∃ gj : Nat, gj = gk := ⟨_, rfl⟩
      go_loopg [14, 75] j.after.length (fun gq x iq wq => ∃ q : Nat, gq + q = j.after.length ∧ x = .int .i64 (foldJ J k q) ∧ iq = .int .i64 q ∧ KeepsG wo wq)
      case atStart => exact ⟨0, by omega, rfl, rfl, .eq rfl⟩
      case round =>
        obtain ⟨q, hgq, rfl, rfl, hkq⟩ := hrel
        have hz8 := Hkp.out.size
        by_cases hq : q < j.after.length
        · obtain ⟨ab, ao, hsA, hab, ca2⟩ := (Hin.out.2.2.2.keptG hz8 hkq).atMap hq
          obtain ⟨x0, x1⟩ := Hin.out.1 _ (List.getElem_mem hq)
          have c23 : wr.cell? ⟨ob, oo + k * 4 + 2, none⟩ = some (.slice (some ⟨ab, ao, none⟩) j.after.length j.sc) := by rw [← hsA]; exact (hkq.cell (by show ob < _; omega)).trans c22
          have hfold : foldJ J k (q + 1) = IntKind.i64.wrap (IntKind.i64.wrap (31 * foldJ J k q) + valJ J j.after[q].toNat) := by
            unfold foldJ
            have hlt : q < (aft J k).length := by rw [Hin.out.2.1]; exact hq
            rw [List.take_succ_eq_append_getElem hlt, List.foldl_append]
            have : (aft J k)[q] = j.after[q] := List.getElem_of_eq Hin.out.2.1 _
            rw [this]
            rfl
          generalize j.after[q] = x at *
          obtain ⟨y, rfl⟩ := Int.eq_ofNat_of_zero_le x0
          have hyn : y < n := by omega
          obtain ⟨gb2, go2, hA2, hgb2, cy⟩ := ((H8.out.1.keptG (Nat.le_refl _) (Hkp.out.trans hkq))).atMap (k := y) (by simpa using hyn)
          cases hA2
          simp only [List.getElem_map, List.getElem_range] at cy
          rw [Int.toNat_natCast] at hfold
          generalize valJ J y = vy at cy hfold
          generalize foldJ J k q = fq at hfold ⊢
          have Hf := Lib.hid (And.intro hfold hkq); clear hfold hkq x0 x1 hsA hab
          clear ca c22
          go_wp2
          go_roundg (gk - 1)
          case measure => omega
          case rel => exact ⟨q + 1, by omega, by rw [Hf.out.1, IntWalk.i64_left, IntWalk.i64_left], by go_num, Hf.out.2⟩
        · obtain rfl : q = j.after.length := by omega
          have hfin : foldJ J k j.after.length = valJ J k := by
            rw [valJ_eq Hgood.out.can hkJ]
            unfold foldJ
            rw [List.take_of_length_le (by rw [Hin.out.2.1]; omega)]
          rw [hfin]
          have ca3 := (hkq.cell (by show gb < _; omega)).trans ca
          have Hkq := Lib.hid hkq; clear hkq hfin c22 ca
          generalize valJ J k = vk at ca3 ⊢
          go_wp2
          go_roundg (gj - 1)
          case measure => omega
          case rel => exact ⟨k + 1, by omega, by go_num, Hkp.out.trans Hkq.out⟩
    · clear hgk
      go_wp2
      refine MpPost.leave ⟨.inr rfl, ?_⟩
      rw [pack_oneG results_6]
      rfl
end
end Go.Proofs.Yticdjkkcfdbdcaa

/- A call of stepkeep.GraphSame, from every start: it ends well, and answers true. No conditions but that what is read is there. -/
namespace Go.Proofs.Yticdjkkcfdbdcaa
open Go.Conc Go.ConcN Go.RowKit Go.ChangeShapes Go.WideShapes Go.ChangeAt
theorem no_inits_6 : Try.prog.inits.idxOf? 6 = none := by kernel_rfl
set_option maxRecDepth 100000 in
theorem code_6 : ∃ code, Try.f6.body = some code := ⟨_, rfl⟩
/-- What the run leaves. -/
def LeftS (W : World) (v : Value) (w' : World) : Prop := v = .bool true ∧ W.heap.size ≤ w'.heap.size ∧ (∀ b, b < W.heap.size → w'.heap[b]? = W.heap[b]?) ∧ w'.os = W.os ∧ w'.output = W.output ∧ w'.tape = W.tape
theorem graph_same {W : World} {v : Value} {one two : Int} (h : JobsArg W v) :
    EndsWell Try.prog (LeftS W) (solo (G (Frame.enter Try.prog 6 #[v, .int .i64 one, .int .i64 two] .normal) []) W) #[] := by
  obtain ⟨code, hcode⟩ := code_6
  obtain ⟨A, n, c, J, ρ, k, L, hm, hv, hR, hn, hk, hr⟩ := jobs_imp h
  refine win_runs (k := k) (mp_top Try.func6 hcode no_inits_6 (fun i r hr => ?_) (R := fun v => v = .bool true) (args := #[.slice A n c, .int .i64 one, .int .i64 two]) hm ⟨rfl, fun i v v' h1 h2 => ?_⟩ (same_m hR hn hcode) ?_) hk hr
  · obtain ⟨fn, h1, h2⟩ := res_6
    cases Option.some.inj (h1.symm.trans Try.func6)
    exact h2 i r hr
  · match i, h1, h2 with
    | 0, h1, h2 => simp at h1 h2; subst h1 h2; exact hv
    | 1, h1, h2 => simp at h1 h2; subst h1 h2; exact .int _ _
    | 2, h1, h2 => simp at h1 h2; subst h1 h2; exact .int _ _
    | i + 3, h1, _ => simp at h1
  · rintro v v' ρ1 k1 w rfl hv hO
    cases hv
    exact ⟨rfl, hO.size, hO.heap, hO.os, hO.output, hO.tape⟩
end Go.Proofs.Yticdjkkcfdbdcaa
