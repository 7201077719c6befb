/- Jobs as an argument are read, and come into a small lone world. No conditions but that what is read is there. -/
import Derived.Test.YticdjkkcfdbdcaaGrLb
import Derived.Test.YticdjkkcfdbdcaaReadN
import Derived.Test.YticdjkkcfdbdcaaDrawE
namespace Go.Proofs.Yticdjkkcfdbdcaa
open Go.Conc Go.ConcN Go.ChangeShapes Go.WideShapes Go.ChangeAt Go.RowKit Go.Deep
theorem ints_inv {zs : List Int} {j : Nat} {u : Value} (h : (ints zs)[j]? = some u) : ∃ n, u = .int .i64 n := by
  have := List.mem_of_getElem? h
  simp only [ints, List.mem_map] at this
  obtain ⟨n, _, rfl⟩ := this
  exact ⟨n, rfl⟩
/-- A list of ints, read. -/
theorem ints_readN {H : Type} {enc : TypeId × Value → H} {w : World} {base : Nat} {held : Bool} {fuel : Nat} {v : Value} {y : DataW H × List MemPlace}
    (h : DataW.trod enc Try.prog w base (fun _ => true) held fuel 39 [v] = some y) (hz : ∀ n ∈ y.1.weights Try.prog 39, n ≤ reachBytes) :
    ∃ (A : Option Addr) (c : Nat) (zs : List Int), v = .slice A zs.length c ∧ CellN w v (ints zs) ∧ zs.length ≤ c ∧ Fits zs.length := by
  rcases open_ints Try.underlying39 Try.underlying3 (by kernel_rfl) h with ⟨hcs, hx⟩ | ⟨a, len, cap, zs, hcs, _, hl, hm, hzl, hx, hcell, hwz⟩
  · simp at hcs
    subst hcs
    exact ⟨none, 0, [], rfl, .bare (.nilSlice _ _), Nat.le_refl _, by simp [Fits]⟩
  · simp at hcs
    subst hcs
    simp only [if_true] at hzl
    have hlz : (zs.take len).length = len := by rw [List.length_take]; omega
    refine ⟨some a, cap, zs.take len, by rw [hlz], ?_, by rw [hlz]; exact hl, ?_⟩
    · by_cases hc0 : cap = 0
      · obtain rfl : len = 0 := by omega
        subst hc0
        simp only [List.take_zero, ints, List.map_nil]
        exact .void a
      · have hc := hcell 0 (by omega)
        obtain ⟨hs, x, e, fz, hx', _⟩ := cell_row hc
        obtain ⟨b, o, sp⟩ := a
        have hs' : sp = none := by simpa [Addr.add] using hs
        subst hs'
        rw [add_block] at hx'
        refine .row b o len cap _ hc0 ⟨x, e, fz, hx', fun j u hu => ?_⟩ fun u hu => ?_
        · have hj : j < len := by
            have := (List.getElem?_eq_some_iff.1 hu).1
            simp [ints] at this; omega
          have q := hcell j (by omega)
          rw [Addr.add_lit'] at q
          simp only [World.cell?, hx', Option.isSome_none, Bool.false_eq_true, if_false] at q
          rw [q, ← hu]
          simp [ints, hj, show j < zs.length by omega, List.getD]
        · obtain ⟨i, hi'⟩ := List.getElem?_of_mem hu
          obtain ⟨n, rfl⟩ := ints_inv hi'
          exact .int _ _
    · subst hx
      have := hz ((zs.take len).length + (zs.drop len).length |>.mul (Try.prog.bytesOf 3)) (by simp [DataW.weights, Try.underlying39, lits])
      rw [show Try.prog.bytesOf 3 = 8 by kernel_rfl] at this
      simp only [reachBytes, Fits, Nat.mul_eq] at this ⊢
      omega
/-- What a row's argument is, read. -/
def JobsArg (w : World) (v : Value) : Prop :=
  v = .slice none 0 0 ∨ (∃ a, v = .slice (some a) 0 0) ∨ ∃ (b o c : Nat) (x : Array Value) (e : TypeId) (fz : Nat × Nat) (J : List JobR), v = .slice (some ⟨b, o, none⟩) J.length c ∧ w.heap[b]? = some (.cells x e fz) ∧ Fits J.length ∧
      ∀ (k : Nat) (h : k < J.length), (x[o + k * 4]? = some (.int .i64 J[k].len) ∧ x[o + (k * 4 + 1)]? = some (.int .i64 J[k].urg) ∧ x[o + (k * 4 + 2)]? = some (.slice J[k].sA J[k].after.length J[k].sc) ∧ x[o + (k * 4 + 3)]? = some (.int .i64 J[k].n)) ∧
        CellN w (.slice J[k].sA J[k].after.length J[k].sc) (ints J[k].after) ∧ J[k].after.length ≤ J[k].sc ∧ Fits J[k].after.length
theorem jobs_readN {H : Type} {enc : TypeId × Value → H} {w : World} {base : Nat} {held : Bool} {fuel : Nat} {v : Value} {y : DataW H × List MemPlace}
    (h : DataW.trod enc Try.prog w base (fun _ => true) held fuel 34 [v] = some y) (hz : ∀ n ∈ y.1.weights Try.prog 34, n ≤ reachBytes) : JobsArg w v := by
  rcases open_slice_fields Try.underlying34 Try.underlying41 (by kernel_rfl) (by kernel_rfl) h with ⟨hcs, hx⟩ | ⟨a, len, cap, m, D, Pl, hcs, _, hl, hm, hmm, hx, hi⟩
  · simp at hcs
    exact .inl hcs
  · simp at hcs
    subst hcs
    simp only [if_true] at hmm
    subst hmm
    subst hx
    by_cases hm0 : m = 0
    · obtain rfl : len = 0 := by omega
      subst hm0
      exact .inr (.inl ⟨a, rfl⟩)
    have hzl := hz ((((List.range len).map D).length + ((List.range (m - len)).map fun j => D (len + j)).length) * Try.prog.bytesOf 41) (by simp [DataW.weights, Try.underlying34])
    rw [show Try.prog.bytesOf 41 = 48 by kernel_rfl] at hzl
    simp only [List.length_map, List.length_range, reachBytes] at hzl
    have hze : ∀ i, i < len → ∀ n ∈ (D i).weights Try.prog 41, n ≤ reachBytes := fun i hil n hn => hz n (by
      simp only [DataW.weights, Try.underlying34, List.mem_cons, List.mem_append]
      exact .inr (.inl (weights_all (List.mem_map.2 ⟨i, List.mem_range.2 hil, rfl⟩) n hn)))
    have each : ∀ i, i < len → ∃ j : JobR, (w.cell? (a.add (i * 4)) = some (.int .i64 j.len) ∧ w.cell? (a.add (i * 4 + 1)) = some (.int .i64 j.urg) ∧
        w.cell? (a.add (i * 4 + 2)) = some (.slice j.sA j.after.length j.sc) ∧ w.cell? (a.add (i * 4 + 3)) = some (.int .i64 j.n)) ∧ CellN w (.slice j.sA j.after.length j.sc) (ints j.after) ∧ j.after.length ≤ j.sc ∧ Fits j.after.length := fun i hil => by
      obtain ⟨ys, n, hD, _, hyl, hf⟩ := hi i (by omega)
      obtain ⟨v0, y0, c0, hy0, t0⟩ := hf 0 _ rfl
      obtain ⟨v1, y1, c1, hy1, t1⟩ := hf 1 _ rfl
      obtain ⟨v2, y2, c2, hy2, t2⟩ := hf 2 _ rfl
      obtain ⟨v3, y3, c3, hy3, t3⟩ := hf 3 _ rfl
      obtain ⟨n0, e0, -, -⟩ := DataW.trod_int (Try.underlying3) t0
      obtain ⟨n1, e1, -, -⟩ := DataW.trod_int (Try.underlying3) t1
      obtain ⟨n3, e3, -, -⟩ := DataW.trod_int (Try.underlying2) t3
      simp only [List.cons.injEq, and_true] at e0 e1 e3
      subst e0 e1 e3
      obtain ⟨A2, cc, zs, rfl, hrd, hle, hfit⟩ := ints_readN t2 (fun n hn => hze i hil n (by
        rw [hD]
        simp only [DataW.weights, Try.underlying41]
        refine DataW.weights_mem_each (j := 2) rfl ?_ n hn
        simp [hy2]))
      exact ⟨⟨n0, n1, n3, A2, cc, zs⟩, ⟨c0, c1, c2, c3⟩, hrd, hle, hfit⟩
    obtain ⟨J, hJ, hp⟩ := list_of_each each
    obtain ⟨ys, n, hD, _, hyl, hf⟩ := hi 0 (by omega)
    obtain ⟨v0, y0, c0, -, -⟩ := hf 0 _ rfl
    obtain ⟨hs, x, e, fz, hx, _⟩ := cell_row c0
    obtain ⟨b, o, sp⟩ := a
    have hs' : sp = none := by simpa [Addr.add] using hs
    subst hs'
    rw [add_block] at hx
    refine .inr (.inr ⟨b, o, m, x, e, fz, J, by rw [hJ], hx, by rw [hJ]; simp only [Fits]; omega, fun k hk => ?_⟩)
    obtain ⟨⟨q0, q1, q2, q3⟩, r1, r2, r3⟩ := hp k hk
    rw [Addr.add_lit'] at q0 q1 q2 q3
    simp only [World.cell?, hx, Option.isSome_none, Bool.false_eq_true, if_false] at q0 q1 q2 q3
    exact ⟨⟨q0, q1, q2, q3⟩, r1, r2, r3⟩
theorem no_globals : Try.prog.globals.size = 0 := by kernel_rfl
def inP (N i : Nat) (A : Option Addr) (c : Nat) : Option Addr := match A with
  | none => none
  | some _ => if c = 0 then some ⟨0, 0, some 0⟩ else some ⟨N + 1 + i, 0, none⟩
theorem loneV_sl (N i n c : Nat) (A : Option Addr) (h : n ≤ c) : loneV N i (.slice A n c) = .slice (inP N i A c) n c := by
  cases A with
  | none => rfl
  | some a =>
    simp only [loneV, inP]
    split
    · rename_i h0
      subst h0
      simp only [Nat.le_zero] at h
      rw [h]
    · rfl
theorem cellN_ne {W : World} {A : Option Addr} {n c : Nat} {cs : List Value} (h : CellN W (.slice A n c) cs) (hne : cs ≠ []) : (∃ a, A = some a) ∧ c ≠ 0 := by
  cases h with
  | bare _ => exact absurd rfl hne
  | void _ => exact absurd rfl hne
  | row b o l c cs hc _ _ => exact ⟨⟨_, rfl⟩, hc⟩
/-- A job's cells, with what they name. -/
def cellsJ (y : JobR) : List (Value × List Value) := [(.int .i64 y.len, []), (.int .i64 y.urg, []), (.slice y.sA y.after.length y.sc, ints y.after), (.int .i64 y.n, [])]
theorem flatJ_len (J : List JobR) : (J.flatMap cellsJ).length = J.length * 4 := by
  induction J with
  | nil => rfl
  | cons a l ih => rw [List.flatMap_cons, List.length_append, ih, List.length_cons]; simp [cellsJ]; omega
theorem flatJ_at : ∀ (J : List JobR) (k : Nat) (h : k < J.length) (i : Nat), i < 4 → (J.flatMap cellsJ)[k * 4 + i]? = (cellsJ J[k])[i]?
  | a :: l, 0, _, i, hi => by rw [List.flatMap_cons, List.getElem?_append_left (by simp [cellsJ]; omega)]; simp
  | a :: l, k + 1, h, i, hi => by
    rw [List.flatMap_cons, List.getElem?_append_right (by simp [cellsJ]; omega)]
    have := flatJ_at l k (by simpa using h) i hi
    rw [show (k + 1) * 4 + i - (cellsJ a).length = k * 4 + i by simp [cellsJ]; omega, this]
    rfl
theorem rdJobs_nil (w : World) (B : Nat) (A : Option Addr) : RdJobs w B A [] := ⟨fun h => absurd rfl h, fun k h => absurd h (by simp), fun k h => absurd h (by simp), by simp [Fits]⟩
theorem jobs_imp {W : World} {v : Value} (h : JobsArg W v) : ∃ (A : Option Addr) (n c : Nat) (J : List JobR) (ρ : Ren) (k : LK) (L : World), Mir (InV grL grV) Try.prog ρ k L W ∧ VR (InV grL grV) ρ (.slice A n c) v ∧ RdJobs L L.heap.size A J ∧ J.length = n ∧
    (∀ l, k.W l → False) ∧ ∀ l, k.R l → MemLoc W.heap.size l := by
  rcases h with rfl | ⟨a, rfl⟩ | ⟨b, o, c, x, e, fz, J, rfl, hW, hfit, hJ⟩
  · exact ⟨none, 0, 0, [], renNone Try.prog badTy, LK.nil, blank Try.prog badTy W, mir_none bad_ty (by rw [no_globals]; exact Nat.zero_le _) LK.nil, .nilSlice _ _, rdJobs_nil _ _ _, rfl, fun l hl => hl, fun l hl => hl.elim⟩
  · exact ⟨some ⟨0, 0, some 0⟩, 0, 0, [], renNone Try.prog badTy, LK.nil, blank Try.prog badTy W, mir_none bad_ty (by rw [no_globals]; exact Nat.zero_le _) LK.nil, .void _ _ _ _, rdJobs_nil _ _ _, rfl, fun l hl => hl, fun l hl => hl.elim⟩
  · obtain ⟨l, hldef⟩ : ∃ l : List (Value × List Value), J.flatMap cellsJ = l := ⟨_, rfl⟩
    have hl : ∀ (k : Nat) (h : k < J.length) (i : Nat), i < 4 → l[k * 4 + i]? = (cellsJ J[k])[i]? := fun k hk i hi => by subst hldef; exact flatJ_at J k hk i hi
    have hll : l.length = J.length * 4 := by subst hldef; exact flatJ_len J
    have hm : Mir (InV grL grV) Try.prog (renP Try.prog badTy (plN b o l) (plN_ok no_globals b o l)) (readAll W.heap.size) (partsW Try.prog badTy (rowsN Try.prog.globals.size l) W) W := mir_n bad_ty no_globals hW fun i v cs hi => by
      have hi' : i < J.length * 4 := by rw [← hll]; exact (List.getElem?_eq_some_iff.1 hi).1
      obtain ⟨k, j, hk, hj, rfl⟩ : ∃ k j, k < J.length ∧ j < 4 ∧ i = k * 4 + j := ⟨i / 4, i % 4, by omega, by omega, by omega⟩
      rw [hl k hk j hj] at hi
      obtain ⟨⟨q0, q1, q2, q3⟩, r1, r2, r3⟩ := hJ k hk
      obtain rfl | rfl | rfl | rfl : j = 0 ∨ j = 1 ∨ j = 2 ∨ j = 3 := by omega
      · simp only [cellsJ, List.getElem?_cons_zero, Option.some.injEq, Prod.mk.injEq] at hi
        obtain ⟨rfl, rfl⟩ := hi
        exact ⟨q0, .bare (.int _ _)⟩
      · simp only [cellsJ, List.getElem?_cons_succ, List.getElem?_cons_zero, Option.some.injEq, Prod.mk.injEq] at hi
        obtain ⟨rfl, rfl⟩ := hi
        exact ⟨q1, .bare (.int _ _)⟩
      · simp only [cellsJ, List.getElem?_cons_succ, List.getElem?_cons_zero, Option.some.injEq, Prod.mk.injEq] at hi
        obtain ⟨rfl, rfl⟩ := hi
        exact ⟨q2, r1⟩
      · simp only [cellsJ, List.getElem?_cons_succ, List.getElem?_cons_zero, Option.some.injEq, Prod.mk.injEq] at hi
        obtain ⟨rfl, rfl⟩ := hi
        exact ⟨q3, .bare (.int _ _)⟩
    refine ⟨some ⟨Try.prog.globals.size, 0, none⟩, J.length, c, J.mapIdx fun i x => ⟨x.len, x.urg, x.n, inP Try.prog.globals.size (i * 4 + 2) x.sA x.sc, x.sc, x.after⟩, _, _, _, hm, nameN no_globals l _ _, ?_, by simp, fun l hl => hl, ?_⟩
    · refine ⟨fun _ => ⟨Try.prog.globals.size, 0, rfl, by rw [sizeN]; omega, fun k hk => ?_⟩, fun k hk => ?_, fun k hk => ?_, by simpa using hfit⟩
      · have hk' : k < J.length := by simpa using hk
        have o0 := cellN_outer (P := Try.prog) (bad := badTy) (W := W) l (hl k hk' 0 (by omega))
        have o1 := cellN_outer (P := Try.prog) (bad := badTy) (W := W) l (hl k hk' 1 (by omega))
        have o2 := cellN_outer (P := Try.prog) (bad := badTy) (W := W) l (hl k hk' 2 (by omega))
        have o3 := cellN_outer (P := Try.prog) (bad := badTy) (W := W) l (hl k hk' 3 (by omega))
        rw [loneV_sl _ _ _ _ _ (hJ k hk').2.2.1] at o2
        simp only [List.getElem_mapIdx, Nat.zero_add]
        exact ⟨o0, o1, o2, o3⟩
      · have hk' : k < J.length := by simpa using hk
        simp only [List.getElem_mapIdx]
        intro hne
        obtain ⟨⟨a, hA⟩, hc0⟩ := cellN_ne (hJ k hk').2.1 hne
        refine ⟨Try.prog.globals.size + 1 + (k * 4 + 2), 0, by simp only [inP, hA, if_neg hc0], by rw [sizeN, hll]; omega, fun i u hi => ?_⟩
        rw [Nat.zero_add]
        exact cellN_inner l (hl k hk' 2 (by omega)) hi
      · have hk' : k < J.length := by simpa using hk
        simp only [List.getElem_mapIdx]
        exact (hJ k hk').2.2.2
    · rintro l ⟨b, i, rfl, hb⟩
      exact hb
end Go.Proofs.Yticdjkkcfdbdcaa
