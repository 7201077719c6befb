/- What ScanCuts leans on: the last of prefixes, cut in two (plain); the reference's Rest; a slice, a row of two. No conditions but those named. -/
import Derived.Test.YtnabgoljnfaebaaMLaw
namespace Go.Proofs.Ytnabgoljnfaebaa
open Go.Conc Go.ConcN Go.RowKit Go.ChangeShapes Go.WideShapes Go.ChangeAt
theorem last_get {l : List Int} (h : l ≠ []) : l[l.length - 1]? = some (l.getLastD 0) := by
  have hl := List.length_pos_iff.2 h
  rw [List.getElem?_eq_getElem (by omega), List.getLastD_eq_getLast?, List.getLast?_eq_some_getLast h, List.getLast_eq_getElem]
  rfl
theorem scanI_ne {op : Int} {l : List Int} (h : l ≠ []) : scanI op l ≠ [] := fun e => by
  have := scanI_length op l
  rw [e] at this
  exact h (List.eq_nil_of_length_eq_zero this.symm)
theorem reduce_last {op : Int} {l : List Int} (h : l ≠ []) : (scanI op l)[l.length - 1]? = some (reduceI op l) := by
  have := last_get (scanI_ne (op := op) h)
  rw [scanI_length] at this
  rw [this, reduceI, if_neg h]
theorem reduce_take {op : Int} {xs : List Int} {k : Nat} (h0 : 0 < k) (hk : k ≤ xs.length) : (scanI op xs)[k - 1]? = some (reduceI op (xs.take k)) := by
  have hu : xs.take k ≠ [] := fun e => by have := congrArg List.length e; rw [List.length_take, List.length_nil] at this; omega
  have hl : (xs.take k).length = k := by simp; omega
  have := reduce_last (op := op) hu
  rw [hl] at this
  have e : scanI op xs = scanI op (xs.take k) ++ (scanI op (xs.drop k)).map (two op ((scanI op (xs.take k)).getLastD 0)) := by
    rw [← scanI_append op hu, List.take_append_drop]
  rw [e, List.getElem?_append_left (by rw [scanI_length, hl]; omega)]
  exact this
theorem reduce_two (op x y : Int) : reduceI op [x, y] = two op x y := by
  unfold reduceI
  rw [if_neg (by simp)]
  rfl
theorem reduce_cut {op : Int} {xs : List Int} {k : Nat} (h0 : 0 < k) (hk : k < xs.length) : two op (reduceI op (xs.take k)) (reduceI op (xs.drop k)) = reduceI op xs := by
  have hu : xs.take k ≠ [] := fun e => by have := congrArg List.length e; rw [List.length_take, List.length_nil] at this; omega
  have hv : xs.drop k ≠ [] := fun e => by have := congrArg List.length e; rw [List.length_drop, List.length_nil] at this; omega
  have hx : xs ≠ [] := fun e => by subst e; simp at hk
  have e : scanI op xs = scanI op (xs.take k) ++ (scanI op (xs.drop k)).map (two op ((scanI op (xs.take k)).getLastD 0)) := by
    rw [← scanI_append op hu, List.take_append_drop]
  unfold reduceI
  rw [if_neg hu, if_neg hv, if_neg hx, e]
  have hs := scanI_ne (op := op) hv
  rw [List.getLastD_eq_getLast? (l := _ ++ _), List.getLast?_append, List.getLast?_map, List.getLastD_eq_getLast? (l := scanI op (xs.drop k)), List.getLast?_eq_some_getLast hs]
  rfl
theorem tmod_gen (a m : Int) (hm : 0 < m) : a.tmod m = if 0 ≤ a then a % m else -((-a) % m) := by
  split
  · exact Int.tmod_eq_emod_of_nonneg (by assumption)
  · have h := Int.neg_tmod (a := -a) (b := m)
    rw [Int.neg_neg] at h
    rw [h, Int.tmod_eq_emod_of_nonneg (by omega)]
theorem restR_s (a m : Int) (w : World) (ha : I64 a) (hm : 0 < m) (hm2 : I64 m) : Calls Try.prog 10 #[.int .i64 a, .int .i64 m] w fun e w' => e = .returned (.int .i64 (a % m)) ∧ w = w' := by
  have hm0 : (m == 0) = false := by simp; omega
  have h0 : 0 ≤ a % m := Int.emod_nonneg _ (by omega)
  have h1 : a % m < m := Int.emod_lt_of_pos _ hm
  have h0' : 0 ≤ (-a) % m := Int.emod_nonneg _ (by omega)
  have h1' : (-a) % m < m := Int.emod_lt_of_pos _ hm
  have ht := tmod_gen a m hm
  have hn : ¬ 0 ≤ a → a % m = if (-a) % m = 0 then 0 else m - (-a) % m := fun _ => by
    have := Int.neg_emod (a := -a) (b := m)
    rw [Int.neg_neg] at this
    rw [this]
    by_cases hd : m ∣ -a
    · rw [if_pos hd, if_pos (Int.emod_eq_zero_of_dvd hd)]
    · rw [if_neg hd, if_neg (fun h => hd (Int.dvd_of_emod_eq_zero h))]
      omega
  obtain ⟨r, hr⟩ : ∃ r, r = a.tmod m := ⟨_, rfl⟩
  have hrb : I64 r := by rw [hr, ht]; unfold I64 at *; split <;> omega
  have hfin : r < 0 → wrap64 (r + m) = a % m := fun hneg => by
    rw [w64 (by unfold I64 at *; omega)]
    rw [ht] at hr
    split at hr
    · omega
    · rename_i hna
      have := hn hna
      split at this <;> omega
  have hfin2 : ¬ r < 0 → r = a % m := fun hneg => by
    rw [ht] at hr
    split at hr
    · exact hr
    · rename_i hna
      have := hn hna
      split at this <;> omega
  have hw : wrap64 (a.tmod m) = r := by rw [← hr]; exact w64 hrb
  have H := Lib.hid (And.intro hfin (And.intro hfin2 hrb)); clear hfin hfin2 hrb hn ht h0 h1 h0' h1' ha
  by_cases hneg : r < 0
  · go_enter Try.func10, Try.ntmps10
    go_wp2
    all_goals go_ret
    exact ⟨retInt (by rw [← hr]; exact H.out.1 hneg), rfl⟩
  · go_enter Try.func10, Try.ntmps10
    go_wp2
    all_goals go_ret
    exact ⟨retInt (by rw [← hr]; exact H.out.2.1 hneg), rfl⟩
section
variable {P : Program}
theorem addr_zero (a : Addr) : a.add 0 = a := by cases a; rfl
variable {t : TypeId} {s : Nat} (ht : P.underlying t = some (.slice (P.elem t))) (hs : ∀ w, (sizeOf (P.elem t)).run P w = .ok s w)
include ht hs
theorem run_sl_hm (e : Operand → Value) (o : Oper) {x hi mx : Operand} {p : Option Addr} {n c k : Nat} (hop : o.op = .slice t x none (some hi) (some mx)) (hx : e x = .slice p n c) (h1 : e hi = .int .i64 k) (h2 : e mx = .int .i64 k) (hk : k ≤ c) (w : World) :
    (execOp e o).run P w = .ok (.value (.slice p k k)) w := by
  have hp : (if k = 0 then p else Option.map (fun x => x.add (0 * s)) p) = p := by
    split
    · rfl
    · cases p <;> simp [addr_zero]
  simp [go_sem, execOp, hop, hx, h1, h2]
  rw [run_sliceAt_slice _ _ _ _ _ _ ht, run_slice_hm _ _ _ _ _ ht _ _ _ _ (show (0 : Int) ≤ k by omega) (Int.le_refl _) (show (k : Int) ≤ c by omega), hs]
  simp only [Result.andThen, sliced, Int.toNat_natCast, Nat.sub_zero, hp]
theorem run_sl_l (e : Operand → Value) (o : Oper) {x lo : Operand} {b d : Nat} {n c k : Nat} (hop : o.op = .slice t x (some lo) none none) (hx : e x = .slice (some ⟨b, d, none⟩) n c) (h1 : e lo = .int .i64 k) (hk : k ≤ n) (hc : k < c) (w : World) :
    (execOp e o).run P w = .ok (.value (.slice (some ⟨b, d + k * s, none⟩) (n - k) (c - k))) w := by
  have hp : (if c = k then some (⟨b, d, none⟩ : Addr) else Option.map (fun x => x.add (k * s)) (some (⟨b, d, none⟩ : Addr))) = some ⟨b, d + k * s, none⟩ := by
    rw [if_neg (by omega)]
    show some ((⟨b, d, none⟩ : Addr).add (k * s)) = _
    unfold Addr.add
    split
    · rename_i hz; rw [hz]; rfl
    · rfl
  simp [go_sem, execOp, hop, hx, h1]
  rw [run_sliceAt_slice _ _ _ _ _ _ ht, run_slice_l _ _ _ _ _ ht _ _ (show (0 : Int) ≤ k by omega) (show (k : Int) ≤ n by omega), hs]
  simp only [Result.andThen, sliced, Int.toNat_natCast, hp]
end
theorem run_bs2 (e : Operand → Value) (o : Oper) {x y : Operand} {a b : Int} (hop : o.op = .buildSlice 22 2 #[(0, x), (1, y)]) (h1 : e x = .int .i64 a) (h2 : e y = .int .i64 b) (w : World) :
    (execOp e o).run Try.prog w = .ok (.value (.slice (some ⟨w.heap.size, 0, none⟩) 2 2)) (w.alloc (.cells #[.int .i64 a, .int .i64 b] 2)) := by
  simp [go_sem, execOp, hop, h1, h2]
theorem size_i64 (w : World) : (sizeOf (Try.prog.elem 22)).run Try.prog w = .ok 1 w := by simp [go_sem]
theorem elem_i64 : Try.prog.underlying 22 = some (.slice (Try.prog.elem 22)) := by kernel_rfl
section
variable {S : FuncId → Prop} {P : Program} {J : LK → Goroutine → World → Prop} {main : Bool} {R : LK → World → World → Prop}
theorem MpOps.val' (hJ : JOk P main R J) (hb : Bodies S P) {fn : FuncId} {ops : Array Oper} {i : Nat} {rest : List Nat} {o : Oper} {up : Bool} {Q : Exit → Act → World → Prop} {a : Act} {L : World} {v : Value} (ho : ops[i]? = some o) (hw : Region.wanted o (yielded ops a.tmps) = true) (hok : okOp S P o.op)
    (hop : ∀ w, (execOp a.eval o).run P w = .ok (.value v) w) (h : MpOps S P J fn ops rest up Q (a.put o.dst v) L) : MpOps S P J fn ops (i :: rest) up Q a L :=
  MpOps.op hJ hb ho hw hok fun T => ⟨{ L with tape := T }, .inl ⟨v, hop _, MpOps.tape (L := L) (L' := { L with tape := T }) rfl h⟩⟩
theorem MpOps.new (hJ : JOk P main R J) (hb : Bodies S P) {fn : FuncId} {ops : Array Oper} {i : Nat} {rest : List Nat} {o : Oper} {up : Bool} {Q : Exit → Act → World → Prop} {a : Act} {L : World} {v : Value} {x : Obj} (ho : ops[i]? = some o) (hw : Region.wanted o (yielded ops a.tmps) = true) (hok : okOp S P o.op)
    (hop : ∀ w : World, w.heap.size = L.heap.size → (execOp a.eval o).run P w = .ok (.value v) (w.alloc x)) (h : MpOps S P J fn ops rest up Q (a.put o.dst v) (L.alloc x)) : MpOps S P J fn ops (i :: rest) up Q a L :=
  MpOps.op hJ hb ho hw hok fun T => ⟨({ L with tape := T } : World).alloc x, .inl ⟨v, hop _ rfl, MpOps.tape (L := L.alloc x) rfl h⟩⟩
end
end Go.Proofs.Ytnabgoljnfaebaa
