/- Lists of lists of Dos as an argument are read: what the reading says of memory, for a row. No conditions. -/
import Derived.Test.YticdjkkcfdbdcaaPhD
import Derived.Test.YticdjkkcfdbdcaaPhC
import Derived.Test.YticdjkkcfdbdcaaImpN
import Derived.Deep.Slices
import Derived.Deep.Fields
import Derived.ChangeSame
import Derived.SizedLaws
import Derived.OpenShut
import Derived.Test.YticdjkkcfdbdcaaPhLa
import Derived.Test.YticdjkkcfdbdcaaImp
namespace Go.Proofs.Yticdjkkcfdbdcaa
open Go.ChangeShapes Go.WideShapes Go.ChangeAt Go.RowKit Go.Deep
section
variable {H : Type} {enc : TypeId × Value → H} {P : Program} {w : World} {base : Nat} {spare : Nat → Bool} {held : Bool}
theorem open_slice_fields {t e : TypeId} {fs : Array Field} {fuel : Nat} {cs : List Value} {x : DataW H × List MemPlace} (ht : P.underlying t = some (.slice e)) (he : P.underlying e = some (.struct fs))
    (hone : oneCellFields P fs = true) (hC : P.cellsOf e = fs.size) (h : DataW.trod enc P w base spare held fuel t cs = some x) :
    (cs = [.slice none 0 0] ∧ x = (.nil, [])) ∨
    ∃ (a : Addr) (len cap m : Nat) (D : Nat → DataW H) (Pl : Nat → List MemPlace), cs = [.slice (some a) len cap] ∧ base ≤ a.block ∧ len ≤ cap ∧ cap ≤ maxLen ∧ m = (if spare a.block then cap else len) ∧
      x = (.slice ((List.range len).map D) ((List.range (m - len)).map fun j => D (len + j)), MemPlace.row a (m * fs.size) ++ (List.range m).flatMap Pl) ∧
      ∀ i, i < m → ∃ (ys : List (DataW H × List MemPlace)) (n : Nat), D i = .agg (ys.map (·.1)) ∧ Pl i = ys.flatMap (·.2) ∧ ys.length = fs.size ∧
        ∀ (j : Nat) (f : Field), fs[j]? = some f → ∃ (v : Value) (y : DataW H × List MemPlace), w.cell? (a.add (i * fs.size + j)) = some v ∧ ys[j]? = some y ∧ DataW.trod enc P w base spare held n f.type [v] = some y := by
  rcases open_slice ht h with h0 | ⟨a, len, cap, m, n, D, Pl, hcs, hb, hl, hm, hmm, hx, hi⟩
  · exact .inl h0
  · refine .inr ⟨a, len, cap, m, D, Pl, hcs, hb, hl, hm, hmm, by rw [hC] at hx; exact hx, fun i him => ?_⟩
    obtain ⟨cs', hc, ht'⟩ := hi i him
    rw [hC] at hc
    obtain ⟨ys, n', hn', hy, hlen, hyl, hf⟩ := DataW.trod_struct he ht'
    obtain ⟨_, hcl, hat⟩ := World.cells?_some hc
    simp only [Prod.mk.injEq] at hy
    refine ⟨ys, n', hy.1, hy.2, hyl, fun j f hj => ?_⟩
    obtain ⟨ho, hk⟩ := hone_of hone j f hj
    have hjl : j < fs.size := (Array.getElem?_eq_some_iff.1 hj).1
    have hcell := hat j hjl
    have hv : cs'[j]? = some (cs'[j]'(by omega)) := List.getElem?_eq_getElem (by omega)
    have h1 := hf j f hj
    rw [ho, hk] at h1
    have hone' : (cs'.drop j).take 1 = [cs'[j]'(by omega)] := by
      rw [List.drop_eq_getElem_cons (by omega)]
      rfl
    rw [hone'] at h1
    have hys : ys[j]? = some (ys[j]'(by omega)) := List.getElem?_eq_getElem (by omega)
    refine ⟨_, _, ?_, hys, h1.trans hys⟩
    rw [← Go.Deep.add_add, hcell, hv]
end
theorem cell_block_lt {w : World} {p : Addr} {v : Value} (h : w.cell? p = some v) : p.block < w.heap.size := by
  rcases Nat.lt_or_ge p.block w.heap.size with hl | hl
  · exact hl
  · simp [World.cell?, Array.getElem?_eq_none hl] at h
theorem list_of_each {α : Type} {p : Nat → α → Prop} : ∀ {n : Nat}, (∀ i, i < n → ∃ x, p i x) → ∃ l : List α, l.length = n ∧ ∀ (k : Nat) (h : k < l.length), p k l[k]
  | 0, _ => ⟨[], rfl, fun k h => absurd h (by simp)⟩
  | n + 1, h => by
    obtain ⟨l, hl, hp⟩ := list_of_each (p := p) (n := n) fun i hi => h i (by omega)
    obtain ⟨x, hx⟩ := h n (by omega)
    refine ⟨l ++ [x], by simp [hl], fun k hk => ?_⟩
    rw [List.length_append, List.length_singleton] at hk
    by_cases e : k < l.length
    · rw [List.getElem_append_left e]; exact hp k e
    · obtain rfl : k = n := by omega
      rw [List.getElem_append_right (by omega)]
      simpa [hl] using hx
theorem weights_all {H : Type} {P : Program} {e : TypeId} : ∀ {ds : List (DataW H)} {d : DataW H}, d ∈ ds → ∀ n ∈ d.weights P e, n ∈ DataW.weightsAll P e ds
  | x :: r, d, hd, n, hn => by
    simp only [DataW.weightsAll, List.mem_append]
    rcases List.mem_cons.1 hd with rfl | h
    · exact .inl hn
    · exact .inr (weights_all h n hn)

theorem cell_row {w : World} {a : Addr} {v : Value} (h : w.cell? a = some v) : a.spot = none ∧ ∃ x e fz, w.heap[a.block]? = some (.cells x e fz) ∧ x[a.off]? = some v := by
  refine ⟨World.cell?_spot h, ?_⟩
  unfold World.cell? at h
  split at h
  · rename_i x e fz hx
    split at h
    · cases h
    · exact ⟨x, e, fz, hx, h⟩
  · cases h
/-- One list, read. -/
theorem dos_read1 {H : Type} {enc : TypeId × Value → H} {w : World} {base : Nat} {held : Bool} {fuel : Nat} {v : Value} {y : DataW H × List MemPlace}
    (h : DataW.trod enc Try.prog w base (fun _ => true) held fuel 32 [v] = some y) (hz : ∀ n ∈ y.1.weights Try.prog 32, n ≤ reachBytes) :
    ∃ x : DosR, v = .slice x.A x.ds.length x.c ∧ CellN w v (cellsD x.ds) ∧ x.ds.length ≤ x.c ∧ Fits x.ds.length := by
  rcases open_slice_fields Try.underlying32 Try.underlying31 (by kernel_rfl) (by kernel_rfl) h with ⟨hcs, hx⟩ | ⟨a, len, cap, m, D, Pl, hcs, _, hl, hm, hmm, hx, hi⟩
  · simp at hcs
    subst hcs
    exact ⟨⟨none, 0, []⟩, rfl, .bare (.nilSlice _ _), Nat.le_refl _, by simp [Fits]⟩
  · simp at hcs
    subst hcs
    simp only [if_true] at hmm
    subst hmm
    subst hx
    have hzl := hz ((((List.range len).map D).length + ((List.range (m - len)).map fun j => D (len + j)).length) * Try.prog.bytesOf 31) (by simp [DataW.weights, Try.underlying32])
    rw [show Try.prog.bytesOf 31 = 24 by kernel_rfl] at hzl
    simp only [List.length_map, List.length_range, reachBytes] at hzl
    have each : ∀ i, i < m → ∃ j : DoR, w.cell? (a.add (i * 3)) = some (.int .i64 j.kind) ∧ w.cell? (a.add (i * 3 + 1)) = some (.int .i64 j.to) ∧ w.cell? (a.add (i * 3 + 2)) = some (.int .i64 j.n) := fun i hil => by
      obtain ⟨ys, n, hD, _, hyl, hf⟩ := hi i hil
      obtain ⟨v0, y0, c0, hy0, t0⟩ := hf 0 _ rfl
      obtain ⟨v1, y1, c1, hy1, t1⟩ := hf 1 _ rfl
      obtain ⟨v2, y2, c2, hy2, t2⟩ := hf 2 _ rfl
      obtain ⟨n0, e0, -, -⟩ := DataW.trod_int (Try.underlying3) t0
      obtain ⟨n1, e1, -, -⟩ := DataW.trod_int (Try.underlying3) t1
      obtain ⟨n2, e2, -, -⟩ := DataW.trod_int (Try.underlying2) t2
      simp only [List.cons.injEq, and_true] at e0 e1 e2
      subst e0 e1 e2
      exact ⟨⟨n0, n1, n2⟩, c0, c1, c2⟩
    obtain ⟨J, hJ, hp⟩ := list_of_each each
    have hlen : (J.take len).length = len := by rw [List.length_take, hJ]; omega
    refine ⟨⟨some a, m, J.take len⟩, by simp only [hlen], ?_, by simp only [hlen]; exact hl, by simp only [hlen, Fits]; omega⟩
    by_cases hm0 : m = 0
    · obtain rfl : len = 0 := by omega
      subst hm0
      simp only [List.take_zero, cellsD, List.flatMap_nil]
      exact .void a
    · have hc0 := (hp 0 (by omega)).1
      obtain ⟨hs, x, e, fz, hx, _⟩ := cell_row hc0
      obtain ⟨b, o, sp⟩ := a
      have hs' : sp = none := by simpa [Addr.add] using hs
      subst hs'
      rw [add_block] at hx
      refine .row b o len m _ hm0 ⟨x, e, fz, hx, fun j u hu => ?_⟩ fun u hu => ?_
      · have hjl : j < len * 3 := by
          have := (List.getElem?_eq_some_iff.1 hu).1
          rw [cellsD_length, hlen] at this
          exact this
        have hk : j / 3 < (J.take len).length := by rw [hlen]; omega
        have hk2 : j / 3 < J.length := by omega
        obtain ⟨q0, q1, q2⟩ := hp (j / 3) hk2
        obtain ⟨r0, r1, r2⟩ := cellsD_at (J.take len) (j / 3) hk
        rw [Addr.add_lit'] at q0 q1 q2
        simp only [World.cell?, hx, Option.isSome_none, Bool.false_eq_true, if_false] at q0 q1 q2
        simp only [List.getElem_take] at r0 r1 r2
        obtain h3 | h3 | h3 : j % 3 = 0 ∨ j % 3 = 1 ∨ j % 3 = 2 := by omega
        · rw [show j = j / 3 * 3 by omega] at hu ⊢
          rw [q0, ← r0, hu]
        · rw [show j = j / 3 * 3 + 1 by omega] at hu ⊢
          rw [q1, ← r1, hu]
        · rw [show j = j / 3 * 3 + 2 by omega] at hu ⊢
          rw [q2, ← r2, hu]
      · obtain ⟨i, hi'⟩ := List.getElem?_of_mem hu
        obtain ⟨n, rfl⟩ := cellsD_inv hi'
        exact .int _ _
/-- The lists, read. -/
theorem dos_read {H : Type} {enc : TypeId × Value → H} {w : World} {base : Nat} {held : Bool} {fuel : Nat} {v : Value} {y : DataW H × List MemPlace}
    (h : DataW.trod enc Try.prog w base (fun _ => true) held fuel 22 [v] = some y) (hz : ∀ n ∈ y.1.weights Try.prog 22, n ≤ reachBytes) :
    v = .slice none 0 0 ∨ (∃ a, v = .slice (some a) 0 0) ∨ ∃ (b o c : Nat) (x : Array Value) (e : TypeId) (fz : Nat × Nat) (D : List DosR), v = .slice (some ⟨b, o, none⟩) D.length c ∧ w.heap[b]? = some (.cells x e fz) ∧ Fits D.length ∧
      ∀ (k : Nat) (h : k < D.length), x[o + k]? = some (.slice D[k].A D[k].ds.length D[k].c) ∧ CellN w (.slice D[k].A D[k].ds.length D[k].c) (cellsD D[k].ds) ∧ D[k].ds.length ≤ D[k].c ∧ Fits D[k].ds.length := by
  rcases open_slice1 Try.underlying22 (by kernel_rfl) h with ⟨hcs, hx⟩ | ⟨a, len, cap, m, n, V, D, Pl, hcs, _, hl, hm, hmm, hx, hi⟩
  · simp at hcs
    exact .inl hcs
  · simp at hcs
    subst hcs
    simp only [if_true] at hmm
    subst hmm
    subst hx
    by_cases hm0 : m = 0
    · obtain rfl : len = 0 := by omega
      subst hm0
      exact .inr (.inl ⟨a, rfl⟩)
    · have hzl := hz ((((List.range len).map D).length + ((List.range (m - len)).map fun j => D (len + j)).length) * Try.prog.bytesOf 32) (by simp [DataW.weights, Try.underlying22])
      rw [show Try.prog.bytesOf 32 = 24 by kernel_rfl] at hzl
      simp only [List.length_map, List.length_range, reachBytes] at hzl
      have each : ∀ i, i < len → ∃ j : DosR, w.cell? (a.add i) = some (.slice j.A j.ds.length j.c) ∧ CellN w (.slice j.A j.ds.length j.c) (cellsD j.ds) ∧ j.ds.length ≤ j.c ∧ Fits j.ds.length := fun i hil => by
        obtain ⟨c0, t0⟩ := hi i (by omega)
        obtain ⟨x, e, q1, q2, q3⟩ := dos_read1 t0 (fun n hn => hz n (by
          simp only [DataW.weights, Try.underlying22, List.mem_cons, List.mem_append]
          exact .inr (.inl (weights_all (List.mem_map.2 ⟨i, List.mem_range.2 hil, rfl⟩) n hn))))
        rw [e] at c0 q1
        exact ⟨x, c0, q1, q2, q3⟩
      obtain ⟨J, hJ, hp⟩ := list_of_each each
      obtain ⟨c0, _⟩ := hi 0 (by omega)
      obtain ⟨hs, x, e, fz, hx, _⟩ := cell_row c0
      obtain ⟨b, o, sp⟩ := a
      have hs' : sp = none := by simpa [Addr.add] using hs
      subst hs'
      rw [add_block] at hx
      refine .inr (.inr ⟨b, o, m, x, e, fz, J, by rw [hJ], hx, by rw [hJ]; simp only [Fits]; omega, fun k hk => ?_⟩)
      obtain ⟨q0, q1, q2, q3⟩ := hp k hk
      rw [Addr.add_lit'] at q0
      simp only [World.cell?, hx, Option.isSome_none, Bool.false_eq_true, if_false] at q0
      exact ⟨q0, q1, q2, q3⟩
end Go.Proofs.Yticdjkkcfdbdcaa

/- Lists of lists of Dos come into a small lone world. No conditions but that what is read is there. -/
namespace Go.Proofs.Yticdjkkcfdbdcaa
open Go.Conc Go.ConcN Go.RowKit Go.ChangeShapes Go.WideShapes Go.ChangeAt
theorem no_globals : Try.prog.globals.size = 0 := by kernel_rfl
/-- What a row's argument is, read. -/
def DosArg (w : World) (v : Value) : Prop :=
  v = .slice none 0 0 ∨ (∃ a, v = .slice (some a) 0 0) ∨ ∃ (b o c : Nat) (x : Array Value) (e : TypeId) (fz : Nat × Nat) (D : List DosR), v = .slice (some ⟨b, o, none⟩) D.length c ∧ w.heap[b]? = some (.cells x e fz) ∧ Fits D.length ∧
      ∀ (k : Nat) (h : k < D.length), x[o + k]? = some (.slice D[k].A D[k].ds.length D[k].c) ∧ CellN w (.slice D[k].A D[k].ds.length D[k].c) (cellsD D[k].ds) ∧ D[k].ds.length ≤ D[k].c ∧ Fits D[k].ds.length
def inA (N i : Nat) (x : DosR) : Option Addr := match x.A with
  | none => none
  | some _ => if x.c = 0 then some ⟨0, 0, some 0⟩ else some ⟨N + 1 + i, 0, none⟩
theorem loneV_do (N i : Nat) (x : DosR) (h : x.ds.length ≤ x.c) : loneV N i (.slice x.A x.ds.length x.c) = .slice (inA N i x) x.ds.length x.c := by
  obtain ⟨A, c, ds⟩ := x
  cases A with
  | none => rfl
  | some a =>
    simp only [loneV, inA]
    split
    · rename_i h0
      subst h0
      simp only [Nat.le_zero] at h
      rw [h]
    · rfl
theorem rdAll_nil (w : World) (B : Nat) (A : Option Addr) : RdAll w B A [] := ⟨fun h => absurd rfl h, fun k h => absurd h (by simp), fun k h => absurd h (by simp), by simp [Fits]⟩
theorem dos_imp {W : World} {v : Value} (h : DosArg W v) : ∃ (A : Option Addr) (n c : Nat) (D : List DosR) (ρ : Ren) (k : LK) (L : World), Mir (InV phL phV) Try.prog ρ k L W ∧ VR (InV phL phV) ρ (.slice A n c) v ∧ RdAll L L.heap.size A D ∧ D.length = n ∧
    (∀ k (h : k < D.length), D[k].ds.length ≤ D[k].c) ∧ (∀ l, k.W l → False) ∧ ∀ l, k.R l → MemLoc W.heap.size l := by
  rcases h with rfl | ⟨a, rfl⟩ | ⟨b, o, c, x, e, fz, D, rfl, hW, hfit, hD⟩
  · exact ⟨none, 0, 0, [], renNone Try.prog badTy, LK.nil, blank Try.prog badTy W, mir_none bad_ty (by rw [no_globals]; exact Nat.zero_le _) LK.nil, .nilSlice _ _, rdAll_nil _ _ _, rfl, fun k h => absurd h (by simp), fun l hl => hl, fun l hl => hl.elim⟩
  · exact ⟨some ⟨0, 0, some 0⟩, 0, 0, [], renNone Try.prog badTy, LK.nil, blank Try.prog badTy W, mir_none bad_ty (by rw [no_globals]; exact Nat.zero_le _) LK.nil, .void _ _ _ _, rdAll_nil _ _ _, rfl, fun k h => absurd h (by simp), fun l hl => hl, fun l hl => hl.elim⟩
  · obtain ⟨l, hldef⟩ : ∃ l : List (Value × List Value), D.map (fun y : DosR => (Value.slice y.A y.ds.length y.c, cellsD y.ds)) = l := ⟨_, rfl⟩
    have hl : ∀ (k : Nat) (h : k < D.length), l[k]? = some (.slice D[k].A D[k].ds.length D[k].c, cellsD D[k].ds) := fun k hk => by
      subst hldef
      rw [List.getElem?_map, List.getElem?_eq_getElem hk]
      rfl
    have hll : l.length = D.length := by subst hldef; simp
    have hm : Mir (InV phL phV) Try.prog (renP Try.prog badTy (plN b o l) (plN_ok no_globals b o l)) (readAll W.heap.size) (partsW Try.prog badTy (rowsN Try.prog.globals.size l) W) W := mir_n bad_ty no_globals hW fun i v cs hi => by
      have hi' : i < D.length := by rw [← hll]; exact (List.getElem?_eq_some_iff.1 hi).1
      rw [hl i hi'] at hi
      cases hi
      exact ⟨(hD i hi').1, (hD i hi').2.1⟩
    refine ⟨some ⟨Try.prog.globals.size, 0, none⟩, D.length, c, D.mapIdx fun i x => ⟨inA Try.prog.globals.size i x, x.c, x.ds⟩, _, _, _, hm, nameN no_globals l _ _, ?_, by simp, fun k hk => ?_, fun l hl => hl, ?_⟩
    · refine ⟨fun _ => ⟨Try.prog.globals.size, 0, rfl, by rw [sizeN]; omega, fun k hk => ?_⟩, fun k hk => ?_, fun k hk => ?_, by simpa using hfit⟩
      · have hk' : k < D.length := by simpa using hk
        rw [Nat.zero_add, cellN_outer l (hl k hk'), loneV_do _ _ _ (hD k hk').2.2.1]
        simp
      · have hk' : k < D.length := by simpa using hk
        simp only [List.getElem_mapIdx]
        refine ⟨fun hne => ?_⟩
        have hc0 : D[k].c ≠ 0 := fun e => by
          have h1 := (hD k hk').2.2.1
          have := List.length_pos_iff.2 hne
          omega
        have hA : ∃ a, D[k].A = some a := by
          have h1 := (hD k hk').2.1
          cases hA : D[k].A with
          | some a => exact ⟨a, rfl⟩
          | none =>
            rw [hA] at h1
            exfalso
            generalize hcs : cellsD D[k].ds = cs at h1
            cases h1 with
            | bare h =>
              have := congrArg List.length hcs
              rw [cellsD_length] at this
              have := List.length_pos_iff.2 hne
              simp at *
              omega
        obtain ⟨a, hA⟩ := hA
        refine ⟨Try.prog.globals.size + 1 + k, 0, by simp only [inA, hA, if_neg hc0], by rw [sizeN, hll]; omega, fun i hi => ?_⟩
        obtain ⟨r0, r1, r2⟩ := cellsD_at D[k].ds i hi
        rw [Nat.zero_add]
        exact ⟨cellN_inner l (hl k hk') r0, cellN_inner l (hl k hk') r1, cellN_inner l (hl k hk') r2⟩
      · have hk' : k < D.length := by simpa using hk
        simp only [List.getElem_mapIdx]
        exact (hD k hk').2.2.2
    · have hk' : k < D.length := by simpa using hk
      simp only [List.getElem_mapIdx]
      exact (hD k hk').2.2.1
    · rintro l ⟨b, i, rfl, hb⟩
      exact hb
end Go.Proofs.Yticdjkkcfdbdcaa
