/- The contract of pool.whole: true only where all nodes are as they should be. No conditions but that what is read is there, and that its nodes can be counted. -/
import Derived.Test.YtokjchcmjglbhaaMeas
import Derived.Test.YtokjchcmjglbhaaOwn3
import Derived.BigRegion
import Derived.Deep.RegionLaw
import Derived.OwnWalk
namespace Go.Proofs.Ytokjchcmjglbhaa
open Go.ChangeShapes Go.WideShapes Go.ChangeAt Go.RowKit

theorem run_make_cells {P : Program} (t e : TypeId) (i : TypeInfo) (z : Value) (ht : P.underlying t = some (.slice e)) (hi : P.info? e = some i) (hz : i.zero = some z)
    (kl kc : IntKind) (n : Nat) (hbytes : i.bytes * n ≤ 281474976710656) (h63 : n ≤ 9223372036854775807) (w : World) :
    (Instr.makeSlice t (.int kl (n : Int)) (.int kc (n : Int))).run P w = .ok (.slice (some ⟨w.heap.size, 0, none⟩) n n) (w.alloc (.cells (madeCells z.cells (n * i.size)) e)) := by
  have hb : (i.bytes : Int) * (n : Int) ≤ 281474976710656 := by
    have h : ((i.bytes * n : Nat) : Int) ≤ 281474976710656 := by omega
    rwa [Int.natCast_mul] at h
  have hr := run_make (P := P) w t e i z ht hi hz kl kc n n (by omega) (by omega) hb (by omega)
  simp only [Int.toNat_natCast] at hr
  exact hr
theorem info_tree : (Try.prog.info? 24).map (fun i => (i.zero, i.size, i.bytes)) = some (some (.agg #[.int .i64 0, .int .i64 0, .slice none 0 0]), 3, 40) := by kernel_rfl
theorem run_make_none (w : World) : (Instr.makeSlice 22 (.int .i64 0) (.int .i64 0)).run Try.prog w = .ok (.slice (some ⟨w.heap.size, 0, none⟩) 0 0) (w.alloc (.cells #[] 24)) := by
  obtain ⟨i, hi, hz⟩ := Option.map_eq_some_iff.1 info_tree
  simp only [Prod.mk.injEq] at hz
  have := run_make_cells (P := Try.prog) 22 24 i _ Try.underlying22 hi hz.1 .i64 .i64 0 (by omega) (by omega) w
  have e : madeCells (Value.agg #[.int .i64 0, .int .i64 0, .slice none 0 0]).cells (0 * i.size) = #[] := by rw [Nat.zero_mul]; apply Array.eq_empty_of_size_eq_zero; simp [madeCells]
  rw [e] at this
  exact this
theorem cell_box (w : World) (cs : Array Value) (t : TypeId) (o : Obj) (k : Nat) : ((w.alloc (.cells cs t)).alloc o).drew.cell? ⟨w.heap.size, k, none⟩ = cs[k]? := by
  show ((w.alloc (.cells cs t)).alloc o).cell? _ = _
  rw [World.cell?_alloc_lt _ _ _ (by simp)]
  rw [cell_of_row _ _ k cs t (0, 0) (heap_alloc_new w _)]
theorem allOk_step {x : TreeR} {l : List TreeR} (hb : ¬ badT x) : (∀ y ∈ l ++ x.kids, AllOk y) ↔ ∀ y ∈ l ++ [x], AllOk y := by
  constructor
  · intro h y hy
    rcases List.mem_append.1 hy with h1 | h1
    · exact h y (List.mem_append_left _ h1)
    · simp at h1
      subst h1
      exact ⟨_, hb, fun k hk => h k (List.mem_append_right _ hk)⟩
  · intro h y hy
    rcases List.mem_append.1 hy with h1 | h1
    · exact h y (List.mem_append_left _ h1)
    · exact (h x (by simp)).kid h1
def WholePost (w : World) (t : TreeR) (e : Ending) (w' : World) : Prop := Below w.heap.size w w' ∧ ∃ b : Bool, e = .returned (.bool b) ∧ (b = true ↔ AllOk t)
set_option maxRecDepth 100000 in
set_option maxHeartbeats 2000000 in
theorem whole_any (w : World) (B : Nat) (t : TreeR) (hR : RdT w B t) (hB : B ≤ w.heap.size) (hn : t.nodes ≤ 1048576) :
    Calls Try.prog 18 #[t.val] w (WholePost w t) := by
  obtain ⟨kind, n, sA, sc, kids⟩ := t
  have HR := Lib.hid hR; clear hR
  have Hn := Lib.hid hn; clear hn
  obtain ⟨i0, hi0, hz0, hz1, hz2⟩ := info_parts info_tree
  have Hi0 := Lib.hid (And.intro hi0 (And.intro hz0 (And.intro hz1 hz2))); clear hi0 hz0 hz1 hz2
  show Calls Try.prog 18 #[.agg #[.int .i64 kind, .int .i64 n, .slice sA kids.length sc]] w _
  go_enter Try.func18, Try.ntmps18
  go_wp2_with fail
  go_loopg [3] 1048576 (fun gk v wr => ∃ (l : List TreeR), nodesL l ≤ gk ∧ gk ≤ 1048576 ∧ wr.ownsRow w.heap.size 24 3 v l.length (cellsL l) ∧ Below w.heap.size w wr ∧ (∀ x ∈ l, RdT w B x) ∧ ((∀ x ∈ l, AllOk x) ↔ AllOk (.mk kind n sA sc kids)))
  case atStart =>
    have hr := World.ownsRow_lit (base := w.heap.size) (e := 24) (size := 3) (w.alloc (.cells #[.int .i64 kind, .int .i64 n, .slice sA kids.length sc] 24)) #[.int .i64 kind, .int .i64 n, .slice sA kids.length sc] 1 (by simp) (by unfold maxLen; omega) rfl
    rw [show (w.alloc (.cells #[.int .i64 kind, .int .i64 n, .slice sA kids.length sc] 24)).heap.size = w.heap.size + 1 by simp] at hr
    refine ⟨[.mk kind n sA sc kids], by have := Hn.out; simp only [nodesL]; omega, Nat.le_refl _, hr, ((Below.refl _ _).alloc (Nat.le_refl _) _).alloc (by simp) _, fun x hx => ?_, ⟨fun h => h _ (by simp), fun h x hx => by simp at hx; subst hx; exact h⟩⟩
    simp at hx
    subst hx
    exact HR.out
  case round =>
    obtain ⟨l, hnl, hgk, hown, hb, hrd, hall⟩ := hrel
    rcases List.eq_nil_or_concat l with rfl | ⟨l', x, rfl⟩
    · obtain ⟨A, c, rfl, _, _⟩ := own_form3 hown
      have HX := Lib.hid (And.intro hb hall)
      clear hown hb hrd hall
      go_wp2_with fail
      go_ret
      exact ⟨HX.out.1, true, rfl, ⟨fun _ => HX.out.2.1 fun x hx => (by cases hx), fun _ => rfl⟩⟩
    · rw [List.concat_eq_append] at *
      have hlen : (l' ++ [x]).length = l'.length + 1 := by simp
      rw [hlen] at hown
      obtain ⟨g, c, rfl, hg, hglt, hgc⟩ := own_top3 hown (by omega)
      rw [nodesL_append] at hnl
      simp only [nodesL] at hnl
      have hkx := nodes_eq x
      have c0 : wr.cell? ⟨g, l'.length * 3, none⟩ = some (.int .i64 x.kind) := by rw [hown.cellAt _ (by omega)]; exact cellsL_last l' x 0 (by omega)
      have c1 : wr.cell? ⟨g, l'.length * 3 + 1, none⟩ = some (.int .i64 x.n) := by rw [hown.cellAt _ (by omega)]; exact cellsL_last l' x 1 (by omega)
      have c2 : wr.cell? ⟨g, l'.length * 3 + 2, none⟩ = some (.slice x.sA x.kids.length x.sc) := by rw [hown.cellAt _ (by omega)]; exact cellsL_last l' x 2 (by omega)
      have hl1 : l'.length ≤ nodesL l' := by
        have : ∀ l : List TreeR, l.length ≤ nodesL l := fun l => by
          induction l with
          | nil => simp [nodesL]
          | cons t l ih => simp only [nodesL, List.length_cons]; have := nodes_eq t; omega
        exact this l'
      have hc63 : c ≤ 9223372036854775807 := by
        obtain ⟨_, c', e, _, hm⟩ := own_form3 hown
        cases e
        exact hm
      have hbb : ¬ (g = wr.heap.size) := by omega
      have hcut : wr.ownsRow w.heap.size 24 3 (.slice (some ⟨g, 0, none⟩) l'.length c) l'.length (cellsL l') := own_cut3 (ys := cellsL [x]) (by rw [← cellsL_append]; exact hown) (cellsL_length l')
      have HX := Lib.hid (And.intro hcut (And.intro hb (And.intro hrd hall)))
      clear hown hcut hb hrd hall hlen
      obtain ⟨kd, kn, kA, kc, kl⟩ := x
      simp only [TreeR.kind, TreeR.n, TreeR.sA, TreeR.sc, TreeR.kids] at c0 c1 c2 hkx
      have hws : w.heap.size ≤ wr.heap.size := HX.out.2.1.size
      have hcall := fun (W : World) (A : Option Addr) (h : w.heap.size ≤ W.heap.size) => measure_any 103 (.mk kd kn A 0 []) W B 0 ⟨_, fun h => absurd rfl h, fun _ h => (by cases h), by simp [Fits, TreeR.kids]⟩ (by omega) rfl (by omega) (by simp [TreeR.nodes, nodesL])
      have HC := Lib.hid hcall; clear hcall
      have hmk := run_make_none
      by_cases hb0 : badT (.mk kd kn none 0 [])
      · have hme : ∀ A, meas 103 (.mk kd kn A 0 []) = (0, 0, false) := fun A => meas_bad (t := .mk kd kn A 0 []) hb0
        have Hme := Lib.hid (And.intro hme (show badT (.mk kd kn kA kc kl) by simp only [badT, TreeR.kind, TreeR.n, TreeR.kids, List.length_nil] at hb0 ⊢; omega)); clear hme hb0
        go_wp2_with fail
        go_region_law (go_simp; go_at_call 10; refine (HC.out _ _ (by simp; omega)).mono ?_; rintro e w2 ⟨rfl, hb2⟩; rw [Hme.out.1]; have hb3 := ((HX.out.2.1.alloc hws _).alloc (by simp; omega) _).drew.trans (hb2.mono (by simp; omega)); have hb4 := (((Below.refl wr.heap.size wr).alloc (Nat.le_refl _) _).alloc (by simp) _).drew.trans (hb2.mono (by simp; omega)); have hx0 : w2.cell? ⟨wr.heap.size, 0, none⟩ = some (.int .i64 kd) := (hb2.cell (by simp; omega)).trans (cell_box ..); have hx2 : w2.cell? ⟨wr.heap.size, 2, none⟩ = some (.slice kA kl.length kc) := (hb2.cell (by simp; omega)).trans (cell_box ..); have HB3 := Lib.hid (And.intro hb3 hb4); clear hb2 hb3 hb4)
        all_goals
          clear hx0 hx2
          go_wp2_with fail
          go_ret
          exact ⟨HB3.out.1, false, rfl, ⟨fun h => (by cases h), fun h => absurd Hme.out.2 (HX.out.2.2.2.2 h _ (List.mem_append_right _ (List.mem_singleton.2 rfl))).ok⟩⟩
      · have hme : ∀ A, meas 103 (.mk kd kn A 0 []) = (1, 1, true) := fun A => by
          show (if badT (.mk kd kn A 0 []) then _ else _) = _
          rw [if_neg (show ¬ badT (.mk kd kn A 0 []) from hb0)]
          rfl
        have Hme := Lib.hid (And.intro hme hb0); clear hme hb0
        go_wp2_with fail
        go_region_law (go_simp; go_at_call 10; refine (HC.out _ _ (by simp; omega)).mono ?_; rintro e w2 ⟨rfl, hb2⟩; rw [Hme.out.1]; have hb3 := ((HX.out.2.1.alloc hws _).alloc (by simp; omega) _).drew.trans (hb2.mono (by simp; omega)); have hb4 := (((Below.refl wr.heap.size wr).alloc (Nat.le_refl _) _).alloc (by simp) _).drew.trans (hb2.mono (by simp; omega)); have hx0 : w2.cell? ⟨wr.heap.size, 0, none⟩ = some (.int .i64 kd) := (hb2.cell (by simp; omega)).trans (cell_box ..); have hx2 : w2.cell? ⟨wr.heap.size, 2, none⟩ = some (.slice kA kl.length kc) := (hb2.cell (by simp; omega)).trans (cell_box ..); have HB3 := Lib.hid (And.intro hb3 hb4); clear hb2 hb3 hb4)
        all_goals
          clear c0 c1 c2
          by_cases h1 : 100 < kl.length
          · have h1i : (100 : Int) < kl.length := by omega
            go_wp2_with fail
            go_ret
            exact ⟨HB3.out.1, false, rfl, ⟨fun h => (by cases h), fun h => absurd (show badT (.mk kd kn kA kc kl) by simp only [badT, TreeR.kind, TreeR.n, TreeR.kids]; omega) (HX.out.2.2.2.2 h _ (List.mem_append_right _ (List.mem_singleton.2 rfl))).ok⟩⟩
          · have h1i : ¬ (100 : Int) < kl.length := by omega
            by_cases h2 : kd = 1 ∧ 0 < kl.length
            · obtain ⟨rfl, h2⟩ := h2
              have h2i : (0 : Int) < kl.length := by omega
              go_wp2_with fail
              go_ret
              exact ⟨HB3.out.1, false, rfl, ⟨fun h => (by cases h), fun h => absurd (show badT (.mk 1 kn kA kc kl) from .inr (.inr (.inr (.inl ⟨rfl, h2⟩)))) (HX.out.2.2.2.2 h _ (List.mem_append_right _ (List.mem_singleton.2 rfl))).ok⟩⟩
            · have hok : ¬ badT (.mk kd kn kA kc kl) := by
                have h0 := Hme.out.2
                simp only [badT, TreeR.kind, TreeR.n, TreeR.kids, List.length_nil] at h0 ⊢
                omega
              have Hok := Lib.hid (allOk_step (l := l') hok); clear hok
              have hl2 : l'.length ≤ 1048576 := by omega
              cases kl with
              | nil =>
                have hroom : l'.length + 0 ≤ c := by omega
                have hlen0 : ((([] : List TreeR).length : Nat) : Int) = 0 := rfl
                cases kA with
                | none =>
                  go_wp2_with fail
                  all_goals
                    go_roundg (nodesL l')
                    case measure => omega
                    case rel => exact ⟨l', Nat.le_refl _, by omega, own_below3 HX.out.1 HB3.out.2, HB3.out.1, fun y hy => HX.out.2.2.1 y (List.mem_append_left _ hy), (show _ ↔ _ by rw [← HX.out.2.2.2, ← Hok.out]; simp [TreeR.kids])⟩
                | some ad =>
                  go_wp2_with fail
                  all_goals
                    go_roundg (nodesL l')
                    case measure => omega
                    case rel => exact ⟨l', Nat.le_refl _, by omega, own_below3 HX.out.1 HB3.out.2, HB3.out.1, fun y hy => HX.out.2.2.1 y (List.mem_append_left _ hy), (show _ ↔ _ by rw [← HX.out.2.2.2, ← Hok.out]; simp [TreeR.kids])⟩
              | cons k0 ks =>
                have hkd : (kd == 1) = false := beq_eq_false_iff_ne.2 fun e => h2 ⟨e, by simp⟩
                clear h2
                generalize hkl : k0 :: ks = kl at *
                have Hkl := Lib.hid (show kl ≠ [] from fun e => by rw [e] at hkl; cases hkl); clear hkl
                obtain ⟨b2, o2, rfl, hb2, hnews⟩ := (HX.out.2.2.1 (.mk kd kn kA kc kl) (by simp)).news Hkl.out
                have hnews2 : ∀ j u, (cellsL kl)[j]? = some u → w2.cell? ((⟨b2, o2, none⟩ : Addr).add j) = some u := fun j u hu => (HB3.out.1.cell (by rw [add_block]; exact Nat.lt_of_lt_of_le hb2 hB)).trans (hnews j u hu)
                have Hnews := Lib.hid hnews2; clear hnews2 hnews
                have hown2 := own_below3 HX.out.1 HB3.out.2
                have Hown2 := Lib.hid hown2; clear hown2
                go_wp2_with (first
                  | (at_builtin
                     refine wpList_append_own_at _ rfl (.tmp 54) (.tmp 56) _ rfl w.heap.size 24 i0 (.agg #[.int .i64 0, .int .i64 0, .slice none 0 0]) 3 40 Try.underlying22 Hi0.out.1 Hi0.out.2.1 Hi0.out.2.2.1 Hi0.out.2.2.2 rfl (by decide) (.slice (some ⟨g, 0, none⟩) l'.length c) _ (cellsL l') rfl Hown2.out ⟨b2, o2, none⟩ kl.length kc (cellsL kl) rfl (cellsL_length kl) Hnews.out (cellsL_one kl) (by unfold maxLen; omega) (by omega) HB3.out.1.size ?_
                     intro v1 w3 hown3 hg3 _ _
                     have H3 := Lib.hid (And.intro hown3 hg3); clear hown3 hg3)
                  | fail)
                go_roundg (nodesL (l' ++ kl))
                case measure => rw [nodesL_append]; omega
                case rel =>
                  refine ⟨l' ++ kl, Nat.le_refl _, by rw [nodesL_append]; omega, by rw [List.length_append, cellsL_append]; exact H3.out.1, HB3.out.1.grown H3.out.2 HB3.out.1.size (fun k e => by cases e; exact hg), fun y hy => ?_, Hok.out.trans HX.out.2.2.2⟩
                  rcases List.mem_append.1 hy with h | h
                  · exact HX.out.2.2.1 y (List.mem_append_left _ h)
                  · exact (HX.out.2.2.1 (.mk kd kn (some ⟨b2, o2, none⟩) kc kl) (by simp)).kid h
end Go.Proofs.Ytokjchcmjglbhaa
