/- The contract of pool.measure: what it makes of a tree. No conditions but that what is read is there, and that its nodes can be counted. -/
import Derived.Test.YtokjchcmjglbhaaTree
import Derived.Test.YtokjchcmjglbhaaChecked
import Derived.Deep.LoopGhost
import Derived.Deep.QuietTactic
namespace Go.Proofs.Ytokjchcmjglbhaa
open Go.ChangeShapes Go.WideShapes Go.ChangeAt Go.RowKit

def MeasPost (r : Nat) (t : TreeR) (w : World) (e : Ending) (w' : World) : Prop :=
  e = .returned (.tuple #[.int .i64 (meas r t).1, .int .i64 (meas r t).2.1, .bool (meas r t).2.2]) ∧ Below w.heap.size w w'
theorem meas_bad {r : Nat} {t : TreeR} (h : badT t) : meas (r + 1) t = (0, 0, false) := by simp [meas, h]
set_option maxRecDepth 100000 in
set_option maxHeartbeats 1000000 in
theorem measure_any : ∀ (r : Nat) (t : TreeR) (w : World) (B : Nat) (at_ : Int), RdT w B t → B ≤ w.heap.size → at_ + r = 103 → 0 ≤ at_ → t.nodes ≤ 1048576 →
    Calls Try.prog 10 #[t.val, .int .i64 at_] w (MeasPost r t w) := by
  intro r
  induction r with
  | zero =>
    intro t w B at_ hR hB hat h0 hn
    obtain ⟨kind, n, sA, sc, kids⟩ := t
    have h1 : 102 < at_ := by omega
    clear hR hn
    show Calls Try.prog 10 #[.agg #[.int .i64 kind, .int .i64 n, .slice sA kids.length sc], .int .i64 at_] w _
    go_enter Try.func10, Try.ntmps10
    go_wp2_with fail
    go_ret3
    exact ⟨rfl, (Below.refl _ _).alloc (Nat.le_refl _) _⟩
  | succ r ih =>
    intro t w B at_ hR hB hat h0 hn
    obtain ⟨kind, n, sA, sc, kids⟩ := t
    have h1 : ¬ 102 < at_ := by omega
    have IH := Lib.hid ih; clear ih
    have HR := Lib.hid hR; clear hR
    have Hn := Lib.hid hn; clear hn
    show Calls Try.prog 10 #[.agg #[.int .i64 kind, .int .i64 n, .slice sA kids.length sc], .int .i64 at_] w _
    by_cases k1 : kind < 1
    · have hb : badT (.mk kind n sA sc kids) := .inl k1
      have Hb := Lib.hid hb; clear hb
      go_enter Try.func10, Try.ntmps10
      go_wp2_with fail
      go_ret3
      exact ⟨by rw [meas_bad Hb.out]; rfl, (Below.refl _ _).alloc (Nat.le_refl _) _⟩
    by_cases k2 : 5 < kind
    · have hb : badT (.mk kind n sA sc kids) := .inr (.inl k2)
      have Hb := Lib.hid hb; clear hb
      go_enter Try.func10, Try.ntmps10
      go_wp2_with fail
      go_ret3
      exact ⟨by rw [meas_bad Hb.out]; rfl, (Below.refl _ _).alloc (Nat.le_refl _) _⟩
    by_cases k3 : 100 < kids.length
    · have hb : badT (.mk kind n sA sc kids) := .inr (.inr (.inl k3))
      have Hb := Lib.hid hb; clear hb
      go_enter Try.func10, Try.ntmps10
      go_wp2_with fail
      go_ret3
      exact ⟨by rw [meas_bad Hb.out]; rfl, (Below.refl _ _).alloc (Nat.le_refl _) _⟩
    by_cases k4 : kind = 1 ∧ 0 < kids.length
    · have hb : badT (.mk kind n sA sc kids) := .inr (.inr (.inr (.inl k4)))
      have Hb := Lib.hid hb; clear hb
      obtain ⟨rfl, k4⟩ := k4
      go_enter Try.func10, Try.ntmps10
      go_wp2_with fail
      go_ret3
      exact ⟨by rw [meas_bad Hb.out]; rfl, (Below.refl _ _).alloc (Nat.le_refl _) _⟩
    by_cases k5 : kind ≠ 1 ∧ n ≠ 0
    · have hb : badT (.mk kind n sA sc kids) := .inr (.inr (.inr (.inr k5)))
      have Hb := Lib.hid hb; clear hb
      have k5a : (kind == 1) = false := beq_eq_false_iff_ne.2 k5.1
      have k5b : (kind != 1) = true := bne_iff_ne.2 k5.1
      have k5c : (n != 0) = true := bne_iff_ne.2 k5.2
      clear k4
      go_enter Try.func10, Try.ntmps10
      go_wp2_with fail
      go_ret3
      exact ⟨by rw [meas_bad Hb.out]; rfl, (Below.refl _ _).alloc (Nat.le_refl _) _⟩
    have hok : meas (r + 1) (.mk kind n sA sc kids) = foldM (meas r) kids 1 0 := by
      simp only [meas]
      rw [if_neg]
      · rfl
      · rintro (h | h | h | h | h)
        · exact k1 h
        · exact k2 h
        · exact k3 h
        · exact k4 h
        · exact k5 h
    have Hok := Lib.hid hok; clear hok
    have hsub : nodesL kids ≤ 1048576 := by have := Hn.out; rw [nodes_eq] at this; exact (by simp only [TreeR.kids] at this; omega)
    have hcase : (kind = 1 ∧ kids.length = 0) ∨ (¬ kind = 1 ∧ n = 0) := by
      by_cases k6 : kind = 1
      · exact .inl ⟨k6, by have : ¬ 0 < kids.length := fun h => k4 ⟨k6, h⟩; omega⟩
      · exact .inr ⟨k6, Classical.byContradiction fun h => k5 ⟨k6, h⟩⟩
    clear k4 k5
    have Hsub := Lib.hid hsub; clear hsub
    have hfit : kids.length ≤ 100 := by omega
    have k3i : ¬ (100 : Int) < (kids.length : Int) := by omega
    have hr1 : r ≤ 102 := by omega
    clear k3
    rcases hcase with ⟨rfl, k7⟩ | ⟨k6, rfl⟩
    · obtain rfl := List.eq_nil_of_length_eq_zero k7
      clear k7 k3i hfit
      go_enter Try.func10, Try.ntmps10
      go_wp2_with fail
      go_loopg [4, 5, 52] 0 (fun gk nd dp i wr => gk = 0 ∧ i = .int .i64 0 ∧ nd = .int .i64 1 ∧ dp = .int .i64 0 ∧ Below w.heap.size w wr)
      case atStart => exact ⟨rfl, rfl, rfl, rfl, (Below.refl _ _).alloc (Nat.le_refl _) _⟩
      case round =>
        obtain ⟨rfl, rfl, rfl, rfl, hb⟩ := hrel
        have Hb := Lib.hid hb; clear hb
        go_wp2_with fail
        go_ret3
        refine ⟨?_, Hb.out⟩
        rw [Hok.out]
        rfl
    · have k6a : (kind == 1) = false := beq_eq_false_iff_ne.2 k6
      have k6b : (kind != 1) = true := bne_iff_ne.2 k6
      go_enter Try.func10, Try.ntmps10
      go_wp2_with fail
      go_loopg [4, 5, 52] kids.length (fun gk nd dp i wr => ∃ (q m d : Nat), gk + q = kids.length ∧ i = .int .i64 q ∧ nd = .int .i64 m ∧ dp = .int .i64 d ∧ foldM (meas r) (kids.drop q) m d = foldM (meas r) kids 1 0 ∧ m + nodesL (kids.drop q) ≤ 1 + nodesL kids ∧ 1 ≤ m ∧ d ≤ r + 1 ∧ Below w.heap.size w wr)
      case atStart => exact ⟨0, 1, 0, by omega, rfl, rfl, rfl, rfl, Nat.le_refl _, Nat.le_refl _, by omega, (Below.refl _ _).alloc (Nat.le_refl _) _⟩
      case round =>
        obtain ⟨q, m, d, hgq, rfl, rfl, rfl, hfo, hno, hm0, hd, hb⟩ := hrel
        have hsub := Hsub.out
        by_cases hq : q < kids.length
        · have hRr := HR.out.under (hb.mono hB)
          obtain ⟨b, o, e0, hbB, c0, c1, c2⟩ := hRr.at_ (i := q) hq
          simp only [TreeR.sA] at e0
          subst e0
          simp only [TreeR.kids] at c0 c1 c2
          have hz := hb.size
          have hRk := hRr.kid (k := kids[q]) (List.getElem_mem hq)
          rw [List.drop_eq_getElem_cons hq] at hfo hno
          obtain ⟨k, hk⟩ : ∃ k, kids[q] = k := ⟨_, rfl⟩
          rw [hk] at hfo hno hRk c0 c1 c2
          simp only [foldM, nodesL] at hfo hno
          obtain ⟨kd, kn, kA, kc, kl⟩ := k
          simp only [TreeR.kind, TreeR.n, TreeR.sA, TreeR.sc] at c0 c1 c2
          have hcall := fun (W : World) (h : Below w.heap.size w W) => IH.out (.mk kd kn kA kc kl) W B (at_ + 1) ((HR.out.under (h.mono hB)).kid (by rw [← hk]; exact List.getElem_mem hq)) (by have := h.size; omega) (by omega) (by omega) (by omega)
          have hmn := (meas_le r (.mk kd kn kA kc kl)).1
          have hmd := meas_room r (.mk kd kn kA kc kl)
          have hba := hb.alloc hz (.cells #[.int .i64 kd, .int .i64 kn, .slice kA kl.length kc] 24)
          have hbb : b ≠ wr.heap.size := by omega
          have hbb' : ¬ (b = wr.heap.size) := hbb
          have HB := Lib.hid (And.intro hb (And.intro hba (And.intro hk (And.intro hcall hRk))))
          clear hb hba hk hcall hRr hRk
          have hm1 : m ≤ 2000000 := by omega
          cases hm : (meas r (.mk kd kn kA kc kl)).2.2 with
          | true =>
            rw [if_pos hm] at hfo
            have Hfo := Lib.hid (And.intro hfo hm); clear hfo hm
            go_wp2_with (first
              | (go_at_call 10; (
                 refine (HB.out.2.2.2.1 _ HB.out.2.1).mono ?_
                 rintro e w2 ⟨rfl, hb2⟩
                 rw [Hfo.out.2]
                 have hb3 := HB.out.2.1.trans (hb2.mono HB.out.2.1.size)
                 have HB3 := Lib.hid hb3; clear hb2 hb3
                 generalize hmA : (meas r (.mk kd kn kA kc kl)).1 = mA at *
                 generalize hmD : (meas r (.mk kd kn kA kc kl)).2.1 = mD at *
                 have HM := Lib.hid (And.intro hmA hmD); clear hmA hmD))
              | fail)
            all_goals
              have hfo := Hfo.out.1
              go_roundg (gk - 1)
              case measure => omega
              case rel => exact ⟨q + 1, m + mA, max d mD, by omega, by go_num, by congr 1, by congr 1; omega, hfo, by omega, by omega, by omega, HB3.out⟩
          | false =>
            rw [if_neg (by rw [hm]; exact Bool.false_ne_true)] at hfo
            have Hfo := Lib.hid (And.intro hfo hm); clear hfo hm
            go_wp2_with (first
              | (go_at_call 10; (
                 refine (HB.out.2.2.2.1 _ HB.out.2.1).mono ?_
                 rintro e w2 ⟨rfl, hb2⟩
                 rw [Hfo.out.2]
                 have hb3 := HB.out.2.1.trans (hb2.mono HB.out.2.1.size)
                 have HB3 := Lib.hid hb3; clear hb2 hb3))
              | fail)
            go_ret3
            refine ⟨?_, HB3.out⟩
            rw [Hok.out, ← Hfo.out.1]
            rfl
        · have hnil : kids.drop q = [] := List.drop_eq_nil_of_le (by omega)
          rw [hnil] at hfo
          have Hfo := Lib.hid hfo; clear hfo
          have Hb := Lib.hid hb; clear hb
          clear hno hnil
          go_wp2_with fail
          go_ret3
          refine ⟨?_, Hb.out⟩
          rw [Hok.out, ← Hfo.out]
          rfl
end Go.Proofs.Ytokjchcmjglbhaa
