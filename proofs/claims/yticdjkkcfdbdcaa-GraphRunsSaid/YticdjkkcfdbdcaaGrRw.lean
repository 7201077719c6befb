/- The contract of the reference's Worked: each job's number. No conditions but that what is read is there. -/
import Derived.Test.YticdjkkcfdbdcaaGrRf
import Derived.BigQuiet
import Derived.BigRegion
import Derived.Deep.QuietTactic
import Derived.StillTailTactics
namespace Go.Proofs.Yticdjkkcfdbdcaa
open Go.ChangeShapes Go.WideShapes Go.ChangeAt Go.RowKit
theorem info_i64w : (Try.prog.info? 2).map (fun i => (i.zero, i.size, i.bytes)) = some (some (.int .i64 0), 1, 8) := by kernel_rfl
structure WkSt (w0 w : World) (g : Nat) (outs : List Int) (bs : List Bool) : Prop where
  out : Blk w g 2 (ints outs)
  done : Blk w (g + 1) 4 (bools bs)
  below : RowKit.Below w0.heap.size w0 w
  hg : w0.heap.size ≤ g
section
variable {w0 w w' : World} {g : Nat} {outs : List Int} {bs : List Bool}
theorem Blk.heap {g : Nat} {t : TypeId} {vs : List Value} (h : Blk w g t vs) (e : w'.heap = w.heap) : Blk w' g t vs := by unfold Blk at h ⊢; rw [e]; exact h
theorem below_heap {B : Nat} {a : World} (h : RowKit.Below B a w) (e : w'.heap = w.heap) (e2 : w'.os = w.os ∧ w'.tape = w.tape ∧ w'.output = w.output) : RowKit.Below B a w' := ⟨e2.1.trans h.os, e2.2.1.trans h.tape, e2.2.2.trans h.output, by rw [e]; exact h.size, fun b hb => by rw [e]; exact h.block b hb⟩
theorem WkSt.setOut (h : WkSt w0 w g outs bs) (e : w'.heap = w.heap) (hos : RowKit.Below w0.heap.size w0 w') (k : Nat) (x : Int) : WkSt w0 (w'.setCell ⟨g, k, none⟩ (.int .i64 x)) g (outs.set k x) bs :=
  ⟨by have := (h.out.heap e).set_ k (.int .i64 x); rwa [ints_set] at this, (h.done.heap e).far (by simp) _, hos.setCell h.hg _, h.hg⟩
theorem WkSt.setDone (h : WkSt w0 w g outs bs) (k : Nat) : WkSt w0 (w.setCell ⟨g + 1, k, none⟩ (.bool true)) g outs (bs.set k true) :=
  ⟨h.out.far (by simp) _, by rw [← bools_set]; exact h.done.set_ k _, h.below.setCell (by have := h.hg; show _ ≤ g + 1; omega) _, h.hg⟩
end
structure Wd (J : List JobR) (bs : List Bool) (outs : List Int) : Prop where
  sw : Swept J bs
  len : outs.length = J.length
  val : ∀ i, i < J.length → bs.getD i false = true → outs.getD i 0 = valJ J i
theorem Wd.set {J : List JobR} {bs : List Bool} {outs : List Int} (h : Wd J bs outs) (hg : GoodJ J) {i : Nat} (hi : i < J.length) (ha : allIn bs (aft J i) = true) : Wd J (bs.set i true) (outs.set i (valJ J i)) where
  sw := h.sw.set hi ha fun a haa => ⟨(hg.inR i a haa).1, (hg.inR i a haa).2⟩
  len := by simp [h.len]
  val := fun k hk hb => by
    by_cases e : k = i
    · subst e
      rw [List.getD_eq_getElem?_getD, List.getElem?_set_self (by rw [h.len]; exact hi)]
      rfl
    · rw [List.getD_eq_getElem?_getD, List.getElem?_set_ne (fun e2 => e e2.symm), ← List.getD_eq_getElem?_getD]
      refine h.val k hk ?_
      rw [List.getD_eq_getElem?_getD, List.getElem?_set_ne (fun e2 => e e2.symm), ← List.getD_eq_getElem?_getD] at hb
      exact hb
noncomputable def foldJ (J : List JobR) (i m : Nat) : Int := ((aft J i).take m).foldl (fun s a => step31 s (valJ J a.toNat)) (numJ J i)
/-- What Worked answers. -/
def WorkedPost (w : World) (J : List JobR) (wk : Int) (e : Ending) (w' : World) : Prop :=
  ∃ v, e = .returned (.tuple #[v, .int .i64 (askedCode J wk)]) ∧ RowKit.Below w.heap.size w w' ∧ (askedCode J wk ≠ 0 → v = .slice none 0 0) ∧
    (askedCode J wk = 0 → ∃ g, v = .slice (some ⟨g, 0, none⟩) J.length J.length ∧ w.heap.size ≤ g ∧ Blk w' g 2 (ints ((List.range J.length).map (valJ J))))
theorem wd_end {J : List JobR} {bs : List Bool} {outs : List Int} (h : Wd J bs outs) (hu : undone bs = 0) : outs = (List.range J.length).map (valJ J) := by
  apply List.ext_getElem?
  intro i
  by_cases hi : i < J.length
  · have := h.val i hi (undone_zero hu (by rw [h.sw.len]; exact hi))
    rw [List.getD_eq_getElem?_getD, List.getElem?_eq_getElem (by rw [h.len]; exact hi)] at this
    rw [List.getElem?_eq_getElem (by rw [h.len]; exact hi)]
    simp at this
    simp [hi, this]
  · rw [List.getElem?_eq_none (by rw [h.len]; omega), List.getElem?_eq_none (by simp; omega)]
set_option maxRecDepth 100000 in
set_option maxHeartbeats 4000000 in
theorem worked_any (w : World) (B : Nat) (A : Option Addr) (c n : Nat) (wk : Int) (J : List JobR) (hR : RdJobs w B A J) (hB : B ≤ w.heap.size) (hn : J.length = n) :
    Calls Try.prog 21 #[.slice A n c, .int .i64 wk] w (WorkedPost w J wk) := by
  have Hn := Lib.hid hn; clear hn
  have HR := Lib.hid hR; clear hR
  obtain ⟨jc, hjc⟩ : ∃ jc, askedCode J wk = jc := ⟨_, rfl⟩
  have Hjc := Lib.hid hjc; clear hjc
  by_cases h0 : jc = 0
  case neg =>
    have h0' : (jc == 0) = false := beq_eq_false_iff_ne.2 h0
    have h1' : (jc != 0) = true := bne_iff_ne.2 h0
    go_enter Try.func21, Try.ntmps21
    go_wp2_with (first
      | (go_at_call 59; refine (asked_any _ B _ _ _ _ J HR.out hB Hn.out).mono ?_; rintro e w1 ⟨rfl, hb1⟩; rw [Hjc.out]; have Hb1 := Lib.hid hb1; clear hb1))
    go_ret2
    exact ⟨_, by rw [Hjc.out]; rfl, Hb1.out, fun _ => rfl, fun h => absurd (Hjc.out.symm.trans h) h0⟩
  subst h0
  have hjz : jobsCode J = 0 := Classical.byContradiction fun h => h ((askedCode_bad (n := wk) h).symm.trans Hjc.out)
  have hgood := good_of_zero hjz
  have hn200 : n ≤ 200 := Hn.out ▸ hgood.few
  have Hgood := Lib.hid hgood; clear hgood
  have Hgj := Lib.hid (Good.toJ Hgood.out)
  clear hjz
  have hmk1 := fun W => run_make_row' (P := Try.prog) 23 2 (.int .i64 0) 8 Try.underlying23 info_i64w rfl .i64 .i64 n (by omega) (by omega) W
  have hmk2 := fun W => run_make_row' (P := Try.prog) 131 4 (.bool false) 1 Try.underlying131 info_bool rfl .i64 .i64 n (by omega) (by omega) W
  go_enter Try.func21, Try.ntmps21
  go_wp2_with (first
    | (go_at_call 59; refine (asked_any _ B _ _ _ _ J HR.out hB Hn.out).mono ?_; rintro e w1 ⟨rfl, hb1⟩; rw [Hjc.out]; have Hb1 := Lib.hid hb1; clear hb1))
  have hst0 : WkSt w ((w1.alloc (.cells (madeCells #[.int .i64 0] n) 2)).alloc (.cells (madeCells #[.bool false] n) 4)) w1.heap.size (List.replicate n 0) (List.replicate n false) := by
    refine ⟨(Blk.newArr w1 _ (by rw [made_one, ints_rep])).alloc _, ?_, (Hb1.out.alloc (Hb1.out.size) _).alloc (by have := Hb1.out.size; simp; omega) _, Hb1.out.size⟩
    have := Blk.newArr (w1.alloc (.cells (madeCells #[.int .i64 0] n) 2)) 4 (cs := madeCells #[.bool false] n) (vs := bools (List.replicate n false)) (by rw [made_one, bools_rep])
    simpa using this
  have Hst0 := Lib.hid hst0; clear hst0
  generalize (w1.alloc (.cells (madeCells #[.int .i64 0] n) 2)).alloc (.cells (madeCells #[.bool false] n) 4) = w3 at Hst0 ⊢
  have hz1 : (w1.alloc (.cells (madeCells #[.int .i64 0] n) 2)).heap.size = w1.heap.size + 1 := by simp
  try rw [hz1]
  clear hz1
  generalize w1.heap.size = g at Hst0 ⊢
  go_loopw [9, 10, 11] (fun left _ _ wr => ∃ (bs : List Bool) (outs : List Int), Wd J bs outs ∧ left = .int .i64 (undone bs : Nat) ∧ WkSt w wr g outs bs) (fun left _ _ _ => (intOf left).toNat)
  case atStart =>
    exact ⟨List.replicate n false, List.replicate n 0, ⟨⟨by rw [Hn.out]; simp, fun i _ h => by simp [List.getElem?_replicate] at h; split at h <;> simp_all⟩, by rw [Hn.out]; simp, fun i _ h => by simp [List.getElem?_replicate] at h; split at h <;> simp_all⟩, by rw [undone_rep], Hst0.out⟩
  case round =>
    obtain ⟨bs, outs, hwd, rfl, hst⟩ := hrel
    have Hwd := Lib.hid hwd; clear hwd
    have Hst := Lib.hid hst; clear hst
    have hbl : bs.length = n := by have := Hwd.out.sw.len; have := Hn.out; omega
    have hu : undone bs ≤ n := by have := List.countP_le_length (p := fun x => x == false) (l := bs); unfold undone; omega
    have Hbl := Lib.hid hbl; clear hbl
    by_cases hz : 0 < undone bs
    · go_wp2
      obtain ⟨wo, rfl⟩ : ∃ wo : World, wo = wr := ⟨_, rfl⟩
      go_loopw [9, 10, 11] (fun left i _ wr => ∃ (bs' : List Bool) (outs' : List Int) (k : Nat), k ≤ n ∧ i = .int .i64 k ∧ Wd J bs' outs' ∧ left = .int .i64 (undone bs' : Nat) ∧ WkSt w wr g outs' bs' ∧ undone bs' ≤ undone bs ∧ (undone bs' = undone bs → bs' = bs ∧ ∀ (i : Nat), i < k → bs.getD i false = false → allIn bs (aft J i) = false)) (fun _ i _ _ => n - (intOf i).toNat)
      case atStart => exact ⟨bs, outs, 0, by omega, rfl, Hwd.out, rfl, Hst.out, Nat.le_refl _, fun _ => ⟨rfl, fun i h => absurd h (by omega)⟩⟩
      case round =>
        obtain ⟨bs', outs', q, hq, rfl, hwd', rfl, hst', hle, heq⟩ := hrel
        have hbl' : bs'.length = n := by have := hwd'.sw.len; have := Hn.out; omega
        have hol' : outs'.length = n := by have := hwd'.len; have := Hn.out; omega
        have hu' : undone bs' ≤ n := by have := List.countP_le_length (p := fun x => x == false) (l := bs'); unfold undone; omega
        by_cases hqn : q < n
        · have hqJ : q < J.length := by have := Hn.out; omega
          have hqb : q < bs'.length := by omega
          have hqo : q < outs'.length := by omega
          obtain ⟨ob, oo, rfl, _, c0, c1, c2, c3⟩ := (HR.out.below (hst'.below.mono hB)).at_ hqJ
          have hcb := hst'.done.atBool hqb
          have hcf := hst'.done.frozen q
          have hof := hst'.out.frozen q
          have hco := hst'.out.cell q
          have hrd := ((HR.out.below (hst'.below.mono hB)).after q hqJ)
          have hsm := HR.out.small q hqJ
          have hin : ∀ a ∈ J[q].after, okIn n a := fun a ha => Hn.out ▸ (Hgood.out.ok q hqJ).2 a ha
          have haft : aft J q = J[q].after := aft_eq hqJ
          have hnum : numJ J q = J[q].n := numJ_eq hqJ
          have hshort := Hgood.out.short q hqJ
          generalize hj : J[q] = j at *
          have Hj := Lib.hid hj; clear hj
          have Hwd' := Lib.hid hwd'; clear hwd'
          have Hst' := Lib.hid hst'; clear hst'
          have Hle := Lib.hid hle; clear hle
          have Heq := Lib.hid heq; clear heq
          have Hin := Lib.hid hin; clear hin
          have Haft := Lib.hid haft; clear haft
          have Hnum := Lib.hid hnum; clear hnum
          have Hrd := Lib.hid hrd; clear hrd
          have Hbl' := Lib.hid hbl'; clear hbl'
          have Hol' := Lib.hid hol'; clear hol'
          cases hbq : bs'[q] with
          | true =>
            rw [hbq] at hcb
            have Hbq := Lib.hid hbq; clear hbq
            clear hco
            go_wp2
            go_roundw
            case rel =>
              refine ⟨bs', outs', q + 1, by omega, by go_num, Hwd'.out, rfl, Hst'.out, Hle.out, fun hb => ⟨(Heq.out hb).1, fun i hi hf => ?_⟩⟩
              by_cases e : i = q
              · subst e
                have := (Heq.out hb).1
                subst this
                have := Hbq.out
                simp [hqb, this] at hf
              · exact (Heq.out hb).2 i (by omega) hf
            case measure => simp [intOf]; omega
          | false =>
            rw [hbq] at hcb
            have Hbq := Lib.hid hbq; clear hbq
            cases hall2 : allIn bs' j.after with
            | false =>
              have Hall2 := Lib.hid hall2; clear hall2
              clear hco
              go_wp2_with (first | (go_at_call 60; refine (allDone_b false _ B _ _ _ _ _ _ _ j.after bs' Hrd.out Hst'.out.done.rd rfl Hbl'.out hsm (by unfold Fits; omega) Hin.out Hall2.out).mono ?_; rintro e w' ⟨rfl, rfl⟩))
              go_roundw
              case rel =>
                refine ⟨bs', outs', q + 1, by omega, by go_num, Hwd'.out, rfl, Hst'.out, Hle.out, fun hb => ⟨(Heq.out hb).1, fun i hi hf => ?_⟩⟩
                by_cases e : i = q
                · subst e
                  rw [Haft.out, ← (Heq.out hb).1]
                  exact Hall2.out
                · exact (Heq.out hb).2 i (by omega) hf
              case measure => simp [intOf]; omega
            | true =>
              have Hall2 := Lib.hid hall2; clear hall2
              have hus := undone_set hqb Hbq.out
              have Hus := Lib.hid hus; clear hus
              have hupos : 0 < undone bs' := by have := Hus.out; omega
              have hco1 : wr.cell? ⟨g, q, none⟩ = some (.int .i64 outs'[q]) := by rw [hco]; simp [ints, hqo]
              clear hco
              have hst1 := Hst'.out.setOut rfl Hst'.out.below q (numJ J q)
              rw [Hnum.out] at hst1
              have Hst1 := Lib.hid hst1; clear hst1
              go_wp2_with (first | (go_at_call 60; refine (allDone_b true _ B _ _ _ _ _ _ _ j.after bs' Hrd.out Hst'.out.done.rd rfl Hbl'.out hsm (by unfold Fits; omega) Hin.out Hall2.out).mono ?_; rintro e w' ⟨rfl, rfl⟩))
              obtain ⟨wo2, rfl⟩ : ∃ wo2 : World, wo2 = wr := ⟨_, rfl⟩
              go_loopw [11] (fun k wr => ∃ m : Nat, m ≤ j.after.length ∧ k = .int .i64 m ∧ WkSt w wr g (outs'.set q (foldJ J q m)) bs') (fun k _ => j.after.length - (intOf k).toNat)
              case atStart =>
                refine ⟨0, by omega, rfl, ?_⟩
                have := Hst1.out
                unfold foldJ
                rw [List.take_zero, List.foldl_nil, Hnum.out]
                exact this
              case round =>
                obtain ⟨m, hm, rfl, hst2⟩ := hrel
                have hrd2 := ((HR.out.below (hst2.below.mono hB)).after q hqJ)
                obtain ⟨ob2, oo2, hA2, _, -, -, c22, -⟩ := (HR.out.below (hst2.below.mono hB)).at_ hqJ
                cases hA2
                rw [Hj.out] at hrd2 c22
                by_cases hmj : m < j.after.length
                · obtain ⟨ab, ao, hsA, _, ca⟩ := hrd2.atMap hmj
                  rw [hsA] at c22
                  obtain ⟨a0, a1⟩ := Hin.out _ (List.getElem_mem hmj)
                  have hmem : j.after[m] ∈ j.after := List.getElem_mem hmj
                  generalize hx : j.after[m] = x at *
                  obtain ⟨y, rfl⟩ := Int.eq_ofNat_of_zero_le a0
                  have hyn : y < n := by omega
                  have hyo : y < outs'.length := by have := Hol'.out; omega
                  have hdone : bs'.getD y false = true := by
                    have := (List.all_eq_true.1 Hall2.out) _ hmem
                    simpa using this
                  have hyq : y ≠ q := fun e => by
                    subst e
                    rw [List.getD_eq_getElem?_getD, List.getElem?_eq_getElem hqb, Option.getD_some, Hbq.out] at hdone
                    cases hdone
                  have hcq : wr.cell? ⟨g, q, none⟩ = some (.int .i64 (foldJ J q m)) := by
                    rw [hst2.out.cell q]; simp [ints, hqo]
                  have hzq := hst2.out.frozen q
                  have hcy : wr.cell? ⟨g, y, none⟩ = some (.int .i64 (valJ J y)) := by
                    have := Hwd'.out.val y (by have := Hn.out; omega) hdone
                    rw [List.getD_eq_getElem?_getD, List.getElem?_eq_getElem hyo, Option.getD_some] at this
                    rw [hst2.out.cell y]; simp [ints, hyo, List.getElem_set, Ne.symm hyq, this]
                  have hfold : foldJ J q (m + 1) = step31 (foldJ J q m) (valJ J y) := by
                    unfold foldJ
                    have hlt : m < (aft J q).length := by rw [Haft.out]; exact hmj
                    rw [List.take_succ_eq_append_getElem hlt, List.foldl_append]
                    have : (aft J q)[m] = (y : Int) := by rw [List.getElem_of_eq Haft.out]; exact hx
                    rw [this]
                    rfl
                  have Hfold := Lib.hid hfold; clear hfold
                  have Hst2 := Lib.hid hst2; clear hst2
                  have Hx := Lib.hid hx; clear hx
                  clear hrd2 hsA a0 a1 hmem hdone
                  go_wp2
                  refine rf16_wp (gN := g) (n := n) (i := q) (nc := n) (c := c) (jb := ob) (jo := oo) (ln := j.after.length) (sc := j.sc) (q := m) (ab := ab) (ao := ao) (y := y) (x := foldJ J q m) (v := valJ J y) (by kernel_rfl) rfl rfl rfl rfl rfl hqn hmj hyn hcq hzq c22 ca hcy fun w5 h5 h6 => ?_
                  have hst5 := Hst2.out.setOut h5 (below_heap Hst2.out.below h5 h6) q (step31 (foldJ J q m) (valJ J y))
                  rw [List.set_set, ← Hfold.out] at hst5
                  have Hst5 := Lib.hid hst5; clear hst5
                  rw [← Hfold.out]
                  generalize w5.setCell ⟨g, q, none⟩ (.int .i64 (foldJ J q (m + 1))) = w6 at Hst5 ⊢
                  rw [show List.range 20 = [0, 1, 2, 3, 4, 5, 6, 7, 8, 9, 10, 11, 12, 13, 14, 15, 16, 17, 18, 19] from rfl]
                  simp only [putsV, V16, List.getElem?_toArray, List.getElem?_cons_succ, List.getElem?_cons_zero, Option.bind_some]
                  go_simp
                  go_wp2
                  go_roundw
                  case rel => exact ⟨m + 1, by omega, by go_num, Hst5.out⟩
                  case measure => simp [intOf]; omega
                · have hme : m = j.after.length := by omega
                  have hfin : foldJ J q m = valJ J q := by
                    rw [valJ_eq Hgj.out.can hqJ]
                    unfold foldJ
                    rw [List.take_of_length_le (by rw [Haft.out]; omega)]
                  rw [hfin] at hst2
                  have hfz := hst2.done.frozen q
                  have hcd := hst2.done.atBool hqb
                  have hst3 := hst2.setDone q
                  have Hst3 := Lib.hid hst3; clear hst3 hst2
                  clear hrd2 hfin
                  go_wp2
                  go_roundw
                  case rel =>
                    refine ⟨bs'.set q true, outs'.set q (valJ J q), q + 1, by omega, by go_num, Hwd'.out.set Hgj.out hqJ (by rw [Haft.out]; exact Hall2.out), ?_, Hst3.out, ?_, fun h => ?_⟩
                    · exact congrArg (Value.int .i64) (by have := Hus.out; omega)
                    · have := Hus.out; have := Hle.out; omega
                    · exfalso; have := Hus.out; have := Hle.out; omega
                  case measure => simp [intOf]; omega
        · go_wp2
          have Heq := Lib.hid heq
          have hstrict : undone bs' < undone bs := by
            refine Nat.lt_of_le_of_ne hle fun e => ?_
            obtain ⟨h1, h2⟩ := Heq.out e
            obtain ⟨i, hi, he⟩ := undone_pos hz
            have := swept_end Hwd.out.sw Hgood.out.ok (fun i hi hf => h2 i (by have := Hn.out; omega) hf) i (Hgood.out.can i (by have := Hwd.out.sw.len; omega))
            simp [hi, he] at this
          exact ⟨⟨bs', outs', hwd', rfl, hst'⟩, by simp [intOf]; omega⟩
    · have hu0 : undone bs = 0 := by omega
      have hend := wd_end Hwd.out hu0
      have Hend := Lib.hid hend; clear hend
      go_wp2
      go_ret2
      refine ⟨.slice (some ⟨g, 0, none⟩) n n, by rw [Hjc.out]; rfl, Hst.out.below, fun h => absurd Hjc.out h, fun _ => ⟨g, by rw [Hn.out], Hst.out.hg, ?_⟩⟩
      rw [← Hend.out]
      exact Hst.out.out
end Go.Proofs.Yticdjkkcfdbdcaa
