/- The contract of stepref.Parsed. No conditions but the text's length, and that the errors of strconv are there. -/
import Derived.Test.YtgiceeholamphaaDoorPu
import Derived.Test.YtgiceeholamphaaDoorRead
import Derived.Test.YtgiceeholamphaaDoorPrM
import Derived.RegionTactic
namespace Go.Proofs.YtgiceeholamphaaDoor
open Go.ChangeShapes Go.WideShapes Go.ChangeAt Go.RowKit Go.Maps

/-- What stands below, and Parsed's fault. -/
structure PB (w wr : World) (f0 f1 : Value) : Prop where
  below : Below w.heap.size w wr
  bf : Blk wr w.heap.size 30 [f0, f1]
section
variable {w wr w' : World} {f0 f1 : Value}
theorem PB.grown {g : Nat} (h : PB w wr f0 f1) (hg : wr.grownBy w' (some g)) (hgl : w.heap.size < g) : PB w w' f0 f1 :=
  ⟨h.below.grown hg h.below.size (fun k e => by cases e; omega), h.bf.grown hg (by intro e; cases e; omega)⟩
theorem PB.kept {B : Nat} (h : PB w wr f0 f1) (hb : Below B wr w') (hB : w.heap.size < B) : PB w w' f0 f1 := ⟨h.below.trans (hb.mono (by omega)), h.bf.below hb hB⟩
theorem PB.setF (h : PB w wr f0 f1) (a b : Value) : PB w ((wr.setCell ⟨w.heap.size, 0, none⟩ a).setCell ⟨w.heap.size, 1, none⟩ b) a b :=
  ⟨(h.below.setCell (p := ⟨w.heap.size, 0, none⟩) (Nat.le_refl _) _).setCell (p := ⟨w.heap.size, 1, none⟩) (Nat.le_refl _) _, by simpa using (h.bf.set_ 0 a).set_ 1 b⟩
theorem PB.ret (h : PB w wr f0 f1) {R : Ending → World → Prop} {a : Act} {v : Value} (h2 : a.tmps[2]?.getD undef = v) (h3 : a.tmps[3]?.getD undef = .pointer (some ⟨w.heap.size, 0, none⟩)) (hd : a.defers = []) (hR : R (.returned (.tuple #[v, .agg #[f0, f1]])) wr) :
    bodyPost Tryd.prog Tryd.f12 R .ret a wr := by
  have c1 : wr.cell? ⟨w.heap.size, 0, none⟩ = some f0 := h.bf.cell 0
  have c2 : wr.cell? ⟨w.heap.size, 1, none⟩ = some f1 := h.bf.cell 1
  exact bodyPost_ret (v := .tuple #[v, .agg #[f0, f1]]) (by simp [results, Tryd.results12, h2, h3, go_sem, c1, c2]) hd hR
end
set_option maxRecDepth 100000 in
set_option maxHeartbeats 8000000 in
theorem parsed_any (s : ByteArray) (w : World) (hs : s.size ≤ 1048576) (hE : Errs w) (f : Nat) (rl : PR (List StatR)) (hr : (gram f).list [] (toksAt s.data.toList 0) = some rl) :
    Calls Tryd.prog 12 #[.string s] w (ReadPost (outOf rl) w) := by
  obtain ⟨W2, hW2⟩ : ∃ W2, (w.alloc (.cells #[.int .i64 0, .int .i64 0] 30)).alloc (.cells #[.string s, .int .i64 0, .bool false] 67) = W2 := ⟨_, rfl⟩
  have hlow : 3 < w.heap.size ∧ 4 < w.heap.size := by
    obtain ⟨⟨t1, p1, h1⟩, ⟨t2, p2, h2⟩⟩ := hE
    exact ⟨World.block_lt_of_cell? w _ h1, World.block_lt_of_cell? w _ h2⟩
  have hP : PB w W2 (.int .i64 0) (.int .i64 0) := by
    subst hW2
    exact ⟨((Below.refl _ _).alloc (Nat.le_refl _) _).alloc (by simp) _, (Blk.newArr _ _ rfl).alloc _⟩
  have hA : PAt W2 (w.heap.size + 1) s (.go (toksAt s.data.toList 0)) := by
    subst hW2
    refine ⟨⟨0, Nat.zero_le _, by simp, ?_⟩, ?_, ⟨by omega, by omega⟩, hs⟩
    · have := Blk.newArr (w.alloc (.cells #[.int .i64 0, .int .i64 0] 30)) 67 (cs := #[.string s, .int .i64 0, .bool false]) (vs := [.string s, .int .i64 0, .bool false]) rfl
      simpa using this
    · obtain ⟨⟨t1, p1, h1⟩, ⟨t2, p2, h2⟩⟩ := hE
      have hb : Below w.heap.size w ((w.alloc (.cells #[.int .i64 0, .int .i64 0] 30)).alloc (.cells #[.string s, .int .i64 0, .bool false] 67)) := ((Below.refl _ _).alloc (Nat.le_refl _) _).alloc (by simp) _
      exact ⟨⟨t1, p1, (hb.cell (p := ⟨3, 0, none⟩) hlow.1).trans h1⟩, ⟨t2, p2, (hb.cell (p := ⟨4, 0, none⟩) hlow.2).trans h2⟩⟩
  have hl := (CP_all f).list W2 (w.heap.size + 1) s (.go (toksAt s.data.toList 0)) rl hA hr
  have hfew := (gram_few f).list _ _ _ hr
  have hlen := toksAt_len s.data.toList 0
  have HH := Lib.hid (And.intro hP (And.intro hl (And.intro hfew hlen))); clear hP hl hA hr hE hfew hlen
  have hg : w.heap.size + 1 < W2.heap.size := by rw [← hW2]; simp
  go_enter Tryd.func12, Tryd.ntmps12
  go_upto_region 3 with (go_at_call 28; (
    refine (show Calls _ _ _ _ _ from HH.out.2.1).mono ?_
    rintro E w3 ⟨hg3, hA3, v, rfl, k, rfl, hkl, hke⟩
    have hP3 := HH.out.1.grown hg3 (by omega)
    have H3 := Lib.hid (And.intro hP3 (And.intro hA3 (And.intro hkl hke))); clear hP3 hA3 hkl hke hg3
    simp only [BlockR.val]))
  obtain ⟨a, b, ha, hb, hst⟩ := H3.out.2.1.raw
  have hnx := next_any w3 (w.heap.size + 1) s a b hb ha hs
  have hno := no_any w3 (w.heap.size + 1) s _ H3.out.2.1
  obtain ⟨u, hu⟩ : ∃ u, (tokAt s a).1 = u := ⟨_, rfl⟩
  cases rl with
  | no n =>
    have hoo : outOf (.no n) = .syn n := rfl
    by_cases hue : u = []
    · rw [hu, hue] at hnx
      have HN := Lib.hid (And.intro hnx hno); clear hnx hno hb hst
      go_upto_region 6 with (go_at_call 29; (
          refine (show Calls _ _ _ _ _ from HN.out.1).mono ?_
          rintro E w4 ⟨rfl, rfl⟩))
      have hPf := (And.intro H3.out.1 H3.out.2.1).1
      have hAf : PAt w3 (w.heap.size + 1) s (.no n) := (And.intro H3.out.1 H3.out.2.1).2
      clear H3 HN
      obtain ⟨hnl, hbl⟩ := hAf.st_
      have y1 := hbl.cell 1
      have y2 := hbl.cell 2
      have z0 := hPf.bf.frozen 0
      have z1 := hPf.bf.frozen 1
      have v0 := hPf.bf.cell 0
      have v1 := hPf.bf.cell 1
      simp only [List.getElem?_cons_zero, List.getElem?_cons_succ] at y1 y2 v0 v1
      have HZ := Lib.hid hPf; clear hPf hAf hbl
      go_wp2_with fail
      go_region
      all_goals (
        go_wp2_with fail
        refine ((PB.kept HZ.out ((Below.refl _ _).drew (B := w3.heap.size)) HZ.out.bf.lt).setF (.int .i64 6) (.int .i64 (n : Int))).ret rfl rfl rfl ?_
        rw [hoo]
        exact ⟨((PB.kept HZ.out ((Below.refl _ _).drew (B := w3.heap.size)) HZ.out.bf.lt).setF (.int .i64 6) (.int .i64 (n : Int))).below, rfl⟩)
    · have hse1 : u.isEmpty = false := by cases u with | nil => exact absurd rfl hue | cons _ _ => rfl
      rw [hu] at hnx
      have HN := Lib.hid (And.intro hnx hno); clear hnx hno hb hst
      go_upto_region 6 with (first
        | (go_at_call 29; (
            refine (show Calls _ _ _ _ _ from HN.out.1).mono ?_
            rintro E w4 ⟨rfl, rfl⟩))
        | (go_at_call 30; (
            refine (show Calls _ _ _ _ _ from HN.out.2).mono ?_
            rintro E w5 ⟨hg5, hA5, rfl⟩
            have hP5 := H3.out.1.grown hg5 (by omega)
            have H5 := Lib.hid (And.intro hP5 hA5); clear hP5 hA5 hg5)))
      have hPf := H5.out.1
      have hAf : PAt w5 (w.heap.size + 1) s (.no n) := H5.out.2
      clear H3 HN
      obtain ⟨hnl, hbl⟩ := hAf.st_
      have y1 := hbl.cell 1
      have y2 := hbl.cell 2
      have z0 := hPf.bf.frozen 0
      have z1 := hPf.bf.frozen 1
      have v0 := hPf.bf.cell 0
      have v1 := hPf.bf.cell 1
      simp only [List.getElem?_cons_zero, List.getElem?_cons_succ] at y1 y2 v0 v1
      have HZ := Lib.hid hPf; clear hPf hAf hbl
      go_wp2_with fail
      go_region
      all_goals (
        go_wp2_with fail
        refine ((PB.kept HZ.out ((Below.refl _ _).drew (B := w5.heap.size)) HZ.out.bf.lt).setF (.int .i64 6) (.int .i64 (n : Int))).ret rfl rfl rfl ?_
        rw [hoo]
        exact ⟨((PB.kept HZ.out ((Below.refl _ _).drew (B := w5.heap.size)) HZ.out.bf.lt).setF (.int .i64 6) (.int .i64 (n : Int))).below, rfl⟩)
  | ok l ts =>
    have htt : hd ts = tokAt s a := by
      rcases hst with ⟨e, _⟩ | ⟨e, _⟩
      · cases e
      · cases e; rfl
    by_cases hue : u = []
    · have hk : isTok [] ts = true := by unfold isTok; rw [htt, hu, hue]; rfl
      have hoo : outOf (.ok l ts) = if wrong l = 0 then .fine l else .large := by simp only [outOf]; rw [if_pos hk]
      rw [hu, hue] at hnx
      have hcost := HH.out.2.2.1
      simp only [Cost, nodesS, Nat.zero_add] at hcost
      have hlen := HH.out.2.2.2
      have hc1 := PAt.count H3.out.2.1
      have hpl : plainS k.l = l := H3.out.2.2.2 l rfl
      have hkn : nodesS k.l ≤ 1048576 := by
        have e := plainS_nodes k.l
        rw [hpl] at e
        have hp : 1 ≤ ts.length := by
          have h2 := hc1.2
          cases ts with
          | nil => exact absurd rfl h2
          | cons _ _ => simp
        have hsz : s.data.toList.length = s.size := by simp
        omega
      have k2 := PAt.flag H3.out.2.1
      simp only [stOf, failed] at k2
      have hpg := program_any k w3 w3.heap.size H3.out.2.2.1.rd (Nat.le_refl _) hkn
      have HN := Lib.hid (And.intro hnx hpg); clear hnx hno hb hst hpg hcost hlen hc1
      by_cases hw : wrong l = 0
      · rw [if_pos hw] at hoo
        have hw' : wrong k.l = 0 := by rw [← wrong_bare, hpl]; exact hw
        go_wp2_with (first
          | (go_at_call 29; (
              refine (show Calls _ _ _ _ _ from HN.out.1).mono ?_
              rintro E w4 ⟨rfl, rfl⟩))
          | (go_at_call 7; (
              refine (show Calls _ _ _ _ _ from HN.out.2).mono ?_
              rintro E w5 ⟨rfl, hb5⟩
              rw [hw']
              have hP5 := H3.out.1.kept hb5 H3.out.1.bf.lt
              have z0 := hP5.bf.frozen 0
              have z1 := hP5.bf.frozen 1
              have v0 := hP5.bf.cell 0
              have v1 := hP5.bf.cell 1
              have H5 := Lib.hid (And.intro hP5 hb5); clear hP5 hb5)))
        refine (H5.out.1.setF (.int .i64 0) (.int .i64 0)).ret rfl rfl rfl ?_
        rw [hoo]
        have hl3 := H3.out.1.bf.lt
        refine ⟨(H5.out.1.setF (.int .i64 0) (.int .i64 0)).below, k, rfl, hpl, ?_⟩
        exact (((H3.out.2.2.1.go (S' := under (w.heap.size + 1)) (Stays.sub (by intro b _ hb; simp at hb ⊢; omega))).go (Stays.of_grown (S := under (w.heap.size + 1)) (grown_of_below H5.out.2 none) (by simp))).go ((Stays.set_ (by simp)).trans (Stays.set_ (by simp)))).go (Stays.sub (by intro b _ hb; simp at hb ⊢; omega))
      · rw [if_neg hw] at hoo
        have hw' : ¬ ((wrong k.l : Int) = 0) := by rw [← wrong_bare, hpl]; omega
        have hpg := HN.out.2
        unfold ProgPost at hpg
        generalize wrong k.l = x at *
        have HM := Lib.hid hpg; clear hpg
        go_wp2_with (first
          | (go_at_call 29; (
              refine (show Calls _ _ _ _ _ from HN.out.1).mono ?_
              rintro E w4 ⟨rfl, rfl⟩))
          | (go_at_call 7; (
              refine (show Calls _ _ _ _ _ from HM.out).mono ?_
              rintro E w5 ⟨rfl, hb5⟩
              have hP5 := H3.out.1.kept hb5 H3.out.1.bf.lt
              have z0 := hP5.bf.frozen 0
              have z1 := hP5.bf.frozen 1
              have v0 := hP5.bf.cell 0
              have v1 := hP5.bf.cell 1
              have H5 := Lib.hid (And.intro hP5 hb5); clear hP5 hb5)))
        refine (H5.out.1.setF (.int .i64 2) (.int .i64 0)).ret rfl rfl rfl ?_
        rw [hoo]
        exact ⟨(H5.out.1.setF (.int .i64 2) (.int .i64 0)).below, rfl⟩
    · have hk : ¬ isTok [] ts = true := by unfold isTok; rw [htt, hu]; simpa using hue
      have hoo : outOf (.ok l ts) = .syn (hd ts).2 := by simp only [outOf]; rw [if_neg hk]
      have hse1 : u.isEmpty = false := by cases u with | nil => exact absurd rfl hue | cons _ _ => rfl
      rw [hu] at hnx
      have HN := Lib.hid (And.intro hnx hno); clear hnx hno hb hst htt hk
      go_upto_region 6 with (first
        | (go_at_call 29; (
            refine (show Calls _ _ _ _ _ from HN.out.1).mono ?_
            rintro E w4 ⟨rfl, rfl⟩))
        | (go_at_call 30; (
            refine (show Calls _ _ _ _ _ from HN.out.2).mono ?_
            rintro E w5 ⟨hg5, hA5, rfl⟩
            have hP5 := H3.out.1.grown hg5 (by omega)
            have H5 := Lib.hid (And.intro hP5 hA5); clear hP5 hA5 hg5)))
      have hPf := H5.out.1
      have hAf : PAt w5 (w.heap.size + 1) s (.no (hd ts).2) := H5.out.2
      clear H3 HN
      obtain ⟨hnl, hbl⟩ := hAf.st_
      have y1 := hbl.cell 1
      have y2 := hbl.cell 2
      have z0 := hPf.bf.frozen 0
      have z1 := hPf.bf.frozen 1
      have v0 := hPf.bf.cell 0
      have v1 := hPf.bf.cell 1
      simp only [List.getElem?_cons_zero, List.getElem?_cons_succ] at y1 y2 v0 v1
      have HZ := Lib.hid hPf; clear hPf hAf hbl
      go_wp2_with fail
      go_region
      all_goals (
        go_wp2_with fail
        refine ((PB.kept HZ.out ((Below.refl _ _).drew (B := w5.heap.size)) HZ.out.bf.lt).setF (.int .i64 6) (.int .i64 ((hd ts).2 : Int))).ret rfl rfl rfl ?_
        rw [hoo]
        exact ⟨((PB.kept HZ.out ((Below.refl _ _).drew (B := w5.heap.size)) HZ.out.bf.lt).setF (.int .i64 6) (.int .i64 ((hd ts).2 : Int))).below, rfl⟩)
end Go.Proofs.YtgiceeholamphaaDoor
