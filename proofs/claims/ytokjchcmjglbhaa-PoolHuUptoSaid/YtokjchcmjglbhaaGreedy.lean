/- The contract of pool.Greedy: HU's rounds, deepest first. No conditions but that what is read is there, and that its nodes can be counted. -/
import Derived.Test.YtokjchcmjglbhaaCheck
import Derived.Test.YtokjchcmjglbhaaGreedyM
import Derived.Test.YtokjchcmjglbhaaSortL
import Derived.Test.YtokjchcmjglbhaaSmall
namespace Go.Proofs.Ytokjchcmjglbhaa
open Go.ChangeShapes Go.WideShapes Go.ChangeAt Go.RowKit

def TopPost (W : World) (t : TreeR) (e : Ending) (w' : World) : Prop :=
  ∃ lb cc, e = .returned (.slice (some ⟨lb, 0, none⟩) t.nodes cc) ∧ W.heap.size ≤ lb ∧ lb < w'.heap.size ∧ RowS w' lb t.nodes (parOf t) (depOf t) (kidsN t.nodes (parOf t) fun _ => true) ∧ Below W.heap.size W w'
theorem spots_top (W : World) (B : Nat) (t : TreeR) (hR : RdT W B t) (hB : B ≤ W.heap.size) (hn : t.nodes ≤ 1048576) :
    Calls Try.prog 11 #[t.val, .int .i64 1, .int .i64 (-1), .slice none 0 0] W (TopPost W t) := by
  have h := spots_any t.nodes t W B W.heap.size 1 (-1) (.slice none 0 0) [] (Nat.le_refl _) hR hB (Nat.le_refl _) (by simpa using hn) (by omega) (World.ownsRow_nil W _ _ _)
  refine Calls.mono h ?_
  rintro e w' ⟨v', rfl, hown, hmv⟩
  simp only [List.length_nil, Nat.zero_add, List.nil_append] at hown
  obtain ⟨lb, cc, rfl, h1, h2, _, h3⟩ := rowS_of_spots hown
  exact ⟨lb, cc, rfl, h1, h2, h3, hmv.below (Nat.le_refl _) (fun g hg => by cases hg)⟩
def GreedyPost (w : World) (t : TreeR) (wk : Int) (e : Ending) (w' : World) : Prop :=
  Below w.heap.size w w' ∧ ((∃ c : Int, c ≠ 0 ∧ e = .returned (.tuple #[.int .i64 0, .int .i64 c]) ∧ ((AllOk t ∧ t.nodes ≤ 100000 ∧ t.depth ≤ 100) → ¬ (1 ≤ wk ∧ wk ≤ 16))) ∨
    (1 ≤ wk ∧ wk ≤ 16 ∧ ∃ r : Nat, e = .returned (.tuple #[.int .i64 r, .int .i64 0]) ∧ HuRun t.nodes wk.toNat (parOf t) (depOf t) (fun _ => true) r))
set_option maxRecDepth 100000 in
set_option maxHeartbeats 1000000 in
theorem greedy_any (w : World) (B : Nat) (t : TreeR) (wk : Int) (hR : RdT w B t) (hB : B ≤ w.heap.size) (hn : t.nodes ≤ 1048576) :
    Calls Try.prog 5 #[t.val, .int .i64 wk] w (GreedyPost w t wk) := by
  have hc := fun (W : World) (h : Below w.heap.size w W) => check_any W B t (hR.under (h.mono hB)) (Nat.le_trans hB h.size) hn
  have hs := fun (W : World) (h : Below w.heap.size w W) => spots_top W B t (hR.under (h.mono hB)) (Nat.le_trans hB h.size) hn
  have hf := forest t
  have HX := Lib.hid (And.intro hc (And.intro hs hf))
  clear hc hs hf
  have Hn := Lib.hid hn; clear hn hR
  have hn1 := nodes_eq t
  have hn0 : 0 < t.nodes := by omega
  clear hn1
  obtain ⟨n, hnn⟩ : ∃ n, t.nodes = n := ⟨_, rfl⟩
  rw [hnn] at hn0
  have Hnn := Lib.hid hnn; clear hnn
  obtain ⟨kind, tn, sA, sc, kids⟩ := t
  show Calls Try.prog 5 #[.agg #[.int .i64 kind, .int .i64 tn, .slice sA kids.length sc], .int .i64 wk] w _
  have hb0 : Below w.heap.size w (w.alloc (.cells #[.int .i64 kind, .int .i64 tn, .slice sA kids.length sc] 24)) := (Below.refl _ _).alloc (Nat.le_refl _) _
  have Hb0 := Lib.hid hb0; clear hb0
  by_cases hw1 : wk < 1
  · go_enter Try.func5, Try.ntmps5
    go_wp2_with (first
      | (go_at_call 9; (
         refine (HX.out.1 _ Hb0.out).mono ?_
         rintro e w1 ⟨hb1, c, rfl, hc3, hc0⟩
         have k0 : w1.cell? ⟨w.heap.size, 0, none⟩ = some (.int .i64 kind) := (hb1.cell (by simp)).trans (by rw [cell_of_row _ _ 0 _ _ (0, 0) (heap_alloc_new w _)]; rfl)
         have k1 : w1.cell? ⟨w.heap.size, 1, none⟩ = some (.int .i64 tn) := (hb1.cell (by simp)).trans (by rw [cell_of_row _ _ 1 _ _ (0, 0) (heap_alloc_new w _)]; rfl)
         have k2 : w1.cell? ⟨w.heap.size, 2, none⟩ = some (.slice sA kids.length sc) := (hb1.cell (by simp)).trans (by rw [cell_of_row _ _ 2 _ _ (0, 0) (heap_alloc_new w _)]; rfl)
         have hb1' := Hb0.out.trans (hb1.mono Hb0.out.size)
         have H1 := Lib.hid (And.intro hb1' (And.intro hc3 hc0)); clear hb1 hb1' hc3 hc0))
      | fail)
    all_goals
      go_ret2
      first
        | (have hcn : (c != 0) = true := by assumption
           exact ⟨H1.out.1, .inl ⟨c, bne_iff_ne.1 hcn, rfl, fun h => absurd (H1.out.2.2.2 h) (bne_iff_ne.1 hcn)⟩⟩)
        | exact ⟨H1.out.1, .inl ⟨1, by decide, rfl, fun _ => by omega⟩⟩
  by_cases hw2 : 16 < wk
  · go_enter Try.func5, Try.ntmps5
    go_wp2_with (first
      | (go_at_call 9; (
         refine (HX.out.1 _ Hb0.out).mono ?_
         rintro e w1 ⟨hb1, c, rfl, hc3, hc0⟩
         have k0 : w1.cell? ⟨w.heap.size, 0, none⟩ = some (.int .i64 kind) := (hb1.cell (by simp)).trans (by rw [cell_of_row _ _ 0 _ _ (0, 0) (heap_alloc_new w _)]; rfl)
         have k1 : w1.cell? ⟨w.heap.size, 1, none⟩ = some (.int .i64 tn) := (hb1.cell (by simp)).trans (by rw [cell_of_row _ _ 1 _ _ (0, 0) (heap_alloc_new w _)]; rfl)
         have k2 : w1.cell? ⟨w.heap.size, 2, none⟩ = some (.slice sA kids.length sc) := (hb1.cell (by simp)).trans (by rw [cell_of_row _ _ 2 _ _ (0, 0) (heap_alloc_new w _)]; rfl)
         have hb1' := Hb0.out.trans (hb1.mono Hb0.out.size)
         have H1 := Lib.hid (And.intro hb1' (And.intro hc3 hc0)); clear hb1 hb1' hc3 hc0))
      | fail)
    all_goals
      go_ret2
      first
        | (have hcn : (c != 0) = true := by assumption
           exact ⟨H1.out.1, .inl ⟨c, bne_iff_ne.1 hcn, rfl, fun h => absurd (H1.out.2.2.2 h) (bne_iff_ne.1 hcn)⟩⟩)
        | exact ⟨H1.out.1, .inl ⟨1, by decide, rfl, fun _ => by omega⟩⟩
  go_enter Try.func5, Try.ntmps5
  go_wp2_with (first
    | (go_at_call 9; (
       refine (HX.out.1 _ Hb0.out).mono ?_
       rintro e w1 ⟨hb1, c, rfl, hc3, hc0⟩
       have k0 : w1.cell? ⟨w.heap.size, 0, none⟩ = some (.int .i64 kind) := (hb1.cell (by simp)).trans (by rw [cell_of_row _ _ 0 _ _ (0, 0) (heap_alloc_new w _)]; rfl)
       have k1 : w1.cell? ⟨w.heap.size, 1, none⟩ = some (.int .i64 tn) := (hb1.cell (by simp)).trans (by rw [cell_of_row _ _ 1 _ _ (0, 0) (heap_alloc_new w _)]; rfl)
       have k2 : w1.cell? ⟨w.heap.size, 2, none⟩ = some (.slice sA kids.length sc) := (hb1.cell (by simp)).trans (by rw [cell_of_row _ _ 2 _ _ (0, 0) (heap_alloc_new w _)]; rfl)
       have hb1' := Hb0.out.trans (hb1.mono Hb0.out.size)
       have H1 := Lib.hid (And.intro hb1' (And.intro hc3 hc0)); clear hb1 hb1' hc3 hc0))
    | (go_at_call 11; (
       refine (HX.out.2.1 _ H1.out.1).mono ?_
       rintro e w2 ⟨lb, cc, rfl, hlb, hlb2, hrow, hb2⟩
       rw [Hnn.out]
       have hb2' := H1.out.1.trans (hb2.mono H1.out.1.size)
       have H2 := Lib.hid (And.intro hlb (And.intro hlb2 (And.intro hrow hb2'))); clear hb2 hb2' hrow hlb hlb2 k0 k1 k2))
    | fail)
  · rename_i hcn
    go_ret2
    exact ⟨H1.out.1, .inl ⟨c, bne_iff_ne.1 hcn, rfl, fun h => absurd (H1.out.2.2.2 h) (bne_iff_ne.1 hcn)⟩⟩
  · have HG : GS w (w2.alloc (.cells #[.slice (some ⟨lb, 0, none⟩) n cc] 38)) w2.heap.size lb n cc (parOf (.mk kind tn sA sc kids)) (depOf (.mk kind tn sA sc kids)) (kidsN n (parOf (.mk kind tn sA sc kids)) fun _ => true) (.slice none 0 0) [] := by
      obtain ⟨h1, h2, h3, h4⟩ := H2.out
      rw [Hnn.out] at h3
      have h5 := H1.out.1.size
      exact ⟨h4.alloc h4.size _, by rw [cell_of_row _ _ 0 _ _ (0, 0) (heap_alloc_new w2 _)]; rfl, h3.keep (Below.heap_alloc w2 _ lb h2), OffR.nil _ _, by omega, h2, by simp⟩
    have Hn5 := Lib.hid (show n ≤ 100000 by
      have h := (H1.out.2.2.1 (by simpa using ‹(c != 0) = false›)).2.1
      rw [Hnn.out] at h
      exact h)
    have HF := HX.out.2.2
    rw [Hnn.out] at HF
    obtain ⟨par, hpar⟩ : ∃ p, parOf (.mk kind tn sA sc kids) = p := ⟨_, rfl⟩
    obtain ⟨dep, hdep⟩ : ∃ p, depOf (.mk kind tn sA sc kids) = p := ⟨_, rfl⟩
    rw [hpar, hdep] at HG HF
    have Heq := Lib.hid (And.intro hpar hdep); clear hpar hdep
    generalize w2.alloc (.cells #[.slice (some ⟨lb, 0, none⟩) n cc] 38) = W2 at HG ⊢
    generalize w2.heap.size = bx at HG ⊢
    have HF := Lib.hid HF
    have HG := Lib.hid HG
    go_loopg [8, 31] n (fun gk v i wr => ∃ q : Nat, gk + q = n ∧ i = .int .i64 q ∧ GS w wr bx lb n cc par dep (kidsN n par fun _ => true) v (canOf (kidsN n par fun _ => true) q))
    case atStart => exact ⟨0, by omega, rfl, HG.out⟩
    case round =>
      obtain ⟨q, hgq, rfl, hgs⟩ := hrel
      by_cases hq : q < n
      · have c0 := hgs.row.dp hq
        have c1 := hgs.row.up hq
        have c2 := hgs.row.lft hq
        obtain ⟨A, c8, rfl, hlc, hcm⟩ := hgs.form
        have hlt := hgs.lt
        have hsz := hgs.hx
        have hlbx := hgs.hb
        have hbb : ¬ (lb = wr.heap.size) := by omega
        have hq5 : q < 100000 := by have := Hn5.out; omega
        have hqi : (q : Int) < n := by omega
        obtain ⟨dq, hdq⟩ : ∃ x, dep q = x := ⟨_, rfl⟩
        obtain ⟨pq, hpq⟩ : ∃ x, par q = x := ⟨_, rfl⟩
        obtain ⟨lq, hlq⟩ : ∃ x, kidsN n par (fun _ => true) q = x := ⟨_, rfl⟩
        rw [hdq] at c0
        rw [hpq] at c1
        rw [hlq] at c2
        have HB := Lib.hid (And.intro hgs (And.intro hlt (And.intro hlq (And.intro hlc hcm))))
        clear hgs hlt hdq hpq hlq hlc hcm
        by_cases hz : lq = 0
        · subst hz
          go_wp2_with (first
            | (at_builtin; (
               have hg2 := (HB.out.1.alloc (.cells #[.int .i64 dq, .int .i64 pq, .int .i64 0] 41)).alloc (.cells #[.int .i64 q] 3)
               refine wpList_append_off _ rfl (.tmp 39) (.tmp 41) rfl (bx + 1) _ _ rfl hg2.can q ⟨wr.heap.size + 1, 0, none⟩ rfl (by rw [cell_of_row _ _ 0 #[.int .i64 q] 3 (0, 0) (by have := heap_alloc_new (wr.alloc (.cells #[.int .i64 dq, .int .i64 pq, .int .i64 0] 41)) (.cells #[.int .i64 q] 3); simpa using this)]; rfl) (by rw [length_nats]; have := canOf_length (kidsN n par fun _ => true) q; omega) (by have := hg2.hx; omega) ?_
               intro v1 w3 hoff hg3 _
               have HB3 := Lib.hid (hg2.push (can' := canOf (kidsN n par fun _ => true) q ++ [q]) hg3 (by rw [nats_append]; exact hoff))
               clear hoff hg3 hg2))
            | fail)
          go_roundg (gk - 1)
          case measure => omega
          case rel => exact ⟨q + 1, by omega, by go_num, by rw [canOf_yes HB.out.2.2.1]; exact HB3.out⟩
        · go_wp2_with fail
          go_roundg (gk - 1)
          case measure => omega
          case rel => exact ⟨q + 1, by omega, by go_num, by rw [canOf_no (by rw [HB.out.2.2.1]; exact hz)]; exact HB.out.1.alloc _⟩
      · obtain rfl : n = q := by omega
        obtain ⟨A, c8, rfl, hlc, hcm⟩ := hgs.form
        have HB := Lib.hid (And.intro hgs (And.intro hlc hcm))
        clear hgs hlc hcm HG hgq hq
        go_wp2_with fail
        generalize hwr : wr = wq at HB ⊢
        clear hwr
        go_loopg [8, 11] n (fun gk v rr wr => ∃ r : Nat, gk + r = n ∧ rr = .int .i64 r ∧ GInv w wr bx lb n cc wk.toNat par dep gk r v)
        case atStart => exact ⟨0, by omega, rfl, _, _, _, HB.out.1, canOf_start, by rw [cnt_true]; exact Nat.le_refl _, fun r' h => by rw [Nat.zero_add]; exact h⟩
        case round =>
          obtain ⟨r, hgr, rfl, U, left, can, hgs, hgj, hcnt, hrun⟩ := hrel
          obtain ⟨A2, c2, rfl, hlc, hcm⟩ := hgs.form
          rcases Nat.eq_zero_or_pos can.length with hl0 | hlen
          · obtain rfl : can = [] := List.eq_nil_of_length_eq_zero hl0
            clear hl0
            have HQ := Lib.hid (And.intro hgs (And.intro hgj hrun))
            clear hgs hgj hrun hlc hcm HB
            go_wp2_with fail
            go_ret2
            have h := HQ.out.2.2 0 (.nil (HQ.out.2.1.over HF.out))
            exact ⟨HQ.out.1.below, .inr ⟨hw1, hw2, r, rfl, by rw [Hnn.out, Heq.out.1, Heq.out.2]; exact h⟩⟩
          · have hcl : can.length ≤ 100000 := by have h1 := hgj.length; have h2 := cnt_le U n; have h3 := Hn5.out; simp only [List.length_nil] at h1; omega
            have hr5 : r < 100000 := by have h1 := hgj.length; have h3 := Hn5.out; omega
            obtain ⟨g, o, c2', hv, hv2⟩ := hgs.can.cells 0 (by simpa using hlen)
            simp only [Value.slice.injEq, length_nats, true_and] at hv
            obtain ⟨rfl, rfl⟩ := hv
            clear hv2
            have hn1 : n - 1 + 1 = n := by omega
            have hsort := sort_any wr (bx + 1) bx lb cc (n - 1) (fun i => (dep i : Int)) (some ⟨g, o, none⟩) c2 can hgs.can hlen (by omega) (fun x hx => by rw [hn1]; exact ((hgj.mem x).1 (by simpa using hx)).1) hgs.hx (by have := hgs.hx; have := hgs.hb; omega) (by omega) (by have := hgs.hb; omega) (by rw [hn1]; exact hgs.box) (fun i hi => hgs.row.dp (by omega))
            obtain ⟨mm, hmm⟩ : ∃ k, min wk.toNat can.length = k := ⟨_, rfl⟩
            have hmn : min wk (can.length : Int) = (mm : Int) := by omega
            have hm1 : mm ≤ c2 := by omega
            have hm2 : mm ≤ can.length := by omega
            have hm3 : 0 < mm := by omega
            have HQ := Lib.hid (And.intro hgs (And.intro hgj (And.intro hrun (And.intro hsort (And.intro hlc (And.intro hcm hmm))))))
            have hcl0 : (0 : Int) < can.length := by omega
            clear hgs hgj hrun hlc hcm hsort HB hn1 hmm
            go_wp2_with (first
              | (go_at_call 12; (
                 refine HQ.out.2.2.2.1.mono ?_
                 rintro e w3 ⟨rfl, S, hperm, hsorted, hoff, hgrown⟩
                 have hgs3 := HQ.out.1.push hgrown hoff
                 have H3 := Lib.hid (And.intro hgs3 (And.intro hperm hsorted))
                 clear hoff hgrown hgs3 hperm hsorted))
              | (go_at_call 16; (
                 have hSl : S.length = can.length := H3.out.2.1.length_eq
                 have hT : (nats (S.take mm)).length = mm := by rw [length_nats, List.length_take]; omega
                 have hcells : ∀ (j : Nat) (h : j < (nats (S.take mm)).length), w3.cell? ⟨g, o + j, none⟩ = some (.int .i64 (nats (S.take mm))[j]) := fun j h => by
                   obtain ⟨g', o', c', e, hc⟩ := H3.out.1.can.cells j (by rw [length_nats]; omega)
                   simp only [Value.slice.injEq, Option.some.injEq, Addr.mk.injEq, and_true] at e
                   obtain ⟨⟨rfl, rfl⟩, _⟩ := e
                   rw [hc]
                   simp [nats]
                 have hclone := clone_any w3 g o c2 (nats (S.take mm)) (by omega) hcells
                 rw [hT] at hclone
                 refine hclone.mono ?_
                 rintro e w4 ⟨v4, rfl, hown4, hb4⟩
                 have hgs4 := H3.out.1.newer hb4
                 obtain ⟨g4, c4, rfl, hg4, hg4', hc4⟩ := own_top3 hown4 hm3
                 have hoff4 := OffR.own hown4 hT.symm
                 have H4 := Lib.hid (And.intro hgs4 (And.intro hoff4 (And.intro hg4 (And.intro hg4' (And.intro hc4 hSl)))))
                 clear hgs4 hoff4 hg4 hg4' hc4 hown4 hb4 hclone hcells hT hSl))
              | fail)
            all_goals
              have hg5 := H4.out.1.cut (k := mm) H4.out.2.2.2.2.2 hm2
              have hT : (S.take mm).length = mm := by have := H4.out.2.2.2.2.2; rw [List.length_take]; omega
              have hgn : g ≠ g4 := by have := (H3.out.1.can.lt g rfl).2; have := H4.out.2.2.1; omega
              have HS := Lib.hid (HQ.out.2.1.split H3.out.2.1 mm)
              have hoff4 : OffR w4 (bx + 1) (.slice (some ⟨g4, 0, none⟩) (S.take mm).length c4) (nats (S.take mm)) := by rw [hT]; exact H4.out.2.1.mono (show bx + 1 ≤ w3.heap.size from H3.out.1.hx)
              have hcan5 : (S.drop mm).length = can.length - mm := by have := H4.out.2.2.2.2.2; rw [List.length_drop]; omega
              first
                | (have hce : c2 = mm := by assumption
                   rw [if_pos hce, show c2 - mm = 0 by omega] at hg5
                   have HI0 := Lib.hid (show GIn w w4 bx lb n cc par dep U (S.take mm) g4 c4 0 _ from ⟨_, _, hg5, HS.out, hoff4, fun g' hg' => by cases hg'; exact hgn, H4.out.2.2.2.1, by have := H3.out.1.hx; have := H4.out.2.2.1; omega⟩)
                   clear hce)
                | (have hce : ¬ c2 = mm := by assumption
                   rw [if_neg hce] at hg5
                   have HI0 := Lib.hid (show GIn w w4 bx lb n cc par dep U (S.take mm) g4 c4 0 _ from ⟨_, _, hg5, HS.out, hoff4, fun g' hg' => by cases hg'; exact hgn, H4.out.2.2.2.1, by have := H3.out.1.hx; have := H4.out.2.2.1; omega⟩)
                   clear hce)
              clear hg5 hoff4 hgn hcan5
              generalize hTT : S.take mm = T at HI0 hT
              have Hw := Lib.hid hT
              have HT := Lib.hid hTT
              clear hT hTT
              generalize hwr : wr = wq at HQ H3
              clear hwr
              obtain ⟨gq, hgq⟩ : ∃ x, x = gk := ⟨_, rfl⟩
              have Hcnt := Lib.hid (And.intro hgq (And.intro hgr hcnt))
              clear hgq
              go_loopg [8, 65] mm (fun gk v i wr => ∃ j : Nat, gk + j = mm ∧ i = .int .i64 j ∧ GIn w wr bx lb n cc par dep U T g4 c4 j v)
              case atStart => exact ⟨0, by omega, rfl, HI0.out⟩
              case round =>
                obtain ⟨j, hgj, rfl, left', can', hgs, hJ, hof, hne, hlt4, hle4⟩ := hrel
                by_cases hj : j < mm
                · obtain ⟨x, hx⟩ : ∃ x, T[j]'(by rw [Hw.out]; exact hj) = x := ⟨_, rfl⟩
                  have hdrop : T.drop j = x :: T.drop (j + 1) := by rw [← hx]; exact List.drop_eq_getElem_cons (by rw [Hw.out]; exact hj)
                  have htake : T.take (j + 1) = T.take j ++ [x] := by rw [← hx]; exact List.take_succ_eq_append_getElem (by rw [Hw.out]; exact hj)
                  rw [hdrop] at hJ
                  obtain ⟨hxn, hxl, _⟩ := hJ.del_closed
                  have hxi : (x : Int) < n := by omega
                  have hji : (j : Int) < mm := by omega
                  have cx : wr.cell? ⟨g4, j, none⟩ = some (.int .i64 x) := by
                    obtain ⟨g', o', c', e, hc⟩ := hof.cells j (by rw [length_nats, Hw.out]; exact hj)
                    simp only [Value.slice.injEq, Option.some.injEq, Addr.mk.injEq, and_true] at e
                    obtain ⟨⟨rfl, rfl⟩, _⟩ := e
                    rw [Nat.zero_add] at hc
                    rw [hc]
                    simp [nats, hx]
                  have cb := hgs.box
                  have cu := hgs.row.up hxn
                  obtain ⟨A6, c6, rfl, hlc, hcm⟩ := hgs.form
                  by_cases hp : par x < 0
                  · have hn2 := hJ.top hp
                    rw [delU_out, ← htake] at hn2
                    have HR := Lib.hid (show GIn w wr bx lb n cc par dep U T g4 c4 (j + 1) _ from ⟨_, _, hgs, hn2, hof, hne, hlt4, hle4⟩)
                    clear hgs hn2 hof hne hJ hdrop htake hx hxl hlc hcm
                    generalize par x = pz at *
                    go_wp2_with fail
                    go_roundg (gk - 1)
                    case measure => omega
                    case rel => exact ⟨j + 1, by omega, by go_num, HR.out⟩
                  · obtain ⟨u, hu⟩ : ∃ u : Nat, par x = (u : Int) := ⟨(par x).toNat, by omega⟩
                    obtain ⟨hl1, hun, hn2⟩ := hJ.up HF.out hu
                    rw [delU_out, ← htake] at hn2
                    have cl := hgs.row.lft hun
                    have hfz := hgs.row.frozen (u * 3 + 2)
                    have hui : (u : Int) < n := by omega
                    have hlu : left' u ≤ 100000 := by
                      have h1 := hJ.left u hun
                      have h2 := kidsN_le n par (fun i => U i && !decide (i ∈ T.take j)) u
                      have h3 := Hn5.out
                      omega
                    have hgs2 := hgs.set hun (left' u - 1)
                    have hbl : ¬ (bx = lb) := by have := hgs.hb; omega
                    have hlb : ¬ (lb = bx) := by have := hgs.hb; omega
                    obtain ⟨lu, hlu2⟩ : ∃ k, left' u = k + 1 := ⟨left' u - 1, by omega⟩
                    have hlt6 := hgs.lt
                    have hcl6 : can'.length ≤ 100000 := by have h1 := hJ.length; have h2 := cnt_le (fun i => U i && !decide (i ∈ T.take j)) n; have h3 := Hn5.out; omega
                    have hb6 : bx < wr.heap.size := hgs.hx
                    rw [hlu2, Nat.add_sub_cancel] at hn2 hgs2
                    rw [hlu2] at cl hlu
                    rw [hu] at cu
                    have HR := Lib.hid (And.intro hgs2 (And.intro hn2 (And.intro hof (And.intro hne (And.intro hlt4 (And.intro hle4 (And.intro hlt6 hgs)))))))
                    clear hgs2 hgs hn2 hof hne hJ hdrop htake hx hxl hlc hcm hlu2 hl1 hp hu hlt6 hlt4 hle4
                    by_cases hz : lu = 0
                    · subst hz
                      have Hz := Lib.hid (show GS w ((wr.setCell ⟨lb, u * 3 + 2, none⟩ (.int .i64 0)).alloc (.cells #[.int .i64 u] 3)) bx lb n cc par dep (fun k => if k = u then 0 else left' k) (.slice A6 can'.length c6) can' from HR.out.1.alloc (.cells #[.int .i64 u] 3))
                      go_wp2_with (first
                        | (at_builtin; (
                           refine wpList_append_off _ rfl (.tmp 90) (.tmp 92) rfl (bx + 1) _ _ rfl Hz.out.can u ⟨wr.heap.size, 0, none⟩ rfl (by rw [cell_of_row _ _ 0 #[.int .i64 u] 3 (0, 0) (by have := heap_alloc_new (wr.setCell ⟨lb, u * 3 + 2, none⟩ (.int .i64 0)) (.cells #[.int .i64 u] 3); simpa [World.setCell] using this)]; rfl) (by rw [length_nats]; omega) (by have := Hz.out.hx; omega) ?_
                           intro v1 w5 hoff hg5 hat5
                           have HR5 := Lib.hid (And.intro (Hz.out.push (can' := can' ++ [u]) hg5 (by rw [nats_append]; exact hoff)) (And.intro hg5 hat5))
                           clear hoff hg5 hat5))
                        | fail)
                      go_roundg (gk - 1)
                      case measure => omega
                      case rel =>
                        obtain ⟨hgs2, hn2, hof, hne, hlt4, hle4, hlt6, hgs⟩ := HR.out
                        obtain ⟨hgs5, hg5, hat5⟩ := HR5.out
                        simp only [if_true] at hn2
                        have hsz5 : ((wr.setCell ⟨lb, u * 3 + 2, none⟩ (.int .i64 0)).alloc (.cells #[.int .i64 u] 3)).heap.size = wr.heap.size + 1 := by simp [World.setCell]
                        refine ⟨j + 1, by omega, by go_num, _, _, hgs5, hn2, ?_, fun g' hg' => ?_, ?_, hle4⟩
                        · refine hof.keep fun g' hg' => ?_
                          obtain rfl : g4 = g' := by simpa [Value.ownBlock] using hg'
                          rw [hg5.block g4 (by omega) (fun e => hne g4 e.symm rfl), Below.heap_alloc _ _ _ (by simpa [World.setCell] using hlt4), Below.heap_setCell _ _ _ _ (by have := hgs.hb; simp; omega)]
                        · rcases hat5 g' hg' with h | h
                          · exact hne g' h
                          · omega
                        · have := hg5.size; omega
                    · go_wp2_with fail
                      go_roundg (gk - 1)
                      case measure => omega
                      case rel =>
                        obtain ⟨hgs2, hn2, hof, hne, hlt4, hle4, hlt6, hgs⟩ := HR.out
                        rw [if_neg hz] at hn2
                        refine ⟨j + 1, by omega, by go_num, _, _, hgs2, hn2, ?_, hne, by simpa [World.setCell] using hlt4, hle4⟩
                        refine hof.keep fun g' hg' => ?_
                        obtain rfl : g4 = g' := by simpa [Value.ownBlock] using hg'
                        exact Below.heap_setCell _ _ _ _ (by have := hgs.hb; simp; omega)
                · obtain rfl : j = mm := by omega
                  rw [List.drop_of_length_le (by rw [Hw.out]; exact Nat.le_refl _)] at hJ
                  rw [List.take_of_length_le (by rw [Hw.out]; exact Nat.le_refl _)] at hJ
                  obtain ⟨A6, c6, rfl, hlc, hcm⟩ := hgs.form
                  have HR := Lib.hid (And.intro hgs (And.intro hJ (And.intro hlc hcm)))
                  clear hgs hJ hlc hcm hof hne
                  go_wp2_with fail
                  go_roundg (gq - 1)
                  case measure =>
                    have h1 := Hcnt.out
                    have h2 := (HQ.out.2.1.round H3.out.2.1 H3.out.2.2 HQ.out.2.2.2.2.2.2 hm3).1
                    omega
                  case rel =>
                    have h1 := Hcnt.out
                    obtain ⟨hc6, hr6⟩ := HQ.out.2.1.round H3.out.2.1 H3.out.2.2 HQ.out.2.2.2.2.2.2 hm3
                    rw [HT.out] at hc6 hr6
                    refine ⟨r + 1, by omega, by go_num, _, _, _, HR.out.1, HR.out.2.1, by omega, fun r' h => ?_⟩
                    have := HQ.out.2.2.1 (r' + 1) (hr6 r' h)
                    rwa [show r + (r' + 1) = r + 1 + r' by omega] at this
end Go.Proofs.Ytokjchcmjglbhaa
