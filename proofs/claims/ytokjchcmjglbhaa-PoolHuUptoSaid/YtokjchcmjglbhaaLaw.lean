/- The law PoolHu: it returns true. No conditions but that what is read is there, and that the nodes can be counted. -/
import Derived.Test.YtokjchcmjglbhaaGreedy
import Derived.Test.YtokjchcmjglbhaaLawM
import Derived.BigRegion
import Derived.Deep.RegionHeld3
namespace Go.Proofs.Ytokjchcmjglbhaa
open Go.ChangeShapes Go.WideShapes Go.ChangeAt Go.RowKit

def WorkR (w : World) (t : TreeR) (e : Ending) (w' : World) : Prop :=
  ∃ a b c : Int, e = .returned (.tuple #[.int .i64 a, .int .i64 b, .int .i64 c]) ∧ Below w.heap.size w w' ∧ (c = 1 ∨ c = 2 ∨ (c = 0 ∧ AllOk t ∧ t.nodes ≤ 100000 ∧ t.depth ≤ 100 ∧ a = t.nodes ∧ b = t.depth))
theorem work_r (w : World) (B : Nat) (t : TreeR) (hR : RdT w B t) (hB : B ≤ w.heap.size) (hn : t.nodes ≤ 1048576) : Calls Try.prog 4 #[t.val] w (WorkR w t) := by
  refine Calls.mono (work_any w B t hR hB hn) ?_
  rintro e w' ⟨hb, c, hc, h | h⟩
  · exact ⟨0, 0, c, h.2, hb, by have := h.1; omega⟩
  · obtain ⟨h0, h1, h2, h3, h4⟩ := h
    exact ⟨t.nodes, t.depth, 0, h4, hb, .inr (.inr ⟨rfl, h1, h2, h3, rfl, rfl⟩)⟩
def GreedyR (w : World) (t : TreeR) (wk : Int) (e : Ending) (w' : World) : Prop :=
  ∃ r c : Int, e = .returned (.tuple #[.int .i64 r, .int .i64 c]) ∧ Below w.heap.size w w' ∧ ((c ≠ 0 ∧ ((AllOk t ∧ t.nodes ≤ 100000 ∧ t.depth ≤ 100) → ¬ (1 ≤ wk ∧ wk ≤ 16))) ∨
    (c = 0 ∧ 1 ≤ wk ∧ wk ≤ 16 ∧ ∃ k : Nat, r = (k : Int) ∧ HuRun t.nodes wk.toNat (parOf t) (depOf t) (fun _ => true) k))
theorem greedy_r (w : World) (B : Nat) (t : TreeR) (wk : Int) (hR : RdT w B t) (hB : B ≤ w.heap.size) (hn : t.nodes ≤ 1048576) : Calls Try.prog 5 #[t.val, .int .i64 wk] w (GreedyR w t wk) := by
  refine Calls.mono (greedy_any w B t wk hR hB hn) ?_
  rintro e w' ⟨hb, ⟨c, hc, he, h⟩ | ⟨h1, h2, k, he, hr⟩⟩
  · exact ⟨0, c, he, hb, .inl ⟨hc, h⟩⟩
  · exact ⟨k, 0, he, hb, .inr ⟨rfl, h1, h2, k, rfl, hr⟩⟩
theorem make_ints (n : Nat) (h : n ≤ 1048576) (W : World) : (Instr.makeSlice 25 (.int .i64 (n : Int)) (.int .i64 (n : Int))).run Try.prog W = .ok (.slice (some ⟨W.heap.size, 0, none⟩) n n) (W.alloc (.cells (ints (List.replicate n 0)).toArray 3)) := by
  obtain ⟨i, hi, hz0, hz1, hz2⟩ := info_parts info_int
  have := run_make_cells (P := Try.prog) 25 3 i _ Try.underlying25 hi hz0 .i64 .i64 n (by rw [hz2]; omega) (by omega) W
  rw [hz1, Nat.mul_one] at this
  rw [this]
  have e : madeCells (Value.int .i64 0).cells n = (ints (List.replicate n 0)).toArray := by
    apply Array.ext'
    rw [ints_rep]
    exact made_one (.int .i64 0) n
  rw [e]
def AboveR (W : World) (t : TreeR) (e : Ending) (w' : World) : Prop :=
  ∃ ub c, e = .returned (.slice (some ⟨ub, 0, none⟩) t.nodes c) ∧ W.heap.size ≤ ub ∧ ub < w'.heap.size ∧ t.nodes ≤ c ∧ UpR w' ub t.nodes (parOf t) ∧ Below W.heap.size W w'
theorem above_r (W : World) (B : Nat) (t : TreeR) (hR : RdT W B t) (hB : B ≤ W.heap.size) (hn : t.nodes ≤ 1048576) : Calls Try.prog 7 #[t.val, .int .i64 (-1), .slice none 0 0] W (AboveR W t) := by
  have h := above_any t.nodes t W B W.heap.size (-1) (.slice none 0 0) [] (Nat.le_refl _) hR hB (Nat.le_refl _) (by simpa using hn) (World.ownsRow_nil W _ _ _)
  refine Calls.mono h ?_
  rintro e w' ⟨v', rfl, hown, hmv⟩
  simp only [List.length_nil, Nat.zero_add, List.nil_append] at hown
  obtain ⟨ub, c, rfl, h1, h2, h3, h4⟩ := upR_of_above hown
  exact ⟨ub, c, rfl, h1, h2, h3, h4, hmv.below (Nat.le_refl _) (fun g hg => by cases hg)⟩
set_option maxRecDepth 100000 in
set_option maxHeartbeats 8000000 in
theorem law_any (w : World) (B : Nat) (t : TreeR) (wk : Int) (A : Option Addr) (c : Nat) (ps : List Int) (hR : RdT w B t) (hP : Rd w B A (ints ps)) (hB : B ≤ w.heap.size) (hn : t.nodes ≤ 1048576) (hps : Fits ps.length) :
    Calls Try.prog 3 #[t.val, .int .i64 wk, .slice A ps.length c] w fun e w' => e = .returned (.bool true) ∧ Below w.heap.size w w' := by
  have hc := fun (W : World) (h : Below w.heap.size w W) => work_r W B t (hR.under (h.mono hB)) (Nat.le_trans hB h.size) hn
  have hs := fun (W : World) (h : Below w.heap.size w W) => greedy_r W B t wk (hR.under (h.mono hB)) (Nat.le_trans hB h.size) hn
  have ha := fun (W : World) (h : Below w.heap.size w W) => above_r W B t (hR.under (h.mono hB)) (Nat.le_trans hB h.size) hn
  have hf := forest t
  have HX := Lib.hid (And.intro hc (And.intro hs (And.intro ha hf)))
  clear hc hs ha hf
  have HP := Lib.hid (And.intro hP hps); clear hP hps
  have Hn := Lib.hid hn; clear hn hR
  obtain ⟨n, hnn⟩ : ∃ n, t.nodes = n := ⟨_, rfl⟩
  have Hnn := Lib.hid hnn; clear hnn
  have hmk : ∀ W : World, (Instr.makeSlice 25 (.int .i64 (n : Int)) (.int .i64 (n : Int))).run Try.prog W = .ok (.slice (some ⟨W.heap.size, 0, none⟩) n n) (W.alloc (.cells (ints (List.replicate n 0)).toArray 3)) := make_ints n (by have h1 := Hn.out; have h2 := Hnn.out; omega)
  obtain ⟨i0, hi0, hz0, hz1, hz2⟩ := info_parts info_int
  have Hi0 := Lib.hid (And.intro hi0 (And.intro hz0 (And.intro hz1 hz2))); clear hi0 hz0 hz1 hz2
  obtain ⟨kind, tn, sA, sc, kids⟩ := t
  show Calls Try.prog 3 #[.agg #[.int .i64 kind, .int .i64 tn, .slice sA kids.length sc], .int .i64 wk, .slice A ps.length c] w _
  have hb0 : Below w.heap.size w (w.alloc (.cells #[.int .i64 kind, .int .i64 tn, .slice sA kids.length sc] 24)) := (Below.refl _ _).alloc (Nat.le_refl _) _
  have Hb0 := Lib.hid hb0; clear hb0
  go_enter Try.func3, Try.ntmps3
  go_wp2_with (first
    | (go_at_call 4; (
       refine (HX.out.1 _ Hb0.out).mono ?_
       rintro e w1 ⟨a1, b1, c1, rfl, hb1, hcase⟩
       have hk : ∀ j v, #[Value.int .i64 kind, .int .i64 tn, .slice sA kids.length sc][j]? = some v → w1.cell? ⟨w.heap.size, j, none⟩ = some v := fun j v hv => (hb1.cell (by simp)).trans (by rw [cell_of_row _ _ j _ _ (0, 0) (heap_alloc_new w _)]; exact hv)
       have k0 := hk 0 _ rfl
       have k1 := hk 1 _ rfl
       have k2 := hk 2 _ rfl
       have hb1' := Hb0.out.trans (hb1.mono Hb0.out.size)
       have H1 := Lib.hid (And.intro hb1' (And.intro hcase (And.intro hk hb1))); clear hb1 hb1' hcase hk))
    | (go_at_call 5; (
       refine (HX.out.2.1 _ H1.out.1).mono ?_
       rintro e w2 ⟨r2, c2, rfl, hb2, hcase2⟩
       have hlt : w.heap.size < w1.heap.size := by have := H1.out.2.2.2.size; simp at this; omega
       have j0 : w2.cell? ⟨w.heap.size, 0, none⟩ = _ := (hb2.cell hlt).trans (H1.out.2.2.1 0 _ rfl)
       have j1 : w2.cell? ⟨w.heap.size, 1, none⟩ = _ := (hb2.cell hlt).trans (H1.out.2.2.1 1 _ rfl)
       have j2 : w2.cell? ⟨w.heap.size, 2, none⟩ = _ := (hb2.cell hlt).trans (H1.out.2.2.1 2 _ rfl)
       have hb2' := H1.out.1.trans (hb2.mono H1.out.1.size)
       have hmain : c1 = 0 → c2 = 0 → b1 ≤ r2 ∧ a1 ≤ wrap64 (r2 * wk) ∧ r2 ≤ wrap64 (b1 + wrap64 ((wrap64 (wrap64 (wrap64 (a1 - b1) + wk) - 1)).tdiv wk)) ∧ 1 ≤ a1 ∧ 1 ≤ wk ∧ wk ≤ 16 ∧ n ≤ 100000 ∧ 0 < n ∧ ∃ k : Nat, r2 = (k : Int) ∧ k ≤ n ∧ HuRun n wk.toNat (parOf (.mk kind tn sA sc kids)) (depOf (.mk kind tn sA sc kids)) (fun _ => true) k := by
         intro e1 e2
         rcases H1.out.2.1 with h | h | ⟨_, hok, hn5, hd, rfl, rfl⟩
         · omega
         · omega
         rcases hcase2 with ⟨h, _⟩ | ⟨_, h1, h2, k, rfl, hrun⟩
         · exact absurd e2 h
         have hnk := Hnn.out
         rw [hnk] at hrun hn5 ⊢
         have hF := HX.out.2.2.2
         rw [hnk] at hF
         have hn1 : 0 < n := by have := nodes_eq (.mk kind tn sA sc kids); omega
         obtain ⟨m, rfl⟩ : ∃ m : Nat, wk = (m : Int) := ⟨wk.toNat, by omega⟩
         rw [Int.toNat_natCast] at hrun ⊢
         have hdp := depth_pre (.mk kind tn sA sc kids)
         rw [hnk] at hdp
         obtain ⟨hdS, i0, hi0, hdi0⟩ := hdp
         have hbd := hu_bounds hF (by omega) hdS hi0 hdi0 hrun
         have hSn : (TreeR.mk kind tn sA sc kids).depth ≤ n := by have := depth_le_nodes (.mk kind tn sA sc kids); omega
         have ht := hu_tests (by omega) (by omega) hn5 hn1 hSn hbd.1 hbd.2.1 hbd.2.2
         have hkn : k ≤ n := by have := ceilD_le_self (a := n - (TreeR.mk kind tn sA sc kids).depth) (m := m) (by omega); have := hbd.2.2; omega
         exact ⟨ht.1, ht.2.1, ht.2.2, by omega, by omega, by omega, hn5, hn1, k, rfl, hkn, hrun⟩
       have hbad : c1 = 0 → c2 ≠ 0 → ¬ (1 ≤ wk ∧ wk ≤ 16) := by
         intro e1 e2
         rcases H1.out.2.1 with h | h | ⟨_, hok, hn5, hd, _, _⟩
         · omega
         · omega
         rcases hcase2 with ⟨_, h⟩ | ⟨h, _⟩
         · exact h ⟨hok, hn5, hd⟩
         · exact absurd h e2
       have hc3 : ¬ c1 = 0 → ¬ c1 = 1 → ¬ c1 = 2 → False := by
         intro e1 e2 e3
         rcases H1.out.2.1 with h | h | h <;> omega
       have H2 := Lib.hid (And.intro hb2' (And.intro hmain (And.intro hbad hc3))); clear hb2 hb2' hcase2 k0 k1 k2 hlt hmain hbad hc3))
    | (go_at_call 6; refine (workers_any _ _).mono ?_; rintro e w3 ⟨rfl, rfl⟩)
    | (go_at_call 7; (
       refine (HX.out.2.2.1 _ H2.out.1).mono ?_
       rintro e w4 ⟨ub, uc, rfl, hub, hub2, huc, hup, hb4⟩
       rw [Hnn.out]
       have hb4' := H2.out.1.trans (hb4.mono H2.out.1.size)
       have H4 := Lib.hid (And.intro hub (And.intro hub2 (And.intro huc (And.intro hup hb4')))); clear hub hub2 huc hup hb4 hb4' j0 j1 j2))
    | fail)
  · go_ret
    have h := H2.out.2.2.1 (by assumption) (bne_iff_ne.1 (by assumption))
    exact ⟨retBool (by rw [Bool.or_eq_true]; simp; omega), H2.out.1⟩
  · have h := H2.out.2.1 (by assumption) (by simpa using ‹(c2 != 0) = false›)
    exact absurd ‹wk = 0› (by omega)
  · have h := H2.out.2.1 (by assumption) (by simpa using ‹(c2 != 0) = false›)
    exfalso
    have h' : ((r2 < b1 ∨ wrap64 (r2 * wk) < a1) ∨ wrap64 (b1 + wrap64 ((wrap64 (wrap64 (wrap64 (a1 - b1) + wk) - 1)).tdiv wk)) < r2) ∨ a1 < 1 := by assumption
    omega
  · go_ret
    exact ⟨rfl, H4.out.2.2.2.2⟩
  · have hm := H2.out.2.1 (by assumption) (by simpa using ‹(c2 != 0) = false›)
    obtain ⟨_, _, _, _, hwk1, hwk2, _, hn0, k, hk, hkn, hrun⟩ := hm
    subst hk
    obtain ⟨m, rfl⟩ : ∃ m : Nat, wk = (m : Int) := ⟨wk.toNat, by omega⟩
    have hm1 : 1 ≤ m := by omega
    have hm16 : m ≤ 16 := by omega
    have hn300 : n ≤ 300 := by have : (n : Int) ≤ 300 := by assumption
                               omega
    rw [Int.toNat_natCast] at hrun
    have HL : LS w (w4.alloc (.cells (ints (List.replicate n 0)).toArray 3)) ub w4.heap.size n (parOf (.mk kind tn sA sc kids)) (fun _ => true) := by
      obtain ⟨h1, h2, h3, h4, h5⟩ := H4.out
      rw [Hnn.out] at h4
      have h6 := H2.out.1.size
      exact ⟨h5.alloc h5.size _, h4.keep (Below.heap_alloc w4 _ ub h2), by rw [doneL_all]; exact Blk.new w4 _ _, by omega, h2, by simp⟩
    have HF := HX.out.2.2.2
    rw [Hnn.out] at HF
    have hD : ∀ i, i < n → depOf (.mk kind tn sA sc kids) i ≤ n := fun i hi => by
      have h1 := (depth_pre (.mk kind tn sA sc kids)).1 i (by rw [Hnn.out]; exact hi)
      have h2 := depth_le_nodes (.mk kind tn sA sc kids)
      rw [Hnn.out] at h2
      omega
    generalize parOf (.mk kind tn sA sc kids) = par at HL HF hrun
    generalize depOf (.mk kind tn sA sc kids) = dep at HF hrun hD
    generalize w4.alloc (.cells (ints (List.replicate n 0)).toArray 3) = W5 at HL ⊢
    generalize w4.heap.size = db at HL ⊢
    have hbest : ∀ r, AnyRun n m par (fun _ => true) r → k ≤ r := fun r h => hu_best HF (by omega) (fun _ _ _ _ => rfl) n hD hrun h
    have HF := Lib.hid HF
    have HL := Lib.hid HL
    have Hbest := Lib.hid hbest
    have hnuc := H4.out.2.2.1
    rw [Hnn.out] at hnuc
    clear hrun hbest hD
    go_wp2_with fail
    go_loopg [14, 15, 16] n (fun gk rr tt ll wr => ∃ r tu : Nat, rr = .int .i64 r ∧ tt = .int .i64 tu ∧ ll = .int .i64 gk ∧ LOut w wr ub db n m par gk r tu)
    case atStart => exact ⟨0, 0, rfl, rfl, rfl, _, HL.out, cnt_true n, by omega, by omega, fun s h => by rw [Nat.zero_add]; exact h⟩
    case round =>
      obtain ⟨r, tu, rfl, rfl, rfl, U, hls, hcnt, htu, hr, hrun⟩ := hrel
      by_cases hgk : gk = 0
      · subst hgk
        have h := Hbest.out _ (hrun 0 (.nil fun i hi => by
          cases hu : U i with
          | false => rfl
          | true => have := cnt_of (p := U) hu hi; omega))
        have hbl := hls.below
        have HQ := Lib.hid (And.intro h hbl)
        clear hls hcnt hrun h hbl
        go_wp2_with fail
        go_ret
        exact ⟨retBool (decide_eq_true (by have := HQ.out.1; omega)), HQ.out.2⟩
      · have hgk0 : 0 < gk := by omega
        have hls0 := hls.alloc (.cells (ints (List.replicate n 0)).toArray 3)
        have hopen : Blk (wr.alloc (.cells (ints (List.replicate n 0)).toArray 3)) wr.heap.size 3 (ints (openL n 0 par U)) := by rw [openL_zero]; exact Blk.new wr _ _
        have hdb := hls.hx
        have HQ := Lib.hid (And.intro hls0 (And.intro hopen (And.intro hdb (And.intro hcnt (And.intro htu (And.intro hr hrun))))))
        have hr300 : r ≤ 300 := by omega
        have htu300 : tu ≤ 300 := by omega
        have hgk300 : gk ≤ 300 := by omega
        clear hls hls0 hopen hdb hcnt htu hr hrun hgk
        go_wp2_with fail
        generalize hob : wr.heap.size = ob at HQ ⊢
        generalize hW6 : wr.alloc (.cells (ints (List.replicate n 0)).toArray 3) = W6 at HQ ⊢
        clear hob hW6
        obtain ⟨gq, hgq⟩ : ∃ x, x = gk := ⟨_, rfl⟩
        have Hgq := Lib.hid hgq; clear hgq
        go_loopg [99] n (fun gk i wq => ∃ q : Nat, gk + q = n ∧ i = .int .i64 q ∧ LS w wq ub db n par U ∧ Blk wq ob 3 (ints (openL n q par U)))
        case atStart => exact ⟨0, by omega, rfl, HQ.out.1, HQ.out.2.1⟩
        case round =>
          obtain ⟨q, hgq, rfl, hls, hblk⟩ := hrel
          by_cases hq : q < n
          · have hqi : (q : Int) < n := by omega
            have cu := hls.up.at_ hq
            have cd : wr.cell? ⟨db, q, none⟩ = some (.int .i64 (if U q = true then 0 else 1)) := by rw [hls.done.cell]; simp [ints, doneL, hq]
            have hlo := HF.out.lo q hq
            have HR := Lib.hid (And.intro hls hblk)
            clear hls hblk
            by_cases hp : 0 ≤ par q
            · obtain ⟨u, hu⟩ : ∃ u : Nat, par q = (u : Int) := ⟨(par q).toNat, by omega⟩
              have hun : u < n := by omega
              have hui : (u : Int) < n := by omega
              have co : wr.cell? ⟨ob, u, none⟩ = some (.int .i64 (kidsN q par U u)) := by rw [HR.out.2.cell]; simp [ints, openL, hun]
              have hfz := HR.out.2.frozen u
              have hkn300 : kidsN q par U u ≤ 300 := by have := kidsN_le q par U u; omega
              rw [hu] at cu
              obtain ⟨kk, hkk⟩ : ∃ x, kidsN q par U u = x := ⟨_, rfl⟩
              rw [hkk] at co hkn300
              have HU := Lib.hid (And.intro hu hkk)
              clear hu hkk hp hlo
              by_cases hU : U q = true
              · rw [if_pos hU] at cd
                have HUq := Lib.hid hU; clear hU
                go_wp2_with fail
                go_roundg (gk - 1)
                case measure => omega
                case rel =>
                  refine ⟨q + 1, by omega, by go_num, HR.out.1.set (by have := HQ.out.2.2.1; show db + 1 ≤ ob; omega) _, ?_⟩
                  have h := HR.out.2.set_ u (.int .i64 ((kk : Int) + 1))
                  have e := openL_set (n := n) HUq.out HU.out.1
                  rw [HU.out.2] at e
                  rw [ints_set, e] at h
                  exact h
              · rw [if_neg hU] at cd
                have HUq := Lib.hid hU; clear hU
                go_wp2_with fail
                go_roundg (gk - 1)
                case measure => omega
                case rel => exact ⟨q + 1, by omega, by go_num, HR.out.1, by rw [openL_keep fun h => (by have h1 := HUq.out; rw [h.1] at h1; simp at h1)]; exact HR.out.2⟩
            · have Hp := Lib.hid hp
              have hp' : par q < 0 := by omega
              clear hp
              generalize hpz : par q = pz at cu hp' hlo
              have Hpz := Lib.hid hpz; clear hpz
              go_wp2_with fail
              go_roundg (gk - 1)
              case measure => omega
              case rel => exact ⟨q + 1, by omega, by go_num, HR.out.1, by rw [openL_keep fun h => (by have h1 := Hp.out; have h2 := h.2; omega)]; exact HR.out.2⟩
          · obtain rfl : n = q := by omega
            have HR := Lib.hid (And.intro hls hblk)
            clear hls hblk hgq hq
            go_wp2_with fail
            generalize hW7 : wr = W7 at HR ⊢
            clear hW7
            go_loopg [19, 126] n (fun gk v i wq => ∃ q : Nat, gk + q = n ∧ i = .int .i64 q ∧ LS w wq ub db n par U ∧ Blk wq ob 3 (ints (openL n n par U)) ∧ OffR wq (ob + 1) v (nats (canU n par U q)))
            case atStart => exact ⟨0, by omega, rfl, HR.out.1, HR.out.2, OffR.nil _ _⟩
            case round =>
              obtain ⟨q, hgq, rfl, hls, hblk, hoff⟩ := hrel
              have hcl := canU_length (n := n) (par := par) U q
              obtain ⟨A5, c5, rfl, hc5, hc5'⟩ := hoff.form
              rw [length_nats] at hc5
              by_cases hq : q < n
              · have hqi : (q : Int) < n := by omega
                have cd : wr.cell? ⟨db, q, none⟩ = some (.int .i64 (if U q = true then 0 else 1)) := by rw [hls.done.cell]; simp [ints, doneL, hq]
                have co : wr.cell? ⟨ob, q, none⟩ = some (.int .i64 (kidsN n par U q)) := by rw [hblk.cell]; simp [ints, openL, hq]
                have hcl5 : (canU n par U q).length ≤ 300 := by omega
                have hobl := hblk.lt
                have hlt5 := hoff.lt
                have HB := Lib.hid (And.intro hls (And.intro hblk (And.intro hoff (And.intro hlt5 hobl))))
                obtain ⟨kk, hkk⟩ : ∃ x, kidsN n par U q = x := ⟨_, rfl⟩
                rw [hkk] at co
                have Hkk := Lib.hid hkk
                clear hls hblk hoff hc5 hc5' hkk hlt5
                by_cases hU : U q = true
                · rw [if_pos hU] at cd
                  have HUq := Lib.hid hU; clear hU
                  by_cases hz : kk = 0
                  · subst hz
                    have Hg2 := Lib.hid (HB.out.2.2.1.alloc (.cells #[.int .i64 q] 3))
                    go_wp2_with (first
                      | (at_builtin; (
                         refine wpList_append_off _ rfl (.tmp 141) (.tmp 143) rfl (ob + 1) _ _ rfl Hg2.out q ⟨wr.heap.size, 0, none⟩ rfl (by rw [cell_of_row _ _ 0 #[.int .i64 q] 3 (0, 0) (heap_alloc_new wr _)]; rfl) (by rw [length_nats]; omega) (by simp; omega) ?_
                         intro v1 w5 hoff hg5 hat5
                         have HR5 := Lib.hid (And.intro hoff hg5)
                         clear hoff hg5 hat5))
                      | fail)
                    go_roundg (gk - 1)
                    case measure => omega
                    case rel =>
                      obtain ⟨hls, hblk, hoff, hlt5, _⟩ := HB.out
                      obtain ⟨hoff2, hg5⟩ := HR5.out
                      refine ⟨q + 1, by omega, by go_num, (hls.alloc _).move hg5 (fun g hg => ?_), (hblk.alloc _).grown hg5 (fun e => ?_), by rw [canU_yes HUq.out Hkk.out, nats_append]; exact hoff2⟩
                      · have := (hlt5 g hg).1; have := HQ.out.2.2.1; omega
                      · have := (hlt5 ob e.symm).1; omega
                  · go_wp2_with fail
                    go_roundg (gk - 1)
                    case measure => omega
                    case rel => exact ⟨q + 1, by omega, by go_num, HB.out.1, HB.out.2.1, by rw [canU_no fun _ => by rw [Hkk.out]; exact hz]; exact HB.out.2.2.1⟩
                · rw [if_neg hU] at cd
                  have HUq := Lib.hid hU; clear hU
                  go_wp2_with fail
                  go_roundg (gk - 1)
                  case measure => omega
                  case rel => exact ⟨q + 1, by omega, by go_num, HB.out.1, HB.out.2.1, by rw [canU_no fun h => (by have h1 := HUq.out; rw [h] at h1; simp at h1)]; exact HB.out.2.2.1⟩
              · obtain rfl : n = q := by omega
                have HB := Lib.hid (And.intro hls hoff)
                clear hls hblk hoff hgq hq hc5 hc5'
                go_wp2_with fail
                generalize hW8 : wr = W8 at HB HR ⊢
                clear hW8
                go_loopg [15, 16, 19, 21] m (fun gk tt ll v kk wq => ∃ (X can : List Nat) (tu lf : Nat), gk + X.length = m ∧ kk = .int .i64 X.length ∧ tt = .int .i64 tu ∧ ll = .int .i64 lf ∧ GK n par U X can ∧ LS w wq ub db n par (fun i => U i && !decide (i ∈ X)) ∧ OffR wq (ob + 1) v (nats can) ∧ lf + X.length = cnt U n ∧ tu + lf ≤ n)
                case atStart =>
                  obtain ⟨_, _, _, h4, h5, _⟩ := HQ.out
                  exact ⟨[], _, tu, _, rfl, rfl, rfl, rfl, canU_start U, by have := HB.out.1; simpa using this, HB.out.2, h4.symm, h5⟩
                case round =>
                  obtain ⟨X, can, tu2, lf, hgX, rfl, rfl, rfl, hgk, hls, hoff, hlf, htl⟩ := hrel
                  obtain ⟨A6, c6, rfl, hc6, hc6'⟩ := hoff.form
                  simp only [length_nats] at hc6 hoff
                  have hX300 : X.length ≤ 300 := by omega
                  have hlf300 : lf ≤ 300 := by have := cnt_le U n; omega
                  have htu300 : tu2 ≤ 300 := by omega
                  have hcan300 : can.length ≤ 300 := by have := hgk.few; omega
                  by_cases hkm : X.length < m
                  · by_cases hcl : 0 < can.length
                    · by_cases hps : 0 < ps.length
                      · obtain ⟨g, o, c6', hv, _⟩ := hoff.cells 0 (by rw [length_nats]; exact hcl)
                        simp only [Value.slice.injEq, length_nats, true_and] at hv
                        obtain ⟨rfl, rfl⟩ := hv
                        have hmod : ((tu2 : Int)).tmod (ps.length : Int) = ((tu2 % ps.length : Nat) : Int) := rfl
                        have hml : tu2 % ps.length < ps.length := Nat.mod_lt _ hps
                        obtain ⟨pb, po, rfl, hpB, hpc⟩ := HP.out.1.atMap (f := Value.int .i64) (k := tu2 % ps.length) (l := ps) hml
                        have hpc2 : wr.cell? ⟨pb, po + tu2 % ps.length, none⟩ = some (.int .i64 (ps[tu2 % ps.length])) := (hls.below.cell (by show pb < w.heap.size; omega)).trans hpc
                        have hcx : ∀ (i : Nat) (h : i < can.length), wr.cell? ⟨g, o + i, none⟩ = some (.int .i64 (can[i] : Nat)) ∧ can[i] < n ∧ wr.cell? ⟨db, can[i], none⟩ = some (.int .i64 0) := fun i h => by
                          have hin := (hgk.mem can[i]).1 (List.mem_append_right _ (List.getElem_mem h))
                          have hnx : can[i] ∉ X := fun hx => (List.nodup_append.1 hgk.nodup).2.2 _ hx _ (List.getElem_mem h) rfl
                          obtain ⟨g', o', c', e, hc⟩ := hoff.cells i (by rw [length_nats]; exact h)
                          simp only [Value.slice.injEq, Option.some.injEq, Addr.mk.injEq, length_nats, and_true, true_and] at e
                          obtain ⟨⟨rfl, rfl⟩, _⟩ := e
                          refine ⟨by rw [hc]; simp [nats], hin.1, ?_⟩
                          rw [hls.done.cell]
                          simp [ints, doneL, hin.1, hin.2.1, hnx]
                        have hgdb : g ≠ db := by have := (hoff.lt g rfl).1; have := HQ.out.2.2.1; omega
                        have hfzd := fun k => hls.done.frozen k
                        have HC := Lib.hid (And.intro hls (And.intro hgk (And.intro hlf (And.intro htl (And.intro hc6' (And.intro hoff (And.intro hcx (And.intro hgdb hfzd))))))))
                        clear hcx hgdb hfzd
                        have hkmi : (X.length : Int) < m := by omega
                        have hcli : (0 : Int) < can.length := by omega
                        have hpsi : (0 : Int) < ps.length := by omega
                        clear hls hgk hlf htl hoff hc6' hpc
                        generalize hpk : ps[tu2 % ps.length] = pk at hpc2
                        generalize htm : tu2 % ps.length = tm at hpc2 hmod hml
                        clear hpk htm
                        go_wp2_with (first
                          | (go_at_call 8; (
                             refine (rest_any _ _ _ hcli (by omega)).mono ?_
                             rintro e w9 ⟨⟨rr, hr0, hr1, rfl⟩, rfl⟩
                             obtain ⟨i, rfl⟩ : ∃ i : Nat, rr = (i : Int) := ⟨rr.toNat, by omega⟩
                             have hi : i < can.length := by omega
                             obtain ⟨x, hx⟩ : ∃ x, can[i] = x := ⟨_, rfl⟩
                             obtain ⟨cx, hxn, cd⟩ := HC.out.2.2.2.2.2.2.1 i hi
                             rw [hx] at cx hxn cd
                             have hxi : (x : Int) < n := by omega
                             have hfz := HC.out.2.2.2.2.2.2.2.2 x
                             have Hx := Lib.hid hx
                             clear hx))
                          | fail)
                        have hgs9 := (HC.out.1.mark (X := X) (x := x))
                        have hof9 : OffR (wr.setCell ⟨db, x, none⟩ (.int .i64 1)) (ob + 1) (.slice (some ⟨g, o, none⟩) can.length c6) (nats can) := HC.out.2.2.2.2.2.1.keep fun g' hg' => by
                          obtain rfl : g = g' := by simpa [Value.ownBlock] using hg'
                          exact Below.heap_setCell wr ⟨db, x, none⟩ _ g HC.out.2.2.2.2.2.2.2.1
                        have hobx : ob + 1 ≤ (wr.setCell ⟨db, x, none⟩ (.int .i64 1)).heap.size := by have h1 := (HC.out.2.2.2.2.2.1.lt g rfl).1; have h2 := (HC.out.2.2.2.2.2.1.lt g rfl).2; simp [World.setCell]; omega
                        generalize hW9 : wr.setCell ⟨db, x, none⟩ (.int .i64 1) = W9 at hgs9 hof9 hobx ⊢
                        clear hW9
                        have hparts := hof9.parts hi
                        have hg9 := (hof9.lt g rfl).2
                        have hone : ∀ u ∈ ints (nats (can.take i)), u.oneCell' = true := fun u hu => by obtain ⟨y, _, rfl⟩ := List.mem_map.1 hu; rfl
                        have hl1 : (ints (nats (can.take i))).length = i * 1 := by simp [ints]; omega
                        have hl2 : (ints (nats (can.drop (i + 1)))).length = (can.length - (i + 1)) * 1 := by simp [ints]
                        have H9 := Lib.hid (And.intro hgs9 hof9)
                        by_cases hce : c6 = i + 1
                        · subst hce
                          have HA := Lib.hid (And.intro hl1 (And.intro hparts.1 (And.intro hone (And.intro hobx (And.intro hl2 (And.intro hg9 (hparts.2 o (fun h => absurd rfl h))))))))
                          clear hgs9 hof9 hobx hparts hg9 hone hl1 hl2 hc6
                          have hs1 : (i : Int) ≤ (i : Int) + 1 := by omega
                          have hs3 : (i : Int) + 1 ≤ can.length := by omega
                          have hs4 : i + 1 ≤ can.length := by omega
                          have hs5 : (0 : Int) ≤ (i : Int) + 1 := by omega
                          have hs6 : ((i : Int) + 1).toNat = i + 1 := by omega
                          have hs7 : IntKind.i64.wrap ((i : Int) + 1) = (i : Int) + 1 := IntWalk.i64_in _ (by omega)
                          go_region_held3 (fun _ => True) (exact trivial) (first | (refine step_append_own rfl (.const (.slice none 0 0)) (.tmp 184) _ rfl (ob + 1) 3 i0 (.int .i64 0) 1 8 Try.underlying25 Hi0.out.1 Hi0.out.2.1 Hi0.out.2.2.1 Hi0.out.2.2.2 rfl (by decide) (.slice none 0 0) 0 [] rfl (World.ownsRow_nil _ _ _ _) ⟨g, o, none⟩ i (i + 1) (ints (nats (can.take i))) rfl HA.out.1 HA.out.2.1 HA.out.2.2.1 (by unfold maxLen; omega) (by omega) HA.out.2.2.2.1 (fun v1 w1 hown1 hg1 _ => ?_); rw [Nat.zero_add, List.nil_append] at hown1; obtain ⟨A1, d1, rfl, _, _⟩ := own_form3 hown1; have HB1 := Lib.hid (And.intro hown1 hg1); clear hown1 hg1) | (refine step_append_own rfl (.tmp 185) (.tmp 189) _ rfl (ob + 1) 3 i0 (.int .i64 0) 1 8 Try.underlying25 Hi0.out.1 Hi0.out.2.1 Hi0.out.2.2.1 Hi0.out.2.2.2 rfl (by decide) (.slice A1 i d1) i (ints (nats (can.take i))) rfl HB1.out.1 ⟨g, o, none⟩ (can.length - (i + 1)) _ (ints (nats (can.drop (i + 1)))) rfl HA.out.2.2.2.2.1 (fun j u hu => (World.cell?_of_block (by rw [add_block]; exact HB1.out.2.block g HA.out.2.2.2.2.2.1 (fun e => by cases e))).trans (HA.out.2.2.2.2.2.2 j u hu)) (fun u hu => by obtain ⟨y, _, rfl⟩ := List.mem_map.1 hu; rfl) (by unfold maxLen; omega) (by omega) (Nat.le_trans HA.out.2.2.2.1 HB1.out.2.size) (fun v2 w2 hown2 hg2 _ => ?_); have HB2 := Lib.hid (And.intro hown2 hg2); clear hown2 hg2))
                          all_goals
                            go_wp2_with fail
                            go_roundg (gk - 1)
                            case measure => omega
                            case rel =>
                              obtain ⟨h1, h2, h3, h4, _⟩ := HC.out
                              obtain ⟨hown1, hg1⟩ := HB1.out
                              obtain ⟨hown2, hg2⟩ := HB2.out
                              have hp := h2.pick hi
                              rw [Hx.out] at hp
                              have hpos : 0 < lf := by
                                have e1 := h2.cnt
                                have e2 := hp.cnt
                                rw [List.length_append, List.length_singleton] at e2
                                omega
                              have hd : LS w W9.drew ub db n par (fun k => U k && !decide (k ∈ X ++ [x])) := H9.out.1.move (row := none) ⟨rfl, rfl, rfl, Nat.le_refl _, fun _ _ _ => rfl⟩ (fun g e => by cases e)
                              have hls2 := (hd.move hg1 (fun g e => by cases e)).move hg2 (fun g' e => by have := (own_lo3 hown1 g' e).1; have := HQ.out.2.2.1; omega)
                              have hof2 : OffR w2 (ob + 1) v2 (nats (can.take i ++ can.drop (i + 1))) := OffR.own (n := i + (can.length - (i + 1))) (by rw [nats_append, ints_append]; exact hown2) (by simp; omega)
                              refine ⟨X ++ [x], can.take i ++ can.drop (i + 1), tu2 + 1, lf - 1, by rw [List.length_append, List.length_singleton]; omega, congrArg (Value.int .i64) (by rw [List.length_append, List.length_singleton]; omega), congrArg (Value.int .i64) (by omega), congrArg (Value.int .i64) (by omega), hp, hls2, hof2, by rw [List.length_append, List.length_singleton]; omega, by omega⟩
                        · have HA := Lib.hid (And.intro hl1 (And.intro hparts.1 (And.intro hone (And.intro hobx (And.intro hl2 (And.intro hg9 (hparts.2 (o + (i + 1)) (fun _ => rfl))))))))
                          clear hgs9 hof9 hobx hparts hg9 hone hl1 hl2
                          have hs2 : i ≤ c6 := by omega
                          have hs3 : (i : Int) + 1 ≤ can.length := by omega
                          have hs4 : i + 1 ≤ can.length := by omega
                          have hs5 : (0 : Int) ≤ (i : Int) + 1 := by omega
                          have hs6 : ((i : Int) + 1).toNat = i + 1 := by omega
                          have hs7 : IntKind.i64.wrap ((i : Int) + 1) = (i : Int) + 1 := IntWalk.i64_in _ (by omega)
                          go_region_held3 (fun _ => True) (exact trivial) (first | (refine step_append_own rfl (.const (.slice none 0 0)) (.tmp 184) _ rfl (ob + 1) 3 i0 (.int .i64 0) 1 8 Try.underlying25 Hi0.out.1 Hi0.out.2.1 Hi0.out.2.2.1 Hi0.out.2.2.2 rfl (by decide) (.slice none 0 0) 0 [] rfl (World.ownsRow_nil _ _ _ _) ⟨g, o, none⟩ i c6 (ints (nats (can.take i))) rfl HA.out.1 HA.out.2.1 HA.out.2.2.1 (by unfold maxLen; omega) (by omega) HA.out.2.2.2.1 (fun v1 w1 hown1 hg1 _ => ?_); rw [Nat.zero_add, List.nil_append] at hown1; obtain ⟨A1, d1, rfl, _, _⟩ := own_form3 hown1; have HB1 := Lib.hid (And.intro hown1 hg1); clear hown1 hg1) | (refine step_append_own rfl (.tmp 185) (.tmp 189) _ rfl (ob + 1) 3 i0 (.int .i64 0) 1 8 Try.underlying25 Hi0.out.1 Hi0.out.2.1 Hi0.out.2.2.1 Hi0.out.2.2.2 rfl (by decide) (.slice A1 i d1) i (ints (nats (can.take i))) rfl HB1.out.1 ⟨g, o + (i + 1), none⟩ (can.length - (i + 1)) _ (ints (nats (can.drop (i + 1)))) rfl HA.out.2.2.2.2.1 (fun j u hu => (World.cell?_of_block (by rw [add_block]; exact HB1.out.2.block g HA.out.2.2.2.2.2.1 (fun e => by cases e))).trans (HA.out.2.2.2.2.2.2 j u hu)) (fun u hu => by obtain ⟨y, _, rfl⟩ := List.mem_map.1 hu; rfl) (by unfold maxLen; omega) (by omega) (Nat.le_trans HA.out.2.2.2.1 HB1.out.2.size) (fun v2 w2 hown2 hg2 _ => ?_); have HB2 := Lib.hid (And.intro hown2 hg2); clear hown2 hg2))
                          all_goals
                            go_wp2_with fail
                            go_roundg (gk - 1)
                            case measure => omega
                            case rel =>
                              obtain ⟨h1, h2, h3, h4, _⟩ := HC.out
                              obtain ⟨hown1, hg1⟩ := HB1.out
                              obtain ⟨hown2, hg2⟩ := HB2.out
                              have hp := h2.pick hi
                              rw [Hx.out] at hp
                              have hpos : 0 < lf := by
                                have e1 := h2.cnt
                                have e2 := hp.cnt
                                rw [List.length_append, List.length_singleton] at e2
                                omega
                              have hd : LS w W9.drew ub db n par (fun k => U k && !decide (k ∈ X ++ [x])) := H9.out.1.move (row := none) ⟨rfl, rfl, rfl, Nat.le_refl _, fun _ _ _ => rfl⟩ (fun g e => by cases e)
                              have hls2 := (hd.move hg1 (fun g e => by cases e)).move hg2 (fun g' e => by have := (own_lo3 hown1 g' e).1; have := HQ.out.2.2.1; omega)
                              have hof2 : OffR w2 (ob + 1) v2 (nats (can.take i ++ can.drop (i + 1))) := OffR.own (n := i + (can.length - (i + 1))) (by rw [nats_append, ints_append]; exact hown2) (by simp; omega)
                              refine ⟨X ++ [x], can.take i ++ can.drop (i + 1), tu2 + 1, lf - 1, by rw [List.length_append, List.length_singleton]; omega, congrArg (Value.int .i64) (by rw [List.length_append, List.length_singleton]; omega), congrArg (Value.int .i64) (by omega), congrArg (Value.int .i64) (by omega), hp, hls2, hof2, by rw [List.length_append, List.length_singleton]; omega, by omega⟩
                      · obtain ⟨g, o, c6', hv, _⟩ := hoff.cells 0 (by rw [length_nats]; exact hcl)
                        simp only [Value.slice.injEq, length_nats, true_and] at hv
                        obtain ⟨rfl, rfl⟩ := hv
                        have hcx : ∀ (i : Nat) (h : i < can.length), wr.cell? ⟨g, o + i, none⟩ = some (.int .i64 (can[i] : Nat)) ∧ can[i] < n ∧ wr.cell? ⟨db, can[i], none⟩ = some (.int .i64 0) := fun i h => by
                          have hin := (hgk.mem can[i]).1 (List.mem_append_right _ (List.getElem_mem h))
                          have hnx : can[i] ∉ X := fun hx => (List.nodup_append.1 hgk.nodup).2.2 _ hx _ (List.getElem_mem h) rfl
                          obtain ⟨g', o', c', e, hc⟩ := hoff.cells i (by rw [length_nats]; exact h)
                          simp only [Value.slice.injEq, Option.some.injEq, Addr.mk.injEq, length_nats, and_true, true_and] at e
                          obtain ⟨⟨rfl, rfl⟩, _⟩ := e
                          refine ⟨by rw [hc]; simp [nats], hin.1, ?_⟩
                          rw [hls.done.cell]
                          simp [ints, doneL, hin.1, hin.2.1, hnx]
                        have hgdb : g ≠ db := by have := (hoff.lt g rfl).1; have := HQ.out.2.2.1; omega
                        have hfzd := fun k => hls.done.frozen k
                        have HC := Lib.hid (And.intro hls (And.intro hgk (And.intro hlf (And.intro htl (And.intro hc6' (And.intro hoff (And.intro hcx (And.intro hgdb hfzd))))))))
                        clear hcx hgdb hfzd
                        have hkmi : (X.length : Int) < m := by omega
                        have hcli : (0 : Int) < can.length := by omega
                        have hpsi : ¬ (0 : Int) < ps.length := by omega
                        clear hls hgk hlf htl hoff hc6'
                        have hi : 0 < can.length := hcl
                        obtain ⟨x, hx⟩ : ∃ x, can[0] = x := ⟨_, rfl⟩
                        obtain ⟨cx, hxn, cd⟩ := HC.out.2.2.2.2.2.2.1 0 hi
                        rw [hx] at cx hxn cd
                        rw [Nat.add_zero] at cx
                        have hxi : (x : Int) < n := by omega
                        have hfz := HC.out.2.2.2.2.2.2.2.2 x
                        have Hx := Lib.hid hx
                        clear hx
                        go_wp2_with fail
                        have hgs9 := (HC.out.1.mark (X := X) (x := x))
                        have hof9 : OffR (wr.setCell ⟨db, x, none⟩ (.int .i64 1)) (ob + 1) (.slice (some ⟨g, o, none⟩) can.length c6) (nats can) := HC.out.2.2.2.2.2.1.keep fun g' hg' => by
                          obtain rfl : g = g' := by simpa [Value.ownBlock] using hg'
                          exact Below.heap_setCell wr ⟨db, x, none⟩ _ g HC.out.2.2.2.2.2.2.2.1
                        have hobx : ob + 1 ≤ (wr.setCell ⟨db, x, none⟩ (.int .i64 1)).heap.size := by have h1 := (HC.out.2.2.2.2.2.1.lt g rfl).1; have h2 := (HC.out.2.2.2.2.2.1.lt g rfl).2; simp [World.setCell]; omega
                        generalize hW9 : wr.setCell ⟨db, x, none⟩ (.int .i64 1) = W9 at hgs9 hof9 hobx ⊢
                        clear hW9
                        have hparts := hof9.parts hi
                        have hg9 := (hof9.lt g rfl).2
                        have hone : ∀ u ∈ ints (nats (can.take 0)), u.oneCell' = true := fun u hu => by obtain ⟨y, _, rfl⟩ := List.mem_map.1 hu; rfl
                        have hl1 : (ints (nats (can.take 0))).length = 0 * 1 := by simp [ints]
                        have hl2 : (ints (nats (can.drop (0 + 1)))).length = (can.length - (0 + 1)) * 1 := by simp [ints]
                        have H9 := Lib.hid (And.intro hgs9 hof9)
                        by_cases hce : c6 = 0 + 1
                        · subst hce
                          have HA := Lib.hid (And.intro hl1 (And.intro hparts.1 (And.intro hone (And.intro hobx (And.intro hl2 (And.intro hg9 (hparts.2 o (fun h => absurd rfl h))))))))
                          clear hgs9 hof9 hobx hparts hg9 hone hl1 hl2 hc6
                          have hs3 : (1 : Int) ≤ can.length := by omega
                          have hs4 : 1 ≤ can.length := by omega
                          have hs6 : (1 : Int).toNat = 1 := rfl
                          have hs7 : IntKind.i64.wrap (0 + 1) = 1 := IntWalk.i64_in _ (by omega)
                          have hs8 : IntKind.i64.wrap 1 = 1 := IntWalk.i64_in _ (by omega)
                          go_region_held3 (fun _ => True) (exact trivial) (first | (refine step_append_own rfl (.const (.slice none 0 0)) (.tmp 184) _ rfl (ob + 1) 3 i0 (.int .i64 0) 1 8 Try.underlying25 Hi0.out.1 Hi0.out.2.1 Hi0.out.2.2.1 Hi0.out.2.2.2 rfl (by decide) (.slice none 0 0) 0 [] rfl (World.ownsRow_nil _ _ _ _) ⟨g, o, none⟩ 0 (0 + 1) (ints (nats (can.take 0))) rfl HA.out.1 HA.out.2.1 HA.out.2.2.1 (by unfold maxLen; omega) (by omega) HA.out.2.2.2.1 (fun v1 w1 hown1 hg1 _ => ?_); rw [Nat.zero_add, List.nil_append] at hown1; obtain ⟨A1, d1, rfl, _, _⟩ := own_form3 hown1; have HB1 := Lib.hid (And.intro hown1 hg1); clear hown1 hg1) | (refine step_append_own rfl (.tmp 185) (.tmp 189) _ rfl (ob + 1) 3 i0 (.int .i64 0) 1 8 Try.underlying25 Hi0.out.1 Hi0.out.2.1 Hi0.out.2.2.1 Hi0.out.2.2.2 rfl (by decide) (.slice A1 0 d1) 0 (ints (nats (can.take 0))) rfl HB1.out.1 ⟨g, o, none⟩ (can.length - (0 + 1)) _ (ints (nats (can.drop (0 + 1)))) rfl HA.out.2.2.2.2.1 (fun j u hu => (World.cell?_of_block (by rw [add_block]; exact HB1.out.2.block g HA.out.2.2.2.2.2.1 (fun e => by cases e))).trans (HA.out.2.2.2.2.2.2 j u hu)) (fun u hu => by obtain ⟨y, _, rfl⟩ := List.mem_map.1 hu; rfl) (by unfold maxLen; omega) (by omega) (Nat.le_trans HA.out.2.2.2.1 HB1.out.2.size) (fun v2 w2 hown2 hg2 _ => ?_); have HB2 := Lib.hid (And.intro hown2 hg2); clear hown2 hg2))
                          all_goals
                            go_wp2_with fail
                            go_roundg (gk - 1)
                            case measure => omega
                            case rel =>
                              obtain ⟨h1, h2, h3, h4, _⟩ := HC.out
                              obtain ⟨hown1, hg1⟩ := HB1.out
                              obtain ⟨hown2, hg2⟩ := HB2.out
                              have hp := h2.pick hi
                              rw [Hx.out] at hp
                              have hpos : 0 < lf := by
                                have e1 := h2.cnt
                                have e2 := hp.cnt
                                rw [List.length_append, List.length_singleton] at e2
                                omega
                              have hd : LS w W9.drew ub db n par (fun k => U k && !decide (k ∈ X ++ [x])) := H9.out.1.move (row := none) ⟨rfl, rfl, rfl, Nat.le_refl _, fun _ _ _ => rfl⟩ (fun g e => by cases e)
                              have hls2 := (hd.move hg1 (fun g e => by cases e)).move hg2 (fun g' e => by have := (own_lo3 hown1 g' e).1; have := HQ.out.2.2.1; omega)
                              have hof2 : OffR w2 (ob + 1) v2 (nats (can.take 0 ++ can.drop (0 + 1))) := OffR.own (n := 0 + (can.length - (0 + 1))) (by rw [nats_append, ints_append]; exact hown2) (by simp)
                              refine ⟨X ++ [x], can.take 0 ++ can.drop (0 + 1), tu2, lf - 1, by rw [List.length_append, List.length_singleton]; omega, congrArg (Value.int .i64) (by rw [List.length_append, List.length_singleton]; omega), congrArg (Value.int .i64) (by omega), congrArg (Value.int .i64) (by omega), hp, hls2, hof2, by rw [List.length_append, List.length_singleton]; omega, by omega⟩
                        · have HA := Lib.hid (And.intro hl1 (And.intro hparts.1 (And.intro hone (And.intro hobx (And.intro hl2 (And.intro hg9 (hparts.2 (o + (0 + 1)) (fun _ => rfl))))))))
                          clear hgs9 hof9 hobx hparts hg9 hone hl1 hl2
                          have hs2 : 1 ≤ c6 := by omega
                          have hs3 : (1 : Int) ≤ can.length := by omega
                          have hs4 : 1 ≤ can.length := by omega
                          have hs6 : (1 : Int).toNat = 1 := rfl
                          have hs7 : IntKind.i64.wrap (0 + 1) = 1 := IntWalk.i64_in _ (by omega)
                          have hs8 : IntKind.i64.wrap 1 = 1 := IntWalk.i64_in _ (by omega)
                          go_region_held3 (fun _ => True) (exact trivial) (first | (refine step_append_own rfl (.const (.slice none 0 0)) (.tmp 184) _ rfl (ob + 1) 3 i0 (.int .i64 0) 1 8 Try.underlying25 Hi0.out.1 Hi0.out.2.1 Hi0.out.2.2.1 Hi0.out.2.2.2 rfl (by decide) (.slice none 0 0) 0 [] rfl (World.ownsRow_nil _ _ _ _) ⟨g, o, none⟩ 0 c6 (ints (nats (can.take 0))) rfl HA.out.1 HA.out.2.1 HA.out.2.2.1 (by unfold maxLen; omega) (by omega) HA.out.2.2.2.1 (fun v1 w1 hown1 hg1 _ => ?_); rw [Nat.zero_add, List.nil_append] at hown1; obtain ⟨A1, d1, rfl, _, _⟩ := own_form3 hown1; have HB1 := Lib.hid (And.intro hown1 hg1); clear hown1 hg1) | (refine step_append_own rfl (.tmp 185) (.tmp 189) _ rfl (ob + 1) 3 i0 (.int .i64 0) 1 8 Try.underlying25 Hi0.out.1 Hi0.out.2.1 Hi0.out.2.2.1 Hi0.out.2.2.2 rfl (by decide) (.slice A1 0 d1) 0 (ints (nats (can.take 0))) rfl HB1.out.1 ⟨g, o + (0 + 1), none⟩ (can.length - (0 + 1)) _ (ints (nats (can.drop (0 + 1)))) rfl HA.out.2.2.2.2.1 (fun j u hu => (World.cell?_of_block (by rw [add_block]; exact HB1.out.2.block g HA.out.2.2.2.2.2.1 (fun e => by cases e))).trans (HA.out.2.2.2.2.2.2 j u hu)) (fun u hu => by obtain ⟨y, _, rfl⟩ := List.mem_map.1 hu; rfl) (by unfold maxLen; omega) (by omega) (Nat.le_trans HA.out.2.2.2.1 HB1.out.2.size) (fun v2 w2 hown2 hg2 _ => ?_); have HB2 := Lib.hid (And.intro hown2 hg2); clear hown2 hg2))
                          all_goals
                            go_wp2_with fail
                            go_roundg (gk - 1)
                            case measure => omega
                            case rel =>
                              obtain ⟨h1, h2, h3, h4, _⟩ := HC.out
                              obtain ⟨hown1, hg1⟩ := HB1.out
                              obtain ⟨hown2, hg2⟩ := HB2.out
                              have hp := h2.pick hi
                              rw [Hx.out] at hp
                              have hpos : 0 < lf := by
                                have e1 := h2.cnt
                                have e2 := hp.cnt
                                rw [List.length_append, List.length_singleton] at e2
                                omega
                              have hd : LS w W9.drew ub db n par (fun k => U k && !decide (k ∈ X ++ [x])) := H9.out.1.move (row := none) ⟨rfl, rfl, rfl, Nat.le_refl _, fun _ _ _ => rfl⟩ (fun g e => by cases e)
                              have hls2 := (hd.move hg1 (fun g e => by cases e)).move hg2 (fun g' e => by have := (own_lo3 hown1 g' e).1; have := HQ.out.2.2.1; omega)
                              have hof2 : OffR w2 (ob + 1) v2 (nats (can.take 0 ++ can.drop (0 + 1))) := OffR.own (n := 0 + (can.length - (0 + 1))) (by rw [nats_append, ints_append]; exact hown2) (by simp)
                              refine ⟨X ++ [x], can.take 0 ++ can.drop (0 + 1), tu2, lf - 1, by rw [List.length_append, List.length_singleton]; omega, congrArg (Value.int .i64) (by rw [List.length_append, List.length_singleton]; omega), congrArg (Value.int .i64) (by omega), congrArg (Value.int .i64) (by omega), hp, hls2, hof2, by rw [List.length_append, List.length_singleton]; omega, by omega⟩
                    · obtain rfl : can = [] := List.eq_nil_of_length_eq_zero (by omega)
                      have HC := Lib.hid (And.intro hls (And.intro hgk (And.intro hlf (And.intro htl hc6'))))
                      clear hls hgk hlf htl hoff hc6 hc6' hcl
                      have hkmi : (X.length : Int) < m := by omega
                      go_wp2_with fail
                      go_roundg lf
                      case measure =>
                        obtain ⟨h1, h2, h3, h4, _⟩ := HC.out
                        obtain ⟨_, _, _, q4, q5, q6, q7⟩ := HQ.out
                        exact (LOut.next HF.out hm1 h1 h2 (by omega) (.inr rfl) q4 hgk0 q6 h3 h4 q7).1
                      case rel =>
                        obtain ⟨h1, h2, h3, h4, _⟩ := HC.out
                        obtain ⟨_, _, _, q4, q5, q6, q7⟩ := HQ.out
                        exact ⟨r + 1, tu2, by go_num, rfl, rfl, (LOut.next HF.out hm1 h1 h2 (by omega) (.inr rfl) q4 hgk0 q6 h3 h4 q7).2⟩
                  · have HC := Lib.hid (And.intro hls (And.intro hgk (And.intro hlf (And.intro htl hc6'))))
                    clear hls hgk hlf htl hoff hc6 hc6'
                    have hkmi : ¬ (X.length : Int) < m := by omega
                    go_wp2_with fail
                    go_roundg lf
                    case measure =>
                      obtain ⟨h1, h2, h3, h4, _⟩ := HC.out
                      obtain ⟨_, _, _, q4, q5, q6, q7⟩ := HQ.out
                      exact (LOut.next HF.out hm1 h1 h2 (by omega) (.inl (by omega)) q4 hgk0 q6 h3 h4 q7).1
                    case rel =>
                      obtain ⟨h1, h2, h3, h4, _⟩ := HC.out
                      obtain ⟨_, _, _, q4, q5, q6, q7⟩ := HQ.out
                      exact ⟨r + 1, tu2, by go_num, rfl, rfl, (LOut.next HF.out hm1 h1 h2 (by omega) (.inl (by omega)) q4 hgk0 q6 h3 h4 q7).2⟩
  · have h := H2.out.2.1 (by assumption) (by simpa using ‹(c2 != 0) = false›)
    have h' : wrap64 (b1 + wrap64 ((wrap64 (wrap64 (wrap64 (a1 - b1) + wk) - 1)).tdiv wk)) < r2 := by assumption
    omega
  · have h := H2.out.2.1 (by assumption) (by simpa using ‹(c2 != 0) = false›)
    have h' : wrap64 (r2 * wk) < a1 := by assumption
    omega
  · have h := H2.out.2.1 (by assumption) (by simpa using ‹(c2 != 0) = false›)
    have h' : r2 < b1 := by assumption
    omega
  · go_ret
    exact ⟨rfl, H2.out.1⟩
  · go_ret
    exact ⟨rfl, H2.out.1⟩
  · exact (H2.out.2.2.2 (by assumption) (by assumption) (by assumption)).elim
end Go.Proofs.Ytokjchcmjglbhaa
