/- The contracts of lang.meet, apart. No conditions but that what is read is there. -/
import Derived.Test.YtgiceeholamphaaDoorApt
namespace Go.Proofs.YtgiceeholamphaaDoor
open Go.ChangeShapes Go.WideShapes Go.ChangeAt Go.RowKit Go.Maps

def MeetPost (p : Prop) (w : World) (E : Ending) (w' : World) : Prop := ∃ t : Bool, E = .returned (.bool t) ∧ (t = true ↔ p) ∧ Below w.heap.size w w'
def meets (l1 l2 : List ByteArray) : Prop := ∃ s ∈ l1, s ∈ l2
set_option maxRecDepth 100000 in
set_option maxHeartbeats 2000000 in
theorem meet_any (w : World) (b1 b2 N1 N2 : Nat) (l1 l2 : List ByteArray) (h1 : MapAt w 3 b1 N1 (cntF l1)) (h2 : MapAt w 3 b2 N2 (cntF l2)) :
    Calls Tryd.prog 58 #[.map (some b1), .map (some b2)] w (MeetPost (meets l1 l2) w) := by
  have hlt1 := h1.lt
  have hlt2 := h2.lt
  have H := Lib.hid (And.intro h1 h2); clear h1 h2
  go_enter Tryd.func58, Tryd.ntmps58
  go_wp2_with (at_range; (
    refine wpList_map_range rfl _ 82 rfl Tryd.underlying82 rfl H.out.1 ?_
    intro w8 cnt0 hl8 hc8 hg8 hs8
    have hb8 : Below w.heap.size w w8 := (Below.refl _ w).grown hg8 (Nat.le_refl _) (fun k e => by cases e)
    have hm8 := H.out.2.below hb8 hlt2
    have H9 := Lib.hid (And.intro hl8 (And.intro hb8 hm8)); clear hl8 hb8 hg8 hm8))
  go_frame
  go_loopg [] cnt0 (fun gk wr => ∃ (todo : ByteArray → Bool), LeftAt wr 3 b1 w.heap.size N1 (cntF l1) todo gk ∧ Below w.heap.size w wr ∧ (∀ s ∈ l1, todo s = false → s ∉ l2))
  case atStart => exact ⟨_, H9.out.1, H9.out.2.1, fun s hs ht => by rw [cntF_isSome.2 hs] at ht; cases ht⟩
  case round =>
    obtain ⟨todo, hla, hb, hno⟩ := hrel
    have hm2 := H.out.2.below hb hlt2
    have H10 := Lib.hid (And.intro hla (And.intro hb (And.intro hno hm2))); clear hla hb hno hm2
    go_wp2_with (at_next; refine wpList_map_next rfl _ rfl Tryd.underlying3 rfl H10.out.1 ?_ ?_)
    · intro hall
      have HA := Lib.hid hall; clear hall
      go_wp2_with fail
      go_ret
      refine ⟨false, rfl, ⟨fun h => (by cases h), ?_⟩, H10.out.2.1⟩
      rintro ⟨s, hs, h2⟩
      exact absurd h2 (H10.out.2.2.1 s hs (HA.out s))
    · intro s cv w9 cnt9 hss htd hfs hla9 hlt9 hg9 hs9 hen
      have hsl : s ∈ l1 := cntF_isSome.1 (by rw [hfs]; rfl)
      have hb9 : Below w.heap.size w w9 := H10.out.2.1.grown hg9 H10.out.2.1.size (fun k e => by cases e; exact Nat.le_refl _)
      have hm9 := H.out.2.below hb9 hlt2
      have H11 := Lib.hid (And.intro hb9 (And.intro hla9 (And.intro hm9 hsl))); clear hb9 hla9 hm9 hg9 hsl hfs htd
      by_cases hin : s ∈ l2
      · have hp : 0 < cnt l2 s := cnt_pos.2 hin
        have Hin := Lib.hid hin; clear hin
        go_wp2_with (at_lookup; refine wpList_map_get rfl _ _ 82 rfl Tryd.underlying3 (zero_int _) Tryd.underlying82 rfl H11.out.2.2.1 s hss rfl ?_; rw [cntF_getD])
        go_ret
        exact ⟨true, rfl, ⟨fun _ => ⟨s, H11.out.2.2.2, Hin.out⟩, fun _ => rfl⟩, H11.out.1⟩
      · have hp : cnt l2 s = 0 := by
          rcases Nat.eq_zero_or_pos (cnt l2 s) with h | h
          · exact h
          · exact absurd (cnt_pos.1 h) hin
        have Hin := Lib.hid hin; clear hin
        go_wp2_with (at_lookup; refine wpList_map_get rfl _ _ 82 rfl Tryd.underlying3 (zero_int _) Tryd.underlying82 rfl H11.out.2.2.1 s hss rfl ?_; rw [cntF_getD])
        go_roundg cnt9
        case measure => exact hlt9
        case rel =>
          refine ⟨_, H11.out.2.1, H11.out.1, fun t ht htd => ?_⟩
          by_cases e : t = s
          · subst e; exact Hin.out
          · refine H10.out.2.2.1 t ht ?_
            simpa [e] using htd
/-- The names of a block, as its three maps. -/
structure NmAt (w : World) (b1 b2 b3 : Nat) (l : List StatR) : Prop where
  m1 : ∃ N, MapAt w 3 b1 N (cntF (assignsS l))
  m2 : ∃ N, MapAt w 3 b2 N (cntF (addsS l))
  m3 : ∃ N, MapAt w 3 b3 N (cntF (readsS l))
theorem NmAt.below {w w' : World} {b1 b2 b3 : Nat} {l : List StatR} (h : NmAt w b1 b2 b3 l) (hb : Below w.heap.size w w') : NmAt w' b1 b2 b3 l := by
  obtain ⟨⟨n1, h1⟩, ⟨n2, h2⟩, ⟨n3, h3⟩⟩ := h
  exact ⟨⟨n1, h1.below hb h1.lt⟩, ⟨n2, h2.below hb h2.lt⟩, ⟨n3, h3.below hb h3.lt⟩⟩
theorem apt_iff {A D R A' D' R' : List ByteArray} : Apt A D R A' D' R' ↔ ¬ meets A A' ∧ ¬ meets A D' ∧ ¬ meets A R' ∧ ¬ meets D A' ∧ ¬ meets D R' ∧ ¬ meets R A' ∧ ¬ meets R D' := by
  constructor
  · intro h
    exact ⟨fun ⟨s, a, b⟩ => h.aa s a b, fun ⟨s, a, b⟩ => h.ad s a b, fun ⟨s, a, b⟩ => h.ar s a b, fun ⟨s, a, b⟩ => h.da s a b, fun ⟨s, a, b⟩ => h.dr s a b, fun ⟨s, a, b⟩ => h.ra s a b, fun ⟨s, a, b⟩ => h.rd s a b⟩
  · rintro ⟨h1, h2, h3, h4, h5, h6, h7⟩
    exact ⟨fun s a b => h1 ⟨s, a, b⟩, fun s a b => h2 ⟨s, a, b⟩, fun s a b => h3 ⟨s, a, b⟩, fun s a b => h4 ⟨s, a, b⟩, fun s a b => h5 ⟨s, a, b⟩, fun s a b => h6 ⟨s, a, b⟩, fun s a b => h7 ⟨s, a, b⟩⟩
theorem nm_boxes {w W : World} {c1 c2 : List Value} {t u : TypeId} (h : (w.alloc (.cells c1.toArray t)).alloc (.cells c2.toArray u) = W) :
    Below w.heap.size w W ∧ W.heap.size = w.heap.size + 2 ∧ Blk W w.heap.size t c1 ∧ Blk W (w.heap.size + 1) u c2 := by
  subst h
  refine ⟨((Below.refl _ _).alloc (Nat.le_refl _) _).alloc (by simp) _, by simp, (Blk.new _ _ _).alloc _, ?_⟩
  have h := Blk.new (w.alloc (.cells c1.toArray t)) u c2
  rwa [show (w.alloc (.cells c1.toArray t)).heap.size = w.heap.size + 1 by simp] at h
set_option maxRecDepth 100000 in
set_option maxHeartbeats 8000000 in
theorem apart_any (w : World) (b1 b2 b3 c1 c2 c3 : Nat) (l m : List StatR) (h : NmAt w b1 b2 b3 l) (k : NmAt w c1 c2 c3 m) :
    Calls Tryd.prog 37 #[namesV b1 b2 b3, namesV c1 c2 c3] w (MeetPost (Apt (assignsS l) (addsS l) (readsS l) (assignsS m) (addsS m) (readsS m)) w) := by
  obtain ⟨⟨n1, h1⟩, ⟨n2, h2⟩, ⟨n3, h3⟩⟩ := h
  obtain ⟨⟨k1, g1⟩, ⟨k2, g2⟩, ⟨k3, g3⟩⟩ := k
  have hl1 := h1.lt
  have hl2 := h2.lt
  have hl3 := h3.lt
  have kl1 := g1.lt
  have kl2 := g2.lt
  have kl3 := g3.lt
  have hm : ∀ W, Below w.heap.size w W → MapAt W 3 b1 n1 (cntF (assignsS l)) ∧ MapAt W 3 b2 n2 (cntF (addsS l)) ∧ MapAt W 3 b3 n3 (cntF (readsS l)) ∧ MapAt W 3 c1 k1 (cntF (assignsS m)) ∧ MapAt W 3 c2 k2 (cntF (addsS m)) ∧ MapAt W 3 c3 k3 (cntF (readsS m)) :=
    fun W hb => ⟨h1.below hb hl1, h2.below hb hl2, h3.below hb hl3, g1.below hb kl1, g2.below hb kl2, g3.below hb kl3⟩
  have H := Lib.hid hm; clear hm h1 h2 h3 g1 g2 g3
  have hap := @apt_iff (assignsS l) (addsS l) (readsS l) (assignsS m) (addsS m) (readsS m)
  have HP := Lib.hid hap; clear hap
  show Calls Tryd.prog 37 #[.agg #[.map (some b1), .map (some b2), .map (some b3)], .agg #[.map (some c1), .map (some c2), .map (some c3)]] w _
  by_cases p0 : meets (assignsS l) (assignsS m)
  · have P0 := Lib.hid p0; clear p0
    have mk0 : Nat := 0
    go_enter Tryd.func37, Tryd.ntmps37
    go_upto_region 1 with (fail)
    generalize hW0 : (w.alloc (.cells #[.map (some b1), .map (some b2), .map (some b3)] 84)).alloc (.cells #[.map (some c1), .map (some c2), .map (some c3)] 84) = W0
    obtain ⟨hbx, hzx, hx1, hx2⟩ := nm_boxes (c1 := [.map (some b1), .map (some b2), .map (some b3)]) (c2 := [.map (some c1), .map (some c2), .map (some c3)]) hW0
    clear hW0
    have x0 := hx1.cell 0
    have x1 := hx1.cell 1
    have x2 := hx1.cell 2
    have z0 := hx2.cell 0
    have z1 := hx2.cell 1
    have z2 := hx2.cell 2
    simp at x0 x1 x2 z0 z1 z2
    have hs0 : w.heap.size < W0.heap.size := by omega
    have hs0' : w.heap.size + 1 < W0.heap.size := by omega
    have HB0 := Lib.hid hbx; clear hbx hx1 hx2 hzx
    go_wp2_with (first
      | (clear mk0; go_at_call 58; (
          refine (show Calls _ _ _ _ _ from meet_any W0 b1 c1 _ _ _ _ (H.out _ HB0.out).1 (H.out _ HB0.out).2.2.2.1).mono ?_
          rintro E W1 ⟨t, rfl, ht, hb⟩
          obtain rfl : t = true := ht.2 P0.out
          have hc1 := bcell hb
          have hs1 : w.heap.size < W1.heap.size := by have := hb.size; omega
          have hs1' : w.heap.size + 1 < W1.heap.size := by have := hb.size; omega
          have HB1 := Lib.hid (HB0.out.trans (hb.mono HB0.out.size)); clear hb ht)))
    go_ret
    exact ⟨false, rfl, ⟨fun h => (by cases h), fun h => absurd P0.out (HP.out.1 h).1⟩, HB1.out⟩
  have P0 := Lib.hid p0; clear p0
  by_cases p1 : meets (assignsS l) (addsS m)
  · have P1 := Lib.hid p1; clear p1
    have mk0 : Nat := 0
    have mk1 : Nat := 0
    go_enter Tryd.func37, Tryd.ntmps37
    go_upto_region 1 with (fail)
    generalize hW0 : (w.alloc (.cells #[.map (some b1), .map (some b2), .map (some b3)] 84)).alloc (.cells #[.map (some c1), .map (some c2), .map (some c3)] 84) = W0
    obtain ⟨hbx, hzx, hx1, hx2⟩ := nm_boxes (c1 := [.map (some b1), .map (some b2), .map (some b3)]) (c2 := [.map (some c1), .map (some c2), .map (some c3)]) hW0
    clear hW0
    have x0 := hx1.cell 0
    have x1 := hx1.cell 1
    have x2 := hx1.cell 2
    have z0 := hx2.cell 0
    have z1 := hx2.cell 1
    have z2 := hx2.cell 2
    simp at x0 x1 x2 z0 z1 z2
    have hs0 : w.heap.size < W0.heap.size := by omega
    have hs0' : w.heap.size + 1 < W0.heap.size := by omega
    have HB0 := Lib.hid hbx; clear hbx hx1 hx2 hzx
    go_wp2_with (first
      | (clear mk0; go_at_call 58; (
          refine (show Calls _ _ _ _ _ from meet_any W0 b1 c1 _ _ _ _ (H.out _ HB0.out).1 (H.out _ HB0.out).2.2.2.1).mono ?_
          rintro E W1 ⟨t, rfl, ht, hb⟩
          obtain rfl : t = false := (by cases t with | false => rfl | true => exact absurd (ht.1 rfl) P0.out)
          have hc1 := bcell hb
          have hs1 : w.heap.size < W1.heap.size := by have := hb.size; omega
          have hs1' : w.heap.size + 1 < W1.heap.size := by have := hb.size; omega
          have HB1 := Lib.hid (HB0.out.trans (hb.mono HB0.out.size)); clear hb ht))
      | (clear mk1; go_at_call 58; (
          refine (show Calls _ _ _ _ _ from meet_any W1 b1 c2 _ _ _ _ (H.out _ HB1.out).1 (H.out _ HB1.out).2.2.2.2.1).mono ?_
          rintro E W2 ⟨t, rfl, ht, hb⟩
          obtain rfl : t = true := ht.2 P1.out
          have hc2 := bcell hb
          have hs2 : w.heap.size < W2.heap.size := by have := hb.size; omega
          have hs2' : w.heap.size + 1 < W2.heap.size := by have := hb.size; omega
          have HB2 := Lib.hid (HB1.out.trans (hb.mono HB1.out.size)); clear hb ht)))
    go_ret
    exact ⟨false, rfl, ⟨fun h => (by cases h), fun h => absurd P1.out (HP.out.1 h).2.1⟩, HB2.out⟩
  have P1 := Lib.hid p1; clear p1
  by_cases p2 : meets (assignsS l) (readsS m)
  · have P2 := Lib.hid p2; clear p2
    have mk0 : Nat := 0
    have mk1 : Nat := 0
    have mk2 : Nat := 0
    go_enter Tryd.func37, Tryd.ntmps37
    go_upto_region 1 with (fail)
    generalize hW0 : (w.alloc (.cells #[.map (some b1), .map (some b2), .map (some b3)] 84)).alloc (.cells #[.map (some c1), .map (some c2), .map (some c3)] 84) = W0
    obtain ⟨hbx, hzx, hx1, hx2⟩ := nm_boxes (c1 := [.map (some b1), .map (some b2), .map (some b3)]) (c2 := [.map (some c1), .map (some c2), .map (some c3)]) hW0
    clear hW0
    have x0 := hx1.cell 0
    have x1 := hx1.cell 1
    have x2 := hx1.cell 2
    have z0 := hx2.cell 0
    have z1 := hx2.cell 1
    have z2 := hx2.cell 2
    simp at x0 x1 x2 z0 z1 z2
    have hs0 : w.heap.size < W0.heap.size := by omega
    have hs0' : w.heap.size + 1 < W0.heap.size := by omega
    have HB0 := Lib.hid hbx; clear hbx hx1 hx2 hzx
    go_wp2_with (first
      | (clear mk0; go_at_call 58; (
          refine (show Calls _ _ _ _ _ from meet_any W0 b1 c1 _ _ _ _ (H.out _ HB0.out).1 (H.out _ HB0.out).2.2.2.1).mono ?_
          rintro E W1 ⟨t, rfl, ht, hb⟩
          obtain rfl : t = false := (by cases t with | false => rfl | true => exact absurd (ht.1 rfl) P0.out)
          have hc1 := bcell hb
          have hs1 : w.heap.size < W1.heap.size := by have := hb.size; omega
          have hs1' : w.heap.size + 1 < W1.heap.size := by have := hb.size; omega
          have HB1 := Lib.hid (HB0.out.trans (hb.mono HB0.out.size)); clear hb ht))
      | (clear mk1; go_at_call 58; (
          refine (show Calls _ _ _ _ _ from meet_any W1 b1 c2 _ _ _ _ (H.out _ HB1.out).1 (H.out _ HB1.out).2.2.2.2.1).mono ?_
          rintro E W2 ⟨t, rfl, ht, hb⟩
          obtain rfl : t = false := (by cases t with | false => rfl | true => exact absurd (ht.1 rfl) P1.out)
          have hc2 := bcell hb
          have hs2 : w.heap.size < W2.heap.size := by have := hb.size; omega
          have hs2' : w.heap.size + 1 < W2.heap.size := by have := hb.size; omega
          have HB2 := Lib.hid (HB1.out.trans (hb.mono HB1.out.size)); clear hb ht))
      | (clear mk2; go_at_call 58; (
          refine (show Calls _ _ _ _ _ from meet_any W2 b1 c3 _ _ _ _ (H.out _ HB2.out).1 (H.out _ HB2.out).2.2.2.2.2).mono ?_
          rintro E W3 ⟨t, rfl, ht, hb⟩
          obtain rfl : t = true := ht.2 P2.out
          have hc3 := bcell hb
          have hs3 : w.heap.size < W3.heap.size := by have := hb.size; omega
          have hs3' : w.heap.size + 1 < W3.heap.size := by have := hb.size; omega
          have HB3 := Lib.hid (HB2.out.trans (hb.mono HB2.out.size)); clear hb ht)))
    go_ret
    exact ⟨false, rfl, ⟨fun h => (by cases h), fun h => absurd P2.out (HP.out.1 h).2.2.1⟩, HB3.out⟩
  have P2 := Lib.hid p2; clear p2
  by_cases p3 : meets (addsS l) (assignsS m)
  · have P3 := Lib.hid p3; clear p3
    have mk0 : Nat := 0
    have mk1 : Nat := 0
    have mk2 : Nat := 0
    have mk3 : Nat := 0
    go_enter Tryd.func37, Tryd.ntmps37
    go_upto_region 1 with (fail)
    generalize hW0 : (w.alloc (.cells #[.map (some b1), .map (some b2), .map (some b3)] 84)).alloc (.cells #[.map (some c1), .map (some c2), .map (some c3)] 84) = W0
    obtain ⟨hbx, hzx, hx1, hx2⟩ := nm_boxes (c1 := [.map (some b1), .map (some b2), .map (some b3)]) (c2 := [.map (some c1), .map (some c2), .map (some c3)]) hW0
    clear hW0
    have x0 := hx1.cell 0
    have x1 := hx1.cell 1
    have x2 := hx1.cell 2
    have z0 := hx2.cell 0
    have z1 := hx2.cell 1
    have z2 := hx2.cell 2
    simp at x0 x1 x2 z0 z1 z2
    have hs0 : w.heap.size < W0.heap.size := by omega
    have hs0' : w.heap.size + 1 < W0.heap.size := by omega
    have HB0 := Lib.hid hbx; clear hbx hx1 hx2 hzx
    go_wp2_with (first
      | (clear mk0; go_at_call 58; (
          refine (show Calls _ _ _ _ _ from meet_any W0 b1 c1 _ _ _ _ (H.out _ HB0.out).1 (H.out _ HB0.out).2.2.2.1).mono ?_
          rintro E W1 ⟨t, rfl, ht, hb⟩
          obtain rfl : t = false := (by cases t with | false => rfl | true => exact absurd (ht.1 rfl) P0.out)
          have hc1 := bcell hb
          have hs1 : w.heap.size < W1.heap.size := by have := hb.size; omega
          have hs1' : w.heap.size + 1 < W1.heap.size := by have := hb.size; omega
          have HB1 := Lib.hid (HB0.out.trans (hb.mono HB0.out.size)); clear hb ht))
      | (clear mk1; go_at_call 58; (
          refine (show Calls _ _ _ _ _ from meet_any W1 b1 c2 _ _ _ _ (H.out _ HB1.out).1 (H.out _ HB1.out).2.2.2.2.1).mono ?_
          rintro E W2 ⟨t, rfl, ht, hb⟩
          obtain rfl : t = false := (by cases t with | false => rfl | true => exact absurd (ht.1 rfl) P1.out)
          have hc2 := bcell hb
          have hs2 : w.heap.size < W2.heap.size := by have := hb.size; omega
          have hs2' : w.heap.size + 1 < W2.heap.size := by have := hb.size; omega
          have HB2 := Lib.hid (HB1.out.trans (hb.mono HB1.out.size)); clear hb ht))
      | (clear mk2; go_at_call 58; (
          refine (show Calls _ _ _ _ _ from meet_any W2 b1 c3 _ _ _ _ (H.out _ HB2.out).1 (H.out _ HB2.out).2.2.2.2.2).mono ?_
          rintro E W3 ⟨t, rfl, ht, hb⟩
          obtain rfl : t = false := (by cases t with | false => rfl | true => exact absurd (ht.1 rfl) P2.out)
          have hc3 := bcell hb
          have hs3 : w.heap.size < W3.heap.size := by have := hb.size; omega
          have hs3' : w.heap.size + 1 < W3.heap.size := by have := hb.size; omega
          have HB3 := Lib.hid (HB2.out.trans (hb.mono HB2.out.size)); clear hb ht))
      | (clear mk3; go_at_call 58; (
          refine (show Calls _ _ _ _ _ from meet_any W3 b2 c1 _ _ _ _ (H.out _ HB3.out).2.1 (H.out _ HB3.out).2.2.2.1).mono ?_
          rintro E W4 ⟨t, rfl, ht, hb⟩
          obtain rfl : t = true := ht.2 P3.out
          have hc4 := bcell hb
          have hs4 : w.heap.size < W4.heap.size := by have := hb.size; omega
          have hs4' : w.heap.size + 1 < W4.heap.size := by have := hb.size; omega
          have HB4 := Lib.hid (HB3.out.trans (hb.mono HB3.out.size)); clear hb ht)))
    go_ret
    exact ⟨false, rfl, ⟨fun h => (by cases h), fun h => absurd P3.out (HP.out.1 h).2.2.2.1⟩, HB4.out⟩
  have P3 := Lib.hid p3; clear p3
  by_cases p4 : meets (addsS l) (readsS m)
  · have P4 := Lib.hid p4; clear p4
    have mk0 : Nat := 0
    have mk1 : Nat := 0
    have mk2 : Nat := 0
    have mk3 : Nat := 0
    have mk4 : Nat := 0
    go_enter Tryd.func37, Tryd.ntmps37
    go_upto_region 1 with (fail)
    generalize hW0 : (w.alloc (.cells #[.map (some b1), .map (some b2), .map (some b3)] 84)).alloc (.cells #[.map (some c1), .map (some c2), .map (some c3)] 84) = W0
    obtain ⟨hbx, hzx, hx1, hx2⟩ := nm_boxes (c1 := [.map (some b1), .map (some b2), .map (some b3)]) (c2 := [.map (some c1), .map (some c2), .map (some c3)]) hW0
    clear hW0
    have x0 := hx1.cell 0
    have x1 := hx1.cell 1
    have x2 := hx1.cell 2
    have z0 := hx2.cell 0
    have z1 := hx2.cell 1
    have z2 := hx2.cell 2
    simp at x0 x1 x2 z0 z1 z2
    have hs0 : w.heap.size < W0.heap.size := by omega
    have hs0' : w.heap.size + 1 < W0.heap.size := by omega
    have HB0 := Lib.hid hbx; clear hbx hx1 hx2 hzx
    go_wp2_with (first
      | (clear mk0; go_at_call 58; (
          refine (show Calls _ _ _ _ _ from meet_any W0 b1 c1 _ _ _ _ (H.out _ HB0.out).1 (H.out _ HB0.out).2.2.2.1).mono ?_
          rintro E W1 ⟨t, rfl, ht, hb⟩
          obtain rfl : t = false := (by cases t with | false => rfl | true => exact absurd (ht.1 rfl) P0.out)
          have hc1 := bcell hb
          have hs1 : w.heap.size < W1.heap.size := by have := hb.size; omega
          have hs1' : w.heap.size + 1 < W1.heap.size := by have := hb.size; omega
          have HB1 := Lib.hid (HB0.out.trans (hb.mono HB0.out.size)); clear hb ht))
      | (clear mk1; go_at_call 58; (
          refine (show Calls _ _ _ _ _ from meet_any W1 b1 c2 _ _ _ _ (H.out _ HB1.out).1 (H.out _ HB1.out).2.2.2.2.1).mono ?_
          rintro E W2 ⟨t, rfl, ht, hb⟩
          obtain rfl : t = false := (by cases t with | false => rfl | true => exact absurd (ht.1 rfl) P1.out)
          have hc2 := bcell hb
          have hs2 : w.heap.size < W2.heap.size := by have := hb.size; omega
          have hs2' : w.heap.size + 1 < W2.heap.size := by have := hb.size; omega
          have HB2 := Lib.hid (HB1.out.trans (hb.mono HB1.out.size)); clear hb ht))
      | (clear mk2; go_at_call 58; (
          refine (show Calls _ _ _ _ _ from meet_any W2 b1 c3 _ _ _ _ (H.out _ HB2.out).1 (H.out _ HB2.out).2.2.2.2.2).mono ?_
          rintro E W3 ⟨t, rfl, ht, hb⟩
          obtain rfl : t = false := (by cases t with | false => rfl | true => exact absurd (ht.1 rfl) P2.out)
          have hc3 := bcell hb
          have hs3 : w.heap.size < W3.heap.size := by have := hb.size; omega
          have hs3' : w.heap.size + 1 < W3.heap.size := by have := hb.size; omega
          have HB3 := Lib.hid (HB2.out.trans (hb.mono HB2.out.size)); clear hb ht))
      | (clear mk3; go_at_call 58; (
          refine (show Calls _ _ _ _ _ from meet_any W3 b2 c1 _ _ _ _ (H.out _ HB3.out).2.1 (H.out _ HB3.out).2.2.2.1).mono ?_
          rintro E W4 ⟨t, rfl, ht, hb⟩
          obtain rfl : t = false := (by cases t with | false => rfl | true => exact absurd (ht.1 rfl) P3.out)
          have hc4 := bcell hb
          have hs4 : w.heap.size < W4.heap.size := by have := hb.size; omega
          have hs4' : w.heap.size + 1 < W4.heap.size := by have := hb.size; omega
          have HB4 := Lib.hid (HB3.out.trans (hb.mono HB3.out.size)); clear hb ht))
      | (clear mk4; go_at_call 58; (
          refine (show Calls _ _ _ _ _ from meet_any W4 b2 c3 _ _ _ _ (H.out _ HB4.out).2.1 (H.out _ HB4.out).2.2.2.2.2).mono ?_
          rintro E W5 ⟨t, rfl, ht, hb⟩
          obtain rfl : t = true := ht.2 P4.out
          have hc5 := bcell hb
          have hs5 : w.heap.size < W5.heap.size := by have := hb.size; omega
          have hs5' : w.heap.size + 1 < W5.heap.size := by have := hb.size; omega
          have HB5 := Lib.hid (HB4.out.trans (hb.mono HB4.out.size)); clear hb ht)))
    go_ret
    exact ⟨false, rfl, ⟨fun h => (by cases h), fun h => absurd P4.out (HP.out.1 h).2.2.2.2.1⟩, HB5.out⟩
  have P4 := Lib.hid p4; clear p4
  by_cases p5 : meets (readsS l) (assignsS m)
  · have P5 := Lib.hid p5; clear p5
    have mk0 : Nat := 0
    have mk1 : Nat := 0
    have mk2 : Nat := 0
    have mk3 : Nat := 0
    have mk4 : Nat := 0
    have mk5 : Nat := 0
    go_enter Tryd.func37, Tryd.ntmps37
    go_upto_region 1 with (fail)
    generalize hW0 : (w.alloc (.cells #[.map (some b1), .map (some b2), .map (some b3)] 84)).alloc (.cells #[.map (some c1), .map (some c2), .map (some c3)] 84) = W0
    obtain ⟨hbx, hzx, hx1, hx2⟩ := nm_boxes (c1 := [.map (some b1), .map (some b2), .map (some b3)]) (c2 := [.map (some c1), .map (some c2), .map (some c3)]) hW0
    clear hW0
    have x0 := hx1.cell 0
    have x1 := hx1.cell 1
    have x2 := hx1.cell 2
    have z0 := hx2.cell 0
    have z1 := hx2.cell 1
    have z2 := hx2.cell 2
    simp at x0 x1 x2 z0 z1 z2
    have hs0 : w.heap.size < W0.heap.size := by omega
    have hs0' : w.heap.size + 1 < W0.heap.size := by omega
    have HB0 := Lib.hid hbx; clear hbx hx1 hx2 hzx
    go_wp2_with (first
      | (clear mk0; go_at_call 58; (
          refine (show Calls _ _ _ _ _ from meet_any W0 b1 c1 _ _ _ _ (H.out _ HB0.out).1 (H.out _ HB0.out).2.2.2.1).mono ?_
          rintro E W1 ⟨t, rfl, ht, hb⟩
          obtain rfl : t = false := (by cases t with | false => rfl | true => exact absurd (ht.1 rfl) P0.out)
          have hc1 := bcell hb
          have hs1 : w.heap.size < W1.heap.size := by have := hb.size; omega
          have hs1' : w.heap.size + 1 < W1.heap.size := by have := hb.size; omega
          have HB1 := Lib.hid (HB0.out.trans (hb.mono HB0.out.size)); clear hb ht))
      | (clear mk1; go_at_call 58; (
          refine (show Calls _ _ _ _ _ from meet_any W1 b1 c2 _ _ _ _ (H.out _ HB1.out).1 (H.out _ HB1.out).2.2.2.2.1).mono ?_
          rintro E W2 ⟨t, rfl, ht, hb⟩
          obtain rfl : t = false := (by cases t with | false => rfl | true => exact absurd (ht.1 rfl) P1.out)
          have hc2 := bcell hb
          have hs2 : w.heap.size < W2.heap.size := by have := hb.size; omega
          have hs2' : w.heap.size + 1 < W2.heap.size := by have := hb.size; omega
          have HB2 := Lib.hid (HB1.out.trans (hb.mono HB1.out.size)); clear hb ht))
      | (clear mk2; go_at_call 58; (
          refine (show Calls _ _ _ _ _ from meet_any W2 b1 c3 _ _ _ _ (H.out _ HB2.out).1 (H.out _ HB2.out).2.2.2.2.2).mono ?_
          rintro E W3 ⟨t, rfl, ht, hb⟩
          obtain rfl : t = false := (by cases t with | false => rfl | true => exact absurd (ht.1 rfl) P2.out)
          have hc3 := bcell hb
          have hs3 : w.heap.size < W3.heap.size := by have := hb.size; omega
          have hs3' : w.heap.size + 1 < W3.heap.size := by have := hb.size; omega
          have HB3 := Lib.hid (HB2.out.trans (hb.mono HB2.out.size)); clear hb ht))
      | (clear mk3; go_at_call 58; (
          refine (show Calls _ _ _ _ _ from meet_any W3 b2 c1 _ _ _ _ (H.out _ HB3.out).2.1 (H.out _ HB3.out).2.2.2.1).mono ?_
          rintro E W4 ⟨t, rfl, ht, hb⟩
          obtain rfl : t = false := (by cases t with | false => rfl | true => exact absurd (ht.1 rfl) P3.out)
          have hc4 := bcell hb
          have hs4 : w.heap.size < W4.heap.size := by have := hb.size; omega
          have hs4' : w.heap.size + 1 < W4.heap.size := by have := hb.size; omega
          have HB4 := Lib.hid (HB3.out.trans (hb.mono HB3.out.size)); clear hb ht))
      | (clear mk4; go_at_call 58; (
          refine (show Calls _ _ _ _ _ from meet_any W4 b2 c3 _ _ _ _ (H.out _ HB4.out).2.1 (H.out _ HB4.out).2.2.2.2.2).mono ?_
          rintro E W5 ⟨t, rfl, ht, hb⟩
          obtain rfl : t = false := (by cases t with | false => rfl | true => exact absurd (ht.1 rfl) P4.out)
          have hc5 := bcell hb
          have hs5 : w.heap.size < W5.heap.size := by have := hb.size; omega
          have hs5' : w.heap.size + 1 < W5.heap.size := by have := hb.size; omega
          have HB5 := Lib.hid (HB4.out.trans (hb.mono HB4.out.size)); clear hb ht))
      | (clear mk5; go_at_call 58; (
          refine (show Calls _ _ _ _ _ from meet_any W5 b3 c1 _ _ _ _ (H.out _ HB5.out).2.2.1 (H.out _ HB5.out).2.2.2.1).mono ?_
          rintro E W6 ⟨t, rfl, ht, hb⟩
          obtain rfl : t = true := ht.2 P5.out
          have hc6 := bcell hb
          have hs6 : w.heap.size < W6.heap.size := by have := hb.size; omega
          have hs6' : w.heap.size + 1 < W6.heap.size := by have := hb.size; omega
          have HB6 := Lib.hid (HB5.out.trans (hb.mono HB5.out.size)); clear hb ht)))
    go_ret
    exact ⟨false, rfl, ⟨fun h => (by cases h), fun h => absurd P5.out (HP.out.1 h).2.2.2.2.2.1⟩, HB6.out⟩
  have P5 := Lib.hid p5; clear p5
  by_cases p6 : meets (readsS l) (addsS m)
  · have P6 := Lib.hid p6; clear p6
    have mk0 : Nat := 0
    have mk1 : Nat := 0
    have mk2 : Nat := 0
    have mk3 : Nat := 0
    have mk4 : Nat := 0
    have mk5 : Nat := 0
    have mk6 : Nat := 0
    go_enter Tryd.func37, Tryd.ntmps37
    go_upto_region 1 with (fail)
    generalize hW0 : (w.alloc (.cells #[.map (some b1), .map (some b2), .map (some b3)] 84)).alloc (.cells #[.map (some c1), .map (some c2), .map (some c3)] 84) = W0
    obtain ⟨hbx, hzx, hx1, hx2⟩ := nm_boxes (c1 := [.map (some b1), .map (some b2), .map (some b3)]) (c2 := [.map (some c1), .map (some c2), .map (some c3)]) hW0
    clear hW0
    have x0 := hx1.cell 0
    have x1 := hx1.cell 1
    have x2 := hx1.cell 2
    have z0 := hx2.cell 0
    have z1 := hx2.cell 1
    have z2 := hx2.cell 2
    simp at x0 x1 x2 z0 z1 z2
    have hs0 : w.heap.size < W0.heap.size := by omega
    have hs0' : w.heap.size + 1 < W0.heap.size := by omega
    have HB0 := Lib.hid hbx; clear hbx hx1 hx2 hzx
    go_wp2_with (first
      | (clear mk0; go_at_call 58; (
          refine (show Calls _ _ _ _ _ from meet_any W0 b1 c1 _ _ _ _ (H.out _ HB0.out).1 (H.out _ HB0.out).2.2.2.1).mono ?_
          rintro E W1 ⟨t, rfl, ht, hb⟩
          obtain rfl : t = false := (by cases t with | false => rfl | true => exact absurd (ht.1 rfl) P0.out)
          have hc1 := bcell hb
          have hs1 : w.heap.size < W1.heap.size := by have := hb.size; omega
          have hs1' : w.heap.size + 1 < W1.heap.size := by have := hb.size; omega
          have HB1 := Lib.hid (HB0.out.trans (hb.mono HB0.out.size)); clear hb ht))
      | (clear mk1; go_at_call 58; (
          refine (show Calls _ _ _ _ _ from meet_any W1 b1 c2 _ _ _ _ (H.out _ HB1.out).1 (H.out _ HB1.out).2.2.2.2.1).mono ?_
          rintro E W2 ⟨t, rfl, ht, hb⟩
          obtain rfl : t = false := (by cases t with | false => rfl | true => exact absurd (ht.1 rfl) P1.out)
          have hc2 := bcell hb
          have hs2 : w.heap.size < W2.heap.size := by have := hb.size; omega
          have hs2' : w.heap.size + 1 < W2.heap.size := by have := hb.size; omega
          have HB2 := Lib.hid (HB1.out.trans (hb.mono HB1.out.size)); clear hb ht))
      | (clear mk2; go_at_call 58; (
          refine (show Calls _ _ _ _ _ from meet_any W2 b1 c3 _ _ _ _ (H.out _ HB2.out).1 (H.out _ HB2.out).2.2.2.2.2).mono ?_
          rintro E W3 ⟨t, rfl, ht, hb⟩
          obtain rfl : t = false := (by cases t with | false => rfl | true => exact absurd (ht.1 rfl) P2.out)
          have hc3 := bcell hb
          have hs3 : w.heap.size < W3.heap.size := by have := hb.size; omega
          have hs3' : w.heap.size + 1 < W3.heap.size := by have := hb.size; omega
          have HB3 := Lib.hid (HB2.out.trans (hb.mono HB2.out.size)); clear hb ht))
      | (clear mk3; go_at_call 58; (
          refine (show Calls _ _ _ _ _ from meet_any W3 b2 c1 _ _ _ _ (H.out _ HB3.out).2.1 (H.out _ HB3.out).2.2.2.1).mono ?_
          rintro E W4 ⟨t, rfl, ht, hb⟩
          obtain rfl : t = false := (by cases t with | false => rfl | true => exact absurd (ht.1 rfl) P3.out)
          have hc4 := bcell hb
          have hs4 : w.heap.size < W4.heap.size := by have := hb.size; omega
          have hs4' : w.heap.size + 1 < W4.heap.size := by have := hb.size; omega
          have HB4 := Lib.hid (HB3.out.trans (hb.mono HB3.out.size)); clear hb ht))
      | (clear mk4; go_at_call 58; (
          refine (show Calls _ _ _ _ _ from meet_any W4 b2 c3 _ _ _ _ (H.out _ HB4.out).2.1 (H.out _ HB4.out).2.2.2.2.2).mono ?_
          rintro E W5 ⟨t, rfl, ht, hb⟩
          obtain rfl : t = false := (by cases t with | false => rfl | true => exact absurd (ht.1 rfl) P4.out)
          have hc5 := bcell hb
          have hs5 : w.heap.size < W5.heap.size := by have := hb.size; omega
          have hs5' : w.heap.size + 1 < W5.heap.size := by have := hb.size; omega
          have HB5 := Lib.hid (HB4.out.trans (hb.mono HB4.out.size)); clear hb ht))
      | (clear mk5; go_at_call 58; (
          refine (show Calls _ _ _ _ _ from meet_any W5 b3 c1 _ _ _ _ (H.out _ HB5.out).2.2.1 (H.out _ HB5.out).2.2.2.1).mono ?_
          rintro E W6 ⟨t, rfl, ht, hb⟩
          obtain rfl : t = false := (by cases t with | false => rfl | true => exact absurd (ht.1 rfl) P5.out)
          have hc6 := bcell hb
          have hs6 : w.heap.size < W6.heap.size := by have := hb.size; omega
          have hs6' : w.heap.size + 1 < W6.heap.size := by have := hb.size; omega
          have HB6 := Lib.hid (HB5.out.trans (hb.mono HB5.out.size)); clear hb ht))
      | (clear mk6; go_at_call 58; (
          refine (show Calls _ _ _ _ _ from meet_any W6 b3 c2 _ _ _ _ (H.out _ HB6.out).2.2.1 (H.out _ HB6.out).2.2.2.2.1).mono ?_
          rintro E W7 ⟨t, rfl, ht, hb⟩
          obtain rfl : t = true := ht.2 P6.out
          have hc7 := bcell hb
          have hs7 : w.heap.size < W7.heap.size := by have := hb.size; omega
          have hs7' : w.heap.size + 1 < W7.heap.size := by have := hb.size; omega
          have HB7 := Lib.hid (HB6.out.trans (hb.mono HB6.out.size)); clear hb ht)))
    go_ret
    exact ⟨false, rfl, ⟨fun h => (by cases h), fun h => absurd P6.out (HP.out.1 h).2.2.2.2.2.2⟩, HB7.out⟩
  have P6 := Lib.hid p6; clear p6
  have mk0 : Nat := 0
  have mk1 : Nat := 0
  have mk2 : Nat := 0
  have mk3 : Nat := 0
  have mk4 : Nat := 0
  have mk5 : Nat := 0
  have mk6 : Nat := 0
  go_enter Tryd.func37, Tryd.ntmps37
  go_upto_region 1 with (fail)
  generalize hW0 : (w.alloc (.cells #[.map (some b1), .map (some b2), .map (some b3)] 84)).alloc (.cells #[.map (some c1), .map (some c2), .map (some c3)] 84) = W0
  obtain ⟨hbx, hzx, hx1, hx2⟩ := nm_boxes (c1 := [.map (some b1), .map (some b2), .map (some b3)]) (c2 := [.map (some c1), .map (some c2), .map (some c3)]) hW0
  clear hW0
  have x0 := hx1.cell 0
  have x1 := hx1.cell 1
  have x2 := hx1.cell 2
  have z0 := hx2.cell 0
  have z1 := hx2.cell 1
  have z2 := hx2.cell 2
  simp at x0 x1 x2 z0 z1 z2
  have hs0 : w.heap.size < W0.heap.size := by omega
  have hs0' : w.heap.size + 1 < W0.heap.size := by omega
  have HB0 := Lib.hid hbx; clear hbx hx1 hx2 hzx
  go_wp2_with (first
    | (clear mk0; go_at_call 58; (
        refine (show Calls _ _ _ _ _ from meet_any W0 b1 c1 _ _ _ _ (H.out _ HB0.out).1 (H.out _ HB0.out).2.2.2.1).mono ?_
        rintro E W1 ⟨t, rfl, ht, hb⟩
        obtain rfl : t = false := (by cases t with | false => rfl | true => exact absurd (ht.1 rfl) P0.out)
        have hc1 := bcell hb
        have hs1 : w.heap.size < W1.heap.size := by have := hb.size; omega
        have hs1' : w.heap.size + 1 < W1.heap.size := by have := hb.size; omega
        have HB1 := Lib.hid (HB0.out.trans (hb.mono HB0.out.size)); clear hb ht))
    | (clear mk1; go_at_call 58; (
        refine (show Calls _ _ _ _ _ from meet_any W1 b1 c2 _ _ _ _ (H.out _ HB1.out).1 (H.out _ HB1.out).2.2.2.2.1).mono ?_
        rintro E W2 ⟨t, rfl, ht, hb⟩
        obtain rfl : t = false := (by cases t with | false => rfl | true => exact absurd (ht.1 rfl) P1.out)
        have hc2 := bcell hb
        have hs2 : w.heap.size < W2.heap.size := by have := hb.size; omega
        have hs2' : w.heap.size + 1 < W2.heap.size := by have := hb.size; omega
        have HB2 := Lib.hid (HB1.out.trans (hb.mono HB1.out.size)); clear hb ht))
    | (clear mk2; go_at_call 58; (
        refine (show Calls _ _ _ _ _ from meet_any W2 b1 c3 _ _ _ _ (H.out _ HB2.out).1 (H.out _ HB2.out).2.2.2.2.2).mono ?_
        rintro E W3 ⟨t, rfl, ht, hb⟩
        obtain rfl : t = false := (by cases t with | false => rfl | true => exact absurd (ht.1 rfl) P2.out)
        have hc3 := bcell hb
        have hs3 : w.heap.size < W3.heap.size := by have := hb.size; omega
        have hs3' : w.heap.size + 1 < W3.heap.size := by have := hb.size; omega
        have HB3 := Lib.hid (HB2.out.trans (hb.mono HB2.out.size)); clear hb ht))
    | (clear mk3; go_at_call 58; (
        refine (show Calls _ _ _ _ _ from meet_any W3 b2 c1 _ _ _ _ (H.out _ HB3.out).2.1 (H.out _ HB3.out).2.2.2.1).mono ?_
        rintro E W4 ⟨t, rfl, ht, hb⟩
        obtain rfl : t = false := (by cases t with | false => rfl | true => exact absurd (ht.1 rfl) P3.out)
        have hc4 := bcell hb
        have hs4 : w.heap.size < W4.heap.size := by have := hb.size; omega
        have hs4' : w.heap.size + 1 < W4.heap.size := by have := hb.size; omega
        have HB4 := Lib.hid (HB3.out.trans (hb.mono HB3.out.size)); clear hb ht))
    | (clear mk4; go_at_call 58; (
        refine (show Calls _ _ _ _ _ from meet_any W4 b2 c3 _ _ _ _ (H.out _ HB4.out).2.1 (H.out _ HB4.out).2.2.2.2.2).mono ?_
        rintro E W5 ⟨t, rfl, ht, hb⟩
        obtain rfl : t = false := (by cases t with | false => rfl | true => exact absurd (ht.1 rfl) P4.out)
        have hc5 := bcell hb
        have hs5 : w.heap.size < W5.heap.size := by have := hb.size; omega
        have hs5' : w.heap.size + 1 < W5.heap.size := by have := hb.size; omega
        have HB5 := Lib.hid (HB4.out.trans (hb.mono HB4.out.size)); clear hb ht))
    | (clear mk5; go_at_call 58; (
        refine (show Calls _ _ _ _ _ from meet_any W5 b3 c1 _ _ _ _ (H.out _ HB5.out).2.2.1 (H.out _ HB5.out).2.2.2.1).mono ?_
        rintro E W6 ⟨t, rfl, ht, hb⟩
        obtain rfl : t = false := (by cases t with | false => rfl | true => exact absurd (ht.1 rfl) P5.out)
        have hc6 := bcell hb
        have hs6 : w.heap.size < W6.heap.size := by have := hb.size; omega
        have hs6' : w.heap.size + 1 < W6.heap.size := by have := hb.size; omega
        have HB6 := Lib.hid (HB5.out.trans (hb.mono HB5.out.size)); clear hb ht))
    | (clear mk6; go_at_call 58; (
        refine (show Calls _ _ _ _ _ from meet_any W6 b3 c2 _ _ _ _ (H.out _ HB6.out).2.2.1 (H.out _ HB6.out).2.2.2.2.1).mono ?_
        rintro E W7 ⟨t, rfl, ht, hb⟩
        obtain rfl : t = false := (by cases t with | false => rfl | true => exact absurd (ht.1 rfl) P6.out)
        have hc7 := bcell hb
        have hs7 : w.heap.size < W7.heap.size := by have := hb.size; omega
        have hs7' : w.heap.size + 1 < W7.heap.size := by have := hb.size; omega
        have HB7 := Lib.hid (HB6.out.trans (hb.mono HB6.out.size)); clear hb ht)))
  go_ret
  exact ⟨true, rfl, ⟨fun _ => HP.out.2 ⟨P0.out, P1.out, P2.out, P3.out, P4.out, P5.out, P6.out⟩, fun _ => rfl⟩, HB7.out⟩
end Go.Proofs.YtgiceeholamphaaDoor
