/- The law GraphPlans, walked: true, whatever the jobs. No conditions but that what is read is there. -/
import Derived.Test.YtnepaaheiakimaaGraphSame
namespace Go.Proofs.Ytnepaaheiakimaa
open Go.ChangeShapes Go.WideShapes Go.ChangeAt Go.RowKit

/-- What both plans bring, in one form. -/
def PlanRes (w : World) (J : List JobR) (wk : Int) (n1 : Nat) (L : Int) (f : Nat → Int) (e : Ending) (w' : World) : Prop :=
  ∃ A1, e = .returned (.tuple #[.slice A1 n1 n1, .int .i64 L, .int .i64 (askedCode J wk)]) ∧ (0 < n1 → ∃ g, A1 = some ⟨g, 0, none⟩ ∧ Blk w' g 33 (ints (fnI (n1 * 2) f))) ∧ Below w.heap.size w w'
theorem plan_res (J : List JobR) (wk : Int) : ∃ (n1 : Nat) (L : Int) (f : Nat → Int), n1 ≤ 1000 ∧ ∀ w e w', PlannedPost w J wk e w' → PlanRes w J wk n1 L f e w' := by
  by_cases h0 : askedCode J wk = 0
  · by_cases hT : ∃ T, AllBegun J (Rn J wk.toNat T)
    · obtain ⟨T, hT⟩ := hT
      refine ⟨J.length, (Rn J wk.toNat T).fin, slotF (Rn J wk.toNat T), by have := (asked_zero h0).1.few; omega, fun w e w' ⟨hb, h⟩ => ?_⟩
      obtain ⟨-, g, T', hT', hg, he, hblk⟩ := h.resolve_left fun x => x.1 h0
      rw [Rn_one hT' hT] at he hblk
      exact ⟨_, by rw [he, h0], fun _ => ⟨g, rfl, hblk⟩, hb⟩
    · refine ⟨0, 0, fun _ => 0, by omega, fun w e w' ⟨hb, h⟩ => ?_⟩
      obtain ⟨-, g, T', hT', _⟩ := h.resolve_left fun x => x.1 h0
      exact absurd ⟨T', hT'⟩ hT
  · refine ⟨0, 0, fun _ => 0, by omega, fun w e w' ⟨hb, h⟩ => ?_⟩
    obtain ⟨-, he⟩ := h.resolve_right fun x => h0 x.1
    exact ⟨none, he, fun h => absurd h (by omega), hb⟩

set_option maxRecDepth 100000 in
set_option maxHeartbeats 2000000 in
theorem plans_law (w : World) (A : Option Addr) (c n : Nat) (wk : Int) (J : List JobR) (hR : RdJobs w w.heap.size A J) (hn : J.length = n) :
    Calls Try.prog 4 #[.slice A n c, .int .i64 wk] w fun e w' => e = .returned (.bool true) ∧ Below w.heap.size w w' := by
  obtain ⟨n1, L, f, hn1, hres⟩ := plan_res J wk
  have Hres := Lib.hid hres; clear hres
  have HR := Lib.hid hR; clear hR
  have Hn := Lib.hid hn; clear hn
  obtain ⟨ac, hac⟩ : ∃ ac, askedCode J wk = ac := ⟨_, rfl⟩
  have Hac := Lib.hid hac; clear hac
  obtain ⟨jc, hjc⟩ : ∃ jc, jobsCode J = jc := ⟨_, rfl⟩
  have Hjc := Lib.hid hjc; clear hjc
  have hs1 : ∀ w1 : World, Below w.heap.size w w1 → w.heap.size ≤ w1.heap.size := fun w1 h => h.size
  have Hs1 := Lib.hid hs1; clear hs1
  by_cases h0 : jc = 0
  · subst h0
    have hg := good_of_zero Hjc.out
    obtain ⟨E, hE⟩ := exists_end hg.len hg.inR hg.can
    have HE := Lib.hid (And.intro hg hE); clear hg hE
    go_enter Try.func4, Try.ntmps4
    go_wp2_with (first
      | (go_at_call 8; (
         refine (plan_any w w.heap.size A c n wk J HR.out (Nat.le_refl _) Hn.out).mono ?_
         rintro e w1 hp
         obtain ⟨A1, rfl, hb1, hlo1⟩ := Hres.out _ _ _ hp
         rw [Hac.out]
         have H1 := Lib.hid (And.intro hb1 hlo1); clear hp hb1 hlo1))
      | (go_at_call 9; (
         refine (planned_any w1 w.heap.size A c n wk J (HR.out.below H1.out.2) (Hs1.out _ H1.out.2) Hn.out).mono ?_
         rintro e w2 hp
         obtain ⟨A2, rfl, hb2, hlo2⟩ := Hres.out _ _ _ hp
         rw [Hac.out]
         have hlo2' := H1.out.2.trans (hlo2.mono (Hs1.out _ H1.out.2))
         have H2 := Lib.hid (And.intro (And.intro hb2 hlo2) hlo2'); clear hp hb2 hlo2 hlo2'))
      | (go_at_call 10; (
         refine (span_any w2 w.heap.size A c n J (HR.out.below H2.out.2) (Hs1.out _ H2.out.2) Hn.out).mono ?_
         rintro e w3 ⟨a, b, rfl, hlo3, -, h3⟩
         rw [Hjc.out] at h3 ⊢
         obtain ⟨rfl, hb⟩ := h3 rfl
         obtain rfl := hb E HE.out.2
         have hlo3' := H2.out.2.trans (hlo3.mono (Hs1.out _ H2.out.2))
         have H3 := Lib.hid (And.intro hlo3 hlo3'); clear hlo3 hlo3' hb h3))
      | (go_at_call 11; (
         refine (same_slots w3 A1 A2 n1 f hn1 (fun h => ?_) (fun h => ?_)).mono ?_
         · obtain ⟨g, e, hb⟩ := H1.out.1 h
           exact ⟨g, e, (hb.below H2.out.1.2 hb.lt).below H3.out.1 (Nat.lt_of_lt_of_le hb.lt H2.out.1.2.size)⟩
         · obtain ⟨g, e, hb⟩ := H2.out.1.1 h
           exact ⟨g, e, hb.below H3.out.1 hb.lt⟩
         rintro e w4 ⟨rfl, hlo4⟩
         have hlo4' := H3.out.2.trans (hlo4.mono (Hs1.out _ H3.out.2))
         have H4 := Lib.hid hlo4'; clear hlo4 hlo4'))
      | (go_at_call 12; (
         refine (jobs w4 w.heap.size A c n J (HR.out.below H4.out) (Hs1.out _ H4.out) Hn.out).mono ?_
         rintro e w5 ⟨rfl, hlo5⟩
         rw [Hjc.out]
         have hlo5' := H4.out.trans (hlo5.mono (Hs1.out _ H4.out))
         have H5 := Lib.hid hlo5'; clear hlo5 hlo5'))
      | (go_at_call 13; (
         refine (spanned_any w5 w.heap.size A c n J E (HR.out.below H5.out) (Hs1.out _ H5.out) Hn.out HE.out.1 HE.out.2).mono ?_
         rintro e w6 ⟨rfl, hlo6⟩
         have hlo6' := H5.out.trans (hlo6.mono (Hs1.out _ H5.out))
         have H6 := Lib.hid hlo6'; clear hlo6 hlo6'))
      | fail)
    go_ret
    exact ⟨rfl, H6.out⟩
  · have h0' : (jc == 0) = false := beq_eq_false_iff_ne.2 h0
    have h1' : (jc != 0) = true := bne_iff_ne.2 h0
    go_enter Try.func4, Try.ntmps4
    go_wp2_with (first
      | (go_at_call 8; (
         refine (plan_any w w.heap.size A c n wk J HR.out (Nat.le_refl _) Hn.out).mono ?_
         rintro e w1 hp
         obtain ⟨A1, rfl, hb1, hlo1⟩ := Hres.out _ _ _ hp
         rw [Hac.out]
         have H1 := Lib.hid (And.intro hb1 hlo1); clear hp hb1 hlo1))
      | (go_at_call 9; (
         refine (planned_any w1 w.heap.size A c n wk J (HR.out.below H1.out.2) (Hs1.out _ H1.out.2) Hn.out).mono ?_
         rintro e w2 hp
         obtain ⟨A2, rfl, hb2, hlo2⟩ := Hres.out _ _ _ hp
         rw [Hac.out]
         have hlo2' := H1.out.2.trans (hlo2.mono (Hs1.out _ H1.out.2))
         have H2 := Lib.hid (And.intro (And.intro hb2 hlo2) hlo2'); clear hp hb2 hlo2 hlo2'))
      | (go_at_call 10; (
         refine (span_any w2 w.heap.size A c n J (HR.out.below H2.out.2) (Hs1.out _ H2.out.2) Hn.out).mono ?_
         rintro e w3 ⟨a, b, rfl, hlo3, h3, -⟩
         rw [Hjc.out] at h3 ⊢
         obtain ⟨rfl, rfl⟩ := h3 h0
         have hlo3' := H2.out.2.trans (hlo3.mono (Hs1.out _ H2.out.2))
         have H3 := Lib.hid (And.intro hlo3 hlo3'); clear hlo3 hlo3' h3))
      | (go_at_call 11; (
         refine (same_slots w3 A1 A2 n1 f hn1 (fun h => ?_) (fun h => ?_)).mono ?_
         · obtain ⟨g, e, hb⟩ := H1.out.1 h
           exact ⟨g, e, (hb.below H2.out.1.2 hb.lt).below H3.out.1 (Nat.lt_of_lt_of_le hb.lt H2.out.1.2.size)⟩
         · obtain ⟨g, e, hb⟩ := H2.out.1.1 h
           exact ⟨g, e, hb.below H3.out.1 hb.lt⟩
         rintro e w4 ⟨rfl, hlo4⟩
         have hlo4' := H3.out.2.trans (hlo4.mono (Hs1.out _ H3.out.2))
         have H4 := Lib.hid hlo4'; clear hlo4 hlo4'))
      | (go_at_call 12; (
         refine (jobs w4 w.heap.size A c n J (HR.out.below H4.out) (Hs1.out _ H4.out) Hn.out).mono ?_
         rintro e w5 ⟨rfl, hlo5⟩
         rw [Hjc.out]
         have hlo5' := H4.out.trans (hlo5.mono (Hs1.out _ H4.out))
         have H5 := Lib.hid hlo5'; clear hlo5 hlo5'))
      | fail)
    go_ret
    exact ⟨rfl, H5.out⟩
end Go.Proofs.Ytnepaaheiakimaa
