/- The contracts of stepref.Rest, stepkeep.turned (of blocks). No conditions but that what is read is there. -/
import Derived.Test.YtgiceeholamphaaPut
import Derived.Test.YtgiceeholamphaaSwapL
namespace Go.Proofs.Ytgiceeholamphaa
open Go.ChangeShapes Go.WideShapes Go.ChangeAt Go.RowKit Go.Maps

set_option maxRecDepth 100000 in
theorem rest_any (w : World) (n m : Int) (hm : 0 < m) (hm2 : m ≤ 1048576) (hn : -9223372036854775808 ≤ n ∧ n ≤ 9223372036854775807) :
    Calls Try.prog 33 #[.int .i64 n, .int .i64 m] w fun E w' => E = .returned (.int .i64 (n % m)) ∧ w = w' := by
  have h0 : ¬ (m = 0) := by omega
  have h1 : ¬ (m = -1) := by omega
  have hlt := Int.emod_lt_of_pos n hm
  have hge := Int.emod_nonneg n h0
  have htm : Int.tmod n m = if 0 ≤ n ∨ n % m = 0 then n % m else n % m - m := by
    rw [Int.tmod_eq_emod]
    have hd : m ∣ n ↔ n % m = 0 := Int.dvd_iff_emod_eq_zero
    by_cases c : 0 ≤ n
    · rw [if_pos (.inl c), if_pos (.inl c)]; omega
    · by_cases c2 : n % m = 0
      · rw [if_pos (.inr (hd.2 c2)), if_pos (.inr c2)]; omega
      · rw [if_neg (by rw [hd]; omega), if_neg (by omega)]; omega
  by_cases hneg : 0 ≤ n ∨ n % m = 0
  · rw [if_pos hneg] at htm
    have hsg : ¬ (n.tmod m < 0) := by omega
    have H := Lib.hid htm; clear htm hneg
    go_enter Try.func33, Try.ntmps33
    go_wp2_with fail
    go_ret
    exact ⟨by rw [← H.out]; rfl, rfl⟩
  · rw [if_neg hneg] at htm
    have hsg : n.tmod m < 0 := by omega
    have hsum : wrap64 (n.tmod m + m) = n % m := by rw [htm]; simp only [wrap64]; omega
    have H := Lib.hid (And.intro htm hsum); clear htm hneg hsum
    go_enter Try.func33, Try.ntmps33
    go_wp2_with fail
    go_ret
    exact ⟨by rw [← H.out.2]; rfl, rfl⟩
def valsB (l : List BlockR) : List Value := l.map BlockR.val
theorem valsB_length (l : List BlockR) : (valsB l).length = l.length := by simp [valsB]
theorem valsB_one (l : List BlockR) : ∀ u ∈ valsB l, u.oneCell' = true := by
  intro u hu
  obtain ⟨x, _, rfl⟩ := List.mem_map.1 hu
  rfl
theorem rowB_src {w : World} {B b o : Nat} {l : List BlockR} (h : RowB w B (some ⟨b, o, none⟩) l) : SrcAt w (some ⟨b, o, none⟩) (valsB l) := fun hne => by
  obtain ⟨b', o', e, _, hc⟩ := h (by rintro rfl; exact hne rfl)
  injection e with e
  injection e with e1 e2
  subst e1 e2
  refine ⟨b, o, rfl, fun j u hu => ?_⟩
  obtain ⟨hj, he⟩ := List.getElem?_eq_some_iff.1 hu
  simp only [valsB_length] at hj
  rw [Addr.add_lit', hc j hj, ← he]
  simp [valsB]
theorem rowB_drop {w : World} {B b o : Nat} {l : List BlockR} (h : RowB w B (some ⟨b, o, none⟩) l) (q : Nat) : RowB w B (some ⟨b, o + q, none⟩) (l.drop q) := fun hne => by
  have hq : q < l.length := by
    rcases Nat.lt_or_ge q l.length with h | h
    · exact h
    · exact absurd (List.drop_eq_nil_of_le h) hne
  obtain ⟨b', o', e, hb, hc⟩ := h (by rintro rfl; simp at hq)
  injection e with e
  injection e with e1 e2
  subst e1 e2
  refine ⟨b, o + q, rfl, hb, fun i hi => ?_⟩
  simp only [List.length_drop] at hi
  have := hc (q + i) (by omega)
  rw [Nat.add_assoc, List.getElem_drop]
  exact this
theorem rowB_take {w : World} {B : Nat} {A : Option Addr} {l : List BlockR} (h : RowB w B A l) (q : Nat) : RowB w B A (l.take q) := fun hne => by
  obtain ⟨b, o, e, hb, hc⟩ := h (by rintro rfl; simp at hne)
  refine ⟨b, o, e, hb, fun i hi => ?_⟩
  simp only [List.length_take] at hi
  have := hc i (by omega)
  rw [List.getElem_take]
  exact this
def TurnPost (l : List BlockR) (t : Int) (w : World) (E : Ending) (w' : World) : Prop :=
  ∃ v, E = .returned v ∧ w'.ownsRow w.heap.size 22 1 v l.length (valsB (turnL t l)) ∧ Below w.heap.size w w'
set_option maxRecDepth 100000 in
set_option maxHeartbeats 2000000 in
theorem turned_any (w : World) (b o c : Nat) (l : List BlockR) (t : Int) (h : RowB w w.heap.size (some ⟨b, o, none⟩) l) (hl : 0 < l.length) (hc : l.length ≤ c) (hn : l.length ≤ 1048576) (ht : -9223372036854775808 ≤ t ∧ t ≤ 9223372036854775807) :
    Calls Try.prog 17 #[.slice (some ⟨b, o, none⟩) l.length c, .int .i64 t] w (TurnPost l t w) := by
  obtain ⟨i0, hi0, hV⟩ := Option.map_eq_some_iff.1 info_block
  simp only [Prod.mk.injEq] at hV
  have Hi0 := Lib.hid (And.intro hi0 (And.intro hV.1 (And.intro hV.2.1 hV.2.2))); clear hi0 hV
  have hlt := Int.emod_lt_of_pos t (show (0 : Int) < (l.length : Int) by omega)
  have hge := Int.emod_nonneg t (show ¬ ((l.length : Int) = 0) by omega)
  have hr := fun W : World => rest_any W t l.length (by omega) (by omega) ht
  obtain ⟨q, hq⟩ : ∃ q : Nat, t % (l.length : Int) = q := ⟨(t % (l.length : Int)).toNat, by omega⟩
  have htl : turnL t l = l.drop q ++ l.take q := by unfold turnL; rw [hq]; rfl
  rw [hq] at hlt hge
  simp only [hq] at hr
  have hql : q < l.length := by omega
  have hqi : (q : Int) ≤ (l.length : Int) := by omega
  have hcq : ¬ (c = q) := by omega
  have hci : (q : Int) ≤ (c : Int) := by omega
  have hl0 : ¬ ((l.length : Int) = 0) := by omega
  have hsrc : ∀ W, Below w.heap.size w W → SrcAt W (some ⟨b, o, none⟩) (valsB (l.take q)) := fun W hb => rowB_src ((rowB_take h q).keep fun p hp => hb.cell hp)
  have hsrd : ∀ W, Below w.heap.size w W → SrcAt W (some ⟨b, o + q, none⟩) (valsB (l.drop q)) := fun W hb => rowB_src ((rowB_drop h q).keep fun p hp => hb.cell hp)
  have hl1 : (valsB (l.take q)).length = q * 1 := by rw [valsB_length, List.length_take]; omega
  have hl2 : (valsB (l.drop q)).length = (l.length - q) * 1 := by rw [valsB_length, List.length_drop]; omega
  have HS := Lib.hid (And.intro hsrc (And.intro hsrd (And.intro hl1 (And.intro hl2 (And.intro hr htl))))); clear hsrc hsrd hl1 hl2 hr htl h hq
  go_enter Try.func17, Try.ntmps17
  go_wp2_with (go_at_call 33; (
    refine (show Calls _ _ _ _ _ from HS.out.2.2.2.2.1 w).mono ?_
    rintro E w2 ⟨rfl, rfl⟩))
  go_region_held3 (fun _ => True) (exact trivial) (first
    | (refine step_append_src rfl (.const (.slice none 0 0)) (.tmp 15) _ rfl w.heap.size 22 i0 _ 1 24 Try.underlying32 Hi0.out.1 Hi0.out.2.1 Hi0.out.2.2.1 Hi0.out.2.2.2 rfl (by decide) (.slice none 0 0) 0 [] rfl (World.ownsRow_nil _ _ _ _) (some ⟨b, o + q, none⟩) (l.length - q) (c - q) (valsB (l.drop q)) rfl HS.out.2.2.2.1 (HS.out.2.1 _ (Below.refl _ _).drew) (valsB_one _) (by unfold maxLen; omega) (by omega) (Nat.le_refl _) (fun v1 w1 hown1 hg1 _ => ?_)
       rw [Nat.zero_add, List.nil_append] at hown1
       obtain ⟨A1, d1, rfl, _, _⟩ := own_form hown1
       have hb1 : Below w.heap.size w w1 := (Below.refl _ _).drew.grown hg1 (Nat.le_refl _) (fun k hk => by cases hk)
       have HB1 := Lib.hid (And.intro hown1 hb1); clear hown1 hg1 hb1)
    | (refine step_append_src rfl (.tmp 16) (.tmp 19) _ rfl w.heap.size 22 i0 _ 1 24 Try.underlying32 Hi0.out.1 Hi0.out.2.1 Hi0.out.2.2.1 Hi0.out.2.2.2 rfl (by decide) (.slice A1 (l.length - q) d1) (l.length - q) (valsB (l.drop q)) rfl HB1.out.1 (some ⟨b, o, none⟩) q c (valsB (l.take q)) rfl HS.out.2.2.1 (HS.out.1 _ HB1.out.2) (valsB_one _) (by unfold maxLen; omega) (by omega) HB1.out.2.size (fun v2 w2 hown2 hg2 _ => ?_)
       obtain ⟨A2, d2, rfl, _, _⟩ := own_form hown2
       have hb2 : Below w.heap.size w w2 := HB1.out.2.grown hg2 HB1.out.2.size (fun k hk => (HB1.out.1.lt k hk).1)
       have HB2 := Lib.hid (And.intro hown2 hb2); clear hown2 hg2 hb2))
  go_wp2_with fail
  go_ret
  refine ⟨_, rfl, ?_, HB2.out.2⟩
  have ho := HB2.out.1
  rw [HS.out.2.2.2.2.2]
  rw [show valsB (l.drop q) ++ valsB (l.take q) = valsB (l.drop q ++ l.take q) by simp [valsB]] at ho
  rw [show l.length - q + q = l.length by omega] at ho ⊢
  exact ho
end Go.Proofs.Ytgiceeholamphaa
