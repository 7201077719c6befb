/- container/heap over the queue: down, Pop. No conditions but that what is read is there. -/
import Derived.Test.YtnepaaheiakimaaHeapU
namespace Go.Proofs.Ytnepaaheiakimaa
open Go.ChangeShapes Go.WideShapes Go.ChangeAt Go.RowKit

def DownPost (w : World) (B base q : Nat) (A : Option Addr) (c : Nat) (J : List JobR) (v : Value) (n : Nat) (l : List Int) (e : Ending) (w' : World) : Prop :=
  (∃ r, e = .returned (.bool r)) ∧ ∃ l', QSt w' B base q A c J v l' ∧ l'.Perm l ∧ (∀ k, n ≤ k → ht l' k = ht l k) ∧ Hp (sI J) n l' ∧ QMove q w w' v v
set_option maxRecDepth 100000 in
set_option maxHeartbeats 1000000 in
theorem heap_down (w : World) (B base q : Nat) (A : Option Addr) (c : Nat) (J : List JobR) (v : Value) (n : Nat) (l : List Int) (h : QSt w B base q A c J v l) (hd : HpDn (sI J) n l 0) :
    Calls Try.prog 33 #[.iface 48 (.pointer (some ⟨q, 0, none⟩)), .int .i64 0, .int .i64 n] w (DownPost w B base q A c J v n l) := by
  have hml := method_less ⟨q, 0, none⟩
  have hms := method_swap ⟨q, 0, none⟩
  have hsz := h.size
  have hn := hd.len
  have H := Lib.hid (And.intro h hd)
  clear h hd
  go_enter Try.func33, Try.ntmps33
  go_wp2
  go_loopg [7, 8, 9, 10] (n + 1) (fun gk i _ _ _ wr => ∃ (i' : Nat), gk + i' = n + 1 ∧ i = .int .i64 i' ∧ ∃ l', QSt wr B base q A c J v l' ∧ l'.Perm l ∧ (∀ k, n ≤ k → ht l' k = ht l k) ∧ HpDn (sI J) n l' i' ∧ QMove q w wr v v)
  case atStart => exact ⟨0, by omega, rfl, l, H.out.1, .refl _, fun _ _ => rfl, H.out.2, .refl _ _ _⟩
  case round =>
    obtain ⟨i, hgi, rfl, l', hq, hp, hk, hd, hm⟩ := hrel
    have hlen := hp.length_eq
    have hless := qless' wr B base q A c J v l'
    by_cases h1 : 2 * i + 1 < n
    · have h1' : ¬ ((n : Int) ≤ 2 * i + 1) := by omega
      obtain ⟨j, hjd, hbest⟩ : ∃ j, j = (if 2 * i + 2 < n ∧ sI J (ht l' (2 * i + 2)) (ht l' (2 * i + 1)) then 2 * i + 2 else 2 * i + 1) ∧ (j = 2 * i + 1 ∨ j = 2 * i + 2) ∧ j < n ∧ ∀ k, (k = 2 * i + 1 ∨ k = 2 * i + 2) → k < n → ¬ sI J (ht l' k) (ht l' j) := by
        refine ⟨_, rfl, ?_⟩
        split
        · rename_i h2
          refine ⟨.inr rfl, h2.1, fun k hk hkn => ?_⟩
          rcases hk with rfl | rfl
          · exact (sI_strict J).asym h2.2
          · exact (sI_strict J).irr _
        · rename_i h2
          refine ⟨.inl rfl, h1, fun k hk hkn => ?_⟩
          rcases hk with rfl | rfl
          · exact (sI_strict J).irr _
          · exact fun h3 => h2 ⟨hkn, h3⟩
      have hl2 : ∀ W, QSt W B base q A c J v l' → ∀ r, decide (sI J (ht l' j) (ht l' i)) = r → Calls Try.prog 77 #[.pointer (some ⟨q, 0, none⟩), .int .i64 j, .int .i64 i] W fun e w' => e = .returned (.bool r) ∧ ∃ m, w' = W.drewN m := fun W hW => qless' W B base q A c J v l' j i hW (by omega) (by omega)
      have hsw : ∀ W, QSt W B base q A c J v l' → Calls Try.prog 80 #[.pointer (some ⟨q, 0, none⟩), .int .i64 i, .int .i64 j] W (SwapPost W B base q A c J v (swp l' i j)) := fun W hW => qswap W B base q A c J v l' i j hW (by omega) (by omega)
      have hjn := hbest.2.1
      have hji : i < j := by omega
      have Hr := Lib.hid (And.intro hq (And.intro hp (And.intro hk (And.intro hd hm))))
      have Hb := Lib.hid hbest
      clear hp hk hd hm hbest
      by_cases h2 : 2 * i + 2 < n
      · have h2' : (2 * (i : Int) + 1 + 1) < n := by omega
        have hl1 := hless (2 * i + 2) (2 * i + 1) hq (by omega) (by omega)
        rw [show ((2 * i + 2 : Nat) : Int) = 2 * (i : Int) + 1 + 1 by omega, show ((2 * i + 1 : Nat) : Int) = 2 * (i : Int) + 1 by omega] at hl1
        clear hless hq
        by_cases h3 : sI J (ht l' (2 * i + 2)) (ht l' (2 * i + 1))
        · replace hl1 := hl1 true (decide_eq_true h3)
          have hje : (j : Int) = 2 * (i : Int) + 1 + 1 := by rw [hjd, if_pos ⟨h2, h3⟩]; omega
          clear hjd h3
          rw [hje] at hl2 hsw
          have Hje := Lib.hid hje; clear hje
          by_cases hs : sI J (ht l' j) (ht l' i)
          · have Hs := Lib.hid hs; clear hs
            go_wp2_with (first | (go_at_call 77; first | (refine hl1.mono ?_; clear hl1; rintro e w' ⟨rfl, m, rfl⟩; have hlb := hl2 _ (Hr.out.1.drewN m) true (decide_eq_true Hs.out)) | (refine hlb.mono ?_; clear hlb; rintro e w' ⟨rfl, m2, rfl⟩; try have hs1 := hsw _ (Hr.out.1.drewN (m + m2))) | (refine hlc.mono ?_; clear hlc; rintro e w' ⟨rfl, m2, rfl⟩; try have hs1 := hsw _ (Hr.out.1.drewN m2))) | (go_at_call 80; refine hs1.mono ?_; rintro e w' ⟨rfl, hq2, hg2⟩) | fail)
            go_roundg (n + 1 - j)
            case measure => omega
            case rel =>
              refine ⟨j, by omega, by rw [Hje.out], _, hq2, (swp_perm (by omega) (by omega)).trans Hr.out.2.1, ?_, Hr.out.2.2.2.1.step (sI_strict J) Hb.out.1 hjn Hb.out.2.2 Hs.out, (Hr.out.2.2.2.2.drewN (m + m2)).trans (.of_grown hg2)⟩
              intro k hk
              rw [ht_swp (by omega) (by omega), if_neg (by omega), if_neg (by omega)]
              exact Hr.out.2.2.1 k hk
          · have Hs := Lib.hid hs; clear hs
            clear hsw
            go_wp2_with (first | (go_at_call 77; first | (refine hl1.mono ?_; clear hl1; rintro e w' ⟨rfl, m, rfl⟩; have hlb := hl2 _ (Hr.out.1.drewN m) false (decide_eq_false Hs.out)) | (refine hlb.mono ?_; clear hlb; rintro e w' ⟨rfl, m2, rfl⟩; try have hs1 := hsw _ (Hr.out.1.drewN (m + m2))) | (refine hlc.mono ?_; clear hlc; rintro e w' ⟨rfl, m2, rfl⟩; try have hs1 := hsw _ (Hr.out.1.drewN m2))) | (go_at_call 80; refine hs1.mono ?_; rintro e w' ⟨rfl, hq2, hg2⟩) | fail)
            all_goals go_ret
            all_goals refine ⟨⟨_, rfl⟩, l', (Hr.out.1.drewN (m + m2)), Hr.out.2.1, Hr.out.2.2.1, Hr.out.2.2.2.1.done (sI_strict J) (fun _ => ⟨j, Hb.out.1, Hb.out.2.2, Hs.out⟩), (Hr.out.2.2.2.2.drewN (m + m2))⟩
        · replace hl1 := hl1 false (decide_eq_false h3)
          have hje : (j : Int) = 2 * (i : Int) + 1 := by rw [hjd, if_neg (fun h => h3 h.2)]; omega
          clear hjd h3
          rw [hje] at hl2 hsw
          have Hje := Lib.hid hje; clear hje
          by_cases hs : sI J (ht l' j) (ht l' i)
          · have Hs := Lib.hid hs; clear hs
            go_wp2_with (first | (go_at_call 77; first | (refine hl1.mono ?_; clear hl1; rintro e w' ⟨rfl, m, rfl⟩; have hlb := hl2 _ (Hr.out.1.drewN m) true (decide_eq_true Hs.out)) | (refine hlb.mono ?_; clear hlb; rintro e w' ⟨rfl, m2, rfl⟩; try have hs1 := hsw _ (Hr.out.1.drewN (m + m2))) | (refine hlc.mono ?_; clear hlc; rintro e w' ⟨rfl, m2, rfl⟩; try have hs1 := hsw _ (Hr.out.1.drewN m2))) | (go_at_call 80; refine hs1.mono ?_; rintro e w' ⟨rfl, hq2, hg2⟩) | fail)
            go_roundg (n + 1 - j)
            case measure => omega
            case rel =>
              refine ⟨j, by omega, by rw [Hje.out], _, hq2, (swp_perm (by omega) (by omega)).trans Hr.out.2.1, ?_, Hr.out.2.2.2.1.step (sI_strict J) Hb.out.1 hjn Hb.out.2.2 Hs.out, (Hr.out.2.2.2.2.drewN (m + m2)).trans (.of_grown hg2)⟩
              intro k hk
              rw [ht_swp (by omega) (by omega), if_neg (by omega), if_neg (by omega)]
              exact Hr.out.2.2.1 k hk
          · have Hs := Lib.hid hs; clear hs
            clear hsw
            go_wp2_with (first | (go_at_call 77; first | (refine hl1.mono ?_; clear hl1; rintro e w' ⟨rfl, m, rfl⟩; have hlb := hl2 _ (Hr.out.1.drewN m) false (decide_eq_false Hs.out)) | (refine hlb.mono ?_; clear hlb; rintro e w' ⟨rfl, m2, rfl⟩; try have hs1 := hsw _ (Hr.out.1.drewN (m + m2))) | (refine hlc.mono ?_; clear hlc; rintro e w' ⟨rfl, m2, rfl⟩; try have hs1 := hsw _ (Hr.out.1.drewN m2))) | (go_at_call 80; refine hs1.mono ?_; rintro e w' ⟨rfl, hq2, hg2⟩) | fail)
            all_goals go_ret
            all_goals refine ⟨⟨_, rfl⟩, l', (Hr.out.1.drewN (m + m2)), Hr.out.2.1, Hr.out.2.2.1, Hr.out.2.2.2.1.done (sI_strict J) (fun _ => ⟨j, Hb.out.1, Hb.out.2.2, Hs.out⟩), (Hr.out.2.2.2.2.drewN (m + m2))⟩
      · have h2' : ¬ (2 * (i : Int) + 1 + 1) < n := by omega
        clear hless hq
        have hje : (j : Int) = 2 * (i : Int) + 1 := by rw [hjd, if_neg (fun h => h2 h.1)]; omega
        clear hjd
        rw [hje] at hl2 hsw
        have Hje := Lib.hid hje; clear hje
        by_cases hs : sI J (ht l' j) (ht l' i)
        · have Hs := Lib.hid hs; clear hs
          have hlc := hl2 _ Hr.out.1 true (decide_eq_true Hs.out)
          go_wp2_with (first | (go_at_call 77; first | (refine hl1.mono ?_; clear hl1; rintro e w' ⟨rfl, m, rfl⟩; have hlb := hl2 _ (Hr.out.1.drewN m) true (decide_eq_true Hs.out)) | (refine hlb.mono ?_; clear hlb; rintro e w' ⟨rfl, m2, rfl⟩; try have hs1 := hsw _ (Hr.out.1.drewN (m + m2))) | (refine hlc.mono ?_; clear hlc; rintro e w' ⟨rfl, m2, rfl⟩; try have hs1 := hsw _ (Hr.out.1.drewN m2))) | (go_at_call 80; refine hs1.mono ?_; rintro e w' ⟨rfl, hq2, hg2⟩) | fail)
          go_roundg (n + 1 - j)
          case measure => omega
          case rel =>
            refine ⟨j, by omega, by rw [Hje.out], _, hq2, (swp_perm (by omega) (by omega)).trans Hr.out.2.1, ?_, Hr.out.2.2.2.1.step (sI_strict J) Hb.out.1 hjn Hb.out.2.2 Hs.out, (Hr.out.2.2.2.2.drewN m2).trans (.of_grown hg2)⟩
            intro k hk
            rw [ht_swp (by omega) (by omega), if_neg (by omega), if_neg (by omega)]
            exact Hr.out.2.2.1 k hk
        · have Hs := Lib.hid hs; clear hs
          have hlc := hl2 _ Hr.out.1 false (decide_eq_false Hs.out)
          clear hsw
          go_wp2_with (first | (go_at_call 77; first | (refine hl1.mono ?_; clear hl1; rintro e w' ⟨rfl, m, rfl⟩; have hlb := hl2 _ (Hr.out.1.drewN m) false (decide_eq_false Hs.out)) | (refine hlb.mono ?_; clear hlb; rintro e w' ⟨rfl, m2, rfl⟩; try have hs1 := hsw _ (Hr.out.1.drewN (m + m2))) | (refine hlc.mono ?_; clear hlc; rintro e w' ⟨rfl, m2, rfl⟩; try have hs1 := hsw _ (Hr.out.1.drewN m2))) | (go_at_call 80; refine hs1.mono ?_; rintro e w' ⟨rfl, hq2, hg2⟩) | fail)
          all_goals go_ret
          all_goals refine ⟨⟨_, rfl⟩, l', (Hr.out.1.drewN m2), Hr.out.2.1, Hr.out.2.2.1, Hr.out.2.2.2.1.done (sI_strict J) (fun _ => ⟨j, Hb.out.1, Hb.out.2.2, Hs.out⟩), (Hr.out.2.2.2.2.drewN m2)⟩
    · have h1' : ((n : Int) ≤ 2 * i + 1) := by omega
      have Hr := Lib.hid (And.intro hq (And.intro hp (And.intro hk (And.intro hd hm))))
      clear hq hp hk hd hm hless
      go_wp2
      all_goals go_ret
      all_goals exact ⟨⟨_, rfl⟩, l', Hr.out.1, Hr.out.2.1, Hr.out.2.2.1, Hr.out.2.2.2.1.done (sI_strict J) (fun h => absurd h h1), Hr.out.2.2.2.2⟩

end Go.Proofs.Ytnepaaheiakimaa
