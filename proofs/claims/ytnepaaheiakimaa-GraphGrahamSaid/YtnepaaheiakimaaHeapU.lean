/- container/heap over the queue: up, down, Push, Pop. No conditions but that what is read is there. -/
import Derived.Test.YtnepaaheiakimaaHeapP
namespace Go.Proofs.Ytnepaaheiakimaa
open Go.ChangeShapes Go.WideShapes Go.ChangeAt Go.RowKit

def HeapPost (w : World) (B base q : Nat) (A : Option Addr) (c : Nat) (J : List JobR) (v : Value) (l : List Int) (e : Ending) (w' : World) : Prop :=
  e = .returned (.tuple #[]) ∧ ∃ l', QSt w' B base q A c J v l' ∧ l'.Perm l ∧ Hp (sI J) l'.length l' ∧ QMove q w w' v v

theorem qless' (w : World) (B base q : Nat) (A : Option Addr) (c : Nat) (J : List JobR) (v : Value) (l : List Int) (a b : Nat) (h : QSt w B base q A c J v l) (ha : a < l.length) (hb : b < l.length) (r : Bool) (hr : decide (sI J (ht l a) (ht l b)) = r) :
    Calls Try.prog 77 #[.pointer (some ⟨q, 0, none⟩), .int .i64 a, .int .i64 b] w fun e w' => e = .returned (.bool r) ∧ ∃ m, w' = w.drewN m := by
  refine qless r w B base q A c J v l a b h ha hb ?_
  rw [← hr]
  refine decide_eq_decide.2 ?_
  rw [← ht_get ha, ← ht_get hb]
  exact (sI_iff (h.inR _ (List.getElem_mem ha)).1 (h.inR _ (List.getElem_mem hb)).1).symm

set_option maxRecDepth 100000 in
set_option maxHeartbeats 1000000 in
theorem heap_up (w : World) (B base q : Nat) (A : Option Addr) (c : Nat) (J : List JobR) (v : Value) (l : List Int) (j : Nat) (h : QSt w B base q A c J v l) (hu : HpUp (sI J) l j) :
    Calls Try.prog 32 #[.iface 48 (.pointer (some ⟨q, 0, none⟩)), .int .i64 j] w (HeapPost w B base q A c J v l) := by
  have hml := method_less ⟨q, 0, none⟩
  have hms := method_swap ⟨q, 0, none⟩
  have hsz := h.size
  have hj := hu.lt
  have H := Lib.hid (And.intro h hu)
  clear h hu
  go_enter Try.func32, Try.ntmps32
  go_wp2
  go_loopg [1] j (fun gk v1 wr => v1 = .int .i64 gk ∧ gk < 1000 ∧ ∃ l', QSt wr B base q A c J v l' ∧ l'.Perm l ∧ HpUp (sI J) l' gk ∧ QMove q w wr v v)
  case atStart => exact ⟨rfl, by omega, l, H.out.1, .refl _, H.out.2, .refl _ _ _⟩
  case round =>
    obtain ⟨rfl, hk, l', hq, hp, hu, hm⟩ := hrel
    have hjl := hu.lt
    have hq1 : Int.tdiv (gk - 1) 2 = ((gk - 1) / 2 : Nat) := by
      rcases Nat.eq_zero_or_pos gk with e | e
      · subst e; rfl
      · rw [show ((gk : Int) - 1) = ((gk - 1 : Nat) : Int) by omega, Int.tdiv_eq_ediv_of_nonneg (by omega)]; omega
    have hless := qless' wr B base q A c J v l' gk ((gk - 1) / 2) hq hjl (by omega)
    have hswap' := fun m => qswap (wr.drewN m) B base q A c J v l' ((gk - 1) / 2) gk (hq.drewN m) (by omega) hjl
    have Hr := Lib.hid (And.intro hq (And.intro hp (And.intro hu hm)))
    clear hq hp hu hm
    by_cases h0 : gk = 0
    · subst h0
      go_wp2
      go_end0
      exact ⟨rfl, l', Hr.out.1, Hr.out.2.1, Hr.out.2.2.1.done (.inl rfl), Hr.out.2.2.2⟩
    · have hne : ¬ ((gk - 1) / 2 : Nat) = gk := by omega
      have hne' : ¬ (((gk - 1) / 2 : Nat) : Int) = (gk : Int) := by omega
      obtain ⟨p, hpp⟩ : ∃ p, p = (gk - 1) / 2 := ⟨_, rfl⟩
      rw [← hpp] at hq1 hless hswap' hne hne'
      have hpb : p < 1000 := by omega
      have hpl : p < gk := by omega
      have hwp : wrap64 (p : Int) = p := by unfold wrap64; omega
      have Hpp := Lib.hid hpp; clear hpp
      by_cases hs : sI J (ht l' gk) (ht l' p)
      · have hl1 := hless true (decide_eq_true hs)
        have Hs := Lib.hid hs; clear hs hless
        go_wp2_with (first | (go_at_call 77; refine hl1.mono ?_; rintro e w' ⟨rfl, m, rfl⟩) | fail)
        have hs1 := hswap' m
        go_wp2_with (first | (go_at_call 80; refine hs1.mono ?_; rintro e w' ⟨rfl, hq2, hg2⟩) | fail)
        go_roundg p
        case measure => omega
        case rel =>
          refine ⟨rfl, by omega, _, hq2, (swp_perm (by omega) hjl).trans Hr.out.2.1, ?_, (Hr.out.2.2.2.drewN m).trans (.of_grown hg2)⟩
          have := Hr.out.2.2.1.step (sI_strict J) (by omega) (by rw [← Hpp.out]; exact Hs.out)
          rwa [← Hpp.out] at this
      · have hl1 := hless false (decide_eq_false hs)
        have Hs := Lib.hid hs; clear hs hless
        go_wp2_with (first | (go_at_call 77; refine hl1.mono ?_; rintro e w' ⟨rfl, m, rfl⟩) | fail)
        go_end0
        refine ⟨rfl, l', Hr.out.1.drewN _, Hr.out.2.1, Hr.out.2.2.1.done (.inr ?_), Hr.out.2.2.2.drewN _⟩
        rw [← Hpp.out]; exact Hs.out

def HeapPushPost (w : World) (B base q : Nat) (A : Option Addr) (c : Nat) (J : List JobR) (v : Value) (l : List Int) (x : Int) (e : Ending) (w' : World) : Prop :=
  e = .returned (.tuple #[]) ∧ ∃ v' l', QSt w' B base q A c J v' l' ∧ l'.Perm (l ++ [x]) ∧ Hp (sI J) l'.length l' ∧ QMove q w w' v v'
set_option maxRecDepth 100000 in
set_option maxHeartbeats 1000000 in
theorem heap_push (w : World) (B base q : Nat) (A : Option Addr) (c : Nat) (J : List JobR) (v : Value) (l : List Int) (x : Int) (h : QSt w B base q A c J v l) (hp : Hp (sI J) l.length l) (hx : okIn J.length x) (hl : l.length < 1000) :
    Calls Try.prog 19 #[.iface 48 (.pointer (some ⟨q, 0, none⟩)), .iface 3 (.int .i64 x)] w (HeapPushPost w B base q A c J v l x) := by
  have hml := method_len ⟨q, 0, none⟩
  have hmp := method_push ⟨q, 0, none⟩
  have hpush := qpush w B base q A c J v l x h hx hl
  have H := Lib.hid (And.intro h hp)
  clear h hp
  go_enter Try.func19, Try.ntmps19
  go_wp2_with (first | (go_at_call 79; go_loud (refine hpush.mono ?_; rintro e w1 ⟨rfl, v1, hq1, hm1⟩; have hlen := qlen w1 B base q A c J v1 (l ++ [x]) hq1; rw [show (((l ++ [x]).length : Nat) : Int) = (l.length : Int) + 1 by simp] at hlen; have hup := heap_up w1 B base q A c J v1 (l ++ [x]) l.length hq1 (HpUp.push H.out.2 x); have Hm1 := Lib.hid hm1; clear hpush hm1 hq1)) | (go_at_call 20; refine hlen.mono ?_; rintro e w2 ⟨rfl, rfl⟩) | (go_at_call 32; refine hup.mono ?_; rintro e w2 ⟨rfl, l2, hq2, hp2, hh2, hm2⟩) | fail)
  go_end0
  exact ⟨rfl, v1, l2, hq2, hp2, hh2, Hm1.out.trans hm2⟩
end Go.Proofs.Ytnepaaheiakimaa
