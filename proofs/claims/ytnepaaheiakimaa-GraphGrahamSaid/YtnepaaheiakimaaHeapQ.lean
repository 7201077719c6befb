/- container/heap over the queue: Pop. No conditions but that what is read is there. -/
import Derived.Test.YtnepaaheiakimaaHeapD
namespace Go.Proofs.Ytnepaaheiakimaa
open Go.ChangeShapes Go.WideShapes Go.ChangeAt Go.RowKit

/-- What a pop brings: the soonest, off the heap. -/
def HeapPopPost (w : World) (B base q : Nat) (A : Option Addr) (c : Nat) (J : List JobR) (v : Value) (l : List Int) (e : Ending) (w' : World) : Prop :=
  ∃ x v' l', e = .returned (.iface 3 (.int .i64 x)) ∧ QSt w' B base q A c J v' l' ∧ (x :: l').Perm l ∧ (∀ y ∈ l, ¬ sI J y x) ∧ Hp (sI J) l'.length l' ∧ QMove q w w' v v'
theorem Hp.cut {s : Int → Int → Prop} {n : Nat} {l : List Int} (h : Hp s n l) (hn : l.length = n + 1) : Hp s (l.take n).length (l.take n) := by
  have e : (l.take n).length = n := by simp; omega
  rw [e]
  have e2 : ∀ k, k < n → ht (l.take n) k = ht l k := fun k hk => by simp [ht, hk]
  intro k h0 hk
  rw [e2 _ hk, e2 _ (by omega)]
  exact h k h0 hk
set_option maxRecDepth 100000 in
set_option maxHeartbeats 1000000 in
theorem heap_pop (w : World) (B base q : Nat) (A : Option Addr) (c : Nat) (J : List JobR) (v : Value) (l : List Int) (n : Nat) (h : QSt w B base q A c J v l) (hp : Hp (sI J) l.length l) (hn : l.length = n + 1) :
    Calls Try.prog 21 #[.iface 48 (.pointer (some ⟨q, 0, none⟩))] w (HeapPopPost w B base q A c J v l) := by
  have hml := method_len ⟨q, 0, none⟩
  have hms := method_swap ⟨q, 0, none⟩
  have hmp := method_pop ⟨q, 0, none⟩
  have hsz := h.size
  have hlen := qlen w B base q A c J v l h
  rw [hn] at hp
  have hs := qswap w B base q A c J v l 0 n h (by omega) (by omega)
  rw [show ((l.length : Nat) : Int) = (n : Int) + 1 by omega] at hlen
  rw [show ((0 : Nat) : Int) = 0 from rfl] at hs
  have hnb : n < 1000 := by omega
  have H := Lib.hid (And.intro h (And.intro hp hn))
  clear h hp hn
  go_enter Try.func21, Try.ntmps21
  go_wp2_with (first | (go_at_call 20; refine hlen.mono ?_; rintro e w2 ⟨rfl, rfl⟩) | (go_at_call 80; refine hs.mono ?_; rintro e w1 ⟨rfl, hq1, hg1⟩; have hdown := heap_down w1 B base q A c J v n (swp l 0 n) hq1 (HpDn.start H.out.2.1 H.out.2.2); have Hg1 := Lib.hid hg1; clear hg1 hq1) | (go_at_call 33; refine hdown.mono ?_; rintro e w2 ⟨⟨r, rfl⟩, l2, hq2, hp2, hk2, hh2, hm2⟩; have hl2 : l2.length = n + 1 := (by rw [hp2.length_eq, swp_len, H.out.2.2]); have hpop := qpop w2 B base q A c J v (l2.take n) (ht l2 n) (by rw [← perm_last hl2]; exact hq2); have H2 := Lib.hid (And.intro hp2 (And.intro hk2 (And.intro hh2 (And.intro hm2 hl2)))); clear hp2 hk2 hh2 hm2 hl2 hq2) | (go_at_call 78; refine hpop.mono ?_; rintro e w3 ⟨rfl, v3, hq3, hm3⟩) | fail)
  go_ret
  obtain ⟨_, hp0, hn0⟩ := H.out
  obtain ⟨hp2, hk2, hh2, hm2, hl2⟩ := H2.out
  have hx : ht l2 n = ht l 0 := by rw [hk2 n (Nat.le_refl _), ht_swp (by omega) (by omega), if_pos rfl]
  refine ⟨_, v3, l2.take n, rfl, hq3, ?_, ?_, hh2.cut hl2, ((QMove.of_grown Hg1.out).trans hm2).trans hm3⟩
  · refine List.Perm.trans ?_ (hp2.trans (swp_perm (by omega) (by omega)))
    have := perm_last hl2
    exact (List.perm_append_singleton (ht l2 n) (l2.take n)).symm.trans (by rw [← this])
  · intro y hy
    obtain ⟨k, hk, rfl⟩ := List.getElem_of_mem hy
    rw [hx, ht_get hk]
    exact hp0.min (sI_strict J) k (by omega)
end Go.Proofs.Ytnepaaheiakimaa
