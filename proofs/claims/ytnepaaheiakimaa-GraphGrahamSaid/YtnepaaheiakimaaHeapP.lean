/- The queue's Pop. No conditions but that what is read is there. -/
import Derived.Test.YtnepaaheiakimaaHeapW
namespace Go.Proofs.Ytnepaaheiakimaa
open Go.ChangeShapes Go.WideShapes Go.ChangeAt Go.RowKit

def PopPost (w : World) (B base q : Nat) (A : Option Addr) (c : Nat) (J : List JobR) (v : Value) (l : List Int) (x : Int) (e : Ending) (w' : World) : Prop :=
  e = .returned (.iface 3 (.int .i64 x)) ∧ ∃ v', QSt w' B base q A c J v' l ∧ QMove q w w' v v'

set_option maxRecDepth 100000 in
set_option maxHeartbeats 1000000 in
theorem qpop (w : World) (B base q : Nat) (A : Option Addr) (c : Nat) (J : List JobR) (v : Value) (l : List Int) (x : Int) (h : QSt w B base q A c J v (l ++ [x])) :
    Calls Try.prog 78 #[.pointer (some ⟨q, 0, none⟩)] w (PopPost w B base q A c J v l x) := by
  have hsz := h.size
  have hlen : (l ++ [x]).length = l.length + 1 := by simp
  obtain ⟨ob, cv, rfl, hbase, hlt⟩ := own_form2 h.own (by omega)
  have hc1 := h.blk.cell 1
  have hf1 := h.blk.frozen 1
  simp only [List.getElem?_cons_succ, List.getElem?_cons_zero, hlen] at hc1
  have hcl : w.cell? ⟨ob, l.length, none⟩ = some (.int .i64 x) := by rw [h.own.cellAt l.length (by omega)]; simp [ints]
  have hown := h.own
  rw [hlen, show ints (l ++ [x]) = ints l ++ [.int .i64 x] by simp [ints]] at hown
  have hpop := ownsRow_pop (n := l.length) (by simp [ints]) hown
  obtain ⟨_, hcap⟩ : ∃ A, l.length + 1 ≤ cv ∧ cv ≤ maxLen := by
    obtain ⟨A, c', e, h1, h2⟩ := own_form hown
    cases e
    exact ⟨A, h1, h2⟩
  have hqb := h.blk.lt
  rw [hlen] at hsz
  rw [hlen] at h
  have H := Lib.hid h
  have Hpop := Lib.hid hpop
  clear h hpop hown
  go_enter Try.func78, Try.ntmps78
  go_wp2
  go_quiet (fail)
  go_wp2
  go_region
  all_goals go_wp2
  go_ret
  have h := H.out
  have hq := h.qlow
  have hb := h.blow
  have hbd := h.bound
  refine ⟨rfl, .slice (some ⟨ob, 0, none⟩) l.length cv, ⟨?_, ?_, h.jobs.keep fun p hp => World.cell?_of_block ?_, h.few, by omega, fun a ha => h.inR a (List.mem_append_left _ ha), hq, hb, ?_⟩, ⟨rfl, rfl, rfl, ?_, fun k _ h1 _ => Below.heap_setCell (w.drewN (nq + 1)) _ _ _ h1, .inl rfl⟩⟩
  · have hbk : Blk (w.drewN (nq + 1)) q 50 [.slice A J.length c, .slice (some ⟨ob, 0, none⟩) (l.length + 1) cv] := h.blk
    exact hbk.set_ 1 _
  · have ho : (w.drewN (nq + 1)).ownsRow base 3 1 (.slice (some ⟨ob, 0, none⟩) l.length cv) l.length (ints l) := Hpop.out
    exact ownsRow_setCell_below ho (a := ⟨q, 1, none⟩) hq _
  · exact Below.heap_setCell (w.drewN (nq + 1)) _ _ _ (by show p.block ≠ q; omega)
  · show base ≤ ((w.drewN (nq + 1)).setCell _ _).heap.size
    simpa [World.setCell] using hbd
  · show w.heap.size ≤ ((w.drewN (nq + 1)).setCell _ _).heap.size
    simp [World.setCell]
theorem method_push (a : Addr) (w : World) : (method 227 48 (.pointer (some a)) "Push").run Try.prog w = .ok (79, .pointer (some a)) w := by kernel_rfl
theorem method_pop (a : Addr) (w : World) : (method 227 48 (.pointer (some a)) "Pop").run Try.prog w = .ok (78, .pointer (some a)) w := by kernel_rfl
theorem method_len (a : Addr) (w : World) : (method 227 48 (.pointer (some a)) "Len").run Try.prog w = .ok (20, .pointer (some a)) w := by kernel_rfl
theorem method_less (a : Addr) (w : World) : (method 227 48 (.pointer (some a)) "Less").run Try.prog w = .ok (77, .pointer (some a)) w := by kernel_rfl
theorem method_swap (a : Addr) (w : World) : (method 227 48 (.pointer (some a)) "Swap").run Try.prog w = .ok (80, .pointer (some a)) w := by kernel_rfl
end Go.Proofs.Ytnepaaheiakimaa
