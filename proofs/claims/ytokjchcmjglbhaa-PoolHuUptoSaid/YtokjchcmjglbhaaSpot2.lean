/- The contract of pool.spots: the nodes in preorder, their depth, the one above, how many kids. No conditions but that what is read is there, and that the nodes can be counted. -/
import Derived.Test.YtokjchcmjglbhaaSpots
namespace Go.Proofs.Ytokjchcmjglbhaa
open Go.ChangeShapes Go.WideShapes Go.ChangeAt Go.RowKit

def spotC : List (Int × Nat × Nat) → List Value
  | [] => []
  | x :: l => [.int .i64 x.2.1, .int .i64 x.1, .int .i64 x.2.2] ++ spotC l
theorem spotC_append (a b : List (Int × Nat × Nat)) : spotC (a ++ b) = spotC a ++ spotC b := by
  induction a with
  | nil => rfl
  | cons t a ih => simp [spotC, ih]
theorem spotC_length (l : List (Int × Nat × Nat)) : (spotC l).length = l.length * 3 := by
  induction l with
  | nil => rfl
  | cons t l ih => simp [spotC, ih]; omega
theorem news_new (w : World) (cs : Array Value) (t : TypeId) : ∀ j u, cs.toList[j]? = some u → (w.alloc (.cells cs t)).cell? ((⟨w.heap.size, 0, none⟩ : Addr).add j) = some u := fun j u hu => by
  rw [add_lit, cell_of_row _ _ j cs t (0, 0) (heap_alloc_new w _)]
  simpa using hu
theorem info_spot : (Try.prog.info? 41).map (fun i => (i.zero, i.size, i.bytes)) = some (some (.agg #[.int .i64 0, .int .i64 0, .int .i64 0]), 3, 24) := by kernel_rfl
def SpotsPost (w : World) (base : Nat) (v : Value) (xs : List (Int × Nat × Nat)) (t : TreeR) (d : Nat) (up : Int) (e : Ending) (w' : World) : Prop :=
  ∃ v', e = .returned v' ∧ w'.ownsRow base 41 3 v' (xs.length + t.nodes) (spotC (xs ++ preT t d up xs.length)) ∧ Mv w w' v v'
set_option maxRecDepth 100000 in
set_option maxHeartbeats 1000000 in
theorem spots_any : ∀ (m : Nat) (t : TreeR) (w : World) (B base d : Nat) (up : Int) (v : Value) (xs : List (Int × Nat × Nat)), t.nodes ≤ m → RdT w B t → B ≤ base → base ≤ w.heap.size → xs.length + t.nodes ≤ 1048576 → d + t.nodes ≤ 3000000 → w.ownsRow base 41 3 v xs.length (spotC xs) →
    Calls Try.prog 11 #[t.val, .int .i64 d, .int .i64 up, v] w (SpotsPost w base v xs t d up) := by
  intro m
  induction m with
  | zero => intro t w B base d up _ xs hm; have := nodes_eq t; omega
  | succ m ih =>
    intro t w B base d up v xs hm hR hB hb hn hdn hown
    obtain ⟨kind, n, sA, sc, kids⟩ := t
    have IH := Lib.hid ih; clear ih
    have HR := Lib.hid hR; clear hR
    obtain ⟨i0, hi0, hz0, hz1, hz2⟩ := info_parts info_spot
    have Hi0 := Lib.hid (And.intro hi0 (And.intro hz0 (And.intro hz1 hz2))); clear hi0 hz0 hz1 hz2
    obtain ⟨A, c, rfl, hc, hc'⟩ := own_form3 hown
    have Hown := Lib.hid hown; clear hown
    have hkx := nodes_eq (.mk kind n sA sc kids)
    simp only [TreeR.kids] at hkx
    have hkl := len_le kids
    show Calls Try.prog 11 #[.agg #[.int .i64 kind, .int .i64 n, .slice sA kids.length sc], .int .i64 d, .int .i64 up, .slice A xs.length c] w _
    go_enter Try.func11, Try.ntmps11
    have hlt0 := fun g (h : (Value.slice A xs.length c).ownBlock = some g) => (own_lo3 Hown.out g h).2
    have Hlt := Lib.hid hlt0; clear hlt0
    have hfw := (Hown.out.alloc (.cells #[.int .i64 kind, .int .i64 n, .slice sA kids.length sc] 24)).alloc (.cells #[.int .i64 d, .int .i64 up, .int .i64 kids.length] 41)
    have Hfw := Lib.hid hfw; clear hfw
    have hbw : base ≤ ((w.alloc (.cells #[.int .i64 kind, .int .i64 n, .slice sA kids.length sc] 24)).alloc (.cells #[.int .i64 d, .int .i64 up, .int .i64 kids.length] 41)).heap.size := by simp; omega
    have hnw := news_new (w.alloc (.cells #[.int .i64 kind, .int .i64 n, .slice sA kids.length sc] 24)) #[.int .i64 d, .int .i64 up, .int .i64 kids.length] 41
    rw [show (w.alloc (.cells #[.int .i64 kind, .int .i64 n, .slice sA kids.length sc] 24)).heap.size = w.heap.size + 1 by simp] at hnw
    have Hnw := Lib.hid hnw; clear hnw
    go_wp2_with (first
      | (at_builtin; (
         refine wpList_append_own_at _ rfl (.tmp 14) (.tmp 21) _ rfl base 41 i0 (.agg #[.int .i64 0, .int .i64 0, .int .i64 0]) 3 24 Try.underlying38 Hi0.out.1 Hi0.out.2.1 Hi0.out.2.2.1 Hi0.out.2.2.2 rfl (by decide) _ xs.length (spotC xs) rfl Hfw.out ⟨w.heap.size + 1, 0, none⟩ 1 1 [.int .i64 d, .int .i64 up, .int .i64 kids.length] rfl rfl Hnw.out (by intro u hu; simp at hu; rcases hu with rfl | rfl | rfl <;> rfl) (by unfold maxLen; omega) (by omega) hbw ?_
         intro v1 w3 hown3 hg3 _ hat3
         have hp := mv_push (v := .slice A xs.length c) hg3 hat3 Hlt.out
         have hbox := box_kept (k := 2) (u := .slice sA kids.length sc) hg3 (fun e => absurd (Hlt.out w.heap.size e.symm) (Nat.lt_irrefl _)) rfl
         obtain ⟨hmv, hz3, hv3⟩ := hp
         have H3 := Lib.hid (And.intro hown3 hmv); clear hown3 hmv hg3 hat3))
      | fail)
    clear hbox hv3
    go_loopg [3, 26] kids.length (fun gk l i wr => ∃ q : Nat, gk + q = kids.length ∧ i = .int .i64 q ∧ wr.ownsRow base 41 3 l (xs.length + 1 + nodesL (kids.take q)) (spotC (xs ++ [(up, d, kids.length)] ++ preL (kids.take q) (d + 1) (xs.length : Int) (xs.length + 1))) ∧ Mv w wr (.slice A xs.length c) l)
    case atStart =>
      refine ⟨0, by omega, rfl, ?_, H3.out.2⟩
      simp only [List.take_zero, nodesL, preL, List.append_nil, spotC_append]
      exact H3.out.1
    case round =>
      obtain ⟨q, hgq, rfl, hown, hmv⟩ := hrel
      by_cases hq : q < kids.length
      · have hlo := fun g (h : (Value.slice A xs.length c).ownBlock = some g) => (own_lo3 Hown.out g h).1
        have hzw := hmv.grown.size
        have hRr := HR.out.under ((hmv.below hb hlo).mono hB)
        obtain ⟨b, o, e0, hbB, c0, c1, c2⟩ := hRr.at_ (i := q) hq
        simp only [TreeR.sA] at e0
        subst e0
        simp only [TreeR.kids] at c0 c1 c2
        have hRk := hRr.kid (k := kids[q]) (List.getElem_mem hq)
        obtain ⟨k, hk⟩ : ∃ k, kids[q] = k := ⟨_, rfl⟩
        rw [hk] at c0 c1 c2 hRk
        have htake : kids.take (q + 1) = kids.take q ++ [k] := by rw [List.take_succ_eq_append_getElem hq, hk]
        have hsum : nodesL (kids.take q) + k.nodes ≤ nodesL kids := by
          have h1 := nodesL_append (kids.take (q + 1)) (kids.drop (q + 1))
          rw [List.take_append_drop, htake, nodesL_append] at h1
          simp only [nodesL] at h1
          omega
        obtain ⟨A2, cc, rfl, _, _⟩ := own_form3 hown
        have hlen2 : (xs ++ [(up, d, kids.length)] ++ preL (kids.take q) (d + 1) (xs.length : Int) (xs.length + 1)).length = xs.length + 1 + nodesL (kids.take q) := by simp [preL_length]; omega
        have hbb : ¬ (b = wr.heap.size) := by omega
        obtain ⟨kd, kn, kA, kc, kl⟩ := k
        simp only [TreeR.kind, TreeR.n, TreeR.sA, TreeR.sc, TreeR.kids] at c0 c1 c2
        have hcall := IH.out (.mk kd kn kA kc kl) (wr.alloc (.cells #[.int .i64 kd, .int .i64 kn, .slice kA kl.length kc] 24)) B base (d + 1) (xs.length : Int) (.slice A2 (xs.length + 1 + nodesL (kids.take q)) cc) (xs ++ [(up, d, kids.length)] ++ preL (kids.take q) (d + 1) (xs.length : Int) (xs.length + 1)) (by omega) (hRk.keep fun p hp => World.cell?_alloc_lt _ _ _ (by omega)) hB (by simp; omega) (by rw [hlen2]; omega) (by omega) (by rw [hlen2]; exact hown.alloc _)
        rw [show ((d + 1 : Nat) : Int) = (d : Int) + 1 by omega] at hcall
        have HB := Lib.hid (And.intro hcall (And.intro hmv (And.intro htake hown)))
        clear hcall hmv htake hown hRk hRr hk hlo
        go_wp2_with (first
          | (go_at_call 11; (
             refine HB.out.1.mono ?_
             rintro e w4 ⟨v4, rfl, hown4, hmv4⟩
             have H4 := Lib.hid (And.intro hown4 hmv4); clear hown4 hmv4))
          | fail)
        go_roundg (gk - 1)
        case measure => omega
        case rel =>
          obtain ⟨hcall, hmv, htake, hown⟩ := HB.out
          obtain ⟨hown4, hmv4⟩ := H4.out
          refine ⟨q + 1, by omega, by go_num, ?_, (hmv.trans (Mv.alloc _ _ _)).trans hmv4⟩
          rw [hlen2] at hown4
          rw [htake, nodesL_append, preL_snoc, ← List.append_assoc]
          simpa [nodesL, Nat.add_assoc] using hown4
      · have hqe : q = kids.length := by omega
        subst hqe
        rw [List.take_length] at hown
        have HB := Lib.hid (And.intro hown hmv)
        clear hown hmv
        go_wp2_with fail
        go_ret
        refine ⟨_, rfl, ?_, HB.out.2⟩
        have h := HB.out.1
        rw [preT_eq]
        show World.ownsRow _ base 41 3 _ (xs.length + (TreeR.mk kind n sA sc kids).nodes) (spotC (xs ++ ((up, d, kids.length) :: preL kids (d + 1) (xs.length : Int) (xs.length + 1))))
        rw [hkx]
        simpa [Nat.add_assoc] using h
end Go.Proofs.Ytokjchcmjglbhaa
