/- The contracts of pool.spots and stepkeep.above: the nodes in preorder. No conditions but that what is read is there, and that the nodes can be counted. -/
import Derived.Test.YtokjchcmjglbhaaOwn3
import Derived.Test.YtokjchcmjglbhaaChecked
import Derived.Deep.LoopGhost
import Derived.Deep.QuietTactic
import Derived.OwnWalk
namespace Go.Proofs.Ytokjchcmjglbhaa
open Go.ChangeShapes Go.WideShapes Go.ChangeAt Go.RowKit

/-! ### The nodes in preorder: the one above, the depth, how many kids -/
mutual
def preT : TreeR → Nat → Int → Nat → List (Int × Nat × Nat)
  | .mk _ _ _ _ l, d, up, at_ => (up, d, l.length) :: preL l (d + 1) (at_ : Int) (at_ + 1)
def preL : List TreeR → Nat → Int → Nat → List (Int × Nat × Nat)
  | [], _, _, _ => []
  | t :: l, d, up, at_ => preT t d up at_ ++ preL l d up (at_ + t.nodes)
end
theorem preT_eq (t : TreeR) (d : Nat) (up : Int) (at_ : Nat) : preT t d up at_ = (up, d, t.kids.length) :: preL t.kids (d + 1) (at_ : Int) (at_ + 1) := by cases t; rfl
theorem preL_length_of {l : List TreeR} (h : ∀ t ∈ l, ∀ d up at_, (preT t d up at_).length = t.nodes) (d : Nat) (up : Int) (at_ : Nat) : (preL l d up at_).length = nodesL l := by
  induction l generalizing at_ with
  | nil => rfl
  | cons t l ih =>
    simp only [preL, nodesL, List.length_append]
    rw [h t (by simp), ih (fun x hx => h x (by simp [hx]))]
theorem preT_length (t : TreeR) : ∀ d up at_, (preT t d up at_).length = t.nodes := by
  induction t using TreeR.ind with
  | h t ih =>
    intro d up at_
    rw [preT_eq, List.length_cons, preL_length_of ih, nodes_eq]
    omega
theorem preL_length (l : List TreeR) (d : Nat) (up : Int) (at_ : Nat) : (preL l d up at_).length = nodesL l := preL_length_of (fun t _ => preT_length t) d up at_
theorem preL_snoc (l : List TreeR) (t : TreeR) (d : Nat) (up : Int) (at_ : Nat) : preL (l ++ [t]) d up at_ = preL l d up at_ ++ preT t d up (at_ + nodesL l) := by
  induction l generalizing at_ with
  | nil => simp [preL, nodesL]
  | cons x l ih => simp only [List.cons_append, preL, nodesL, ih, List.append_assoc]; rw [Nat.add_assoc]
theorem len_le (l : List TreeR) : l.length ≤ nodesL l := by
  induction l with
  | nil => simp [nodesL]
  | cons t l ih => simp only [nodesL, List.length_cons]; have := nodes_eq t; omega
/-- What appends to one row do to memory. -/
structure Mv (w w' : World) (v v' : Value) : Prop where
  grown : w.grownBy w' v.ownBlock
  at_ : v'.ownBlock = v.ownBlock ∨ ∃ b, v'.ownBlock = some b ∧ w.heap.size ≤ b
theorem Mv.trans {w w1 w2 : World} {v v1 v2 : Value} (h : Mv w w1 v v1) (k : Mv w1 w2 v1 v2) : Mv w w2 v v2 where
  grown := ⟨k.grown.os.trans h.grown.os, k.grown.tape.trans h.grown.tape, k.grown.output.trans h.grown.output, Nat.le_trans h.grown.size k.grown.size, fun i hi h1 => by
    have hs := h.grown.size
    refine (k.grown.block i (by omega) ?_).trans (h.grown.block i hi h1)
    intro e
    rcases h.at_ with e' | ⟨b, e', hb⟩
    · exact h1 (e.trans e')
    · rw [e'] at e; cases e; omega⟩
  at_ := by
    have hs := h.grown.size
    rcases k.at_ with e' | ⟨b, e', hb⟩
    · rcases h.at_ with e2 | ⟨b2, e2, hb2⟩
      · exact .inl (e'.trans e2)
      · exact .inr ⟨b2, e'.trans e2, hb2⟩
    · exact .inr ⟨b, e', by omega⟩
theorem Mv.alloc (w : World) (o : Obj) (v : Value) : Mv w (w.alloc o) v v := ⟨⟨rfl, rfl, rfl, by simp, fun k hk _ => Below.heap_alloc w o k hk⟩, .inl rfl⟩
theorem Mv.below {w w' : World} {v v' : Value} {base : Nat} (h : Mv w w' v v') (hb : base ≤ w.heap.size) (hv : ∀ g, v.ownBlock = some g → base ≤ g) : Below base w w' := (Below.refl base w).grown h.grown hb hv
theorem own_lo3 {w : World} {base size n : Nat} {e : TypeId} {v : Value} {vs : List Value} (h : w.ownsRow base e size v n vs) : ∀ g, v.ownBlock = some g → base ≤ g ∧ g < w.heap.size := fun g hg => by
  rcases h.2 with ⟨rfl, _⟩ | ⟨g', cap, cur, rfl, hb, hh, _⟩
  · cases hg
  · cases hg; exact ⟨hb, (Array.getElem?_eq_some_iff.1 hh).1⟩
theorem box_kept {w w3 : World} {cs : Array Value} {t : TypeId} {o : Obj} {row : Option Nat} {k : Nat} {u : Value} (hg : ((w.alloc (.cells cs t)).alloc o).grownBy w3 row) (hne : some w.heap.size ≠ row) (hu : cs[k]? = some u) : w3.cell? ⟨w.heap.size, k, none⟩ = some u := by
  rw [World.cell?_of_block (a := ⟨w.heap.size, k, none⟩) (hg.block w.heap.size (by simp; omega) hne), World.cell?_alloc_lt _ _ _ (by simp), cell_of_row _ _ k cs t (0, 0) (heap_alloc_new w _), hu]
theorem mv_push {w w3 : World} {o o2 : Obj} {v v1 : Value} (hg : ((w.alloc o).alloc o2).grownBy w3 v.ownBlock) (hat : v1.ownBlock = v.ownBlock ∨ v1.ownBlock = some ((w.alloc o).alloc o2).heap.size) (hv : ∀ g, v.ownBlock = some g → g < w.heap.size) :
    Mv w w3 v v1 ∧ w.heap.size < w3.heap.size ∧ v1.ownBlock ≠ some w.heap.size := by
  have hs := hg.size
  simp at hs
  refine ⟨((Mv.alloc w o v).trans (Mv.alloc _ o2 v)).trans ⟨hg, hat.imp id fun e => ⟨_, e, Nat.le_refl _⟩⟩, by omega, fun h => ?_⟩
  rcases hat with e | e
  · have := hv w.heap.size (e.symm.trans h)
    omega
  · rw [e] at h
    simp at h
    omega
/-- The ones above, as 'above' lists them. -/
def upsOf (l : List (Int × Nat × Nat)) : List Int := l.map (·.1)
theorem upsOf_append (a b : List (Int × Nat × Nat)) : upsOf (a ++ b) = upsOf a ++ upsOf b := by simp [upsOf]
theorem ints_append (a b : List Int) : ints (a ++ b) = ints a ++ ints b := by simp [ints]
/-- The depth doesn't matter to the ones above. -/
theorem ups_depth_of {l : List TreeR} (h : ∀ t ∈ l, ∀ d d' up at_, upsOf (preT t d up at_) = upsOf (preT t d' up at_)) (d d' : Nat) (up : Int) (at_ : Nat) : upsOf (preL l d up at_) = upsOf (preL l d' up at_) := by
  induction l generalizing at_ with
  | nil => rfl
  | cons t l ih => simp only [preL, upsOf_append]; rw [h t (by simp) d d', ih (fun x hx => h x (by simp [hx]))]
theorem ups_depth (t : TreeR) : ∀ d d' up at_, upsOf (preT t d up at_) = upsOf (preT t d' up at_) := by
  induction t using TreeR.ind with
  | h t ih =>
    intro d d' up at_
    rw [preT_eq, preT_eq]
    show up :: upsOf _ = up :: upsOf _
    rw [ups_depth_of ih]
theorem info_int : (Try.prog.info? 3).map (fun i => (i.zero, i.size, i.bytes)) = some (some (.int .i64 0), 1, 8) := by kernel_rfl
def AbovePost (w : World) (base : Nat) (v : Value) (xs : List Int) (t : TreeR) (up : Int) (e : Ending) (w' : World) : Prop :=
  ∃ v', e = .returned v' ∧ w'.ownsRow base 3 1 v' (xs.length + t.nodes) (ints (xs ++ upsOf (preT t 1 up xs.length))) ∧ Mv w w' v v'
set_option maxRecDepth 100000 in
set_option maxHeartbeats 1000000 in
theorem above_any : ∀ (m : Nat) (t : TreeR) (w : World) (B base : Nat) (up : Int) (v : Value) (xs : List Int), t.nodes ≤ m → RdT w B t → B ≤ base → base ≤ w.heap.size → xs.length + t.nodes ≤ 1048576 → w.ownsRow base 3 1 v xs.length (ints xs) →
    Calls Try.prog 7 #[t.val, .int .i64 up, v] w (AbovePost w base v xs t up) := by
  intro m
  induction m with
  | zero => intro t w B base up v xs hm; have := nodes_eq t; omega
  | succ m ih =>
    intro t w B base up v xs hm hR hB hb hn hown
    obtain ⟨kind, n, sA, sc, kids⟩ := t
    have IH := Lib.hid ih; clear ih
    have HR := Lib.hid hR; clear hR
    obtain ⟨i0, hi0, hz0, hz1, hz2⟩ := info_parts info_int
    have Hi0 := Lib.hid (And.intro hi0 (And.intro hz0 (And.intro hz1 hz2))); clear hi0 hz0 hz1 hz2
    obtain ⟨A, c, rfl, hc, hc'⟩ := own_form3 hown
    have Hown := Lib.hid hown; clear hown
    show Calls Try.prog 7 #[.agg #[.int .i64 kind, .int .i64 n, .slice sA kids.length sc], .int .i64 up, .slice A xs.length c] w _
    go_enter Try.func7, Try.ntmps7
    have hlt0 := fun g (h : (Value.slice A xs.length c).ownBlock = some g) => (own_lo3 Hown.out g h).2
    have Hlt := Lib.hid hlt0; clear hlt0
    have hfw := (Hown.out.alloc (.cells #[.int .i64 kind, .int .i64 n, .slice sA kids.length sc] 24)).alloc (.cells #[.int .i64 up] 3)
    have Hfw := Lib.hid hfw; clear hfw
    have hkx := nodes_eq (.mk kind n sA sc kids)
    simp only [TreeR.kids] at hkx
    have hkl := len_le kids
    have hbw : base ≤ ((w.alloc (.cells #[.int .i64 kind, .int .i64 n, .slice sA kids.length sc] 24)).alloc (.cells #[.int .i64 up] 3)).heap.size := by simp; omega
    go_wp2_with (first
      | (at_builtin; (
         refine wpList_append_own_at _ rfl (.tmp 11) (.tmp 13) _ rfl base 3 i0 (.int .i64 0) 1 8 Try.underlying25 Hi0.out.1 Hi0.out.2.1 Hi0.out.2.2.1 Hi0.out.2.2.2 rfl (by decide) _ xs.length (ints xs) rfl Hfw.out ⟨w.heap.size + 1, 0, none⟩ 1 1 [.int .i64 up] rfl rfl (by have := cell_one_new (w.alloc (.cells #[.int .i64 kind, .int .i64 n, .slice sA kids.length sc] 24)) (.int .i64 up) 3; simpa using this) (by intro u hu; simp at hu; subst hu; rfl) (by unfold maxLen; omega) (by omega) hbw ?_
         intro v1 w3 hown3 hg3 _ hat3
         have hp := mv_push (v := .slice A xs.length c) hg3 hat3 Hlt.out
         have hbox := box_kept (k := 2) (u := .slice sA kids.length sc) hg3 (fun e => absurd (Hlt.out w.heap.size e.symm) (Nat.lt_irrefl _)) rfl
         obtain ⟨hmv, hz3, hv3⟩ := hp
         have H3 := Lib.hid (And.intro hown3 hmv); clear hown3 hmv hg3 hat3))
      | fail)
    go_loopg [2, 18] kids.length (fun gk l i wr => ∃ q : Nat, gk + q = kids.length ∧ i = .int .i64 q ∧ wr.ownsRow base 3 1 l (xs.length + 1 + nodesL (kids.take q)) (ints (xs ++ [up] ++ upsOf (preL (kids.take q) 1 (xs.length : Int) (xs.length + 1)))) ∧ Mv w wr (.slice A xs.length c) l ∧
      wr.cell? ⟨w.heap.size, 2, none⟩ = some (.slice sA kids.length sc) ∧ w.heap.size < wr.heap.size ∧ l.ownBlock ≠ some w.heap.size)
    case atStart =>
      refine ⟨0, by omega, rfl, ?_, H3.out.2, hbox, ?_, ?_⟩
      · simp only [List.take_zero, nodesL, preL, upsOf, List.map_nil, List.append_nil, ints_append]
        exact H3.out.1
      · exact hz3
      · exact hv3
    case round =>
      obtain ⟨q, hgq, rfl, hown, hmv, hbox, hzr, hvb⟩ := hrel
      by_cases hq : q < kids.length
      · have hlo := fun g (h : (Value.slice A xs.length c).ownBlock = some g) => (own_lo3 Hown.out g h).1
        have hRr := HR.out.under ((hmv.below hb hlo).mono hB)
        obtain ⟨b, o, e0, hbB, c0, c1, c2⟩ := hRr.at_ (i := q) hq
        simp only [TreeR.sA] at e0
        subst e0
        simp only [TreeR.kids] at c0 c1 c2
        have hRk := hRr.kid (k := kids[q]) (List.getElem_mem hq)
        obtain ⟨k, hk⟩ : ∃ k, kids[q] = k := ⟨_, rfl⟩
        rw [hk] at c0 c1 c2 hRk
        have htake : kids.take (q + 1) = kids.take q ++ [k] := by rw [List.take_succ_eq_append_getElem hq, hk]
        have hsum : nodesL (kids.take q) + k.nodes ≤ nodesL kids := by
          have h1 := nodesL_append (kids.take (q + 1)) (kids.drop (q + 1))
          rw [List.take_append_drop, htake, nodesL_append] at h1
          simp only [nodesL] at h1
          omega
        obtain ⟨A2, cc, rfl, _, _⟩ := own_form3 hown
        have hlen2 : (xs ++ [up] ++ upsOf (preL (kids.take q) 1 (xs.length : Int) (xs.length + 1))).length = xs.length + 1 + nodesL (kids.take q) := by simp [upsOf, preL_length]; omega
        have hcall := IH.out k wr B base (xs.length : Int) (.slice A2 (xs.length + 1 + nodesL (kids.take q)) cc) (xs ++ [up] ++ upsOf (preL (kids.take q) 1 (xs.length : Int) (xs.length + 1))) (by omega) hRk hB (by omega) (by rw [hlen2]; omega) (by rw [hlen2]; exact hown)
        obtain ⟨kd, kn, kA, kc, kl⟩ := k
        simp only [TreeR.kind, TreeR.n, TreeR.sA, TreeR.sc, TreeR.kids] at c0 c1 c2
        have HB := Lib.hid (And.intro hcall (And.intro hmv (And.intro hbox (And.intro htake (And.intro hvb hown)))))
        clear hcall hmv htake hown hRk hRr hk
        go_wp2_with (first
          | (go_at_call 7; (
             refine HB.out.1.mono ?_
             rintro e w4 ⟨v4, rfl, hown4, hmv4⟩
             have H4 := Lib.hid (And.intro hown4 hmv4); clear hown4 hmv4))
          | fail)
        go_roundg (gk - 1)
        case measure => omega
        case rel =>
          obtain ⟨hcall, hmv, hbox', htake, hvb, hown⟩ := HB.out
          obtain ⟨hown4, hmv4⟩ := H4.out
          refine ⟨q + 1, by omega, by go_num, ?_, hmv.trans hmv4, ?_, ?_, ?_⟩
          · rw [hlen2] at hown4
            rw [htake, nodesL_append, preL_snoc, upsOf_append, ← List.append_assoc]
            simpa [nodesL, Nat.add_assoc] using hown4
          · exact (World.cell?_of_block (a := ⟨w.heap.size, 2, none⟩) (hmv4.grown.block w.heap.size hzr (fun e => hvb e.symm))).trans hbox'
          · have := hmv4.grown.size; omega
          · rcases hmv4.at_ with e | ⟨b5, e, hb5⟩
            · rw [e]; exact hvb
            · rw [e]; intro h; cases h; omega
      · have hqe : q = kids.length := by omega
        subst hqe
        rw [List.take_length] at hown
        have HB := Lib.hid (And.intro hown hmv)
        clear hown hmv
        go_wp2_with fail
        go_ret
        refine ⟨_, rfl, ?_, HB.out.2⟩
        have h := HB.out.1
        rw [preT_eq]
        show World.ownsRow _ base 3 1 _ (xs.length + (TreeR.mk kind n sA sc kids).nodes) (ints (xs ++ (up :: upsOf (preL kids (1 + 1) (xs.length : Int) (xs.length + 1)))))
        rw [hkx, ups_depth_of (fun t _ => ups_depth t) (1 + 1) 1]
        simpa [Nat.add_assoc] using h
end Go.Proofs.Ytokjchcmjglbhaa
