/- The contract of graph.order: Kahn's order. No conditions but that what is read is there. -/
import Derived.Test.YticdjkkcfdbdcaaGraphRef2
import Derived.Test.YticdjkkcfdbdcaaGraphOrd
import Derived.Test.YticdjkkcfdbdcaaGrids
import Derived.Deep.LoopGhost
namespace Go.Proofs.Yticdjkkcfdbdcaa
open Go.ChangeShapes Go.WideShapes Go.ChangeAt Go.RowKit
theorem info_int : (Try.prog.info? 3).map (fun i => (i.zero, i.size, i.bytes)) = some (some (.int .i64 0), 1, 8) := by kernel_rfl
theorem info_ints : (Try.prog.info? 39).map (fun i => (i.zero, i.size, i.bytes)) = some (some (.slice none 0 0), 1, 24) := by kernel_rfl
structure Valid (J : List JobR) : Prop where
  ok : ∀ (k : Nat) (h : k < J.length), okJob J.length J[k]
  few : J.length ≤ 200
  short : ∀ (k : Nat) (h : k < J.length), J[k].after.length ≤ 200
theorem Valid.inR {J : List JobR} (h : Valid J) (k : Nat) : ∀ a ∈ aft J k, okIn J.length a := by
  by_cases hk : k < J.length
  · rw [aft_eq hk]; exact (h.ok k hk).2
  · simp [Go.Proofs.Yticdjkkcfdbdcaa.aft, List.getElem?_eq_none (Nat.le_of_not_lt hk)]
theorem Valid.aft {J : List JobR} (h : Valid J) (k : Nat) : (aft J k).length ≤ 200 := by
  by_cases hk : k < J.length
  · rw [aft_eq hk]; exact h.short k hk
  · simp [Go.Proofs.Yticdjkkcfdbdcaa.aft, List.getElem?_eq_none (Nat.le_of_not_lt hk)]
def fnI (n : Nat) (f : Nat → Int) : List Int := (List.range n).map f
def fnL (n : Nat) (f : Nat → List Int) : List (List Int) := (List.range n).map f
theorem fnL_len (n : Nat) (f : Nat → List Int) : (fnL n f).length = n := by simp [fnL]
theorem fnL_get {n : Nat} {f : Nat → List Int} {k : Nat} (h : k < n) : (fnL n f)[k]? = some (f k) := by simp [fnL, h]
theorem fnI_set {n : Nat} {f g : Nat → Int} {k : Nat} {x : Int} (hx : g k = x) (hg : ∀ j, j < n → j ≠ k → g j = f j) : (fnI n f).set k x = fnI n g := by
  apply List.ext_getElem?
  intro j
  rw [List.getElem?_set]
  by_cases hj : j < n
  · by_cases e : k = j
    · subst e; simp [fnI, hj, hx]
    · simp [fnI, hj, e, hg j hj (fun e' => e e'.symm)]
  · simp [fnI, hj]; omega
theorem fnL_set {n : Nat} {f g : Nat → List Int} {k : Nat} {x : List Int} (hx : g k = x) (hg : ∀ j, j < n → j ≠ k → g j = f j) : (fnL n f).set k x = fnL n g := by
  apply List.ext_getElem?
  intro j
  rw [List.getElem?_set]
  by_cases hj : j < n
  · by_cases e : k = j
    · subst e; simp [fnL, hj, hx]
    · simp [fnL, hj, e, hg j hj (fun e' => e e'.symm)]
  · simp [fnL, hj]; omega
theorem fnI_congr {n : Nat} {f g : Nat → Int} (h : ∀ j, j < n → f j = g j) : fnI n f = fnI n g := List.map_congr_left fun j hj => h j (List.mem_range.1 hj)
theorem fnL_congr {n : Nat} {f g : Nat → List Int} (h : ∀ j, j < n → f j = g j) : fnL n f = fnL n g := List.map_congr_left fun j hj => h j (List.mem_range.1 hj)
/-- What order's memory holds: the counters, the lists of those that wait, the order so far. -/
structure OrdSt (w0 w : World) (n : Nat) (left : Nat → Int) (nxf : Nat → List Int) (vs : List Value) (vout : Value) (out : List Int) : Prop where
  left : Blk w w0.heap.size 3 (ints (fnI n left))
  rows : Rows w (w0.heap.size + 2) (w0.heap.size + 1) 39 3 vs (fnL n nxf)
  out : w.ownsRow (w0.heap.size + 2) 3 1 vout out.length (ints out)
  apart : ∀ (k : Nat) v, vs[k]? = some v → v.ownBlock = none ∨ v.ownBlock ≠ vout.ownBlock
  below : Below w0.heap.size w0 w
section
variable {w0 w w' : World} {n : Nat} {left : Nat → Int} {nxf : Nat → List Int} {vs : List Value} {vout : Value} {out : List Int}
theorem OrdSt.alloc (h : OrdSt w0 w n left nxf vs vout out) (o : Obj) : OrdSt w0 (w.alloc o) n left nxf vs vout out :=
  ⟨h.left.alloc o, h.rows.alloc o, h.out.alloc o, h.apart, h.below.alloc h.below.size o⟩
theorem OrdSt.setLeft (h : OrdSt w0 w n left nxf vs vout out) (k : Nat) (x : Int) {left' : Nat → Int} (hx : left' k = x) (hg : ∀ j, j < n → j ≠ k → left' j = left j) :
    OrdSt w0 (w.setCell ⟨w0.heap.size, k, none⟩ (.int .i64 x)) n left' nxf vs vout out :=
  ⟨by have := h.left.set_ k (.int .i64 x); rwa [ints_set, fnI_set hx hg] at this, h.rows.setLow (p := ⟨w0.heap.size, k, none⟩) (by simp) (by simp) _,
    ownsRow_setCell_below h.out (by simp) _, h.apart, h.below.setCell (by simp) _⟩
theorem OrdSt.leftCell (h : OrdSt w0 w n left nxf vs vout out) {k : Nat} (hk : k < n) : w.cell? ⟨w0.heap.size, k, none⟩ = some (.int .i64 (left k)) := by
  rw [h.left.cell]; simp [ints, fnI, hk]
theorem OrdSt.pushOut (h : OrdSt w0 w n left nxf vs vout out) {v' : Value} {x : Int} (hg : w.grownBy w' vout.ownBlock) (hown : w'.ownsRow (w0.heap.size + 2) 3 1 v' (out.length + 1) (ints out ++ [.int .i64 x]))
    (hat : v'.ownBlock = vout.ownBlock ∨ v'.ownBlock = some w.heap.size) : OrdSt w0 w' n left nxf vs v' (out ++ [x]) := by
  have hlt := fun b (hb : vout.ownBlock = some b) => h.out.lt b hb
  refine ⟨h.left.grown hg (fun e => by have := hlt _ e.symm; omega), h.rows.grown hg (fun e => by have := hlt _ e; omega) h.apart, by simpa [ints] using hown, fun k v hv => ?_,
    h.below.grown hg h.below.size (fun k hk => by have := hlt _ hk; omega)⟩
  rcases hat with e | e
  · rw [e]; exact h.apart k v hv
  · rw [e]
    cases hb : v.ownBlock with
    | none => exact .inl rfl
    | some b => refine .inr fun e' => ?_; have := ownBlock_lt h.rows hv hb; cases e'; omega
theorem OrdSt.pushRow (h : OrdSt w0 w n left nxf vs vout out) {k : Nat} (hk : k < n) {v v' : Value} {x : Int} (hv : vs[k]? = some v) (hg : w.grownBy w' v.ownBlock)
    (hown : w'.ownsRow (w0.heap.size + 2) 3 1 v' ((nxf k).length + 1) (ints (nxf k) ++ [.int .i64 x])) (hat : v'.ownBlock = v.ownBlock ∨ v'.ownBlock = some w.heap.size)
    {nxf' : Nat → List Int} (hx : nxf' k = nxf k ++ [x]) (hne : ∀ j, j < n → j ≠ k → nxf' j = nxf j) :
    OrdSt w0 (w'.setCell ⟨w0.heap.size + 1, k, none⟩ v') n left nxf' (vs.set k v') vout out := by
  have hr := h.rows.put hv (fnL_get hk) hg hown hat
  rw [fnL_set hx hne] at hr
  have hvl := fun b (hb : v.ownBlock = some b) => ownBlock_lt h.rows hv hb
  refine ⟨(h.left.grown hg (fun e => by have := hvl _ e.symm; omega)).far (by simp) _, hr, ownsRow_setCell_below (h.out.kept hg ?_) (by simp) _, fun j u hu => ?_,
    (h.below.grown hg h.below.size (fun b hb => by have := hvl _ hb; omega)).setCell (by simp) _⟩
  · rcases h.apart k v hv with e | e
    · cases hb : vout.ownBlock with
      | none => exact .inl rfl
      | some b => exact .inr (by rw [e]; simp)
    · exact .inr (fun e' => e e'.symm)
  · rw [List.getElem?_set] at hu
    by_cases e : k = j
    · subst e
      split at hu
      · split at hu
        · cases hu
          rcases hat with e | e
          · rw [e]; exact h.apart k v hv
          · rw [e]
            refine .inr fun e' => ?_
            have := h.out.lt _ e'.symm
            omega
        · cases hu
      · rename_i hh; exact absurd rfl hh
    · rw [if_neg e] at hu
      exact h.apart j u hu
end
def OrderPost (w : World) (J : List JobR) (e : Ending) (w' : World) : Prop :=
  ∃ v out, e = .returned (.tuple #[v, .bool (decide (out.length = J.length))]) ∧ Whole J out ∧ w'.ownsRow w.heap.size 3 1 v out.length (ints out) ∧ Below w.heap.size w w'
set_option maxRecDepth 100000 in
set_option maxHeartbeats 2000000 in
theorem order_any (w : World) (B : Nat) (A : Option Addr) (c n : Nat) (J : List JobR) (hR : RdJobs w B A J) (hB : B ≤ w.heap.size) (hn : J.length = n) (hv : Valid J) :
    Calls Try.prog 61 #[.slice A n c] w (OrderPost w J) := by
  have hfew : n ≤ 200 := hn ▸ hv.few
  have Hn := Lib.hid hn; clear hn
  have Hv := Lib.hid hv; clear hv
  have HR := Lib.hid hR; clear hR
  have hmk1 := fun W => run_make_row' (P := Try.prog) 39 3 (.int .i64 0) 8 Try.underlying39 info_int rfl .i64 .i64 n (by omega) (by omega) W
  have hmk2 := fun W => run_make_row' (P := Try.prog) 125 39 (.slice none 0 0) 24 Try.underlying125 info_ints rfl .i64 .i64 n (by omega) (by omega) W
  obtain ⟨i0, hi0, hz0, hz1, hz2⟩ := info_parts info_int
  have Hi0 := Lib.hid (And.intro hi0 (And.intro hz0 (And.intro hz1 hz2))); clear hi0 hz0 hz1 hz2
  go_enter Try.func61, Try.ntmps61
  go_wp2
  have hs0 : OrdSt w ((w.alloc (.cells (madeCells #[.int .i64 0] n) 3)).alloc (.cells (madeCells #[.slice none 0 0] n) 39)) n (fun _ => 0) (fun _ => []) (List.replicate n (.slice none 0 0)) (.slice none 0 0) [] := by
    refine ⟨(Blk.newArr w _ ?_).alloc _, ?_, World.ownsRow_nil _ _ _ _, fun k v hv => ?_, ((Below.refl _ _).alloc (Nat.le_refl _) _).alloc (by simp) _⟩
    · rw [made_one, ← ints_rep]; congr 1; apply List.ext_getElem?; intro j; simp [fnI, List.getElem?_replicate]; split <;> simp_all
    · have : fnL n (fun _ => []) = List.replicate n [] := by apply List.ext_getElem?; intro j; simp [fnL, List.getElem?_replicate]; split <;> simp_all
      rw [this]
      refine Rows.start ?_ (by omega) (by simp)
      have := Blk.newArr (w.alloc (.cells (madeCells #[.int .i64 0] n) 3)) 39 (made_one (.slice none 0 0) n)
      simpa using this
    · rw [List.getElem?_replicate] at hv; split at hv
      · cases hv; exact .inl rfl
      · cases hv
  have Hs0 := Lib.hid hs0; clear hs0
  go_loopg [6, 22] n (fun gk vout i wr => ∃ (k : Nat) (vs : List Value), gk + k = n ∧ i = .int .i64 k ∧
    OrdSt w wr n (fun j => if j < k then ((aft J j).length : Nat) else 0) (fun x => nxTo J x k) vs vout (roots J k))
  case atStart => exact ⟨0, _, by omega, rfl, Hs0.out⟩
  case round =>
    obtain ⟨k, vs, hgk, rfl, hst⟩ := hrel
    by_cases hlt : k < n
    · have hkJ : k < J.length := by have := Hn.out; omega
      obtain ⟨ob, oo, rfl, hob, c0, c1, c2, c3⟩ := (HR.out.below (hst.below.mono hB)).at_ hkJ
      have hl0 := hst.leftCell hlt
      simp only [Nat.lt_irrefl, ↓reduceIte] at hl0
      have hf0 := hst.left.frozen k
      have hz0 := hst.rows.blk.lt
      have hz1 : w.heap.size < wr.heap.size := by omega
      have hz2 : ¬ (w.heap.size = wr.heap.size) := by omega
      have hz3 : ¬ (wr.heap.size = w.heap.size) := by omega
      have Hst := Lib.hid hst; clear hst
      obtain ⟨j, hj⟩ : ∃ j, J[k] = j := ⟨_, rfl⟩
      rw [hj] at c0 c1 c2 c3
      obtain ⟨jl, ju, jn, sA, sc, af⟩ := j
      dsimp only at c0 c1 c2 c3
      have Hj := Lib.hid hj; clear hj
      have hRw : RdJobs wr B (some ⟨ob, oo, none⟩) J := HR.out.below (Hst.out.below.mono hB)
      have hrd := hRw.after k hkJ
      have hin := (Hv.out.ok k hkJ).2
      have hsh := Hv.out.short k hkJ
      rw [Hj.out] at hrd hin hsh
      dsimp only at hrd hin hsh
      rw [Hn.out] at hin
      have haft : aft J k = af := by rw [aft_eq hkJ, Hj.out]
      have Haft := Lib.hid haft; clear haft
      have Hin := Lib.hid hin; clear hin
      have Hrd := Lib.hid hrd; clear hrd
      have hob' : ob < wr.heap.size := by omega
      go_wp2
      have hst1 := (Hst.out.setLeft k (af.length : Nat) (left' := fun j => if j < k + 1 then ((aft J j).length : Nat) else 0) (by simp [Haft.out]) (fun i _ hi => by
        by_cases h : i < k
        · simp [h, show i < k + 1 by omega]
        · simp [h, show ¬ i < k + 1 by omega])).alloc (.cells #[.int .i64 jl, .int .i64 ju, .slice sA af.length sc, .int .i64 jn] 41)
      have Hst1 := Lib.hid hst1; clear hst1
      clear c0 c1 c2 c3 hl0 hf0
      generalize hvo : u6 = vout at *
      obtain ⟨wo, rfl⟩ : ∃ wo : World, wo = wr := ⟨_, rfl⟩
      obtain ⟨go, rfl⟩ : ∃ go : Nat, go = gk := ⟨_, rfl⟩
      go_loopg [36] af.length (fun gq iq wq => ∃ (q : Nat) (vs : List Value), gq + q = af.length ∧ iq = .int .i64 q ∧ OrdSt w wq n (fun j => if j < k + 1 then ((aft J j).length : Nat) else 0) (fun x => nxAt J x k q) vs vout (roots J k))
      case atStart => 
        refine ⟨0, vs, by omega, rfl, ?_⟩
        have := Hst1.out
        simp only [nxAt_zero]
        exact this
      case round =>
        obtain ⟨q, vs', hgq, rfl, hst2⟩ := hrel
        by_cases hq : q < af.length
        · have hrd2 := (HR.out.below (hst2.below.mono hB)).after k hkJ
          rw [Hj.out] at hrd2
          dsimp only at hrd2
          obtain ⟨ab, ao, rfl, _, ca⟩ := hrd2.atMap hq
          obtain ⟨x0, x1⟩ := Hin.out _ (List.getElem_mem hq)
          generalize hx : af[q] = x at *
          obtain ⟨x, rfl⟩ := Int.eq_ofNat_of_zero_le x0
          have hxn : x < n := by omega
          have hlen := length_nxAt J Hv.out.aft x k q
          obtain ⟨v, hv, hcv, hown⟩ := hst2.rows.get (k := x) (by rw [fnL_len]; exact hxn)
          have hgx : (fnL n fun x => nxAt J x k q)[x]'(by rw [fnL_len]; exact hxn) = nxAt J x k q := by simp [fnL]
          rw [hgx] at hown
          have Hlen := Lib.hid hlen; clear hlen
          have Hx := Lib.hid hx; clear hx
          have Hgx := Lib.hid hgx; clear hgx
          have Hv2 := Lib.hid hv; clear hv
          have hz4 := hst2.rows.blk.lt
          have Hst2 := Lib.hid hst2; clear hst2
          clear hrd2 x0 x1
          have hz5 : w.heap.size + 2 ≤ wr.heap.size + 1 := by omega
          go_wp2_with (first
            | (at_builtin
               refine wpList_append_own_at _ rfl (.tmp 45) (.tmp 47) _ rfl (w.heap.size + 2) 3 i0 (.int .i64 0) 1 8 Try.underlying39 Hi0.out.1 Hi0.out.2.1 Hi0.out.2.2.1 Hi0.out.2.2.2 rfl (by decide) v _ (ints (nxAt J x k q)) rfl (hown.alloc _) ⟨wr.heap.size, 0, none⟩ 1 1 [.int .i64 k] rfl rfl (cell_one_new _ _ _) ?_ ?_ ?_ ?_ ?_
               · intro u hu; simp at hu; subst hu; rfl
               · have := Hlen.out; unfold maxLen; omega
               · have := Hlen.out; omega
               · simpa using hz5
               intro v1 w1 hown1 hg1 _ hat1
               obtain ⟨A1, cp1, rfl, _, _⟩ := own_form hown1
               have hb1 := (Hst2.out.rows.alloc (.cells #[.int .i64 k] 3)).blk.grown hg1 (fun e => by have := ownBlock_lt Hst2.out.rows Hv2.out e.symm; omega)
               have hc1 := hb1.cell x
               rw [Hv2.out] at hc1
               have hf1 := hb1.frozen x
               have Hb1 := Lib.hid hb1
               clear hb1))
          have hpush := (Hst2.out.alloc (.cells #[.int .i64 k] 3)).pushRow hxn Hv2.out hg1 hown1 hat1 (nxf' := fun x => nxAt J x k (q + 1))
            (nxAt_succ_eq J x k q (by rw [Haft.out]; exact hq) (by rw [List.getElem_of_eq Haft.out]; exact Hx.out))
            (fun y _ hy => nxAt_succ_ne J y k q (by rw [Haft.out]; exact hq) (by rw [List.getElem_of_eq Haft.out, Hx.out]; omega))
          go_roundg (gk - 1)
          case measure => omega
          case rel => exact ⟨q + 1, _, by omega, by go_num, hpush⟩
        · have hqe : q = af.length := by omega
          have hst3 : OrdSt w wr n (fun j => if j < k + 1 then ((aft J j).length : Nat) else 0) (fun x => nxTo J x (k + 1)) vs' vout (roots J k) := by
            have h := hst2
            simp only [fun x => nxAt_full J x k q (by rw [Haft.out]; omega)] at h
            exact h
          clear hst2 hqe
          have hl3 := hst3.leftCell hlt
          simp only [Nat.lt_succ_self, ↓reduceIte, Haft.out] at hl3
          have Hst3 := Lib.hid hst3; clear hst3
          by_cases he : af.length = 0
          · have Hroot : Hid (aft J k = []) := by have h := Haft.out; rw [List.eq_nil_of_length_eq_zero he] at h; exact h
            have hlen := length_roots J k
            have Hlen := Lib.hid hlen; clear hlen
            have hz6 : w.heap.size + 2 ≤ wr.heap.size + 1 := by have := Hst3.out.rows.bound; omega
            have hown := Hst3.out.out
            rw [he] at hl3
            go_wp2_with (first
              | (at_builtin
                 refine wpList_append_own_at _ rfl (.tmp 56) (.tmp 58) _ rfl (w.heap.size + 2) 3 i0 (.int .i64 0) 1 8 Try.underlying39 Hi0.out.1 Hi0.out.2.1 Hi0.out.2.2.1 Hi0.out.2.2.2 rfl (by decide) vout _ (ints (roots J k)) rfl (hown.alloc _) ⟨wr.heap.size, 0, none⟩ 1 1 [.int .i64 k] rfl rfl (cell_one_new _ _ _) ?_ ?_ ?_ ?_ ?_
                 · intro u hu; simp at hu; subst hu; rfl
                 · have := Hlen.out; unfold maxLen; omega
                 · have := Hlen.out; omega
                 · simpa using hz6
                 intro v1 w1 hown1 hg1 _ hat1))
            have hpush := (Hst3.out.alloc (.cells #[.int .i64 k] 3)).pushOut hg1 hown1 hat1
            go_roundg (go - 1)
            case measure => omega
            case rel => exact ⟨k + 1, _, by omega, by go_num, by rw [roots_t Hroot.out]; exact hpush⟩
          · have Hroot : Hid (aft J k ≠ []) := by intro e; rw [Haft.out] at e; subst e; exact he rfl
            go_wp2
            go_roundg (go - 1)
            case measure => omega
            case rel => exact ⟨k + 1, _, by omega, by go_num, by rw [roots_f Hroot.out]; exact Hst3.out⟩
    · have hkn : k = n := by omega
      have hst0 : OrdSt w wr n (fun j => (cntU J [] j : Nat)) (nx J) vs u6 (roots J J.length) := by
        have h := hst
        have e : J.length = k := by have := Hn.out; omega
        refine ⟨?_, ?_, by rw [e]; exact h.out, h.apart, h.below⟩
        · have := h.left
          rwa [fnI_congr (g := fun j => ((cntU J [] j : Nat) : Int)) (fun j hj => by simp [cntU_nil, show j < k by omega])] at this
        · have := h.rows
          rwa [fnL_congr (g := nx J) (fun j hj => by rw [nx, e])] at this
      have Hst0 := Lib.hid hst0; clear hst0 hst hkn
      have hou := Outer.start J (roots_in J)
      have Hou := Lib.hid hou; clear hou
      clear Hs0
      go_wp2
      go_loopg [6, 11] n (fun gk vout i wr => ∃ (k : Nat) (vs : List Value) (out : List Int), gk + k = n ∧ i = .int .i64 k ∧ Outer J k out ∧
        OrdSt w wr n (fun j => (cntU J (out.take k) j : Nat)) (nx J) vs vout out)
      case atStart => exact ⟨0, vs, roots J J.length, by omega, rfl, Hou.out, by rw [List.take_zero]; exact Hst0.out⟩
      case round =>
        obtain ⟨k', vs1, out, hgk', rfl, hou, hst⟩ := hrel
        obtain ⟨A1, cp1, rfl, hcp1, hcp1'⟩ := own_form hst.out
        have hol := hou.ord.length_le
        rw [Hn.out] at hol
        unfold maxLen at hcp1'
        by_cases hko : k' < out.length
        · obtain ⟨ob, oo, rfl, _, co⟩ := (rd_own hst.out).atMap hko
          obtain ⟨x0, x1⟩ := hou.ord.inR _ (List.getElem_mem hko)
          rw [Hn.out] at x1
          generalize hx : out[k'] = x at *
          obtain ⟨x, rfl⟩ := Int.eq_ofNat_of_zero_le x0
          have hxn : x < n := by omega
          obtain ⟨v, hv, hcv, hown⟩ := hst.rows.get (k := x) (by rw [fnL_len]; exact hxn)
          have hgx : (fnL n (nx J))[x]'(by rw [fnL_len]; exact hxn) = nx J x := by simp [fnL]
          rw [hgx] at hown
          have hlen := length_nx J Hv.out.aft x
          rw [Hn.out] at hlen
          obtain ⟨A2, cp2, rfl, hcp2, hcp2'⟩ := own_form hown
          unfold maxLen at hcp2'
          have hmid := hou.mid hko hx
          have Hmid := Lib.hid hmid; clear hmid
          have Hx := Lib.hid hx; clear hx
          have Hgx := Lib.hid hgx; clear hgx
          have Hv2 := Lib.hid hv; clear hv
          have Hst := Lib.hid hst; clear hst
          have Hou := Lib.hid hou; clear hou
          clear hown
          go_wp2
          obtain ⟨wo, rfl⟩ : ∃ wo : World, wo = wr := ⟨_, rfl⟩
          obtain ⟨go, rfl⟩ : ∃ go : Nat, go = gk := ⟨_, rfl⟩
          go_loopg [6, 75] (nx J x).length (fun gk vout i wr => ∃ (m : Nat) (out' : List Int), gk + m = (nx J x).length ∧ i = .int .i64 m ∧ Mid J (out.take k') x m out' ∧
            OrdSt w wr n (Lf J (out.take k') x m) (nx J) vs1 vout out')
          case atStart => exact ⟨0, out, by omega, rfl, Hmid.out, by have h := Hst.out; rwa [show (fun j => ((cntU J (out.take k') j : Nat) : Int)) = Lf J (out.take k') x 0 from funext fun j => (Lf_zero J _ x j).symm] at h⟩
          case round =>
            obtain ⟨m, out', hgm, rfl, hmid, hst⟩ := hrel
            by_cases hm : m < (nx J x).length
            · obtain ⟨v3, hv3, hcv3, hown3⟩ := hst.rows.get (k := x) (by rw [fnL_len]; exact hxn)
              rw [Hgx.out] at hown3
              obtain rfl : Value.slice A2 (nx J x).length cp2 = v3 := by have := Hv2.out; rw [this] at hv3; injection hv3
              obtain ⟨rb, ro, rfl, _, cr⟩ := (rd_own hown3).atMap hm
              obtain ⟨j, hj, hjk⟩ := mem_nxTo (List.getElem_mem (l := nx J x) hm)
              have hjJ : j < J.length := hjk
              have hjn : j < n := by have := Hn.out; omega
              rw [hj] at cr
              have hlc := hst.leftCell hjn
              have hlp := Lf_pos hmid.new hjJ hm hj
              have hcu : Lf J (out.take k') x m j ≤ 200 := by
                have := List.countP_le_length (p := fun a => !(out.take k').contains a) (l := aft J j)
                have := Hv.out.aft j
                simp only [Lf, cntU]
                omega
              have hfz := hst.left.frozen j
              have hol' := hmid.ord.length_le
              rw [Hn.out] at hol'
              have hown' := hst.out
              have hbd := hst.rows.bound
              have hz1 : w.heap.size < wr.heap.size := by omega
              have hz4 : w.heap.size + 2 ≤ wr.heap.size + 1 := by omega
              have Hj := Lib.hid hj; clear hj
              have Hmid2 := Lib.hid hmid; clear hmid
              have Hst2 := Lib.hid hst; clear hst
              obtain ⟨L, hL⟩ : ∃ L, Lf J (out.take k') x m j = L := ⟨_, rfl⟩
              rw [hL] at hlc hlp hcu
              have HL := Lib.hid hL; clear hL
              clear hv3 hown3
              by_cases hz : L - 1 = 0
              · have hz' : L = 1 := by omega
                subst hz'
                clear hz hcu hlp
                go_wp2_with (first
                  | (at_builtin
                     refine wpList_append_own_at _ rfl (.tmp 90) (.tmp 92) _ rfl (w.heap.size + 2) 3 i0 (.int .i64 0) 1 8 Try.underlying39 Hi0.out.1 Hi0.out.2.1 Hi0.out.2.2.1 Hi0.out.2.2.2 rfl (by decide) u6 out'.length (ints out') rfl ((ownsRow_setCell_below hown' (by simp) _).alloc _) ⟨wr.heap.size, 0, none⟩ 1 1 [.int .i64 j] rfl rfl ?_ ?_ ?_ ?_ ?_ ?_
                     · have := cell_one_new (wr.setCell ⟨w.heap.size, j, none⟩ (.int .i64 0)) (.int .i64 j) 3
                       simpa using this
                     · intro u hu; simp at hu; subst hu; rfl
                     · unfold maxLen; omega
                     · omega
                     · simpa using hz4
                     intro v1 w1 hown1 hg1 _ hat1))
                have hset := Hst2.out.setLeft j 0 (left' := Lf J (out.take k') x (m + 1)) (by rw [Lf_eq hm Hj.out, HL.out]; rfl) (fun y _ hy => Lf_ne hm Hj.out hy)
                have hat1' : v1.ownBlock = u6.ownBlock ∨ v1.ownBlock = some (((wr.setCell ⟨w.heap.size, j, none⟩ (.int .i64 0)).alloc (.cells #[.int .i64 j] 3)).heap.size) := by simpa using hat1
                have hpush := (hset.alloc (.cells #[.int .i64 j] 3)).pushOut hg1 hown1 hat1'
                go_roundg (gk - 1)
                case measure => omega
                case rel => exact ⟨m + 1, _, by omega, by go_num, Hmid2.out.push hm Hj.out (by rw [HL.out]; rfl) hjJ, hpush⟩
              · have hset := Hst2.out.setLeft j (L - 1) (left' := Lf J (out.take k') x (m + 1)) (by rw [Lf_eq hm Hj.out, HL.out]) (fun y _ hy => Lf_ne hm Hj.out hy)
                have Hset := Lib.hid hset; clear hset
                go_wp2
                go_roundg (gk - 1)
                case measure => omega
                case rel => exact ⟨m + 1, _, by omega, by go_num, Hmid2.out.keep hm Hj.out (by rw [HL.out]; exact hz) hjJ, Hset.out⟩
            · have hmm : (nx J x).length ≤ m := by omega
              have hou2 := hmid.outer hmm
              have hkl : (out.take k').length = k' := by rw [List.length_take]; omega
              rw [hkl] at hou2
              have hpre := hmid.pre
              rw [hkl] at hpre
              have hst4 : OrdSt w wr n (fun j => ((cntU J (out'.take (k' + 1)) j : Nat) : Int)) (nx J) vs1 u6 out' := by
                refine ⟨?_, hst.rows, hst.out, hst.apart, hst.below⟩
                have h := hst.left
                rwa [fnI_congr (g := fun j => ((cntU J (out'.take (k' + 1)) j : Nat) : Int)) (fun y hy => by rw [hpre]; exact Lf_end hmid.new hmm (by rw [Hn.out]; exact hy))] at h
              have Hou2 := Lib.hid hou2; clear hou2
              have Hst4 := Lib.hid hst4; clear hst4 hst hmid hpre hkl
              go_wp2
              go_roundg (go - 1)
              case measure => omega
              case rel => exact ⟨k' + 1, _, _, by omega, by go_num, Hou2.out, Hst4.out⟩
        · have hwh := hou.finish Hv.out.inR (by omega)
          have Hwh := Lib.hid hwh; clear hwh
          have Hst := Lib.hid hst; clear hst
          by_cases he : out.length = n
          · have he' : ((out.length : Int) == (n : Int)) = true := beq_iff_eq.2 (by omega)
            have e : decide (out.length = J.length) = true := decide_eq_true (by rw [Hn.out]; exact he)
            have He := Lib.hid e; clear e
            go_wp2
            go_ret2
            refine ⟨_, out, ?_, Hwh.out, Hst.out.out.weaken (by omega), Hst.out.below⟩
            rw [He.out]
            rfl
          · have he' : ((out.length : Int) == (n : Int)) = false := beq_eq_false_iff_ne.2 (by omega)
            have e : decide (out.length = J.length) = false := decide_eq_false (by rw [Hn.out]; exact he)
            have He := Lib.hid e; clear e
            go_wp2
            go_ret2
            refine ⟨_, out, ?_, Hwh.out, Hst.out.out.weaken (by omega), Hst.out.below⟩
            rw [He.out]
            rfl
end Go.Proofs.Yticdjkkcfdbdcaa
