/- The fork and the join of phase.Run, told of the lone world. No conditions but those named. -/
import Derived.Test.YticdjkkcfdbdcaaPhT
namespace Go.Proofs.Yticdjkkcfdbdcaa
open Go.Conc Go.ConcN Go.RowKit
def putL (ts : List Nat) (x : Nat → Value) (a : Act) : Act := ts.foldl (fun a t => a.put (some t) (x t)) a
theorem putL_size (x : Nat → Value) : ∀ (ts : List Nat) (a : Act), (putL ts x a).tmps.size = a.tmps.size
  | [], _ => rfl
  | t :: ts, a => (putL_size x ts _).trans (put_size _ _ _)
theorem putL_defers (x : Nat → Value) : ∀ (ts : List Nat) (a : Act), (putL ts x a).defers = a.defers
  | [], _ => rfl
  | t :: ts, a => (putL_defers x ts _).trans rfl
theorem putL_eval (x : Nat → Value) {i : Nat} : ∀ (ts : List Nat) (a : Act), i < a.tmps.size → (putL ts x a).eval (.tmp i) = if i ∈ ts then x i else a.eval (.tmp i)
  | [], _, _ => rfl
  | t :: ts, a, hi => by
    have := putL_eval x ts (a.put (some t) (x t)) (by rw [put_size]; exact hi)
    show (putL ts x (a.put (some t) (x t))).eval (.tmp i) = _
    rw [this]
    by_cases h1 : i ∈ ts
    · rw [if_pos h1, if_pos (List.mem_cons_of_mem _ h1)]
    · rw [if_neg h1]
      by_cases h2 : t = i
      · subst h2
        rw [if_pos (List.mem_cons_self ..), eval_put_eq _ hi]
      · rw [if_neg (by intro h; rcases List.mem_cons.1 h with h | h; exact h2 h.symm; exact h1 h), eval_put_ne _ h2]
theorem eval_of {a : Act} {i : Nat} {v : Value} (h : a.tmps[i]? = some v) : a.eval (.tmp i) = v := by
  show a.tmps.getD i undef = v
  rw [Array.getD_eq_getD_getElem?, h]
  rfl
section
variable {Post : Value → World → Prop} {n0 : Nat} {W0 : World} {L : World} {B base gl cL bL cap m n c8 : Nat} {l : List PL} {items : Array Value} {bs : List Nat} {r22 r23 rT rA rG rI rW : Array Oper} {rest : Code} {fn : FuncId} {Q : Exit → Act → World → Prop} {a : Act}
set_option maxRecDepth 100000 in
theorem m_fork (z22 : r22.size = 1) (T22 : OpIs r22 0 (.alloc 114) (some 12)) (z23 : r23.size = 2) (T23 : OpIs r23 0 (.move (.tmp 1)) (some 71)) (T23' : OpIs r23 1 (.move (.const (.int .i64 0))) (some 72))
    (T : SpawnT 49 rT rA rG rI rW 12 71 72 73 74 75 76 77 #[.tmp 12, .tmp 10]) (hm : 1 ≤ m ∧ m ≤ 16) (az : a.tmps.size = 130) (t1 : a.eval (.tmp 1) = .int .i64 m) (t8 : a.eval (.tmp 8) = .slice (some ⟨gl, 0, none⟩) n c8) (t10 : a.eval (.tmp 10) = .pointer (some ⟨bL, 0, none⟩))
    (hL : Lies L B base gl l) (hnil : ∀ x ∈ l, x.p.sends = [] ∧ x.sA = none ∧ x.sc = 0 ∧ x.p.come.length ≤ 1000000) {tb : TypeId} (hbL : L.heap[bL]? = some (.cells #[.chan (some cL)] tb (0, 0))) (htb : Try.prog.info? tb ≠ none) (hbg : bL ≠ gl)
    (hcL : L.heap[cL]? = some (.chan cap items true items.size 0 false)) (hbs : bs.length = items.size) (hit : ∀ r, r < bs.length → items[r]? = some (.pointer (some ⟨gl, bs.getD r 0 * 4, none⟩))) (hnd : bs.Nodup) (hbi : ∀ j, j ∈ bs ↔ ∃ h : j < l.length, l[j].p.todo ≠ [])
    (hn : ∀ (x : Nat → Value) l' L', Lies L' B base gl l' → l'.map (·.p) = l.map (fun x => ranP x.p) → L.heap.size ≤ L'.heap.size → (∀ b, b < L.heap.size → b ≠ gl → b ≠ cL → L'.heap[b]? = L.heap[b]?) →
      Mp (InV phL phV) Try.prog (fun k g w => Win Try.prog Post n0 W0 k g w) fn rest false Q (putL [12, 71, 72, 73, 74, 75, 76, 77] x a) L') :
    Mp (InV phL phV) Try.prog (fun k g w => Win Try.prog Post n0 W0 k g w) fn (.seq (.region 22 r22 false) (.seq (.seq (.region 23 r23 false) (.block 6 (.loop (spawnC 24 25 26 27 7 6 rT rA rG rI 73)))) (.seq (.region 28 rW false) rest))) false Q a L := by
  intro b' K' base0 ρ k W a' h1 h2 h3 h4 h5
  have hk : b'.kind ≠ .early := by rw [h2]; simp
  have hJ : JOk Try.prog true _ _ := win_jok (P := Try.prog) (Post := Post) (n0 := n0) (W0 := W0)
  refine win_pre fun hO hmem => ?_
  -- names
  have vp8 := h4.eval.1 (.tmp 8) trivial
  have vp10 := h4.eval.1 (.tmp 10) trivial
  have vp1 := h4.eval.1 (.tmp 1) trivial
  rw [t8] at vp8
  rw [t10] at vp10
  rw [t1] at vp1
  have hgl : ∃ c, ρ gl = some c := by
    generalize a'.eval (.tmp 8) = v at vp8
    cases vp8 with
    | slice hA _ _ => obtain ⟨_, c, s, h6, _⟩ := hA; exact ⟨_, h6⟩
  obtain ⟨lb, hW⟩ := hL.inW h3 hgl
  obtain ⟨bx, hbx, hbnc, e10⟩ : ∃ bx, ρ bL = some (bx, 0) ∧ ¬ ρ.isChan bL ∧ a'.eval (.tmp 10) = .pointer (some ⟨bx, 0, none⟩) := by
    generalize a'.eval (.tmp 10) = v at vp10
    cases vp10 with
    | ptr hA =>
      obtain ⟨⟨_, hnc⟩, c, s, h6, rfl⟩ := hA
      obtain ⟨rfl, _⟩ := h3.row h6 hbL htb
      exact ⟨c, h6, hnc, rfl⟩
  obtain ⟨_, _, hbrow⟩ := h3.row hbx hbL htb
  obtain ⟨vc, g1, g2, g3, _⟩ := hbrow 0 (.chan (some cL)) rfl
  obtain ⟨c, hcρ, rfl⟩ : ∃ c, ρ cL = some (c, 0) ∧ vc = .chan (some c) := by
    cases g2 with
    | chan h => exact ⟨_, h, rfl⟩
  have e1 : a'.eval (.tmp 1) = .int .i64 m := vr_int vp1
  obtain ⟨items', q1, q2, q3⟩ := h3.wr.chans _ _ _ _ _ _ _ _ _ hcρ hcL
  have hit' : ∀ r, r < bs.length → items'.getD r undef = .pointer (some ⟨lb, bs.getD r 0 * 4, none⟩) := fun r hr => by
    have hr' : r < items'.size := by rw [← q2.1]; omega
    have := q2.2 r _ _ (hit r hr) (Array.getElem?_eq_getElem hr')
    rw [Array.getD_eq_getD_getElem?, Array.getElem?_eq_getElem hr']
    generalize items'[r] = v at this
    cases this with
    | ptr hA =>
      obtain ⟨_, c', s', h6, rfl⟩ := hA
      have := hW.at_
      rw [show ρ gl = some (c', s') from h6] at this
      cases this
      simp
  rw [q2.1] at q1
  have hbcell : L.cell? ⟨bL, 0, none⟩ = some (.chan (some cL)) := by simp [World.cell?, hbL]
  have hbf := hW.far h3 hL hbx hbg hbcell
  have az' : a'.tmps.size = 130 := by rw [← h4.tmps.1]; exact az
  -- the group
  obtain ⟨o0, ho0, hop0, hg0, hd0⟩ := T22
  obtain ⟨o1, ho1, hop1, hg1, hd1⟩ := T23
  obtain ⟨o2, ho2, hop2, hg2, hd2⟩ := T23'
  refine js_seq hJ _ AtW.r (fun k1 w1 hS => j_ctl hJ (fun w => stepG_region) fun w₁ hR => ?_) (AtW.self k W)
  replace hS := AtW.r _ _ _ hS hR
  clear hR w1
  rw [z22, show List.range 1 = [0] from rfl]
  refine js_new hJ _ AtW.r hk ho0 (yld hg0 _) (fun w => run_allocWg _ _ hop0 w) (fun k2 w2 hS => ?_) hS
  obtain ⟨rfl, d, rfl⟩ := hS
  rw [hd0]
  refine js_regend hJ _ AtW.r (fun k1 w1 hS => js_seq hJ _ AtW.r (fun k1 w1 hS => js_seq hJ _ AtW.r (fun k1 w1 hS => j_ctl hJ (fun w => stepG_region) fun w₁ hR => ?_) hS) hS) (AtW.self _ _)
  replace hS := AtW.r _ _ _ hS hR
  clear hR w1
  rw [z23, show List.range 2 = [0, 1] from rfl]
  have x12 : (a'.put (some 12) (.pointer (some ⟨W.heap.size, 0, none⟩))).eval (.tmp 12) = .pointer (some ⟨W.heap.size, 0, none⟩) := eval_put_eq _ (by rw [az']; decide) _
  have xo : ∀ t, t ≠ 12 → (a'.put (some 12) (.pointer (some ⟨W.heap.size, 0, none⟩))).eval (.tmp t) = a'.eval (.tmp t) := fun t ht => eval_put_ne _ (fun e => ht e.symm) _
  have xz : (a'.put (some 12) (.pointer (some ⟨W.heap.size, 0, none⟩))).tmps.size = 130 := (put_size _ _ _).trans az'
  have xd : (a'.put (some 12) (.pointer (some ⟨W.heap.size, 0, none⟩))).defers = [] := h4.d'
  rw [show (W.at d).heap.size = W.heap.size from rfl] at hS ⊢
  generalize a'.put (some 12) (.pointer (some ⟨W.heap.size, 0, none⟩)) = a1 at x12 xo xz xd ⊢
  refine j_val hJ _ AtW.r hk ho1 (yld hg1 _) (fun k w hS => opv_move (x := .tmp 1) (.inl hop1)) (fun k3 w3 hS => ?_) hS
  rw [hd1, xo 1 (by decide), e1]
  have y71 : (a1.put (some 71) (.int .i64 m)).eval (.tmp 71) = .int .i64 m := eval_put_eq _ (by rw [xz]; decide) _
  have y12 : (a1.put (some 71) (.int .i64 m)).eval (.tmp 12) = .pointer (some ⟨W.heap.size, 0, none⟩) := (eval_put_ne _ (by decide) _).trans x12
  have yo : ∀ t, t ≠ 12 → t ≠ 71 → (a1.put (some 71) (.int .i64 m)).eval (.tmp t) = a'.eval (.tmp t) := fun t ht ht' => (eval_put_ne _ (fun e => ht' e.symm) _).trans (xo t ht)
  have yz : (a1.put (some 71) (.int .i64 m)).tmps.size = 130 := (put_size _ _ _).trans xz
  have yd : (a1.put (some 71) (.int .i64 m)).defers = [] := xd
  generalize a1.put (some 71) (.int .i64 m) = a2 at y71 y12 yo yz yd ⊢
  refine j_val hJ _ AtW.r hk ho2 (yld hg2 _) (fun k w hS => opv_move (x := .const (.int .i64 0)) (.inl hop2)) (fun k3 w3 hS => ?_) hS
  rw [hd2, show a2.eval (.const (.int .i64 0)) = .int .i64 ((0 : Nat) : Int) from rfl]
  have u72 : (a2.put (some 72) (.int .i64 ((0 : Nat) : Int))).eval (.tmp 72) = .int .i64 ((0 : Nat) : Int) := eval_put_eq _ (by rw [yz]; decide) _
  have u71 : (a2.put (some 72) (.int .i64 ((0 : Nat) : Int))).eval (.tmp 71) = .int .i64 m := (eval_put_ne _ (by decide) _).trans y71
  have u12 : (a2.put (some 72) (.int .i64 ((0 : Nat) : Int))).eval (.tmp 12) = .pointer (some ⟨W.heap.size, 0, none⟩) := (eval_put_ne _ (by decide) _).trans y12
  have uo : ∀ t, t ≠ 12 → t ≠ 71 → t ≠ 72 → (a2.put (some 72) (.int .i64 ((0 : Nat) : Int))).eval (.tmp t) = a'.eval (.tmp t) := fun t ht ht' ht2 => (eval_put_ne _ (fun e => ht2 e.symm) _).trans (yo t ht ht')
  have uz : (a2.put (some 72) (.int .i64 ((0 : Nat) : Int))).tmps.size = 130 := (put_size _ _ _).trans yz
  have ud : (a2.put (some 72) (.int .i64 ((0 : Nat) : Int))).defers = [] := yd
  generalize a2.put (some 72) (.int .i64 ((0 : Nat) : Int)) = a3 at u72 u71 u12 uo uz ud ⊢
  refine js_regend hJ _ AtW.r (fun k1 w1 hS => js_block hJ _ AtW.r (fun k1 w1 hS => js_loop hJ _ AtW.r (fun k1 w1 hS => ?_) hS) hS) hS
  obtain ⟨rfl, d', rfl⟩ := hS
  refine ph_fork h3 hL hW hnil q1 q3 g1 g3 hbf (by rw [hbs, q2.1]) hnd (fun j hj => (hbi j).1 hj) hit' T hm rfl uz ud u12 u71 u72 ((uo 10 (by decide) (by decide) (by decide)).trans e10) hk hmem fun aE w2 k' z1 z2 z3 z4 hrel hkW hkR hkN hno hdone => ?_
  obtain ⟨ρ', l', L', nb, hsub, hm', hl', hmap, hLz, hold, hnb, hnbc⟩ := ph_join h3 hL hW hnil (fun j h h' => (hbi j).2 ⟨h, h'⟩) (fun j hj => (hbi j).1 hj) rfl hcL hcρ hmem hrel hkW hkR hkN (by rw [← q2.1] at hno; exact hno) hdone
  have vOld : ∀ t, t ∉ [12, 71, 72] → VR (InV phL phV) ρ' (a.eval (.tmp t)) (a3.eval (.tmp t)) := fun t ht => by
    simp only [List.mem_cons, List.not_mem_nil, or_false, not_or] at ht
    rw [uo t ht.1 ht.2.1 ht.2.2]
    exact (h4.eval.1 (.tmp t) trivial).sub hsub
  have vAll : ∀ t, ∃ v, VR (InV phL phV) ρ' v (aE.eval (.tmp t)) := fun t => by
    have hnbr : VR (InV phL phV) ρ' (.pointer (some ⟨nb, 0, none⟩)) (.pointer (some ⟨W.heap.size, 0, none⟩)) := .ptr ⟨⟨rfl, hnbc⟩, _, _, hnb, rfl⟩
    have hbxr : VR (InV phL phV) ρ' (.pointer (some ⟨bL, 0, none⟩)) (.pointer (some ⟨bx, 0, none⟩)) := (VR.ptr ⟨⟨rfl, hbnc⟩, _, _, hbx, rfl⟩ : VR (InV phL phV) ρ _ _).sub hsub
    rcases z4 t with e | ⟨x, e⟩ | ⟨x, e⟩ | e | e
    · rw [e]
      by_cases ht : t ∈ [12, 71, 72]
      · simp only [List.mem_cons, List.not_mem_nil, or_false] at ht
        rcases ht with rfl | rfl | rfl
        · rw [u12]; exact ⟨_, hnbr⟩
        · rw [u71]; exact ⟨_, .int _ _⟩
        · rw [u72]; exact ⟨_, .int _ _⟩
      · exact ⟨_, vOld t ht⟩
    · rw [e]; exact ⟨_, .bool _⟩
    · rw [e]; exact ⟨_, .int _ _⟩
    · rw [e]; exact ⟨_, .tuple (x := #[]) rfl fun i v v' h => by simp at h⟩
    · rw [e]
      refine ⟨.func (.func 49) #[] #[.pointer (some ⟨nb, 0, none⟩), .pointer (some ⟨bL, 0, none⟩)], .func (by unfold InV phL phV; decide) rfl (fun i v v' h => by simp at h) rfl fun i v v' h h' => ?_⟩
      match i, h, h' with
      | 0, h, h' => simp at h h'; subst h h'; exact hnbr
      | 1, h, h' => simp at h h'; subst h h'; exact hbxr
      | i + 2, h, _ => simp at h
  obtain ⟨x, hx⟩ := Classical.axiomOfChoice vAll
  refine hn x l' L' hl' hmap hLz hold b' K' base0 ρ' k' w2 aE h1 h2 hm' ⟨⟨?_, fun i v v' hv hv' => ?_⟩, ?_, z2⟩ (h5.at hsub fun e => by cases e)
  · rw [putL_size, az, z1]
  · have hi : i < a.tmps.size := by have := (Array.getElem?_eq_some_iff.1 hv).1; rwa [putL_size] at this
    have e1 := putL_eval x [12, 71, 72, 73, 74, 75, 76, 77] a hi
    rw [eval_of hv] at e1
    have e2 := eval_of hv'
    rw [e1, ← e2]
    by_cases ht : i ∈ [12, 71, 72, 73, 74, 75, 76, 77]
    · rw [if_pos ht]; exact hx i
    · rw [if_neg ht, z3 i (fun h => by simp only [List.mem_cons, List.not_mem_nil, or_false] at h; rcases h with rfl | rfl | rfl | rfl | rfl | rfl <;> exact ht (by decide))]
      exact vOld i fun h => by simp only [List.mem_cons, List.not_mem_nil, or_false] at h; rcases h with rfl | rfl | rfl <;> exact ht (by decide)
  · rw [putL_defers]; exact h4.d
end
end Go.Proofs.Yticdjkkcfdbdcaa
