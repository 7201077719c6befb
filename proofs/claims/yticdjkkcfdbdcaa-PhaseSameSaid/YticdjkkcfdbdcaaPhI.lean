/- The fork of phase.Run, goroutine 0 beside leavers. No conditions but those named. -/
import Derived.Test.YticdjkkcfdbdcaaPhH
namespace Go.Proofs.Yticdjkkcfdbdcaa
open Go.Conc Go.ConcN Go.RowKit
/-- An item's cells. -/
def PhIt (lb : Nat) (bs : List Nat) (r : Nat) : Loc → Prop := ItemIs lb (bs.getD r 0 * 4)
/-- What stands meanwhile. -/
def PhX (N wg c lb : Nat) (bs : List Nat) (l : Loc) : Prop := MemLoc N l ∧ ¬ WgLoc wg l ∧ l ≠ .obj wg ∧ l ≠ .obj c ∧ ∀ r, r < bs.length → ¬ PhIt lb bs r l
/-- What is known of an item that was done. -/
def PhQr (ρ : Ren) (l : List PL) (N lb : Nat) (bs : List Nat) (r : Nat) (k : LK) (w : World) : Prop :=
  ∃ x tb tO cW cc, l[bs.getD r 0]? = some x ∧ VR (InV phL phV) ρ (.slice x.tA x.p.todo.length x.tc) (.slice (some ⟨tb, tO, none⟩) x.p.todo.length x.tc) ∧ VR (InV phL phV) ρ x.cv (.slice cW x.p.come.length cc) ∧ PhQ N lb (bs.getD r 0 * 4) x.p (some ⟨tb, tO, none⟩) cW x.tc cc k w
theorem PhIt.form {lb : Nat} {bs : List Nat} {r : Nat} {l : Loc} (h : PhIt lb bs r l) : ∃ i, l = .cell ⟨lb, i, none⟩ := by obtain ⟨i, _, e⟩ := h; exact ⟨_, e⟩
theorem run_allocWg (e : Operand → Value) (o : Oper) (hop : o.op = .alloc 114) (w : World) : (execOp e o).runT Try.prog w #[] = (.ok (.value (.pointer (some ⟨w.heap.size, 0, none⟩))) { w with heap := w.heap.push (.cells #[.int .u64 0, .int .u32 0] 114) }, #[]) := by
  simp [go_sem, hop, execOp]
section
variable {Post : Value → World → Prop} {n0 : Nat} {W0 : World} {ρ : Ren} {k : LK} {L W w1 : World} {B base gl lb c cap bx m : Nat} {l : List PL} {items : Array Value} {bs : List Nat} {rT rA rG rI rW : Array Oper} {rest : Code} {b : Frame} {K : List Item} {cs : List Frame} {a : Act}
set_option maxRecDepth 100000 in
theorem ph_fork (hM : Mir (InV phL phV) Try.prog ρ k L W) (hL : Lies L B base gl l) (hW : LiesW (InV phL phV) ρ k W gl lb l) (hnil : ∀ x ∈ l, x.p.sends = [] ∧ x.sA = none ∧ x.sc = 0 ∧ x.p.come.length ≤ 1000000)
    (hch : W.heap[c]? = some (.chan cap items true items.size 0 false)) (hkc : k.W (.obj c)) (hbx : W.cell? ⟨bx, 0, none⟩ = some (.chan (some c))) (hbk : Lik k ⟨bx, 0, none⟩) (hbf : ∀ i, i < (cellsP l).length → (⟨bx, 0, none⟩ : Addr) ≠ ⟨lb, i, none⟩)
    (hbs : bs.length = items.size) (hnd : bs.Nodup) (hbusy : ∀ j ∈ bs, ∃ h : j < l.length, l[j].p.todo ≠ []) (hit : ∀ r, r < bs.length → items.getD r undef = .pointer (some ⟨lb, bs.getD r 0 * 4, none⟩))
    (T : SpawnT 49 rT rA rG rI rW 12 71 72 73 74 75 76 77 #[.tmp 12, .tmp 10]) (hm : 1 ≤ m ∧ m ≤ 16) (hh : w1.heap = W.heap.push (.cells #[.int .u64 0, .int .u32 0] 114))
    (az : a.tmps.size = 130) (ad : a.defers = []) (t12 : a.eval (.tmp 12) = .pointer (some ⟨W.heap.size, 0, none⟩)) (t71 : a.eval (.tmp 71) = .int .i64 m) (t72 : a.eval (.tmp 72) = .int .i64 (0 : Nat)) (t10 : a.eval (.tmp 10) = .pointer (some ⟨bx, 0, none⟩)) (hb : b.kind ≠ .early) (hk : ∀ l, k.W l ∨ k.R l → MemLoc W.heap.size l)
    (hend : ∀ aE w2 k', aE.tmps.size = 130 → aE.defers = [] → (∀ t, t ∉ [73, 74, 75, 76, 72, 77] → aE.eval (.tmp t) = a.eval (.tmp t)) → (∀ t, aE.eval (.tmp t) = a.eval (.tmp t) ∨ ScrV 49 #[.pointer (some ⟨W.heap.size, 0, none⟩), .pointer (some ⟨bx, 0, none⟩)] (aE.eval (.tmp t))) →
      Rely (keepK (PhX w1.heap.size W.heap.size c lb bs)) w1 w2 → (∀ l, k.W l → k'.W l) → (∀ l, k.R l → k'.R l) → (∀ l, NewLoc w1.heap.size w2.heap.size l → k'.W l) → NoMore c cap items.size w2 → (∀ r, r < bs.length → ∃ kk, PhQr ρ l w1.heap.size lb bs r kk w2) → Win Try.prog Post n0 W0 k' (G (b.at aE (.code rest :: K)) cs) w2) :
    Win Try.prog Post n0 W0 (k.grow W.heap.size (W.heap.size + 1)) (G (b.at a (.code (spawnC 24 25 26 27 7 6 rT rA rG rI 73) :: .inLoop (spawnC 24 25 26 27 7 6 rT rA rG rI 73) :: .inBlock 6 :: .code (.seq (.region 28 rW false) rest) :: K)) cs) w1 := by
  refine win_pre fun hO hmem => ?_
  have hz1 : w1.heap.size = W.heap.size + 1 := by rw [hh]; simp
  have hgrow : ∀ l, WgLoc W.heap.size l → (k.grow W.heap.size (W.heap.size + 1)).W l := by
    rintro l ⟨o, s, rfl⟩
    exact .inr ⟨Nat.le_refl _, Nat.lt_succ_self _⟩
  have hn0 : n0 ≤ W.heap.size := by
    have := hO.lic _ (hgrow (.cell ⟨W.heap.size, 0, none⟩) ⟨0, none, rfl⟩)
    simp only [MemLoc] at this
    omega
  have hnw : ∀ l, MemLoc W.heap.size l → ¬ WgLoc W.heap.size l ∧ l ≠ .obj W.heap.size := fun l hl => ⟨fun ⟨o, s, e⟩ => by
    subst e
    have : W.heap.size < W.heap.size := hl
    omega, fun e => by
    subst e
    have : W.heap.size < W.heap.size := hl
    omega⟩
  have hcl : c < W.heap.size := (Array.getElem?_eq_some_iff.1 hch).1
  have hget : ∀ r, r < bs.length → ∃ h : bs.getD r 0 < l.length, l[bs.getD r 0].p.todo ≠ [] := fun r hr => hbusy _ (by
    rw [List.getD_eq_getElem?_getD, List.getElem?_eq_getElem hr]; exact List.getElem_mem hr)
  have hitW : ∀ r l, r < bs.length → PhIt lb bs r l → k.W l ∧ MemLoc W.heap.size l := by
    rintro r l' hr ⟨i, hi, rfl⟩
    obtain ⟨hj, _⟩ := hget r hr
    obtain ⟨v, hv⟩ : ∃ v, (cellsP l)[bs.getD r 0 * 4 + i]? = some v := by
      refine ⟨_, List.getElem?_eq_getElem (i := bs.getD r 0 * 4 + i) (by rw [cellsP_length]; omega)⟩
    obtain ⟨_, _, _, h3, _⟩ := hW.cell _ v hv
    exact ⟨h3, hW.lt⟩
  have hdis : ∀ i j, i < items.size → j < items.size → i ≠ j → ∀ l, PhIt lb bs i l → ¬ PhIt lb bs j l := by
    rintro i j hi hj hij l ⟨x, hx, rfl⟩ ⟨y, hy, e⟩
    have e2 : bs.getD i 0 * 4 + x = bs.getD j 0 * 4 + y := by have := congrArg (fun x : Loc => match x with | .cell a => a.off | _ => 0) e; exact this
    have e3 : bs.getD i 0 = bs.getD j 0 := by omega
    rw [List.getD_eq_getElem?_getD, List.getD_eq_getElem?_getD, List.getElem?_eq_getElem (by omega), List.getElem?_eq_getElem (by omega)] at e3
    exact hij ((List.getElem_inj (hnd)).1 e3)
  -- what all may read
  let R0 : Loc → Prop := fun l => (k.W l ∨ k.R l) ∧ l ≠ .obj c ∧ ∀ r, r < bs.length → ¬ PhIt lb bs r l
  have hR0 : ∀ p, Lik k p → (∀ i, i < (cellsP l).length → p ≠ ⟨lb, i, none⟩) → R0 (.cell p) := fun p hp hf => ⟨hp, (by intro e; cases e), fun r hr ⟨i, hi, e⟩ => by
    obtain ⟨hj, _⟩ := hget r hr
    cases e
    exact hf _ (by rw [cellsP_length]; omega) rfl⟩
  have hR0m : ∀ l, R0 l → MemLoc W.heap.size l := fun l hl => hk l hl.1
  have hc1 : ∀ p : Addr, p.block < W.heap.size → w1.cell? p = W.cell? p := fun p hp => by simp only [World.cell?, hh, Array.getElem?_push, if_neg (Nat.ne_of_lt hp)]
  have hf1 : ∀ p : Addr, p.block < W.heap.size → w1.frozen? p = W.frozen? p := fun p hp => by simp only [World.frozen?, hh, Array.getElem?_push, if_neg (Nat.ne_of_lt hp)]
  have hwg : WgIs 114 W.heap.size w1 0 0 := by unfold WgIs; rw [hh]; exact Array.getElem?_push_size
  have hch1 : ChanIs c cap items items.size 0 w1 := ⟨0, by rw [hh, Array.getElem?_push, if_neg (Nat.ne_of_lt hcl), hch]; simp⟩
  let Q := PhQr ρ l w1.heap.size lb bs
  have hQ' : ∀ j k w w', Q j k w → Rely k w w' → Q j k w' := by
    rintro j k w w' ⟨x, tb, tO, cW, cc, h1, h2, h3, h4⟩ hr
    exact ⟨x, tb, tO, cW, cc, h1, h2, h3, h4.rely hr⟩
  have hQu : ∀ j k k' w, Q j k w → (∀ l, k.W l → k'.W l) → Q j k' w := by
    rintro j k k' w ⟨x, tb, tO, cW, cc, h1, h2, h3, h4⟩ hr
    exact ⟨x, tb, tO, cW, cc, h1, h2, h3, h4.up hr⟩
  have hX : ∀ l, PhX w1.heap.size W.heap.size c lb bs l → ¬ WgLoc W.heap.size l ∧ l ≠ .obj W.heap.size := fun l h => ⟨h.2.1, h.2.2.1⟩
  have hIW : ∀ j l, PhIt lb bs j l → ¬ WgLoc W.heap.size l ∧ l ≠ .obj W.heap.size := by
    rintro j l ⟨i, _, rfl⟩
    exact hnw _ hW.lt
  have hok : ∀ m0 Shun, (famQ (PhX w1.heap.size W.heap.size c lb bs) Shun (PhIt lb bs) items c cap items.size w1 m0 Q).Ok W.heap.size := fun m0 Shun => famQ_ok hQ' hX hIW (fun j l hj hl => ((hitW j l (by omega) hl).2).mono (by omega)) (by omega)
  have hIc : ∀ j l, j < items.size → PhIt lb bs j l → MemLoc w1.heap.size l ∧ l ≠ .obj c ∧ ¬ WgLoc W.heap.size l := fun j l hj hl => ⟨((hitW j l (by omega) hl).2).mono (by omega), (by obtain ⟨i, e⟩ := hl.form; intro e2; rw [e] at e2; cases e2), (hIW j l hl).1⟩
  have hXc : ∀ l, PhX w1.heap.size W.heap.size c lb bs l → l ≠ .obj c ∧ ∀ j, j < items.size → ¬ PhIt lb bs j l := fun l h => ⟨h.2.2.2.1, fun j hj => h.2.2.2.2 j (by omega)⟩
  have hcall : ∀ r, r < items.size → ItemCall (PhIt lb bs) w1 R0 Q 51 r (items.getD r undef) := fun r hr => by
    obtain ⟨hj, hbz⟩ := hget r (by omega)
    obtain ⟨tb, tO, cW, cc, h1, h2, h3⟩ := hW.proc hM hL hc1 hf1 (by omega) hR0 hj (fun i hi hr0 => hr0.2.2 r (by omega) ⟨i, hi, rfl⟩) hbz (hnil _ (List.getElem_mem hj))
    rw [hit r (by omega)]
    exact ph_item h1 rfl fun k w hq => ⟨_, tb, tO, cW, cc, List.getElem?_eq_getElem hj, h2, h3, hq⟩
  have hks : ∀ l, ¬ (KSp (fun _ _ => False) R0 W.heap.size m 0).W l := fun l ⟨_, _, _, h⟩ => h
  refine win_forkG (ty := 114) (Wg := W.heap.size) (tot := m) (fm := fun m0 Shun => famQ (PhX w1.heap.size W.heap.size c lb bs) Shun (PhIt lb bs) items c cap items.size w1 m0 Q) (X := PhX w1.heap.size W.heap.size c lb bs)
    (Fin := fun m0 K w' => NoMore c cap items.size w' ∧ ∀ j, j < items.size → ∃ i, m0 ≤ i ∧ i < m0 + m ∧ Q j (K i) w') (k0 := KSp (fun _ _ => False) R0 W.heap.size m 0)
    (Anc := fun g => ∃ aE, g = G (b.at aE (.inRegion rW [] :: .code rest :: K)) cs ∧ aE.tmps.size = 130 ∧ aE.defers = [] ∧ (∀ t, t ∉ [73, 74, 75, 76, 72, 77] → aE.eval (.tmp t) = a.eval (.tmp t)) ∧ (∀ t, aE.eval (.tmp t) = a.eval (.tmp t) ∨ ScrV 49 #[.pointer (some ⟨W.heap.size, 0, none⟩), .pointer (some ⟨bx, 0, none⟩)] (aE.eval (.tmp t))))
    hok hwg hm.2 hgrow (fun l hl => ?_) (fun l hl => absurd hl (hks l)) (fun l hl => ⟨hl.1.imp (fun x => .inl x) id, (hnw l (hR0m l hl)).1⟩) (fun l => Iff.rfl) (fun m0 Shun t h0 h1 h2 => ?_) (fun m0 Shun n Tt Kk w' t h0 h1 h2 => ?_) (fun m0 p0 Shun => ?_) ?_
  · have hl2 : MemLoc W.heap.size l := hl.mono hn0
    refine ⟨hl2.mono (by omega), (hnw l hl2).1, (hnw l hl2).2, fun e => ?_, fun r hr hI => ?_⟩
    · subst e; exact hO.lic _ (.inl hkc) hl
    · exact hO.lic _ (.inl (hitW r l hr hI).1) hl
  · exact famQ_start h0 h1 hch1 (fun l hl => ⟨hl.1, hks l⟩) ⟨hks _, fun h => h.2.1 rfl⟩ fun j l hj hl => ⟨⟨hks l, fun h => h.2.2 j (by omega) hl, fun h => (hIW j l hl).1 h⟩, h2 l (.inl (.inl (hitW j l (by omega) hl).1))⟩
  · exact famQ_fin h0 h1 h2 hm.1
  · refine spawn_loop (w1 := w1) (Ow := fun _ _ => False) (R0 := R0) (vcap := #[.pointer (some ⟨W.heap.size, 0, none⟩), .pointer (some ⟨bx, 0, none⟩)]) (x0 := []) (hok m0 Shun) hb hm.2 T ⟨fun j l _ h => h.elim, fun l hl => ⟨(hR0m l hl).mono (by omega), (hnw l (hR0m l hl)).1⟩, fun i j _ _ _ l h => h.elim⟩
      (fun scr hs => by subst hs; refine ⟨by decide, by decide, fun t ht => ?_, by decide, by decide, by decide, by decide, by decide, by decide, by decide, by decide, by decide⟩; simp at ht; rcases ht with rfl | rfl <;> decide)
      (fun x hx => by simp at hx; rcases hx with rfl | rfl <;> exact ⟨_, rfl⟩) (by simp [t12, t10]) t12 t71 (fun i n Tt Kk w t x y hi h1 h2 h3 h4 h5 h6 h7 h8 h9 => ?_) (fun i n w hi hn hn0' hr => ?_) (fun aE w z1 z2 z3 z4 => ⟨aE, rfl, z1, z2, z3, z4⟩) m 0 a w1 (by omega) ⟨az, ad, t72, fun t _ => rfl, fun t => .inl rfl⟩ (.refl _ _)
    · exact famQ_go h1 h2 h3 h4 h5 h6 h7 (fun l ⟨_, _, _, h⟩ => h.elim) (fun l hl => .inr hl) (fun l hl => .inr hl) (fun l h => h.elim) (fun l hl => .inr hl) (fun l hl => .inr hl) h8 h9
    · exact wk_born (hok m0 Shun) hQ' hQu hIc hXc hdis (by omega) (fun l hl => ⟨(hR0m l hl).mono (by omega), fun j hj => hl.2.2 j (by omega)⟩) hcall (hR0 _ hbk hbf) ((hc1 _ (hk _ hbk)).trans hbx) hn0' hr
  · rintro gend w2 k' m0 Kk ⟨aE, rfl, z1, z2, z3, z4⟩ hrel hkW hkR hkN ⟨hno, hdone⟩ _
    have hS0 : ∀ k w w₁, (k = k' ∧ ∃ d, w = w2.at d) → (∃ d, w₁ = w.at d) → (k = k' ∧ ∃ d, w₁ = w2.at d) := by
      rintro k w _ ⟨h1, d, rfl⟩ ⟨d', rfl⟩
      exact ⟨h1, d', rfl⟩
    refine js_regend win_jok (fun k w => k = k' ∧ ∃ d, w = w2.at d) hS0 (fun k2 w3 hS => ?_) ⟨rfl, w2.drawn, rfl⟩
    obtain ⟨rfl, d, rfl⟩ := hS
    refine hend aE (w2.at d) k2 z1 z2 z3 z4 (hrel.trans (.at _ _ d)) (fun l hl => hkW l (.inl hl) (hnw l (hk l (.inl hl))).1) (fun l hl => hkR l hl (hnw l (hk l (.inr hl))).1) hkN hno fun r hr => ?_
    obtain ⟨i, _, _, hq⟩ := hdone r (by omega)
    exact ⟨_, hQ' _ _ _ _ hq (.at _ _ d)⟩
end
end Go.Proofs.Yticdjkkcfdbdcaa
