/- The fork of actor.Run, goroutine 0 beside leavers. No conditions but those named. -/
import Derived.Test.YticdjkkcfdbdcaaAcL
import Derived.Test.YticdjkkcfdbdcaaPhU
import Derived.Test.YticdjkkcfdbdcaaAcPv
namespace Go.Proofs.Yticdjkkcfdbdcaa
open Go.Conc Go.ConcN Go.RowKit
/-- What stands meanwhile. -/
def AcX (ρ : Ren) (lb : Nat) (l : List AL) (N wg : Nat) (bs : List Nat) (q : Loc) : Prop := MemLoc N q ∧ ¬ WgLoc wg q ∧ q ≠ .obj wg ∧ ∀ r, r < bs.length → ¬ ItA ρ lb l (bs.getD r 0) q
def capA (wg bn bw bt bx : Nat) : Array Value := #[.pointer (some ⟨wg, 0, none⟩), .pointer (some ⟨bx, 0, none⟩), .pointer (some ⟨bn, 0, none⟩), .pointer (some ⟨bw, 0, none⟩), .pointer (some ⟨bt, 0, none⟩)]
section
variable {ρ : Ren} {k : LK} {L W : World} {B base gl lb : Nat} {R : List (List RuleR)} {c : Come} {l : List AL}
theorem ItA.less {N : Nat} {t : Int} {j j' : Nat} (hI : ∀ q, ItA ρ lb l j' q → MemLoc N q) (hd : ∀ q, ItA ρ lb l j q → ¬ ItA ρ lb l j' q) {k : LK} {w : World} (h : AtQ ρ L gl lb N R c t l j k w) : AtQ ρ L gl lb N R c t l j (lessK k (ItA ρ lb l j')) w := by
  obtain ⟨x, ρ1, k1, L1, v, h1, h2, h3, h4, h5, h6, h7⟩ := h
  refine ⟨x, ρ1, k1, L1, v, h1, h2, h3, fun q hq => ⟨h4 q hq, fun hq' => ?_⟩, h5, h6, h7⟩
  rcases h6 q hq with e | e
  · exact hd q e hq'
  · exact e (hI q hq')
theorem ItA.own (hM : Mir (InV acL acV) Try.prog ρ k L W) (hL : LiesA L B base gl R c l) (hW : LiesAW (InV acL acV) ρ k W gl lb l) {j : Nat} (hj : j < l.length) {q : Loc} (h : ItA ρ lb l j q) : k.W q ∧ MemLoc W.heap.size q := by
  rcases h with ⟨i, hi, rfl⟩ | ⟨x, r, hx, hr, rfl⟩
  · obtain ⟨v, hv⟩ : ∃ v, (cellsA l)[j * 4 + i]? = some v := ⟨_, List.getElem?_eq_getElem (by rw [cellsA_length]; omega)⟩
    obtain ⟨_, _, _, h3, _⟩ := hW.cell _ v hv
    exact ⟨h3, hW.lt⟩
  · have key : ∀ b a, MapI L b a → ρ b = some (r, 0) → k.W (.obj r) ∧ MemLoc W.heap.size (.obj r) := fun b a hm hb => by
      obtain ⟨es, ck, h1, _⟩ := hm
      have hor : ∃ o', OR (InV acL acV) ρ (.map es ck) o' := by
        rcases hM.wr.kinds b _ h1 with ⟨_, _, _, e⟩ | h | ⟨_, _, _, _, _, _, e⟩
        · cases e
        · exact h
        · cases e
      obtain ⟨_, _, _, _, h5⟩ := hM.wr.objs b r 0 _ hb h1 hor
      exact ⟨h5, (hM.wr.lt b r 0 hb).2⟩
    rcases hr with hr | hr
    · exact key _ _ (hL.rules j x hx).1 hr
    · exact key _ _ (hL.comes j x hx).1 hr
theorem ItA.dis (hM : Mir (InV acL acV) Try.prog ρ k L W) (hL : LiesA L B base gl R c l) {j j' : Nat} (hj : j ≠ j') {q : Loc} (h : ItA ρ lb l j q) : ¬ ItA ρ lb l j' q := by
  intro h'
  rcases h with ⟨i, hi, rfl⟩ | ⟨x, r, hx, hr, rfl⟩
  · rcases h' with ⟨i', hi', e⟩ | ⟨_, _, _, _, e⟩
    · have : j * 4 + i = j' * 4 + i' := by have := congrArg (fun x : Loc => match x with | .cell a => a.off | _ => 0) e; exact this
      omega
    · cases e
  · rcases h' with ⟨i', hi', e⟩ | ⟨y, r', hy, hr', e⟩
    · cases e
    · cases e
      have one : ∀ b b' a a', MapI L b a → MapI L b' a' → ρ b = some (r, 0) → ρ b' = some (r, 0) → b = b' := fun b b' a a' h1 h2 h3 h4 => by
        obtain ⟨es, ck, h5, _⟩ := h1
        obtain ⟨es', ck', h6, _⟩ := h2
        exact hM.wr.apartO b b' r 0 0 _ _ h3 h4 h5 h6 (fun _ _ _ e => by cases e) (fun _ _ _ e => by cases e)
      obtain ⟨m1, m2⟩ := hL.maps j j' x y hx hy
      obtain ⟨m3, m4⟩ := hL.maps j' j y x hy hx
      rcases hr with hr | hr <;> rcases hr' with hr' | hr'
      · exact (m2 hj).1 (one _ _ _ _ (hL.rules j x hx).1 (hL.rules j' y hy).1 hr hr')
      · exact m1 (one _ _ _ _ (hL.rules j x hx).1 (hL.comes j' y hy).1 hr hr')
      · exact m3 (one _ _ _ _ (hL.rules j' y hy).1 (hL.comes j x hx).1 hr' hr)
      · exact (m2 hj).2 (one _ _ _ _ (hL.comes j x hx).1 (hL.comes j' y hy).1 hr hr')
end
section
variable {Post : Value → World → Prop} {n0 : Nat} {W0 : World} {ρ : Ren} {k : LK} {L W w1 : World} {B base gl lb bn bw bt m nc : Nat} {t : Int} {R : List (List RuleR)} {c : Come} {l : List AL} {A : Option Addr} {bs : List Nat} {rT rB rA rG rI rW : Array Oper} {rest : Code} {b : Frame} {K : List Item} {cs : List Frame} {a : Act}
set_option maxRecDepth 100000 in
set_option maxHeartbeats 1000000 in
theorem ac_fork (hM : Mir (InV acL acV) Try.prog ρ k L W) (hL : LiesA L B base gl R c l) (hW : LiesAW (InV acL acV) ρ k W gl lb l) (hnil : ∀ x ∈ l, x.sv = .slice none 0 0) (hmd : ∀ j, ∀ r ∈ R.getD j [], 0 ≤ r.mod ∧ (r.mod ≠ 0 → 0 ≤ r.after ∧ r.after ≤ 1000)) (hfew : ∀ j, (c j t).length < 900000) (hti : ∀ j, ∀ y ∈ c j t, 0 ≤ y.time ∧ y.time ≤ 1000000)
    (hbn : W.cell? ⟨bn, 0, none⟩ = some (.slice A bs.length nc) ∧ Lik k ⟨bn, 0, none⟩ ∧ ∀ i, i < l.length * 4 → (⟨bn, 0, none⟩ : Addr) ≠ ⟨lb, i, none⟩) (hbw : W.cell? ⟨bw, 0, none⟩ = some (.int .i64 m) ∧ Lik k ⟨bw, 0, none⟩ ∧ ∀ i, i < l.length * 4 → (⟨bw, 0, none⟩ : Addr) ≠ ⟨lb, i, none⟩) (hbt : W.cell? ⟨bt, 0, none⟩ = some (.int .i64 t) ∧ Lik k ⟨bt, 0, none⟩ ∧ ∀ i, i < l.length * 4 → (⟨bt, 0, none⟩ : Addr) ≠ ⟨lb, i, none⟩)
    (hnow : ∀ r, r < bs.length → ∃ nr no, A = some ⟨nr, no, none⟩ ∧ W.cell? ⟨nr, no + r, none⟩ = some (.pointer (some ⟨lb, bs.getD r 0 * 4, none⟩)) ∧ Lik k ⟨nr, no + r, none⟩ ∧ ∀ i, i < l.length * 4 → (⟨nr, no + r, none⟩ : Addr) ≠ ⟨lb, i, none⟩)
    (hbl : bs.length ≤ 100000) (hnd : bs.Nodup) (hbs : ∀ j ∈ bs, j < l.length)
    (T : SpawnB 63 rT rB rA rG rI rW 19 108 109 110 111 20 112 113 114 115 #[.tmp 19, .tmp 20, .tmp 16, .tmp 7, .tmp 15]) (hm : 1 ≤ m ∧ m ≤ 16) (hh : w1.heap = W.heap.push (.cells #[.int .u64 0, .int .u32 0] 114))
    (az : a.tmps.size = 178) (ad : a.defers = []) (t19 : a.eval (.tmp 19) = .pointer (some ⟨W.heap.size, 0, none⟩)) (t108 : a.eval (.tmp 108) = .int .i64 m) (t109 : a.eval (.tmp 109) = .int .i64 (0 : Nat)) (t16 : a.eval (.tmp 16) = .pointer (some ⟨bn, 0, none⟩)) (t7 : a.eval (.tmp 7) = .pointer (some ⟨bw, 0, none⟩)) (t15 : a.eval (.tmp 15) = .pointer (some ⟨bt, 0, none⟩)) (hb : b.kind ≠ .early) (hk : ∀ l, k.W l ∨ k.R l → MemLoc W.heap.size l)
    (hend : ∀ aE w2 k' b1 b2, SB 63 (capA W.heap.size bn bw bt) 178 [110, 111, 20, 112, 113, 114, 109, 115] 109 20 113 a m aE b1 b2 → W.heap.size ≤ b1 → W.heap.size ≤ b2 → RowAt w2 b1 → RowAt w2 b2 →
      Rely (keepK (AcX ρ lb l w1.heap.size W.heap.size bs)) w1 w2 → (∀ l, k.W l → k'.W l) → (∀ l, k.R l → k'.R l) → (∀ l, NewLoc w1.heap.size w2.heap.size l → k'.W l) → (∀ r, r < bs.length → ∃ kk, AtQ ρ L gl lb w1.heap.size R c t l (bs.getD r 0) kk w2) → Win Try.prog Post n0 W0 k' (G (b.at aE (.code rest :: K)) cs) w2) :
    Win Try.prog Post n0 W0 (k.grow W.heap.size (W.heap.size + 1)) (G (b.at a (.code (spawnCB 28 29 30 31 32 7 6 rT rB rA rG rI 110) :: .inLoop (spawnCB 28 29 30 31 32 7 6 rT rB rA rG rI 110) :: .inBlock 6 :: .code (.seq (.region 33 rW false) rest) :: K)) cs) w1 := by
  refine win_pre fun hO hmem => ?_
  have hz1 : w1.heap.size = W.heap.size + 1 := by rw [hh]; simp
  have hgrow : ∀ l, WgLoc W.heap.size l → (k.grow W.heap.size (W.heap.size + 1)).W l := by
    rintro l ⟨o, s, rfl⟩
    exact .inr ⟨Nat.le_refl _, Nat.lt_succ_self _⟩
  have hn0 : n0 ≤ W.heap.size := by
    have := hO.lic _ (hgrow (.cell ⟨W.heap.size, 0, none⟩) ⟨0, none, rfl⟩)
    simp only [MemLoc] at this
    omega
  have hnw : ∀ l, MemLoc W.heap.size l → ¬ WgLoc W.heap.size l ∧ l ≠ .obj W.heap.size := fun l hl => ⟨fun ⟨o, s, e⟩ => by
    subst e
    have : W.heap.size < W.heap.size := hl
    omega, fun e => by
    subst e
    have : W.heap.size < W.heap.size := hl
    omega⟩
  have hget : ∀ r, r < bs.length → bs.getD r 0 < l.length := fun r hr => hbs _ (by
    rw [List.getD_eq_getElem?_getD, List.getElem?_eq_getElem hr]; exact List.getElem_mem hr)
  have hne : ∀ r r', r < bs.length → r' < bs.length → r ≠ r' → bs.getD r 0 ≠ bs.getD r' 0 := fun r r' hr hr' hrr e => by
    rw [List.getD_eq_getElem?_getD, List.getD_eq_getElem?_getD, List.getElem?_eq_getElem hr, List.getElem?_eq_getElem hr'] at e
    exact hrr ((List.getElem_inj hnd).1 e)
  have hitW : ∀ r l', r < bs.length → ItA ρ lb l (bs.getD r 0) l' → k.W l' ∧ MemLoc W.heap.size l' := fun r l' hr h => ItA.own hM hL hW (hget r hr) h
  have hdis : ∀ r r', r < bs.length → r' < bs.length → r ≠ r' → ∀ l', ItA ρ lb l (bs.getD r 0) l' → ¬ ItA ρ lb l (bs.getD r' 0) l' := fun r r' hr hr' hrr l' h => ItA.dis hM hL (hne r r' hr hr' hrr) h
  -- what all may read
  let R0 : Loc → Prop := fun l' => (k.W l' ∨ k.R l') ∧ ∀ r, r < bs.length → ¬ ItA ρ lb l (bs.getD r 0) l'
  have hR0 : ∀ p, Lik k p → (∀ i, i < l.length * 4 → p ≠ ⟨lb, i, none⟩) → R0 (.cell p) := fun p hp hf => ⟨hp, fun r hr hI => by
    rcases hI with ⟨i, hi, e⟩ | ⟨_, _, _, _, e⟩
    · cases e
      exact hf _ (by have := hget r hr; omega) rfl
    · cases e⟩
  have hR0m : ∀ l', R0 l' → MemLoc W.heap.size l' := fun l' hl => hk l' hl.1
  have hc1 : ∀ p : Addr, p.block < W.heap.size → w1.cell? p = W.cell? p := fun p hp => by simp only [World.cell?, hh, Array.getElem?_push, if_neg (Nat.ne_of_lt hp)]
  have hwg : WgIs 114 W.heap.size w1 0 0 := by unfold WgIs; rw [hh]; exact Array.getElem?_push_size
  have hgrow1 : RowAt w1 W.heap.size := ⟨_, _, _, by rw [hh]; exact Array.getElem?_push_size⟩
  let It : Nat → Loc → Prop := ItA ρ lb l
  have hM1 : Mir (InV acL acV) Try.prog ρ k L w1 := ⟨(hM.wr.rely (rely_push (w := W) (.cells #[.int .u64 0, .int .u32 0] 114) hk)).heaps rfl hh, hM.pr⟩
  have hW1 : LiesAW (InV acL acV) ρ k w1 gl lb l := by
    refine ⟨hW.at_, hW.nch, by have := hW.lt; omega, fun i v hv => ?_⟩
    obtain ⟨v', h1, h2, h3, h4⟩ := hW.cell i v hv
    have hlt := hW.lt
    refine ⟨v', (hc1 _ hlt).trans h1, h2, h3, ?_⟩
    rw [← h4]
    simp only [World.frozen?, hh, Array.getElem?_push, if_neg (Nat.ne_of_lt hlt)]
  let Q : Nat → LK → World → Prop := AtQ ρ L gl lb w1.heap.size R c t l
  have hQ' : ∀ j k w w', Q j k w → Rely k w w' → Q j k w' := fun j k w w' h hr => h.rely hr
  have hQu : ∀ j k k' w, Q j k w → (∀ l, k.W l → k'.W l) → (∀ l, k.R l → k'.R l) → Q j k' w := fun j k k' w h h1 h2 => h.up h1 h2
  have hQl : ∀ q r, q < bs.length → r < bs.length → q ≠ r → ∀ k w, Q (bs.getD q 0) k w → Q (bs.getD q 0) (lessK k (It (bs.getD r 0))) w := fun q r hq hr hqr k w h => ItA.less (fun q' hq' => ((hitW r q' hr hq').2).mono (by omega)) (fun q' hq' => hdis q r hq hr hqr q' hq') h
  have hcall : ∀ r, r < bs.length → ItemAct It w1 R0 Q lb t (bs.getD r 0) := fun r hr J main Rl hJ c' cs w hrl hk' => by
    obtain ⟨x, hx⟩ : ∃ x, l[bs.getD r 0]? = some x := ⟨_, List.getElem?_eq_getElem (hget r hr)⟩
    exact ac_item hM1 hL hW1 hx (hnil x (List.mem_of_getElem? hx)) (hmd _) (hfew _) (hti _) hR0 hJ hrl hk'
  have hN : NowAt w1 R0 bn bw bt lb m t bs A nc := by
    have h0 : ∀ {p : Addr} {v : Value}, W.cell? p = some v → w1.cell? p = some v := fun {p v} h => (hc1 p (cell_lt h)).trans h
    refine ⟨⟨h0 hbn.1, hR0 _ hbn.2.1 hbn.2.2⟩, ⟨h0 hbw.1, hR0 _ hbw.2.1 hbw.2.2⟩, ⟨h0 hbt.1, hR0 _ hbt.2.1 hbt.2.2⟩, fun r hr => ?_, hbl⟩
    obtain ⟨nr, no, h1, h2, h3, h4⟩ := hnow r hr
    exact ⟨nr, no, h1, h0 h2, hR0 _ h3 h4⟩
  have hSpl : Spl (OwA It bs m) R0 W.heap.size m w1 := by
    refine ⟨fun j l' _ ⟨r, hr, _, hI⟩ => ?_, fun l' hl => ⟨(hR0m l' hl).mono (by omega), (hnw l' (hR0m l' hl)).1⟩, fun i j _ _ hij l' ⟨r, hr, hri, hI⟩ ⟨r', hr', hrj, hI'⟩ => hdis r r' hr hr' (fun e => hij (by rw [← hri, ← hrj, e])) l' hI hI'⟩
    have h := (hitW r l' hr hI).2
    exact ⟨h.mono (by omega), fun h0 => h0.2 r hr hI, (hnw l' h).1⟩
  have hXI : ∀ q, AcX ρ lb l w1.heap.size W.heap.size bs q → ∀ j, ¬ OwA It bs m j q := fun q hq j ⟨r, hr, _, hI⟩ => hq.2.2.2 r hr hI
  have hok : ∀ m0 Shun, (famX (AcX ρ lb l w1.heap.size W.heap.size bs) Shun w1 m0 (QwA Q bs m)).Ok W.heap.size := fun m0 Shun => famX_ok (fun i k w w' h hr r h1 h2 => hQ' _ _ _ _ (h r h1 h2) hr) fun q hq => ⟨hq.2.1, hq.2.2.1⟩
  refine win_fork (ty := 114) (Wg := W.heap.size) (tot := m) (X := AcX ρ lb l w1.heap.size W.heap.size bs) (Q := QwA Q bs m) (k0 := KSp (OwA It bs m) R0 W.heap.size m 0)
    (Anc := fun g w => ∃ aE b1 b2, g = G (b.at aE (.inRegion rW [] :: .code rest :: K)) cs ∧ SB 63 (capA W.heap.size bn bw bt) 178 [110, 111, 20, 112, 113, 114, 109, 115] 109 20 113 a m aE b1 b2 ∧ W.heap.size ≤ b1 ∧ W.heap.size ≤ b2 ∧ RowAt w b1 ∧ RowAt w b2)
    (fun i k w w' h hr r h1 h2 => hQ' _ _ _ _ (h r h1 h2) hr) hwg hm.2 hgrow (fun q hq => ⟨hq.1, fun ⟨j, _, _, hI⟩ => hXI q hq j hI, hq.2.1, hq.2.2.1⟩) (fun q hq => ?_) (fun q hq => ?_) (fun q hq => ⟨hq.1.imp (fun x => .inl x) id, (hnw q (hR0m q hq)).1⟩) (fun q => Iff.rfl) (fun m0 p0 Shun => ?_) ?_
  · have hq2 : MemLoc W.heap.size q := hq.mono hn0
    refine ⟨hq2.mono (by omega), (hnw q hq2).1, (hnw q hq2).2, fun r hr hI => ?_⟩
    exact hO.lic _ (.inl (hitW r q hr hI).1) hq
  · obtain ⟨j, _, _, r, hr, _, hI⟩ := hq
    have h := hitW r q hr hI
    exact ⟨.inl h.1, (hnw q h.2).1⟩
  · refine spawn_loopB (w1 := w1) (Ow := OwA It bs m) (R0 := R0) (vcap := capA W.heap.size bn bw bt) (hok m0 Shun) hb hm.2 (by omega) T hSpl (fun scr hs => by subst hs; exact ⟨by decide, by decide, by decide, by decide⟩) (fun a' bx h1 h2 => ?_) t19 t108 (fun i n w bx hi hn hn0' hbx' hr hc => ?_) (fun a' w b1 b2 h1 h2 h3 h4 h5 => ⟨_, b1, b2, rfl, h1, h2, h3, h4, h5⟩) m 0 a w1 W.heap.size W.heap.size (by omega) ⟨az, ad, t109, fun t _ => rfl, fun t _ _ => .inl rfl, .inl rfl, .inl rfl⟩ (.refl _ _) (Nat.le_refl _) (Nat.le_refl _) hgrow1 hgrow1
    · have e19 := (h1 19 (by decide)).trans t19
      have e16 := (h1 16 (by decide)).trans t16
      have e7 := (h1 7 (by decide)).trans t7
      have e15 := (h1 15 (by decide)).trans t15
      simp [capA, e19, e16, e7, e15, h2]
    · exact wkA_born (hok m0 Shun) hQ' hQu hm (fun r l' hr hI => ((hitW r l' hr hI).2).mono (by omega)) hdis (fun l' hl => ⟨(hR0m l' hl).mono (by omega), fun r hr => hl.2 r hr⟩) hN hcall hQl hn0' (by omega) hi hbx' hr hc
  · rintro gend w2 k' Kk ⟨aE, b1, b2, rfl, z1, z2, z3, z4, z5⟩ hrel hkW hkR hkN hdone _
    have hS0 : ∀ k w w₁, (k = k' ∧ ∃ d, w = w2.at d) → (∃ d, w₁ = w.at d) → (k = k' ∧ ∃ d, w₁ = w2.at d) := by
      rintro k w _ ⟨h1, d, rfl⟩ ⟨d', rfl⟩
      exact ⟨h1, d', rfl⟩
    refine js_regend win_jok (fun k w => k = k' ∧ ∃ d, w = w2.at d) hS0 (fun k2 w3 hS => ?_) ⟨rfl, w2.drawn, rfl⟩
    obtain ⟨rfl, d, rfl⟩ := hS
    refine hend aE (w2.at d) k2 b1 b2 z1 z2 z3 z4 z5 (hrel.trans (.at _ _ d)) (fun q hq => hkW q (.inl hq) (hnw q (hk q (.inl hq))).1) (fun q hq => hkR q hq (hnw q (hk q (.inr hq))).1) hkN fun r hr => ?_
    exact ⟨_, hQ' _ _ _ _ (hdone (r % m) (Nat.mod_lt _ (by omega)) r hr rfl) (.at _ _ d)⟩
end
end Go.Proofs.Yticdjkkcfdbdcaa

/- Behind the join of actor.Run: the lone world told anew. No conditions but those named. -/
namespace Go.Proofs.Yticdjkkcfdbdcaa
open Go.Conc Go.ConcN Go.RowKit
/-- An actor behind the join; where its letters lie. -/
structure JoinedA (ρ : Ren) (L w2 : World) (N nL wg lb : Nat) (R : List (List RuleR)) (c : Come) (t : Int) (l : List AL) (j : Nat) (y : AL × (Nat × Nat)) : Prop where
  x : ∃ x, l[j]? = some x ∧ y.1.num = (atR (R.getD j []) x.num (c j t)).1 ∧ y.1.sent = (atR (R.getD j []) x.num (c j t)).2 ∧ y.1.rb = x.rb ∧ y.1.cb = x.cb ∧ y.1.ra = x.ra ∧ y.1.ca = x.ca
  cells : ∀ i, i < 3 → ∀ v, y.1.cells[i]? = some v → ∃ v', w2.cell? ⟨lb, j * 4 + i, none⟩ = some v' ∧ VR (InV acL acV) ρ v v'
  last : (y.1.sent = [] ∧ y.1.sv = .slice none 0 0 ∧ y.2 = (wg, 0) ∧ w2.cell? ⟨lb, j * 4 + 3, none⟩ = some (.slice none 0 0)) ∨
    (y.1.sent ≠ [] ∧ ∃ sc, y.1.sv = .slice (some ⟨nL + j, 0, none⟩) y.1.sent.length sc ∧ N ≤ y.2.1 ∧ w2.cell? ⟨lb, j * 4 + 3, none⟩ = some (.slice (some ⟨y.2.1, y.2.2, none⟩) y.1.sent.length sc) ∧ ∀ i v, (flatX y.1.sent)[i]? = some v → w2.cell? ⟨y.2.1, y.2.2 + i, none⟩ = some v)
  objs : ∀ b o r, (b = y.1.rb ∨ b = y.1.cb) → L.heap[b]? = some o → ρ b = some (r, 0) → (∃ o', OR (InV acL acV) ρ o o') → ∃ o', w2.heap[r]? = some o' ∧ OR (InV acL acV) ρ o o'
section
variable {ρ : Ren} {k k' : LK} {L W w1 w2 : World} {B base gl lb : Nat} {R : List (List RuleR)} {c : Come} {t : Int} {l : List AL} {bs : List Nat}
/-- An actor that had nothing to do. -/
theorem joinedA_idle (hM : Mir (InV acL acV) Try.prog ρ k L W) (hL : LiesA L B base gl R c l) (hW : LiesAW (InV acL acV) ρ k W gl lb l) (hnil : ∀ x ∈ l, x.sv = .slice none 0 0 ∧ x.sent = []) (hbl : ∀ j ∈ bs, j < l.length) (hh : w1.heap = W.heap.push (.cells #[.int .u64 0, .int .u32 0] 114))
    (hrel : Rely (keepK (AcX ρ lb l w1.heap.size W.heap.size bs)) w1 w2) (nL : Nat) {j : Nat} (hj : j < l.length) (hjb : j ∉ bs) (he : c j t = []) : ∃ y, JoinedA ρ L w2 w1.heap.size nL W.heap.size lb R c t l j y := by
  have hz1 : w1.heap.size = W.heap.size + 1 := by rw [hh]; simp
  obtain ⟨x, hx⟩ : ∃ x, l[j]? = some x := ⟨_, List.getElem?_eq_getElem hj⟩
  obtain ⟨n1, n2⟩ := hnil x (List.mem_of_getElem? hx)
  have hget : ∀ r, r < bs.length → bs.getD r 0 ∈ bs := fun r hr => by rw [List.getD_eq_getElem?_getD, List.getElem?_eq_getElem hr]; exact List.getElem_mem hr
  have hst : ∀ q, MemLoc W.heap.size q → (∀ r, r < bs.length → ¬ ItA ρ lb l (bs.getD r 0) q) → AcX ρ lb l w1.heap.size W.heap.size bs q := fun q hq h => ⟨hq.mono (by omega), fun ⟨o, s, e⟩ => by
    subst e
    have : W.heap.size < W.heap.size := hq
    omega, fun e => by
    subst e
    have : W.heap.size < W.heap.size := hq
    omega, h⟩
  have hkeep : ∀ i, i < 4 → w2.cell? ⟨lb, j * 4 + i, none⟩ = W.cell? ⟨lb, j * 4 + i, none⟩ := fun i hi => by
    have hlt := hW.lt
    have h1 : w1.cell? ⟨lb, j * 4 + i, none⟩ = W.cell? ⟨lb, j * 4 + i, none⟩ := by simp only [World.cell?, hh, Array.getElem?_push, if_neg (Nat.ne_of_lt hlt)]
    refine (hrel.cell _ (.inr (hst (.cell ⟨lb, j * 4 + i, none⟩) hlt fun r hr hI => ?_))).trans h1
    rcases hI with ⟨i', hi', e⟩ | ⟨_, _, _, _, e⟩
    · have e2 : j * 4 + i = bs.getD r 0 * 4 + i' := by have := congrArg (fun x : Loc => match x with | .cell a => a.off | _ => 0) e; exact this
      have e3 : j = bs.getD r 0 := by omega
      exact hjb (e3 ▸ hget r hr)
    · cases e
  refine ⟨(x, (W.heap.size, 0)), ⟨⟨x, hx, by rw [he]; rfl, by rw [he]; exact n2, rfl, rfl, rfl, rfl⟩, fun i hi v hv => ?_, .inl ⟨n2, n1, rfl, ?_⟩, fun b o r hb ho hr hor => ?_⟩⟩
  · obtain ⟨hjl, hxe⟩ := List.getElem?_eq_some_iff.1 hx
    have hc := cellsA_at l j hjl i (by omega)
    rw [hxe] at hc
    obtain ⟨v', h1, h2, _⟩ := hW.cell _ v (hc.trans hv)
    exact ⟨v', (hkeep i (by omega)).trans h1, h2⟩
  · obtain ⟨hjl, hxe⟩ := List.getElem?_eq_some_iff.1 hx
    have hc := cellsA_at l j hjl 3 (by omega)
    rw [hxe] at hc
    obtain ⟨v', h1, h2, _⟩ := hW.cell _ x.sv (hc.trans rfl)
    rw [n1] at h2
    rw [hkeep 3 (by omega), h1]
    cases h2
    rfl
  · obtain ⟨_, o2, g2, g3, _⟩ := hM.wr.objs b r 0 o hr ho hor
    have hlt := (Array.getElem?_eq_some_iff.1 g2).1
    have g4 : w1.heap[r]? = some o2 := by rw [hh, Array.getElem?_push, if_neg (Nat.ne_of_lt hlt)]; exact g2
    refine ⟨o2, hrel.obj r o2 g4 g3.notCells.2 (.inr (hst (.obj r) hlt fun q hq hI => ?_)), g3⟩
    have hI2 : ItA ρ lb l j (.obj r) := by
      refine .inr ⟨x, r, hx, ?_, rfl⟩
      rcases hb with e | e
      · exact .inl (e ▸ hr)
      · exact .inr (e ▸ hr)
    exact ItA.dis hM hL (fun e => hjb (by rw [e]; exact hget q hq)) hI2 hI
/-- An actor whose time was done. -/
theorem joinedA_busy (hM : Mir (InV acL acV) Try.prog ρ k L W) (hL : LiesA L B base gl R c l) (hW : LiesAW (InV acL acV) ρ k W gl lb l) (hz1 : W.heap.size ≤ w1.heap.size) (nL : Nat) {j : Nat} {kk : LK} (hq : AtQ ρ L gl lb w1.heap.size R c t l j kk w2) : ∃ y, JoinedA ρ L w2 w1.heap.size nL W.heap.size lb R c t l j y := by
  obtain ⟨x, ρ1, k1, L1, v, hx, hs, hwr, _, _, hnew, hst, how, hnl⟩ := hq
  obtain ⟨hjl, hxe⟩ := List.getElem?_eq_some_iff.1 hx
  obtain ⟨ne1, ne2⟩ := hL.map_ne hx
  have hKg := hL.keep_gl hx
  have hgl1 : ρ1 gl = some (lb, j * 4) := hs.to _ _ (by rw [Ren.cut_g hW.at_, Nat.zero_add])
  obtain ⟨xr, ty, r1, r2, r3⟩ := hst.row
  have hcut : (cutA L gl ρ.bad j x).heap[gl]? = some (.cells ((cellsA l).toArray.extract (j * 4) (j * 4 + 4)) ρ.bad (0, 0)) := cutW_g hL.blk
  rw [hcut] at r1
  cases r1
  have hnum : ∀ i, i < 4 → ((cellsA l).toArray.extract (j * 4) (j * 4 + 4))[i]? = x.cells[i]? := fun i hi => by
    rw [Array.getElem?_extract, if_pos (by simp only [List.size_toArray, cellsA_length]; omega)]
    have := cellsA_at l j hjl i hi
    rw [hxe] at this
    simpa using this
  have hsz : ((cellsA l).toArray.extract (j * 4) (j * 4 + 4)).size = 4 := by simp only [Array.size_extract, List.size_toArray, cellsA_length]; omega
  generalize (cellsA l).toArray.extract (j * 4) (j * 4 + 4) = xr at *
  have cellW : ∀ i u, (((xr.setIfInBounds 0 (.int .i64 (atR (R.getD j []) x.num (c j t)).1)).setIfInBounds 3 v))[i]? = some u → ∃ v', w2.cell? ⟨lb, j * 4 + i, none⟩ = some v' ∧ VR (InV acL acV) ρ1 u v' := fun i u hu => by
    obtain ⟨x', e', fz', v', g1, g2, g3, _⟩ := hwr.cells gl lb (j * 4) _ _ _ hgl1 r3 i u hu
    exact ⟨v', by simp [World.cell?, g1, g2], g3⟩
  have krb : keepA x x.rb = some 0 := by unfold keepA; rw [if_pos (.inl rfl)]
  have kcb : keepA x x.cb = some 0 := by unfold keepA; rw [if_pos (.inr rfl)]
  have hs0 : (ρ.only (keepA x)).sub ρ1 := (Ren.only_cut hKg).trans hs
  obtain ⟨m1, m2, hr1, hr2, _, _⟩ := hW.maps hx
  have c0 := cellW 0 (.int .i64 (atR (R.getD j []) x.num (c j t)).1) (by simp [Array.getElem?_setIfInBounds, hsz])
  have c1 := cellW 1 (.map (some x.rb)) (by have := hnum 1 (by omega); simp [Array.getElem?_setIfInBounds, this, AL.cells])
  have c2 := cellW 2 (.map (some x.cb)) (by have := hnum 2 (by omega); simp [Array.getElem?_setIfInBounds, this, AL.cells])
  have c3 := cellW 3 v (by simp [Array.getElem?_setIfInBounds, hsz])
  have vmap : ∀ {b r v'}, keepA x b = some 0 → ρ b = some (r, 0) → VR (InV acL acV) ρ1 (.map (some b)) v' → v' = .map (some r) := fun {b r v'} hk hr hv => by
    cases hv with
    | map h =>
      have := hs0.to _ _ (LiesA.only_of hk hr)
      rw [this] at h
      cases h
      rfl
  obtain ⟨v0, g0, h0⟩ := c0
  obtain ⟨v1, g1, h1⟩ := c1
  obtain ⟨v2, g2, h2⟩ := c2
  obtain ⟨v3, g3, h3⟩ := c3
  have e0 : v0 = .int .i64 (atR (R.getD j []) x.num (c j t)).1 := vr_int h0
  have e1 := vmap krb hr1 h1
  have e2 := vmap kcb hr2 h2
  subst e0 e1 e2
  have hobj : ∀ b o r, (b = x.rb ∨ b = x.cb) → L.heap[b]? = some o → ρ b = some (r, 0) → (∃ o', OR (InV acL acV) ρ o o') → ∃ o', w2.heap[r]? = some o' ∧ OR (InV acL acV) ρ o o' := fun b o r hb ho hr ⟨o0, hor⟩ => by
    have hK : keepA x b = some 0 := by unfold keepA; rw [if_pos hb]
    have hbg : b ≠ gl := hb.elim (fun e => by rw [e]; exact Ne.symm ne1) (fun e => by rw [e]; exact Ne.symm ne2)
    have hbl : b < L.heap.size := (Array.getElem?_eq_some_iff.1 ho).1
    have h5 := hL.obj_only hx hK ho hor
    have h6 : L1.heap[b]? = some o := (hst.other b (by rw [cutW_size]; exact hbl) hbg).trans (cutW_obj hK hbg ho hor.notCells.1)
    obtain ⟨_, o', g5, g6, _⟩ := hwr.objs b r 0 o (hs0.to _ _ (LiesA.only_of hK hr)) h6 ⟨_, h5.sub hs0⟩
    exact ⟨o', g5, (h5.along hs0 g6).sub Ren.only_sub⟩
  have cells3 : ∀ (sv : Value) (S : List LetR), ∀ i, i < 3 → ∀ u, (AL.cells ⟨(atR (R.getD j []) x.num (c j t)).1, x.rb, x.cb, x.ra, x.ca, sv, S⟩)[i]? = some u → ∃ v', w2.cell? ⟨lb, j * 4 + i, none⟩ = some v' ∧ VR (InV acL acV) ρ u v' := fun sv S i hi u hu => by
    obtain rfl | rfl | rfl : i = 0 ∨ i = 1 ∨ i = 2 := by omega
    · simp [AL.cells] at hu
      subst hu
      exact ⟨_, g0, .int _ _⟩
    · simp [AL.cells] at hu
      subst hu
      exact ⟨_, g1, .map hr1⟩
    · simp [AL.cells] at hu
      subst hu
      exact ⟨_, g2, .map hr2⟩
  generalize hS : (atR (R.getD j []) x.num (c j t)).2 = S at how hnl
  by_cases hSn : S = []
  · have := hnl hSn
    subst this
    subst hSn
    refine ⟨(⟨(atR (R.getD j []) x.num (c j t)).1, x.rb, x.cb, x.ra, x.ca, .slice none 0 0, []⟩, (W.heap.size, 0)), ⟨⟨x, hx, rfl, hS.symm, rfl, rfl, rfl, rfl⟩, cells3 _ _, .inl ⟨rfl, rfl, rfl, ?_⟩, hobj⟩⟩
    rw [g3]
    cases h3
    rfl
  · rcases how.2 with ⟨_, e⟩ | ⟨g, cap, cur, rfl, a1, a2, a3, _, a5, a6⟩
    · exact absurd (List.length_eq_zero_iff.1 e) hSn
    · cases h3 with
      | slice hA _ _ =>
        obtain ⟨_, cc, s, h5, rfl⟩ := hA
        simp only [Nat.add_zero] at g3 h5
        have hcell : ∀ i u, (flatX S)[i]? = some u → w2.cell? ⟨cc, s + i, none⟩ = some u ∧ k1.W (.cell ⟨cc, s + i, none⟩) := fun i u hu => by
          have hil : i < S.length * 4 := by have := (List.getElem?_eq_some_iff.1 hu).1; rwa [flatX_len] at this
          have hcu : cur[i]? = some u := by
            rw [← a6, List.getElem?_take, if_pos hil] at hu
            simpa using hu
          obtain ⟨x', e', fz', v', q1, q2, q3, q4, q5⟩ := hwr.cells g cc s _ _ _ h5 a2 i u hcu
          have := (flatX_bare (List.mem_of_getElem? hu)).back q3
          subst this
          exact ⟨by simp [World.cell?, q1, q2], (q5 (by simp)).1⟩
        have hN : w1.heap.size ≤ cc := by
          obtain ⟨z, zs, hzs⟩ := List.exists_cons_of_ne_nil hSn
          obtain ⟨_, hk⟩ := hcell 0 (.int .i64 z.time) (by rw [hzs]; rfl)
          rcases hnew _ hk with hI | hI
          · exfalso
            rcases hI with ⟨i, hi, e⟩ | ⟨_, _, _, _, e⟩
            · have e1 : cc = lb := congrArg (fun x : Loc => match x with | .cell a => a.block | _ => 0) e
              have e2 : s + 0 = j * 4 + i := congrArg (fun x : Loc => match x with | .cell a => a.off | _ => 0) e
              subst e1
              have hpos : 0 < cur.size := by
                rw [a5]
                have : 0 < S.length := List.length_pos_iff.2 hSn
                omega
              have := hwr.apart gl g cc (j * 4) s _ _ _ _ _ _ i 0 hgl1 h5 r3 a2 (by simp [hsz]; omega) hpos (by omega) (by simp)
              have hgs : gl < L.heap.size := hL.blk.lt
              omega
            · cases e
          · exact Nat.le_of_not_lt hI
        refine ⟨(⟨(atR (R.getD j []) x.num (c j t)).1, x.rb, x.cb, x.ra, x.ca, .slice (some ⟨nL + j, 0, none⟩) S.length cap, S⟩, (cc, s)), ⟨⟨x, hx, rfl, hS.symm, rfl, rfl, rfl, rfl⟩, cells3 _ _, .inr ⟨hSn, cap, rfl, hN, g3, fun i u hu => (hcell i u hu).1⟩, hobj⟩⟩
end
end Go.Proofs.Yticdjkkcfdbdcaa

/- Behind the join of actor.Run: the lone world told anew, whole. No conditions but those named. -/
namespace Go.Proofs.Yticdjkkcfdbdcaa
open Go.Conc Go.ConcN Go.RowKit
/-- The lone world behind the join. -/
def joinA (L : World) (gl : Nat) (bad : TypeId) (l' : List AL) (rows : List (List Value)) : World :=
  { L with heap := (L.heap.setIfInBounds gl (.cells (cellsA l').toArray 140 (0, 0))) ++ (rows.map fun vs => Obj.cells vs.toArray bad (0, vs.length)).toArray }
section
variable {L : World} {gl : Nat} {bad : TypeId} {l' : List AL} {rows : List (List Value)}
theorem joinA_size : (joinA L gl bad l' rows).heap.size = L.heap.size + rows.length := by simp [joinA]
theorem joinA_new (j : Nat) : (joinA L gl bad l' rows).heap[L.heap.size + j]? = (rows[j]?).map fun vs => Obj.cells vs.toArray bad (0, vs.length) := by
  unfold joinA
  simp only [Array.getElem?_append, Array.size_setIfInBounds]
  rw [if_neg (by omega)]
  simp
theorem joinA_old {b : Nat} (hb : b < L.heap.size) (h1 : b ≠ gl) : (joinA L gl bad l' rows).heap[b]? = L.heap[b]? := by
  unfold joinA
  simp only [Array.getElem?_append, Array.size_setIfInBounds]
  rw [if_pos hb, Array.getElem?_setIfInBounds, if_neg (fun e => h1 e.symm)]
theorem joinA_gl (hb : gl < L.heap.size) : (joinA L gl bad l' rows).heap[gl]? = some (.cells (cellsA l').toArray 140 (0, 0)) := by
  unfold joinA
  simp only [Array.getElem?_append, Array.size_setIfInBounds]
  rw [if_pos hb, Array.getElem?_setIfInBounds, if_pos rfl, if_pos hb]
end
/-- What the actors are behind a time. -/
def AfterT (R : List (List RuleR)) (c : Come) (t : Int) (l l' : List AL) : Prop := l'.length = l.length ∧ ∀ (j : Nat) x, l[j]? = some x → ∃ x', l'[j]? = some x' ∧ x'.num = (atR (R.getD j []) x.num (c j t)).1 ∧ x'.sent = (atR (R.getD j []) x.num (c j t)).2 ∧ x'.rb = x.rb ∧ x'.cb = x.cb ∧ x'.ra = x.ra ∧ x'.ca = x.ca
section
variable {ρ : Ren} {k k' : LK} {L W w1 w2 : World} {B base gl lb : Nat} {R : List (List RuleR)} {c : Come} {t : Int} {l : List AL} {bs : List Nat}
set_option maxHeartbeats 1000000 in
theorem ac_join (hM : Mir (InV acL acV) Try.prog ρ k L W) (hL : LiesA L B base gl R c l) (hW : LiesAW (InV acL acV) ρ k W gl lb l) (hnil : ∀ x ∈ l, x.sv = .slice none 0 0 ∧ x.sent = [])
    (hbl : ∀ j ∈ bs, j < l.length) (hbe : ∀ j, j < l.length → j ∉ bs → c j t = []) (hh : w1.heap = W.heap.push (.cells #[.int .u64 0, .int .u32 0] 114)) {b1 b2 : Nat} (hb1 : W.heap.size ≤ b1 ∧ RowAt w2 b1) (hb2 : W.heap.size ≤ b2 ∧ RowAt w2 b2)
    (hrel : Rely (keepK (AcX ρ lb l w1.heap.size W.heap.size bs)) w1 w2) (hkW : ∀ l, k.W l → k'.W l) (hkR : ∀ l, k.R l → k'.R l) (hkN : ∀ l, NewLoc w1.heap.size w2.heap.size l → k'.W l) (hdone : ∀ r, r < bs.length → ∃ kk, AtQ ρ L gl lb w1.heap.size R c t l (bs.getD r 0) kk w2) :
    ∃ (ρ' : Ren) (l' : List AL) (L' : World) (nb : Nat), ρ.sub ρ' ∧ Mir (InV acL acV) Try.prog ρ' k' L' w2 ∧ LiesA L' B base gl R c l' ∧ AfterT R c t l l' ∧ L.heap.size ≤ L'.heap.size ∧ (∀ b, b < L.heap.size → b ≠ gl → L'.heap[b]? = L.heap[b]?) ∧
      ((ρ' nb = some (W.heap.size, 0) ∧ ¬ ρ'.isChan nb) ∧ (ρ' (nb + 1) = some (b1, 0) ∧ ¬ ρ'.isChan (nb + 1)) ∧ (ρ' (nb + 2) = some (b2, 0) ∧ ¬ ρ'.isChan (nb + 2))) := by
  have hz1 : w1.heap.size = W.heap.size + 1 := by rw [hh]; simp
  have hz2 := hrel.size
  obtain ⟨ys, hyl, hys⟩ := list_choose (R := JoinedA ρ L w2 w1.heap.size L.heap.size W.heap.size lb R c t l) l.length fun j hj => by
    by_cases hjb : j ∈ bs
    · obtain ⟨r, hr, hrj⟩ := List.getElem_of_mem hjb
      have hgd : bs.getD r 0 = j := by rw [List.getD_eq_getElem?_getD, List.getElem?_eq_getElem hr]; exact hrj
      obtain ⟨kk, hq⟩ := hdone r hr
      rw [hgd] at hq
      exact joinedA_busy hM hL hW (by omega) _ hq
    · exact joinedA_idle hM hL hW hnil hbl hh hrel _ hj hjb (hbe j hj hjb)
  have hglt : gl < L.heap.size := hL.blk.lt
  let l' : List AL := ys.map (·.1)
  let pl : List (Nat × Nat) := ys.map (·.2) ++ [(W.heap.size, 0), (b1, 0), (b2, 0)]
  let rows : List (List Value) := ys.map (fun y => flatX y.1.sent) ++ [[], [], []]
  have hll : l'.length = l.length := by simp [l', hyl]
  have hpl : pl.length = l.length + 3 := by simp [pl, hyl]
  have hrl : rows.length = l.length + 3 := by simp [rows, hyl]
  have hbase := hM.wr.base
  have hfar : ∀ p ∈ pl, W.heap.size ≤ p.1 := by
    intro p hp
    simp only [pl, List.mem_append, List.mem_map, List.mem_cons, List.not_mem_nil, or_false] at hp
    rcases hp with ⟨y, hy, rfl⟩ | rfl | rfl | rfl
    · obtain ⟨j, hj, rfl⟩ := List.getElem_of_mem hy
      rcases (hys j _ (List.getElem?_eq_getElem hj)).last with ⟨_, _, e, _⟩ | ⟨_, _, _, e, _⟩
      · rw [e]; exact Nat.le_refl _
      · omega
    · exact Nat.le_refl _
    · exact hb1.1
    · exact hb2.1
  have hp : ∀ p ∈ pl, ρ.base ≤ p.1 := fun p h => Nat.le_trans hbase.2 (hfar p h)
  let L' := joinA L gl ρ.bad l' rows
  have hsub := adopt_sub hM.wr hp
  let ρ' := ρ.adopt L.heap.size pl hM.wr.base.1 hp
  have hto : ∀ j p, pl[j]? = some p → ρ' (L.heap.size + j) = some p := fun j p h => by
    show (if L.heap.size + j < L.heap.size then ρ (L.heap.size + j) else pl[L.heap.size + j - L.heap.size]?) = _
    rw [if_neg (by omega), show L.heap.size + j - L.heap.size = j by omega]
    exact h
  have hnch : ∀ j, ¬ ρ'.isChan (L.heap.size + j) := fun j h => by
    have := hM.wr.chanLt _ (.inl (show ρ.isChan _ from h))
    omega
  have hup : ∀ c0, c0 < W.heap.size → w1.heap[c0]? = W.heap[c0]? := fun c0 h => by rw [hh, Array.getElem?_push, if_neg (Nat.ne_of_lt h)]
  have hWs : ∀ (c0 : Nat) o, W.heap[c0]? = some o → ∃ o', w2.heap[c0]? = some o' ∧ Alike o o' := fun c0 o ho => hrel.shape c0 o ((hup c0 (Array.getElem?_eq_some_iff.1 ho).1).trans ho)
  have hold : ∀ b, b < L.heap.size → b ≠ gl → L'.heap[b]? = L.heap[b]? := fun b h1 h2 => joinA_old h1 h2
  have hL'g : L'.heap[gl]? = some (.cells (cellsA l').toArray 140 (0, 0)) := joinA_gl hglt
  have hat : ∀ (j : Nat) (h : j < l'.length), ∃ y : AL × (Nat × Nat), ys[j]? = some y ∧ l'[j] = y.1 := fun j h => by
    have hj : j < ys.length := by simpa [l'] using h
    exact ⟨ys[j], List.getElem?_eq_getElem hj, by simp [l']⟩
  have hplj : ∀ (j : Nat) (y : AL × (Nat × Nat)), ys[j]? = some y → pl[j]? = some y.2 ∧ rows[j]? = some (flatX y.1.sent) := fun j y h => by
    have hj := (List.getElem?_eq_some_iff.1 h).1
    simp only [pl, rows]
    rw [List.getElem?_append_left (by simpa using hj), List.getElem?_append_left (by simpa using hj)]
    simp [h]
  have hpe : ∀ i, i < 3 → pl[l.length + i]? = [(W.heap.size, 0), (b1, 0), (b2, 0)][i]? ∧ rows[l.length + i]? = some [] := fun i hi => by
    simp only [pl, rows]
    rw [List.getElem?_append_right (by simp [hyl]), List.getElem?_append_right (by simp [hyl])]
    simp only [List.length_map, hyl, Nat.add_sub_cancel_left, true_and]
    obtain rfl | rfl | rfl : i = 0 ∨ i = 1 ∨ i = 2 := by omega
    all_goals rfl
  have hmir : WR (InV acL acV) ρ' k' L' w2 := by
    refine WR.retell (rows := rows) hM.wr hp (by rw [hrl, hpl]) (by rw [show L'.heap.size = _ from joinA_size, hrl, hpl]) (fun b c0 s hb => ?_) (fun j vs hj => ?_) (fun b o ho => ?_) hWs (by omega) (fun b c0 s x e fz hb ho i v hv => ?_) (fun b c0 s n x cl sn rc0 t hb ho => ?_) (fun b c0 s o hb ho hor => ?_) hfar (fun j c0 s vs hj hvs => ?_)
    · exact ⟨fun a ha => ⟨fun h => hkW _ h, fun h => hkR _ h⟩, fun h => hkW _ h⟩
    · rw [show L'.heap[L.heap.size + j]? = _ from joinA_new j, hj]; rfl
    · have hb := (Array.getElem?_eq_some_iff.1 ho).1
      by_cases e1 : b = gl
      · subst e1
        have := hL.blk
        unfold Blk at this
        rw [this] at ho
        cases ho
        exact ⟨_, hL'g, _, rfl, by simp [cellsA_length, hll]⟩
      · exact ⟨o, (hold b hb e1).trans ho, .refl o⟩
    · have hb0 := (hM.wr.lt _ _ _ hb).1
      by_cases e1 : b = gl
      · subst e1
        rw [hL'g] at ho
        cases ho
        obtain ⟨rfl, rfl⟩ : c0 = lb ∧ s = 0 := by have := hW.at_; rw [hb] at this; cases this; exact ⟨rfl, rfl⟩
        rw [Nat.zero_add]
        obtain ⟨q, hq, i', hi', rfl, hc⟩ := cellsA_inv (show (cellsA l')[i]? = some v by simpa using hv)
        obtain ⟨y, hy, hye⟩ := hat q hq
        rw [hye] at hc
        have J := hys q y hy
        by_cases h3 : i' < 3
        · obtain ⟨v', g1, g2⟩ := J.cells i' h3 v hc
          exact ⟨v', g1, g2.sub hsub⟩
        · obtain rfl : i' = 3 := by omega
          simp only [AL.cells, List.getElem?_cons_succ, List.getElem?_cons_zero, Option.some.injEq] at hc
          subst hc
          rcases J.last with ⟨a1, a2, _, a4⟩ | ⟨a1, sc, a2, a3, a4, a5⟩
          · rw [a2]; exact ⟨_, a4, .nilSlice _ _⟩
          · rw [a2]
            exact ⟨_, a4, .slice ⟨⟨rfl, hnch q⟩, y.2.1, y.2.2, hto q y.2 (hplj q y hy).1, by rw [Nat.add_zero]⟩ _ _⟩
      · rw [hold b hb0 e1] at ho
        obtain ⟨x', e', fz', v', g1, g2, g3, g4, _⟩ := hM.wr.cells b c0 s x e fz hb ho i v hv
        have hlt := (hM.wr.lt _ _ _ hb).2
        have hcW : W.cell? ⟨c0, s + i, none⟩ = some v' := by simp [World.cell?, g1, g2]
        refine ⟨v', (hrel.cell _ (.inr ⟨by show c0 < _; omega, ?_, (fun e => by cases e), fun r hr => ?_⟩)).trans ((by simp only [World.cell?, hup c0 hlt]) : w1.cell? ⟨c0, s + i, none⟩ = W.cell? ⟨c0, s + i, none⟩) |>.trans hcW, g3.sub hsub⟩
        · rintro ⟨o, s', e⟩
          cases e
          omega
        · rintro (⟨i', hi', e⟩ | ⟨_, _, _, _, e⟩)
          · have hj := hbl (bs.getD r 0) (by rw [List.getD_eq_getElem?_getD, List.getElem?_eq_getElem hr]; exact List.getElem_mem hr)
            have hcl : L.cell? ⟨b, i, none⟩ = some v := by simp [World.cell?, ho, hv]
            refine hW.far hM hL hb e1 hcl (bs.getD r 0 * 4 + i') (by omega) ?_
            have := congrArg (fun x : Loc => match x with | .cell a => a | _ => ⟨0, 0, none⟩) e
            exact this
          · cases e
    · have hb0 := (hM.wr.lt _ _ _ hb).1
      by_cases e1 : b = gl
      · subst e1
        rw [hL'g] at ho
        cases ho
      · rw [hold b hb0 e1] at ho
        obtain ⟨x', g1, g2, g3⟩ := hM.wr.chans b c0 s n x cl sn rc0 t hb ho
        have hlt := (Array.getElem?_eq_some_iff.1 g1).1
        refine ⟨x', hrel.obj c0 _ ((hup c0 hlt).trans g1) not_cells_chan (.inr ⟨by show c0 < _; omega, (fun ⟨_, _, e⟩ => by cases e), (fun e => by cases e; omega), fun r hr hI => ?_⟩), g2.sub hsub⟩
        rcases hI with ⟨i', hi', e⟩ | ⟨x0, r0, hx0, hr0, e⟩
        · cases e
        · cases e
          have hmo : ∀ b' a', MapI L b' a' → ρ b' = some (c0, 0) → False := fun b' a' hm hb' => by
            obtain ⟨es, ck, h5, _⟩ := hm
            have hs0 : s = 0 := (hM.wr.others b c0 s _ hb ho not_cells_chan).1
            subst hs0
            have e9 := hM.wr.apartO b b' c0 0 0 _ _ hb hb' ho h5 not_cells_chan (fun _ _ _ e => by cases e)
            subst e9
            rw [ho] at h5
            cases h5
          rcases hr0 with hr0 | hr0
          · exact hmo _ _ (hL.rules _ _ hx0).1 hr0
          · exact hmo _ _ (hL.comes _ _ hx0).1 hr0
    · obtain ⟨_, o2, g2, g3, _⟩ := hM.wr.objs b c0 s o hb ho hor
      have hs0 : s = 0 := by
        obtain ⟨o9, hor9⟩ := hor
        exact (hM.wr.others b c0 s o hb ho hor9.notCells.1).1
      subst hs0
      have hlt := (Array.getElem?_eq_some_iff.1 g2).1
      by_cases hown : ∃ j, j < l.length ∧ ItA ρ lb l j (.obj c0)
      · obtain ⟨j, hj, hI⟩ := hown
        have hjy : j < ys.length := by rw [hyl]; exact hj
        have J := hys j _ (List.getElem?_eq_getElem hjy)
        obtain ⟨x, hx, _, _, z1, z2, _, _⟩ := J.x
        rcases hI with ⟨_, _, e⟩ | ⟨x0, r0, hx0, hr0, e⟩
        · cases e
        · cases e
          rw [hx] at hx0
          cases hx0
          have hmo : ∀ b' a', MapI L b' a' → ρ b' = some (c0, 0) → b = b' := fun b' a' hm hb' => by
            obtain ⟨es, ck, h5, _⟩ := hm
            obtain ⟨o9, hor9⟩ := hor
            exact hM.wr.apartO b b' c0 0 0 _ _ hb hb' ho h5 hor9.notCells.1 (fun _ _ _ e => by cases e)
          have hbb : b = ys[j].1.rb ∨ b = ys[j].1.cb := by
            rw [z1, z2]
            rcases hr0 with hr0 | hr0
            · exact .inl (hmo _ _ (hL.rules _ _ hx).1 hr0)
            · exact .inr (hmo _ _ (hL.comes _ _ hx).1 hr0)
          exact .inr (J.objs b o c0 hbb ho hb hor)
      · refine .inl ((hrel.obj c0 o2 ((hup c0 hlt).trans g2) g3.notCells.2 (.inr ⟨by show c0 < _; omega, (fun ⟨_, _, e⟩ => by cases e), (fun e => by cases e; omega), fun r hr hI => ?_⟩)).trans g2.symm)
        exact hown ⟨_, hbl _ (by rw [List.getD_eq_getElem?_getD, List.getElem?_eq_getElem hr]; exact List.getElem_mem hr), hI⟩
    · have hjl : j < l.length + 3 := by rw [← hpl]; exact (List.getElem?_eq_some_iff.1 hj).1
      have hwgc : RowAt w2 W.heap.size := by
        obtain ⟨o', h1, h2⟩ := hrel.shape W.heap.size _ (by rw [hh]; exact Array.getElem?_push_size)
        cases o' <;> simp [Alike] at h2
        exact ⟨_, _, _, h1⟩
      by_cases e : j < l.length
      · have hjy : j < ys.length := by rw [hyl]; exact e
        obtain ⟨h1, h2⟩ := hplj j _ (List.getElem?_eq_getElem hjy)
        have J := hys j _ (List.getElem?_eq_getElem hjy)
        generalize ys[j] = y at h1 h2 J
        rw [h1] at hj
        rw [h2] at hvs
        cases hvs
        have hj2 : y.2 = (c0, s) := Option.some.inj hj
        rcases J.last with ⟨a1, a2, a3, _⟩ | ⟨a1, sc, a2, a3, a4, a5⟩
        · rw [hj2] at a3
          cases a3
          rw [a1]
          exact ⟨hwgc, fun i v hv => by simp [flatX] at hv⟩
        · rw [hj2] at a3 a5
          simp only at a3 a5
          have hcell : ∀ (i : Nat) v, (flatX y.1.sent)[i]? = some v → ∃ v', w2.cell? ⟨c0, s + i, none⟩ = some v' ∧ VR (InV acL acV) ρ' v v' ∧ (k'.W (.cell ⟨c0, s + i, none⟩) ∨ k'.R (.cell ⟨c0, s + i, none⟩)) := fun i v hv => by
            have h5 := a5 i v hv
            obtain ⟨x, ee, fz, hx, _⟩ := cell_inv h5
            exact ⟨v, h5, (flatX_bare (List.mem_of_getElem? hv)).rel, .inl (hkN _ ⟨a3, (Array.getElem?_eq_some_iff.1 hx).1⟩)⟩
          refine ⟨?_, hcell⟩
          obtain ⟨z, zs, hzs⟩ := List.exists_cons_of_ne_nil a1
          obtain ⟨x, ee, fz, hx, _⟩ := cell_inv (a5 0 (.int .i64 z.time) (by rw [hzs]; rfl))
          exact ⟨x, ee, fz, hx⟩
      · obtain ⟨i, rfl⟩ := Nat.exists_eq_add_of_le (Nat.le_of_not_lt e)
        obtain ⟨h1, h2⟩ := hpe i (by omega)
        rw [h1] at hj
        rw [h2] at hvs
        cases hvs
        refine ⟨?_, fun i v hv => by simp at hv⟩
        obtain rfl | rfl | rfl : i = 0 ∨ i = 1 ∨ i = 2 := by omega
        · simp at hj; obtain ⟨rfl, rfl⟩ := hj; exact hwgc
        · simp at hj; obtain ⟨rfl, rfl⟩ := hj; exact hb1.2
        · simp at hj; obtain ⟨rfl, rfl⟩ := hj; exact hb2.2
  have hLz : L.heap.size ≤ L'.heap.size := by rw [show L'.heap.size = _ from joinA_size]; omega
  have hly : ∀ (j : Nat) x, l'[j]? = some x → ∃ y : AL × (Nat × Nat), ys[j]? = some y ∧ x = y.1 := fun j x hx => by
    obtain ⟨hi, rfl⟩ := List.getElem?_eq_some_iff.1 hx
    exact hat j hi
  have hlx : ∀ (j : Nat) x', l'[j]? = some x' → ∃ x, l[j]? = some x ∧ x'.rb = x.rb ∧ x'.cb = x.cb ∧ x'.ra = x.ra ∧ x'.ca = x.ca := fun j x' hx' => by
    obtain ⟨y, h1, rfl⟩ := hly j x' hx'
    obtain ⟨x, h2, _, _, h3⟩ := (hys j y h1).x
    exact ⟨x, h2, h3⟩
  have hmapk : ∀ {b a}, MapI L b a → MapI L' b a := fun {b a} hm => hm.keep (hold b hm.lt fun e => by
    have := hm.not_cells hL.blk
    exact this e.symm)
  have hcv : ∀ {x x' : AL} (u : Int), x'.ca = x.ca → cvA x' u = cvA x u := fun {x x'} u e => by unfold cvA; rw [e]
  have hlies : LiesA L' B base gl R c l' := by
    refine ⟨hL'g, hll.trans hL.len, fun i x hx => ?_, fun i x hx => ?_, fun i x u hx => ?_, fun i j x y u v hx hy hij => ?_, fun i j x y hx hy => ?_, fun x hx => ?_, fun x hx => ?_, hL.low, hL.below, Nat.le_trans hL.bound hLz⟩
    · obtain ⟨x0, h0, z1, z2, z3, z4⟩ := hlx i x hx
      obtain ⟨q1, q2⟩ := hL.rules i x0 h0
      rw [z1, z3]
      exact ⟨hmapk q1, q2⟩
    · obtain ⟨x0, h0, z1, z2, z3, z4⟩ := hlx i x hx
      obtain ⟨q1, q2⟩ := hL.comes i x0 h0
      rw [z2, z4]
      exact ⟨hmapk q1, q2⟩
    · obtain ⟨x0, h0, z1, z2, z3, z4⟩ := hlx i x hx
      rw [hcv u z4]
      exact own_of_block (hL.own i x0 u h0) fun b hb => by
        obtain ⟨h3, cur, h4⟩ := own_block_at (hL.own i x0 u h0) hb
        exact hold b (Array.getElem?_eq_some_iff.1 h4).1 (by have := hL.below; omega)
    · obtain ⟨x0, h0, _, _, _, z4⟩ := hlx i x hx
      obtain ⟨y0, h0', _, _, _, z4'⟩ := hlx j y hy
      rw [hcv u z4, hcv v z4']
      exact hL.apart i j x0 y0 u v h0 h0' hij
    · obtain ⟨x0, h0, z1, z2, _, _⟩ := hlx i x hx
      obtain ⟨y0, h0', z1', z2', _, _⟩ := hlx j y hy
      rw [z1, z2, z1', z2']
      exact hL.maps i j x0 y0 h0 h0'
    · obtain ⟨j, hj, rfl⟩ := List.getElem_of_mem hx
      obtain ⟨x0, h0, z1, z2, _, _⟩ := hlx j _ (List.getElem?_eq_getElem hj)
      rw [z1, z2]
      exact hL.high x0 (List.mem_of_getElem? h0)
    · obtain ⟨j, hj, rfl⟩ := List.getElem_of_mem hx
      obtain ⟨y, hy, hye⟩ := hat j hj
      rw [hye]
      rcases (hys j y hy).last with ⟨a1, a2, _⟩ | ⟨a1, sc, a2, a3, a4, a5⟩
      · exact .inl ⟨a1, a2⟩
      · refine .inr ⟨L.heap.size + j, sc, ρ.bad, (0, (flatX y.1.sent).length), a2, hM.pr.none, ?_, a1⟩
        rw [show L'.heap[L.heap.size + j]? = _ from joinA_new j, (hplj j y hy).2]
        rfl
  have hafter : AfterT R c t l l' := ⟨hll, fun j x hx => by
    have hj : j < ys.length := by rw [hyl]; exact (List.getElem?_eq_some_iff.1 hx).1
    obtain ⟨x0, h2, h3⟩ := (hys j _ (List.getElem?_eq_getElem hj)).x
    rw [hx] at h2
    cases h2
    exact ⟨ys[j].1, by simp [l', hj], h3⟩⟩
  refine ⟨ρ', l', L', L.heap.size + l.length, hsub, ⟨hmir, ⟨hM.pr.base, hM.pr.bad, hM.pr.none⟩⟩, hlies, hafter, hLz, hold, ⟨?_, hnch _⟩, ⟨?_, ?_⟩, ⟨?_, ?_⟩⟩
  · have := (hpe 0 (by omega)).1
    exact hto _ _ this
  · have := (hpe 1 (by omega)).1
    rw [Nat.add_assoc]
    exact hto _ _ this
  · rw [Nat.add_assoc]; exact hnch _
  · have := (hpe 2 (by omega)).1
    rw [Nat.add_assoc]
    exact hto _ _ this
  · rw [Nat.add_assoc]; exact hnch _
end
end Go.Proofs.Yticdjkkcfdbdcaa

/- The fork and the join of actor.Run, told of the lone world. No conditions but those named. -/
namespace Go.Proofs.Yticdjkkcfdbdcaa
open Go.Conc Go.ConcN Go.RowKit
theorem info_intT : Try.prog.info? 3 ≠ none := by
  have : (Try.prog.info? 3).isSome = true := by kernel_rfl
  intro e; rw [e] at this; cases this
theorem info_nowT : Try.prog.info? 141 ≠ none := by
  have : (Try.prog.info? 141).isSome = true := by kernel_rfl
  intro e; rw [e] at this; cases this
theorem info_ptrA : Try.prog.info? 142 ≠ none := by
  have : (Try.prog.info? 142).isSome = true := by kernel_rfl
  intro e; rw [e] at this; cases this
def ptrsA (gl : Nat) (bs : List Nat) : List Value := bs.map fun j => .pointer (some ⟨gl, j * 4, none⟩)
section
variable {Post : Value → World → Prop} {n0 : Nat} {W0 : World} {L : World} {B base gl bN bW bT m n c12 nbase : Nat} {t : Int} {nv : Value} {R : List (List RuleR)} {c : Come} {l : List AL} {bs : List Nat} {r26 r27 rT rB rA rG rI rW : Array Oper} {rest : Code} {fn : FuncId} {Q : Exit → Act → World → Prop} {a : Act}
set_option maxRecDepth 100000 in
set_option maxHeartbeats 1000000 in
theorem ma_fork (z26 : r26.size = 1) (T26 : OpIs r26 0 (.alloc 114) (some 19)) (z27 : r27.size = 2) (T27 : OpIs r27 0 (.load 3 (.tmp 7)) (some 108)) (T27' : OpIs r27 1 (.move (.const (.int .i64 0))) (some 109))
    (T : SpawnB 63 rT rB rA rG rI rW 19 108 109 110 111 20 112 113 114 115 #[.tmp 19, .tmp 20, .tmp 16, .tmp 7, .tmp 15]) (hm : 1 ≤ m ∧ m ≤ 16) (az : a.tmps.size = 178) (t12 : a.eval (.tmp 12) = .slice (some ⟨gl, 0, none⟩) n c12) (t7 : a.eval (.tmp 7) = .pointer (some ⟨bW, 0, none⟩)) (t15 : a.eval (.tmp 15) = .pointer (some ⟨bT, 0, none⟩)) (t16 : a.eval (.tmp 16) = .pointer (some ⟨bN, 0, none⟩))
    (hL : LiesA L B base gl R c l) (hnil : ∀ x ∈ l, x.sv = .slice none 0 0 ∧ x.sent = []) (hbW : L.heap[bW]? = some (.cells #[.int .i64 m] 3 (0, 0))) (hbT : L.heap[bT]? = some (.cells #[.int .i64 t] 3 (0, 0))) (hbN : L.heap[bN]? = some (.cells #[nv] 141 (0, 0))) (hnv : L.ownsRow nbase 142 1 nv bs.length (ptrsA gl bs))
    (hmd : ∀ j, ∀ r ∈ R.getD j [], 0 ≤ r.mod ∧ (r.mod ≠ 0 → 0 ≤ r.after ∧ r.after ≤ 1000)) (hfew : ∀ j, (c j t).length < 900000) (hti : ∀ j, ∀ y ∈ c j t, 0 ≤ y.time ∧ y.time ≤ 1000000)
    (hbsl : bs.length ≤ 100000) (hnd : bs.Nodup) (hbl : ∀ j ∈ bs, j < l.length) (hbe : ∀ j, j < l.length → j ∉ bs → c j t = [])
    (hn : ∀ (x : Nat → Value) l' L', LiesA L' B base gl R c l' → AfterT R c t l l' → L.heap.size ≤ L'.heap.size → (∀ b, b < L.heap.size → b ≠ gl → L'.heap[b]? = L.heap[b]?) →
      Mp (InV acL acV) Try.prog (fun k g w => Win Try.prog Post n0 W0 k g w) fn rest false Q (putL [19, 108, 109, 110, 111, 20, 112, 113, 114, 115] x a) L') :
    Mp (InV acL acV) Try.prog (fun k g w => Win Try.prog Post n0 W0 k g w) fn (.seq (.region 26 r26 false) (.seq (.seq (.region 27 r27 false) (.block 6 (.loop (spawnCB 28 29 30 31 32 7 6 rT rB rA rG rI 110)))) (.seq (.region 33 rW false) rest))) false Q a L := by
  intro b' K' base0 ρ k W a' h1 h2 h3 h4 h5
  have hk : b'.kind ≠ .early := by rw [h2]; simp
  have hJ : JOk Try.prog true _ _ := win_jok (P := Try.prog) (Post := Post) (n0 := n0) (W0 := W0)
  refine win_pre fun hO hmem => ?_
  have vpt : ∀ {tt bL : Nat} {x : Array Value} {e : TypeId}, a.eval (.tmp tt) = .pointer (some ⟨bL, 0, none⟩) → L.heap[bL]? = some (.cells x e (0, 0)) → Try.prog.info? e ≠ none → bL ≠ gl → ∃ bw, ρ bL = some (bw, 0) ∧ ¬ ρ.isChan bL ∧ a'.eval (.tmp tt) = .pointer (some ⟨bw, 0, none⟩) ∧
      ∀ (i : Nat) v, x[i]? = some v → ∃ v', W.cell? ⟨bw, i, none⟩ = some v' ∧ VR (InV acL acV) ρ v v' ∧ Lik k ⟨bw, i, none⟩ := fun {tt bL x e} ht hb he _ => by
    have vp := h4.eval.1 (.tmp tt) trivial
    rw [ht] at vp
    generalize a'.eval (.tmp tt) = v at vp
    cases vp with
    | ptr hA =>
      obtain ⟨⟨_, hnc⟩, cc, s, h6, rfl⟩ := hA
      obtain ⟨rfl, _, hrow⟩ := h3.row h6 hb he
      refine ⟨cc, h6, hnc, rfl, fun i v hv => ?_⟩
      obtain ⟨v', g1, g2, g3, _⟩ := hrow i v hv
      exact ⟨v', g1, g2, g3⟩
  have tne : ∀ {bL : Nat} {x : Array Value} {e : TypeId}, L.heap[bL]? = some (.cells x e (0, 0)) → e ≠ 140 → bL ≠ gl := fun {bL x e} hb he e2 => by
    rw [e2, show L.heap[gl]? = _ from hL.blk] at hb
    injection hb with hb
    injection hb with _ ht _
    exact he ht.symm
  have nW := tne hbW (by decide)
  have nT := tne hbT (by decide)
  have nN := tne hbN (by decide)
  obtain ⟨bw, rW0, cW, e7, cellW⟩ := vpt t7 hbW info_intT nW
  obtain ⟨bt, rT0, cT, e15, cellT⟩ := vpt t15 hbT info_intT nT
  obtain ⟨bn, rN0, cN, e16, cellN⟩ := vpt t16 hbN info_nowT nN
  have vp12 := h4.eval.1 (.tmp 12) trivial
  rw [t12] at vp12
  have hgl : (∃ c, ρ gl = some c) ∧ ¬ ρ.isChan gl := by
    generalize a'.eval (.tmp 12) = v at vp12
    cases vp12 with
    | slice hA _ _ => obtain ⟨⟨_, hc⟩, c, s, h6, _⟩ := hA; exact ⟨⟨_, h6⟩, hc⟩
  obtain ⟨lb, hW⟩ := hL.inW h3 hgl.1 hgl.2
  obtain ⟨vw, w1', w2', w3'⟩ := cellW 0 (.int .i64 m) rfl
  obtain rfl := vr_int w2'
  obtain ⟨vt, u1, u2, u3⟩ := cellT 0 (.int .i64 t) rfl
  obtain rfl := vr_int u2
  obtain ⟨vn, x1, x2, x3⟩ := cellN 0 nv rfl
  have hfarc : ∀ {bL bb : Nat} {x : Array Value} {e : TypeId}, ρ bL = some (bb, 0) → L.heap[bL]? = some (.cells x e (0, 0)) → bL ≠ gl → 0 < x.size → ∀ i, i < l.length * 4 → (⟨bb, 0, none⟩ : Addr) ≠ ⟨lb, i, none⟩ := fun {bL bb x e} hb hx hne hz i hi => by
    have hc : L.cell? ⟨bL, 0, none⟩ = some x[0] := by rw [cell_of_row _ _ _ _ _ _ hx]; exact Array.getElem?_eq_getElem hz
    have := hW.far h3 hL hb hne hc i hi
    rwa [Nat.add_zero] at this
  -- the row of those that have something to do
  obtain ⟨A, nc, rfl, hnow⟩ : ∃ A nc, vn = .slice A bs.length nc ∧ ∀ r, r < bs.length → ∃ nr no, A = some ⟨nr, no, none⟩ ∧ W.cell? ⟨nr, no + r, none⟩ = some (.pointer (some ⟨lb, bs.getD r 0 * 4, none⟩)) ∧ Lik k ⟨nr, no + r, none⟩ ∧ ∀ i, i < l.length * 4 → (⟨nr, no + r, none⟩ : Addr) ≠ ⟨lb, i, none⟩ := by
    rcases hnv.2 with ⟨e, e0⟩ | ⟨g, cap, cur, e, _, hcur, _, _, hcs, hct⟩
    · rw [e] at x2
      cases x2
      exact ⟨none, 0, by rw [e0], fun r hr => by omega⟩
    · rw [e] at x2
      cases x2 with
      | slice hA _ _ =>
        obtain ⟨_, cc, s, h6, rfl⟩ := hA
        simp only at h6
        obtain ⟨rfl, _, hrow⟩ := h3.row h6 hcur info_ptrA
        refine ⟨_, _, rfl, fun r hr => ⟨cc, 0, by simp, ?_⟩⟩
        have hcr : cur[r]? = some (.pointer (some ⟨gl, bs.getD r 0 * 4, none⟩)) := by
          have h7 : (ptrsA gl bs)[r]? = some (.pointer (some ⟨gl, bs.getD r 0 * 4, none⟩)) := by
            unfold ptrsA
            rw [List.getElem?_map, List.getElem?_eq_getElem hr, List.getD_eq_getElem?_getD, List.getElem?_eq_getElem hr]
            rfl
          rw [← hct, List.getElem?_take, if_pos (by omega)] at h7
          simpa using h7
        obtain ⟨v', g1, g2, g3, _⟩ := hrow r _ hcr
        rw [Nat.zero_add]
        have hv' : v' = .pointer (some ⟨lb, bs.getD r 0 * 4, none⟩) := by
          cases g2 with
          | ptr hA =>
            obtain ⟨_, c', s', h8, rfl⟩ := hA
            have := hW.at_
            simp only at h8
            rw [h8] at this
            cases this
            simp
        subst hv'
        refine ⟨g1, g3, fun i hi => ?_⟩
        have hcc : L.cell? ⟨g, r, none⟩ = some (.pointer (some ⟨gl, bs.getD r 0 * 4, none⟩)) := by rw [cell_of_row _ _ _ _ _ _ hcur]; exact hcr
        have := hW.far h3 hL h6 (tne hcur (by decide)) hcc i hi
        rwa [Nat.zero_add] at this
  have az' : a'.tmps.size = 178 := by rw [← h4.tmps.1]; exact az
  -- the group
  obtain ⟨o0, ho0, hop0, hg0, hd0⟩ := T26
  obtain ⟨o1, ho1, hop1, hg1, hd1⟩ := T27
  obtain ⟨o2, ho2, hop2, hg2, hd2⟩ := T27'
  refine js_seq hJ _ AtW.r (fun k1 w1 hS => j_ctl hJ (fun w => stepG_region) fun w₁ hR => ?_) (AtW.self k W)
  replace hS := AtW.r _ _ _ hS hR
  clear hR w1
  rw [z26, show List.range 1 = [0] from rfl]
  refine js_new hJ _ AtW.r hk ho0 (yld hg0 _) (fun w => run_allocWg _ _ hop0 w) (fun k2 w2 hS => ?_) hS
  obtain ⟨rfl, d, rfl⟩ := hS
  rw [hd0]
  refine js_regend hJ _ AtW.r (fun k1 w1 hS => js_seq hJ _ AtW.r (fun k1 w1 hS => js_seq hJ _ AtW.r (fun k1 w1 hS => j_ctl hJ (fun w => stepG_region) fun w₁ hR => ?_) hS) hS) (AtW.self _ _)
  replace hS := AtW.r _ _ _ hS hR
  clear hR w1
  rw [z27, show List.range 2 = [0, 1] from rfl]
  have x19 : (a'.put (some 19) (.pointer (some ⟨W.heap.size, 0, none⟩))).eval (.tmp 19) = .pointer (some ⟨W.heap.size, 0, none⟩) := eval_put_eq _ (by rw [az']; decide) _
  have xo : ∀ t, t ≠ 19 → (a'.put (some 19) (.pointer (some ⟨W.heap.size, 0, none⟩))).eval (.tmp t) = a'.eval (.tmp t) := fun t ht => eval_put_ne _ (fun e => ht e.symm) _
  have xz : (a'.put (some 19) (.pointer (some ⟨W.heap.size, 0, none⟩))).tmps.size = 178 := (put_size _ _ _).trans az'
  have xd : (a'.put (some 19) (.pointer (some ⟨W.heap.size, 0, none⟩))).defers = [] := h4.d'
  rw [show (W.at d).heap.size = W.heap.size from rfl] at hS ⊢
  generalize a'.put (some 19) (.pointer (some ⟨W.heap.size, 0, none⟩)) = a1 at x19 xo xz xd ⊢
  have hbwl := cell_lt w1'
  simp only at hbwl
  refine j_val hJ _ AtW.r hk ho1 (yld hg1 _) (v := .int .i64 m) (fun k w hS => ?_) (fun k3 w3 hS => ?_) hS
  · obtain ⟨rfl, d', rfl⟩ := hS
    refine opv_load hop1 ((xo 7 (by decide)).trans e7) (fun w => Try.isAgg3 w) (Eq.trans ?_ w1') (w3'.imp (fun h => .inl h) id)
    have : ∀ w : World, w.heap = W.heap.push (.cells #[.int .u64 0, .int .u32 0] 114) → w.cell? ⟨bw, 0, none⟩ = W.cell? ⟨bw, 0, none⟩ := fun w hw => by simp only [World.cell?, hw, Array.getElem?_push, if_neg (Nat.ne_of_lt hbwl)]
    exact this _ rfl
  rw [hd1]
  have y108 : (a1.put (some 108) (.int .i64 m)).eval (.tmp 108) = .int .i64 m := eval_put_eq _ (by rw [xz]; decide) _
  have y19 : (a1.put (some 108) (.int .i64 m)).eval (.tmp 19) = .pointer (some ⟨W.heap.size, 0, none⟩) := (eval_put_ne _ (by decide) _).trans x19
  have yo : ∀ t, t ≠ 19 → t ≠ 108 → (a1.put (some 108) (.int .i64 m)).eval (.tmp t) = a'.eval (.tmp t) := fun t ht ht' => (eval_put_ne _ (fun e => ht' e.symm) _).trans (xo t ht)
  have yz : (a1.put (some 108) (.int .i64 m)).tmps.size = 178 := (put_size _ _ _).trans xz
  have yd : (a1.put (some 108) (.int .i64 m)).defers = [] := xd
  generalize a1.put (some 108) (.int .i64 m) = a2 at y108 y19 yo yz yd ⊢
  refine j_val hJ _ AtW.r hk ho2 (yld hg2 _) (fun k w hS => opv_move (x := .const (.int .i64 0)) (.inl hop2)) (fun k3 w3 hS => ?_) hS
  rw [hd2, show a2.eval (.const (.int .i64 0)) = .int .i64 ((0 : Nat) : Int) from rfl]
  have u109 : (a2.put (some 109) (.int .i64 ((0 : Nat) : Int))).eval (.tmp 109) = .int .i64 ((0 : Nat) : Int) := eval_put_eq _ (by rw [yz]; decide) _
  have u108 : (a2.put (some 109) (.int .i64 ((0 : Nat) : Int))).eval (.tmp 108) = .int .i64 m := (eval_put_ne _ (by decide) _).trans y108
  have u19 : (a2.put (some 109) (.int .i64 ((0 : Nat) : Int))).eval (.tmp 19) = .pointer (some ⟨W.heap.size, 0, none⟩) := (eval_put_ne _ (by decide) _).trans y19
  have uo : ∀ t, t ≠ 19 → t ≠ 108 → t ≠ 109 → (a2.put (some 109) (.int .i64 ((0 : Nat) : Int))).eval (.tmp t) = a'.eval (.tmp t) := fun t ht ht' ht2 => (eval_put_ne _ (fun e => ht2 e.symm) _).trans (yo t ht ht')
  have uz : (a2.put (some 109) (.int .i64 ((0 : Nat) : Int))).tmps.size = 178 := (put_size _ _ _).trans yz
  have ud : (a2.put (some 109) (.int .i64 ((0 : Nat) : Int))).defers = [] := yd
  generalize a2.put (some 109) (.int .i64 ((0 : Nat) : Int)) = a3 at u109 u108 u19 uo uz ud ⊢
  refine js_regend hJ _ AtW.r (fun k1 w1 hS => js_block hJ _ AtW.r (fun k1 w1 hS => js_loop hJ _ AtW.r (fun k1 w1 hS => ?_) hS) hS) hS
  obtain ⟨rfl, d', rfl⟩ := hS
  refine ac_fork h3 hL hW (fun x hx => (hnil x hx).1) hmd hfew hti ⟨x1, x3, hfarc rN0 hbN nN (by simp)⟩ ⟨w1', w3', hfarc rW0 hbW nW (by simp)⟩ ⟨u1, u3, hfarc rT0 hbT nT (by simp)⟩ hnow hbsl hnd hbl T hm rfl uz ud u19 u108 u109 ((uo 16 (by decide) (by decide) (by decide)).trans e16) ((uo 7 (by decide) (by decide) (by decide)).trans e7) ((uo 15 (by decide) (by decide) (by decide)).trans e15) hk hmem
    fun aE w2 k' b1 b2 hSB q1 q2 q3 q4 hrel hkW hkR hkN hdone => ?_
  obtain ⟨ρ', l', L', nb, hsub, hm', hl', haf, hLz, hold, ⟨p1, p1c⟩, ⟨p2, p2c⟩, ⟨p3, p3c⟩⟩ := ac_join h3 hL hW hnil hbl hbe rfl ⟨q1, q3⟩ ⟨q2, q4⟩ hrel hkW hkR hkN hdone
  have vOld : ∀ t, t ∉ [19, 108, 109] → VR (InV acL acV) ρ' (a.eval (.tmp t)) (a3.eval (.tmp t)) := fun t ht => by
    simp only [List.mem_cons, List.not_mem_nil, or_false, not_or] at ht
    rw [uo t ht.1 ht.2.1 ht.2.2]
    exact (h4.eval.1 (.tmp t) trivial).sub hsub
  have hnbr : VR (InV acL acV) ρ' (.pointer (some ⟨nb, 0, none⟩)) (.pointer (some ⟨W.heap.size, 0, none⟩)) := .ptr ⟨⟨rfl, p1c⟩, _, _, p1, rfl⟩
  have hb1r : VR (InV acL acV) ρ' (.pointer (some ⟨nb + 1, 0, none⟩)) (.pointer (some ⟨b1, 0, none⟩)) := .ptr ⟨⟨rfl, p2c⟩, _, _, p2, rfl⟩
  have hb2r : VR (InV acL acV) ρ' (.pointer (some ⟨nb + 2, 0, none⟩)) (.pointer (some ⟨b2, 0, none⟩)) := .ptr ⟨⟨rfl, p3c⟩, _, _, p3, rfl⟩
  have hbox : ∀ {bL bb : Nat}, ρ bL = some (bb, 0) → ¬ ρ.isChan bL → VR (InV acL acV) ρ' (.pointer (some ⟨bL, 0, none⟩)) (.pointer (some ⟨bb, 0, none⟩)) := fun {bL bb} hb hc => (VR.ptr ⟨⟨rfl, hc⟩, _, _, hb, rfl⟩ : VR (InV acL acV) ρ _ _).sub hsub
  have vA3 : ∀ t, ∃ v, VR (InV acL acV) ρ' v (a3.eval (.tmp t)) := fun t => by
    by_cases ht : t ∈ [19, 108, 109]
    · simp only [List.mem_cons, List.not_mem_nil, or_false] at ht
      rcases ht with rfl | rfl | rfl
      · rw [u19]; exact ⟨_, hnbr⟩
      · rw [u108]; exact ⟨_, .int _ _⟩
      · rw [u109]; exact ⟨_, .int _ _⟩
    · exact ⟨_, vOld t ht⟩
  have vAll : ∀ t, ∃ v, VR (InV acL acV) ρ' v (aE.eval (.tmp t)) := fun t => by
    by_cases ht1 : t = 20
    · subst ht1
      rcases hSB.box with e | e
      · rw [e]; exact vA3 20
      · rw [e]; exact ⟨_, hb1r⟩
    · by_cases ht2 : t = 113
      · subst ht2
        rcases hSB.clo with e | e
        · rw [e]; exact vA3 113
        · rw [e]
          refine ⟨.func (.func 63) #[] #[.pointer (some ⟨nb, 0, none⟩), .pointer (some ⟨nb + 2, 0, none⟩), .pointer (some ⟨bN, 0, none⟩), .pointer (some ⟨bW, 0, none⟩), .pointer (some ⟨bT, 0, none⟩)], .func (by unfold InV acL acV; decide) rfl (fun i v v' h => by simp at h) rfl fun i v v' h h' => ?_⟩
          unfold capA at h'
          match i, h, h' with
          | 0, h, h' => simp at h h'; subst h h'; exact hnbr
          | 1, h, h' => simp at h h'; subst h h'; exact hb2r
          | 2, h, h' => simp at h h'; subst h h'; exact hbox rN0 cN
          | 3, h, h' => simp at h h'; subst h h'; exact hbox rW0 cW
          | 4, h, h' => simp at h h'; subst h h'; exact hbox rT0 cT
          | i + 5, h, _ => simp at h
      · rcases hSB.new t ht1 ht2 with e | ⟨x, e⟩ | ⟨x, e⟩ | e
        · rw [e]; exact vA3 t
        · rw [e]; exact ⟨_, .bool _⟩
        · rw [e]; exact ⟨_, .int _ _⟩
        · rw [e]; exact ⟨_, .tuple (x := #[]) rfl fun i v v' h => by simp at h⟩
  obtain ⟨x, hx⟩ := Classical.axiomOfChoice vAll
  refine hn x l' L' hl' haf hLz hold b' K' base0 ρ' k' w2 aE h1 h2 hm' ⟨⟨?_, fun i v v' hv hv' => ?_⟩, ?_, hSB.d⟩ (h5.at hsub fun e => by cases e)
  · rw [putL_size, az, hSB.size]
  · have hi : i < a.tmps.size := by have := (Array.getElem?_eq_some_iff.1 hv).1; rwa [putL_size] at this
    have e1 := putL_eval x [19, 108, 109, 110, 111, 20, 112, 113, 114, 115] a hi
    rw [eval_of hv] at e1
    have e2 := eval_of hv'
    rw [e1, ← e2]
    by_cases ht : i ∈ [19, 108, 109, 110, 111, 20, 112, 113, 114, 115]
    · rw [if_pos ht]; exact hx i
    · rw [if_neg ht, hSB.old i (fun h => by simp only [List.mem_cons, List.not_mem_nil, or_false] at h; rcases h with rfl | rfl | rfl | rfl | rfl | rfl | rfl | rfl <;> exact ht (by decide))]
      exact vOld i fun h => by simp only [List.mem_cons, List.not_mem_nil, or_false] at h; rcases h with rfl | rfl | rfl <;> exact ht (by decide)
  · rw [putL_defers]; exact h4.d
end
end Go.Proofs.Yticdjkkcfdbdcaa

/- The region of actor.Run that lists an actor whose time has come, alone. No conditions but that what is read is there. -/
namespace Go.Proofs.Yticdjkkcfdbdcaa
open Go.Conc Go.ConcN Go.RowKit
theorem info_ptra : (Try.prog.info? 142).map (fun i => (i.zero, i.size, i.bytes)) = some (some (.pointer none), 1, 8) := by kernel_rfl
theorem a_sliceP {e : Operand → Value} {o : Oper} {w : World} {t : Tmp} {p : Addr} (hop : o.op = .buildSlice 141 1 #[(0, .tmp t)]) (h1 : e (.tmp t) = .pointer (some p)) : (execOp e o).run Try.prog w = .ok (.value (.slice (some ⟨w.heap.size, 0, none⟩) 1 1)) (w.alloc (.cells #[.pointer (some p)] 142)) := by
  simp [go_sem, hop, h1, execOp]
abbrev ownP (w : World) (base : Nat) (v : Value) (gl : Nat) (bs : List Nat) : Prop := w.ownsRow base 142 1 v bs.length (ptrsA gl bs)
/-- The region's world. -/
def SPw (W : World) (nbase gl bN i0 : Nat) (nv : Value) (bs : List Nat) (vs : List Value) (w : World) : Prop :=
  (∀ b, b < W.heap.size → some b ≠ nv.ownBlock → w.heap[b]? = W.heap[b]?) ∧ (w.os = W.os ∧ w.tape = W.tape ∧ w.output = W.output) ∧
  match vs with
  | [] => w.heap = W.heap
  | [v1] => v1 = .slice (some ⟨W.heap.size, 0, none⟩) 1 1 ∧ w.heap = (W.alloc (.cells #[.pointer (some ⟨gl, i0 * 4, none⟩)] 142)).heap
  | _ :: v2 :: _ => W.heap.size ≤ w.heap.size ∧ ownP w nbase v2 gl (bs ++ [i0])
def V21 (gl n c12 i0 : Nat) (nv : Value) : Nat → Value := fun j => match j with
  | 0 => nv
  | 1 => .slice (some ⟨gl, 0, none⟩) n c12
  | 2 => .int .i64 i0
  | 3 => .pointer (some ⟨gl, i0 * 4, none⟩)
  | _ => undef
set_option maxRecDepth 100000 in
theorem u21_ok : drawOk (opsOf Try.f24 21) 6 = true := by kernel_rfl
set_option maxRecDepth 100000 in
theorem u21_ch : chainOk (opsOf Try.f24 21) 6 [4, 5] = true := by kernel_rfl
set_option maxRecDepth 100000 in
theorem u21_wp {ops : Array Oper} (hops : ops = opsOf Try.f24 21) {a : Act} {W : World} {nbase gl n c12 i0 bN : Nat} {nv : Value} {bs : List Nat}
    (hz : a.tmps.size = 178) (t12 : a.eval (.tmp 12) = .slice (some ⟨gl, 0, none⟩) n c12) (t17 : a.eval (.tmp 17) = .int .i64 i0) (t16 : a.eval (.tmp 16) = .pointer (some ⟨bN, 0, none⟩)) (hi : i0 < n) (hbN : W.heap[bN]? = some (.cells #[nv] 141 (0, 0))) (ho : ownP W nbase nv gl bs) (hnb : nbase ≤ W.heap.size) (hs : bs.length < 900000) {Q : Exit → Act → World → Prop} {id : Nat}
    (hQ : ∀ v1 v2 w', w'.heap[bN]? = some (.cells #[v2] 141 (0, 0)) → ownP w' nbase v2 gl (bs ++ [i0]) → (∀ b, b < W.heap.size → some b ≠ nv.ownBlock → b ≠ bN → w'.heap[b]? = W.heap[b]?) → W.heap.size ≤ w'.heap.size → w'.os = W.os ∧ w'.tape = W.tape ∧ w'.output = W.output →
      Q .normal (putsV ops (VE [4, 5] (V21 gl n c12 i0 nv) [v1, v2]) (List.range 6) a) w') : (Code.region id ops true).wp Try.prog Q a W := by
  subst hops
  have hdd := drawOk_d u21_ok
  have nw : ∀ (V : Nat → Value) t j, prodOf (opsOf Try.f24 21) t = some j → j < 6 → t < 178 → (putsV (opsOf Try.f24 21) V (List.range 6) a).eval (.tmp t) = V j := fun V t j h1 h2 h3 => puts_new hdd h1 h2 (by rw [hz]; exact h3)
  have od : ∀ (V : Nat → Value) t, prodOf (opsOf Try.f24 21) t = none → (putsV (opsOf Try.f24 21) V (List.range 6) a).eval (.tmp t) = a.eval (.tmp t) := fun V t h => puts_old hdd h
  have hsz : (opsOf Try.f24 21).size = 7 := by kernel_rfl
  have hbl : bN < W.heap.size := (Array.getElem?_eq_some_iff.1 hbN).1
  have hbc := cells_at hbN 0 _ rfl
  have hbr : some bN ≠ nv.ownBlock := fun e => by
    obtain ⟨_, cur, h2⟩ := own_block_at ho e.symm
    rw [hbN] at h2; cases h2
  obtain ⟨j0, hj0, hy0, hy1, hy2⟩ := info_parts info_ptra
  refine wp_drawnE mixed_orders u21_ok u21_ch (SPw W nbase gl bN i0 nv bs) (V21 gl n c12 i0 nv) (fun i o hio him hiE vs w hS => ?_) (fun q i o hq hio vs w hl hS => ?_) (fun vs w hl hS => ?_) (fun d => ⟨fun _ _ _ => rfl, ⟨rfl, rfl, rfl⟩, rfl⟩)
  · have hil : i < 7 := by have := (Array.getElem?_eq_some_iff.1 hio).1; omega
    have h4 : i ≠ 4 := fun e => hiE (by subst e; simp)
    have h5 : i ≠ 5 := fun e => hiE (by subst e; simp)
    obtain rfl | rfl | rfl | rfl : i = 0 ∨ i = 1 ∨ i = 2 ∨ i = 3 := by omega
    · exact q_load (op_of (p := .load 141 (.tmp 16)) (by kernel_rfl) hio) ((od _ 16 (by kernel_rfl)).trans t16) (fun w => Try.isAgg141 w) ((World.cell?_of_block (hS.1 bN hbl hbr)).trans hbc)
    · exact a_mv (op_of (p := .move (.tmp 12)) (by kernel_rfl) hio) ((od _ 12 (by kernel_rfl)).trans t12)
    · exact a_mv (op_of (p := .move (.tmp 17)) (by kernel_rfl) hio) ((od _ 17 (by kernel_rfl)).trans t17)
    · exact a_index (op_of (p := .indexAddr 135 (.tmp 96) (.tmp 97)) (by kernel_rfl) hio) (nw _ 96 1 (by kernel_rfl) (by decide) (by decide)) (nw _ 97 2 (by kernel_rfl) (by decide) (by decide)) hi Try.underlying135 (fun w => Try.sizeOf140 w) (by omega)
  · match q, hq with
    | 0, hq =>
      obtain rfl : 4 = i := by simpa using hq
      obtain rfl : vs = [] := List.eq_nil_of_length_eq_zero hl
      obtain ⟨_, ho3, hw⟩ := hS
      refine ⟨.slice (some ⟨W.heap.size, 0, none⟩) 1 1, w.alloc (.cells #[.pointer (some ⟨gl, i0 * 4, none⟩)] 142), ?_, fun b hb _ => ?_, ho3, rfl, ?_⟩
      · have := a_sliceP (e := (putsV (opsOf Try.f24 21) (VE [4, 5] (V21 gl n c12 i0 nv) []) (List.range 6) a).eval) (w := w) (p := ⟨gl, i0 * 4, none⟩) (op_of (by kernel_rfl) hio) (nw _ 98 3 (by kernel_rfl) (by decide) (by decide))
        rw [hw] at this
        exact this
      · rw [Below.heap_alloc _ _ _ (by rw [hw]; exact hb), hw]
      · show w.heap.push _ = W.heap.push _
        rw [hw]
    | 1, hq =>
      obtain rfl : 5 = i := by simpa using hq
      match vs, hl with
      | [v1], _ =>
        obtain ⟨hfr, ⟨ho1, ho2, ho3⟩, hv1, hw⟩ := hS
        subst hv1
        have hsz1 : w.heap.size = W.heap.size + 1 := by rw [hw]; simp
        have hold : ∀ b, b < W.heap.size → w.heap[b]? = W.heap[b]? := fun b hb => by rw [hw]; exact Below.heap_alloc W _ b hb
        have hox : ownP w nbase nv gl bs := own_of_block ho fun b hb => hold b (ho.lt _ hb).2
        have hnn : w.heap[W.heap.size]? = some (.cells #[.pointer (some ⟨gl, i0 * 4, none⟩)] 142 (0, 0)) := by rw [hw]; exact heap_alloc_new W _
        have e95 : (putsV (opsOf Try.f24 21) (VE [4, 5] (V21 gl n c12 i0 nv) [.slice (some ⟨W.heap.size, 0, none⟩) 1 1]) (List.range 6) a).eval (.tmp 95) = nv := nw _ 95 0 (by kernel_rfl) (by decide) (by decide)
        have e99 : (putsV (opsOf Try.f24 21) (VE [4, 5] (V21 gl n c12 i0 nv) [.slice (some ⟨W.heap.size, 0, none⟩) 1 1]) (List.range 6) a).eval (.tmp 99) = .slice (some ⟨W.heap.size, 0, none⟩) 1 1 := nw _ 99 4 (by kernel_rfl) (by decide) (by decide)
        have hop : o.op = .call { callee := .builtin .append, args := #[.tmp 95, .tmp 99], argTypes := #[141, 141] } := op_of (by kernel_rfl) hio
        obtain ⟨v', w', r1, r2, r3, _, r5⟩ := run_append_own_at (P := Try.prog) w nbase 141 o.type 142 j0 (.pointer none) 1 8 Try.underlying141 hj0 hy0 hy1 hy2 rfl (by decide) nv bs.length (ptrsA gl bs) hox ⟨W.heap.size, 0, none⟩ 1 1 [.pointer (some ⟨gl, i0 * 4, none⟩)] rfl (fun j u hu => by
            rw [show ((⟨W.heap.size, 0, none⟩ : Addr).add j) = ⟨W.heap.size, j, none⟩ by simp [Addr.add_lit']]
            exact cells_at (cs := [.pointer (some ⟨gl, i0 * 4, none⟩)]) hnn j u hu) (fun u hu => by simp at hu; subst hu; rfl) (by unfold maxLen; omega) (by omega) (by omega)
        refine ⟨v', w', ?_, fun b hb hne => (r3.block b (by omega) hne).trans (hold b hb), ⟨r3.os.trans ho1, r3.tape.trans ho2, r3.output.trans ho3⟩, by have := r3.size; omega, ?_⟩
        · unfold execOp
          simp only [hop, resolve, invoke, builtin, Sem.run_bind, Sem.run_pure, Result.andThen_ok, List.map_toArray, List.map_cons, List.map_nil, e95, e99, r1]
        · unfold ownP
          rw [List.length_append, show ptrsA gl (bs ++ [i0]) = ptrsA gl bs ++ [.pointer (some ⟨gl, i0 * 4, none⟩)] by simp [ptrsA]]
          exact r2
    | q + 2, hq => simp at hq
  · match vs, hl with
    | [v1, v2], _ =>
      obtain ⟨hfr, ho3, hsz, hox⟩ := hS
      have e16 : (putsV (opsOf Try.f24 21) (VE [4, 5] (V21 gl n c12 i0 nv) [v1, v2]) (List.range 6) a).eval (.tmp 16) = .pointer (some ⟨bN, 0, none⟩) := (od _ 16 (by kernel_rfl)).trans t16
      have e100 : (putsV (opsOf Try.f24 21) (VE [4, 5] (V21 gl n c12 i0 nv) [v1, v2]) (List.range 6) a).eval (.tmp 100) = v2 := nw _ 100 5 (by kernel_rfl) (by decide) (by decide)
      obtain ⟨o, ho6, hop, hgd, hdst⟩ := op_ex (ops := (opsOf Try.f24 21)) (i := 6) (p := .store 141 (.tmp 16) (.tmp 100)) (d := none) (by kernel_rfl)
      have hbw : w.heap[bN]? = some (.cells #[nv] 141 (0, 0)) := (hfr bN hbl hbr).trans hbN
      obtain ⟨A2, c2, rfl, _, _⟩ := own_form hox
      have g1 := (op_store (P := Try.prog) (fn := 0) (k := ⟨fun _ => True, fun _ => True, fun _ => True⟩) (w := w) hop e16 e100 ⟨fun c h => (by cases h), fun c h => (by cases h)⟩ (fun w => Try.sizeOf141 w) (cells_at hbw 0 _ rfl) (frozen_at hbw 0) trivial).1
      have hne : ∀ b, b ≠ bN → (w.setCell ⟨bN, 0, none⟩ (.slice A2 (bs ++ [i0]).length c2)).heap[b]? = w.heap[b]? := fun b hb => setCell_ne hb
      simp only [wpOps, ho6, yld hgd, if_true]
      refine .inl ?_
      unfold Oper.wp
      rw [g1, Oper.upon_skip, hdst, put_none]
      refine hQ v1 _ _ ?_ (own_of_block hox fun b hb => hne b fun e => ?_) (fun b h1 h2 h3 => (hne b h3).trans (hfr b h1 h2)) (by rw [setCell_size]; exact hsz) ho3
      · rw [setCell_get (a := ⟨bN, 0, none⟩) rfl hbw]; rfl
      · obtain ⟨_, cur, h2⟩ := own_block_at hox hb
        rw [e, hbw] at h2; cases h2
end Go.Proofs.Yticdjkkcfdbdcaa
