/- The memory of graph.Run at its fork, as it lies in company. No conditions but those named. -/
import Derived.Test.YticdjkkcfdbdcaaGrRs
import Derived.Test.YticdjkkcfdbdcaaGrN
import Derived.Test.YticdjkkcfdbdcaaGrW
import Derived.Test.YticdjkkcfdbdcaaSpawnA
import Derived.Test.YticdjkkcfdbdcaaTell
namespace Go.Proofs.Yticdjkkcfdbdcaa
open Go.Conc Go.ConcN Go.RowKit
section
variable {S : FnSet} {P : Program} {ρ : Ren} {k : LK} {L W : World}
theorem own_topG {w : World} {base size n : Nat} {e : TypeId} {v : Value} {vs : List Value} (h : w.ownsRow base e size v n vs) (hn : 0 < n) : ∃ g c, v = .slice (some ⟨g, 0, none⟩) n c ∧ base ≤ g ∧ g < w.heap.size ∧ n ≤ c ∧ c ≤ maxLen := by
  rcases h.2 with ⟨_, h0⟩ | ⟨g, cap, cur, hv, hb, hg, hnc, hcm, _⟩
  · omega
  · exact ⟨g, cap, hv, hb, (Array.getElem?_eq_some_iff.1 hg).1, hnc, hcm⟩
theorem vr_intG {n : Int} {kd : IntKind} {v : Value} (h : VR S ρ (.int kd n) v) : v = .int kd n := by cases h; rfl
/-- A row of the lone world's own, in company. -/
theorem row_in (h : Mir S P ρ k L W) {b c s : Nat} {t : TypeId} {vs : List Value} (hb : ρ b = some (c, s)) (hB : Blk L b t vs) (ht : P.info? t ≠ none) : s = 0 ∧ (∃ x' fz', W.heap[c]? = some (.cells x' t fz')) ∧ ∀ (i : Nat) v, vs[i]? = some v → ∃ v', W.cell? ⟨c, i, none⟩ = some v' ∧ VR S ρ v v' ∧ k.W (.cell ⟨c, i, none⟩) ∧ W.frozen? ⟨c, i, none⟩ = false := by
  obtain ⟨x', e', fz', h1, h2⟩ := h.wr.shapes b c s _ t _ hb hB
  obtain ⟨hs, ht'⟩ : s = 0 ∧ e' = t := by
    rcases h2 with h2 | h2
    · exact ⟨h2.2.1, h2.2.2.2⟩
    · exact absurd (h2.2 ▸ h.pr.none) ht
  subst hs ht'
  refine ⟨rfl, ⟨_, _, h1⟩, fun i v hv => ?_⟩
  obtain ⟨x2, e2, fz2, v', g1, g2, g3, g4, g5⟩ := h.wr.cells b c 0 _ e' _ hb hB i v (by simpa using hv)
  rw [Nat.zero_add] at g2 g4 g5
  obtain ⟨g6, g7⟩ := g5 (by omega)
  refine ⟨v', by simp [World.cell?, g1, g2], g3, g6, ?_⟩
  simp only [World.frozen?, g1]
  simpa using g7
theorem ptr_in (h : Mir S P ρ k L W) {b : Nat} {t : TypeId} {vs : List Value} {v' : Value} (hB : Blk L b t vs) (ht : P.info? t ≠ none) (hv : VR S ρ (.pointer (some ⟨b, 0, none⟩)) v') : ∃ c, ρ b = some (c, 0) ∧ ¬ ρ.isChan b ∧ v' = .pointer (some ⟨c, 0, none⟩) := by
  cases hv with
  | ptr hA =>
    obtain ⟨⟨_, hn⟩, c, s, hb, rfl⟩ := hA
    obtain ⟨rfl, _⟩ := row_in h hb hB ht
    exact ⟨c, hb, hn, rfl⟩
theorem slice_in (h : Mir S P ρ k L W) {b l c0 : Nat} {t : TypeId} {vs : List Value} {v' : Value} (hB : Blk L b t vs) (ht : P.info? t ≠ none) (hv : VR S ρ (.slice (some ⟨b, 0, none⟩) l c0) v') : ∃ c, ρ b = some (c, 0) ∧ ¬ ρ.isChan b ∧ v' = .slice (some ⟨c, 0, none⟩) l c0 := by
  cases hv with
  | slice hA _ _ =>
    obtain ⟨⟨_, hn⟩, c, s, hb, rfl⟩ := hA
    obtain ⟨rfl, _⟩ := row_in h hb hB ht
    exact ⟨c, hb, hn, rfl⟩
/-- Any cell of the lone world's. -/
theorem cell_in (h : Mir S P ρ k L W) {b c s o : Nat} {v : Value} (hb : ρ b = some (c, s)) (hn : ¬ ρ.isChan b) (hc : L.cell? ⟨b, o, none⟩ = some v) : ∃ v', W.cell? ⟨c, s + o, none⟩ = some v' ∧ VR S ρ v v' ∧ Lik k ⟨c, s + o, none⟩ :=
  h.wr.load (a := ⟨b, o, none⟩) (a' := ⟨c, s + o, none⟩) ⟨⟨rfl, hn⟩, c, s, hb, rfl⟩ hc
/-- .. and it is none of a row's of its own. -/
theorem far_in (h : Mir S P ρ k L W) {b c s o : Nat} {v : Value} (hb : ρ b = some (c, s)) (hc : L.cell? ⟨b, o, none⟩ = some v) {b' c' : Nat} {t : TypeId} {vs : List Value} (hb' : ρ b' = some (c', 0)) (hB : Blk L b' t vs) (hne : b ≠ b') : ∀ i, i < vs.length → (⟨c, s + o, none⟩ : Addr) ≠ ⟨c', i, none⟩ := by
  intro i hi e
  have e1 : c = c' := by injection e
  have e2 : s + o = i := by injection e
  subst e1
  obtain ⟨x, ee, fz, hx, hv⟩ : ∃ x e fz, L.heap[b]? = some (.cells x e fz) ∧ x[o]? = some v := by
    unfold World.cell? at hc
    cases ho : L.heap[b]? with
    | none => simp [ho] at hc
    | some ob => cases ob with
      | cells x e fz => simp [ho] at hc; exact ⟨x, e, fz, rfl, hc⟩
      | _ => simp [ho] at hc
  have := h.wr.apart b' b c 0 s _ x t ee _ fz i o hb' hb hB hx (by simpa using hi) (Array.getElem?_eq_some_iff.1 hv).1 (by omega) (by omega)
  exact hne this.symm
end
/-- Where it all lies in company. -/
structure RunN (ρ : Ren) (g bJ : Nat) (M : GLoc) (X : GBox) (lb xb ob : Nat) : Prop where
  j : ρ bJ = some (X.jobs, 0)
  num : ρ g = some (M.nb, 0)
  bn : ρ (g + 1) = some (X.nums, 0)
  left : ρ (g + 2) = some (lb, 0)
  bl : ρ (g + 3) = some (X.left, 0)
  row : ρ (g + 4) = some (xb, 0)
  bx : ρ (g + 5) = some (X.next, 0)
  ch : ρ (g + 6) = some (M.c, 0)
  bc : ρ (g + 7) = some (X.ch, 0)
  ov : ρ (g + 8) = some (ob, 0)
  nc : ∀ b, (b = bJ ∨ b = g ∨ b = g + 1 ∨ b = g + 2 ∨ b = g + 3 ∨ b = g + 4 ∨ b = g + 5 ∨ b = g + 7 ∨ b = g + 8) → ¬ ρ.isChan b
  la : ∀ k, M.la k = ⟨lb, k, none⟩
  mov : M.ov = ⟨ob, 0, none⟩
theorem tinfo : (∀ t, (t = 34 ∨ t = 2 ∨ t = 23 ∨ t = 128 ∨ t = 124 ∨ t = 39 ∨ t = 125 ∨ t = 126) → Try.prog.info? t ≠ none) := by
  have h : ∀ t, (t = 34 ∨ t = 2 ∨ t = 23 ∨ t = 128 ∨ t = 124 ∨ t = 39 ∨ t = 125 ∨ t = 126) → (Try.prog.info? t).isSome = true := by
    rintro t (rfl | rfl | rfl | rfl | rfl | rfl | rfl | rfl) <;> kernel_rfl
  intro t ht e
  have := h t ht
  rw [e] at this
  cases this
section
variable {ρ : Ren} {k : LK} {L0 L W : World} {g bJ : Nat} {A : Option Addr} {c n : Nat} {left : Nat → Int} {nxf : Nat → List Int} {vs : List Value} {q : List Nat} {cl : Bool}
/-- The names, from what the temporaries hold. -/
theorem names_in (hM : Mir (InV grL grV) Try.prog ρ k L W) (hR : RunSt L0 L g bJ A c n left nxf vs q cl) {v2 v7 v8 v9 v10 v11 : Value} (h2 : VR (InV grL grV) ρ (.pointer (some ⟨bJ, 0, none⟩)) v2) (h7 : VR (InV grL grV) ρ (.pointer (some ⟨g + 1, 0, none⟩)) v7) (h8 : VR (InV grL grV) ρ (.pointer (some ⟨g + 3, 0, none⟩)) v8) (h9 : VR (InV grL grV) ρ (.pointer (some ⟨g + 5, 0, none⟩)) v9) (h10 : VR (InV grL grV) ρ (.pointer (some ⟨g + 7, 0, none⟩)) v10) (h11 : VR (InV grL grV) ρ (.pointer (some ⟨g + 8, 0, none⟩)) v11) (val : Nat → Int) :
    ∃ (M : GLoc) (X : GBox) (lb xb ob : Nat), RunN ρ g bJ M X lb xb ob ∧ M.val = val ∧ v2 = .pointer (some ⟨X.jobs, 0, none⟩) ∧ v7 = .pointer (some ⟨X.nums, 0, none⟩) ∧ v8 = .pointer (some ⟨X.left, 0, none⟩) ∧ v9 = .pointer (some ⟨X.next, 0, none⟩) ∧ v10 = .pointer (some ⟨X.ch, 0, none⟩) ∧ v11 = .pointer (some M.ov) := by
  obtain ⟨c2, r2, n2, rfl⟩ := ptr_in hM hR.bj (tinfo _ (by simp)) h2
  obtain ⟨c7, r7, n7, rfl⟩ := ptr_in hM hR.bn (tinfo _ (by simp)) h7
  obtain ⟨c8, r8, n8, rfl⟩ := ptr_in hM hR.bl (tinfo _ (by simp)) h8
  obtain ⟨c9, r9, n9, rfl⟩ := ptr_in hM hR.bx (tinfo _ (by simp)) h9
  obtain ⟨c10, r10, n10, rfl⟩ := ptr_in hM hR.bc (tinfo _ (by simp)) h10
  obtain ⟨c11, r11, n11, rfl⟩ := ptr_in hM hR.ov (tinfo _ (by simp)) h11
  obtain ⟨_, _, w7⟩ := row_in hM r7 hR.bn (tinfo _ (by simp))
  obtain ⟨_, _, w8⟩ := row_in hM r8 hR.bl (tinfo _ (by simp))
  obtain ⟨_, _, w9⟩ := row_in hM r9 hR.bx (tinfo _ (by simp))
  obtain ⟨_, _, w10⟩ := row_in hM r10 hR.bc (tinfo _ (by simp))
  obtain ⟨u7, _, x7, _⟩ := w7 0 _ rfl
  obtain ⟨u8, _, x8, _⟩ := w8 0 _ rfl
  obtain ⟨u9, _, x9, _⟩ := w9 0 _ rfl
  obtain ⟨u10, _, x10, _⟩ := w10 0 _ rfl
  obtain ⟨d7, s7, m7, _⟩ := slice_in hM hR.num (tinfo _ (by simp)) x7
  obtain ⟨d8, s8, m8, _⟩ := slice_in hM hR.left (tinfo _ (by simp)) x8
  obtain ⟨d9, s9, m9, _⟩ := slice_in hM hR.rows.blk (tinfo _ (by simp)) x9
  obtain ⟨d10, s10⟩ : ∃ d, ρ (g + 6) = some (d, 0) := by
    cases x10 with
    | chan h => exact ⟨_, h⟩
  refine ⟨⟨d10, d7, fun k => ⟨d8, k, none⟩, ⟨c11, 0, none⟩, val⟩, ⟨c10, c2, c7, c9, c8⟩, d8, d9, c11, ⟨r2, s7, r7, s8, r8, s9, r9, s10, r10, r11, ?_, fun _ => rfl, rfl⟩, rfl, rfl, rfl, rfl, rfl, rfl, rfl⟩
  rintro b (rfl | rfl | rfl | rfl | rfl | rfl | rfl | rfl | rfl) <;> assumption
/-- What all may read. -/
def R0G (k : LK) (M : GLoc) (N : Nat) (l : Loc) : Prop := (k.W l ∨ k.R l) ∧ l ≠ .obj M.c ∧ l ≠ .cell M.ov ∧ ∀ i, i < N → l ≠ numL M i ∧ l ≠ .cell (M.la i)
theorem jobs_in {J : List JobR} {B : Nat} {M : GLoc} {X : GBox} {lb xb ob : Nat} {w1 : World} (hM : Mir (InV grL grV) Try.prog ρ k L W) (hR : RunSt L0 L g bJ A c n left (nx J) vs q cl) (hN : RunN ρ g bJ M X lb xb ob) (hJ : RdJobs L0 B A J) (hB : B ≤ L0.heap.size) (hn : J.length = n) (hG : GoodJ J) (hv : Valid J) (hval : M.val = valJ J)
    (hc1 : ∀ p : Addr, p.block < W.heap.size → w1.cell? p = W.cell? p) (hf1 : ∀ p : Addr, p.block < W.heap.size → w1.frozen? p = W.frozen? p) (hz1 : W.heap.size ≤ w1.heap.size) : JobsAt w1 (R0G k M n) (parJ J) M (numJ J) X := by
  have hj := hR.jlow
  have hbd := hR.rows.bound
  have lt : ∀ {b c s}, ρ b = some (c, s) → c < W.heap.size := fun h => (hM.wr.lt _ _ _ h).2
  have rd : ∀ {b c s o : Nat} {v : Value}, ρ b = some (c, s) → ¬ ρ.isChan b → b ≠ g → b ≠ g + 2 → b ≠ g + 8 → L.cell? ⟨b, o, none⟩ = some v → ∃ v', w1.cell? ⟨c, s + o, none⟩ = some v' ∧ VR (InV grL grV) ρ v v' ∧ R0G k M n (.cell ⟨c, s + o, none⟩) := fun {b c s o v} hb hnc h1 h2 h3 hc => by
    obtain ⟨v', q1, q2, q3⟩ := cell_in hM hb hnc hc
    refine ⟨v', (hc1 _ (lt hb)).trans q1, q2, q3, (by intro e; cases e), fun e => ?_, fun i hi => ⟨fun e => ?_, fun e => ?_⟩⟩
    · have := far_in hM hb hc hN.ov hR.ov h3 0 (by simp)
      rw [hN.mov] at e
      exact this (by injection e)
    · exact far_in hM hb hc hN.num hR.num h1 i (by simp [ints]; exact hi) (by unfold numL at e; injection e)
    · rw [hN.la] at e
      exact far_in hM hb hc hN.left hR.left h2 i (by simp [ints, fnI]; exact hi) (by injection e)
  have box : ∀ {b c t v}, ρ b = some (c, 0) → Blk L b t [v] → (b = bJ ∨ b = g + 1 ∨ b = g + 3 ∨ b = g + 5 ∨ b = g + 7) → ∃ v', w1.cell? ⟨c, 0, none⟩ = some v' ∧ VR (InV grL grV) ρ v v' ∧ R0G k M n (.cell ⟨c, 0, none⟩) := fun {b c t v} hb hB hbc => by
    have hcl := hB.cell 0
    have := rd hb (hN.nc b (by rcases hbc with e | e | e | e | e <;> simp [e])) (by omega) (by omega) (by omega) hcl
    simpa using this
  have hl : ∀ k, (parJ J).aft k = (aft J k).map Int.toNat := fun _ => rfl
  have hx : ∀ k, (parJ J).nxt k = (nx J k).map Int.toNat := fun _ => rfl
  have hnN : (parJ J).N = n := hn
  obtain ⟨vc, c1, c2, c3⟩ := box hN.bc hR.bc (by simp)
  obtain ⟨vj, j1, j2, j3⟩ := box hN.j hR.bj (by simp)
  obtain ⟨vn, n1, n2, n3⟩ := box hN.bn hR.bn (by simp)
  obtain ⟨vl, l1, l2, l3⟩ := box hN.bl hR.bl (by simp)
  obtain ⟨vx, x1, x2, x3⟩ := box hN.bx hR.bx (by simp)
  obtain ⟨d7, s7, _, rfl⟩ := slice_in hM hR.num (tinfo _ (by simp)) n2
  obtain ⟨d8, s8, _, rfl⟩ := slice_in hM hR.left (tinfo _ (by simp)) l2
  obtain ⟨d9, s9, _, rfl⟩ := slice_in hM hR.rows.blk (tinfo _ (by simp)) x2
  have e7 : d7 = M.nb := by have := hN.num; rw [s7] at this; simpa using this
  have e8 : d8 = lb := by have := hN.left; rw [s8] at this; simpa using this
  have e9 : d9 = xb := by have := hN.row; rw [s9] at this; simpa using this
  subst e7 e8 e9
  obtain ⟨_, _, wnum⟩ := row_in hM hN.num hR.num (tinfo _ (by simp))
  obtain ⟨_, _, wleft⟩ := row_in hM hN.left hR.left (tinfo _ (by simp))
  obtain ⟨_, _, wov⟩ := row_in hM hN.ov hR.ov (tinfo _ (by simp))
  have fzG : ∀ {b c t xs}, ρ b = some (c, 0) → Blk L b t xs → Try.prog.info? t ≠ none → ∀ i, i < xs.length → w1.frozen? ⟨c, i, none⟩ = false := fun {b c t xs} hb hB ht i hi => by
    refine (hf1 _ (lt hb)).trans ?_
    obtain ⟨_, _, hcl⟩ := row_in hM hb hB ht
    obtain ⟨_, _, _, _, hz⟩ := hcl i _ (List.getElem?_eq_getElem hi)
    exact hz
  have hVc : vc = .chan (some M.c) := by
    cases c2 with
    | chan h => rw [hN.ch] at h; cases h; rfl
  subst hVc
  refine ⟨⟨c1, c3⟩, ?_, ⟨by rw [hnN]; exact n1, n3⟩, fun k hk => fzG hN.num hR.num (tinfo _ (by simp)) k (by rw [hnN] at hk; simp [ints, hk]), fun k hk => ?_, ⟨d9, ⟨by rw [hnN]; exact x1, x3⟩, fun k hk => ?_⟩, ⟨d8, ⟨by rw [hnN]; exact l1, l3⟩, hN.la, Nat.lt_of_lt_of_le (lt hN.left) hz1, fun k hk => fzG hN.left hR.left (tinfo _ (by simp)) k (by rw [hnN] at hk; simp [ints, fnI, hk])⟩, ⟨ob, hN.mov, Nat.lt_of_lt_of_le (lt hN.ov) hz1, fzG hN.ov hR.ov (tinfo _ (by simp)) 0 (by simp)⟩, by rw [hnN, ← hn]; exact hv.few, fun k _ => by rw [hl, List.length_map]; exact hv.aft k, fun k _ => ?_, fun k hk => ?_, Nat.lt_of_lt_of_le (lt hN.num) hz1, fun k hk hR0 => (hR0.2.2.2 k (by rw [← hnN]; exact hk)).1 rfl⟩
  · -- jobs
    have hsl : ∃ jA', vj = .slice jA' n c ∧ ∀ jb0 jo0, A = some ⟨jb0, jo0, none⟩ → 0 < n → ∃ jb jO, ρ jb0 = some (jb, jO) ∧ ¬ ρ.isChan jb0 ∧ jA' = some ⟨jb, jO + jo0, none⟩ := by
      cases j2 with
      | nilSlice => exact ⟨none, rfl, fun _ _ h => by cases h⟩
      | slice hA _ _ =>
        obtain ⟨⟨_, hnc⟩, jb, jO, hb, rfl⟩ := hA
        exact ⟨_, rfl, fun jb0 jo0 h _ => by cases h; exact ⟨jb, jO, hb, hnc, rfl⟩⟩
      | void => exact ⟨_, rfl, fun _ _ h => by cases h⟩
    obtain ⟨jA', rfl, hjA⟩ := hsl
    refine ⟨jA', c, ⟨by rw [hnN]; exact j1, j3⟩, fun k hk => ?_⟩
    rw [hnN] at hk
    have hkJ : k < J.length := by omega
    have hRJ := hR.jobs hJ hB
    obtain ⟨jb0, jo0, hA, hblt, q0, q1, q2, q3⟩ := hRJ.at_ hkJ
    obtain ⟨jb, jO, hρ, hnc, rfl⟩ := hjA jb0 jo0 hA (by omega)
    obtain ⟨v3, a1, a2, a3⟩ := rd hρ hnc (by omega) (by omega) (by omega) q3
    obtain ⟨v2, b1, b2, b3⟩ := rd hρ hnc (by omega) (by omega) (by omega) q2
    have haft := aft_eq hkJ
    have hlen : ((parJ J).aft k).length = J[k].after.length := by rw [hl, List.length_map, haft]
    refine ⟨jb, jO + jo0, rfl, ?_, ?_⟩
    · have hs2 : ∃ sA', v2 = .slice sA' J[k].after.length J[k].sc ∧ ∀ ab0 ao0, J[k].sA = some ⟨ab0, ao0, none⟩ → 0 < J[k].after.length → ∃ ab aO, ρ ab0 = some (ab, aO) ∧ ¬ ρ.isChan ab0 ∧ sA' = some ⟨ab, aO + ao0, none⟩ := by
        generalize J[k].sA = sA0 at b2
        generalize J[k].after.length = ln at b2
        generalize J[k].sc = sc0 at b2
        cases b2 with
        | nilSlice => exact ⟨none, rfl, fun _ _ h => by cases h⟩
        | slice hA _ _ =>
          obtain ⟨⟨_, hnc⟩, ab, aO, hb, rfl⟩ := hA
          exact ⟨_, rfl, fun ab0 ao0 h _ => by cases h; exact ⟨ab, aO, hb, hnc, rfl⟩⟩
        | void => exact ⟨_, rfl, fun _ _ h => by cases h⟩
      obtain ⟨sA', rfl, hsA⟩ := hs2
      refine ⟨sA', J[k].sc, ⟨?_, ?_⟩, fun i hi => ?_⟩
      · rw [hlen, show jO + jo0 + k * 4 + 2 = jO + (jo0 + k * 4 + 2) by omega]; exact b1
      · rw [show jO + jo0 + k * 4 + 2 = jO + (jo0 + k * 4 + 2) by omega]; exact b3
      · have hi' : i < J[k].after.length := by rw [← hlen]; exact hi
        obtain ⟨ab0, ao0, hA2, hb2, hcl⟩ := (hRJ.after k hkJ).atMap hi'
        obtain ⟨ab, aO, hρ2, hnc2, rfl⟩ := hsA ab0 ao0 hA2 (by omega)
        obtain ⟨vi, d1, d2, d3⟩ := rd hρ2 hnc2 (by omega) (by omega) (by omega) hcl
        rw [vr_intG d2] at d1
        refine ⟨ab, aO + ao0, rfl, ?_, ?_⟩
        · rw [show aO + ao0 + i = aO + (ao0 + i) by omega, d1]
          have : (((parJ J).aft k)[i] : Int) = J[k].after[i] := by
            have h0 := (hG.inR k J[k].after[i] (by rw [haft]; exact List.getElem_mem _)).1
            have e : ((parJ J).aft k)[i] = (J[k].after[i]).toNat := by
              have e1 : (parJ J).aft k = J[k].after.map Int.toNat := by rw [hl, haft]
              rw [List.getElem_of_eq e1, List.getElem_map]
            rw [e]
            exact Int.toNat_of_nonneg h0
          rw [this]
        · rw [show aO + ao0 + i = aO + (ao0 + i) by omega]; exact d3
    · rw [vr_intG a2] at a1
      rw [show jO + jo0 + k * 4 + 3 = jO + (jo0 + k * 4 + 3) by omega, numJ_eq hkJ]
      exact ⟨a1, a3⟩
  · rw [hnN] at hk
    obtain ⟨v', q1, _⟩ := wnum k (.int .i64 0) (by simp [ints, hk])
    exact ⟨v', (hc1 _ (lt hN.num)).trans q1⟩
  · -- next
    rw [hnN] at hk
    obtain ⟨v, hv1, hcv, hown⟩ := hR.rows.get (k := k) (by rw [fnL_len]; exact hk)
    have hgx : (fnL n (nx J))[k]'(by rw [fnL_len]; exact hk) = nx J k := by simp [fnL]
    rw [hgx] at hown
    obtain ⟨v', a1, a2, a3⟩ := rd hN.row (hN.nc _ (by simp)) (by omega) (by omega) (by omega) hcv
    rw [Nat.zero_add] at a1 a3
    have hlen : ((parJ J).nxt k).length = (nx J k).length := by rw [hx, List.length_map]
    obtain ⟨A1, cp, rfl, _, _⟩ := own_form hown
    have hs2 : ∃ sA', v' = .slice sA' (nx J k).length cp ∧ ∀ ab0 ao0, A1 = some ⟨ab0, ao0, none⟩ → 0 < (nx J k).length → ∃ ab aO, ρ ab0 = some (ab, aO) ∧ ¬ ρ.isChan ab0 ∧ sA' = some ⟨ab, aO + ao0, none⟩ := by
      generalize (nx J k).length = ln at a2
      cases a2 with
      | nilSlice => exact ⟨none, rfl, fun _ _ h => by cases h⟩
      | slice hA _ _ =>
        obtain ⟨⟨_, hnc⟩, ab, aO, hb, rfl⟩ := hA
        exact ⟨_, rfl, fun ab0 ao0 h _ => by cases h; exact ⟨ab, aO, hb, hnc, rfl⟩⟩
      | void => exact ⟨_, rfl, fun _ _ h => by cases h⟩
    obtain ⟨sA', rfl, hsA⟩ := hs2
    refine ⟨sA', cp, ⟨by rw [hlen]; exact a1, a3⟩, fun i hi => ?_⟩
    have hi' : i < (nx J k).length := by rw [← hlen]; exact hi
    obtain ⟨gg, cap, hgv, hgb, hgl, _⟩ := own_topG hown (by omega)
    cases hgv
    have hcl := hown.cellAt i (by omega)
    obtain ⟨ab, aO, hρ2, hnc2, rfl⟩ := hsA gg 0 rfl (by omega)
    have hcl' : L.cell? ⟨gg, i, none⟩ = some (.int .i64 (nx J k)[i]) := by
      rw [hcl]; simp [ints, hi']
    obtain ⟨vi, d1, d2, d3⟩ := rd hρ2 hnc2 (by omega) (by omega) (by omega) hcl'
    rw [vr_intG d2] at d1
    refine ⟨ab, aO + 0, rfl, ?_, ?_⟩
    · rw [Nat.add_zero, d1]
      have : (((parJ J).nxt k)[i] : Int) = (nx J k)[i] := by
        have h0 : 0 ≤ (nx J k)[i] := by obtain ⟨z, hz, _⟩ := nx_mem (List.getElem_mem hi'); omega
        have e : ((parJ J).nxt k)[i] = ((nx J k)[i]).toNat := by
          have e1 : (parJ J).nxt k = (nx J k).map Int.toNat := hx k
          rw [List.getElem_of_eq e1, List.getElem_map]
        rw [e]
        exact Int.toNat_of_nonneg h0
      rw [this]
    · rw [Nat.add_zero]; exact d3
  · rw [hx, List.length_map]
    have := length_nx J hv.aft k
    have := hv.few
    exact Nat.le_trans (length_nx J hv.aft k) (by omega)
  · rw [hval]
    exact parJ_val hG hk
end
end Go.Proofs.Yticdjkkcfdbdcaa

/- The fork of graph.Run, goroutine 0 beside leavers. No conditions but those named. -/
namespace Go.Proofs.Yticdjkkcfdbdcaa
open Go.Conc Go.ConcN Go.RowKit
/-- What stands meanwhile. -/
def GrX (N wg n : Nat) (M : GLoc) (l : Loc) : Prop := MemLoc N l ∧ ¬ WgLoc wg l ∧ l ≠ .obj wg ∧ l ≠ .obj M.c ∧ (∀ i, i < n → l ≠ .cell (M.la i)) ∧ l ≠ .cell M.ov ∧ ∀ i, i < n → l ≠ numL M i
/-- What all touch atomically. -/
def AtG (wg n : Nat) (M : GLoc) (l : Loc) : Prop := WgLoc wg l ∨ (∃ i, i < n ∧ l = .cell (M.la i)) ∨ l = .cell M.ov ∨ l = .obj M.c
/-- What lies behind the join. -/
def DoneG (n : Nat) (M : GLoc) (w : World) : Prop := (∀ k, k < n → w.cell? ⟨M.nb, k, none⟩ = some (.int .i64 (M.val k)) ∧ w.cell? (M.la k) = some (.int .i64 0)) ∧ w.cell? M.ov = some (.int .i64 (n : Int)) ∧ w.heap[M.c]? = some (.chan n #[] true n n false)
theorem DoneG.at {n : Nat} {M : GLoc} {w : World} (h : DoneG n M w) (d : Nat) : DoneG n M (w.at d) := h
def capsG (wg : Nat) (X : GBox) (M : GLoc) : Array Value := #[.pointer (some ⟨wg, 0, none⟩), .pointer (some ⟨X.ch, 0, none⟩), .pointer (some ⟨X.jobs, 0, none⟩), .pointer (some ⟨X.nums, 0, none⟩), .pointer (some ⟨X.next, 0, none⟩), .pointer (some ⟨X.left, 0, none⟩), .pointer (some M.ov)]
section
variable {Post : Value → World → Prop} {n0 : Nat} {W0 : World} {ρ : Ren} {k : LK} {L0 L W w1 : World} {g bJ B m : Nat} {A : Option Addr} {c n : Nat} {left : Nat → Int} {vs : List Value} {M : GLoc} {X : GBox} {lb xb ob : Nat} {J : List JobR} {rT rA rG rI rW : Array Oper} {rest : Code} {b : Frame} {K : List Item} {cs : List Frame} {a : Act}
theorem gr_gok (hM : Mir (InV grL grV) Try.prog ρ k L W) (hR : RunSt L0 L g bJ A c n left (nx J) vs (readyQ (parJ J)) (decide (n = 0))) (hN : RunN ρ g bJ M X lb xb ob) (hn : J.length = n) (hG : GoodJ J) (hz1 : w1.heap.size = W.heap.size + 1) : GOk (parJ J) M (GrX w1.heap.size W.heap.size n M) W.heap.size w1 := by
  have lt : ∀ {b c s}, ρ b = some (c, s) → c < W.heap.size := fun h => (hM.wr.lt _ _ _ h).2
  have hnN : (parJ J).N = n := hn
  obtain ⟨_, ⟨xn, fn, tn⟩, wnum⟩ := row_in hM hN.num hR.num (tinfo _ (by simp))
  obtain ⟨_, ⟨xl, fl, tl⟩, wleft⟩ := row_in hM hN.left hR.left (tinfo _ (by simp))
  obtain ⟨_, ⟨xo, fo, to_⟩, wov⟩ := row_in hM hN.ov hR.ov (tinfo _ (by simp))
  have hla : ∀ k, (M.la k).block = lb := fun k => by rw [hN.la]
  have hob : M.ov.block = ob := by rw [hN.mov]
  refine ⟨parJ_wf hG, fun k hk a _ h => parJ_back k hk a h, fun l h => ⟨h.2.1, h.2.2.1⟩, fun l h => ⟨h.2.2.2.1, by rw [hnN]; exact h.2.2.2.2.1, h.2.2.2.2.2.1, by rw [hnN]; exact h.2.2.2.2.2.2⟩, Nat.ne_of_lt (lt hN.ch), Nat.ne_of_lt (lt hN.num), fun k _ => by rw [hla]; exact Nat.ne_of_lt (lt hN.left), by rw [hob]; exact Nat.ne_of_lt (lt hN.ov), fun k _ j _ e => ?_, fun k hk e => ?_, fun k hk e => ?_, fun e => ?_, by have := lt hN.ch; omega, by have := lt hN.num; omega, fun k _ => by rw [hla]; have := lt hN.left; omega, by rw [hob]; have := lt hN.ov; omega⟩
  · rw [hN.la, hN.la] at e
    injection e
  · rw [hnN] at hk
    have hc : L.cell? ⟨g + 2, k, none⟩ = some ((ints (fnI n left))[k]'(by simp [ints, fnI]; exact hk)) := hR.left.cell k |>.trans (List.getElem?_eq_getElem _)
    rw [hN.la, hN.mov] at e
    have := far_in hM hN.left hc hN.ov hR.ov (by omega) 0 (by simp)
    rw [Nat.zero_add] at this
    exact this e
  · rw [hla] at e
    rw [e, tn] at tl
    have : 2 = 128 := by injection tl with h1; injection h1
    exact absurd this (by decide)
  · rw [hob] at e
    rw [e, tn] at to_
    have : 2 = 128 := by injection to_ with h1; injection h1
    exact absurd this (by decide)
set_option maxRecDepth 100000 in
theorem gr_fork (hM : Mir (InV grL grV) Try.prog ρ k L W) (hR : RunSt L0 L g bJ A c n left (nx J) vs (readyQ (parJ J)) (decide (n = 0))) (hN : RunN ρ g bJ M X lb xb ob) (hMv : M.val = valJ J) (hJ : RdJobs L0 B A J) (hB : B ≤ L0.heap.size) (hn : J.length = n) (hG : GoodJ J) (hv : Valid J) (hleft : ∀ k, k < n → left k = ((aft J k).length : Int))
    (T : SpawnT 57 rT rA rG rI rW 16 78 79 80 81 82 83 84 #[.tmp 16, .tmp 10, .tmp 2, .tmp 7, .tmp 9, .tmp 8, .tmp 11]) (hm : 1 ≤ m ∧ m ≤ 16) (hh : w1.heap = W.heap.push (.cells #[.int .u64 0, .int .u32 0] 114))
    (az : a.tmps.size = 86) (ad : a.defers = []) (t16 : a.eval (.tmp 16) = .pointer (some ⟨W.heap.size, 0, none⟩)) (t78 : a.eval (.tmp 78) = .int .i64 m) (t79 : a.eval (.tmp 79) = .int .i64 (0 : Nat))
    (t10 : a.eval (.tmp 10) = .pointer (some ⟨X.ch, 0, none⟩)) (t2 : a.eval (.tmp 2) = .pointer (some ⟨X.jobs, 0, none⟩)) (t7 : a.eval (.tmp 7) = .pointer (some ⟨X.nums, 0, none⟩)) (t9 : a.eval (.tmp 9) = .pointer (some ⟨X.next, 0, none⟩)) (t8 : a.eval (.tmp 8) = .pointer (some ⟨X.left, 0, none⟩)) (t11 : a.eval (.tmp 11) = .pointer (some M.ov)) (hb : b.kind ≠ .early) (hk : ∀ l, k.W l ∨ k.R l → MemLoc W.heap.size l)
    (hend : ∀ aE w2 k', aE.tmps.size = 86 → aE.defers = [] → (∀ t, t ∉ [80, 81, 82, 83, 79, 84] → aE.eval (.tmp t) = a.eval (.tmp t)) → (∀ t, aE.eval (.tmp t) = a.eval (.tmp t) ∨ ScrV 57 (capsG W.heap.size X M) (aE.eval (.tmp t))) →
      Rely (keepK (GrX w1.heap.size W.heap.size n M)) w1 w2 → (∀ l, k.W l → k'.W l) → (∀ l, k.R l → k'.R l) → (∀ l, NewLoc w1.heap.size w2.heap.size l → k'.W l) → DoneG n M w2 → Win Try.prog Post n0 W0 k' (G (b.at aE (.code rest :: K)) cs) w2) :
    Win Try.prog Post n0 W0 (k.grow W.heap.size (W.heap.size + 1)) (G (b.at a (.code (spawnC 25 26 27 28 5 4 rT rA rG rI 80) :: .inLoop (spawnC 25 26 27 28 5 4 rT rA rG rI 80) :: .inBlock 4 :: .code (.seq (.region 29 rW false) rest) :: K)) cs) w1 := by
  refine win_pre fun hO hmem => ?_
  have hz1 : w1.heap.size = W.heap.size + 1 := by rw [hh]; simp
  have hgrow : ∀ l, WgLoc W.heap.size l → (k.grow W.heap.size (W.heap.size + 1)).W l := by
    rintro l ⟨o, s, rfl⟩
    exact .inr ⟨Nat.le_refl _, Nat.lt_succ_self _⟩
  have hn0 : n0 ≤ W.heap.size := by
    have := hO.lic _ (hgrow (.cell ⟨W.heap.size, 0, none⟩) ⟨0, none, rfl⟩)
    simp only [MemLoc] at this
    omega
  have hnw : ∀ l, MemLoc W.heap.size l → ¬ WgLoc W.heap.size l ∧ l ≠ .obj W.heap.size := fun l hl => ⟨fun ⟨o, s, e⟩ => by
    subst e
    have : W.heap.size < W.heap.size := hl
    omega, fun e => by
    subst e
    have : W.heap.size < W.heap.size := hl
    omega⟩
  have lt : ∀ {b c s}, ρ b = some (c, s) → c < W.heap.size := fun h => (hM.wr.lt _ _ _ h).2
  have hnN : (parJ J).N = n := hn
  have hc1 : ∀ p : Addr, p.block < W.heap.size → w1.cell? p = W.cell? p := fun p hp => by simp only [World.cell?, hh, Array.getElem?_push, if_neg (Nat.ne_of_lt hp)]
  have hf1 : ∀ p : Addr, p.block < W.heap.size → w1.frozen? p = W.frozen? p := fun p hp => by simp only [World.frozen?, hh, Array.getElem?_push, if_neg (Nat.ne_of_lt hp)]
  have hO2 := gr_gok (w1 := w1) hM hR hN hn hG hz1
  have hjobs : JobsAt w1 (R0G k M n) (parJ J) M (numJ J) X := jobs_in hM hR hN hJ hB hn hG hv hMv hc1 hf1 (by omega)
  -- the shared ones in company
  obtain ⟨_, _, wnum⟩ := row_in hM hN.num hR.num (tinfo _ (by simp))
  obtain ⟨_, _, wleft⟩ := row_in hM hN.left hR.left (tinfo _ (by simp))
  obtain ⟨_, _, wov⟩ := row_in hM hN.ov hR.ov (tinfo _ (by simp))
  obtain ⟨bufW, hch, hbuf, hkc⟩ := hM.wr.chans _ _ _ _ _ _ _ _ _ hN.ch hR.ch
  have hbufE : bufW = bufQ (readyQ (parJ J)) := by
    refine Array.ext (by rw [hbuf.1]) fun i h1 h2 => ?_
    have := hbuf.2 i _ _ (Array.getElem?_eq_getElem h2) (Array.getElem?_eq_getElem h1)
    have hq : (bufQ (readyQ (parJ J)))[i] = .int .i64 (((readyQ (parJ J))[i]'(by simpa [bufQ] using h2) : Nat) : Int) := by simp [bufQ]
    rw [hq] at this ⊢
    exact vr_intG this
  subst hbufE
  have hwL : ∀ i, i < n → W.cell? (M.la i) = some (.int .i64 ((aft J i).length : Int)) ∧ k.W (.cell (M.la i)) := fun i hi => by
    obtain ⟨v', q1, q2, q3, _⟩ := wleft i (.int .i64 (left i)) (by simp [ints, fnI, hi])
    rw [hN.la, q1, vr_intG q2, hleft i hi]
    exact ⟨rfl, q3⟩
  have hwO : W.cell? M.ov = some (.int .i64 0) ∧ k.W (.cell M.ov) := by
    obtain ⟨v', q1, q2, q3, _⟩ := wov 0 (.int .i64 0) rfl
    rw [hN.mov, q1, vr_intG q2]
    exact ⟨rfl, q3⟩
  have hwN : ∀ i, i < n → k.W (numL M i) := fun i hi => by
    obtain ⟨v', q1, q2, q3, _⟩ := wnum i (.int .i64 0) (by simp [ints, hi])
    exact q3
  have hR0m : ∀ l, R0G k M n l → MemLoc W.heap.size l := fun l hl => hk l hl.1
  have hR0A : ∀ l, R0G k M n l → ¬ AtG W.heap.size n M l := by
    rintro l hl (h | ⟨i, hi, h⟩ | h | h)
    · exact (hnw l (hR0m l hl)).1 h
    · exact (hl.2.2.2 i hi).2 h
    · exact hl.2.2.1 h
    · exact hl.2.1 h
  have hwg : WgIs 114 W.heap.size w1 0 0 := by unfold WgIs; rw [hh]; exact Array.getElem?_push_size
  have hX : ∀ l, GrX w1.heap.size W.heap.size n M l → ¬ WgLoc W.heap.size l ∧ l ≠ .obj W.heap.size := fun l h => ⟨h.2.1, h.2.2.1⟩
  have hok : ∀ m0 Shun, (famG (parJ J) M (GrX w1.heap.size W.heap.size n M) Shun w1 m0).Ok W.heap.size := fun m0 Shun => famG_ok hO2
  have hks : ∀ l, ¬ (KSpA (fun _ _ => False) (R0G k M n) (AtG W.heap.size n M) m 0).W l := fun l ⟨_, _, _, h⟩ => h
  have hAk : ∀ l, AtG W.heap.size n M l → (k.grow W.heap.size (W.heap.size + 1)).W l := by
    rintro l (h | ⟨i, hi, rfl⟩ | rfl | rfl)
    · exact hgrow l h
    · exact .inl (hwL i hi).2
    · exact .inl hwO.2
    · exact .inl hkc
  refine win_forkA (ty := 114) (Wg := W.heap.size) (tot := m) (fm := fun m0 Shun => famG (parJ J) M (GrX w1.heap.size W.heap.size n M) Shun w1 m0) (X := GrX w1.heap.size W.heap.size n M)
    (Fin := fun m0 K w' => DoneG n M w') (k0 := KSpA (fun _ _ => False) (R0G k M n) (AtG W.heap.size n M) m 0)
    (Anc := fun g => ∃ aE, g = G (b.at aE (.inRegion rW [] :: .code rest :: K)) cs ∧ aE.tmps.size = 86 ∧ aE.defers = [] ∧ (∀ t, t ∉ [80, 81, 82, 83, 79, 84] → aE.eval (.tmp t) = a.eval (.tmp t)) ∧ (∀ t, aE.eval (.tmp t) = a.eval (.tmp t) ∨ ScrV 57 (capsG W.heap.size X M) (aE.eval (.tmp t))))
    hok hwg hm.2 hgrow (fun l hl => ?_) (fun l hl => absurd hl (hks l)) (fun l hl => ⟨hl.1.imp (fun x => .inl x) id, hR0A l hl⟩) hAk (fun l h => .inl h) (fun m0 Shun t h0 h1 h2 => ?_) (fun m0 Shun n' Tt Kk w' t h0 h1 h2 => ?_) (fun m0 p0 Shun => ?_) ?_
  · have hl2 : MemLoc W.heap.size l := hl.mono hn0
    refine ⟨hl2.mono (by omega), (hnw l hl2).1, (hnw l hl2).2, fun e => ?_, fun i hi e => ?_, fun e => ?_, fun i hi e => ?_⟩
    · subst e; exact hO.lic _ (.inl hkc) hl
    · subst e; exact hO.lic _ (.inl (hwL i hi).2) hl
    · subst e; exact hO.lic _ (.inl hwO.2) hl
    · subst e; exact hO.lic _ (.inl (hwN i hi)) hl
  · refine famG_start h0 h1 (fun l hl => ⟨hl.1, hks l⟩) ?_ ⟨hks _, fun h => h.2.1 rfl⟩ (fun i hi => ?_) ?_ ⟨fun i hi => .inr (.inl ⟨i, by rw [← hnN]; exact hi, rfl⟩), .inr (.inr (.inl rfl)), .inr (.inr (.inr rfl))⟩ (fun i hi => ?_)
    · rw [hnN, hh, Array.getElem?_push, if_neg (Nat.ne_of_lt (lt hN.ch)), hch]
    · rw [hnN] at hi
      rw [hc1 _ (by rw [hN.la]; exact lt hN.left), (hwL i hi).1]
      show _ = some (Value.int .i64 ((((aft J i).map Int.toNat).length : Nat) : Int))
      rw [List.length_map]
    · rw [hc1 _ (by rw [hN.mov]; exact lt hN.ov), hwO.1]
    · rw [hnN] at hi
      refine ⟨⟨hks _, fun h => (h.2.2.2 i hi).1 rfl, ?_⟩, h2 _ (.inl (.inl (hwN i hi)))⟩
      rintro (h | ⟨j, _, h⟩ | h | h)
      · exact (hnw (numL M i) (show MemLoc W.heap.size (.cell ⟨M.nb, i, none⟩) from lt hN.num)).1 h
      · exact hO2.ln j (by omega) (by have : (⟨M.nb, i, none⟩ : Addr) = M.la j := by unfold numL at h; injection h
                                      rw [← this])
      · exact hO2.on (by have : (⟨M.nb, i, none⟩ : Addr) = M.ov := by unfold numL at h; injection h
                         rw [← this])
      · unfold numL at h; cases h
  · have := famG_fin hO2.wf h0 h1 h2 hm.1
    rw [hnN] at this
    exact ⟨this.1, this.2.1, this.2.2⟩
  · refine spawn_loopA (w1 := w1) (Ow := fun _ _ => False) (R0 := R0G k M n) (At := AtG W.heap.size n M) (vcap := capsG W.heap.size X M) (x0 := GSt.idle) (hok m0 Shun) (fun l h => .inl h) hb hm.2 T ⟨fun j l _ h => h.elim, fun l hl => ⟨(hR0m l hl).mono (by omega), hR0A l hl⟩, fun i j _ _ _ l h => h.elim⟩
      (fun scr hs => by subst hs; refine ⟨by decide, by decide, fun t ht => ?_, by decide, by decide, by decide, by decide, by decide, by decide, by decide, by decide, by decide⟩; simp at ht; rcases ht with rfl | rfl | rfl | rfl | rfl | rfl | rfl <;> decide)
      (fun x hx => by simp at hx; rcases hx with rfl | rfl | rfl | rfl | rfl | rfl | rfl <;> exact ⟨_, rfl⟩) (by simp [t16, t10, t2, t7, t9, t8, t11, capsG]) t16 t78 (fun i n' Tt Kk w t x y hi h1 h2 h3 h4 h5 h6 h7 h8 h9 => ?_) (fun i n' w hi hn' hn0' hr => ?_) (fun aE w z1 z2 z3 z4 => ⟨aE, rfl, z1, z2, z3, z4⟩) m 0 a w1 (by omega) ⟨az, ad, t79, fun t _ => rfl, fun t => .inl rfl⟩ (.refl _ _)
    · exact famG_go hO2 h1 h2 h3 h4 h5 h6 h7 (fun l ⟨_, _, _, h⟩ => h.elim) (fun l hl => .inr hl) rfl (fun l h => h.elim) (fun l hl => .inr hl) rfl h8 h9
    · exact gk_born hO2 hjobs hn0' hr
  · rintro gend w2 k' m0 Kk ⟨aE, rfl, z1, z2, z3, z4⟩ hrel hkW hkR hkN hdone
    have hS0 : ∀ k w w₁, (k = k' ∧ ∃ d, w = w2.at d) → (∃ d, w₁ = w.at d) → (k = k' ∧ ∃ d, w₁ = w2.at d) := by
      rintro k w _ ⟨h1, d, rfl⟩ ⟨d', rfl⟩
      exact ⟨h1, d', rfl⟩
    refine js_regend win_jok (fun k w => k = k' ∧ ∃ d, w = w2.at d) hS0 (fun k2 w3 hS => ?_) ⟨rfl, w2.drawn, rfl⟩
    obtain ⟨rfl, d, rfl⟩ := hS
    exact hend aE (w2.at d) k2 z1 z2 z3 z4 (hrel.trans (.at _ _ d)) (fun l hl => hkW l (.inl hl) (hnw l (hk l (.inl hl))).1) (fun l hl => hkR l hl (hnw l (hk l (.inr hl))).1) hkN (hdone.at d)
end
end Go.Proofs.Yticdjkkcfdbdcaa

/- Behind the join of graph.Run: the lone world told anew. No conditions but those named. -/
namespace Go.Proofs.Yticdjkkcfdbdcaa
open Go.Conc Go.ConcN Go.RowKit
theorem Told.reflG (o : Obj) : Told o o := by
  cases o <;> first | exact ⟨_, rfl, rfl⟩ | exact ⟨_, _, _, _, _, _, rfl⟩ | rfl
/-- The lone world behind the join. -/
def joinG (L : World) (g n : Nat) (bad : TypeId) (val : Nat → Int) : World :=
  { L with heap := ((((L.heap.setIfInBounds g (.cells (ints (fnI n val)).toArray 2 (0, 0))).setIfInBounds (g + 2) (.cells (ints (fnI n fun _ => 0)).toArray 128 (0, 0))).setIfInBounds (g + 8) (.cells #[.int .i64 n] 128 (0, 0))).setIfInBounds (g + 6) (.chan n #[] true n n false)).push (.cells #[] bad (0, 0)) }
section
variable {L : World} {g n : Nat} {bad : TypeId} {val : Nat → Int}
theorem joinG_size : (joinG L g n bad val).heap.size = L.heap.size + 1 := by simp [joinG]
theorem joinG_new : (joinG L g n bad val).heap[L.heap.size]? = some (.cells #[] bad (0, 0)) := by
  unfold joinG
  simp only [Array.getElem?_push, Array.size_setIfInBounds, if_true]
theorem joinG_old {b : Nat} (hb : b < L.heap.size) (h1 : b ≠ g) (h2 : b ≠ g + 2) (h3 : b ≠ g + 6) (h4 : b ≠ g + 8) : (joinG L g n bad val).heap[b]? = L.heap[b]? := by
  unfold joinG
  simp only [Array.getElem?_push, Array.size_setIfInBounds]
  rw [if_neg (by omega), Array.getElem?_setIfInBounds, if_neg (by omega), Array.getElem?_setIfInBounds, if_neg (by omega), Array.getElem?_setIfInBounds, if_neg (by omega), Array.getElem?_setIfInBounds, if_neg (by omega)]
theorem joinG_g (hb : g < L.heap.size) : (joinG L g n bad val).heap[g]? = some (.cells (ints (fnI n val)).toArray 2 (0, 0)) := by
  unfold joinG
  simp only [Array.getElem?_push, Array.size_setIfInBounds]
  rw [if_neg (by omega), Array.getElem?_setIfInBounds, if_neg (by omega), Array.getElem?_setIfInBounds, if_neg (by omega), Array.getElem?_setIfInBounds, if_neg (by omega), Array.getElem?_setIfInBounds, if_pos rfl, if_pos hb]
theorem joinG_l (hb : g + 2 < L.heap.size) : (joinG L g n bad val).heap[g + 2]? = some (.cells (ints (fnI n fun _ => 0)).toArray 128 (0, 0)) := by
  unfold joinG
  simp only [Array.getElem?_push, Array.size_setIfInBounds]
  rw [if_neg (by omega), Array.getElem?_setIfInBounds, if_neg (by omega), Array.getElem?_setIfInBounds, if_neg (by omega), Array.getElem?_setIfInBounds, if_pos rfl, if_pos (by simpa using hb)]
theorem joinG_o (hb : g + 8 < L.heap.size) : (joinG L g n bad val).heap[g + 8]? = some (.cells #[.int .i64 n] 128 (0, 0)) := by
  unfold joinG
  simp only [Array.getElem?_push, Array.size_setIfInBounds]
  rw [if_neg (by omega), Array.getElem?_setIfInBounds, if_neg (by omega), Array.getElem?_setIfInBounds, if_pos rfl, if_pos (by simpa using hb)]
theorem joinG_c (hb : g + 6 < L.heap.size) : (joinG L g n bad val).heap[g + 6]? = some (.chan n #[] true n n false) := by
  unfold joinG
  simp only [Array.getElem?_push, Array.size_setIfInBounds]
  rw [if_neg (by omega), Array.getElem?_setIfInBounds, if_pos rfl, if_pos (by simpa using hb)]
end
section
variable {ρ : Ren} {k k' : LK} {L0 L W w1 w2 : World} {g bJ : Nat} {A : Option Addr} {c n : Nat} {left : Nat → Int} {nxf : Nat → List Int} {vs : List Value} {q : List Nat} {cl : Bool} {M : GLoc} {X : GBox} {lb xb ob : Nat}
set_option maxHeartbeats 1000000 in
theorem gr_join (hM : Mir (InV grL grV) Try.prog ρ k L W) (hR : RunSt L0 L g bJ A c n left nxf vs q cl) (hN : RunN ρ g bJ M X lb xb ob) (hh : w1.heap = W.heap.push (.cells #[.int .u64 0, .int .u32 0] 114)) (hk : ∀ l, k.W l ∨ k.R l → MemLoc W.heap.size l)
    (hrel : Rely (keepK (GrX w1.heap.size W.heap.size n M)) w1 w2) (hkW : ∀ l, k.W l → k'.W l) (hkR : ∀ l, k.R l → k'.R l) (hd : DoneG n M w2) :
    ∃ (ρ' : Ren) (L' : World) (nb : Nat), ρ.sub ρ' ∧ Mir (InV grL grV) Try.prog ρ' k' L' w2 ∧ Blk L' g 2 (ints (fnI n M.val)) ∧ L.heap.size ≤ L'.heap.size ∧ (∀ b, b < L.heap.size → b ≠ g → b ≠ g + 2 → b ≠ g + 6 → b ≠ g + 8 → L'.heap[b]? = L.heap[b]?) ∧ ρ' nb = some (W.heap.size, 0) ∧ ¬ ρ'.isChan nb := by
  obtain ⟨hdn, hdo, hdc⟩ := hd
  have hz1 : w1.heap.size = W.heap.size + 1 := by rw [hh]; simp
  have hz2 := hrel.size
  have hbd := hR.rows.bound
  have lt : ∀ {b c s}, ρ b = some (c, s) → c < W.heap.size := fun h => (hM.wr.lt _ _ _ h).2
  let pl : List (Nat × Nat) := [(W.heap.size, 0)]
  have hbase := hM.wr.base
  have hfar : ∀ p ∈ pl, W.heap.size ≤ p.1 := fun p hp => by
    rw [List.mem_singleton.1 hp]
    exact Nat.le_refl _
  have hp : ∀ p ∈ pl, ρ.base ≤ p.1 := fun p h => Nat.le_trans hbase.2 (hfar p h)
  have hsub := adopt_sub hM.wr hp
  have hto : (ρ.adopt L.heap.size pl hM.wr.base.1 hp) L.heap.size = some (W.heap.size, 0) := by
    show (if L.heap.size < L.heap.size then ρ L.heap.size else pl[L.heap.size - L.heap.size]?) = _
    rw [if_neg (by omega), Nat.sub_self]
    rfl
  have hnch : ¬ (ρ.adopt L.heap.size pl hM.wr.base.1 hp).isChan L.heap.size := fun h => by
    have := hM.wr.chanLt _ (.inl (show ρ.isChan _ from h))
    omega
  have hup : ∀ c0, c0 < W.heap.size → w1.heap[c0]? = W.heap[c0]? := fun c0 h => by rw [hh, Array.getElem?_push, if_neg (Nat.ne_of_lt h)]
  have hWs : ∀ (c0 : Nat) o, W.heap[c0]? = some o → ∃ o', w2.heap[c0]? = some o' ∧ Alike o o' := fun c0 o ho => hrel.shape c0 o ((hup c0 (Array.getElem?_eq_some_iff.1 ho).1).trans ho)
  obtain ⟨bufW, hxW, _⟩ := hM.wr.chans _ _ _ _ _ _ _ _ _ hN.ch hR.ch
  have hXo : ∀ c0, c0 < W.heap.size → c0 ≠ M.c → GrX w1.heap.size W.heap.size n M (.obj c0) := fun c0 h1 h2 => ⟨by show c0 < _; omega, (fun ⟨_, _, e⟩ => by cases e), (fun e => by cases e; omega), (fun e => by cases e; exact h2 rfl), (fun i _ e => by cases e), (fun e => by cases e), fun i _ e => by unfold numL at e; cases e⟩
  have hstay : ∀ c0 o, W.heap[c0]? = some o → NotCells o → c0 ≠ M.c → w2.heap[c0]? = W.heap[c0]? := fun c0 o h1 h2 h3 => by
    have hlt := (Array.getElem?_eq_some_iff.1 h1).1
    have h4 := (hup c0 hlt).trans h1
    exact (hrel.obj c0 o h4 h2 (.inr (hXo c0 hlt h3))).trans h1.symm
  have hg1 : g + 8 < L.heap.size := by omega
  have hold : ∀ b, b < L.heap.size → b ≠ g → b ≠ g + 2 → b ≠ g + 6 → b ≠ g + 8 → (joinG L g n ρ.bad M.val).heap[b]? = L.heap[b]? := fun b h1 h2 h3 h4 h5 => joinG_old h1 h2 h3 h4 h5
  have hmir : WR (InV grL grV) (ρ.adopt L.heap.size pl hM.wr.base.1 hp) k' (joinG L g n ρ.bad M.val) w2 := by
    refine WR.retell (rows := [[]]) hM.wr hp rfl joinG_size (fun b c0 s hb => ?_) (fun j vs hj => ?_) (fun b o ho => ?_) hWs (by omega) (fun b c0 s x e fz hb ho i v hv => ?_) (fun b c0 s n' x cl sn rc0 t hb ho => ?_) (fun b c0 s o hb ho hor => ?_) hfar (fun j c0 s vs hj hvs => ?_)
    · exact ⟨fun a ha => ⟨fun h => hkW _ h, fun h => hkR _ h⟩, fun h => hkW _ h⟩
    · match j, hj with
      | 0, hj => cases hj; exact joinG_new
      | j + 1, hj => simp at hj
    · have hb := (Array.getElem?_eq_some_iff.1 ho).1
      by_cases e1 : b = g
      · subst e1
        have := hR.num
        unfold Blk at this
        rw [this] at ho
        cases ho
        exact ⟨_, joinG_g hb, _, rfl, by simp [ints, fnI]⟩
      · by_cases e2 : b = g + 2
        · subst e2
          have := hR.left
          unfold Blk at this
          rw [this] at ho
          cases ho
          exact ⟨_, joinG_l hb, _, rfl, by simp [ints, fnI]⟩
        · by_cases e3 : b = g + 6
          · subst e3
            rw [hR.ch] at ho
            cases ho
            exact ⟨_, joinG_c hb, _, _, _, _, _, _, rfl⟩
          · by_cases e4 : b = g + 8
            · subst e4
              have := hR.ov
              unfold Blk at this
              rw [this] at ho
              cases ho
              exact ⟨_, joinG_o hb, _, rfl, rfl⟩
            · exact ⟨o, (hold b hb e1 e2 e3 e4).trans ho, .reflG o⟩
    · have hb0 := (hM.wr.lt _ _ _ hb).1
      by_cases e1 : b = g
      · subst e1
        rw [joinG_g hb0] at ho
        cases ho
        obtain ⟨rfl, rfl⟩ : c0 = M.nb ∧ s = 0 := by have := hN.num; rw [hb] at this; cases this; exact ⟨rfl, rfl⟩
        rw [Nat.zero_add]
        have hi : i < n := by have := (List.getElem?_eq_some_iff.1 (show (ints (fnI n M.val))[i]? = some v by simpa using hv)).1; simpa [ints, fnI] using this
        have hve : v = .int .i64 (M.val i) := by simpa [ints, fnI, hi] using hv.symm
        subst hve
        exact ⟨_, (hdn i hi).1, .int _ _⟩
      · by_cases e2 : b = g + 2
        · subst e2
          rw [joinG_l hb0] at ho
          cases ho
          obtain ⟨rfl, rfl⟩ : c0 = lb ∧ s = 0 := by have := hN.left; rw [hb] at this; cases this; exact ⟨rfl, rfl⟩
          rw [Nat.zero_add]
          have hi : i < n := by have := (List.getElem?_eq_some_iff.1 (show (ints (fnI n fun _ => 0))[i]? = some v by simpa using hv)).1; simpa [ints, fnI] using this
          have hve : v = .int .i64 0 := by simpa [ints, fnI, hi] using hv.symm
          subst hve
          have := (hdn i hi).2
          rw [hN.la] at this
          exact ⟨_, this, .int _ _⟩
        · by_cases e3 : b = g + 6
          · subst e3
            rw [joinG_c hb0] at ho
            cases ho
          · by_cases e4 : b = g + 8
            · subst e4
              rw [joinG_o hb0] at ho
              cases ho
              obtain ⟨rfl, rfl⟩ : c0 = ob ∧ s = 0 := by have := hN.ov; rw [hb] at this; cases this; exact ⟨rfl, rfl⟩
              rw [Nat.zero_add]
              have hi : i < 1 := by have := (Array.getElem?_eq_some_iff.1 hv).1; simpa using this
              obtain rfl : i = 0 := by omega
              have hve : v = .int .i64 n := by simpa using hv.symm
              subst hve
              rw [hN.mov] at hdo
              exact ⟨_, hdo, .int _ _⟩
            · rw [hold b hb0 e1 e2 e3 e4] at ho
              obtain ⟨x', e', fz', v', g1, g2, g3, g4, _⟩ := hM.wr.cells b c0 s x e fz hb ho i v hv
              have hlt := lt hb
              have hcW : W.cell? ⟨c0, s + i, none⟩ = some v' := by simp [World.cell?, g1, g2]
              have hcl : L.cell? ⟨b, i, none⟩ = some v := by simp [World.cell?, ho, hv]
              refine ⟨v', (hrel.cell _ (.inr ⟨by show c0 < _; omega, ?_, (fun e => by cases e), (fun e => by cases e), fun j hj e => ?_, fun e => ?_, fun j hj e => ?_⟩)).trans ((by simp only [World.cell?, hup c0 hlt]) : w1.cell? ⟨c0, s + i, none⟩ = W.cell? ⟨c0, s + i, none⟩) |>.trans hcW, g3.sub hsub⟩
              · rintro ⟨o, s', e⟩
                cases e
                omega
              · rw [hN.la] at e
                exact far_in hM hb hcl hN.left hR.left e2 j (by simp [ints, fnI]; exact hj) (by injection e)
              · rw [hN.mov] at e
                exact far_in hM hb hcl hN.ov hR.ov e4 0 (by simp) (by injection e)
              · exact far_in hM hb hcl hN.num hR.num e1 j (by simp [ints]; exact hj) (by unfold numL at e; injection e)
    · have hb0 := (hM.wr.lt _ _ _ hb).1
      by_cases e1 : b = g
      · subst e1; rw [joinG_g hb0] at ho; cases ho
      · by_cases e2 : b = g + 2
        · subst e2; rw [joinG_l hb0] at ho; cases ho
        · by_cases e4 : b = g + 8
          · subst e4; rw [joinG_o hb0] at ho; cases ho
          · by_cases e3 : b = g + 6
            · subst e3
              rw [joinG_c hb0] at ho
              cases ho
              have := hN.ch
              rw [hb] at this
              cases this
              exact ⟨#[], hdc, rfl, fun i v v' h => by simp at h⟩
            · rw [hold b hb0 e1 e2 e3 e4] at ho
              obtain ⟨x', g1, g2, g3⟩ := hM.wr.chans b c0 s n' x cl sn rc0 t hb ho
              have hs : s = 0 := (hM.wr.others b c0 s _ hb ho not_cells_chan).1
              subst hs
              refine ⟨x', (hstay c0 _ g1 not_cells_chan fun e => ?_).trans g1, g2.sub hsub⟩
              subst e
              exact e3 (hM.wr.apartO b (g + 6) M.c 0 0 _ _ hb hN.ch ho hR.ch not_cells_chan not_cells_chan)
    · obtain ⟨_, o2, g2, g3, _⟩ := hM.wr.objs b c0 s o hb ho hor
      refine .inl (hstay c0 o2 g2 g3.notCells.2 fun e => ?_)
      subst e
      rw [hxW] at g2
      cases g2
      cases g3
    · match j, hj, hvs with
      | 0, hj, hvs =>
        cases hj
        cases hvs
        refine ⟨?_, fun i v hv => by simp at hv⟩
        obtain ⟨o', h1, h2⟩ := hrel.shape W.heap.size _ (by rw [hh]; exact Array.getElem?_push_size)
        cases o' <;> simp [Alike] at h2
        exact ⟨_, _, _, h1⟩
      | j + 1, hj, hvs => simp at hvs
  refine ⟨_, _, L.heap.size, hsub, ⟨hmir, ⟨hM.pr.base, hM.pr.bad, hM.pr.none⟩⟩, joinG_g (by omega), ?_, hold, hto, hnch⟩
  rw [joinG_size]
  omega
end
end Go.Proofs.Yticdjkkcfdbdcaa

/- The fork and the join of graph.Run, told of the lone world. No conditions but those named. -/
namespace Go.Proofs.Yticdjkkcfdbdcaa
open Go.Conc Go.ConcN Go.RowKit
theorem run_allocWgG (e : Operand → Value) (o : Oper) (hop : o.op = .alloc 114) (w : World) : (execOp e o).runT Try.prog w #[] = (.ok (.value (.pointer (some ⟨w.heap.size, 0, none⟩))) { w with heap := w.heap.push (.cells #[.int .u64 0, .int .u32 0] 114) }, #[]) := by
  simp [go_sem, hop, execOp]
def putG (ts : List Nat) (x : Nat → Value) (a : Act) : Act := ts.foldl (fun a t => a.put (some t) (x t)) a
theorem putG_size (x : Nat → Value) : ∀ (ts : List Nat) (a : Act), (putG ts x a).tmps.size = a.tmps.size
  | [], _ => rfl
  | t :: ts, a => (putG_size x ts _).trans (put_size _ _ _)
theorem putG_defers (x : Nat → Value) : ∀ (ts : List Nat) (a : Act), (putG ts x a).defers = a.defers
  | [], _ => rfl
  | t :: ts, a => (putG_defers x ts _).trans rfl
theorem putG_eval (x : Nat → Value) {i : Nat} : ∀ (ts : List Nat) (a : Act), i < a.tmps.size → (putG ts x a).eval (.tmp i) = if i ∈ ts then x i else a.eval (.tmp i)
  | [], _, _ => rfl
  | t :: ts, a, hi => by
    have := putG_eval x ts (a.put (some t) (x t)) (by rw [put_size]; exact hi)
    show (putG ts x (a.put (some t) (x t))).eval (.tmp i) = _
    rw [this]
    by_cases h1 : i ∈ ts
    · rw [if_pos h1, if_pos (List.mem_cons_of_mem _ h1)]
    · rw [if_neg h1]
      by_cases h2 : t = i
      · subst h2
        rw [if_pos (List.mem_cons_self ..), eval_put_eq _ hi]
      · rw [if_neg (by intro h; rcases List.mem_cons.1 h with h | h; exact h2 h.symm; exact h1 h), eval_put_ne _ h2]
theorem eval_ofG {a : Act} {i : Nat} {v : Value} (h : a.tmps[i]? = some v) : a.eval (.tmp i) = v := by
  show a.tmps.getD i undef = v
  rw [Array.getD_eq_getD_getElem?, h]
  rfl
section
variable {Post : Value → World → Prop} {n0 : Nat} {W0 : World} {L0 L : World} {g bJ B m : Nat} {A : Option Addr} {c n : Nat} {left : Nat → Int} {vs : List Value} {J : List JobR} {r23 r24 rT rA rG rI rW : Array Oper} {rest : Code} {fn : FuncId} {Q : Exit → Act → World → Prop} {a : Act}
set_option maxRecDepth 100000 in
theorem m_forkG (z23 : r23.size = 1) (T23 : OpIs r23 0 (.alloc 114) (some 16)) (z24 : r24.size = 2) (T24 : OpIs r24 0 (.move (.tmp 1)) (some 78)) (T24' : OpIs r24 1 (.move (.const (.int .i64 0))) (some 79))
    (T : SpawnT 57 rT rA rG rI rW 16 78 79 80 81 82 83 84 #[.tmp 16, .tmp 10, .tmp 2, .tmp 7, .tmp 9, .tmp 8, .tmp 11]) (hm : 1 ≤ m ∧ m ≤ 16) (az : a.tmps.size = 86) (t1 : a.eval (.tmp 1) = .int .i64 m)
    (t2 : a.eval (.tmp 2) = .pointer (some ⟨bJ, 0, none⟩)) (t7 : a.eval (.tmp 7) = .pointer (some ⟨g + 1, 0, none⟩)) (t8 : a.eval (.tmp 8) = .pointer (some ⟨g + 3, 0, none⟩)) (t9 : a.eval (.tmp 9) = .pointer (some ⟨g + 5, 0, none⟩)) (t10 : a.eval (.tmp 10) = .pointer (some ⟨g + 7, 0, none⟩)) (t11 : a.eval (.tmp 11) = .pointer (some ⟨g + 8, 0, none⟩))
    (hR : RunSt L0 L g bJ A c n left (nx J) vs (readyQ (parJ J)) (decide (n = 0))) (hRd : RdJobs L0 B A J) (hB : B ≤ L0.heap.size) (hJn : J.length = n) (hG : GoodJ J) (hv : Valid J) (hleft : ∀ k, k < n → left k = ((aft J k).length : Int))
    (hn : ∀ (x : Nat → Value) L', Blk L' g 2 (ints (fnI n (valJ J))) → Blk L' (g + 1) 23 [.slice (some ⟨g, 0, none⟩) n n] → KpG L0.heap.size L0 L' →
      Mp (InV grL grV) Try.prog (fun k g w => Win Try.prog Post n0 W0 k g w) fn rest false Q (putG [16, 78, 79, 80, 81, 82, 83, 84] x a) L') :
    Mp (InV grL grV) Try.prog (fun k g w => Win Try.prog Post n0 W0 k g w) fn (.seq (.region 23 r23 false) (.seq (.seq (.region 24 r24 false) (.block 4 (.loop (spawnC 25 26 27 28 5 4 rT rA rG rI 80)))) (.seq (.region 29 rW false) rest))) false Q a L := by
  intro b' K' base0 ρ k W a' h1 h2 h3 h4 h5
  have hk : b'.kind ≠ .early := by rw [h2]; simp
  have hJ : JOk Try.prog true _ _ := win_jok (P := Try.prog) (Post := Post) (n0 := n0) (W0 := W0)
  refine win_pre fun hO hmem => ?_
  -- names
  have vp1 := h4.eval.1 (.tmp 1) trivial
  have vp2 := h4.eval.1 (.tmp 2) trivial
  have vp7 := h4.eval.1 (.tmp 7) trivial
  have vp8 := h4.eval.1 (.tmp 8) trivial
  have vp9 := h4.eval.1 (.tmp 9) trivial
  have vp10 := h4.eval.1 (.tmp 10) trivial
  have vp11 := h4.eval.1 (.tmp 11) trivial
  rw [t1] at vp1
  rw [t2] at vp2
  rw [t7] at vp7
  rw [t8] at vp8
  rw [t9] at vp9
  rw [t10] at vp10
  rw [t11] at vp11
  obtain ⟨M, X, lb, xb, ob, hN, hMv, e2, e7, e8, e9, e10, e11⟩ := names_in h3 hR vp2 vp7 vp8 vp9 vp10 vp11 (valJ J)
  have e1 : a'.eval (.tmp 1) = .int .i64 m := vr_intG vp1
  have az' : a'.tmps.size = 86 := by rw [← h4.tmps.1]; exact az
  -- the group
  obtain ⟨o0, ho0, hop0, hg0, hd0⟩ := T23
  obtain ⟨o1, ho1, hop1, hg1, hd1⟩ := T24
  obtain ⟨o2, ho2, hop2, hg2, hd2⟩ := T24'
  refine js_seq hJ _ AtW.r (fun k1 w1 hS => j_ctl hJ (fun w => stepG_region) fun w₁ hR => ?_) (AtW.self k W)
  replace hS := AtW.r _ _ _ hS hR
  clear hR w1
  rw [z23, show List.range 1 = [0] from rfl]
  refine js_new hJ _ AtW.r hk ho0 (yld hg0 _) (fun w => run_allocWgG _ _ hop0 w) (fun k2 w2 hS => ?_) hS
  obtain ⟨rfl, d, rfl⟩ := hS
  rw [hd0]
  refine js_regend hJ _ AtW.r (fun k1 w1 hS => js_seq hJ _ AtW.r (fun k1 w1 hS => js_seq hJ _ AtW.r (fun k1 w1 hS => j_ctl hJ (fun w => stepG_region) fun w₁ hR => ?_) hS) hS) (AtW.self _ _)
  replace hS := AtW.r _ _ _ hS hR
  clear hR w1
  rw [z24, show List.range 2 = [0, 1] from rfl]
  have x16 : (a'.put (some 16) (.pointer (some ⟨W.heap.size, 0, none⟩))).eval (.tmp 16) = .pointer (some ⟨W.heap.size, 0, none⟩) := eval_put_eq _ (by rw [az']; decide) _
  have xo : ∀ t, t ≠ 16 → (a'.put (some 16) (.pointer (some ⟨W.heap.size, 0, none⟩))).eval (.tmp t) = a'.eval (.tmp t) := fun t ht => eval_put_ne _ (fun e => ht e.symm) _
  have xz : (a'.put (some 16) (.pointer (some ⟨W.heap.size, 0, none⟩))).tmps.size = 86 := (put_size _ _ _).trans az'
  have xd : (a'.put (some 16) (.pointer (some ⟨W.heap.size, 0, none⟩))).defers = [] := h4.d'
  rw [show (W.at d).heap.size = W.heap.size from rfl] at hS ⊢
  generalize a'.put (some 16) (.pointer (some ⟨W.heap.size, 0, none⟩)) = a1 at x16 xo xz xd ⊢
  refine j_val hJ _ AtW.r hk ho1 (yld hg1 _) (fun k w hS => opv_move (x := .tmp 1) (.inl hop1)) (fun k3 w3 hS => ?_) hS
  rw [hd1, xo 1 (by decide), e1]
  have y78 : (a1.put (some 78) (.int .i64 m)).eval (.tmp 78) = .int .i64 m := eval_put_eq _ (by rw [xz]; decide) _
  have y16 : (a1.put (some 78) (.int .i64 m)).eval (.tmp 16) = .pointer (some ⟨W.heap.size, 0, none⟩) := (eval_put_ne _ (by decide) _).trans x16
  have yo : ∀ t, t ≠ 16 → t ≠ 78 → (a1.put (some 78) (.int .i64 m)).eval (.tmp t) = a'.eval (.tmp t) := fun t ht ht' => (eval_put_ne _ (fun e => ht' e.symm) _).trans (xo t ht)
  have yz : (a1.put (some 78) (.int .i64 m)).tmps.size = 86 := (put_size _ _ _).trans xz
  have yd : (a1.put (some 78) (.int .i64 m)).defers = [] := xd
  generalize a1.put (some 78) (.int .i64 m) = a2 at y78 y16 yo yz yd ⊢
  refine j_val hJ _ AtW.r hk ho2 (yld hg2 _) (fun k w hS => opv_move (x := .const (.int .i64 0)) (.inl hop2)) (fun k3 w3 hS => ?_) hS
  rw [hd2, show a2.eval (.const (.int .i64 0)) = .int .i64 ((0 : Nat) : Int) from rfl]
  have u79 : (a2.put (some 79) (.int .i64 ((0 : Nat) : Int))).eval (.tmp 79) = .int .i64 ((0 : Nat) : Int) := eval_put_eq _ (by rw [yz]; decide) _
  have u78 : (a2.put (some 79) (.int .i64 ((0 : Nat) : Int))).eval (.tmp 78) = .int .i64 m := (eval_put_ne _ (by decide) _).trans y78
  have u16 : (a2.put (some 79) (.int .i64 ((0 : Nat) : Int))).eval (.tmp 16) = .pointer (some ⟨W.heap.size, 0, none⟩) := (eval_put_ne _ (by decide) _).trans y16
  have uo : ∀ t, t ≠ 16 → t ≠ 78 → t ≠ 79 → (a2.put (some 79) (.int .i64 ((0 : Nat) : Int))).eval (.tmp t) = a'.eval (.tmp t) := fun t ht ht' ht2 => (eval_put_ne _ (fun e => ht2 e.symm) _).trans (yo t ht ht')
  have uz : (a2.put (some 79) (.int .i64 ((0 : Nat) : Int))).tmps.size = 86 := (put_size _ _ _).trans yz
  have ud : (a2.put (some 79) (.int .i64 ((0 : Nat) : Int))).defers = [] := yd
  generalize a2.put (some 79) (.int .i64 ((0 : Nat) : Int)) = a3 at u79 u78 u16 uo uz ud ⊢
  refine js_regend hJ _ AtW.r (fun k1 w1 hS => js_block hJ _ AtW.r (fun k1 w1 hS => js_loop hJ _ AtW.r (fun k1 w1 hS => ?_) hS) hS) hS
  obtain ⟨rfl, d', rfl⟩ := hS
  have u' : ∀ t, t ≠ 16 → t ≠ 78 → t ≠ 79 → ∀ v, a'.eval (.tmp t) = v → a3.eval (.tmp t) = v := fun t q1 q2 q3 v hv => (uo t q1 q2 q3).trans hv
  refine gr_fork h3 hR hN hMv hRd hB hJn hG hv hleft T hm rfl uz ud u16 u78 u79 (u' 10 (by decide) (by decide) (by decide) _ e10) (u' 2 (by decide) (by decide) (by decide) _ e2) (u' 7 (by decide) (by decide) (by decide) _ e7) (u' 9 (by decide) (by decide) (by decide) _ e9) (u' 8 (by decide) (by decide) (by decide) _ e8) (u' 11 (by decide) (by decide) (by decide) _ e11) hk hmem fun aE w2 k' z1 z2 z3 z4 hrel hkW hkR hkN hdone => ?_
  obtain ⟨ρ', L', nb, hsub, hm', hnum, hLz, hold, hnb, hnbc⟩ := gr_join h3 hR hN rfl hmem hrel hkW hkR hdone
  have hbd := hR.rows.bound
  have hjl := hR.jlow
  have vOld : ∀ t, t ∉ [16, 78, 79] → VR (InV grL grV) ρ' (a.eval (.tmp t)) (a3.eval (.tmp t)) := fun t ht => by
    simp only [List.mem_cons, List.not_mem_nil, or_false, not_or] at ht
    rw [uo t ht.1 ht.2.1 ht.2.2]
    exact (h4.eval.1 (.tmp t) trivial).sub hsub
  have vAll : ∀ t, ∃ v, VR (InV grL grV) ρ' v (aE.eval (.tmp t)) := fun t => by
    have hnbr : VR (InV grL grV) ρ' (.pointer (some ⟨nb, 0, none⟩)) (.pointer (some ⟨W.heap.size, 0, none⟩)) := .ptr ⟨⟨rfl, hnbc⟩, _, _, hnb, rfl⟩
    rcases z4 t with e | ⟨x, e⟩ | ⟨x, e⟩ | e | e
    · rw [e]
      by_cases ht : t ∈ [16, 78, 79]
      · simp only [List.mem_cons, List.not_mem_nil, or_false] at ht
        rcases ht with rfl | rfl | rfl
        · rw [u16]; exact ⟨_, hnbr⟩
        · rw [u78]; exact ⟨_, .int _ _⟩
        · rw [u79]; exact ⟨_, .int _ _⟩
      · exact ⟨_, vOld t ht⟩
    · rw [e]; exact ⟨_, .bool _⟩
    · rw [e]; exact ⟨_, .int _ _⟩
    · rw [e]; exact ⟨_, .tuple (x := #[]) rfl fun i v v' h => by simp at h⟩
    · rw [e]
      have vs := fun {x y} (h : VR (InV grL grV) ρ x y) => h.sub hsub
      rw [e10] at vp10
      rw [e2] at vp2
      rw [e7] at vp7
      rw [e9] at vp9
      rw [e8] at vp8
      rw [e11] at vp11
      refine ⟨.func (.func 57) #[] #[.pointer (some ⟨nb, 0, none⟩), .pointer (some ⟨g + 7, 0, none⟩), .pointer (some ⟨bJ, 0, none⟩), .pointer (some ⟨g + 1, 0, none⟩), .pointer (some ⟨g + 5, 0, none⟩), .pointer (some ⟨g + 3, 0, none⟩), .pointer (some ⟨g + 8, 0, none⟩)], .func (by unfold InV grL grV; decide) rfl (fun i v v' h => by simp at h) rfl fun i v v' h h' => ?_⟩
      unfold capsG at h'
      match i, h, h' with
      | 0, h, h' => simp at h h'; subst h h'; exact hnbr
      | 1, h, h' => simp at h h'; subst h h'; exact vs vp10
      | 2, h, h' => simp at h h'; subst h h'; exact vs vp2
      | 3, h, h' => simp at h h'; subst h h'; exact vs vp7
      | 4, h, h' => simp at h h'; subst h h'; exact vs vp9
      | 5, h, h' => simp at h h'; subst h h'; exact vs vp8
      | 6, h, h' => simp at h h'; subst h h'; exact vs vp11
      | i + 7, h, _ => simp at h
  obtain ⟨x, hx⟩ := Classical.axiomOfChoice vAll
  rw [hMv] at hnum
  refine hn x L' hnum ((hold (g + 1) (by omega) (by omega) (by omega) (by omega) (by omega)).trans hR.bn) ⟨Nat.le_trans hR.kp.size hLz, fun b hb => (hold b (by omega) (by omega) (by omega) (by omega) (by omega)).trans (hR.kp.at_ b hb)⟩ b' K' base0 ρ' k' w2 aE h1 h2 hm' ⟨⟨?_, fun i v v' hv hv' => ?_⟩, ?_, z2⟩ (h5.at hsub fun e => by cases e)
  · rw [putG_size, az, z1]
  · have hi : i < a.tmps.size := by have := (Array.getElem?_eq_some_iff.1 hv).1; rwa [putG_size] at this
    have e1 := putG_eval x [16, 78, 79, 80, 81, 82, 83, 84] a hi
    rw [eval_ofG hv] at e1
    have e2 := eval_ofG hv'
    rw [e1, ← e2]
    by_cases ht : i ∈ [16, 78, 79, 80, 81, 82, 83, 84]
    · rw [if_pos ht]; exact hx i
    · rw [if_neg ht, z3 i (fun h => by simp only [List.mem_cons, List.not_mem_nil, or_false] at h; rcases h with rfl | rfl | rfl | rfl | rfl | rfl <;> exact ht (by decide))]
      exact vOld i fun h => by simp only [List.mem_cons, List.not_mem_nil, or_false] at h; rcases h with rfl | rfl | rfl <;> exact ht (by decide)
  · rw [putG_defers]; exact h4.d
end
end Go.Proofs.Yticdjkkcfdbdcaa
