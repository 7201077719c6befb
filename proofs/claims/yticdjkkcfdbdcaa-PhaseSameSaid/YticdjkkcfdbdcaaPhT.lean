/- Behind the join of phase.Run: the lone world told anew. No conditions but those named. -/
import Derived.Test.YticdjkkcfdbdcaaPhI
namespace Go.Proofs.Yticdjkkcfdbdcaa
open Go.Conc Go.ConcN Go.RowKit
theorem RdDos.drop {w : World} {B : Nat} {A : Option Addr} {D : List DoR} (h : RdDos w B A D) {d x : Nat} (hx : d < D.length → x = d) : RdDos w B (A.map (·.add (3 * x))) (D.drop d) where
  row := fun hn => by
    have hd : d < D.length := by
      rcases Nat.lt_or_ge d D.length with h1 | h1
      · exact h1
      · exact absurd (List.drop_eq_nil_of_le h1) hn
    obtain rfl := hx hd
    obtain ⟨b, o, rfl, hb, hc⟩ := h.row (by rintro rfl; simp at hd)
    refine ⟨b, o + 3 * x, by simp [Addr.add_lit'], hb, fun k hk => ?_⟩
    rw [List.length_drop] at hk
    have := hc (x + k) (by omega)
    rw [List.getElem_drop, show o + 3 * x + k * 3 = o + (x + k) * 3 by omega]
    exact this
theorem Told.refl (o : Obj) : Told o o := by
  cases o <;> first | exact ⟨_, rfl, rfl⟩ | exact ⟨_, _, _, _, _, _, rfl⟩ | rfl
/-- A process behind the join; where its letters lie. -/
structure Joined (ρ : Ren) (w2 : World) (N1 nL wg lb : Nat) (l : List PL) (j : Nat) (y : PL × (Nat × Nat)) : Prop where
  lt : j < l.length
  p : y.1.p = ranP l[j].p
  todo : ∃ d x, y.1.tA = l[j].tA.map (·.add (3 * x)) ∧ y.1.tc = l[j].tc - d ∧ y.1.p.todo = l[j].p.todo.drop d ∧ (d < l[j].p.todo.length → x = d)
  come : (y.1.cv = l[j].cv ∧ y.1.p.come = l[j].p.come) ∨ (y.1.cv = .slice none 0 0 ∧ y.1.p.come = [])
  sends : (y.1.p.sends = [] ∧ y.1.sA = none ∧ y.2 = (wg, 0)) ∨ (y.1.p.sends ≠ [] ∧ y.1.sA = some ⟨nL + j, 0, none⟩ ∧ N1 ≤ y.2.1 ∧ ∀ i v, (cellsL y.1.p.sends)[i]? = some v → w2.cell? ⟨y.2.1, y.2.2 + i, none⟩ = some v)
  cells : ∀ i, i < 3 → ∀ v, y.1.cells[i]? = some v → ∃ v', w2.cell? ⟨lb, j * 4 + i, none⟩ = some v' ∧ VR (InV phL phV) ρ v v'
  last : ∃ sW, w2.cell? ⟨lb, j * 4 + 3, none⟩ = some (.slice sW y.1.p.sends.length y.1.sc) ∧ (y.1.p.sends = [] → sW = none) ∧ (y.1.p.sends ≠ [] → sW = some ⟨y.2.1, y.2.2, none⟩)
section
variable {ρ : Ren} {k k' : LK} {L W w1 w2 : World} {B base gl lb c cL cap s0 : Nat} {l : List PL} {itemsL : Array Value} {bs : List Nat}
theorem joined_at (hM : Mir (InV phL phV) Try.prog ρ k L W) (hL : Lies L B base gl l) (hW : LiesW (InV phL phV) ρ k W gl lb l) (hnil : ∀ x ∈ l, x.p.sends = [] ∧ x.sA = none ∧ x.sc = 0 ∧ x.p.come.length ≤ 1000000)
    (hbs : ∀ j (h : j < l.length), l[j].p.todo ≠ [] → j ∈ bs) (hbl : ∀ j ∈ bs, ∃ h : j < l.length, l[j].p.todo ≠ []) (hh : w1.heap = W.heap.push (.cells #[.int .u64 0, .int .u32 0] 114))
    (hrel : Rely (keepK (PhX w1.heap.size W.heap.size c lb bs)) w1 w2) (hdone : ∀ r, r < bs.length → ∃ kk, PhQr ρ l w1.heap.size lb bs r kk w2) (nL : Nat) {j : Nat} (hj : j < l.length) : ∃ y, Joined ρ w2 w1.heap.size nL W.heap.size lb l j y := by
  have hx := List.getElem_mem hj
  obtain ⟨n1, n2, n3, n4⟩ := hnil _ hx
  by_cases hz : l[j].p.todo = []
  · -- nothing to do
    have hrp : ranP l[j].p = l[j].p := by
      generalize l[j].p = p at hz n1
      obtain ⟨todo, num, come, sends⟩ := p
      simp only at hz n1
      subst hz n1
      rfl
    have hkeep : ∀ i, i < 4 → w2.cell? ⟨lb, j * 4 + i, none⟩ = W.cell? ⟨lb, j * 4 + i, none⟩ := fun i hi => by
      have hlt := hW.lt
      have h1 : w1.cell? ⟨lb, j * 4 + i, none⟩ = W.cell? ⟨lb, j * 4 + i, none⟩ := by simp only [World.cell?, hh, Array.getElem?_push, if_neg (Nat.ne_of_lt hlt)]
      refine (hrel.cell _ (.inr ⟨?_, ?_, ?_, ?_, fun r hr => ?_⟩)).trans h1
      · show lb < w1.heap.size
        rw [hh]; simp; omega
      · rintro ⟨o, s, e⟩
        cases e
        omega
      · intro e; cases e
      · intro e; cases e
      · rintro ⟨i', hi', e⟩
        have e2 : j * 4 + i = bs.getD r 0 * 4 + i' := by have := congrArg (fun x : Loc => match x with | .cell a => a.off | _ => 0) e; exact this
        have e3 : j = bs.getD r 0 := by omega
        have : j ∈ bs := by rw [e3, List.getD_eq_getElem?_getD, List.getElem?_eq_getElem hr]; exact List.getElem_mem hr
        obtain ⟨_, h2⟩ := hbl j this
        exact h2 hz
    refine ⟨(l[j], (W.heap.size, 0)), hj, hrp.symm, ⟨0, 0, by cases l[j].tA <;> simp [add_zero], by simp, by simp, fun _ => rfl⟩, .inl ⟨rfl, rfl⟩, .inl ⟨n1, n2, rfl⟩, fun i hi v hv => ?_, none, ?_, fun _ => rfl, fun h => absurd n1 h⟩
    · obtain ⟨v', h1, h2, _⟩ := hW.cell _ v ((cellsP_at l j hj i (by omega)).trans hv)
      exact ⟨v', (hkeep i (by omega)).trans h1, h2⟩
    · obtain ⟨v', h1, h2, _⟩ := hW.cell _ _ (cellsP_at l j hj 3 (by omega))
      rw [hkeep 3 (by omega), h1]
      rw [n2] at h2
      cases h2
      rfl
  · have hjb := hbs j hj hz
    obtain ⟨r, hr, hrj⟩ := List.getElem_of_mem hjb
    have hgd : bs.getD r 0 = j := by rw [List.getD_eq_getElem?_getD, List.getElem?_eq_getElem hr]; exact hrj
    obtain ⟨kk, x, tb, tO, cW, cc, q1, q2, q3, q4⟩ := hdone r hr
    rw [hgd] at q1 q4
    rw [List.getElem?_eq_getElem hj] at q1
    obtain rfl := Option.some.inj q1
    obtain ⟨d, x, cA, cc', sW, sc, p', h1, h2, h3, h4, h5, h6, h7, h8, h9, h10⟩ := q4
    have hp' : p' = ranP l[j].p := by rw [h1, n1]; rfl
    obtain ⟨a0, htA, hAR⟩ : ∃ a0, l[j].tA = some a0 ∧ AR ρ a0 ⟨tb, tO, none⟩ := by
      have hln : l[j].p.todo.length ≠ 0 := fun e => hz (List.length_eq_zero_iff.1 e)
      generalize l[j].p.todo.length = ln at q2 hln
      generalize l[j].tc = ltc at q2
      generalize l[j].tA = tA at q2
      cases q2 with
      | slice h _ _ => exact ⟨_, rfl, h⟩
      | void b o s a' => exact absurd rfl hln
    -- the letters
    obtain ⟨sA, pc, hs⟩ : ∃ (sA : Option Addr) (pc : Nat × Nat), ((p'.sends = [] ∧ sA = none ∧ pc = (W.heap.size, 0)) ∨ (p'.sends ≠ [] ∧ sA = some ⟨nL + j, 0, none⟩ ∧ w1.heap.size ≤ pc.1 ∧ ∀ i v, (cellsL p'.sends)[i]? = some v → w2.cell? ⟨pc.1, pc.2 + i, none⟩ = some v)) ∧ (p'.sends = [] → sW = none) ∧ (p'.sends ≠ [] → sW = some ⟨pc.1, pc.2, none⟩) := by
      rcases h10 with ⟨e1, e2⟩ | ⟨g, o, e1, e2, e3, e4⟩
      · exact ⟨none, (W.heap.size, 0), .inl ⟨e1, rfl, rfl⟩, fun _ => e2, fun h => absurd e1 h⟩
      · exact ⟨_, (g, o), .inr ⟨e1, rfl, e3, fun i v hv => (e4 i v hv).1⟩, fun h => absurd h e1, fun _ => e2⟩
    obtain ⟨cv', hcv, hcr⟩ : ∃ cv', ((cv' = l[j].cv ∧ p'.come = l[j].p.come) ∨ (cv' = .slice none 0 0 ∧ p'.come = [])) ∧ VR (InV phL phV) ρ cv' (.slice cA p'.come.length cc') := by
      rcases h8 with ⟨rfl, rfl, e3⟩ | ⟨rfl, rfl, e3⟩
      · exact ⟨_, .inl ⟨rfl, e3⟩, by rw [e3]; exact q3⟩
      · exact ⟨_, .inr ⟨rfl, e3⟩, by rw [e3]; exact .nilSlice _ _⟩
    refine ⟨(⟨p', l[j].tA.map (·.add (3 * x)), l[j].tc - d, cv', sA, sc⟩, pc), hj, hp', ⟨d, x, rfl, rfl, h2, h3⟩, hcv, hs.1, fun i hi v hv => ?_, sW, h7, hs.2.1, hs.2.2⟩
    obtain rfl | rfl | rfl : i = 0 ∨ i = 1 ∨ i = 2 := by omega
    · simp only [PL.cells, List.getElem?_cons_zero, Option.some.injEq] at hv
      subst hv
      refine ⟨_, h4, ?_⟩
      rw [htA]
      exact .slice (hAR.add _) _ _
    · simp only [PL.cells, List.getElem?_cons_succ, List.getElem?_cons_zero, Option.some.injEq] at hv
      subst hv
      exact ⟨_, h5, .int _ _⟩
    · simp only [PL.cells, List.getElem?_cons_succ, List.getElem?_cons_zero, Option.some.injEq] at hv
      subst hv
      exact ⟨_, h6, hcr⟩
end
end Go.Proofs.Yticdjkkcfdbdcaa

/- Behind the join of phase.Run: the lone world told anew, whole. No conditions but those named. -/
namespace Go.Proofs.Yticdjkkcfdbdcaa
open Go.Conc Go.ConcN Go.RowKit
/-- The lone world behind the join. -/
def joinW (L : World) (gl cL cap s0 rc : Nat) (bad : TypeId) (l' : List PL) (rows : List (List Value)) : World :=
  { L with heap := ((L.heap.setIfInBounds gl (.cells (cellsP l').toArray 102 (0, 0))).setIfInBounds cL (.chan cap #[] true s0 rc false)) ++ (rows.map fun vs => Obj.cells vs.toArray bad (0, vs.length)).toArray }
section
variable {L : World} {gl cL cap s0 rc : Nat} {bad : TypeId} {l' : List PL} {rows : List (List Value)}
theorem joinW_size : (joinW L gl cL cap s0 rc bad l' rows).heap.size = L.heap.size + rows.length := by simp [joinW]
theorem joinW_new (j : Nat) : (joinW L gl cL cap s0 rc bad l' rows).heap[L.heap.size + j]? = (rows[j]?).map fun vs => Obj.cells vs.toArray bad (0, vs.length) := by
  unfold joinW
  simp only [Array.getElem?_append, Array.size_setIfInBounds]
  rw [if_neg (by omega)]
  simp
theorem joinW_old {b : Nat} (hb : b < L.heap.size) (h1 : b ≠ gl) (h2 : b ≠ cL) : (joinW L gl cL cap s0 rc bad l' rows).heap[b]? = L.heap[b]? := by
  unfold joinW
  simp only [Array.getElem?_append, Array.size_setIfInBounds]
  rw [if_pos hb, Array.getElem?_setIfInBounds, if_neg (fun e => h2 e.symm), Array.getElem?_setIfInBounds, if_neg (fun e => h1 e.symm)]
theorem joinW_gl (hb : gl < L.heap.size) (h2 : gl ≠ cL) : (joinW L gl cL cap s0 rc bad l' rows).heap[gl]? = some (.cells (cellsP l').toArray 102 (0, 0)) := by
  unfold joinW
  simp only [Array.getElem?_append, Array.size_setIfInBounds]
  rw [if_pos hb, Array.getElem?_setIfInBounds, if_neg (fun e => h2 e.symm), Array.getElem?_setIfInBounds, if_pos rfl, if_pos hb]
theorem joinW_cL (hb : cL < L.heap.size) : (joinW L gl cL cap s0 rc bad l' rows).heap[cL]? = some (.chan cap #[] true s0 rc false) := by
  unfold joinW
  simp only [Array.getElem?_append, Array.size_setIfInBounds]
  rw [if_pos hb, Array.getElem?_setIfInBounds, if_pos rfl, if_pos (by simpa using hb)]
end
section
variable {ρ : Ren} {k k' : LK} {L W w1 w2 : World} {B base gl lb c cL cap s0 : Nat} {l : List PL} {itemsL : Array Value} {bs : List Nat}
set_option maxHeartbeats 1000000 in
theorem ph_join (hM : Mir (InV phL phV) Try.prog ρ k L W) (hL : Lies L B base gl l) (hW : LiesW (InV phL phV) ρ k W gl lb l) (hnil : ∀ x ∈ l, x.p.sends = [] ∧ x.sA = none ∧ x.sc = 0 ∧ x.p.come.length ≤ 1000000)
    (hbs : ∀ j (h : j < l.length), l[j].p.todo ≠ [] → j ∈ bs) (hbl : ∀ j ∈ bs, ∃ h : j < l.length, l[j].p.todo ≠ []) (hh : w1.heap = W.heap.push (.cells #[.int .u64 0, .int .u32 0] 114))
    (hcL : L.heap[cL]? = some (.chan cap itemsL true s0 0 false)) (hcρ : ρ cL = some (c, 0)) (hk : ∀ l, k.W l ∨ k.R l → MemLoc W.heap.size l)
    (hrel : Rely (keepK (PhX w1.heap.size W.heap.size c lb bs)) w1 w2) (hkW : ∀ l, k.W l → k'.W l) (hkR : ∀ l, k.R l → k'.R l) (hkN : ∀ l, NewLoc w1.heap.size w2.heap.size l → k'.W l) (hno : NoMore c cap s0 w2) (hdone : ∀ r, r < bs.length → ∃ kk, PhQr ρ l w1.heap.size lb bs r kk w2) :
    ∃ (ρ' : Ren) (l' : List PL) (L' : World) (nb : Nat), ρ.sub ρ' ∧ Mir (InV phL phV) Try.prog ρ' k' L' w2 ∧ Lies L' B base gl l' ∧ l'.map (·.p) = l.map (fun x => ranP x.p) ∧ L.heap.size ≤ L'.heap.size ∧ (∀ b, b < L.heap.size → b ≠ gl → b ≠ cL → L'.heap[b]? = L.heap[b]?) ∧ ρ' nb = some (W.heap.size, 0) ∧ ¬ ρ'.isChan nb := by
  obtain ⟨rc, hno⟩ := hno
  obtain ⟨ys, hyl, hys⟩ := list_choose (R := Joined ρ w2 w1.heap.size L.heap.size W.heap.size lb l) l.length fun j hj => joined_at hM hL hW hnil hbs hbl hh hrel hdone L.heap.size hj
  have hz1 : w1.heap.size = W.heap.size + 1 := by rw [hh]; simp
  have hz2 := hrel.size
  have hglt : gl < L.heap.size := hL.blk.lt
  have hcLlt : cL < L.heap.size := (Array.getElem?_eq_some_iff.1 hcL).1
  have hgc : gl ≠ cL := fun e => by have := hL.blk; unfold Blk at this; rw [e, hcL] at this; cases this
  let l' : List PL := ys.map (·.1)
  let pl : List (Nat × Nat) := ys.map (·.2) ++ [(W.heap.size, 0)]
  let rows : List (List Value) := ys.map (fun y => cellsL y.1.p.sends) ++ [[]]
  have hll : l'.length = l.length := by simp [l', hyl]
  have hpl : pl.length = l.length + 1 := by simp [pl, hyl]
  have hrl : rows.length = l.length + 1 := by simp [rows, hyl]
  have hbase := hM.wr.base
  have hfar : ∀ p ∈ pl, W.heap.size ≤ p.1 := by
    intro p hp
    simp only [pl, List.mem_append, List.mem_map, List.mem_singleton] at hp
    rcases hp with ⟨y, hy, rfl⟩ | rfl
    · obtain ⟨j, hj, rfl⟩ := List.getElem_of_mem hy
      rcases (hys j _ (List.getElem?_eq_getElem hj)).sends with ⟨_, _, e⟩ | ⟨_, _, e, _⟩
      · rw [e]; exact Nat.le_refl _
      · omega
    · exact Nat.le_refl _
  have hp : ∀ p ∈ pl, ρ.base ≤ p.1 := fun p h => Nat.le_trans hbase.2 (hfar p h)
  let L' := joinW L gl cL cap s0 rc ρ.bad l' rows
  have hsub := adopt_sub hM.wr hp
  let ρ' := ρ.adopt L.heap.size pl hM.wr.base.1 hp
  have hto : ∀ j p, pl[j]? = some p → ρ' (L.heap.size + j) = some p := fun j p h => by
    show (if L.heap.size + j < L.heap.size then ρ (L.heap.size + j) else pl[L.heap.size + j - L.heap.size]?) = _
    rw [if_neg (by omega), show L.heap.size + j - L.heap.size = j by omega]
    exact h
  have hnch : ∀ j, ¬ ρ'.isChan (L.heap.size + j) := fun j h => by
    have := hM.wr.chanLt _ (.inl (show ρ.isChan _ from h))
    omega
  have hwc : W.heap[c]? ≠ none ∧ ∃ x, W.heap[c]? = some (.chan cap x true s0 0 false) := by
    obtain ⟨x', h1, _⟩ := hM.wr.chans _ _ _ _ _ _ _ _ _ hcρ hcL
    exact ⟨by rw [h1]; simp, x', h1⟩
  obtain ⟨_, xW, hxW⟩ := hwc
  have hup : ∀ c0, c0 < W.heap.size → w1.heap[c0]? = W.heap[c0]? := fun c0 h => by rw [hh, Array.getElem?_push, if_neg (Nat.ne_of_lt h)]
  have hWs : ∀ (c0 : Nat) o, W.heap[c0]? = some o → ∃ o', w2.heap[c0]? = some o' ∧ Alike o o' := fun c0 o ho => hrel.shape c0 o ((hup c0 (Array.getElem?_eq_some_iff.1 ho).1).trans ho)
  have hXo : ∀ c0, c0 < W.heap.size → c0 ≠ c → PhX w1.heap.size W.heap.size c lb bs (.obj c0) := fun c0 h1 h2 => ⟨by show c0 < _; omega, (fun ⟨_, _, e⟩ => by cases e), (fun e => by cases e; omega), (fun e => by cases e; exact h2 rfl), fun r _ ⟨_, _, e⟩ => by cases e⟩
  have hstay : ∀ c0 o, W.heap[c0]? = some o → NotCells o → c0 ≠ c → w2.heap[c0]? = W.heap[c0]? := fun c0 o h1 h2 h3 => by
    have hlt := (Array.getElem?_eq_some_iff.1 h1).1
    have h4 := (hup c0 hlt).trans h1
    exact (hrel.obj c0 o h4 h2 (.inr (hXo c0 hlt h3))).trans h1.symm
  have hold : ∀ b, b < L.heap.size → b ≠ gl → b ≠ cL → L'.heap[b]? = L.heap[b]? := fun b h1 h2 h3 => joinW_old h1 h2 h3
  have hL'g : L'.heap[gl]? = some (.cells (cellsP l').toArray 102 (0, 0)) := joinW_gl hglt hgc
  have hL'c : L'.heap[cL]? = some (.chan cap #[] true s0 rc false) := joinW_cL hcLlt
  have hat : ∀ (j : Nat) (h : j < l'.length), ∃ y : PL × (Nat × Nat), ys[j]? = some y ∧ l'[j] = y.1 := fun j h => by
    have hj : j < ys.length := by simpa [l'] using h
    exact ⟨ys[j], List.getElem?_eq_getElem hj, by simp [l']⟩
  have hplj : ∀ (j : Nat) (y : PL × (Nat × Nat)), ys[j]? = some y → pl[j]? = some y.2 ∧ rows[j]? = some (cellsL y.1.p.sends) := fun j y h => by
    have hj := (List.getElem?_eq_some_iff.1 h).1
    simp only [pl, rows]
    rw [List.getElem?_append_left (by simpa using hj), List.getElem?_append_left (by simpa using hj)]
    simp [h]
  have hmir : WR (InV phL phV) ρ' k' L' w2 := by
    refine WR.retell (rows := rows) hM.wr hp (by rw [hrl, hpl]) (by rw [show L'.heap.size = _ from joinW_size, hrl, hpl]) (fun b c0 s hb => ?_) (fun j vs hj => ?_) (fun b o ho => ?_) hWs (by omega) (fun b c0 s x e fz hb ho i v hv => ?_) (fun b c0 s n x cl sn rc0 t hb ho => ?_) (fun b c0 s o hb ho hor => ?_) hfar (fun j c0 s vs hj hvs => ?_)
    · exact ⟨fun a ha => ⟨fun h => hkW _ h, fun h => hkR _ h⟩, fun h => hkW _ h⟩
    · rw [show L'.heap[L.heap.size + j]? = _ from joinW_new j, hj]; rfl
    · have hb := (Array.getElem?_eq_some_iff.1 ho).1
      by_cases e1 : b = gl
      · subst e1
        have := hL.blk
        unfold Blk at this
        rw [this] at ho
        cases ho
        exact ⟨_, hL'g, _, rfl, by simp [cellsP_length, hll]⟩
      · by_cases e2 : b = cL
        · subst e2
          rw [hcL] at ho
          cases ho
          exact ⟨_, hL'c, _, _, _, _, _, _, rfl⟩
        · exact ⟨o, (hold b hb e1 e2).trans ho, .refl o⟩
    · have hb0 := (hM.wr.lt _ _ _ hb).1
      by_cases e1 : b = gl
      · subst e1
        rw [hL'g] at ho
        cases ho
        obtain ⟨rfl, rfl⟩ : c0 = lb ∧ s = 0 := by have := hW.at_; rw [hb] at this; cases this; exact ⟨rfl, rfl⟩
        rw [Nat.zero_add]
        obtain ⟨q, hq, i', hi', rfl, hc⟩ := cellsP_inv (show (cellsP l')[i]? = some v by simpa using hv)
        obtain ⟨y, hy, hye⟩ := hat q hq
        rw [hye] at hc
        have J := hys q y hy
        by_cases h3 : i' < 3
        · obtain ⟨v', g1, g2⟩ := J.cells i' h3 v hc
          exact ⟨v', g1, g2.sub hsub⟩
        · obtain rfl : i' = 3 := by omega
          simp only [PL.cells, List.getElem?_cons_succ, List.getElem?_cons_zero, Option.some.injEq] at hc
          subst hc
          obtain ⟨sW, g1, g2, g3⟩ := J.last
          refine ⟨_, g1, ?_⟩
          rcases J.sends with ⟨a1, a2, _⟩ | ⟨a1, a2, a3, a4⟩
          · rw [a2, g2 a1]; exact .nilSlice _ _
          · rw [a2, g3 a1]
            exact .slice ⟨⟨rfl, hnch q⟩, y.2.1, y.2.2, hto q y.2 (hplj q y hy).1, by rw [Nat.add_zero]⟩ _ _
      · by_cases e2 : b = cL
        · subst e2
          rw [hL'c] at ho
          cases ho
        · rw [hold b hb0 e1 e2] at ho
          obtain ⟨x', e', fz', v', g1, g2, g3, g4, _⟩ := hM.wr.cells b c0 s x e fz hb ho i v hv
          have hlt := (hM.wr.lt _ _ _ hb).2
          have hcW : W.cell? ⟨c0, s + i, none⟩ = some v' := by simp [World.cell?, g1, g2]
          refine ⟨v', (hrel.cell _ (.inr ⟨by show c0 < _; omega, ?_, (fun e => by cases e), (fun e => by cases e), fun r hr => ?_⟩)).trans ((by simp only [World.cell?, hup c0 hlt]) : w1.cell? ⟨c0, s + i, none⟩ = W.cell? ⟨c0, s + i, none⟩) |>.trans hcW, g3.sub hsub⟩
          · rintro ⟨o, s', e⟩
            cases e
            omega
          · rintro ⟨i', hi', e⟩
            obtain ⟨hj, _⟩ := hbl (bs.getD r 0) (by rw [List.getD_eq_getElem?_getD, List.getElem?_eq_getElem hr]; exact List.getElem_mem hr)
            have hcl : L.cell? ⟨b, i, none⟩ = some v := by simp [World.cell?, ho, hv]
            refine hW.far hM hL hb e1 hcl (bs.getD r 0 * 4 + i') (by rw [cellsP_length]; omega) ?_
            have := congrArg (fun x : Loc => match x with | .cell a => a | _ => ⟨0, 0, none⟩) e
            exact this
    · have hb0 := (hM.wr.lt _ _ _ hb).1
      by_cases e1 : b = gl
      · subst e1
        rw [hL'g] at ho
        cases ho
      · by_cases e2 : b = cL
        · subst e2
          rw [hL'c] at ho
          cases ho
          rw [hcρ] at hb
          cases hb
          exact ⟨#[], hno, rfl, fun i v v' h => by simp at h⟩
        · rw [hold b hb0 e1 e2] at ho
          obtain ⟨x', g1, g2, g3⟩ := hM.wr.chans b c0 s n x cl sn rc0 t hb ho
          have hs : s = 0 := (hM.wr.others b c0 s _ hb ho not_cells_chan).1
          subst hs
          refine ⟨x', (hstay c0 _ g1 not_cells_chan fun e => ?_).trans g1, g2.sub hsub⟩
          subst e
          exact e2 (hM.wr.apartO b cL c0 0 0 _ _ hb hcρ ho hcL not_cells_chan not_cells_chan)
    · obtain ⟨_, o2, g2, g3, _⟩ := hM.wr.objs b c0 s o hb ho hor
      refine hstay c0 o2 g2 g3.notCells.2 fun e => ?_
      subst e
      rw [hxW] at g2
      cases g2
      cases g3
    · have hjl : j < l.length + 1 := by rw [← hpl]; exact (List.getElem?_eq_some_iff.1 hj).1
      have hwgc : ∃ x e fz, w2.heap[W.heap.size]? = some (.cells x e fz) := by
        obtain ⟨o', h1, h2⟩ := hrel.shape W.heap.size _ (by rw [hh]; exact Array.getElem?_push_size)
        cases o' <;> simp [Alike] at h2
        exact ⟨_, _, _, h1⟩
      by_cases e : j < l.length
      · have hjy : j < ys.length := by rw [hyl]; exact e
        obtain ⟨h1, h2⟩ := hplj j _ (List.getElem?_eq_getElem hjy)
        have J := hys j _ (List.getElem?_eq_getElem hjy)
        generalize ys[j] = y at h1 h2 J
        rw [h1] at hj
        rw [h2] at hvs
        cases hvs
        have hj2 : y.2 = (c0, s) := Option.some.inj hj
        rcases J.sends with ⟨a1, a2, a3⟩ | ⟨a1, a2, a3, a4⟩
        · rw [hj2] at a3
          cases a3
          rw [a1]
          exact ⟨hwgc, fun i v hv => by simp [cellsL] at hv⟩
        · rw [hj2] at a3 a4
          simp only at a3 a4
          have hcell : ∀ (i : Nat) v, (cellsL y.1.p.sends)[i]? = some v → ∃ v', w2.cell? ⟨c0, s + i, none⟩ = some v' ∧ VR (InV phL phV) ρ' v v' ∧ (k'.W (.cell ⟨c0, s + i, none⟩) ∨ k'.R (.cell ⟨c0, s + i, none⟩)) := fun i v hv => by
            have h5 := a4 i v hv
            obtain ⟨x, ee, fz, hx, _⟩ := cell_inv h5
            have hm := List.mem_of_getElem? hv
            simp only [cellsL, List.mem_flatMap] at hm
            obtain ⟨z, _, hz⟩ := hm
            refine ⟨v, h5, ?_, .inl (hkN _ ⟨a3, (Array.getElem?_eq_some_iff.1 hx).1⟩)⟩
            simp at hz
            rcases hz with rfl | rfl <;> exact .int _ _
          refine ⟨?_, hcell⟩
          obtain ⟨z, zs, hzs⟩ := List.exists_cons_of_ne_nil a1
          obtain ⟨x, ee, fz, hx, _⟩ := cell_inv (a4 0 (.int .i64 z.1) (by rw [hzs]; rfl))
          exact ⟨x, ee, fz, hx⟩
      · have hje : j = l.length := by omega
        subst hje
        have h1 : pl[l.length]? = some (W.heap.size, 0) := by simp only [pl]; rw [List.getElem?_append_right (by simp [hyl])]; simp [hyl]
        have h2 : rows[l.length]? = some [] := by simp only [rows]; rw [List.getElem?_append_right (by simp [hyl])]; simp [hyl]
        rw [h1] at hj
        rw [h2] at hvs
        cases hj
        cases hvs
        exact ⟨hwgc, fun i v hv => by simp at hv⟩
  have hBc : ∀ p : Addr, p.block < B → L'.cell? p = L.cell? p := fun p hp => by
    have h1 := hL.low
    have h2 : p.block ≠ gl := by omega
    by_cases e : p.block = cL
    · simp only [World.cell?, e, hL'c, hcL]
    · exact World.cell?_of_block (hold _ (by omega) h2 e)
  have hLz : L.heap.size ≤ L'.heap.size := by rw [show L'.heap.size = _ from joinW_size]; omega
  have hmemy : ∀ x ∈ l', ∃ (j : Nat) (y : PL × (Nat × Nat)), ys[j]? = some y ∧ x = y.1 := fun x hx => by
    obtain ⟨j, hj, rfl⟩ := List.getElem_of_mem hx
    obtain ⟨y, h1, h2⟩ := hat j hj
    exact ⟨j, y, h1, h2⟩
  have hlies : Lies L' B base gl l' := by
    refine ⟨hL'g, fun x hx => ?_, fun x hx => ?_, fun i j x y hx hy hij => ?_, fun x hx hn => ?_, hL.low, hL.below, Nat.le_trans hL.bound hLz⟩
    · obtain ⟨j, y, hy, rfl⟩ := hmemy x hx
      have J := hys j y hy
      obtain ⟨d, xx, t1, t2, t3, t4⟩ := J.todo
      obtain ⟨h1, h2, h3⟩ := hL.todo _ (List.getElem_mem J.lt)
      rw [t1, t2, t3]
      refine ⟨(h1.keep hBc).drop t4, ?_, ?_⟩ <;> rw [List.length_drop] <;> omega
    · obtain ⟨j, y, hy, rfl⟩ := hmemy x hx
      have J := hys j y hy
      rcases J.come with ⟨c1, c2⟩ | ⟨c1, c2⟩
      · obtain ⟨h1, h2⟩ := hL.come _ (List.getElem_mem J.lt)
        rw [c1, c2]
        refine ⟨own_of_block h1 fun b hb => ?_, h2⟩
        obtain ⟨h3, cur, h4⟩ := own_block_at h1 hb
        exact hold b (Array.getElem?_eq_some_iff.1 h4).1 (by have := hL.below; omega) fun e => by rw [e, hcL] at h4; cases h4
      · rw [c1, c2]
        exact ⟨World.ownsRow_nil .., fun _ => rfl⟩
    · obtain ⟨hi, rfl⟩ := List.getElem?_eq_some_iff.1 hx
      obtain ⟨hj, rfl⟩ := List.getElem?_eq_some_iff.1 hy
      obtain ⟨x, hx1, hx2⟩ := hat i hi
      obtain ⟨y, hy1, hy2⟩ := hat j hj
      have Jx := hys i x hx1
      have Jy := hys j y hy1
      rw [hx2, hy2]
      rcases Jx.come with ⟨c1, _⟩ | ⟨c1, _⟩
      · rcases Jy.come with ⟨d1, _⟩ | ⟨d1, _⟩
        · rw [c1, d1]; exact hL.apart i j _ _ (List.getElem?_eq_getElem Jx.lt) (List.getElem?_eq_getElem Jy.lt) hij
        · rw [d1]
          cases hc : x.1.cv.ownBlock with
          | none => exact .inl rfl
          | some b => exact .inr (by simp [Value.ownBlock])
      · rw [c1]; exact .inl rfl
    · obtain ⟨j, y, hy, rfl⟩ := hmemy x hx
      have J := hys j y hy
      rcases J.sends with ⟨a1, _⟩ | ⟨a1, a2, a3, a4⟩
      · exact absurd a1 hn
      · refine ⟨_, ρ.bad, (0, (cellsL y.1.p.sends).length), a2, hM.pr.none, ?_⟩
        rw [show L'.heap[L.heap.size + j]? = _ from joinW_new j, (hplj j y hy).2]
        rfl
  have hmap : l'.map (·.p) = l.map (fun x => ranP x.p) := by
    apply List.ext_getElem?
    intro j
    simp only [List.getElem?_map]
    by_cases hj : j < l.length
    · obtain ⟨y, h1, h2⟩ := hat j (by rw [hll]; exact hj)
      rw [List.getElem?_eq_getElem (by rw [hll]; exact hj), List.getElem?_eq_getElem hj, h2]
      simp [(hys j y h1).p]
    · rw [List.getElem?_eq_none (by rw [hll]; omega), List.getElem?_eq_none (by omega)]
      rfl
  refine ⟨ρ', l', L', L.heap.size + l.length, hsub, ⟨hmir, ⟨hM.pr.base, hM.pr.bad, hM.pr.none⟩⟩, hlies, hmap, hLz, hold, hto _ _ ?_, hnch _⟩
  simp only [pl]
  rw [List.getElem?_append_right (by simp [hyl])]
  simp [hyl]
end
end Go.Proofs.Yticdjkkcfdbdcaa
