/- steplaw.PhaseRuns in company, told of the lone world: it answers true. No conditions but those named. -/
import Derived.Test.YticdjkkcfdbdcaaPhZa
import Derived.Test.YticdjkkcfdbdcaaPhV
import Derived.Test.YticdjkkcfdbdcaaPhVe
import Derived.Test.YticdjkkcfdbdcaaPhS
namespace Go.Proofs.Yticdjkkcfdbdcaa
open Go.Conc Go.ConcN Go.RowKit Go.ChangeShapes Go.WideShapes Go.ChangeAt
theorem pack_one {fn : Func} {i : Tmp} (h : fn.results = #[.tmp i]) (T : Array Value) : pack (resVals fn T) = T.getD i undef := by
  simp [resVals, h, pack]
def Keeps (L L' : World) : Prop := L.heap.size ≤ L'.heap.size ∧ ∀ b, b < L.heap.size → L'.heap[b]? = L.heap[b]?
theorem Keeps.trans {L L1 L2 : World} (h : Keeps L L1) (h' : Keeps L1 L2) : Keeps L L2 := ⟨Nat.le_trans h.1 h'.1, fun b hb => (h'.2 b (Nat.lt_of_lt_of_le hb h.1)).trans (h.2 b hb)⟩
theorem Keeps.below {L L1 : World} (h : RowKit.Below L.heap.size L L1) : Keeps L L1 := ⟨h.size, fun b hb => h.block b hb⟩
theorem Keeps.eq {L L1 : World} (e : L1.heap = L.heap) : Keeps L L1 := ⟨by rw [e]; exact Nat.le_refl _, fun b _ => by rw [e]⟩
theorem Keeps.cell {L L1 : World} (h : Keeps L L1) {p : Addr} (hp : p.block < L.heap.size) : L1.cell? p = L.cell? p := by simp only [World.cell?, h.2 _ hp]
theorem Rd.kept {L L1 : World} {B : Nat} {A : Option Addr} {vs : List Value} (h : Rd L B A vs) (hB : B ≤ L.heap.size) (hk : Keeps L L1) : Rd L1 B A vs := h.keep fun p hp => hk.cell (Nat.lt_of_lt_of_le hp hB)
theorem RdAll.kept {L L1 : World} {B : Nat} {A : Option Addr} {D : List DosR} (h : RdAll L B A D) (hB : B ≤ L.heap.size) (hk : Keeps L L1) : RdAll L1 B A D := h.keep fun p hp => hk.cell (Nat.lt_of_lt_of_le hp hB)
theorem RdAll.more {w : World} {B B' : Nat} {A : Option Addr} {D : List DosR} (h : RdAll w B A D) (hB : B ≤ B') : RdAll w B' A D :=
  ⟨fun hn => by
    obtain ⟨b, o, e, hb, hc⟩ := h.row hn
    exact ⟨b, o, e, Nat.lt_of_lt_of_le hb hB, hc⟩, fun k hk => (h.each k hk).more hB, h.small, h.fits⟩
theorem own_rd {w : World} {base n : Nat} {e : TypeId} {v : Value} {vs : List Value} {p : Option Addr} {cc : Nat} (h : w.ownsRow base e 1 v n vs) (hv : v = .slice p n cc) : Rd w w.heap.size p vs := by
  subst hv
  intro hne
  rcases h.2 with ⟨_, h0⟩ | ⟨g, cap, cur, hv, _, hg, _, _, _, ht⟩
  · exfalso
    have := h.1
    rw [h0] at this
    exact hne (List.eq_nil_of_length_eq_zero (by omega))
  · cases hv
    refine ⟨g, 0, rfl, (Array.getElem?_eq_some_iff.1 hg).1, fun i u hu => ?_⟩
    have hi : i < n * 1 := by rw [← h.1]; exact (List.getElem?_eq_some_iff.1 hu).1
    rw [Nat.zero_add, h.cellAt i hi]
    exact hu
/-- What the reference answers, whatever the input. -/
def RefPM (D : List DosR) (wk : Int) (L : World) (v : Value) (L1 : World) : Prop :=
  (runCode D wk = 0 → ∃ k ps g c, Phs (startP D) k ps ∧ v = .tuple #[.slice (some ⟨g, 0, none⟩) D.length c, .int .i64 k, .int .i64 0] ∧ Blk L1 g 2 (ints (ps.map (·.num)))) ∧
  (runCode D wk ≠ 0 → v = .tuple #[.slice none 0 0, .int .i64 0, .int .i64 (runCode D wk)]) ∧ Keeps L L1
/-- One form for right and for wrong input. -/
structure SaidP (D : List DosR) (wk : Int) (k : Int) (ys : List Int) (code : Int) : Prop where
  len : ys.length ≤ 200
  run : ∀ v L L1, RunPM D wk L v L1 → ∃ p c, v = .tuple #[.slice p ys.length c, .int .i64 k, .int .i64 code] ∧ Rd L1 L1.heap.size p (ints ys) ∧ Keeps L L1
  ref : ∀ v L L1, RefPM D wk L v L1 → ∃ p c, v = .tuple #[.slice p ys.length c, .int .i64 k, .int .i64 code] ∧ Rd L1 L1.heap.size p (ints ys) ∧ Keeps L L1
theorem phs_length {ps ps' : List ProcR} {k : Nat} (h : Phs ps k ps') : ps'.length = ps.length := by
  induction h with
  | done _ => rfl
  | step _ _ ih => rw [ih, phaseAll_length]
theorem startP_length (D : List DosR) : (startP D).length = D.length := by simp [startP]
theorem runCode_zero {D : List DosR} {wk : Int} (h : runCode D wk = 0) : dosCode D = 0 ∧ wkOk wk := by
  unfold runCode at h
  split at h
  · rename_i h0
    exact absurd h h0
  · rename_i h0
    split at h
    · rename_i h1
      exact ⟨Classical.byContradiction h0, h1⟩
    · cases h
theorem kp_keeps {L L1 : World} (h : Kp L.heap.size L L1) : Keeps L L1 := ⟨h.size, h.at_⟩
theorem saidP (D : List DosR) (wk : Int) : ∃ k ys code, SaidP D wk k ys code := by
  by_cases h0 : runCode D wk = 0
  · obtain ⟨k, ps, hP⟩ := Phs.ex _ (startP D) (Nat.le_refl _)
    have hlen : (ps.map (·.num)).length = D.length := by rw [List.length_map, phs_length hP, startP_length]
    refine ⟨k, ps.map (·.num), 0, by rw [hlen]; exact (dosCode_zero (runCode_zero h0).1).1, fun v L L1 h => ?_, fun v L L1 h => ?_⟩
    · obtain ⟨k', ps', u, h1, rfl, h3⟩ := h.1 h0
      obtain ⟨rfl, rfl⟩ := hP.det h1
      obtain ⟨p, cc, rfl, _, _⟩ := own_form h3
      exact ⟨p, cc, by rw [hlen], own_rd h3 rfl, kp_keeps h.2.2⟩
    · obtain ⟨k', ps', g, cc, h1, rfl, h3⟩ := h.1 h0
      obtain ⟨rfl, rfl⟩ := hP.det h1
      exact ⟨_, cc, by rw [hlen], h3.rd, h.2.2⟩
  · refine ⟨0, [], runCode D wk, by simp, fun v L L1 h => ⟨none, 0, h.2.1 h0, .nil _ _ _, kp_keeps h.2.2⟩, fun v L L1 h => ⟨none, 0, h.2.1 h0, .nil _ _ _, h.2.2⟩⟩
section
variable {Post : Value → World → Prop} {n0 : Nat} {W0 : World}
theorem phases_m {A : Option Addr} {c n : Nat} {D : List DosR} {wk : Int} {L : World} (hR : RdAll L L.heap.size A D) (hn : D.length = n) :
    MCalls (InV phL phV) Try.prog (fun k g w => Win Try.prog Post n0 W0 k g w) 16 #[.slice A n c, .int .i64 wk] false (RefPM D wk L) L := by
  refine MCalls.lone (win_jok (P := Try.prog) (Post := Post) (n0 := n0) (W0 := W0)) ph_ok (by unfold InV; decide) fun T => ?_
  by_cases h0 : runCode D wk = 0
  · obtain ⟨h1, h2⟩ := runCode_zero h0
    refine (phases_any { L with tape := T } L.heap.size A c n wk D (hR.keep fun _ _ => rfl) (Nat.le_refl _) hn h1 h2 (hn ▸ (dosCode_zero h1).1)).mono ?_
    rintro e w' ⟨k, ps, g, cc, q1, rfl, q2, q3⟩
    exact ⟨fun _ => ⟨k, ps, g, cc, q1, rfl, q2⟩, fun h => absurd h0 h, q3.size, fun b hb => q3.block b hb⟩
  · refine (phases_bad { L with tape := T } L.heap.size A c n wk D (hR.keep fun _ _ => rfl) (Nat.le_refl _) hn h0).mono ?_
    rintro e w' ⟨rfl, q3⟩
    exact ⟨fun h => absurd h h0, fun _ => rfl, q3.size, fun b hb => q3.block b hb⟩
end
end Go.Proofs.Yticdjkkcfdbdcaa
