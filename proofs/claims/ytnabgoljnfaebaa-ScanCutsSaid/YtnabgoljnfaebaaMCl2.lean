/- What is asked of scan.Scan$2 as side's closure. No conditions but those named. -/
import Derived.Test.YtnabgoljnfaebaaMCl1
import Derived.Test.YtnabgoljnfaebaaScX2
namespace Go.Proofs.Ytnabgoljnfaebaa
open Go.Conc Go.ConcN Go.RowKit
section
theorem blk_ne {ρ : Ren} {k : LK} {L W : World} (h : Mir (InL scanL) Try.prog ρ k L W) {b b' c c' : Nat} (hb : ρ b = some (c, 0)) (hb' : ρ b' = some (c', 0)) {t u : TypeId} {vs us : List Value} (hl : Blk L b t vs) (hl' : Blk L b' u us) (h1 : vs ≠ []) (h2 : us ≠ []) (hne : b ≠ b') : c ≠ c' := fun e => by
  subst e
  exact hne (h.wr.apart b b' c 0 0 vs.toArray us.toArray t u (0, 0) (0, 0) 0 0 hb hb' hl hl' (by simp; exact List.length_pos_iff.2 h1) (by simp; exact List.length_pos_iff.2 h2) rfl)
theorem sideOk2 {L : World} {op : Int} (ho : 1 ≤ op ∧ op ≤ 4) {fbL abL arL xbL obL : Nat} {xs ys zs : List Int} (hxs : ∀ x ∈ xs, I64 x) (has : ∀ x ∈ zs, I64 x) {rest : List Value} {t : TypeId} (ht : Try.prog.info? t ≠ none) {cuts : Nat → Nat} {m : Nat} (hm : xs.length = cuts m) (hbig : xs.length < 1000000) (hm16 : m ≤ 16) (hal : zs.length = m)
    (hmono : ∀ j, j < m → cuts j ≤ cuts (j + 1)) (hf : Blk L fbL 31 [.func (.func (opF op)) #[] #[]]) {p : Option Addr} {cc ac : Nat} (hx : Blk L xbL 22 [.slice p xs.length cc]) (hp : xs ≠ [] → p = some ⟨obL, 0, none⟩)
    (ha : Blk L abL 22 [.slice (some ⟨arL, 0, none⟩) m ac]) (har : Blk L arL 2 (ints zs))
    (hob : Blk L obL t (ints xs ++ rest)) (n1 : fbL ≠ obL ∨ xs = []) (n2 : xbL ≠ obL ∨ xs = []) (n3 : abL ≠ obL ∨ xs = []) (n4 : arL ≠ obL ∨ xs = []) (hys : ∀ j (hj : j < zs.length), ∀ i (h : i < (segL xs cuts j).length), ys[cuts j + i]? = some (if j = 0 then (segL xs cuts j)[i] else two op zs[j] (segL xs cuts j)[i])) :
    SideOk L obL #[.pointer (some ⟨fbL, 0, none⟩), .pointer (some ⟨abL, 0, none⟩), .pointer (some ⟨xbL, 0, none⟩)] (ints ys ++ rest).toArray 17 cuts m := by
  intro ρ k W c0 cap h3 hc0 hcap hmem
  have hz : xs = [] → cuts m = 0 := fun e => by rw [← hm, e]; rfl
  have hlen : cuts m ≤ (ints xs ++ rest).length := by simp; omega
  obtain ⟨fb, sf, ab, sa, xb, sx, hfb, hab, hxb, rfl⟩ := caps3 hcap
  obtain ⟨rfl, hfl, hfv⟩ := h3.blk hfb hf info_func
  obtain ⟨rfl, hxl, hxv⟩ := h3.blk hxb hx info_ints
  obtain ⟨rfl, hal', hav⟩ := h3.blk hab ha info_ints
  obtain ⟨v0, f1, f2, f3, _⟩ := hfv 0 _ rfl
  obtain ⟨v1, x1, x2, x3, _⟩ := hxv 0 _ rfl
  obtain ⟨v2, a1, a2, a3, _⟩ := hav 0 _ rfl
  cases fn_ren f2
  obtain ⟨ar, har', rfl⟩ : ∃ ar, ρ arL = some (ar, 0) ∧ v2 = .slice (some ⟨ar, 0, none⟩) m ac := by
    cases a2 with
    | slice hA l c =>
      obtain ⟨_, c, s, h6, rfl⟩ := hA
      obtain ⟨rfl, _⟩ := h3.blk h6 har info_int64
      exact ⟨c, h6, rfl⟩
  obtain ⟨_, harl, harv⟩ := h3.blk har' har info_int64
  have hto : ∀ j, j < m → cuts (j + 1) ≤ xs.length := fun j hj => by rw [hm]; exact cuts_le hmono (by omega) (Nat.le_refl _)
  have hsl : ∀ j, j < m → cuts j + (segL xs cuts j).length = cuts (j + 1) := fun j hj => by rw [segL_length (hto j hj)]; have := hmono j hj; omega
  have hml : ∀ j (av : Int), (if j = 0 then segL xs cuts j else (segL xs cuts j).map (two op av)).length = (segL xs cuts j).length := fun j av => by split <;> simp
  refine ⟨fun j k w => ∃ h : j < zs.length, S2 op fb ab xb ar j zs[j] m ac c0 (cuts j) (cuts (j + 1)) xs.length cc k w ∧ Seg w c0 (cuts j) (segL xs cuts j), fun j k w => ∃ h : j < zs.length, S2 op fb ab xb ar j zs[j] m ac c0 (cuts j) (cuts (j + 1)) xs.length cc k w ∧ Seg w c0 (cuts j) (if j = 0 then segL xs cuts j else (segL xs cuts j).map (two op zs[j])), ?_, ?_, ?_, ?_, ?_⟩
  · rintro j k w w₁ ⟨hj, h1, h2⟩ hr
    exact ⟨hj, h1.rely hr, h2.rely2 (by have := hsl j (by omega); omega) h1 hr⟩
  · rintro j k w w₁ ⟨hj, h1, h2⟩ hr
    exact ⟨hj, h1.rely hr, h2.rely2 (by rw [hml]; have := hsl j (by omega); omega) h1 hr⟩
  · rintro J main R hJ j hj c' cs k w ⟨hja, h1, h2⟩ hn
    exact scan2_j hJ ho (has _ (List.getElem_mem hja)) (by omega) (by omega) (xs := segL xs cuts j) (fun x hx => hxs x (segL_mem hx)) (hsl j hj).symm (hto j hj) hbig ⟨h1, h2⟩ fun k w hS => hn k w ⟨hja, hS⟩
  · rintro j hj k' w' q1 q2 q3 q4
    have hfs : ShSeg k c0 cuts m (.cell ⟨fb, 0, none⟩) := ⟨.inl f3, seg_far h3 hmono hc0 hob hlen hfb hf (n1.imp id hz) (i := 0) (by simp)⟩
    have hxs' : ShSeg k c0 cuts m (.cell ⟨xb, 0, none⟩) := ⟨.inl x3, seg_far h3 hmono hc0 hob hlen hxb hx (n2.imp id hz) (i := 0) (by simp)⟩
    have has' : ShSeg k c0 cuts m (.cell ⟨ab, 0, none⟩) := ⟨.inl a3, seg_far h3 hmono hc0 hob hlen hab ha (n3.imp id hz) (i := 0) (by simp)⟩
    have hja : j < zs.length := by omega
    obtain ⟨v3, b1, b2, b3, _⟩ := harv j (.int .i64 zs[j]) (by simp [ints, hja])
    cases int_ren b2
    have hars : ShSeg k c0 cuts m (.cell ⟨ar, j, none⟩) := ⟨.inl b3, seg_far h3 hmono hc0 hob hlen har' har (n4.imp id hz) (i := j) (by simpa using hja)⟩
    have hxn : cuts j < cuts (j + 1) → xs ≠ [] := fun hlt e => by have := hto j hj; rw [e] at this; simp at this; omega
    refine ⟨hja, ⟨Nat.le_trans (Nat.le_trans h3.pr.base h3.wr.base.2) q4.size, q3, ⟨(q4.cell _ (.inr hfs)).trans f1, .inr (q2 _ hfs)⟩, ⟨(q4.cell _ (.inr has')).trans a1, .inr (q2 _ has')⟩, ⟨(q4.cell _ (.inr hars)).trans b1, .inr (q2 _ hars)⟩, fun hlt => ?_, fun x hx1 hx2 => ?_, fun hlt => ?_⟩, fun i hi => ?_⟩
    · rw [hp (hxn hlt)] at x2
      cases x2 with
      | slice hA l c =>
        obtain ⟨_, c, s, h6, rfl⟩ := hA
        rw [hc0] at h6
        cases h6
        exact ⟨(q4.cell _ (.inr hxs')).trans x1, .inr (q2 _ hxs')⟩
    · have hlt : x < xs.length := Nat.lt_of_lt_of_le hx2 (hto j hj)
      obtain ⟨g1, g2, g3⟩ := row_at h3 hc0 ht hob hlt
      exact ⟨q1 _ ⟨x, hx1, hx2, rfl⟩, (frozen_rely q4 (a := ⟨c0, x, none⟩) (hmem _ (.inl g2))).trans g3⟩
    · have hne := hxn hlt
      have hobn : ints xs ++ rest ≠ [] := by simp [ints, hne]
      have hasn : ints zs ≠ [] := fun e => by have := congrArg List.length e; rw [length_ints] at this; simp only [List.length_nil] at this; omega
      exact ⟨blk_ne h3 hfb hc0 hf hob (by simp) hobn (n1.resolve_right hne), blk_ne h3 hab hc0 ha hob (by simp) hobn (n3.resolve_right hne), blk_ne h3 hxb hc0 hx hob (by simp) hobn (n2.resolve_right hne), blk_ne h3 har' hc0 har hob hasn hobn (n4.resolve_right hne)⟩
    · obtain ⟨h', e⟩ := segL_get hi
      obtain ⟨g1, g2, g3⟩ := row_at h3 hc0 ht hob h'
      rw [e]
      exact (q4.cell _ (.inl ⟨cuts j + i, by omega, by have := hsl j hj; omega, rfl⟩)).trans g1
  · rintro j hj kk w' ⟨hja, h1, h2⟩ i hi1 hi2
    have hl : i - cuts j < (segL xs cuts j).length := by have := hsl j hj; omega
    have h4 := h2 (i - cuts j) (by rw [hml]; exact hl)
    have h5 := hys j hja (i - cuts j) hl
    have e : cuts j + (i - cuts j) = i := by omega
    rw [e] at h4 h5
    have hiy : i < ys.length := (List.getElem?_eq_some_iff.1 h5).1
    refine ⟨_, ?_, h4⟩
    simp only [List.getElem?_toArray]
    rw [List.getElem?_append_left (by simpa using hiy)]
    have e3 : (if j = 0 then segL xs cuts j else (segL xs cuts j).map (two op zs[j]))[i - cuts j]'(by rw [hml]; exact hl) = if j = 0 then (segL xs cuts j)[i - cuts j] else two op zs[j] (segL xs cuts j)[i - cuts j] := by
      by_cases hj0 : j = 0
      · simp [hj0]
      · simp [hj0]
    rw [e3]
    simp [ints, h5]
end
end Go.Proofs.Ytnabgoljnfaebaa
