/- What is asked of scan.Scan$1 as side's closure. No conditions but those named. -/
import Derived.Test.YtnabgoljnfaebaaMSide
import Derived.Test.YtnabgoljnfaebaaScW3
namespace Go.Proofs.Ytnabgoljnfaebaa
open Go.Conc Go.ConcN Go.RowKit
theorem block_ne {a b c d : Nat} (h : a ≠ c) : (Loc.cell ⟨a, b, none⟩) ≠ .cell ⟨c, d, none⟩ := fun e => h (by have := congrArg (fun x : Loc => match x with | .cell a => a.block | _ => 0) e; exact this)
section
/-- What is not the row's is none of theirs. -/
theorem seg_far {ρ : Ren} {k : LK} {L W : World} (h : Mir (InL scanL) Try.prog ρ k L W) {cuts : Nat → Nat} {m : Nat} (hmono : ∀ j, j < m → cuts j ≤ cuts (j + 1)) {obL c0 : Nat} (hc0 : ρ obL = some (c0, 0)) {t : TypeId} {vs : List Value} (hob : Blk L obL t vs) (hlen : cuts m ≤ vs.length)
    {b c : Nat} (hb : ρ b = some (c, 0)) {u : TypeId} {us : List Value} (hl : Blk L b u us) (hne : b ≠ obL ∨ cuts m = 0) {i : Nat} (hi : i < us.length) : ∀ j, j < m → ¬ OwSeg c0 cuts j (.cell ⟨c, i, none⟩) := by
  rintro j hj ⟨i', h6, h7, h8⟩
  have hle := cuts_le hmono (show j + 1 ≤ m by omega) (Nat.le_refl _)
  rcases hne with hne | hz
  · have e1 : c = c0 := by have := congrArg (fun x : Loc => match x with | .cell a => a.block | _ => 0) h8; exact this
    have e2 : i = i' := by have := congrArg (fun x : Loc => match x with | .cell a => a.off | _ => 0) h8; exact this
    subst e1 e2
    exact hne (h.wr.apart b obL c 0 0 us.toArray vs.toArray u t (0, 0) (0, 0) i i hb hc0 hl hob (by simpa using hi) (by simp; omega) rfl)
  · omega
theorem loose0 (i : Nat) : ¬ ((0, 0) : Nat × Nat).1 ≤ i ∨ ¬ i < ((0, 0) : Nat × Nat).2 := by simp
theorem Mir.blk {ρ : Ren} {k : LK} {L W : World} (h : Mir (InL scanL) Try.prog ρ k L W) {b c s : Nat} (hb : ρ b = some (c, s)) {t : TypeId} {vs : List Value} (hl : Blk L b t vs) (he : Try.prog.info? t ≠ none) : s = 0 ∧ c < W.heap.size ∧
    ∀ (i : Nat) v, vs[i]? = some v → ∃ v', W.cell? ⟨c, i, none⟩ = some v' ∧ VR (InL scanL) ρ v v' ∧ k.W (.cell ⟨c, i, none⟩) ∧ W.frozen? ⟨c, i, none⟩ = false := by
  obtain ⟨h1, h2, h3⟩ := h.row hb hl he
  refine ⟨h1, h2, fun i v hv => ?_⟩
  obtain ⟨v', g1, g2, _, g4⟩ := h3 i v (by simpa using hv)
  obtain ⟨g5, g6⟩ := g4 (by simp)
  exact ⟨v', g1, g2, g5, g6⟩
theorem ptr_ren {ρ : Ren} {b : Nat} {v' : Value} (h : VR (InL scanL) ρ (.pointer (some ⟨b, 0, none⟩)) v') : ∃ c s, ρ b = some (c, s) ∧ v' = .pointer (some ⟨c, s, none⟩) := by
  cases h with
  | ptr h => obtain ⟨_, c, s, h1, rfl⟩ := h; exact ⟨c, s, h1, rfl⟩
theorem fn_ren {ρ : Ren} {f : FuncId} {v' : Value} (h : VR (InL scanL) ρ (.func (.func f) #[] #[]) v') : v' = .func (.func f) #[] #[] := by
  cases h with
  | func hf sx hx sy hy =>
    rename_i x' y'
    obtain rfl : x' = #[] := Array.eq_empty_of_size_eq_zero sx.symm
    obtain rfl : y' = #[] := Array.eq_empty_of_size_eq_zero sy.symm
    rfl
theorem int_ren {ρ : Ren} {k : IntKind} {n : Int} {v' : Value} (h : VR (InL scanL) ρ (.int k n) v') : v' = .int k n := by cases h; rfl
theorem info_func : Try.prog.info? 31 ≠ none := by decide +kernel
theorem info_ints : Try.prog.info? 22 ≠ none := by decide +kernel
theorem info_int64 : Try.prog.info? 2 ≠ none := by decide +kernel
theorem info_int : Try.prog.info? 3 ≠ none := by decide +kernel
theorem caps2 {ρ : Ren} {a b : Nat} {cap : Array Value} (h : VRs (InL scanL) ρ #[.pointer (some ⟨a, 0, none⟩), .pointer (some ⟨b, 0, none⟩)] cap) : ∃ ca sa cb sb, ρ a = some (ca, sa) ∧ ρ b = some (cb, sb) ∧ cap = #[.pointer (some ⟨ca, sa, none⟩), .pointer (some ⟨cb, sb, none⟩)] := by
  obtain ⟨v0, h1, h2⟩ := h.get (i := 0) rfl
  obtain ⟨v1, h3, h4⟩ := h.get (i := 1) rfl
  obtain ⟨ca, sa, q1, rfl⟩ := ptr_ren h2
  obtain ⟨cb, sb, q2, rfl⟩ := ptr_ren h4
  refine ⟨ca, sa, cb, sb, q1, q2, Array.ext' ?_⟩
  have hs : cap.toList.length = 2 := by have := h.1; simpa using this.symm
  match hc : cap.toList, hs with
  | [x, y], _ =>
    have e : cap = #[x, y] := by rw [← Array.toArray_toList (xs := cap), hc]
    subst e
    simp at h1 h3
    simp [h1, h3]
theorem caps3 {ρ : Ren} {a b c : Nat} {cap : Array Value} (h : VRs (InL scanL) ρ #[.pointer (some ⟨a, 0, none⟩), .pointer (some ⟨b, 0, none⟩), .pointer (some ⟨c, 0, none⟩)] cap) : ∃ ca sa cb sb cc sc, ρ a = some (ca, sa) ∧ ρ b = some (cb, sb) ∧ ρ c = some (cc, sc) ∧ cap = #[.pointer (some ⟨ca, sa, none⟩), .pointer (some ⟨cb, sb, none⟩), .pointer (some ⟨cc, sc, none⟩)] := by
  obtain ⟨v0, h1, h2⟩ := h.get (i := 0) rfl
  obtain ⟨v1, h3, h4⟩ := h.get (i := 1) rfl
  obtain ⟨v2, h5, h6⟩ := h.get (i := 2) rfl
  obtain ⟨ca, sa, q1, rfl⟩ := ptr_ren h2
  obtain ⟨cb, sb, q2, rfl⟩ := ptr_ren h4
  obtain ⟨cc, sc, q3, rfl⟩ := ptr_ren h6
  refine ⟨ca, sa, cb, sb, cc, sc, q1, q2, q3, Array.ext' ?_⟩
  have hs : cap.toList.length = 3 := by have := h.1; simpa using this.symm
  match hc : cap.toList, hs with
  | [x, y, z], _ =>
    have e : cap = #[x, y, z] := by rw [← Array.toArray_toList (xs := cap), hc]
    subst e
    simp at h1 h3 h5
    simp [h1, h3, h5]
/-- The row, in company. -/
theorem row_at {ρ : Ren} {k : LK} {L W : World} (h : Mir (InL scanL) Try.prog ρ k L W) {obL c0 : Nat} (hc0 : ρ obL = some (c0, 0)) {t : TypeId} (ht : Try.prog.info? t ≠ none) {xs : List Int} {rest : List Value} (hob : Blk L obL t (ints xs ++ rest)) {i : Nat} (hi : i < xs.length) :
    W.cell? ⟨c0, i, none⟩ = some (.int .i64 xs[i]) ∧ k.W (.cell ⟨c0, i, none⟩) ∧ W.frozen? ⟨c0, i, none⟩ = false := by
  obtain ⟨_, _, h3⟩ := h.blk hc0 hob ht
  obtain ⟨v', g1, g2, g3, g4⟩ := h3 i (.int .i64 xs[i]) (by rw [List.getElem?_append_left (by simpa using hi)]; simp [ints, hi])
  cases int_ren g2
  exact ⟨g1, g3, g4⟩
theorem sideOk1 {L : World} {op : Int} (ho : 1 ≤ op ∧ op ≤ 4) {fbL xbL obL : Nat} {xs ys : List Int} (hxs : ∀ x ∈ xs, I64 x) {rest : List Value} {t : TypeId} (ht : Try.prog.info? t ≠ none) {cuts : Nat → Nat} {m : Nat} (hm : xs.length = cuts m) (hbig : xs.length ≤ 1000000)
    (hmono : ∀ j, j < m → cuts j ≤ cuts (j + 1)) (hf : Blk L fbL 31 [.func (.func (opF op)) #[] #[]]) {p : Option Addr} {cc : Nat} (hx : Blk L xbL 22 [.slice p xs.length cc]) (hp : xs ≠ [] → p = some ⟨obL, 0, none⟩)
    (hob : Blk L obL t (ints xs ++ rest)) (n1 : fbL ≠ obL ∨ xs = []) (n2 : xbL ≠ obL ∨ xs = []) (hys : ∀ j, j < m → ∀ i (h : i < (segL xs cuts j).length), ys[cuts j + i]? = some ((scanI op (segL xs cuts j))[i]'(by rw [scanI_length]; exact h))) :
    SideOk L obL #[.pointer (some ⟨fbL, 0, none⟩), .pointer (some ⟨xbL, 0, none⟩)] (ints ys ++ rest).toArray 16 cuts m := by
  intro ρ k W c0 cap h3 hc0 hcap hmem
  have hz : xs = [] → cuts m = 0 := fun e => by rw [← hm, e]; rfl
  have hlen : cuts m ≤ (ints xs ++ rest).length := by simp; omega
  obtain ⟨fb, sf, xb, sx, hfb, hxb, rfl⟩ := caps2 hcap
  obtain ⟨rfl, hfl, hfv⟩ := h3.blk hfb hf info_func
  obtain ⟨rfl, hxl, hxv⟩ := h3.blk hxb hx info_ints
  obtain ⟨v0, f1, f2, f3, _⟩ := hfv 0 _ rfl
  obtain ⟨v1, x1, x2, x3, _⟩ := hxv 0 _ rfl
  cases fn_ren f2
  have hto : ∀ j, j < m → cuts (j + 1) ≤ xs.length := fun j hj => by rw [hm]; exact cuts_le hmono (by omega) (Nat.le_refl _)
  have hsl : ∀ j, j < m → cuts j + (segL xs cuts j).length = cuts (j + 1) := fun j hj => by rw [segL_length (hto j hj)]; have := hmono j hj; omega
  refine ⟨fun j k w => j < m ∧ S1 op fb xb c0 (cuts j) (cuts (j + 1)) xs.length cc k w ∧ Seg w c0 (cuts j) (segL xs cuts j), fun j k w => j < m ∧ S1 op fb xb c0 (cuts j) (cuts (j + 1)) xs.length cc k w ∧ Seg w c0 (cuts j) (scanI op (segL xs cuts j)), ?_, ?_, ?_, ?_, ?_⟩
  · rintro j k w w₁ ⟨hj, h1, h2⟩ hr
    exact ⟨hj, h1.rely hr, h2.rely (by have := hsl j hj; omega) h1 hr⟩
  · rintro j k w w₁ ⟨hj, h1, h2⟩ hr
    exact ⟨hj, h1.rely hr, h2.rely (by rw [scanI_length]; have := hsl j hj; omega) h1 hr⟩
  · rintro J main R hJ j hj c' cs k w ⟨_, h1, h2⟩ hn
    exact scan1_j hJ ho (xs := segL xs cuts j) (fun x hx => hxs x (segL_mem hx)) (hsl j hj).symm (hto j hj) hbig ⟨h1, h2⟩ fun k w hS => hn k w ⟨hj, hS⟩
  · rintro j hj k' w' q1 q2 q3 q4
    have hfs : ShSeg k c0 cuts m (.cell ⟨fb, 0, none⟩) := ⟨.inl f3, seg_far h3 hmono hc0 hob hlen hfb hf (n1.imp id hz) (i := 0) (by simp)⟩
    have hxs' : ShSeg k c0 cuts m (.cell ⟨xb, 0, none⟩) := ⟨.inl x3, seg_far h3 hmono hc0 hob hlen hxb hx (n2.imp id hz) (i := 0) (by simp)⟩
    refine ⟨hj, ⟨Nat.le_trans (Nat.le_trans h3.pr.base h3.wr.base.2) q4.size, q3, ⟨(q4.cell _ (.inr hfs)).trans f1, .inr (q2 _ hfs)⟩, fun hlt => ?_, fun x hx1 hx2 => ?_⟩, fun i hi => ?_⟩
    · have hne : xs ≠ [] := fun e => by have := hto j hj; rw [e] at this; simp at this; omega
      rw [hp hne] at x2
      cases x2 with
      | slice hA l c =>
        obtain ⟨_, c, s, h6, rfl⟩ := hA
        rw [hc0] at h6
        cases h6
        exact ⟨(q4.cell _ (.inr hxs')).trans x1, .inr (q2 _ hxs')⟩
    · have hlt : x < xs.length := Nat.lt_of_lt_of_le hx2 (hto j hj)
      obtain ⟨g1, g2, g3⟩ := row_at h3 hc0 ht hob hlt
      exact ⟨q1 _ ⟨x, hx1, hx2, rfl⟩, (frozen_rely q4 (a := ⟨c0, x, none⟩) (hmem _ (.inl g2))).trans g3⟩
    · obtain ⟨h', e⟩ := segL_get hi
      obtain ⟨g1, g2, g3⟩ := row_at h3 hc0 ht hob h'
      rw [e]
      exact (q4.cell _ (.inl ⟨cuts j + i, by omega, by have := hsl j hj; omega, rfl⟩)).trans g1
  · rintro j hj kk w' ⟨_, h1, h2⟩ i hi1 hi2
    have hl : i - cuts j < (segL xs cuts j).length := by have := hsl j hj; omega
    have h4 := h2 (i - cuts j) (by rw [scanI_length]; exact hl)
    have h5 := hys j hj (i - cuts j) hl
    have e : cuts j + (i - cuts j) = i := by omega
    rw [e] at h4 h5
    have hiy : i < ys.length := (List.getElem?_eq_some_iff.1 h5).1
    refine ⟨_, ?_, h4⟩
    have e2 := (List.getElem?_eq_some_iff.1 h5).2
    simp only [List.getElem?_toArray]
    rw [List.getElem?_append_left (by simpa using hiy)]
    simp [ints, h5]
end
end Go.Proofs.Ytnabgoljnfaebaa
