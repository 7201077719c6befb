/- What is wrong with a list of statements does not hang on where it lies; the tokens of a text are tokens. Plain; no conditions. -/
import Derived.Test.YtgiceeholamphaaDoorBare
import Derived.Test.YtgiceeholamphaaDoorRdr
namespace Go.Proofs.YtgiceeholamphaaDoor
open Go.ChangeShapes Go.WideShapes Go.ChangeAt Go.RowKit

theorem ExprR.plain_parts (e : ExprR) : e.plain.kind = e.kind ∧ e.plain.n = e.n ∧ e.plain.name = e.name ∧ e.plain.kids = plainE e.kids := by cases e; exact ⟨rfl, rfl, rfl, rfl⟩
theorem StatR.plain_parts (x : StatR) : x.plain.kind = x.kind ∧ x.plain.n = x.n ∧ x.plain.name = x.name ∧ x.plain.e = x.e.plain ∧ x.plain.blocks = plainB x.blocks := by cases x; exact ⟨rfl, rfl, rfl, rfl, rfl⟩
theorem BlockR.plain_l (b : BlockR) : b.plain.l = plainS b.l := by cases b; rfl
theorem okE_plain (e : ExprR) : okE e.plain ↔ okE e := by
  obtain ⟨h1, h2, h3, h4⟩ := e.plain_parts
  unfold okE
  rw [h1, h2, h3, h4, plainE_length]
theorem noneE_plain (e : ExprR) : noneE e.plain ↔ noneE e := by
  obtain ⟨h1, h2, h3, h4⟩ := e.plain_parts
  unfold noneE
  rw [h1, h2, h3, h4, plainE_length]
theorem okS_plain (x : StatR) : okS x.plain ↔ okS x := by
  obtain ⟨h1, h2, h3, h4, h5⟩ := x.plain_parts
  unfold okS
  rw [h1, h2, h3, h4, h5, plainB_length, noneE_plain]
theorem AllE_plain : ∀ e : ExprR, AllE e.plain ↔ AllE e := by
  refine ExprR.ind fun e ih => ?_
  obtain ⟨h1, h2, h3, h4⟩ := e.plain_parts
  constructor
  · intro h
    refine ⟨e, (okE_plain e).1 h.ok, fun k hk => (ih k hk).1 (h.kid ?_)⟩
    rw [h4, plainE_map]; exact List.mem_map_of_mem hk
  · intro h
    refine ⟨e.plain, (okE_plain e).2 h.ok, fun k hk => ?_⟩
    rw [h4, plainE_map] at hk
    obtain ⟨y, hy, rfl⟩ := List.mem_map.1 hk
    exact (ih y hy).2 (h.kid hy)
theorem AllS_plain : ∀ x : StatR, AllS x.plain ↔ AllS x := by
  refine StatR.ind fun x ih => ?_
  obtain ⟨h1, h2, h3, h4, h5⟩ := x.plain_parts
  constructor
  · intro h
    refine ⟨x, (okS_plain x).1 h.ok, fun hk => (AllE_plain _).1 (by rw [← h4]; exact h.e (by rw [h1]; exact hk)), fun b hb y hy => (ih b hb y hy).1 (h.in_ (b := b.plain) ?_ ?_)⟩
    · rw [h5, plainB_map]; exact List.mem_map_of_mem hb
    · rw [b.plain_l, plainS_map]; exact List.mem_map_of_mem hy
  · intro h
    refine ⟨x.plain, (okS_plain x).2 h.ok, fun hk => by rw [h4]; exact (AllE_plain _).2 (h.e (by rw [← h1]; exact hk)), fun b hb y hy => ?_⟩
    rw [h5, plainB_map] at hb
    obtain ⟨b0, hb0, rfl⟩ := List.mem_map.1 hb
    rw [b0.plain_l, plainS_map] at hy
    obtain ⟨y0, hy0, rfl⟩ := List.mem_map.1 hy
    exact (ih b0 hb0 y0 hy0).2 (h.in_ hb0 hy0)
theorem AllL_plain (l : List StatR) : AllL (plainS l) ↔ AllL l := by
  unfold AllL
  rw [plainS_map]
  constructor
  · intro h x hx; exact (AllS_plain x).1 (h _ (List.mem_map_of_mem hx))
  · intro h x hx
    obtain ⟨y, hy, rfl⟩ := List.mem_map.1 hx
    exact (AllS_plain y).2 (h y hy)
mutual
theorem ExprR.plain_depth : ∀ e : ExprR, e.plain.depth = e.depth
  | .mk _ _ _ _ _ l => by simp only [ExprR.plain, ExprR.depth, plainE_depth l]
theorem plainE_depth : ∀ l : List ExprR, depthE (plainE l) = depthE l
  | [] => rfl
  | e :: l => by simp only [plainE, depthE, ExprR.plain_depth e, plainE_depth l]
end
mutual
theorem StatR.plain_depth : ∀ x : StatR, x.plain.depth = x.depth
  | .mk _ _ e _ _ _ l => by simp only [StatR.plain, StatR.depth, ExprR.plain_depth e, plainB_depth l]
theorem plainB_depth : ∀ l : List BlockR, depthB (plainB l) = depthB l
  | [] => rfl
  | b :: l => by simp only [plainB, depthB, BlockR.plain_depth b, plainB_depth l]
theorem BlockR.plain_depth : ∀ b : BlockR, b.plain.depth = b.depth
  | .mk _ _ l => by simp only [BlockR.plain, BlockR.depth, plainS_depth l]
theorem plainS_depth : ∀ l : List StatR, depthS (plainS l) = depthS l
  | [] => rfl
  | x :: l => by simp only [plainS, depthS, StatR.plain_depth x, plainS_depth l]
end
mutual
theorem StatR.plain_cnt : ∀ x : StatR, x.plain.cnt = x.cnt
  | .mk _ _ e _ _ _ l => by simp only [StatR.plain, StatR.cnt, ExprR.plain_nodes e, plainB_cnt l]
theorem plainB_cnt : ∀ l : List BlockR, cntB (plainB l) = cntB l
  | [] => rfl
  | b :: l => by simp only [plainB, cntB, BlockR.plain_cnt b, plainB_cnt l]
theorem BlockR.plain_cnt : ∀ b : BlockR, b.plain.cnt = b.cnt
  | .mk _ _ l => by simp only [BlockR.plain, BlockR.cnt, plainS_cnt l]
theorem plainS_cnt : ∀ l : List StatR, cntS (plainS l) = cntS l
  | [] => rfl
  | x :: l => by simp only [plainS, cntS, StatR.plain_cnt x, plainS_cnt l]
end
theorem wrong_bare (l : List StatR) : wrong (plainS l) = wrong l := by
  unfold wrong
  rw [plainS_cnt, plainS_depth]
  by_cases h : AllL l
  · rw [if_pos h, if_pos ((AllL_plain l).2 h)]
  · rw [if_neg h, if_neg (fun k => h ((AllL_plain l).1 k))]

theorem toksAt_short (l : List UInt8) (i : Nat) : ∀ t ∈ toksAt l i, t.1.length ≤ l.length := by
  generalize hn : l.length = n
  induction n using Nat.strongRecOn generalizing l i with
  | ind n ih =>
    cases l with
    | nil => rw [toksAt_nil]; intro t ht; simp at ht; subst ht; simp
    | cons c r =>
      cases hb : blank c with
      | true =>
        rw [toksAt_blank hb]
        intro t ht
        have := ih r.length (by simp at hn; omega) r (i + 1) rfl t ht
        simp at hn; omega
      | false =>
        rw [toksAt_tok hb]
        intro t ht
        have h2 := tokLen_le c r
        have h3 := tokLen_pos c r
        simp at hn
        rcases List.mem_cons.1 ht with rfl | ht
        · simp; omega
        · have := ih (r.drop (tokLen c r - 1)).length (by simp; omega) _ _ rfl t ht
          simp at this; omega
theorem toksAt_fin (l : List UInt8) (i : Nat) : ∃ P n, toksAt l i = P ++ [([], n)] := by
  generalize hn : l.length = n
  induction n using Nat.strongRecOn generalizing l i with
  | ind n ih =>
    cases l with
    | nil => rw [toksAt_nil]; exact ⟨[], i, rfl⟩
    | cons c r =>
      cases hb : blank c with
      | true => rw [toksAt_blank hb]; exact ih r.length (by simp at hn; omega) r (i + 1) rfl
      | false =>
        rw [toksAt_tok hb]
        obtain ⟨P, m, e⟩ := ih (r.drop (tokLen c r - 1)).length (by simp at hn ⊢; omega) _ (i + tokLen c r) rfl
        exact ⟨_ :: P, m, by rw [e]; rfl⟩
theorem tokOk (l : List UInt8) (h : l.length ≤ 1048576) : TokOk (toksAt l 0) :=
  ⟨fun t ht => ⟨toksAt_ok l 0 t ht, Nat.le_trans (toksAt_short l 0 t ht) h⟩, Nat.le_trans (toksAt_len l 0) (by omega), toksAt_fin l 0⟩
end Go.Proofs.YtgiceeholamphaaDoor
