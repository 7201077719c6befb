/- A block of slices, each with a row of its own that it grows by append (next[a] = append(next[a], i)). Over any program. No conditions. -/
import Derived.Test.YticdjkkcfdbdcaaBase
import Derived.Maps.AppendAt
namespace Go.Proofs.Yticdjkkcfdbdcaa
open Go.ChangeShapes Go.WideShapes Go.ChangeAt Go.RowKit
/-- Block g holds the slice values vs; slice k owns a row (from block base on) that holds xss[k]; no two share a block. -/
structure Rows (w : World) (base g : Nat) (T e : TypeId) (vs : List Value) (xss : List (List Int)) : Prop where
  blk : Blk w g T vs
  len : vs.length = xss.length
  own : ∀ (k : Nat) v xs, vs[k]? = some v → xss[k]? = some xs → w.ownsRow base e 1 v xs.length (ints xs)
  apart : ∀ (k k' : Nat) v v', vs[k]? = some v → vs[k']? = some v' → k ≠ k' → v.ownBlock = none ∨ v.ownBlock ≠ v'.ownBlock
  below : g < base
  bound : base ≤ w.heap.size
section
variable {w w' : World} {base g : Nat} {T e : TypeId} {vs : List Value} {xss : List (List Int)}
theorem Rows.start {n : Nat} (h : Blk w g T (List.replicate n (.slice none 0 0))) (hg : g < base) (hb : base ≤ w.heap.size) : Rows w base g T e (List.replicate n (.slice none 0 0)) (List.replicate n []) where
  blk := h
  len := by simp
  own := fun k v xs hv hx => by
    rw [List.getElem?_replicate] at hv hx
    split at hv
    · rename_i hk; rw [if_pos hk] at hx; cases hv; cases hx; exact World.ownsRow_nil w base e 1
    · cases hv
  apart := fun k k' v v' hv _ _ => by
    rw [List.getElem?_replicate] at hv
    split at hv
    · cases hv; exact .inl rfl
    · cases hv
  below := hg
  bound := hb
theorem Rows.get (h : Rows w base g T e vs xss) {k : Nat} (hk : k < xss.length) : ∃ v, vs[k]? = some v ∧ w.cell? ⟨g, k, none⟩ = some v ∧ w.ownsRow base e 1 v xss[k].length (ints xss[k]) := by
  have hk' : k < vs.length := by have := h.len; omega
  exact ⟨vs[k], List.getElem?_eq_getElem hk', by rw [h.blk.cell, List.getElem?_eq_getElem hk'], h.own k _ _ (List.getElem?_eq_getElem hk') (List.getElem?_eq_getElem hk)⟩
theorem Rows.alloc (h : Rows w base g T e vs xss) (o : Obj) : Rows (w.alloc o) base g T e vs xss :=
  ⟨h.blk.alloc o, h.len, fun k v xs hv hx => (h.own k v xs hv hx).alloc o, h.apart, h.below, by have := h.bound; simp; omega⟩
/-- A store below the rows, elsewhere than in the block of slices. -/
theorem Rows.setLow (h : Rows w base g T e vs xss) {p : Addr} (hp : p.block < base) (hg : g ≠ p.block) (u : Value) : Rows (w.setCell p u) base g T e vs xss :=
  ⟨h.blk.far hg u, h.len, fun k v xs hv hx => ownsRow_setCell_below (h.own k v xs hv hx) hp u, h.apart, h.below, by have := h.bound; simpa [World.setCell] using this⟩
theorem ownBlock_lt (h : Rows w base g T e vs xss) {k : Nat} {v : Value} (hv : vs[k]? = some v) {b : Nat} (hb : v.ownBlock = some b) : base ≤ b ∧ b < w.heap.size := by
  have hk : k < vs.length := by
    rcases Nat.lt_or_ge k vs.length with h' | h'
    · exact h'
    · rw [List.getElem?_eq_none h'] at hv; cases hv
  have hk' : k < xss.length := by have := h.len; omega
  exact (h.own k v _ hv (List.getElem?_eq_getElem hk')).lt b hb
/-- Another row of the call's own has grown. -/
theorem Rows.grown (h : Rows w base g T e vs xss) {row : Option Nat} (hg : w.grownBy w' row) (hr : row ≠ some g) (hap : ∀ (k : Nat) v, vs[k]? = some v → v.ownBlock = none ∨ v.ownBlock ≠ row) : Rows w' base g T e vs xss :=
  ⟨h.blk.grown hg (fun e => hr e.symm), h.len, fun k v xs hv hx => (h.own k v xs hv hx).kept hg (hap k v hv), h.apart, h.below, by have := h.bound; have := hg.size; omega⟩
/-- Row k has grown by append, and its slice is stored back. -/
theorem Rows.put (h : Rows w base g T e vs xss) {k : Nat} {v v' : Value} {xs : List Int} {x : Int} (hv : vs[k]? = some v) (hx : xss[k]? = some xs)
    (hg : w.grownBy w' v.ownBlock) (hown : w'.ownsRow base e 1 v' (xs.length + 1) (ints xs ++ [.int .i64 x])) (hat : v'.ownBlock = v.ownBlock ∨ v'.ownBlock = some w.heap.size) :
    Rows (w'.setCell ⟨g, k, none⟩ v') base g T e (vs.set k v') (xss.set k (xs ++ [x])) := by
  have hvg : v.ownBlock ≠ some g := fun e => by have := ownBlock_lt h hv e; have := h.below; omega
  have hkv : k < vs.length := by
    rcases Nat.lt_or_ge k vs.length with h' | h'
    · exact h'
    · rw [List.getElem?_eq_none h'] at hv; cases hv
  have hkx : k < xss.length := by have := h.len; omega
  have hap' : ∀ (k' : Nat) u, vs[k']? = some u → k' ≠ k → u.ownBlock = none ∨ u.ownBlock ≠ v'.ownBlock := fun k' u hu hne => by
    rcases hat with e | e
    · rw [e]; exact h.apart k' k u v hu hv hne
    · rw [e]
      cases hb : u.ownBlock with
      | none => exact .inl rfl
      | some b => refine .inr fun e' => ?_; have := ownBlock_lt h hu hb; cases e'; omega
  refine ⟨(h.blk.grown hg (fun e => hvg e.symm)).set_ k v', by simp [h.len], fun j u ys hu hy => ?_, fun j j' u u' hu hu' hne => ?_, h.below, by have := h.bound; have := hg.size; simpa [World.setCell] using Nat.le_trans h.bound hg.size⟩
  · rw [List.getElem?_set] at hu hy
    by_cases e : k = j
    · subst e
      simp only [↓reduceIte, hkv, hkx, Option.some.injEq] at hu hy
      subst hu hy
      refine ownsRow_setCell_below ?_ h.below _
      simpa [ints] using hown
    · rw [if_neg e] at hu hy
      exact ownsRow_setCell_below ((h.own j u ys hu hy).kept hg (h.apart j k u v hu hv (fun e' => e e'.symm))) h.below _
  · rw [List.getElem?_set] at hu hu'
    by_cases e : k = j
    · subst e
      rw [if_neg hne] at hu'
      simp only [↓reduceIte, hkv, Option.some.injEq] at hu
      subst hu
      rcases hap' j' u' hu' (fun e' => hne e'.symm) with h1 | h1
      · cases hb : v'.ownBlock with
        | none => exact .inl rfl
        | some b => exact .inr (by rw [h1]; simp)
      · exact .inr (fun e => h1 e.symm)
    · rw [if_neg e] at hu
      by_cases e' : k = j'
      · subst e'
        simp only [↓reduceIte, hkv, Option.some.injEq] at hu'
        subst hu'
        exact hap' j u hu (fun e'' => e e''.symm)
      · rw [if_neg e'] at hu'
        exact h.apart j j' u u' hu hu' hne
end
/-- A row of the call's own reads as a list. -/
theorem rd_own {w : World} {base : Nat} {e : TypeId} {A : Option Addr} {n c : Nat} {vs : List Value} (h : w.ownsRow base e 1 (.slice A n c) n vs) : Rd w w.heap.size A vs := by
  intro hne
  rcases h.2 with ⟨hv, hn⟩ | ⟨g, cap, cur, hv, hb, hg, hnc, hcm, hcs, ht⟩
  · have := h.1; subst hn; exact absurd (List.eq_nil_of_length_eq_zero (by simpa using this)) hne
  · injection hv with hA hn' hc
    subst hA
    refine ⟨g, 0, rfl, (Array.getElem?_eq_some_iff.1 hg).1, fun i v hi => ?_⟩
    have := h.cells (g := g) rfl i v hi
    rw [add_lit] at this
    rwa [Nat.zero_add]
theorem _root_.Go.World.ownsRow.weaken {w : World} {base base' : Nat} {e : TypeId} {size : Nat} {v : Value} {n : Nat} {vs : List Value} (h : w.ownsRow base e size v n vs) (hb : base' ≤ base) : w.ownsRow base' e size v n vs := by
  refine ⟨h.1, ?_⟩
  rcases h.2 with h1 | ⟨g, cap, cur, hv, hbg, rest⟩
  · exact .inl h1
  · exact .inr ⟨g, cap, cur, hv, Nat.le_trans hb hbg, rest⟩
theorem own_form {w : World} {base : Nat} {e : TypeId} {v : Value} {n : Nat} {vs : List Value} (h : w.ownsRow base e 1 v n vs) : ∃ A c, v = .slice A n c ∧ n ≤ c ∧ c ≤ maxLen := by
  rcases h.2 with ⟨rfl, rfl⟩ | ⟨g, cap, cur, rfl, _, _, hnc, hcm, _⟩
  · exact ⟨none, 0, rfl, Nat.le_refl _, Nat.zero_le _⟩
  · exact ⟨_, cap, rfl, hnc, hcm⟩
end Go.Proofs.Yticdjkkcfdbdcaa
