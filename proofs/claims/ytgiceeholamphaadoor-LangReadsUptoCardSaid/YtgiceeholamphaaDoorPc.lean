/- stepref's parser: its state; the contracts of its small methods. No conditions but that the parser is one. -/
import Derived.Test.YtgiceeholamphaaDoorNx
import Derived.Test.YtgiceeholamphaaDoorRdV
import Derived.Test.YtgiceeholamphaaDoorWrB
namespace Go.Proofs.YtgiceeholamphaaDoor
open Go.ChangeShapes Go.WideShapes Go.ChangeAt Go.RowKit Go.Maps

/-- Where the parser stands: ahead of tokens; or it can't go on. -/
inductive PSt where
  | go (ts : List Tok)
  | no (n : Nat)
def stOf {α : Type} : PR α → PSt
  | .ok _ ts => .go ts
  | .no n => .no n
def valOf {α : Type} : PR α → Option α
  | .ok a _ => some a
  | .no _ => none
def fromS {α : Type} (st : PSt) (k : List Tok → Option (PR α)) : Option (PR α) :=
  match st with
  | .go ts => k ts
  | .no n => some (.no n)
def isS (t : List UInt8) : PSt → Bool
  | .go ts => isTok t ts
  | .no _ => false
def tailS (t : List UInt8) : PSt → PSt
  | .go ts => if isTok t ts then .go ts.tail else .go ts
  | .no n => .no n
def mustS (t : List UInt8) : PSt → PSt
  | .go ts => if isTok t ts then .go ts.tail else .no (hd ts).2
  | .no n => .no n
def noS : PSt → PSt
  | .go ts => .no (hd ts).2
  | .no n => .no n
structure PAt (w : World) (g : Nat) (s : ByteArray) (st : PSt) : Prop where
  st_ : match st with
    | .go ts => ∃ a, a ≤ s.size ∧ toksAt (s.data.toList.drop a) a = ts ∧ Blk w g 67 [.string s, .int .i64 (a : Int), .bool false]
    | .no n => n ≤ s.size ∧ Blk w g 67 [.string s, .int .i64 (n : Int), .bool true]
  errs : Errs w
  far : 3 < g ∧ 4 < g
  len : s.size ≤ 1048576
section
variable {w w' : World} {g : Nat} {s : ByteArray} {st : PSt}
theorem PAt.raw (h : PAt w g s st) : ∃ a b, a ≤ s.size ∧ Blk w g 67 [.string s, .int .i64 (a : Int), .bool b] ∧ ((st = .no a ∧ b = true) ∨ (st = .go (toksAt (s.data.toList.drop a) a) ∧ b = false)) := by
  have k := h.st_
  cases st with
  | go ts => obtain ⟨a, h1, h2, h3⟩ := k; exact ⟨a, false, h1, h3, .inr ⟨by rw [h2], rfl⟩⟩
  | no n => exact ⟨n, true, k.1, k.2, .inl ⟨rfl, rfl⟩⟩
theorem PAt.lt (h : PAt w g s st) : g < w.heap.size := by obtain ⟨_, _, _, hb, _⟩ := h.raw; exact hb.lt
theorem Errs.kept {B : Nat} (h : Errs w) (hk : ∀ b, b ≠ g → b < w.heap.size → w'.heap[b]? = w.heap[b]?) (hf : 3 < g ∧ 4 < g) (hg : g < w.heap.size) : Errs w' := by
  obtain ⟨⟨t1, p1, h1⟩, ⟨t2, p2, h2⟩⟩ := h
  have f1 := hf.1
  have f2 := hf.2
  exact ⟨⟨t1, p1, (World.cell?_of_block (hk _ (show 3 ≠ g by omega) (show 3 < w.heap.size by omega))).trans h1⟩, ⟨t2, p2, (World.cell?_of_block (hk _ (show 4 ≠ g by omega) (show 4 < w.heap.size by omega))).trans h2⟩⟩
theorem Errs.grown (h : Errs w) (hk : w.grownBy w' (some g)) (hf : 3 < g ∧ 4 < g) (hg : g < w.heap.size) : Errs w' :=
  Errs.kept (B := 0) h (fun b hb hl => hk.block b hl (fun e => hb (Option.some.inj e))) hf hg
/-- The parser goes to another state. -/
theorem PAt.move {st' : PSt} {a : Nat} {b : Bool} (h : PAt w g s st) (hk : w.grownBy w' (some g)) (hb : Blk w' g 67 [.string s, .int .i64 (a : Int), .bool b]) (ha : a ≤ s.size)
    (hst : (st' = .no a ∧ b = true) ∨ (st' = .go (toksAt (s.data.toList.drop a) a) ∧ b = false)) : PAt w' g s st' := by
  refine ⟨?_, h.errs.grown hk h.far h.lt, h.far, h.len⟩
  rcases hst with ⟨rfl, rfl⟩ | ⟨rfl, rfl⟩
  · exact ⟨ha, hb⟩
  · exact ⟨a, ha, rfl, hb⟩
theorem PAt.kept (h : PAt w g s st) (hk : w.grownBy w' none) : PAt w' g s st := by
  obtain ⟨a, b, ha, hb, hst⟩ := h.raw
  exact h.move (hk.but _) (hb.grown hk (by simp)) ha hst
/-- A store elsewhere. -/
theorem PAt.far_ {n o : Nat} {v : Value} (h : PAt w g s st) (hn : g < n) : PAt (w.setCell ⟨n, o, none⟩ v) g s st := by
  obtain ⟨a, b, ha, hb, hst⟩ := h.raw
  have hb' := hb.far (p := ⟨n, o, none⟩) (by show g ≠ n; omega) v
  have hE : Errs (w.setCell ⟨n, o, none⟩ v) := by
    obtain ⟨⟨t1, p1, h1⟩, ⟨t2, p2, h2⟩⟩ := h.errs
    have f1 := h.far.1
    have f2 := h.far.2
    exact ⟨⟨t1, p1, (World.cell?_setCell_other _ _ _ _ (fun e => by have := congrArg Addr.block e; simp at this; omega)).trans h1⟩, ⟨t2, p2, (World.cell?_setCell_other _ _ _ _ (fun e => by have := congrArg Addr.block e; simp at this; omega)).trans h2⟩⟩
  refine ⟨?_, hE, h.far, h.len⟩
  rcases hst with ⟨rfl, rfl⟩ | ⟨rfl, rfl⟩
  · exact ⟨ha, hb'⟩
  · exact ⟨a, ha, rfl, hb'⟩
theorem PAt.put4 {n : Nat} {a b k d : Value} (h : PAt w g s st) (hn : g < n) : PAt (World.put4 w n a b k d) g s st := (((h.far_ hn).far_ hn).far_ hn).far_ hn
theorem PAt.stay {row : Option Nat} (h : PAt w g s st) (hg : w.grownBy w' row) (h1 : ∀ b, row = some b → g < b) : PAt w' g s st := by
  obtain ⟨a, b, ha, hb, hst⟩ := h.raw
  have hb' := hb.grown hg (fun e => by have := h1 g e.symm; omega)
  have hl := h.lt
  refine ⟨?_, ?_, h.far, h.len⟩
  · rcases hst with ⟨rfl, rfl⟩ | ⟨rfl, rfl⟩
    · exact ⟨ha, hb'⟩
    · exact ⟨a, ha, rfl, hb'⟩
  · obtain ⟨⟨t1, p1, k1⟩, ⟨t2, p2, k2⟩⟩ := h.errs
    have f1 := h.far.1
    have f2 := h.far.2
    exact ⟨⟨t1, p1, hg.cell k1 (fun e => by have : g < 3 := h1 _ e.symm; omega)⟩, ⟨t2, p2, hg.cell k2 (fun e => by have : g < 4 := h1 _ e.symm; omega)⟩⟩
end
/-! ### From token to token -/
theorem place_le (s : ByteArray) : ∀ (m a : Nat), s.size - a = m → a ≤ s.size → (tokAt s a).2 ≤ s.size := by
  intro m
  induction m with
  | zero => intro a h1 h2; obtain rfl : a = s.size := by omega
            rw [tokAt_end]; exact Nat.le_refl _
  | succ m ih =>
    intro a h1 h2
    have hq : a < s.size := by omega
    cases hb : blank s[a] with
    | true => rw [tokAt_blank hq hb]; exact ih (a + 1) (by omega) (by omega)
    | false => rw [(tokAt_tok hq hb rfl).1]; exact h2
theorem toks_next (s : ByteArray) : ∀ (m a : Nat), s.size - a = m → a ≤ s.size → (tokAt s a).1 ≠ [] →
    (tokAt s a).2 + (tokAt s a).1.length ≤ s.size ∧ toksAt (s.data.toList.drop ((tokAt s a).2 + (tokAt s a).1.length)) ((tokAt s a).2 + (tokAt s a).1.length) = (toksAt (s.data.toList.drop a) a).tail := by
  intro m
  induction m with
  | zero => intro a h1 h2 h3; obtain rfl : a = s.size := by omega
            rw [tokAt_end] at h3; exact absurd rfl h3
  | succ m ih =>
    intro a h1 h2 h3
    have hq : a < s.size := by omega
    cases hb : blank s[a] with
    | true =>
      rw [tokAt_blank hq hb] at h3 ⊢
      rw [drop_at s hq, toksAt_blank hb]
      exact ih (a + 1) (by omega) (by omega) h3
    | false =>
      obtain ⟨e1, h4, h5⟩ := tokAt_tok hq hb rfl
      generalize hn : tokLen s[a] (s.data.toList.drop (a + 1)) = n at *
      have hlen : (s.extract a (a + n)).data.toList.length = n := by simp; omega
      rw [e1]
      simp only
      rw [hlen]
      refine ⟨h5, ?_⟩
      rw [drop_at s hq, toksAt_tok hb, hn, List.tail_cons, List.drop_drop]
      congr 2
      omega
/-- What a method of the parser says that reads something. -/
def PPost {α : Type} (Q : Option α → Value → World → Prop) (w : World) (g : Nat) (s : ByteArray) (r : PR α) (E : Ending) (w' : World) : Prop :=
  w.grownBy w' (some g) ∧ PAt w' g s (stOf r) ∧ ∃ v, E = .returned v ∧ Q (valOf r) v w'
/-- What a method of the parser says that turns its state alone. -/
def TPost (w : World) (g : Nat) (s : ByteArray) (v : Value) (st : PSt) (E : Ending) (w' : World) : Prop := w.grownBy w' (some g) ∧ PAt w' g s st ∧ E = .returned v
theorem no_any (w : World) (g : Nat) (s : ByteArray) (st : PSt) (h : PAt w g s st) : Calls Tryd.prog 30 #[.pointer (some ⟨g, 0, none⟩)] w (TPost w g s (.tuple #[]) (noS st)) := by
  obtain ⟨a, b, ha, hb, hst⟩ := h.raw
  have c2 := hb.cell 2
  have q1 := hb.frozen 1
  have q2 := hb.frozen 2
  have c1 := hb.cell 1
  simp only [List.getElem?_cons_zero, List.getElem?_cons_succ] at c2 c1
  rcases hst with ⟨rfl, rfl⟩ | ⟨rfl, rfl⟩
  · have H := Lib.hid h; clear h hb
    go_enter Tryd.func30, Tryd.ntmps30
    go_wp2_with fail
    go_end0
    exact ⟨World.grownBy.refl _ _, H.out, rfl⟩
  · have hnx := next_any w g s a false hb ha h.len
    have H := Lib.hid (And.intro h (And.intro hb hnx)); clear h hb hnx
    go_enter Tryd.func30, Tryd.ntmps30
    go_wp2_with (go_at_call 29; (
      refine (show Calls _ _ _ _ _ from H.out.2.2).mono ?_
      rintro E w2 ⟨rfl, rfl⟩))
    go_end0
    have hg : w.grownBy ((w.setCell ⟨g, 1, none⟩ (.int .i64 ((tokAt s a).2 : Int))).setCell ⟨g, 2, none⟩ (.bool true)) (some g) := (grown_set w g 1 _).trans (grown_set _ g 2 _)
    refine ⟨hg, H.out.1.move hg (by simpa using (H.out.2.1.set_ 1 (.int .i64 ((tokAt s a).2 : Int))).set_ 2 (.bool true)) (place_le s _ a rfl ha) (.inl ⟨rfl, rfl⟩), rfl⟩
theorem is_any (w : World) (g : Nat) (s : ByteArray) (st : PSt) (h : PAt w g s st) (t : List UInt8) (ht : t ≠ []) : Calls Tryd.prog 47 #[.pointer (some ⟨g, 0, none⟩), .string ⟨t.toArray⟩] w (TPost w g s (.bool (isS t st)) (tailS t st)) := by
  obtain ⟨a, b, ha, hb, hst⟩ := h.raw
  have c2 := hb.cell 2
  have q1 := hb.frozen 1
  have c1 := hb.cell 1
  simp only [List.getElem?_cons_zero, List.getElem?_cons_succ] at c2 c1
  have hnx := next_any w g s a b hb ha h.len
  have hte : t.isEmpty = false := by cases t with | nil => exact absurd rfl ht | cons _ _ => rfl
  have hsl := h.len
  rcases hst with ⟨rfl, rfl⟩ | ⟨rfl, rfl⟩
  · have H := Lib.hid (And.intro h hnx); clear h hb hnx
    go_enter Tryd.func47, Tryd.ntmps47
    go_wp2_with (go_at_call 29; (
      refine (show Calls _ _ _ _ _ from H.out.2).mono ?_
      rintro E w2 ⟨rfl, rfl⟩))
    go_ret
    exact ⟨World.grownBy.refl _ _, H.out.1, rfl⟩
  · have htx := toks_next s _ a rfl ha
    have hisd : isS t (.go (toksAt (s.data.toList.drop a) a)) = ((tokAt s a).1 == t) := rfl
    have htail : tailS t (.go (toksAt (s.data.toList.drop a) a)) = if ((tokAt s a).1 == t) = true then .go (toksAt (s.data.toList.drop a) a).tail else .go (toksAt (s.data.toList.drop a) a) := rfl
    rw [hisd, htail]
    cases hk : ((tokAt s a).1 == t) with
    | true =>
      have e : (tokAt s a).1 = t := by simpa using hk
      obtain ⟨h1, h2⟩ := htx (by rw [e]; exact ht)
      rw [if_pos rfl]
      rw [e] at h1 h2 hnx
      obtain ⟨p, hp⟩ : ∃ p, (tokAt s a).2 = p := ⟨_, rfl⟩
      rw [hp] at h1 h2 hnx
      have htl : t.length ≤ 1048576 := by omega
      have H := Lib.hid (And.intro h (And.intro hb (And.intro hnx h2))); clear h hb hnx h2 hk e hisd htail htx hp
      go_enter Tryd.func47, Tryd.ntmps47
      go_wp2_with (go_at_call 29; (
        refine (show Calls _ _ _ _ _ from H.out.2.2.1).mono ?_
        rintro E w2 ⟨rfl, rfl⟩))
      go_ret
      have hg : w.grownBy (w.setCell ⟨g, 1, none⟩ (.int .i64 ((p + t.length : Nat) : Int))) (some g) := grown_set w g 1 _
      refine ⟨by simpa using hg, ?_, rfl⟩
      have := H.out.1.move hg (by simpa using H.out.2.1.set_ 1 (.int .i64 ((p + t.length : Nat) : Int))) h1 (st' := .go (toksAt (s.data.toList.drop a) a).tail) (.inr ⟨by rw [H.out.2.2.2], rfl⟩)
      simpa using this
    | false =>
      rw [if_neg (by decide)]
      have H := Lib.hid (And.intro h hnx); clear h hb hnx hisd htail htx
      obtain ⟨u, hu⟩ : ∃ u, (tokAt s a).1 = u := ⟨_, rfl⟩
      rw [hu] at hk H
      go_enter Tryd.func47, Tryd.ntmps47
      go_wp2_with (go_at_call 29; (
        refine (show Calls _ _ _ _ _ from H.out.2).mono ?_
        rintro E w2 ⟨rfl, rfl⟩))
      go_ret
      exact ⟨World.grownBy.refl _ _, H.out.1, rfl⟩
theorem must_any (w : World) (g : Nat) (s : ByteArray) (st : PSt) (h : PAt w g s st) (t : List UInt8) (ht : t ≠ []) : Calls Tryd.prog 77 #[.pointer (some ⟨g, 0, none⟩), .string ⟨t.toArray⟩] w (TPost w g s (.tuple #[]) (mustS t st)) := by
  have his := is_any w g s st h t ht
  have H := Lib.hid his; clear his h
  cases hk : isS t st with
  | true =>
    have e : tailS t st = mustS t st := by
      cases st with
      | go ts => simp only [isS] at hk; simp [tailS, mustS, hk]
      | no n => cases hk
    go_enter Tryd.func77, Tryd.ntmps77
    go_wp2_with (go_at_call 47; (
      refine (show Calls _ _ _ _ _ from H.out).mono ?_
      rintro E w2 ⟨hg2, h2, rfl⟩
      rw [hk]
      have H2 := Lib.hid (And.intro hg2 h2); clear hg2 h2))
    go_end0
    exact ⟨H2.out.1, e ▸ H2.out.2, rfl⟩
  | false =>
    have e : noS (tailS t st) = mustS t st := by
      cases st with
      | go ts => simp only [isS] at hk; simp [tailS, mustS, noS, hk]
      | no n => rfl
    go_enter Tryd.func77, Tryd.ntmps77
    go_wp2_with (first
      | (go_at_call 47; (
        refine (show Calls _ _ _ _ _ from H.out).mono ?_
        rintro E w2 ⟨hg2, h2, rfl⟩
        rw [hk]
        have hn := no_any w2 g s _ h2
        have H2 := Lib.hid (And.intro hg2 hn); clear hg2 h2 hn))
      | (go_at_call 30; (
        refine (show Calls _ _ _ _ _ from H2.out.2).mono ?_
        rintro E w3 ⟨hg3, h3, rfl⟩
        have H3 := Lib.hid (And.intro hg3 h3); clear hg3 h3)))
    go_end0
    exact ⟨H2.out.1.trans H3.out.1, e ▸ H3.out.2, rfl⟩
end Go.Proofs.YtgiceeholamphaaDoor

/- stepref's parser: names and numbers. No conditions but that the parser is one. -/
namespace Go.Proofs.YtgiceeholamphaaDoor
open Go.ChangeShapes Go.WideShapes Go.ChangeAt Go.RowKit Go.Maps

theorem notDig {c : UInt8} (h : dig c = false) : ¬ (48 ≤ c.toNat ∧ c.toNat ≤ 57) := by
  intro k
  have : dig c = true := by simpa [dig, UInt8.le_iff_toNat_le] using k
  rw [this] at h; cases h
theorem small_notDig {c : UInt8} (h : small c = true) : dig c = false := by
  have k : 97 ≤ c.toNat ∧ c.toNat ≤ 122 := by simpa [small, UInt8.le_iff_toNat_le] using h
  cases hd : dig c with
  | false => rfl
  | true =>
    have : 48 ≤ c.toNat ∧ c.toNat ≤ 57 := by simpa [dig, UInt8.le_iff_toNat_le] using hd
    omega
theorem parse_bad {c : UInt8} {l : List UInt8} (h : dig c = false) (h43 : c.toNat ≠ 43) (h45 : c.toNat ≠ 45) (v : Int) : Lib.parseIntB 64 (c :: l) ≠ .ok v := by
  simp only [Lib.parseIntB]
  rw [if_neg (by omega), Lib.parseUintB, if_neg (by simp), Lib.parseUintM, if_neg (notDig h)]
  intro hh; cases hh
theorem parse_first {t : List UInt8} (h : okTok t) {v : Int} (hv : Lib.parseIntB 64 t = .ok v) : ∃ c l, t = c :: l ∧ ∀ x ∈ t, dig x = true := by
  cases t with
  | nil => cases hv
  | cons c l =>
    refine ⟨c, l, rfl, ?_⟩
    cases hd : dig c with
    | true => exact okTok_digits h hd
    | false =>
      exfalso
      by_cases h43 : c.toNat = 43
      · rcases h with h | h | h | ⟨d, h, h1, h2⟩ | h
        · cases h
        · have := h c (by simp); simp [small, UInt8.le_iff_toNat_le] at this; omega
        · have := h c (by simp); rw [hd] at this; cases this
        · obtain ⟨rfl, rfl⟩ : c = d ∧ l = [] := by simpa using h
          simp [Lib.parseIntB, h43, Lib.parseUintB] at hv
        · cases h; simp [Lib.parseIntB, Lib.parseUintB, Lib.parseUintM] at hv
      · by_cases h45 : c.toNat = 45
        · rcases h with h | h | h | ⟨d, h, h1, h2⟩ | h
          · cases h
          · have := h c (by simp); simp [small, UInt8.le_iff_toNat_le] at this; omega
          · have := h c (by simp); rw [hd] at this; cases this
          · obtain ⟨rfl, rfl⟩ : c = d ∧ l = [] := by simpa using h
            simp [Lib.parseIntB, h45, Lib.parseUintB] at hv
          · cases h; cases h45
        · exact absurd hv (parse_bad hd h43 h45 v)
theorem parse_low (M : Nat) : ∀ (l : List UInt8) (acc u : Nat), Lib.parseUintM M acc l = .ok u → acc * 10 ^ l.length ≤ u
  | [], acc, u, h => by cases h; simp
  | c :: l, acc, u, h => by
    rw [Lib.parseUintM] at h
    split at h
    · split at h
      · cases h
      · split at h
        · cases h
        · have := parse_low M l _ u h
          rw [List.length_cons, Nat.pow_succ]
          calc acc * (10 ^ l.length * 10) = acc * 10 * 10 ^ l.length := by rw [Nat.mul_comm (10 ^ l.length), Nat.mul_assoc]
            _ ≤ (acc * 10 + (c.toNat - 48)) * 10 ^ l.length := Nat.mul_le_mul_right _ (by omega)
            _ ≤ u := this
    · cases h
theorem parse_long {c : UInt8} {l : List UInt8} {v : Int} (hd : dig c = true) (h48 : ¬ c.toNat = 48) (hl : 10 ≤ l.length) (hv : Lib.parseIntB 64 (c :: l) = .ok v) : 10000000000 ≤ v := by
  have hc : 48 ≤ c.toNat ∧ c.toNat ≤ 57 := by simpa [dig, UInt8.le_iff_toNat_le] using hd
  simp only [Lib.parseIntB] at hv
  rw [if_neg (by omega)] at hv
  rw [Lib.parseUintB, if_neg (by simp)] at hv
  rcases hu : Lib.parseUintM (2 ^ 64 - 1) 0 (c :: l) with u | _ | _
  rotate_left
  · rw [hu] at hv; cases hv
  · rw [hu] at hv; cases hv
  · rw [hu] at hv
    simp only at hv
    rw [if_neg (c := c.toNat = 45) (by omega)] at hv
    have hlow : 10 ^ 10 ≤ u := by
      rw [Lib.parseUintM, if_pos hc] at hu
      split at hu
      · cases hu
      · split at hu
        · cases hu
        · have := parse_low _ l _ u hu
          have hp : 10 ^ 10 ≤ 10 ^ l.length := Nat.pow_le_pow_right (by omega) hl
          calc 10 ^ 10 ≤ 1 * 10 ^ l.length := by omega
            _ ≤ (0 * 10 + (c.toNat - 48)) * 10 ^ l.length := Nat.mul_le_mul_right _ (by omega)
            _ ≤ u := this
    split at hv
    · cases hv
    · split at hv
      · cases hv
      · cases hv; omega
/-- A name, a number that was read; whatever where nothing was. -/
def Qs (o : Option ByteArray) (v : Value) (_ : World) : Prop := ∃ x : ByteArray, v = .string x ∧ ∀ a, o = some a → x = a
def Qn (o : Option Int) (v : Value) (_ : World) : Prop := ∃ x : Int, v = .int .i64 x ∧ ∀ a, o = some a → x = a
noncomputable def nameP : PSt → PR ByteArray
  | .go ts => nameR ts
  | .no n => .no n
def numP (b : Int) : PSt → PR Int
  | .go ts => numR b ts
  | .no n => .no n
theorem pname_any (w : World) (g : Nat) (s : ByteArray) (st : PSt) (h : PAt w g s st) : Calls Tryd.prog 76 #[.pointer (some ⟨g, 0, none⟩)] w (PPost Qs w g s (nameP st)) := by
  obtain ⟨a, b, ha, hb, hst⟩ := h.raw
  have c2 := hb.cell 2
  simp only [List.getElem?_cons_zero, List.getElem?_cons_succ] at c2
  have hnx := next_any w g s a b hb ha h.len
  have hno := no_any w g s st h
  rcases hst with ⟨rfl, rfl⟩ | ⟨rfl, rfl⟩
  · have H := Lib.hid (And.intro h (And.intro hnx hno)); clear h hb hnx hno
    go_enter Tryd.func76, Tryd.ntmps76
    go_wp2_with (first
      | (go_at_call 29; (
        refine (show Calls _ _ _ _ _ from H.out.2.1).mono ?_
        rintro E w2 ⟨rfl, rfl⟩))
      | (go_at_call 30; (
        refine (show Calls _ _ _ _ _ from H.out.2.2).mono ?_
        rintro E w3 ⟨hg3, h3, rfl⟩
        have H3 := Lib.hid (And.intro hg3 h3); clear hg3 h3)))
    go_ret
    exact ⟨H3.out.1, H3.out.2, _, rfl, ⟨#[]⟩, rfl, fun a e => by cases e⟩
  · have hnr : nameP (.go (toksAt (s.data.toList.drop a) a)) = if named ⟨(tokAt s a).1.toArray⟩ then .ok ⟨(tokAt s a).1.toArray⟩ (toksAt (s.data.toList.drop a) a).tail else .no (tokAt s a).2 := rfl
    rw [hnr]
    obtain ⟨x, hx⟩ : ∃ x : ByteArray, (⟨(tokAt s a).1.toArray⟩ : ByteArray) = x := ⟨_, rfl⟩
    have his := fun hne => is_any w g s _ h (tokAt s a).1 hne
    have htl : tailS (tokAt s a).1 (.go (toksAt (s.data.toList.drop a) a)) = .go (toksAt (s.data.toList.drop a) a).tail := by
      have hk : isTok (tokAt s a).1 (toksAt (s.data.toList.drop a) a) = true := by simp [isTok, tokAt]
      simp only [tailS]
      rw [if_pos hk]
    rw [htl] at his
    have hne : named x → (tokAt s a).1 ≠ [] := by
      intro hn e
      rw [e] at hx
      subst hx
      exact absurd hn.1 (by decide)
    rw [hx] at his hnx ⊢
    by_cases hn : named x
    · rw [if_pos hn]
      have hdn : decide (named x) = true := decide_eq_true hn
      have H := Lib.hid (And.intro h (And.intro hnx (And.intro (his (hne hn)) hdn))); clear h hb hnx his hno hn hdn hne
      go_enter Tryd.func76, Tryd.ntmps76
      go_wp2_with (first
        | (go_at_call 29; (
          refine (show Calls _ _ _ _ _ from H.out.2.1).mono ?_
          rintro E w2 ⟨rfl, rfl⟩))
        | (go_at_call 18; (
          refine (named_any _ x).mono ?_
          rintro E w3 ⟨rfl, rfl⟩
          rw [H.out.2.2.2]))
        | (go_at_call 47; (
          refine (show Calls _ _ _ _ _ from H.out.2.2.1).mono ?_
          rintro E w4 ⟨hg4, h4, rfl⟩
          have H4 := Lib.hid (And.intro hg4 h4); clear hg4 h4)))
      go_ret
      exact ⟨H4.out.1, H4.out.2, _, rfl, x, rfl, fun a e => by cases e; rfl⟩
    · rw [if_neg hn]
      have hdn : decide (named x) = false := decide_eq_false hn
      have H := Lib.hid (And.intro h (And.intro hnx (And.intro hno hdn))); clear h hb hnx his hno hn hdn hne
      go_enter Tryd.func76, Tryd.ntmps76
      go_wp2_with (first
        | (go_at_call 29; (
          refine (show Calls _ _ _ _ _ from H.out.2.1).mono ?_
          rintro E w2 ⟨rfl, rfl⟩))
        | (go_at_call 18; (
          refine (named_any _ x).mono ?_
          rintro E w3 ⟨rfl, rfl⟩
          rw [H.out.2.2.2]))
        | (go_at_call 30; (
          refine (show Calls _ _ _ _ _ from H.out.2.2.1).mono ?_
          rintro E w4 ⟨hg4, h4, rfl⟩
          have H4 := Lib.hid (And.intro hg4 h4); clear hg4 h4)))
      go_ret
      exact ⟨H4.out.1, H4.out.2, _, rfl, ⟨#[]⟩, rfl, fun a e => by cases e⟩
end Go.Proofs.YtgiceeholamphaaDoor

/- stepref's parser: numbers (made by mkpc.py). No conditions but that the parser is one. -/
namespace Go.Proofs.YtgiceeholamphaaDoor
open Go.ChangeShapes Go.WideShapes Go.ChangeAt Go.RowKit Go.Maps

theorem tokAt_mem (s : ByteArray) (a : Nat) : tokAt s a ∈ toksAt (s.data.toList.drop a) a := by
  unfold tokAt
  cases h : toksAt (s.data.toList.drop a) a with
  | nil => exact absurd h (toksAt_ne _ _)
  | cons t ts => simp [hd]
set_option maxRecDepth 100000 in
set_option maxHeartbeats 4000000 in
theorem pnumber_any (w : World) (g : Nat) (s : ByteArray) (st : PSt) (h : PAt w g s st) (most : Int) (hm : most ≤ 1000000000) : Calls Tryd.prog 75 #[.pointer (some ⟨g, 0, none⟩), .int .i64 most] w (PPost Qn w g s (numP most st)) := by
  obtain ⟨a, b, ha, hb, hst⟩ := h.raw
  have c2 := hb.cell 2
  simp only [List.getElem?_cons_zero, List.getElem?_cons_succ] at c2
  have hgl := hb.lt
  have hnx := next_any w g s a b hb ha h.len
  have hok := toksAt_ok _ _ _ (tokAt_mem s a)
  have hshort := toksAt_short _ _ _ (tokAt_mem s a)
  obtain ⟨x, hx⟩ : ∃ x : ByteArray, (⟨(tokAt s a).1.toArray⟩ : ByteArray) = x := ⟨_, rfl⟩
  have hxd : x.data.toList = (tokAt s a).1 := by rw [← hx]
  have hxs : x.size = (tokAt s a).1.length := by rw [← hx]; simp [ByteArray.size]
  have hxl : x.size ≤ 1048576 := by
    have := h.len
    simp only [List.length_drop, Array.length_toList, ByteArray.size_data] at hshort
    omega
  rw [hx] at hnx
  clear hshort
  rcases hst with ⟨rfl, rfl⟩ | ⟨rfl, rfl⟩
  · by_cases hp : ∃ v, Lib.parseIntB 64 x.data.toList = .ok v
    · obtain ⟨v, hv⟩ := hp
      have hpar := parseInt_ok x hxl v hv w
      have H := Lib.hid (And.intro h (And.intro hnx (And.intro hpar h))); clear h hb hnx hpar hok hx hxd hxs hxl
      go_enter Tryd.func75, Tryd.ntmps75
      go_wp2_with (first
        | (go_at_call 29; (
          refine (show Calls _ _ _ _ _ from H.out.2.1).mono ?_
          rintro E w2 ⟨rfl, rfl⟩))
        | (go_at_call 89; (
          refine (show Calls _ _ _ _ _ from H.out.2.2.1).mono ?_
          rintro E w3 ⟨rfl, hb3⟩
          have hg3 := grown_of_below hb3 none
          have h3 := H.out.1.kept hg3
          have k2 := ((hb3.cell (p := ⟨g, 2, none⟩) hgl)).trans c2
          have hx3 := no_any w3 g s _ h3
          have H3 := Lib.hid (And.intro hg3 hx3); clear hg3 hb3 h3 hx3))
        | (go_at_call 30; (
          refine (show Calls _ _ _ _ _ from H3.out.2).mono ?_
          rintro E w4 ⟨hg4, h4, rfl⟩
          have H4 := Lib.hid (And.intro hg4 h4); clear hg4 h4)))
      go_ret
      exact ⟨(H3.out.1.but _).trans H4.out.1, H4.out.2, _, rfl, 0, rfl, fun a e => by cases e⟩
    · have hpar := parseInt_bad x hxl (fun v hv => hp ⟨v, hv⟩) w h.errs
      have H := Lib.hid (And.intro h (And.intro hnx (And.intro hpar h))); clear h hb hnx hpar hok hx hxd hxs hxl hp
      go_enter Tryd.func75, Tryd.ntmps75
      go_wp2_with (first
        | (go_at_call 29; (
          refine (show Calls _ _ _ _ _ from H.out.2.1).mono ?_
          rintro E w2 ⟨rfl, rfl⟩))
        | (go_at_call 89; (
          refine (show Calls _ _ _ _ _ from H.out.2.2.1).mono ?_
          rintro E w3 ⟨pn, pN, rfl, hb3⟩
          have hg3 := grown_of_below hb3 none
          have h3 := H.out.1.kept hg3
          have k2 := ((hb3.cell (p := ⟨g, 2, none⟩) hgl)).trans c2
          have hx3 := no_any w3 g s _ h3
          have H3 := Lib.hid (And.intro hg3 hx3); clear hg3 hb3 h3 hx3))
        | (go_at_call 30; (
          refine (show Calls _ _ _ _ _ from H3.out.2).mono ?_
          rintro E w4 ⟨hg4, h4, rfl⟩
          have H4 := Lib.hid (And.intro hg4 h4); clear hg4 h4)))
      go_ret
      exact ⟨(H3.out.1.but _).trans H4.out.1, H4.out.2, _, rfl, 0, rfl, fun a e => by cases e⟩
  · have hnr : numP most (.go (toksAt (s.data.toList.drop a) a)) = match Lib.parseIntB 64 (tokAt s a).1 with | .ok v => (if digitFirst (toksAt (s.data.toList.drop a) a) && plainNum (tokAt s a).1 && decide (v ≤ most) then .ok v (toksAt (s.data.toList.drop a) a).tail else .no (tokAt s a).2) | _ => .no (tokAt s a).2 := rfl
    by_cases hp : ∃ v, Lib.parseIntB 64 x.data.toList = .ok v
    · obtain ⟨v, hv⟩ := hp
      have hpar := parseInt_ok x hxl v hv w
      rw [hxd] at hv
      obtain ⟨c, l, hcl, hdig⟩ := parse_first hok hv
      rw [hv] at hnr
      have hdf : digitFirst (toksAt (s.data.toList.drop a) a) = true := by
        have : digitFirst (toksAt (s.data.toList.drop a) a) = match (tokAt s a).1 with | c :: _ => dig c | [] => false := rfl
        rw [this, hcl]
        exact hdig c (by rw [hcl]; simp)
      simp only [hdf, Bool.true_and] at hnr
      have hdc : dig c = true := hdig c (by rw [hcl]; simp)
      have hc : 48 ≤ c.toNat ∧ c.toNat ≤ 57 := by simpa [dig, UInt8.le_iff_toNat_le] using hdc
      have hpos : 0 < x.size := by rw [hxs, hcl]; simp
      have hx0 : x[0] = c := by
        have h1 : x.data.toList[0]? = some c := by rw [hxd, hcl]; rfl
        have h2 : x.data.toList[0]? = some x[0] := by simp [hpos]; rfl
        exact Option.some.inj (h2.symm.trans h1)
      have e43 : ((c.toNat : Int) == 43) = false := by rw [beq_eq_false_iff_ne]; omega
      have e45 : ((c.toNat : Int) == 45) = false := by rw [beq_eq_false_iff_ne]; omega
      have hne : (tokAt s a).1 ≠ [] := by rw [hcl]; simp
      have htl : tailS (tokAt s a).1 (.go (toksAt (s.data.toList.drop a) a)) = .go (toksAt (s.data.toList.drop a) a).tail := by
        have hk : isTok (tokAt s a).1 (toksAt (s.data.toList.drop a) a) = true := by simp [isTok, tokAt]
        simp only [tailS]
        rw [if_pos hk]
      by_cases hvm : most < v
      · have hr : numP most (.go (toksAt (s.data.toList.drop a) a)) = .no (tokAt s a).2 := by rw [hnr, if_neg (by simp; omega)]
        rw [hr]
        have H := Lib.hid (And.intro h (And.intro hnx (And.intro hpar h))); clear h hb hnx hpar hok hx hxd hxs hxl hr hnr hdf hcl hdig hv htl hne
        go_enter Tryd.func75, Tryd.ntmps75
        go_wp2_with (first
          | (go_at_call 29; (
            refine (show Calls _ _ _ _ _ from H.out.2.1).mono ?_
            rintro E w2 ⟨rfl, rfl⟩))
          | (go_at_call 89; (
            refine (show Calls _ _ _ _ _ from H.out.2.2.1).mono ?_
            rintro E w3 ⟨rfl, hb3⟩
            have hg3 := grown_of_below hb3 none
            have h3 := H.out.1.kept hg3
            have k2 := ((hb3.cell (p := ⟨g, 2, none⟩) hgl)).trans c2
            have hx3 := no_any w3 g s _ h3
            have H3 := Lib.hid (And.intro hg3 hx3); clear hg3 hb3 h3 hx3))
          | (go_at_call 30; (
            refine (show Calls _ _ _ _ _ from H3.out.2).mono ?_
            rintro E w4 ⟨hg4, h4, rfl⟩
            have H4 := Lib.hid (And.intro hg4 h4); clear hg4 h4)))
        go_ret
        exact ⟨(H3.out.1.but _).trans H4.out.1, H4.out.2, _, rfl, 0, rfl, fun a e => by cases e⟩
      · by_cases h1 : 1 < x.size
        · have k1 : (1 : Int) < (x.size : Int) := by omega
          by_cases h48 : c = 48
          · have e48 : ((c.toNat : Int) == 48) = true := by rw [h48]; rfl
            have hr : numP most (.go (toksAt (s.data.toList.drop a) a)) = .no (tokAt s a).2 := by
              have hpl : plainNum (tokAt s a).1 = false := by
                rw [hxs] at h1
                have hlt : decide (1 < (tokAt s a).1.length) = true := decide_eq_true h1
                have hh : ((tokAt s a).1.head? == some 48) = true := by rw [hcl, h48]; rfl
                unfold plainNum
                rw [hlt, hh]; simp
              rw [hnr, hpl]; rfl
            rw [hr]
            have H := Lib.hid (And.intro h (And.intro hnx (And.intro hpar h))); clear h hb hnx hpar hok hx hxd hxs hxl hr hnr hdf hcl hdig hv htl hne h48 h1
            go_enter Tryd.func75, Tryd.ntmps75
            go_wp2_with (first
              | (go_at_call 29; (
                refine (show Calls _ _ _ _ _ from H.out.2.1).mono ?_
                rintro E w2 ⟨rfl, rfl⟩))
              | (go_at_call 89; (
                refine (show Calls _ _ _ _ _ from H.out.2.2.1).mono ?_
                rintro E w3 ⟨rfl, hb3⟩
                have hg3 := grown_of_below hb3 none
                have h3 := H.out.1.kept hg3
                have k2 := ((hb3.cell (p := ⟨g, 2, none⟩) hgl)).trans c2
                have hx3 := no_any w3 g s _ h3
                have H3 := Lib.hid (And.intro hg3 hx3); clear hg3 hb3 h3 hx3))
              | (go_at_call 30; (
                refine (show Calls _ _ _ _ _ from H3.out.2).mono ?_
                rintro E w4 ⟨hg4, h4, rfl⟩
                have H4 := Lib.hid (And.intro hg4 h4); clear hg4 h4)))
            go_ret
            exact ⟨(H3.out.1.but _).trans H4.out.1, H4.out.2, _, rfl, 0, rfl, fun a e => by cases e⟩
          · have e48 : ((c.toNat : Int) == 48) = false := by
              have : c.toNat ≠ 48 := fun e => h48 (UInt8.toNat_inj.1 e)
              rw [beq_eq_false_iff_ne]; omega
            have hr : numP most (.go (toksAt (s.data.toList.drop a) a)) = .ok v (toksAt (s.data.toList.drop a) a).tail := by
              have hpl : plainNum (tokAt s a).1 = true := by
                have hlen : (tokAt s a).1.length ≤ 10 := by
                  apply Nat.le_of_not_lt
                  intro hlt
                  rw [hcl] at hlt hv
                  have := parse_long hdc (fun e => h48 (UInt8.toNat_inj.1 e)) (by simp at hlt; omega) hv
                  omega
                have hh : ((tokAt s a).1.head? == some 48) = false := by rw [hcl]; simp [h48]
                unfold plainNum
                rw [hh, decide_eq_true hlen]; simp
              rw [hnr, hpl, if_pos (by simp; omega)]
            rw [hr]
            have H := Lib.hid (And.intro h (And.intro hnx (And.intro hpar htl))); clear h hb hnx hpar hok hxd hxs hxl hr hnr hdf hcl hdig hv htl h48 h1
            go_enter Tryd.func75, Tryd.ntmps75
            go_wp2_with (first
              | (go_at_call 29; (
                refine (show Calls _ _ _ _ _ from H.out.2.1).mono ?_
                rintro E w2 ⟨rfl, rfl⟩))
              | (go_at_call 89; (
                refine (show Calls _ _ _ _ _ from H.out.2.2.1).mono ?_
                rintro E w3 ⟨rfl, hb3⟩
                have hg3 := grown_of_below hb3 none
                have h3 := H.out.1.kept hg3
                have k2 := ((hb3.cell (p := ⟨g, 2, none⟩) hgl)).trans c2
                have hx3 := is_any w3 g s _ h3 (tokAt s a).1 hne
                rw [hx] at hx3
                have H3 := Lib.hid (And.intro hg3 hx3); clear hg3 hb3 h3 hx3))
              | (go_at_call 47; (
                refine (show Calls _ _ _ _ _ from H3.out.2).mono ?_
                rintro E w4 ⟨hg4, h4, rfl⟩
                have H4 := Lib.hid (And.intro hg4 h4); clear hg4 h4)))
            go_ret
            have h5 := H4.out.2
            rw [H.out.2.2.2] at h5
            exact ⟨(H3.out.1.but _).trans H4.out.1, h5, _, rfl, v, rfl, fun a e => by cases e; rfl⟩
        · have k1 : ¬ (1 : Int) < (x.size : Int) := by omega
          have hr : numP most (.go (toksAt (s.data.toList.drop a) a)) = .ok v (toksAt (s.data.toList.drop a) a).tail := by
            have hpl : plainNum (tokAt s a).1 = true := by
              rw [hxs] at h1
              unfold plainNum
              rw [decide_eq_false h1, decide_eq_true (by omega : (tokAt s a).1.length ≤ 10)]; rfl
            rw [hnr, hpl, if_pos (by simp; omega)]
          rw [hr]
          have H := Lib.hid (And.intro h (And.intro hnx (And.intro hpar htl))); clear h hb hnx hpar hok hxd hxs hxl hr hnr hdf hcl hdig hv htl h1
          go_enter Tryd.func75, Tryd.ntmps75
          go_wp2_with (first
            | (go_at_call 29; (
              refine (show Calls _ _ _ _ _ from H.out.2.1).mono ?_
              rintro E w2 ⟨rfl, rfl⟩))
            | (go_at_call 89; (
              refine (show Calls _ _ _ _ _ from H.out.2.2.1).mono ?_
              rintro E w3 ⟨rfl, hb3⟩
              have hg3 := grown_of_below hb3 none
              have h3 := H.out.1.kept hg3
              have k2 := ((hb3.cell (p := ⟨g, 2, none⟩) hgl)).trans c2
              have hx3 := is_any w3 g s _ h3 (tokAt s a).1 hne
              rw [hx] at hx3
              have H3 := Lib.hid (And.intro hg3 hx3); clear hg3 hb3 h3 hx3))
            | (go_at_call 47; (
              refine (show Calls _ _ _ _ _ from H3.out.2).mono ?_
              rintro E w4 ⟨hg4, h4, rfl⟩
              have H4 := Lib.hid (And.intro hg4 h4); clear hg4 h4)))
          go_ret
          have h5 := H4.out.2
          rw [H.out.2.2.2] at h5
          exact ⟨(H3.out.1.but _).trans H4.out.1, h5, _, rfl, v, rfl, fun a e => by cases e; rfl⟩
    · have hr : numP most (.go (toksAt (s.data.toList.drop a) a)) = .no (tokAt s a).2 := by
        rw [hnr]
        rcases hv : Lib.parseIntB 64 (tokAt s a).1 with v | _ | _
        · exact absurd ⟨v, by rw [hxd]; exact hv⟩ hp
        · rfl
        · rfl
      rw [hr]
      have hpar := parseInt_bad x hxl (fun v hv => hp ⟨v, hv⟩) w h.errs
      have H := Lib.hid (And.intro h (And.intro hnx (And.intro hpar h))); clear h hb hnx hpar hok hx hxd hxs hxl hp hr hnr
      go_enter Tryd.func75, Tryd.ntmps75
      go_wp2_with (first
        | (go_at_call 29; (
          refine (show Calls _ _ _ _ _ from H.out.2.1).mono ?_
          rintro E w2 ⟨rfl, rfl⟩))
        | (go_at_call 89; (
          refine (show Calls _ _ _ _ _ from H.out.2.2.1).mono ?_
          rintro E w3 ⟨pn, pN, rfl, hb3⟩
          have hg3 := grown_of_below hb3 none
          have h3 := H.out.1.kept hg3
          have k2 := ((hb3.cell (p := ⟨g, 2, none⟩) hgl)).trans c2
          have hx3 := no_any w3 g s _ h3
          have H3 := Lib.hid (And.intro hg3 hx3); clear hg3 hb3 h3 hx3))
        | (go_at_call 30; (
          refine (show Calls _ _ _ _ _ from H3.out.2).mono ?_
          rintro E w4 ⟨hg4, h4, rfl⟩
          have H4 := Lib.hid (And.intro hg4 h4); clear hg4 h4)))
      go_ret
      exact ⟨(H3.out.1.but _).trans H4.out.1, H4.out.2, _, rfl, 0, rfl, fun a e => by cases e⟩
end Go.Proofs.YtgiceeholamphaaDoor
