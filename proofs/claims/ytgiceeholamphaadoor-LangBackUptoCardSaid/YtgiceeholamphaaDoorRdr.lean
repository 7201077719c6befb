/- The reader of lang: its state; the contracts of its small methods. No conditions but that the reader is one. -/
import Derived.Test.YtgiceeholamphaaDoorTk
import Derived.Test.YtgiceeholamphaaDoorBare
import Derived.Test.YtgiceeholamphaaDoorNamed
import Derived.Test.YtgiceeholamphaaDoorPint
import Derived.Deep.RegionHeld3
import Derived.RegionDies
import Derived.Deep.QuietTactic
import Derived.BigQuiet
namespace Go.Proofs.YtgiceeholamphaaDoor
open Go.ChangeShapes Go.WideShapes Go.ChangeAt Go.RowKit Go.Maps

/-- A list of tokens, as tokens makes it. -/
structure TokOk (T : List Tok) : Prop where
  each : ∀ t ∈ T, okTok t.1 ∧ t.1.length ≤ 1048576
  len : T.length ≤ 1048577
  fin : ∃ P n, T = P ++ [([], n)]
/-- The reader in block g stands at token i of T. -/
structure RAt (w : World) (g tb c : Nat) (T : List Tok) (i : Nat) : Prop where
  hi : i < T.length
  ne : tb ≠ g
  blk : Blk w g 61 [.slice (some ⟨tb, 0, none⟩) T.length c, .int .i64 (i : Int)]
  row : ∀ (k : Nat) (h : k < T.length), w.cell? ⟨tb, k * 2, none⟩ = some (.string ⟨(T[k]).1.toArray⟩) ∧ w.cell? ⟨tb, k * 2 + 1, none⟩ = some (.int .i64 ((T[k]).2 : Int))
section
variable {w w' : World} {g tb c i j : Nat} {T : List Tok}
theorem RAt.move (h : RAt w g tb c T i) (hg : w.grownBy w' (some g)) (hb : Blk w' g 61 [.slice (some ⟨tb, 0, none⟩) T.length c, .int .i64 (j : Int)]) (hj : j < T.length) : RAt w' g tb c T j :=
  ⟨hj, h.ne, hb, fun k hk => ⟨hg.cell (h.row k hk).1 (fun e => h.ne (Option.some.inj e)), hg.cell (h.row k hk).2 (fun e => h.ne (Option.some.inj e))⟩⟩
theorem RAt.kept (h : RAt w g tb c T i) (hg : w.grownBy w' none) : RAt w' g tb c T i := h.move (hg.but _) (h.blk.grown hg (by simp)) h.hi
theorem RAt.drew (h : RAt w g tb c T i) : RAt w.drew g tb c T i := ⟨h.hi, h.ne, h.blk.drew, h.row⟩
end
theorem grown_set (w : World) (g o : Nat) (v : Value) : w.grownBy (w.setCell ⟨g, o, none⟩ v) (some g) :=
  ⟨rfl, rfl, rfl, by simp [World.setCell], fun k _ hne => by simp only [World.setCell, Array.getElem?_modify]; rw [if_neg (fun e => hne (by rw [← e]))]⟩
theorem grown_drew (w : World) (row : Option Nat) : w.grownBy w.drew row := ⟨rfl, rfl, rfl, Nat.le_refl _, fun _ _ _ => rfl⟩
theorem grown_drewN (w : World) (n : Nat) (row : Option Nat) : w.grownBy (w.drewN n) row := ⟨rfl, rfl, rfl, Nat.le_refl _, fun _ _ _ => rfl⟩
theorem Blk.drewN {w : World} {g : Nat} {t : TypeId} {vs : List Value} (h : Blk w g t vs) (n : Nat) : Blk (w.drewN n) g t vs := h
theorem hd_drop {T : List Tok} {i : Nat} (h : i < T.length) : hd (T.drop i) = T[i] := by rw [List.drop_eq_getElem_cons h]; rfl
theorem tail_drop {T : List Tok} {i : Nat} : (T.drop i).tail = T.drop (i + 1) := by rw [List.tail_drop]
abbrev stopAt (n : Nat) : Ending := .panicked [{ v := .iface 55 (.int .i64 (n : Int)), recovered := false }]
theorem fail_any (w : World) (g tb c i : Nat) (T : List Tok) (h : RAt w g tb c T i) (hT : TokOk T) : Calls Tryd.prog 27 #[.pointer (some ⟨g, 0, none⟩)] w fun E w' => E = stopAt (hd (T.drop i)).2 ∧ w.grownBy w' none := by
  rw [hd_drop h.hi]
  have h0 := h.blk.cell 0
  have h1 := h.blk.cell 1
  obtain ⟨h2, h3⟩ := h.row i h.hi
  simp only [List.getElem?_cons_zero, List.getElem?_cons_succ] at h0 h1
  have hil : (0 : Int) ≤ (i : Int) ∧ (i : Int) < (T.length : Int) := ⟨by omega, by have := h.hi; omega⟩
  have hl := hT.len
  generalize T[i] = t at *
  clear h hT
  go_enter Tryd.func27, Tryd.ntmps27
  go_wp2_with fail
  go_region_dies
  all_goals (try go_wp2)
  all_goals exact ⟨rfl, rfl, grown_drew _ _⟩
/-- What a method that looks for a token says. -/
def HavePost (w : World) (g tb c : Nat) (T : List Tok) (i : Nat) (s : List UInt8) (E : Ending) (w' : World) : Prop :=
  E = .returned (.bool (isTok s (T.drop i))) ∧ w.grownBy w' (some g) ∧ RAt w' g tb c T (if isTok s (T.drop i) then i + 1 else i)
theorem isTok_more {T : List Tok} (hT : TokOk T) {i : Nat} {s : List UInt8} (hs : s ≠ []) (h : isTok s (T.drop i) = true) (hi : i < T.length) : i + 1 < T.length := by
  obtain ⟨P, n, rfl⟩ := hT.fin
  have e := isTok_hd h
  rw [hd_drop hi] at e
  rcases Nat.lt_or_ge (i + 1) (P ++ [(([] : List UInt8), n)]).length with h1 | h1
  · exact h1
  · exfalso
    have hil : i = P.length := by simp at hi h1; omega
    subst hil
    simp at e
    exact hs e
theorem RAt.facts {w : World} {g tb c i : Nat} {T : List Tok} (h : RAt w g tb c T i) (hT : TokOk T) : ∃ t : Tok, hd (T.drop i) = t ∧ t ∈ T ∧ w.cell? ⟨g, 0, none⟩ = some (.slice (some ⟨tb, 0, none⟩) T.length c) ∧ w.cell? ⟨g, 1, none⟩ = some (.int .i64 (i : Int)) ∧
    w.frozen? ⟨g, 1, none⟩ = false ∧ w.cell? ⟨tb, i * 2, none⟩ = some (.string ⟨t.1.toArray⟩) ∧ ((0 : Int) ≤ (i : Int) ∧ (i : Int) < (T.length : Int)) ∧ T.length ≤ 1048577 := by
  have hi := h.hi
  refine ⟨T[i], hd_drop hi, List.getElem_mem hi, h.blk.cell 0, h.blk.cell 1, h.blk.frozen 1, (h.row i hi).1, ⟨by omega, by omega⟩, hT.len⟩
theorem have_any (w : World) (g tb c i : Nat) (T : List Tok) (h : RAt w g tb c T i) (hT : TokOk T) (s : List UInt8) (hs : s ≠ []) : Calls Tryd.prog 45 #[.pointer (some ⟨g, 0, none⟩), .string ⟨s.toArray⟩] w (HavePost w g tb c T i s) := by
  obtain ⟨t, hd', _, h0, h1, hf1, h2, hil, hl⟩ := h.facts hT
  have hm := isTok_more hT hs (i := i)
  have hne := h.ne
  have hse : s.isEmpty = false := by cases s with | nil => exact absurd rfl hs | cons _ _ => rfl
  have H := Lib.hid (And.intro h (And.intro hT hm)); clear h hT hm
  cases hk : isTok s (T.drop i) with
  | true =>
    have e := isTok_hd hk
    rw [hd'] at e
    have HK := Lib.hid (And.intro hk (And.intro e hd')); clear hk hd'
    go_enter Tryd.func45, Tryd.ntmps45
    go_wp2_with fail
    go_quiet (fail)
    go_wp2_with fail
    go_ret
    obtain ⟨h, hT, hm⟩ := H.out
    have hlt := hm HK.out.1 h.hi
    refine ⟨by rw [HK.out.1]; rfl, (grown_drewN w nq _).trans (grown_set _ g 1 _), ?_⟩
    rw [if_pos HK.out.1]
    refine h.move ((grown_drewN w nq _).trans (grown_set _ g 1 _)) ?_ hlt
    have hb := (h.blk.drewN nq).set_ 1 (.int .i64 ((i : Int) + 1))
    simpa using hb
  | false =>
    have e : (t.1 == s) = false := by
      unfold isTok at hk
      rwa [hd'] at hk
    have HK := Lib.hid (And.intro hk hd'); clear hk hd'
    go_enter Tryd.func45, Tryd.ntmps45
    go_wp2_with fail
    go_quiet (fail)
    go_wp2_with fail
    go_ret
    obtain ⟨h, hT, hm⟩ := H.out
    refine ⟨by rw [HK.out.1]; rfl, grown_drewN w nq _, ?_⟩
    rw [if_neg (by rw [HK.out.1]; decide)]
    exact h.move (grown_drewN w nq _) (h.blk.drewN nq) h.hi
def NeedPost (w : World) (g tb c : Nat) (T : List Tok) (i : Nat) (s : List UInt8) (E : Ending) (w' : World) : Prop :=
  w.grownBy w' (some g) ∧ if isTok s (T.drop i) then E = .returned (.tuple #[]) ∧ RAt w' g tb c T (i + 1) else E = stopAt (hd (T.drop i)).2
theorem need_any (w : World) (g tb c i : Nat) (T : List Tok) (h : RAt w g tb c T i) (hT : TokOk T) (s : List UInt8) (hs : s ≠ []) : Calls Tryd.prog 72 #[.pointer (some ⟨g, 0, none⟩), .string ⟨s.toArray⟩] w (NeedPost w g tb c T i s) := by
  have hh := have_any w g tb c i T h hT s hs
  have H := Lib.hid (And.intro hh hT); clear hh h hT
  unfold NeedPost
  cases hk : isTok s (T.drop i) with
  | true =>
    go_enter Tryd.func72, Tryd.ntmps72
    go_wp2_with (go_at_call 45; (
      refine H.out.1.mono ?_
      rintro E w2 ⟨rfl, hg2, h2⟩
      rw [if_pos hk] at h2
      rw [hk]
      have H2 := Lib.hid (And.intro hg2 h2); clear hg2 h2))
    go_end0
    exact ⟨H2.out.1, ⟨rfl, H2.out.2⟩⟩
  | false =>
    go_enter Tryd.func72, Tryd.ntmps72
    go_wp2_with (first
      | (go_at_call 45; (
        refine H.out.1.mono ?_
        rintro E w2 ⟨rfl, hg2, h2⟩
        rw [if_neg (by rw [hk]; decide)] at h2
        rw [hk]
        have hf := fail_any w2 g tb c i T h2 H.out.2
        have H2 := Lib.hid (And.intro hg2 hf); clear hg2 hf h2))
      | (go_at_call 27; (
        refine H2.out.2.mono ?_
        rintro E w3 ⟨rfl, hg3⟩
        have H3 := Lib.hid hg3; clear hg3)))
    exact ⟨rfl, H2.out.1.trans (H3.out.but _), rfl⟩
/-- What a method of the reader says that reads something. -/
def RPost {α : Type} (Q : α → Value → World → Prop) (w : World) (g tb c : Nat) (T : List Tok) (r : PR α) (E : Ending) (w' : World) : Prop :=
  w.grownBy w' (some g) ∧ match r with
  | .ok a ts' => ∃ v i', E = .returned v ∧ Q a v w' ∧ T.drop i' = ts' ∧ RAt w' g tb c T i'
  | .no n => E = stopAt n
theorem more_of_ne {T : List Tok} (hT : TokOk T) {i : Nat} (h : (hd (T.drop i)).1 ≠ []) (hi : i < T.length) : i + 1 < T.length := by
  obtain ⟨P, n, rfl⟩ := hT.fin
  rw [hd_drop hi] at h
  rcases Nat.lt_or_ge (i + 1) (P ++ [(([] : List UInt8), n)]).length with h1 | h1
  · exact h1
  · exfalso
    have hil : i = P.length := by simp at hi h1; omega
    subst hil
    simp at h
/-- The reader goes one token on. -/
theorem RAt.next {w w2 : World} {g tb c i : Nat} {T : List Tok} (h : RAt w g tb c T i) (hg : w.grownBy w2 none) (hlt : i + 1 < T.length) : w.grownBy (w2.setCell ⟨g, 1, none⟩ (.int .i64 ((i : Int) + 1))) (some g) ∧ RAt (w2.setCell ⟨g, 1, none⟩ (.int .i64 ((i : Int) + 1))) g tb c T (i + 1) := by
  have hg' := (hg.but (some g)).trans (grown_set w2 g 1 (.int .i64 ((i : Int) + 1)))
  exact ⟨hg', h.move hg' (by simpa using (h.blk.grown hg (by simp)).set_ 1 (.int .i64 ((i : Int) + 1))) hlt⟩
theorem RAt.facts2 {w w2 : World} {g tb c i : Nat} {T : List Tok} (h : RAt w g tb c T i) (hg : w.grownBy w2 none) : w2.cell? ⟨g, 1, none⟩ = some (.int .i64 (i : Int)) ∧ w2.frozen? ⟨g, 1, none⟩ = false :=
  ⟨(h.blk.grown hg (by simp)).cell 1, (h.blk.grown hg (by simp)).frozen 1⟩
theorem grown_of_below {w w' : World} (h : Below w.heap.size w w') (row : Option Nat) : w.grownBy w' row := ⟨h.os, h.tape, h.output, h.size, fun k hk _ => h.block k hk⟩
theorem name_any (w : World) (g tb c i : Nat) (T : List Tok) (h : RAt w g tb c T i) (hT : TokOk T) :
    Calls Tryd.prog 71 #[.pointer (some ⟨g, 0, none⟩)] w (RPost (fun a v _ => v = .string a) w g tb c T (nameR (T.drop i))) := by
  obtain ⟨t, hd', ht, h0, h1, hf1, h2, hil, hl⟩ := h.facts hT
  have hne := h.ne
  obtain ⟨s, hs⟩ : ∃ s : ByteArray, (⟨t.1.toArray⟩ : ByteArray) = s := ⟨_, rfl⟩
  unfold nameR
  rw [hd', hs]
  rw [hs] at h2
  by_cases hk : named s
  · rw [if_pos hk]
    have hdk : decide (named s) = true := decide_eq_true hk
    have hmo := more_of_ne hT (i := i) (by rw [hd']; intro e; rw [e] at hs; subst hs; exact absurd hk.1 (by decide)) h.hi
    have H := Lib.hid (And.intro h (And.intro hT (And.intro hmo hdk))); clear h hT hmo hk hdk hd'
    go_enter Tryd.func71, Tryd.ntmps71
    go_wp2_with fail
    go_quiet (fail)
    go_wp2_with (go_at_call 78; (
      refine (isName_any _ s).mono ?_
      rintro E w2 ⟨rfl, hb2⟩
      rw [H.out.2.2.2]
      have hg2 := (grown_drewN w nq none).trans (grown_of_below hb2 none)
      obtain ⟨k1, k2⟩ := H.out.1.facts2 hg2
      have H2 := Lib.hid hg2; clear hg2 hb2))
    go_ret
    obtain ⟨h3, h4⟩ := H.out.1.next H2.out H.out.2.2.1
    exact ⟨h3, _, i + 1, rfl, rfl, tail_drop.symm, h4⟩
  · rw [if_neg hk]
    have hdk : decide (named s) = false := decide_eq_false hk
    have H := Lib.hid (And.intro h (And.intro hT (And.intro hdk hd'))); clear h hT hk hdk hd'
    go_enter Tryd.func71, Tryd.ntmps71
    go_wp2_with fail
    go_quiet (fail)
    go_wp2_with (first
      | (go_at_call 78; (
        refine (isName_any _ s).mono ?_
        rintro E w2 ⟨rfl, hb2⟩
        rw [H.out.2.2.1]
        have hg2 := (grown_drewN w nq none).trans (grown_of_below hb2 none)
        have hf := fail_any w2 g tb c i T (H.out.1.kept hg2) H.out.2.1
        have H2 := Lib.hid (And.intro hg2 hf); clear hg2 hb2 hf))
      | (go_at_call 27; (
        refine H2.out.2.mono ?_
        rintro E w3 ⟨rfl, hg3⟩
        have H3 := Lib.hid hg3; clear hg3)))
    refine ⟨rfl, (H2.out.1.but _).trans (H3.out.but _), ?_⟩
    rw [H.out.2.2.2]
/-- Ten digits at most are a number. -/
theorem parse_digits {l : List UInt8} (h0 : l ≠ []) (hd : ∀ c ∈ l, dig c = true) (hl : l.length ≤ 10) : ∃ v, Lib.parseIntB 64 l = .ok v := by
  have hM : ∀ (l : List UInt8), (∀ c ∈ l, dig c = true) → ∀ acc : Nat, (acc + 1) * 10 ^ l.length ≤ 10 ^ 11 → ∃ u, Lib.parseUintM (2 ^ 64 - 1) acc l = .ok u ∧ u + 1 ≤ (acc + 1) * 10 ^ l.length := by
    intro l
    induction l with
    | nil => intro _ acc _; exact ⟨acc, rfl, by simp⟩
    | cons c l ih =>
      intro hd acc ha
      have hc : 48 ≤ c.toNat ∧ c.toNat ≤ 57 := by have := hd c (by simp); simpa [dig, UInt8.le_iff_toNat_le] using this
      have hp : 1 ≤ 10 ^ l.length := Nat.one_le_pow _ _ (by omega)
      rw [List.length_cons, Nat.pow_succ] at ha
      have h1 : (acc + 1) * 10 ≤ 10 ^ 11 := by
        calc (acc + 1) * 10 = (acc + 1) * (1 * 10) := by omega
          _ ≤ (acc + 1) * (10 ^ l.length * 10) := Nat.mul_le_mul_left _ (Nat.mul_le_mul_right _ hp)
          _ ≤ _ := ha
      have hle : acc * 10 + (c.toNat - 48) + 1 ≤ (acc + 1) * 10 := by omega
      have h2 : (acc * 10 + (c.toNat - 48) + 1) * 10 ^ l.length ≤ (acc + 1) * (10 ^ l.length * 10) := by
        calc _ ≤ ((acc + 1) * 10) * 10 ^ l.length := Nat.mul_le_mul_right _ hle
          _ = _ := by rw [Nat.mul_assoc, Nat.mul_comm 10]
      obtain ⟨u, hu, hu2⟩ := ih (fun x hx => hd x (by simp [hx])) (acc * 10 + (c.toNat - 48)) (Nat.le_trans h2 ha)
      refine ⟨u, ?_, Nat.le_trans hu2 (by rw [List.length_cons, Nat.pow_succ]; exact h2)⟩
      rw [Lib.parseUintM, if_pos hc, if_neg (by omega), if_neg (by omega), hu]
  cases l with
  | nil => exact absurd rfl h0
  | cons c l =>
    have hc : 48 ≤ c.toNat ∧ c.toNat ≤ 57 := by have := hd c (by simp); simpa [dig, UInt8.le_iff_toNat_le] using this
    obtain ⟨u, hu, hu2⟩ := hM (c :: l) hd 0 (by
      have : 10 ^ (c :: l).length ≤ 10 ^ 10 := Nat.pow_le_pow_right (by omega) hl
      omega)
    have hu3 : 10 ^ (c :: l).length ≤ 10 ^ 10 := Nat.pow_le_pow_right (by omega) hl
    refine ⟨(u : Int), ?_⟩
    simp only [Lib.parseIntB]
    rw [if_neg (by omega), Lib.parseUintB, if_neg (by simp), hu]
    simp only
    rw [if_neg (by omega), if_neg (by omega), if_neg (by omega)]
theorem okTok_digits {c : UInt8} {l : List UInt8} (h : okTok (c :: l)) (hc : dig c = true) : ∀ x ∈ c :: l, dig x = true := by
  have hc' : 48 ≤ c.toNat ∧ c.toNat ≤ 57 := by simpa [dig, UInt8.le_iff_toNat_le] using hc
  rcases h with h | h | h | ⟨d, h, h1, h2⟩ | h
  · cases h
  · have := h c (by simp)
    simp [small, UInt8.le_iff_toNat_le] at this
    omega
  · exact h
  · cases h; rw [h2] at hc; cases hc
  · cases h; cases hc
end Go.Proofs.YtgiceeholamphaaDoor
