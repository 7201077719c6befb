/- A number's text is read as the number; the tokens of what is written: plain. No conditions. -/
import Derived.Test.YtgiceeholamphaaDoorTextN
import Derived.Test.YtgiceeholamphaaDoorPar
import Derived.Test.YtgiceeholamphaaDoorBare
namespace Go.Proofs.YtgiceeholamphaaDoor
open Go.ChangeShapes Go.WideShapes Go.ChangeAt Go.RowKit Go.Maps

/-! ### Numbers -/
theorem dig_of {x : Nat} (h : x < 10) : dig (UInt8.ofNat (48 + x)) = true ∧ (UInt8.ofNat (48 + x)).toNat = 48 + x := by
  have e : (UInt8.ofNat (48 + x)).toNat = 48 + x := by rw [UInt8.toNat_ofNat']; omega
  refine ⟨?_, e⟩
  simp only [dig, Bool.and_eq_true, decide_eq_true_eq, UInt8.le_iff_toNat_le, e]
  exact ⟨by show 48 ≤ 48 + x; omega, by show 48 + x ≤ 57; omega⟩
theorem decD_dig (u : Nat) : ∀ c ∈ Lib.decDigits u, dig c = true := by
  induction u using Nat.strongRecOn with
  | ind u ih =>
    rw [Lib.decDigits]
    split
    · intro c hc
      rw [List.mem_singleton.1 hc]
      exact (dig_of (by omega)).1
    · intro c hc
      rcases List.mem_append.1 hc with h | h
      · exact ih _ (by omega) c h
      · rw [List.mem_singleton.1 h]
        exact (dig_of (by omega)).1
theorem decD_ne (u : Nat) : Lib.decDigits u ≠ [] := by
  rw [Lib.decDigits]
  split <;> simp
theorem decD_head (u : Nat) (h : 1 ≤ u) : (Lib.decDigits u).head? ≠ some 48 := by
  induction u using Nat.strongRecOn with
  | ind u ih =>
    rw [Lib.decDigits]
    split
    · intro hc
      have := (dig_of (x := u) (by omega)).2
      simp only [List.head?_cons, Option.some.injEq] at hc
      rw [hc] at this
      have : (48 : UInt8).toNat = 48 := rfl
      omega
    · have hn := ih (u / 10) (by omega) (by omega)
      cases hl : Lib.decDigits (u / 10) with
      | nil => exact absurd hl (decD_ne _)
      | cons c l => rw [hl] at hn; exact hn
theorem decD_len (k : Nat) : ∀ u, u < 10 ^ (k + 1) → (Lib.decDigits u).length ≤ k + 1 := by
  induction k with
  | zero => intro u hu; rw [Lib.decDigits, dif_pos (by omega)]; simp
  | succ k ih =>
    intro u hu
    rw [Lib.decDigits]
    split
    · simp
    · have := ih (u / 10) (by rw [Nat.pow_succ] at hu; omega)
      rw [List.length_append, List.length_singleton]; omega
theorem parseM_snoc (M : Nat) (c : UInt8) : ∀ (l : List UInt8) (acc u : Nat), Lib.parseUintM M acc l = .ok u → Lib.parseUintM M acc (l ++ [c]) = Lib.parseUintM M u [c]
  | [], acc, u, h => by cases h; rfl
  | d :: l, acc, u, h => by
    rw [Lib.parseUintM] at h
    rw [List.cons_append, Lib.parseUintM]
    split at h
    · rename_i h1; rw [if_pos h1]
      split at h
      · cases h
      · rename_i h2; rw [if_neg h2]
        split at h
        · cases h
        · rename_i h3; rw [if_neg h3]
          exact parseM_snoc M c l _ u h
    · cases h
theorem parseM_one (acc x : Nat) (hx : x < 10) (ha : acc ≤ 1000000000000) : Lib.parseUintM (2 ^ 64 - 1) acc [UInt8.ofNat (48 + x)] = .ok (acc * 10 + x) := by
  have e := (dig_of hx).2
  rw [Lib.parseUintM, if_pos (by omega), if_neg (by omega), if_neg (by omega), Lib.parseUintM, e]
  congr 1; omega
theorem parseM_dec (u : Nat) (h : u ≤ 1000000000000) : Lib.parseUintM (2 ^ 64 - 1) 0 (Lib.decDigits u) = .ok u := by
  induction u using Nat.strongRecOn with
  | ind u ih =>
    rw [Lib.decDigits]
    split
    · rw [parseM_one 0 u (by omega) (by omega)]; congr 1; omega
    · rw [parseM_snoc _ _ _ _ _ (ih (u / 10) (by omega) (by omega)), parseM_one _ _ (by omega) (by omega)]
      congr 1; omega
theorem parse_itoa {n : Int} (h0 : 0 ≤ n) (h1 : n ≤ 1000000000) : Lib.parseIntB 64 (Lib.itoa n) = .ok n := by
  have hi : Lib.itoa n = Lib.decDigits n.toNat := by unfold Lib.itoa; rw [if_neg (by omega)]
  have hd := decD_dig n.toNat
  have hM := parseM_dec n.toNat (by omega)
  rw [hi]
  cases hl : Lib.decDigits n.toNat with
  | nil => exact absurd hl (decD_ne _)
  | cons c l =>
    rw [hl] at hd hM
    have hc : 48 ≤ c.toNat ∧ c.toNat ≤ 57 := by have := hd c (by simp); simpa [dig, UInt8.le_iff_toNat_le] using this
    simp only [Lib.parseIntB]
    rw [if_neg (by omega), Lib.parseUintB, if_neg (by simp), hM]
    simp only
    rw [if_neg (by omega), if_neg (by omega), if_neg (by omega)]
    congr 1; omega
/-! ### Tokens -/
/-- A token of letters or digits ends here. -/
def Brk (r : List UInt8) : Prop := ∀ c, r.head? = some c → small c = false ∧ dig c = false
theorem Brk.nil : Brk [] := fun c h => by cases h
theorem Brk.cons {c : UInt8} {r : List UInt8} (h : small c = false ∧ dig c = false) : Brk (c :: r) := fun d e => by cases e; exact h
theorem run_all (p : UInt8 → Bool) : ∀ (l r : List UInt8), (∀ c ∈ l, p c = true) → (∀ c, r.head? = some c → p c = false) → runOf p (l ++ r) = l.length
  | [], [], _, _ => rfl
  | [], d :: r, _, hr => by rw [List.nil_append, runOf, if_neg (by rw [hr d rfl]; simp)]; rfl
  | c :: l, r, hl, hr => by
    rw [List.cons_append, runOf, if_pos (hl c (by simp)), run_all p l r (fun d hd => hl d (by simp [hd])) hr]; rfl
theorem small_not {c : UInt8} (h : small c = true) : dig c = false ∧ blank c = false := by
  have k : 97 ≤ c.toNat ∧ c.toNat ≤ 122 := by simpa [small, UInt8.le_iff_toNat_le] using h
  constructor
  · cases hd : dig c with
    | false => rfl
    | true =>
      have : 48 ≤ c.toNat ∧ c.toNat ≤ 57 := by simpa [dig, UInt8.le_iff_toNat_le] using hd
      omega
  · cases hb : blank c with
    | false => rfl
    | true =>
      have : c = 32 ∨ c = 10 := by simpa [blank] using hb
      rcases this with rfl | rfl <;> (have : (32 : UInt8).toNat = 32 := rfl; have : (10 : UInt8).toNat = 10 := rfl; omega)
theorem dig_not {c : UInt8} (h : dig c = true) : small c = false ∧ blank c = false := by
  constructor
  · cases hs : small c with
    | false => rfl
    | true => rw [(small_not hs).1] at h; cases h
  · cases hb : blank c with
    | false => rfl
    | true =>
      have k : 48 ≤ c.toNat ∧ c.toNat ≤ 57 := by simpa [dig, UInt8.le_iff_toNat_le] using h
      have : c = 32 ∨ c = 10 := by simpa [blank] using hb
      rcases this with rfl | rfl <;> (have : (32 : UInt8).toNat = 32 := rfl; have : (10 : UInt8).toNat = 10 := rfl; omega)
theorem tok_word {s r : List UInt8} (h0 : s ≠ []) (hs : ∀ c ∈ s, small c = true) (hr : Brk r) (i : Nat) : toksAt (s ++ r) i = (s, i) :: toksAt r (i + s.length) := by
  cases s with
  | nil => exact absurd rfl h0
  | cons c l =>
    have hc := hs c (by simp)
    have hl := run_all small l r (fun d hd => hs d (by simp [hd])) fun d hd => (hr d hd).1
    rw [List.cons_append, toksAt_tok (small_not hc).2]
    have : tokLen c (l ++ r) = l.length + 1 := by unfold tokLen; rw [if_pos hc, hl]; omega
    rw [this]; simp
theorem tok_num {s r : List UInt8} (h0 : s ≠ []) (hs : ∀ c ∈ s, dig c = true) (hr : Brk r) (i : Nat) : toksAt (s ++ r) i = (s, i) :: toksAt r (i + s.length) := by
  cases s with
  | nil => exact absurd rfl h0
  | cons c l =>
    have hc := hs c (by simp)
    have hl := run_all dig l r (fun d hd => hs d (by simp [hd])) fun d hd => (hr d hd).2
    rw [List.cons_append, toksAt_tok (dig_not hc).2]
    have : tokLen c (l ++ r) = l.length + 1 := by unfold tokLen; rw [if_neg (by rw [(dig_not hc).1]; simp), if_pos hc, hl]; omega
    rw [this]; simp
theorem tok_one {c : UInt8} {r : List UInt8} (h : blank c = false ∧ small c = false ∧ dig c = false) (hp : c ≠ 43 ∨ r.head? ≠ some 61) (i : Nat) : toksAt (c :: r) i = ([c], i) :: toksAt r (i + 1) := by
  rw [toksAt_tok h.1]
  have : tokLen c r = 1 := by
    unfold tokLen
    rw [if_neg (by rw [h.2.1]; simp), if_neg (by rw [h.2.2]; simp), if_neg]
    intro k
    simp only [Bool.and_eq_true, beq_iff_eq] at k
    rcases hp with hp | hp
    · exact hp k.1
    · exact hp k.2
  rw [this]; simp
theorem tok_add {r : List UInt8} (i : Nat) : toksAt (43 :: 61 :: r) i = ([43, 61], i) :: toksAt r (i + 2) := by
  rw [toksAt_tok (by decide)]
  have : tokLen 43 (61 :: r) = 2 := by unfold tokLen; rw [if_neg (by decide), if_neg (by decide), if_pos (by simp)]
  rw [this]; simp
theorem tok_sp {r : List UInt8} (i : Nat) : toksAt (32 :: r) i = toksAt r (i + 1) := toksAt_blank (by decide) r i
end Go.Proofs.YtgiceeholamphaaDoor

/- An expression's text is read as the expression: plain. No conditions. -/
namespace Go.Proofs.YtgiceeholamphaaDoor
open Go.ChangeShapes Go.WideShapes Go.ChangeAt Go.RowKit Go.Maps

theorem gram_mono {f g : Nat} (h : f ≤ g) : (gram f).Le (gram g) := by
  obtain ⟨d, rfl⟩ := Nat.exists_eq_add_of_le h
  exact gram_add f d
/-- From a tightness on (2: nothing more): what e and what follows are read as. -/
def Loops (t : Nat) (e : ExprR) (ts : List Tok) (R : PR ExprR) : Prop := if t = 2 then R = .ok e ts else ∃ f, (gram f).loop t e ts = some R
def Parses (t : Nat) (ts : List Tok) (R : PR ExprR) : Prop := ∃ f, (gram f).expr t ts = some R
/-- No operator of a tightness above t is next. -/
def NoOp (t : Nat) (r : List UInt8) : Prop := ∀ t' i, t < t' → t' ≤ 1 → opK t' (toksAt r i) = none
theorem parses_down {t : Nat} {ts ts' : List Tok} {e : ExprR} {R : PR ExprR} (ht : t ≤ 1) (h : Parses (t + 1) ts (.ok e ts')) (hl : Loops t e ts' R) : Parses t ts R := by
  obtain ⟨f, hf⟩ := h
  rw [Loops, if_neg (by omega)] at hl
  obtain ⟨g, hg⟩ := hl
  refine ⟨f + g + 1, ?_⟩
  rw [gram_succ]
  simp only
  rw [if_neg (by omega), (gram_mono (Nat.le_add_right f g)).expr _ _ _ hf]
  exact (gram_mono (Nat.le_add_left g f)).loop _ _ _ _ hg
theorem loops_end {t : Nat} {ts : List Tok} {e : ExprR} (ht : t ≤ 2) (h : t ≤ 1 → opK t ts = none) : Loops t e ts (.ok e ts) := by
  unfold Loops
  split
  · rfl
  · refine ⟨1, ?_⟩
    rw [gram_succ]
    simp only
    rw [h (by omega)]
theorem parses_leaf {t : Nat} {ts : List Tok} {e : ExprR} {r : List UInt8} {j : Nat} {R : PR ExprR} (ht : t ≤ 2) (h : Parses 2 ts (.ok e (toksAt r j))) (hn : NoOp t r) (hl : Loops t e (toksAt r j) R) : Parses t ts R := by
  have hm : t = 0 ∨ t = 1 ∨ t = 2 := by omega
  rcases hm with rfl | rfl | rfl
  · exact parses_down (by omega) (parses_down (by omega) h (loops_end (by omega) fun _ => hn 1 j (by omega) (by omega))) hl
  · exact parses_down (by omega) h hl
  · rw [Loops, if_pos rfl] at hl
    rw [hl]; exact h
theorem op_tok {k : Int} (h3 : 3 ≤ k) (h5 : k ≤ 5) : ∃ c, opT k = [32, c, 32] ∧ (blank c = false ∧ small c = false ∧ dig c = false) ∧ (∀ i ts, opK (if k = 5 then 1 else 0) (([c], i) :: ts) = some k) ∧ (k ≠ 5 → ∀ i ts, opK 1 (([c], i) :: ts) = none) := by
  have hm : k = 3 ∨ k = 4 ∨ k = 5 := by omega
  rcases hm with rfl | rfl | rfl
  · exact ⟨43, rfl, by decide, fun _ _ => rfl, fun _ _ _ => rfl⟩
  · exact ⟨45, rfl, by decide, fun _ _ => rfl, fun _ _ _ => rfl⟩
  · exact ⟨42, rfl, by decide, fun _ _ => rfl, fun h => absurd rfl h⟩
/-- What the text of e is read as, whatever follows. -/
def RdsE (e : ExprR) : Prop := ∀ t, t ≤ 2 → ∀ r, Brk r → NoOp t r → ∀ i, ∃ j, ∀ R, Loops t e.plain (toksAt r j) R → Parses t (toksAt (e.txt t ++ r) i) R
theorem num_reads {e : ExprR} (h1 : e.kind = 1) (h0 : 0 ≤ e.n) (hb : e.n ≤ 1000000000) (hn : e.name.size = 0) (hk : e.kids.length = 0) : RdsE e := by
  intro t ht r hr hno i
  have hp := parse_itoa h0 hb
  have hi : Lib.itoa e.n = Lib.decDigits e.n.toNat := by unfold Lib.itoa; rw [if_neg (by omega)]
  have hd := decD_dig e.n.toNat
  have hne := decD_ne e.n.toNat
  have hlen := decD_len 9 e.n.toNat (by omega)
  have hhd := decD_head e.n.toNat
  have hone : e.n.toNat = 0 → (Lib.decDigits e.n.toNat).length = 1 := fun z => by rw [z, Lib.decDigits, dif_pos (by omega)]; rfl
  rw [e.txt_num h1]
  rw [hi] at hp ⊢
  have hpl : e.plain = mkNum e.n := by
    cases e with | mk k n s A c l =>
    simp only [ExprR.kind, ExprR.name, ExprR.kids, List.length_eq_zero_iff] at h1 hn hk
    subst h1; subst hk
    have : s = ⟨#[]⟩ := by apply ByteArray.ext; apply Array.eq_empty_of_size_eq_zero; exact hn
    subst this
    rfl
  rw [hpl]
  generalize Lib.decDigits e.n.toNat = s at *
  rw [tok_num hne hd hr]
  refine ⟨i + s.length, fun R hl => parses_leaf ht ⟨1, ?_⟩ hno hl⟩
  rw [gram_succ]
  simp only [if_pos]
  have e1 : isTok [40] ((s, i) :: toksAt r (i + s.length)) = false := by
    cases hh : isTok [40] ((s, i) :: toksAt r (i + s.length)) with
    | false => rfl
    | true =>
      have e : s = [40] := isTok_hd hh
      subst e
      have := hd 40 (by simp)
      cases this
  have e2 : digitFirst ((s, i) :: toksAt r (i + s.length)) = true := by
    cases s with
    | nil => exact absurd rfl hne
    | cons c l => exact hd c (by simp)
  rw [if_neg (by rw [e1]; simp), if_pos e2]
  unfold numR
  have e3 : plainNum s = true := by
    unfold plainNum
    rw [decide_eq_true hlen, Bool.true_and]
    by_cases hz : e.n.toNat = 0
    · rw [hone hz]; rfl
    · have : (s.head? == some 48) = false := by simpa using hhd (by omega)
      rw [this]; simp
  simp only [Proofs.YtgiceeholamphaaDoor.hd, List.headD_cons, hp, e2, e3, decide_eq_true hb, Bool.and_self, if_true]
  rfl
theorem name_bytes {s : ByteArray} (h : named s) : s.data.toList ≠ [] ∧ (∀ c ∈ s.data.toList, small c = true) ∧ (⟨s.data.toList.toArray⟩ : ByteArray) = s := by
  obtain ⟨h1, _, _, h4⟩ := h
  refine ⟨?_, ?_, by simp⟩
  · intro e
    have : s.data.toList.length = s.size := by simp
    rw [e] at this
    simp at this; omega
  · intro c hc
    obtain ⟨k, hk, rfl⟩ := List.mem_iff_getElem.1 hc
    have hk' : k < s.size := by simpa using hk
    have := h4 k hk'
    have e : s.data.toList[k] = s[k] := rfl
    rw [e]
    simp only [small, Bool.and_eq_true, decide_eq_true_eq, UInt8.le_iff_toNat_le]
    exact this
theorem nameR_ok {s : ByteArray} (h : named s) (i : Nat) (ts : List Tok) : nameR ((s.data.toList, i) :: ts) = .ok s ts := by
  have e := (name_bytes h).2.2
  have e2 : (⟨(hd ((s.data.toList, i) :: ts)).1.toArray⟩ : ByteArray) = s := e
  unfold nameR
  rw [if_pos (by rw [e2]; exact h), e2]
  rfl
theorem word_not {s t : List UInt8} (hs : ∀ c ∈ s, small c = true) {c : UInt8} (hc : c ∈ t) (h : small c = false) (i : Nat) (ts : List Tok) : isTok t ((s, i) :: ts) = false := by
  cases hh : isTok t ((s, i) :: ts) with
  | false => rfl
  | true =>
    have e : s = t := isTok_hd hh
    subst e
    rw [hs c hc] at h; cases h
theorem name_reads {e : ExprR} (h2 : e.kind = 2) (h0 : e.n = 0) (hn : named e.name) (hk : e.kids.length = 0) : RdsE e := by
  intro t ht r hr hno i
  obtain ⟨b1, b2, b3⟩ := name_bytes hn
  rw [e.txt_name h2, tok_word b1 b2 hr]
  have hpl : e.plain = mkName e.name := by
    cases e with | mk k n s A c l =>
    simp only [ExprR.kind, ExprR.n, ExprR.kids, List.length_eq_zero_iff] at h2 h0 hk
    subst h2; subst hk; subst h0
    rfl
  rw [hpl]
  refine ⟨i + e.name.data.toList.length, fun R hl => parses_leaf ht ⟨1, ?_⟩ hno hl⟩
  rw [gram_succ]
  simp only [if_pos]
  have e2 : digitFirst ((e.name.data.toList, i) :: toksAt r (i + e.name.data.toList.length)) = false := by
    generalize e.name.data.toList = s at *
    cases s with
    | nil => exact absurd rfl b1
    | cons c l => exact (small_not (b2 c (by simp))).1
  rw [if_neg (by rw [word_not b2 (c := 40) (by simp) (by decide)]; simp), if_neg (by rw [e2]; simp), nameR_ok hn]
  rfl
theorem opK_of {t : List UInt8} (h1 : t ≠ [43]) (h2 : t ≠ [45]) (h3 : t ≠ [42]) (k i : Nat) (ts : List Tok) : opK k ((t, i) :: ts) = none := by
  have z : ∀ s : List UInt8, t ≠ s → isTok s ((t, i) :: ts) = false := fun s h => by
    cases hh : isTok s ((t, i) :: ts) with
    | false => rfl
    | true => exact absurd (isTok_hd hh) h
  unfold opK
  rw [z _ h1, z _ h2, z _ h3]
  simp
theorem bare_reads {e a b : ExprR} (h3 : 3 ≤ e.kind) (h5 : e.kind ≤ 5) (hn : e.n = 0) (hz : e.name.size = 0) (hk : e.kids = [a, b]) (ha : RdsE a) (hb : RdsE b) (t : Nat) (ht : t ≤ if e.kind = 5 then 1 else 0) (r : List UInt8) (hr : Brk r) (hno : NoOp t r) (i : Nat) :
    ∃ j, ∀ R, Loops t e.plain (toksAt r j) R → Parses t (toksAt (e.bare a b ++ r) i) R := by
  obtain ⟨c, ho, hc, hop, hop1⟩ := op_tok h3 h5
  have hpl : e.plain = mkOp e.kind a.plain b.plain := by
    cases e with | mk k n s A c l =>
    simp only [ExprR.n, ExprR.name, ExprR.kids] at hn hz hk
    subst hk; subst hn
    have : s = ⟨#[]⟩ := by apply ByteArray.ext; apply Array.eq_empty_of_size_eq_zero; exact hz
    subst this
    rfl
  have hlv : ∃ lv, (if e.kind = 5 then 1 else 0) = lv ∧ (if e.kind = 5 then 2 else 1) = lv + 1 ∧ lv ≤ 1 ∧ (lv = 0 → e.kind ≠ 5) := by
    by_cases h : e.kind = 5
    · exact ⟨1, by rw [if_pos h], by rw [if_pos h], by omega, by omega⟩
    · exact ⟨0, by rw [if_neg h], by rw [if_neg h], by omega, fun _ => h⟩
  obtain ⟨lv, l1, l2, l3, l4⟩ := hlv
  rw [l1] at ht hop
  have hbare : ∀ r, e.bare a b ++ r = a.txt lv ++ (32 :: c :: 32 :: (b.txt (lv + 1) ++ r)) := fun r => by
    simp only [ExprR.bare, l1, l2, ho, List.append_assoc, List.cons_append, List.nil_append]
  rw [hbare]
  have htk : ∀ j, toksAt (32 :: c :: 32 :: (b.txt (lv + 1) ++ r)) j = ([c], j + 1) :: toksAt (b.txt (lv + 1) ++ r) (j + 3) := fun j => by
    rw [tok_sp, tok_one hc (.inr (by simp)), tok_sp]
  -- at its own tightness
  have own : NoOp lv r → ∃ j, ∀ R, Loops lv e.plain (toksAt r j) R → Parses lv (toksAt (a.txt lv ++ (32 :: c :: 32 :: (b.txt (lv + 1) ++ r))) i) R := fun hno => by
    obtain ⟨j1, k1⟩ := ha lv (by omega) (32 :: c :: 32 :: (b.txt (lv + 1) ++ r)) (.cons (by decide)) (fun t' j h1 h2 => by
      rw [htk]
      obtain rfl : t' = 1 := by omega
      exact hop1 (l4 (by omega)) _ _) i
    obtain ⟨j2, k2⟩ := hb (lv + 1) (by omega) r hr (fun t' j h1 h2 => by omega) (j1 + 3)
    refine ⟨j2, fun R hR => k1 R ?_⟩
    obtain ⟨f, hf⟩ := k2 (.ok b.plain (toksAt r j2)) (loops_end (by omega) fun h => hno _ _ (by omega) h)
    rw [Loops, if_neg (by omega)] at hR ⊢
    obtain ⟨g, hg⟩ := hR
    refine ⟨f + g + 1, ?_⟩
    rw [gram_succ, htk]
    simp only
    rw [hop]
    simp only [List.tail_cons]
    rw [(gram_mono (Nat.le_add_right f g)).expr _ _ _ hf]
    simp only [thenR]
    rw [← hpl]
    exact (gram_mono (Nat.le_add_left g f)).loop _ _ _ _ hg
  by_cases he : t = lv
  · subst he
    exact own hno
  · obtain rfl : t = 0 := by omega
    obtain rfl : lv = 1 := by omega
    obtain ⟨j, hj⟩ := own fun t' k h1 h2 => by omega
    exact ⟨j, fun R hR => parses_down (by omega) (hj _ (loops_end (by omega) fun _ => hno 1 j (by omega) (by omega))) hR⟩
/-- WHAT IS WRITTEN OF AN EXPRESSION IS READ AS THE EXPRESSION. -/
theorem expr_reads : ∀ e : ExprR, AllE e → RdsE e := by
  refine ExprR.ind fun e ih h => ?_
  rcases h.ok with ⟨h1, h2, h3, h4, h5⟩ | ⟨h1, h2, h3, h4⟩ | ⟨h1, h2, h3, h4, h5⟩
  · exact num_reads h1 h2 h3 h4 h5
  · exact name_reads h1 h2 h3 h4
  · obtain ⟨a, b, hk⟩ := kids2 h5
    have ha := ih a (by rw [hk]; simp) (h.kid (by rw [hk]; simp))
    have hb := ih b (by rw [hk]; simp) (h.kid (by rw [hk]; simp))
    intro t ht r hr hno i
    rw [e.txt_op h1 hk]
    by_cases hl : (if e.kind = 5 then 1 else 0) < t
    · rw [if_pos hl]
      have hx : ∀ j, toksAt (41 :: r) j = ([41], j) :: toksAt r (j + 1) := fun j => tok_one (by decide) (.inl (by decide)) j
      have hq : ∀ k j, opK k (toksAt (41 :: r) j) = none := fun k j => by rw [hx]; exact opK_of (by decide) (by decide) (by decide) k j _
      obtain ⟨j, hj⟩ := bare_reads h1 h2 h3 h4 hk ha hb 0 (Nat.zero_le _) (41 :: r) (.cons (by decide)) (fun k j _ _ => hq k j) (i + 1)
      obtain ⟨f, hf⟩ := hj (.ok e.plain (toksAt (41 :: r) j)) (loops_end (by omega) fun _ => hq 0 j)
      refine ⟨j + 1, fun R hR => parses_leaf ht ⟨f + 1, ?_⟩ hno hR⟩
      have e0 : (40 :: (e.bare a b ++ [41]) ++ r : List UInt8) = 40 :: (e.bare a b ++ 41 :: r) := by simp
      rw [e0, tok_one (by decide) (.inl (by decide)), gram_succ]
      simp only [if_pos]
      rw [if_pos (by rfl), List.tail_cons, hf]
      simp only [thenR, needT]
      rw [hx, if_pos (by rfl)]
      rfl
    · rw [if_neg hl]
      exact bare_reads h1 h2 h3 h4 hk ha hb t (by omega) r hr hno i
end Go.Proofs.YtgiceeholamphaaDoor

/- What is written of a program is read as the program: plain. No conditions. -/
namespace Go.Proofs.YtgiceeholamphaaDoor
open Go.ChangeShapes Go.WideShapes Go.ChangeAt Go.RowKit Go.Maps

def PStat (ts : List Tok) (R : PR StatR) : Prop := ∃ f, (gram f).stat ts = some R
def PBr (ts : List Tok) (R : PR (List StatR)) : Prop := ∃ f, (gram f).braced ts = some R
def PList (acc : List StatR) (ts : List Tok) (R : PR (List StatR)) : Prop := ∃ f, (gram f).list acc ts = some R
def PPar (acc : List BlockR) (ts : List Tok) (R : PR (List BlockR)) : Prop := ∃ f, (gram f).par acc ts = some R
/-- A statement ends here. -/
def Ends (r : List UInt8) : Prop := Brk r ∧ ∀ i, (hd (toksAt r i)).1 = [] ∨ (hd (toksAt r i)).1 = [59] ∨ (hd (toksAt r i)).1 = [125]
/-- A list ends here. -/
def EndsL (r : List UInt8) : Prop := Brk r ∧ ∀ i, (hd (toksAt r i)).1 = [] ∨ (hd (toksAt r i)).1 = [125]
theorem EndsL.ends {r : List UInt8} (h : EndsL r) : Ends r := ⟨h.1, fun i => (h.2 i).elim .inl fun k => .inr (.inr k)⟩
theorem isTok_ne {s : List UInt8} {ts : List Tok} (h : (hd ts).1 ≠ s) : isTok s ts = false := by simpa [isTok] using h
theorem isTok_eq {s : List UInt8} {ts : List Tok} (h : (hd ts).1 = s) : isTok s ts = true := by simpa [isTok] using h
theorem opK_hd {ts : List Tok} (h1 : (hd ts).1 ≠ [43]) (h2 : (hd ts).1 ≠ [45]) (h3 : (hd ts).1 ≠ [42]) (k : Nat) : opK k ts = none := by
  unfold opK
  rw [isTok_ne h1, isTok_ne h2, isTok_ne h3]
  simp
theorem Ends.op {r : List UInt8} (h : Ends r) (k i : Nat) : opK k (toksAt r i) = none := by
  rcases h.2 i with e | e | e <;> (refine opK_hd ?_ ?_ ?_ k <;> rw [e] <;> decide)
/-- What an expression's text is read as where no operator follows. -/
theorem expr_here {e : ExprR} (h : AllE e) {r : List UInt8} (hr : Brk r) (ho : ∀ k i, opK k (toksAt r i) = none) (i : Nat) : ∃ j, Parses 0 (toksAt (e.txt 0 ++ r) i) (.ok e.plain (toksAt r j)) := by
  obtain ⟨j, hj⟩ := expr_reads e h 0 (Nat.zero_le _) r hr (fun k i _ _ => ho k i) i
  exact ⟨j, hj _ (loops_end (by omega) fun _ => ho 0 j)⟩
/-- What a statement's text is read as. -/
def RdsS (x : StatR) : Prop := ∀ r, Ends r → ∀ i, ∃ j, PStat (toksAt (x.txt ++ r) i) (.ok x.plain (toksAt r j))
theorem stat_first {ts ts' : List Tok} {x : StatR} (h : PStat ts (.ok x ts')) : isTok [125] ts = false ∧ isTok [] ts = false := by
  obtain ⟨f, hf⟩ := h
  have key : ∀ s : List UInt8, s = [125] ∨ s = [] → isTok s ts = false := fun s hs => by
    cases hh : isTok s ts with
    | false => rfl
    | true =>
      exfalso
      have e := isTok_hd hh
      cases f with
      | zero => cases hf
      | succ f =>
        rw [gram_succ] at hf
        simp only at hf
        have z : ∀ t : List UInt8, t ≠ s → isTok t ts = false := fun t ht => isTok_ne (by rw [e]; exact fun k => ht k.symm)
        rw [z _ (by rintro rfl; simp at hs), z _ (by rintro rfl; simp at hs), z _ (by rintro rfl; simp at hs)] at hf
        have hn : nameR ts = .no (hd ts).2 := by
          unfold nameR
          rw [if_neg]
          rw [e]
          rintro ⟨n1, _, _, n4⟩
          rcases hs with rfl | rfl
          · have := (n4 0 (by decide)).2
            revert this; decide
          · revert n1; decide
        rw [hn] at hf
        simp [thenR] at hf
  exact ⟨key _ (.inl rfl), key _ (.inr rfl)⟩
theorem more_reads (r : List UInt8) (hr : EndsL r) : ∀ (l : List StatR) (x : StatR), RdsS x → (∀ y ∈ l, RdsS y) → ∀ acc i, ∃ j, PList acc (toksAt (x.txt ++ (tailT l ++ r)) i) (.ok (acc ++ plainS (x :: l)) (toksAt r j))
  | [], x, hx, _, acc, i => by
    obtain ⟨j, hj⟩ := hx r hr.ends i
    obtain ⟨s1, s2⟩ := stat_first hj
    obtain ⟨f, hf⟩ := hj
    refine ⟨j, f + 1, ?_⟩
    rw [show tailT [] ++ r = r by simp [tailT], gram_succ]
    simp only
    rw [if_neg (by rw [s1, s2]; simp), hf]
    simp only [thenR]
    rw [if_neg]
    · rfl
    · rw [isTok_ne]; · simp
      rcases hr.2 j with e | e <;> rw [e] <;> decide
  | y :: l, x, hx, hl, acc, i => by
    have e0 : tailT (y :: l) ++ r = 59 :: 32 :: (y.txt ++ (tailT l ++ r)) := by simp [tailT]
    have tk : ∀ j, toksAt (59 :: 32 :: (y.txt ++ (tailT l ++ r))) j = ([59], j) :: toksAt (y.txt ++ (tailT l ++ r)) (j + 2) := fun j => by
      rw [tok_one (by decide) (.inl (by decide)), tok_sp]
    rw [e0]
    obtain ⟨j1, h1⟩ := hx (59 :: 32 :: (y.txt ++ (tailT l ++ r))) ⟨.cons (by decide), fun k => by rw [tk]; exact .inr (.inl rfl)⟩ i
    obtain ⟨j2, g, hg⟩ := more_reads r hr l y (hl y (by simp)) (fun z hz => hl z (by simp [hz])) (acc ++ [x.plain]) (j1 + 2)
    obtain ⟨s1, s2⟩ := stat_first h1
    obtain ⟨f, hf⟩ := h1
    refine ⟨j2, f + g + 1, ?_⟩
    rw [gram_succ]
    simp only
    rw [if_neg (by rw [s1, s2]; simp), (gram_mono (Nat.le_add_right f g)).stat _ _ hf]
    simp only [thenR]
    rw [tk, if_pos (by rfl), List.tail_cons, (gram_mono (Nat.le_add_left g f)).list _ _ _ hg]
    simp [plainS]
theorem list_reads (l : List StatR) (hl : ∀ y ∈ l, RdsS y) (r : List UInt8) (hr : EndsL r) (acc : List StatR) (i : Nat) : ∃ j, PList acc (toksAt (textS l ++ r) i) (.ok (acc ++ plainS l) (toksAt r j)) := by
  cases l with
  | nil =>
    refine ⟨i, 1, ?_⟩
    rw [show textS [] ++ r = r by simp [textS], gram_succ]
    simp only
    rw [if_pos]
    · simp [plainS]
    · rcases hr.2 i with e | e
      · rw [isTok_eq e]; simp
      · rw [isTok_eq e]; simp
  | cons x l =>
    simp only [textS, List.append_assoc]
    exact more_reads r hr l x (hl x (by simp)) (fun y hy => hl y (by simp [hy])) acc i
theorem block_reads (b : BlockR) (hl : ∀ y ∈ b.l, RdsS y) (r : List UInt8) (i : Nat) : ∃ j, PBr (toksAt (b.txt ++ r) i) (.ok (plainS b.l) (toksAt r j)) := by
  have hx : ∀ j, toksAt (125 :: r) j = ([125], j) :: toksAt r (j + 1) := fun j => tok_one (by decide) (.inl (by decide)) j
  have he : ∃ q, (if b.l.length = 0 then [125] else [32, 125]) ++ r = q ∧ EndsL q ∧ ∀ j, ∃ j', toksAt q j = ([125], j') :: toksAt r (j' + 1) := by
    by_cases h : b.l.length = 0
    · refine ⟨125 :: r, by rw [if_pos h]; rfl, ⟨.cons (by decide), fun k => ?_⟩, fun j => ⟨j, hx j⟩⟩
      rw [hx]; exact .inr rfl
    · refine ⟨32 :: 125 :: r, by rw [if_neg h]; rfl, ⟨.cons (by decide), fun k => ?_⟩, fun j => ⟨j + 1, by rw [tok_sp, hx]⟩⟩
      rw [tok_sp, hx]; exact .inr rfl
  obtain ⟨q, hq, hE, ht⟩ := he
  have e0 : b.txt ++ r = 123 :: 32 :: (textS b.l ++ q) := by rw [b.txt_eq, ← hq]; simp
  obtain ⟨j1, f, hf⟩ := list_reads b.l hl q hE [] (i + 2)
  obtain ⟨j2, h2⟩ := ht j1
  refine ⟨j2 + 1, f + 1, ?_⟩
  rw [e0, tok_one (by decide) (.inl (by decide)), tok_sp, gram_succ]
  simp only [needT]
  rw [if_pos (by rfl), List.tail_cons, hf]
  simp only [thenR]
  rw [h2, if_pos (by rfl)]
  simp
theorem par_reads (r : List UInt8) (hr : Ends r) : ∀ (bs : List BlockR), (∀ b ∈ bs, ∀ y ∈ b.l, RdsS y) → ∀ (acc : List BlockR), acc.length + bs.length ≤ 8 → ∀ i, ∃ j, PPar acc (toksAt (moreT (betweenT 5) bs ++ r) i) (.ok (acc ++ plainB bs) (toksAt r j))
  | [], _, acc, _, i => by
    refine ⟨i, 1, ?_⟩
    rw [show moreT (betweenT 5) [] ++ r = r by simp [moreT], gram_succ]
    simp only
    rw [if_neg]
    · simp [plainB]
    · rw [isTok_ne (s := [97, 110, 100])]; · simp
      rcases hr.2 i with e | e | e <;> rw [e] <;> decide
  | b :: bs, hb, acc, hl, i => by
    simp only [List.length_cons] at hl
    have e0 : moreT (betweenT 5) (b :: bs) ++ r = 32 :: ([97, 110, 100] ++ (32 :: (b.txt ++ (moreT (betweenT 5) bs ++ r)))) := by simp [moreT, betweenT]
    rw [e0, tok_sp, tok_word (by decide) (by decide) (.cons (by decide)), tok_sp]
    obtain ⟨j1, f, hf⟩ := block_reads b (hb b (by simp)) (moreT (betweenT 5) bs ++ r) (i + 1 + ([97, 110, 100] : List UInt8).length + 1)
    obtain ⟨j2, g, hg⟩ := par_reads r hr bs (fun c hc => hb c (by simp [hc])) (acc ++ [b.plain]) (by simp; omega) j1
    refine ⟨j2, f + g + 1, ?_⟩
    rw [gram_succ]
    simp only
    rw [if_pos (by rw [decide_eq_true (by omega : acc.length < 8)]; rfl), List.tail_cons, (gram_mono (Nat.le_add_right f g)).braced _ _ hf]
    simp only [thenR]
    have e1 : mkB (plainS b.l) = b.plain := by cases b; rfl
    rw [e1, (gram_mono (Nat.le_add_left g f)).par _ _ _ hg]
    simp [plainB]
theorem empty_of {s : ByteArray} (h : s.size = 0) : s = ⟨#[]⟩ := by apply ByteArray.ext; apply Array.eq_empty_of_size_eq_zero; exact h
theorem named_not {s : ByteArray} (h : named s) (i : Nat) (ts : List Tok) : isTok [105, 102] ((s.data.toList, i) :: ts) = false ∧ isTok [114, 101, 112, 101, 97, 116] ((s.data.toList, i) :: ts) = false ∧ isTok [112, 97, 114] ((s.data.toList, i) :: ts) = false := by
  obtain ⟨_, _, h3, _⟩ := h
  have key : ∀ t : Array UInt8, s ≠ ⟨t⟩ → isTok t.toList ((s.data.toList, i) :: ts) = false := fun t ht => isTok_ne fun e => ht (by
    apply ByteArray.ext
    exact Array.toList_inj.1 e)
  exact ⟨key #[105, 102] fun e => h3 (.inl e), key #[114, 101, 112, 101, 97, 116] fun e => h3 (.inr (.inr (.inl e))), key #[112, 97, 114] fun e => h3 (.inr (.inr (.inr (.inl e))))⟩
theorem noneE.plain {e : ExprR} (h : noneE e) : e.plain = noE := by
  obtain ⟨h1, h2, h3, h4⟩ := h
  cases e with | mk k n s A c l =>
  simp only [ExprR.kind, ExprR.n, ExprR.name, ExprR.kids, List.length_eq_zero_iff] at h1 h2 h3 h4
  subst h1; subst h2; subst h4
  rw [empty_of h3]
  rfl
theorem StatR.plain_eq (x : StatR) : x.plain = .mk x.kind x.name x.e.plain x.n none 0 (plainB x.blocks) := by cases x; rw [StatR.plain]; rfl
theorem BlockR.plain_mk (b : BlockR) : mkB (plainS b.l) = b.plain := by cases b; rfl
theorem set_reads {x : StatR} (h : AllS x) (hk : x.kind = 1 ∨ x.kind = 2) (hn : named x.name) (h0 : x.n = 0) (hb : x.blocks.length = 0) : RdsS x := by
  intro r hr i
  obtain ⟨b1, b2, b3⟩ := name_bytes hn
  have hbl : x.blocks = [] := List.length_eq_zero_iff.1 hb
  have hpl : x.plain = mkSet x.kind x.name x.e.plain := by rw [x.plain_eq, h0, hbl]; rfl
  have hE := h.e (by omega)
  rw [hpl]
  rcases hk with hk | hk
  · have e0 : x.txt ++ r = x.name.data.toList ++ (32 :: 61 :: 32 :: (x.e.txt 0 ++ r)) := by rw [x.txt_eq, hbl, hk]; simp [headT, blocksT]
    rw [e0, tok_word b1 b2 (.cons (by decide)), tok_sp, tok_one (by decide) (.inl (by decide)), tok_sp]
    obtain ⟨j, f, hf⟩ := expr_here hE hr.1 hr.op (i + x.name.data.toList.length + 1 + 1 + 1)
    obtain ⟨n1, n2, n3⟩ := named_not hn i (([61], i + x.name.data.toList.length + 1) :: toksAt (x.e.txt 0 ++ r) (i + x.name.data.toList.length + 1 + 1 + 1))
    refine ⟨j, f + 1, ?_⟩
    rw [gram_succ]
    simp only
    rw [if_neg (by rw [n1]; simp), if_neg (by rw [n2]; simp), if_neg (by rw [n3]; simp), nameR_ok hn]
    simp only [thenR]
    rw [if_neg (by simp [isTok, hd])]
    simp only [needT]
    rw [if_pos (by rfl), List.tail_cons, hf, hk]
  · have e0 : x.txt ++ r = x.name.data.toList ++ (32 :: 43 :: 61 :: 32 :: (x.e.txt 0 ++ r)) := by rw [x.txt_eq, hbl, hk]; simp [headT, blocksT]
    rw [e0, tok_word b1 b2 (.cons (by decide)), tok_sp, tok_add, tok_sp]
    obtain ⟨j, f, hf⟩ := expr_here hE hr.1 hr.op (i + x.name.data.toList.length + 1 + 2 + 1)
    obtain ⟨n1, n2, n3⟩ := named_not hn i (([43, 61], i + x.name.data.toList.length + 1) :: toksAt (x.e.txt 0 ++ r) (i + x.name.data.toList.length + 1 + 2 + 1))
    refine ⟨j, f + 1, ?_⟩
    rw [gram_succ]
    simp only
    rw [if_neg (by rw [n1]; simp), if_neg (by rw [n2]; simp), if_neg (by rw [n3]; simp), nameR_ok hn]
    simp only [thenR]
    rw [if_pos (by rfl), List.tail_cons, hf, hk]
theorem if_reads {x : StatR} (h : AllS x) (hk : x.kind = 3) (hn : x.name.size = 0) (h0 : x.n = 0) (hb1 : 1 ≤ x.blocks.length) (hb2 : x.blocks.length ≤ 2) (ih : ∀ b ∈ x.blocks, ∀ y ∈ b.l, RdsS y) : RdsS x := by
  intro r hr i
  have hE := h.e (by omega)
  have hpl : x.plain = mkIf x.e.plain (plainB x.blocks) := by rw [x.plain_eq, h0, hk, empty_of hn]; rfl
  rw [hpl]
  -- what stands behind the expression
  have tkb : ∀ (b : BlockR) (q : List UInt8) (j : Nat), ∃ j' ts, toksAt (32 :: (b.txt ++ q)) j = ([123], j') :: ts := fun b q j => by
    have e0 : b.txt ++ q = 123 :: 32 :: (textS b.l ++ ((if b.l.length = 0 then [125] else [32, 125]) ++ q)) := by rw [b.txt_eq]; simp
    rw [tok_sp, e0, tok_one (by decide) (.inl (by decide))]
    exact ⟨_, _, rfl⟩
  have opb : ∀ (b : BlockR) (q : List UInt8) (k j : Nat), opK k (toksAt (32 :: (b.txt ++ q)) j) = none := fun b q k j => by
    obtain ⟨j', ts, e⟩ := tkb b q j
    rw [e]; exact opK_of (by decide) (by decide) (by decide) k j' ts
  have hm : (∃ b, x.blocks = [b]) ∨ ∃ b c, x.blocks = [b, c] := by
    match x.blocks, hb1, hb2 with
    | [b], _, _ => exact .inl ⟨b, rfl⟩
    | [b, c], _, _ => exact .inr ⟨b, c, rfl⟩
  rcases hm with ⟨b, hbl⟩ | ⟨b, c, hbl⟩
  · have e0 : x.txt ++ r = [105, 102] ++ (32 :: (x.e.txt 0 ++ (32 :: (b.txt ++ r)))) := by rw [x.txt_eq, hbl, hk]; simp [headT, blocksT, moreT]
    rw [e0, tok_word (by decide) (by decide) (.cons (by decide)), tok_sp]
    obtain ⟨j1, f, hf⟩ := expr_here hE (r := 32 :: (b.txt ++ r)) (.cons (by decide)) (opb b r) (i + ([105, 102] : List UInt8).length + 1)
    obtain ⟨j2, g, hg⟩ := block_reads b (ih b (by rw [hbl]; simp)) r (j1 + 1)
    refine ⟨j2, f + g + 1, ?_⟩
    rw [gram_succ]
    simp only
    rw [if_pos (by rfl), List.tail_cons, (gram_mono (Nat.le_add_right f g)).expr _ _ _ hf]
    simp only [thenR]
    rw [tok_sp, (gram_mono (Nat.le_add_left g f)).braced _ _ hg]
    simp only
    rw [if_neg]
    · rw [hbl, b.plain_mk]; rfl
    · rw [isTok_ne]; · simp
      rcases hr.2 j2 with e | e | e <;> rw [e] <;> decide
  · have e0 : x.txt ++ r = [105, 102] ++ (32 :: (x.e.txt 0 ++ (32 :: (b.txt ++ (32 :: ([101, 108, 115, 101] ++ (32 :: (c.txt ++ r)))))))) := by rw [x.txt_eq, hbl, hk]; simp [headT, blocksT, moreT, betweenT]
    rw [e0, tok_word (by decide) (by decide) (.cons (by decide)), tok_sp]
    obtain ⟨j1, f, hf⟩ := expr_here hE (r := 32 :: (b.txt ++ (32 :: ([101, 108, 115, 101] ++ (32 :: (c.txt ++ r)))))) (.cons (by decide)) (opb b _) (i + ([105, 102] : List UInt8).length + 1)
    obtain ⟨j2, g, hg⟩ := block_reads b (ih b (by rw [hbl]; simp)) (32 :: ([101, 108, 115, 101] ++ (32 :: (c.txt ++ r)))) (j1 + 1)
    obtain ⟨j3, k, hk3⟩ := block_reads c (ih c (by rw [hbl]; simp)) r (j2 + 1 + ([101, 108, 115, 101] : List UInt8).length + 1)
    refine ⟨j3, f + g + k + 1, ?_⟩
    rw [gram_succ]
    simp only
    rw [if_pos (by rfl), List.tail_cons, (gram_mono (by omega : f ≤ f + g + k)).expr _ _ _ hf]
    simp only [thenR]
    rw [tok_sp, (gram_mono (by omega : g ≤ f + g + k)).braced _ _ hg]
    simp only
    rw [tok_sp, tok_word (by decide) (by decide) (.cons (by decide)), if_pos (by rfl), List.tail_cons, tok_sp, (gram_mono (by omega : k ≤ f + g + k)).braced _ _ hk3]
    simp only
    rw [hbl, b.plain_mk, c.plain_mk]; rfl
theorem rep_reads {x : StatR} (hk : x.kind = 4) (hn : x.name.size = 0) (h0 : 0 ≤ x.n) (h1 : x.n ≤ 1000) (hb : x.blocks.length = 1) (hE : noneE x.e) (ih : ∀ b ∈ x.blocks, ∀ y ∈ b.l, RdsS y) : RdsS x := by
  intro r hr i
  obtain ⟨b, hbl⟩ : ∃ b, x.blocks = [b] := by
    match x.blocks, hb with
    | [b], _ => exact ⟨b, rfl⟩
  have hpl : x.plain = mkRep x.n b.plain := by rw [x.plain_eq, hk, empty_of hn, hE.plain, hbl]; rfl
  rw [hpl]
  have hp := parse_itoa h0 (by omega)
  have hi : Lib.itoa x.n = Lib.decDigits x.n.toNat := by unfold Lib.itoa; rw [if_neg (by omega)]
  have hdg := decD_dig x.n.toNat
  have hne := decD_ne x.n.toNat
  have hlen := decD_len 9 x.n.toNat (by omega)
  have hhd := decD_head x.n.toNat
  have hone : x.n.toNat = 0 → (Lib.decDigits x.n.toNat).length = 1 := fun z => by rw [z, Lib.decDigits, dif_pos (by omega)]; rfl
  have e0 : x.txt ++ r = [114, 101, 112, 101, 97, 116] ++ (32 :: (Lib.itoa x.n ++ (32 :: (b.txt ++ r)))) := by rw [x.txt_eq, hbl, hk]; simp [headT, blocksT, moreT]
  rw [e0]
  rw [hi] at hp ⊢
  generalize Lib.decDigits x.n.toNat = s at *
  rw [tok_word (by decide) (by decide) (.cons (by decide)), tok_sp, tok_num hne hdg (.cons (by decide)), tok_sp]
  obtain ⟨j2, g, hg⟩ := block_reads b (ih b (by rw [hbl]; simp)) r (i + ([114, 101, 112, 101, 97, 116] : List UInt8).length + 1 + s.length + 1)
  have e2 : ∀ i ts, digitFirst ((s, i) :: ts) = true := fun i ts => by
    cases s with
    | nil => exact absurd rfl hne
    | cons c l => exact hdg c (by simp)
  have e3 : plainNum s = true := by
    unfold plainNum
    rw [decide_eq_true hlen, Bool.true_and]
    by_cases hz : x.n.toNat = 0
    · rw [hone hz]; rfl
    · have : (s.head? == some 48) = false := by simpa using hhd (by omega)
      rw [this]; simp
  refine ⟨j2, g + 1, ?_⟩
  rw [gram_succ]
  simp only
  rw [if_neg (by simp [isTok, hd]), if_pos (by rfl), List.tail_cons]
  unfold numR
  simp only [hd, List.headD_cons, hp, e2, e3, decide_eq_true h1, Bool.and_self, if_true, thenR, List.tail_cons, hg]
  rw [b.plain_mk]
theorem par_stat_reads {x : StatR} (hk : x.kind = 5) (hn : x.name.size = 0) (h0 : x.n = 0) (hb1 : 1 ≤ x.blocks.length) (hb2 : x.blocks.length ≤ 8) (hE : noneE x.e) (ih : ∀ b ∈ x.blocks, ∀ y ∈ b.l, RdsS y) : RdsS x := by
  intro r hr i
  have hpl : x.plain = mkPar (plainB x.blocks) := by rw [x.plain_eq, hk, h0, empty_of hn, hE.plain]; rfl
  rw [hpl]
  obtain ⟨b, bs, hbl⟩ : ∃ b bs, x.blocks = b :: bs := by
    match x.blocks, hb1 with
    | b :: bs, _ => exact ⟨b, bs, rfl⟩
  have hlen : bs.length ≤ 7 := by rw [hbl, List.length_cons] at hb2; omega
  have e0 : x.txt ++ r = [112, 97, 114] ++ (32 :: (b.txt ++ (moreT (betweenT 5) bs ++ r))) := by rw [x.txt_eq, hbl, hk]; simp [headT, blocksT]
  rw [e0, tok_word (by decide) (by decide) (.cons (by decide)), tok_sp]
  obtain ⟨j1, f, hf⟩ := block_reads b (ih b (by rw [hbl]; simp)) (moreT (betweenT 5) bs ++ r) (i + ([112, 97, 114] : List UInt8).length + 1)
  obtain ⟨j2, g, hg⟩ := par_reads r hr bs (fun c hc => ih c (by rw [hbl]; simp [hc])) [mkB (plainS b.l)] (by simp; omega) j1
  refine ⟨j2, f + g + 1, ?_⟩
  rw [gram_succ]
  simp only
  rw [if_neg (by simp [isTok, hd]), if_neg (by simp [isTok, hd]), if_pos (by rfl), List.tail_cons, (gram_mono (Nat.le_add_right f g)).braced _ _ hf]
  simp only [thenR]
  rw [(gram_mono (Nat.le_add_left g f)).par _ _ _ hg, hbl, b.plain_mk]
  rfl
theorem stat_reads : ∀ x : StatR, AllS x → RdsS x := by
  refine StatR.ind fun x ih h => ?_
  have ih' : ∀ b ∈ x.blocks, ∀ y ∈ b.l, RdsS y := fun b hb y hy => ih b hb y hy (h.in_ hb hy)
  rcases h.ok with ⟨h1, h2, h3, h4⟩ | ⟨h1, h2, h3, h4, h5⟩ | ⟨h1, h2, h3, h4, h5, h6⟩ | ⟨h1, h2, h3, h4, h5, h6⟩
  · exact set_reads h h1 h2 h3 h4
  · exact if_reads h h1 h2 h3 h4 h5 ih'
  · exact rep_reads h1 h2 h3 h4 h5 h6 ih'
  · exact par_stat_reads h1 h2 h3 h4 h5 h6 ih'
/-- WHAT IS WRITTEN IS READ AS IT WAS. -/
theorem written_read {l : List StatR} (h : AllL l) : ∃ f n, (gram f).list [] (toksAt (textS l) 0) = some (.ok (plainS l) [([], n)]) := by
  obtain ⟨j, f, hf⟩ := list_reads l (fun y hy => stat_reads y (h y hy)) [] ⟨.nil, fun i => by rw [toksAt_nil]; exact .inl rfl⟩ [] 0
  rw [List.append_nil, toksAt_nil, List.nil_append] at hf
  exact ⟨f, j, hf⟩
end Go.Proofs.YtgiceeholamphaaDoor
