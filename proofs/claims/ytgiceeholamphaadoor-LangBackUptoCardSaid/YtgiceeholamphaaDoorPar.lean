/- Tokens of a text; the grammar over tokens, with fuel: plain. No conditions. -/
import Derived.Test.YtgiceeholamphaaDoorLangOk
import Derived.Lib.ParseIntB
namespace Go.Proofs.YtgiceeholamphaaDoor
open Go.ChangeShapes Go.WideShapes Go.ChangeAt Go.RowKit

/-! ### Tokens -/
def blank (c : UInt8) : Bool := c == 32 || c == 10
def small (c : UInt8) : Bool := 97 ≤ c && c ≤ 122
def dig (c : UInt8) : Bool := 48 ≤ c && c ≤ 57
abbrev Tok := List UInt8 × Nat
/-- How many of the first ones are such. -/
def runOf (p : UInt8 → Bool) : List UInt8 → Nat
  | [] => 0
  | c :: l => if p c then runOf p l + 1 else 0
theorem runOf_le (p : UInt8 → Bool) : ∀ l, runOf p l ≤ l.length
  | [] => Nat.le_refl _
  | c :: l => by
    rw [runOf]; split
    · have := runOf_le p l; simp; omega
    · simp
/-- How long the token is that begins with c, behind which l lies. -/
def tokLen (c : UInt8) (l : List UInt8) : Nat :=
  if small c then 1 + runOf small l else if dig c then 1 + runOf dig l else if c == 43 && l.head? == some 61 then 2 else 1
theorem tokLen_pos (c : UInt8) (l : List UInt8) : 1 ≤ tokLen c l := by unfold tokLen; split <;> (try split) <;> (try split) <;> omega
theorem tokLen_le (c : UInt8) (l : List UInt8) : tokLen c l ≤ l.length + 1 := by
  unfold tokLen
  have h1 := runOf_le small l
  have h2 := runOf_le dig l
  split
  · omega
  · split
    · omega
    · split
      · rename_i h
        simp only [Bool.and_eq_true, beq_iff_eq] at h
        cases l with
        | nil => simp at h
        | cons x l => simp
      · omega
/-- The tokens of l, which lies i bytes behind the text's beginning. -/
def toksAt (l : List UInt8) (i : Nat) : List Tok :=
  match l with
  | [] => [([], i)]
  | c :: r => if blank c then toksAt r (i + 1) else (c :: r.take (tokLen c r - 1), i) :: toksAt (r.drop (tokLen c r - 1)) (i + tokLen c r)
termination_by l.length
decreasing_by
  · simp
  · simp; omega
theorem toksAt_nil (i : Nat) : toksAt [] i = [([], i)] := by rw [toksAt]
theorem toksAt_blank {c : UInt8} (h : blank c = true) (r : List UInt8) (i : Nat) : toksAt (c :: r) i = toksAt r (i + 1) := by rw [toksAt, if_pos h]
theorem toksAt_tok {c : UInt8} (h : blank c = false) (r : List UInt8) (i : Nat) : toksAt (c :: r) i = (c :: r.take (tokLen c r - 1), i) :: toksAt (r.drop (tokLen c r - 1)) (i + tokLen c r) := by rw [toksAt, if_neg (by simp [h])]
theorem toksAt_len (l : List UInt8) (i : Nat) : (toksAt l i).length ≤ l.length + 1 := by
  generalize hn : l.length = n
  induction n using Nat.strongRecOn generalizing l i with
  | ind n ih =>
    cases l with
    | nil => rw [toksAt_nil]; simp
    | cons c r =>
      cases hb : blank c with
      | true =>
        rw [toksAt_blank hb]
        have := ih r.length (by simp at hn; omega) r (i + 1) rfl
        simp at hn; omega
      | false =>
        rw [toksAt_tok hb, List.length_cons]
        have := ih (r.drop (tokLen c r - 1)).length (by simp at hn ⊢; omega) _ (i + tokLen c r) rfl
        simp at hn this ⊢; omega
theorem toksAt_ne (l : List UInt8) (i : Nat) : toksAt l i ≠ [] := by
  generalize hn : l.length = n
  induction n using Nat.strongRecOn generalizing l i with
  | ind n ih =>
    cases l with
    | nil => rw [toksAt_nil]; simp
    | cons c r =>
      cases hb : blank c with
      | true => rw [toksAt_blank hb]; exact ih r.length (by simp at hn; omega) r (i + 1) rfl
      | false => rw [toksAt_tok hb]; simp
/-- What every token is: of small letters; of digits; one byte; "+=". -/
def okTok (t : List UInt8) : Prop := t = [] ∨ (∀ c ∈ t, small c = true) ∨ (∀ c ∈ t, dig c = true) ∨ (∃ c, t = [c] ∧ small c = false ∧ dig c = false) ∨ t = [43, 61]
theorem take_run (p : UInt8 → Bool) : ∀ l : List UInt8, ∀ c ∈ l.take (runOf p l), p c = true
  | [] => by simp
  | c :: l => by
    rw [runOf]
    split
    · rename_i h
      intro d hd
      simp only [List.take_succ_cons, List.mem_cons] at hd
      rcases hd with rfl | hd
      · exact h
      · exact take_run p l d hd
    · simp
theorem toksAt_ok (l : List UInt8) (i : Nat) : ∀ t ∈ toksAt l i, okTok t.1 := by
  generalize hn : l.length = n
  induction n using Nat.strongRecOn generalizing l i with
  | ind n ih =>
    cases l with
    | nil => rw [toksAt_nil]; intro t ht; simp at ht; subst ht; exact .inl rfl
    | cons c r =>
      cases hb : blank c with
      | true => rw [toksAt_blank hb]; exact ih r.length (by simp at hn; omega) r (i + 1) rfl
      | false =>
        rw [toksAt_tok hb]
        intro t ht
        rcases List.mem_cons.1 ht with rfl | ht
        · show okTok (c :: r.take (tokLen c r - 1))
          unfold tokLen
          split
          · rename_i h
            refine .inr (.inl ?_)
            intro d hd
            rw [Nat.add_sub_cancel_left] at hd
            rcases List.mem_cons.1 hd with rfl | hd
            · exact h
            · exact take_run small r d hd
          · rename_i h1
            split
            · rename_i h
              refine .inr (.inr (.inl ?_))
              intro d hd
              rw [Nat.add_sub_cancel_left] at hd
              rcases List.mem_cons.1 hd with rfl | hd
              · exact h
              · exact take_run dig r d hd
            · rename_i h2
              split
              · rename_i h
                simp only [Bool.and_eq_true, beq_iff_eq] at h
                refine .inr (.inr (.inr (.inr ?_)))
                obtain ⟨rfl, h⟩ := h
                cases r with
                | nil => simp at h
                | cons x r => simp at h; subst h; rfl
              · exact .inr (.inr (.inr (.inl ⟨c, by simp, by simpa using h1, by simpa using h2⟩)))
        · exact ih (r.drop (tokLen c r - 1)).length (by simp at hn ⊢; omega) _ _ rfl t ht

/-! ### The grammar -/
/-- What is read, and what is behind it; or where it can't go on. -/
inductive PR (α : Type) where
  | ok (a : α) (ts : List Tok)
  | no (at_ : Nat)
def PR.map {α β : Type} (f : α → β) : PR α → PR β
  | .ok a ts => .ok (f a) ts
  | .no n => .no n
def hd (ts : List Tok) : Tok := ts.headD ([], 0)
def isTok (s : List UInt8) (ts : List Tok) : Bool := (hd ts).1 == s
noncomputable def nameR (ts : List Tok) : PR ByteArray := if named ⟨(hd ts).1.toArray⟩ then .ok ⟨(hd ts).1.toArray⟩ ts.tail else .no (hd ts).2
def digitFirst (ts : List Tok) : Bool := match (hd ts).1 with | c :: _ => dig c | [] => false
/-- Of at most ten digits, without a nought ahead of others. -/
def plainNum (t : List UInt8) : Bool := t.length ≤ 10 && !(1 < t.length && t.head? == some 48)
def numR (bound : Int) (ts : List Tok) : PR Int :=
  match Lib.parseIntB 64 (hd ts).1 with
  | .ok v => if digitFirst ts && plainNum (hd ts).1 && v ≤ bound then .ok v ts.tail else .no (hd ts).2
  | _ => .no (hd ts).2
def mkNum (n : Int) : ExprR := .mk 1 n ⟨#[]⟩ none 0 []
def mkName (s : ByteArray) : ExprR := .mk 2 0 s none 0 []
def mkOp (k : Int) (a b : ExprR) : ExprR := .mk k 0 ⟨#[]⟩ none 0 [a, b]
def noE : ExprR := .mk 0 0 ⟨#[]⟩ none 0 []
def mkB (l : List StatR) : BlockR := .mk none 0 l
def mkSet (k : Int) (s : ByteArray) (e : ExprR) : StatR := .mk k s e 0 none 0 []
def mkIf (e : ExprR) (bs : List BlockR) : StatR := .mk 3 ⟨#[]⟩ e 0 none 0 bs
def mkRep (n : Int) (b : BlockR) : StatR := .mk 4 ⟨#[]⟩ noE n none 0 [b]
def mkPar (bs : List BlockR) : StatR := .mk 5 ⟨#[]⟩ noE 0 none 0 bs
/-- Which operator of a tightness is next. -/
def opK (t : Nat) (ts : List Tok) : Option Int :=
  if t = 0 then (if isTok [43] ts then some 3 else if isTok [45] ts then some 4 else none) else if isTok [42] ts then some 5 else none
structure Gram where
  expr : Nat → List Tok → Option (PR ExprR)
  loop : Nat → ExprR → List Tok → Option (PR ExprR)
  stat : List Tok → Option (PR StatR)
  braced : List Tok → Option (PR (List StatR))
  list : List StatR → List Tok → Option (PR (List StatR))
  par : List BlockR → List Tok → Option (PR (List BlockR))
/-- Go on with what was read. -/
def thenR {α β : Type} (x : Option (PR α)) (k : α → List Tok → Option (PR β)) : Option (PR β) :=
  match x with
  | none => none
  | some (.no n) => some (.no n)
  | some (.ok a ts) => k a ts
def needT {α : Type} (s : List UInt8) (ts : List Tok) (k : List Tok → Option (PR α)) : Option (PR α) := if isTok s ts then k ts.tail else some (.no (hd ts).2)
noncomputable def gram : Nat → Gram
  | 0 => ⟨fun _ _ => none, fun _ _ _ => none, fun _ => none, fun _ => none, fun _ _ => none, fun _ _ => none⟩
  | f + 1 =>
    { expr := fun t ts =>
        if t = 2 then
          if isTok [40] ts then thenR ((gram f).expr 0 ts.tail) fun e ts => needT [41] ts fun ts => some (.ok e ts)
          else if digitFirst ts then some ((numR 1000000000 ts).map mkNum) else some ((nameR ts).map mkName)
        else thenR ((gram f).expr (t + 1) ts) fun e ts => (gram f).loop t e ts
      loop := fun t e ts =>
        match opK t ts with
        | none => some (.ok e ts)
        | some k => thenR ((gram f).expr (t + 1) ts.tail) fun e2 ts => (gram f).loop t (mkOp k e e2) ts
      stat := fun ts =>
        if isTok [105, 102] ts then
          thenR ((gram f).expr 0 ts.tail) fun e ts => thenR ((gram f).braced ts) fun b ts =>
            if isTok [101, 108, 115, 101] ts then thenR ((gram f).braced ts.tail) fun c ts => some (.ok (mkIf e [mkB b, mkB c]) ts) else some (.ok (mkIf e [mkB b]) ts)
        else if isTok [114, 101, 112, 101, 97, 116] ts then thenR (some (numR 1000 ts.tail)) fun n ts => thenR ((gram f).braced ts) fun b ts => some (.ok (mkRep n (mkB b)) ts)
        else if isTok [112, 97, 114] ts then thenR ((gram f).braced ts.tail) fun b ts => thenR ((gram f).par [mkB b] ts) fun bs ts => some (.ok (mkPar bs) ts)
        else thenR (some (nameR ts)) fun s ts =>
          if isTok [43, 61] ts then thenR ((gram f).expr 0 ts.tail) fun e ts => some (.ok (mkSet 2 s e) ts)
          else needT [61] ts fun ts => thenR ((gram f).expr 0 ts) fun e ts => some (.ok (mkSet 1 s e) ts)
      braced := fun ts => needT [123] ts fun ts => thenR ((gram f).list [] ts) fun l ts => needT [125] ts fun ts => some (.ok l ts)
      list := fun acc ts =>
        if isTok [125] ts || isTok [] ts then some (.ok acc ts)
        else thenR ((gram f).stat ts) fun x ts => if isTok [59] ts then (gram f).list (acc ++ [x]) ts.tail else some (.ok (acc ++ [x]) ts)
      par := fun acc ts =>
        if decide (acc.length < 8) && isTok [97, 110, 100] ts then thenR ((gram f).braced ts.tail) fun b ts => (gram f).par (acc ++ [mkB b]) ts else some (.ok acc ts) }
theorem gram_succ (f : Nat) : gram (f + 1) =
    { expr := fun t ts =>
        if t = 2 then
          if isTok [40] ts then thenR ((gram f).expr 0 ts.tail) fun e ts => needT [41] ts fun ts => some (.ok e ts)
          else if digitFirst ts then some ((numR 1000000000 ts).map mkNum) else some ((nameR ts).map mkName)
        else thenR ((gram f).expr (t + 1) ts) fun e ts => (gram f).loop t e ts
      loop := fun t e ts =>
        match opK t ts with
        | none => some (.ok e ts)
        | some k => thenR ((gram f).expr (t + 1) ts.tail) fun e2 ts => (gram f).loop t (mkOp k e e2) ts
      stat := fun ts =>
        if isTok [105, 102] ts then
          thenR ((gram f).expr 0 ts.tail) fun e ts => thenR ((gram f).braced ts) fun b ts =>
            if isTok [101, 108, 115, 101] ts then thenR ((gram f).braced ts.tail) fun c ts => some (.ok (mkIf e [mkB b, mkB c]) ts) else some (.ok (mkIf e [mkB b]) ts)
        else if isTok [114, 101, 112, 101, 97, 116] ts then thenR (some (numR 1000 ts.tail)) fun n ts => thenR ((gram f).braced ts) fun b ts => some (.ok (mkRep n (mkB b)) ts)
        else if isTok [112, 97, 114] ts then thenR ((gram f).braced ts.tail) fun b ts => thenR ((gram f).par [mkB b] ts) fun bs ts => some (.ok (mkPar bs) ts)
        else thenR (some (nameR ts)) fun s ts =>
          if isTok [43, 61] ts then thenR ((gram f).expr 0 ts.tail) fun e ts => some (.ok (mkSet 2 s e) ts)
          else needT [61] ts fun ts => thenR ((gram f).expr 0 ts) fun e ts => some (.ok (mkSet 1 s e) ts)
      braced := fun ts => needT [123] ts fun ts => thenR ((gram f).list [] ts) fun l ts => needT [125] ts fun ts => some (.ok l ts)
      list := fun acc ts =>
        if isTok [125] ts || isTok [] ts then some (.ok acc ts)
        else thenR ((gram f).stat ts) fun x ts => if isTok [59] ts then (gram f).list (acc ++ [x]) ts.tail else some (.ok (acc ++ [x]) ts)
      par := fun acc ts =>
        if decide (acc.length < 8) && isTok [97, 110, 100] ts then thenR ((gram f).braced ts.tail) fun b ts => (gram f).par (acc ++ [mkB b]) ts else some (.ok acc ts) } := rfl

/-! ### More fuel, the same -/
structure Gram.Le (g h : Gram) : Prop where
  expr : ∀ t ts r, g.expr t ts = some r → h.expr t ts = some r
  loop : ∀ t e ts r, g.loop t e ts = some r → h.loop t e ts = some r
  stat : ∀ ts r, g.stat ts = some r → h.stat ts = some r
  braced : ∀ ts r, g.braced ts = some r → h.braced ts = some r
  list : ∀ a ts r, g.list a ts = some r → h.list a ts = some r
  par : ∀ a ts r, g.par a ts = some r → h.par a ts = some r
theorem thenR_le {α β : Type} {x y : Option (PR α)} {k l : α → List Tok → Option (PR β)} {r : PR β} (h : thenR x k = some r) (hx : ∀ z, x = some z → y = some z) (hk : ∀ a ts r, k a ts = some r → l a ts = some r) : thenR y l = some r := by
  cases x with
  | none => cases h
  | some z =>
    rw [hx z rfl]
    cases z with
    | ok a ts => exact hk a ts r h
    | no n => exact h
theorem needT_le {α : Type} {s : List UInt8} {ts : List Tok} {k l : List Tok → Option (PR α)} {r : PR α} (h : needT s ts k = some r) (hk : ∀ ts r, k ts = some r → l ts = some r) : needT s ts l = some r := by
  unfold needT at h ⊢
  split
  · rename_i e; rw [if_pos e] at h; exact hk _ _ h
  · rename_i e; rw [if_neg e] at h; exact h
theorem gram_le (f : Nat) : (gram f).Le (gram (f + 1)) := by
  induction f with
  | zero =>
    refine ⟨fun t ts r h => ?_, fun t e ts r h => ?_, fun ts r h => ?_, fun ts r h => ?_, fun a ts r h => ?_, fun a ts r h => ?_⟩ <;> cases h
  | succ f ih =>
    rw [gram_succ (f + 1)]
    constructor
    · intro t ts r h
      rw [gram_succ f] at h
      simp only at h ⊢
      split at h
      · rename_i e; rw [if_pos e]
        split at h
        · rename_i e2; rw [if_pos e2]
          exact thenR_le h (fun z => ih.expr _ _ z) fun _ _ _ h => h
        · rename_i e2; rw [if_neg e2]; exact h
      · rename_i e; rw [if_neg e]
        exact thenR_le h (fun z => ih.expr _ _ z) fun _ _ _ h => ih.loop _ _ _ _ h
    · intro t e ts r h
      rw [gram_succ f] at h
      simp only at h ⊢
      cases hk : opK t ts with
      | none => rw [hk] at h; exact h
      | some k =>
        rw [hk] at h
        exact thenR_le h (fun z => ih.expr _ _ z) fun _ _ _ h => ih.loop _ _ _ _ h
    · intro ts r h
      rw [gram_succ f] at h
      simp only at h ⊢
      split at h
      · rename_i e; rw [if_pos e]
        refine thenR_le h (fun z => ih.expr _ _ z) fun _ _ _ h => thenR_le h (fun z => ih.braced _ z) fun _ _ _ h => ?_
        split at h
        · rename_i e; rw [if_pos e]; exact thenR_le h (fun z => ih.braced _ z) fun _ _ _ h => h
        · rename_i e; rw [if_neg e]; exact h
      · rename_i e; rw [if_neg e]
        split at h
        · rename_i e; rw [if_pos e]
          exact thenR_le h (fun _ h => h) fun _ _ _ h => thenR_le h (fun z => ih.braced _ z) fun _ _ _ h => h
        · rename_i e; rw [if_neg e]
          split at h
          · rename_i e; rw [if_pos e]
            exact thenR_le h (fun z => ih.braced _ z) fun _ _ _ h => thenR_le h (fun z => ih.par _ _ z) fun _ _ _ h => h
          · rename_i e; rw [if_neg e]
            refine thenR_le h (fun _ h => h) fun _ _ _ h => ?_
            split at h
            · rename_i e; rw [if_pos e]; exact thenR_le h (fun z => ih.expr _ _ z) fun _ _ _ h => h
            · rename_i e; rw [if_neg e]; exact needT_le h fun _ _ h => thenR_le h (fun z => ih.expr _ _ z) fun _ _ _ h => h
    · intro ts r h
      rw [gram_succ f] at h
      exact needT_le h fun _ _ h => thenR_le h (fun z => ih.list _ _ z) fun _ _ _ h => h
    · intro a ts r h
      rw [gram_succ f] at h
      simp only at h ⊢
      split at h
      · rename_i e; rw [if_pos e]; exact h
      · rename_i e; rw [if_neg e]
        refine thenR_le h (fun z => ih.stat _ z) fun _ _ _ h => ?_
        split at h
        · rename_i e; rw [if_pos e]; exact ih.list _ _ _ h
        · rename_i e; rw [if_neg e]; exact h
    · intro a ts r h
      rw [gram_succ f] at h
      simp only at h ⊢
      split at h
      · rename_i e; rw [if_pos e]; exact thenR_le h (fun z => ih.braced _ z) fun _ _ _ h => ih.par _ _ _ h
      · rename_i e; rw [if_neg e]; exact h
theorem gram_add (f d : Nat) : (gram f).Le (gram (f + d)) := by
  induction d with
  | zero => exact ⟨fun _ _ _ h => h, fun _ _ _ _ h => h, fun _ _ h => h, fun _ _ h => h, fun _ _ _ h => h, fun _ _ _ h => h⟩
  | succ d ih =>
    have k := gram_le (f + d)
    exact ⟨fun t ts r h => k.expr _ _ _ (ih.expr _ _ _ h), fun t e ts r h => k.loop _ _ _ _ (ih.loop _ _ _ _ h), fun ts r h => k.stat _ _ (ih.stat _ _ h), fun ts r h => k.braced _ _ (ih.braced _ _ h), fun a ts r h => k.list _ _ _ (ih.list _ _ _ h), fun a ts r h => k.par _ _ _ (ih.par _ _ _ h)⟩

/-! ### There is fuel enough -/
theorem isTok_hd {s : List UInt8} {ts : List Tok} (h : isTok s ts = true) : (hd ts).1 = s := by simpa [isTok] using h
/-- What is read takes tokens: at least k. -/
def Takes (α : Type) (k : Nat) (ts : List Tok) (r : PR α) : Prop := match r with | .ok _ ts' => ts'.length + k ≤ ts.length | .no _ => True
theorem tail_lt {s : List UInt8} (hs : s ≠ []) {ts : List Tok} (h : isTok s ts = true) : ts.tail.length + 1 = ts.length := by
  cases ts with
  | nil => simp [isTok, hd] at h; exact absurd h.symm (by simpa using hs)
  | cons t ts => simp
theorem nameR_takes (ts : List Tok) : Takes _ 1 ts (nameR ts) := by
  unfold nameR
  split
  · rename_i h
    cases ts with
    | nil => exact absurd h.1 (by decide)
    | cons t ts => simp [Takes]
  · trivial
theorem numR_takes (b : Int) (ts : List Tok) : Takes _ 1 ts (numR b ts) := by
  unfold numR
  split
  · split
    · rename_i h
      cases ts with
      | nil => simp [digitFirst, hd] at h
      | cons t ts => simp [Takes]
    · trivial
  · trivial
theorem Takes.le {α : Type} {k k' : Nat} {ts ts0 : List Tok} {r : PR α} (h : Takes α k ts r) (hk : ts.length + k' ≤ ts0.length + k) : Takes α k' ts0 r := by
  cases r with
  | ok a t => simp only [Takes] at h ⊢; omega
  | no n => trivial
theorem thenR_ok {α β : Type} {x : Option (PR α)} {k : α → List Tok → Option (PR β)} {ts : List Tok} {n m : Nat} (hx : ∃ r, x = some r ∧ Takes α n ts r)
    (hk : ∀ a ts', ts'.length + n ≤ ts.length → ∃ r, k a ts' = some r ∧ Takes β m ts r) : ∃ r, thenR x k = some r ∧ Takes β m ts r := by
  obtain ⟨r, rfl, h⟩ := hx
  cases r with
  | ok a t => exact hk a t h
  | no j => exact ⟨.no j, rfl, trivial⟩
theorem needT_ok {α : Type} {s : List UInt8} (hs : s ≠ []) {ts : List Tok} {k : List Tok → Option (PR α)} {ts0 : List Tok} {m : Nat} (hk : ts.tail.length + 1 = ts.length → ∃ r, k ts.tail = some r ∧ Takes α m ts0 r) :
    ∃ r, needT s ts k = some r ∧ Takes α m ts0 r := by
  unfold needT
  split
  · rename_i h; exact hk (tail_lt hs h)
  · exact ⟨_, rfl, trivial⟩
theorem opK_tail {t : Nat} {ts : List Tok} {k : Int} (h : opK t ts = some k) : ts.tail.length + 1 = ts.length := by
  unfold opK at h
  split at h
  · split at h
    · rename_i e; exact tail_lt (by simp) e
    · split at h
      · rename_i e; exact tail_lt (by simp) e
      · cases h
  · split at h
    · rename_i e; exact tail_lt (by simp) e
    · cases h
theorem PR.map_takes {α β : Type} {f : α → β} {k : Nat} {ts : List Tok} {r : PR α} (h : Takes α k ts r) : Takes β k ts (r.map f) := by cases r <;> exact h
/-- With fuel enough there is an answer. -/
structure Full (f : Nat) : Prop where
  expr : ∀ t ts, t ≤ 2 → 12 * ts.length + 3 ≤ f + t → ∃ r, (gram f).expr t ts = some r ∧ Takes _ 1 ts r
  loop : ∀ t e ts, t ≤ 1 → 12 * ts.length + 1 ≤ f → ∃ r, (gram f).loop t e ts = some r ∧ Takes _ 0 ts r
  stat : ∀ ts, 12 * ts.length + 4 ≤ f → ∃ r, (gram f).stat ts = some r ∧ Takes _ 1 ts r
  braced : ∀ ts, 12 * ts.length + 1 ≤ f → ∃ r, (gram f).braced ts = some r ∧ Takes _ 1 ts r
  list : ∀ a ts, 12 * ts.length + 5 ≤ f → ∃ r, (gram f).list a ts = some r ∧ Takes _ 0 ts r
  par : ∀ a ts, 12 * ts.length + 1 ≤ f → ∃ r, (gram f).par a ts = some r ∧ Takes _ 0 ts r
theorem gram_full (f : Nat) : Full f := by
  induction f with
  | zero => exact ⟨fun t ts h h' => by omega, fun _ _ _ _ h => by omega, fun _ h => by omega, fun _ h => by omega, fun _ _ h => by omega, fun _ _ h => by omega⟩
  | succ f ih =>
    constructor <;> rw [gram_succ]
    · intro t ts ht hf
      simp only
      split
      · subst t
        split
        · rename_i e
          have hl := tail_lt (by simp) e
          refine thenR_ok (n := 2) (by obtain ⟨r, h1, h2⟩ := ih.expr 0 ts.tail (by omega) (by omega); exact ⟨r, h1, h2.le (by omega)⟩) fun a ts' h' => needT_ok (by simp) fun ht => ⟨_, rfl, by simp only [Takes]; omega⟩
        · split
          · exact ⟨_, rfl, PR.map_takes (numR_takes _ _)⟩
          · exact ⟨_, rfl, PR.map_takes (nameR_takes _)⟩
      · exact thenR_ok (ih.expr (t + 1) ts (by omega) (by omega)) fun a ts' h' => by obtain ⟨r, h1, h2⟩ := ih.loop t a ts' (by omega) (by omega); exact ⟨r, h1, h2.le (by omega)⟩
    · intro t e ts ht hf
      simp only
      cases hk : opK t ts with
      | none => exact ⟨_, rfl, by simp [Takes]⟩
      | some k =>
        have hl := opK_tail hk
        exact thenR_ok (n := 2) (by obtain ⟨r, h1, h2⟩ := ih.expr (t + 1) ts.tail (by omega) (by omega); exact ⟨r, h1, h2.le (by omega)⟩) fun a ts' h' => by obtain ⟨r, h1, h2⟩ := ih.loop t (mkOp k e a) ts' (by omega) (by omega); exact ⟨r, h1, h2.le (by omega)⟩
    · intro ts hf
      simp only
      split
      · rename_i e
        have hl := tail_lt (by simp) e
        refine thenR_ok (n := 2) (by obtain ⟨r, h1, h2⟩ := ih.expr 0 ts.tail (by omega) (by omega); exact ⟨r, h1, h2.le (by omega)⟩) fun a ts1 h1 =>
          thenR_ok (n := 3) (by obtain ⟨r, h1, h2⟩ := ih.braced ts1 (by omega); exact ⟨r, h1, h2.le (by omega)⟩) fun b ts2 h2 => ?_
        split
        · rename_i e
          have hl := tail_lt (by simp) e
          exact thenR_ok (n := 1) (by obtain ⟨r, h1, h2⟩ := ih.braced ts2.tail (by omega); exact ⟨r, h1, h2.le (by omega)⟩) fun b ts2 h2 => ⟨_, rfl, by simp only [Takes]; omega⟩
        · exact ⟨_, rfl, by simp only [Takes]; omega⟩
      · split
        · rename_i e
          have hl := tail_lt (by simp) e
          exact thenR_ok (n := 2) ⟨_, rfl, (numR_takes _ _).le (by omega)⟩ fun a ts1 h1 => thenR_ok (n := 3) (by obtain ⟨r, h1, h2⟩ := ih.braced ts1 (by omega); exact ⟨r, h1, h2.le (by omega)⟩) fun b ts2 h2 => ⟨_, rfl, by simp only [Takes]; omega⟩
        · split
          · rename_i e
            have hl := tail_lt (by simp) e
            exact thenR_ok (n := 2) (by obtain ⟨r, h1, h2⟩ := ih.braced ts.tail (by omega); exact ⟨r, h1, h2.le (by omega)⟩) fun b ts2 h2 => thenR_ok (n := 1) (by obtain ⟨r, h1, h2⟩ := ih.par [mkB b] ts2 (by omega); exact ⟨r, h1, h2.le (by omega)⟩) fun b ts2 h2 => ⟨_, rfl, by simp only [Takes]; omega⟩
          · refine thenR_ok (n := 1) ⟨_, rfl, nameR_takes ts⟩ fun a ts1 h1 => ?_
            split
            · rename_i e
              have hl := tail_lt (by simp) e
              exact thenR_ok (n := 1) (by obtain ⟨r, h1, h2⟩ := ih.expr 0 ts1.tail (by omega) (by omega); exact ⟨r, h1, h2.le (by omega)⟩) fun b ts2 h2 => ⟨_, rfl, by simp only [Takes]; omega⟩
            · refine needT_ok (by simp) fun hl => thenR_ok (n := 1) (by obtain ⟨r, h1, h2⟩ := ih.expr 0 ts1.tail (by omega) (by omega); exact ⟨r, h1, h2.le (by omega)⟩) fun b ts2 h2 => ⟨_, rfl, by simp only [Takes]; omega⟩
    · intro ts hf
      simp only
      refine needT_ok (by simp) fun hl => thenR_ok (n := 1) (by obtain ⟨r, h1, h2⟩ := ih.list [] ts.tail (by omega); exact ⟨r, h1, h2.le (by omega)⟩) fun b ts2 h2 => needT_ok (by simp) fun hl => ⟨_, rfl, by simp only [Takes]; omega⟩
    · intro a ts hf
      simp only
      split
      · exact ⟨_, rfl, by simp [Takes]⟩
      · refine thenR_ok (ih.stat ts (by omega)) fun x ts1 h1 => ?_
        split
        · rename_i e
          have hl := tail_lt (by simp) e
          obtain ⟨r, h1, h2⟩ := ih.list (a ++ [x]) ts1.tail (by omega)
          exact ⟨r, h1, h2.le (by omega)⟩
        · exact ⟨_, rfl, by simp only [Takes]; omega⟩
    · intro a ts hf
      simp only
      split
      · rename_i e
        have hl := tail_lt (by simp) (Bool.and_eq_true_iff.1 e).2
        exact thenR_ok (n := 1) (by obtain ⟨r, h1, h2⟩ := ih.braced ts.tail (by omega); exact ⟨r, h1, h2.le (by omega)⟩) fun b ts1 h1 => by obtain ⟨r, h1, h2⟩ := ih.par (a ++ [mkB b]) ts1 (by omega); exact ⟨r, h1, h2.le (by omega)⟩
      · exact ⟨_, rfl, by simp [Takes]⟩
/-- What a text's tokens are read as: a list of statements, and the rest; or where they can't go on. -/
theorem list_total (ts : List Tok) : ∃ f r, (gram f).list [] ts = some r := by
  obtain ⟨r, h, _⟩ := (gram_full (12 * ts.length + 5)).list [] ts (Nat.le_refl _)
  exact ⟨_, r, h⟩
end Go.Proofs.YtgiceeholamphaaDoor
