/- Plain facts of ActorEnds: a longer run begins as the shorter one; letters that no rule takes change no number. No program but the codes. -/
import Derived.Test.YticdjkkcfdbdcaaAcLa
namespace Go.Proofs.Yticdjkkcfdbdcaa
theorem runA_pre {R : List (List RuleR)} : ∀ (k : Nat) (t : Int) (nums : List Int) (c : Come) (log : List LetR) {ys : List Int} {zs : List LetR}, runA R k t nums c log = some (ys, zs) → ∃ r, zs = log ++ r
  | 0, t, nums, c, log, ys, zs, h => by
    obtain ⟨rfl, rfl⟩ := Prod.mk.inj (Option.some.inj h)
    exact ⟨[], by simp⟩
  | k + 1, t, nums, c, log, ys, zs, h => by
    have h2 : (if 100000 < (log ++ logR R.length c t).length then none else runA R k (t + 1) (timeR R c t nums).1 (c.addAll (timeR R c t nums).2) (log ++ logR R.length c t)) = some (ys, zs) := h
    split at h2
    · cases h2
    · obtain ⟨r, hr⟩ := runA_pre k _ _ _ _ h2
      exact ⟨logR R.length c t ++ r, by rw [hr, List.append_assoc]⟩
/-- What came up to a time begins what comes up to a later one. -/
theorem runA_more {R : List (List RuleR)} (j : Nat) : ∀ (k : Nat) (t : Int) (nums : List Int) (c : Come) (log : List LetR) {a b : List Int} {l m : List LetR}, runA R k t nums c log = some (a, l) → runA R (k + j) t nums c log = some (b, m) → ∃ r, m = l ++ r
  | 0, t, nums, c, log, a, b, l, m, h, h' => by
    obtain ⟨rfl, rfl⟩ := Prod.mk.inj (Option.some.inj h)
    rw [Nat.zero_add] at h'
    exact runA_pre j _ _ _ _ h'
  | k + 1, t, nums, c, log, a, b, l, m, h, h' => by
    rw [Nat.succ_add] at h'
    have h2 : (if 100000 < (log ++ logR R.length c t).length then none else runA R k (t + 1) (timeR R c t nums).1 (c.addAll (timeR R c t nums).2) (log ++ logR R.length c t)) = some (a, l) := h
    have h3 : (if 100000 < (log ++ logR R.length c t).length then none else runA R (k + j) (t + 1) (timeR R c t nums).1 (c.addAll (timeR R c t nums).2) (log ++ logR R.length c t)) = some (b, m) := h'
    split at h2
    · cases h2
    · rename_i hlt
      rw [if_neg hlt] at h3
      exact runA_more j k _ _ _ _ h2 h3
/-- Whether an actor has a rule for a letter. -/
def hasR (rs : List RuleR) (x : LetR) : Bool := rs.any fun r => r.kind == x.kind
def ruled (R : List (List RuleR)) (i : Nat) (x : LetR) : Bool := hasR (R.getD i []) x
theorem takeR_no {rs : List RuleR} {x : LetR} (h : hasR rs x = false) (num : Int) : takeR rs num x = (num, none) := by
  unfold takeR
  have : rs.find? (fun r => r.kind == x.kind) = none := by
    rw [List.find?_eq_none]
    intro r hr h2
    unfold hasR at h
    rw [List.any_eq_false] at h
    exact h r hr h2
  rw [this]
theorem atR_filter (rs : List RuleR) : ∀ (l : List LetR) (num : Int), atR rs num (l.filter (hasR rs)) = atR rs num l
  | [], _ => rfl
  | x :: l, num => by
    cases h : hasR rs x with
    | true =>
      rw [List.filter_cons_of_pos h]
      simp only [atR, atR_filter rs l]
    | false =>
      rw [List.filter_cons_of_neg (by simp [h]), atR_filter rs l]
      simp [atR, takeR_no h]
/-- Less comes, but only of what no rule takes. -/
structure LessC (R : List (List RuleR)) (c' c : Come) : Prop where
  sub : ∀ i t, (c' i t).Sublist (c i t)
  same : ∀ i t, (c' i t).filter (ruled R i) = (c i t).filter (ruled R i)
section
variable {R : List (List RuleR)} {c c' : Come}
theorem LessC.add (h : LessC R c' c) (y : LetR) : LessC R (c'.add y) (c.add y) := by
  refine ⟨fun i t => ?_, fun i t => ?_⟩
  · unfold Come.add
    split
    · exact (h.sub i t).append (List.Sublist.refl _)
    · exact h.sub i t
  · unfold Come.add
    split
    · rw [List.filter_append, List.filter_append, h.same]
    · exact h.same i t
theorem LessC.addAll : ∀ (ys : List LetR) {c c' : Come}, LessC R c' c → LessC R (c'.addAll ys) (c.addAll ys)
  | [], _, _, h => h
  | y :: ys, _, _, h => LessC.addAll ys (h.add y)
theorem LessC.at_ (h : LessC R c' c) (i : Nat) (t : Int) (num : Int) : atR (R.getD i []) num (c' i t) = atR (R.getD i []) num (c i t) := by
  rw [← atR_filter, ← atR_filter _ (c i t)]
  exact congrArg _ (h.same i t)
theorem LessC.time (h : LessC R c' c) (t : Int) (nums : List Int) : timeR R c' t nums = timeR R c t nums := by
  simp only [timeR, h.at_]
theorem LessC.log (h : LessC R c' c) (n : Nat) (t : Int) : (logR n c' t).length ≤ (logR n c t).length := by
  rw [logR_len, logR_len]
  exact sum_le _ fun i => (h.sub i t).length_le
/-- The numbers are the same. -/
theorem runA_less : ∀ (k : Nat) (t : Int) (nums : List Int) {c c' : Come} (log log' : List LetR) {a : List Int} {l : List LetR}, LessC R c' c → log'.length ≤ log.length → runA R k t nums c log = some (a, l) → ∃ l', runA R k t nums c' log' = some (a, l')
  | 0, t, nums, c, c', log, log', a, l, _, _, h => by
    obtain ⟨rfl, rfl⟩ := Prod.mk.inj (Option.some.inj h)
    exact ⟨log', rfl⟩
  | k + 1, t, nums, c, c', log, log', a, l, hc, hl, h => by
    have h2 : (if 100000 < (log ++ logR R.length c t).length then none else runA R k (t + 1) (timeR R c t nums).1 (c.addAll (timeR R c t nums).2) (log ++ logR R.length c t)) = some (a, l) := h
    have h3 := hc.log R.length t
    show ∃ l', (if 100000 < (log' ++ logR R.length c' t).length then none else runA R k (t + 1) (timeR R c' t nums).1 (c'.addAll (timeR R c' t nums).2) (log' ++ logR R.length c' t)) = some (a, l')
    split at h2
    · cases h2
    · rename_i hlt
      rw [List.length_append] at hlt
      rw [if_neg (by rw [List.length_append]; omega), hc.time]
      exact runA_less k _ _ _ _ (hc.addAll _) (by rw [List.length_append, List.length_append]; omega) h2
/-- Those of the letters that have a rule. -/
def keptL (R : List (List RuleR)) (ls : List LetR) : List LetR := ls.filter fun x => ruled R x.to.toNat x
theorem less_fold : ∀ (ls : List LetR) {c c' : Come}, LessC R c' c → LessC R ((keptL R ls).foldl Come.add c') (ls.foldl Come.add c)
  | [], _, _, h => h
  | x :: ls, c, c', h => by
    unfold keptL
    cases hx : ruled R x.to.toNat x with
    | true =>
      rw [List.filter_cons_of_pos (p := fun x => ruled R x.to.toNat x) hx]
      exact less_fold ls (h.add x)
    | false =>
      rw [List.filter_cons_of_neg (p := fun x => ruled R x.to.toNat x) (by simp [hx])]
      refine less_fold ls ⟨fun i t => ?_, fun i t => ?_⟩
      · unfold Come.add
        split
        · exact (h.sub i t).trans (List.sublist_append_left _ _)
        · exact h.sub i t
      · unfold Come.add
        split
        · rename_i e
          have hi : x.to.toNat = i := by omega
          rw [hi] at hx
          rw [List.filter_append, List.filter_cons_of_neg (by simp [hx]), List.filter_nil, List.append_nil, h.same]
        · exact h.same i t
theorem less_start (ls : List LetR) : LessC R (comeL (keptL R ls)) (comeL ls) := less_fold ls ⟨fun _ _ => List.Sublist.refl _, fun _ _ => rfl⟩
end
theorem keptL_take {R : List (List RuleR)} {ls : List LetR} {k : Nat} (h : k < ls.length) : keptL R (ls.take (k + 1)) = keptL R (ls.take k) ++ if ruled R ls[k].to.toNat ls[k] then [ls[k]] else [] := by
  unfold keptL
  rw [List.take_succ_eq_append_getElem h, List.filter_append]
  congr 1
  cases hx : ruled R ls[k].to.toNat ls[k] <;> simp [hx]
theorem keptL_len (R : List (List RuleR)) (ls : List LetR) : (keptL R ls).length ≤ ls.length := List.length_filter_le ..
theorem kept_code {R : List RulR} {ls : List LetR} {Q : List (List RuleR)} (h : actCode R ls = 0) : actCode R (keptL Q ls) = 0 := by
  obtain ⟨z1, z2, z3, z4, z5⟩ := actCode_zero h
  have hl := keptL_len Q ls
  unfold actCode
  rw [if_neg, if_neg, if_neg]
  · rintro (h | h | ⟨r, hr, h⟩)
    · omega
    · omega
    · have := z4 r hr; omega
  · rintro ⟨r, hr, h⟩
    exact z5 r hr h
  · rintro ⟨x, hx, h⟩
    exact h (z3 x (List.mem_filter.1 hx).1)
theorem goCode_of {R : List RulR} {ls : List LetR} {E wk : Int} (h : actCode R ls = 0) (hE : 0 ≤ E ∧ E ≤ 1000) (hw : wkOk wk) : goCode R ls E wk = 0 := by
  unfold goCode
  rw [if_neg (by simp [h]), if_pos ⟨hE, hw⟩]
end Go.Proofs.Yticdjkkcfdbdcaa

/- What runs leave, for ActorEnds. No conditions but those named. -/
namespace Go.Proofs.Yticdjkkcfdbdcaa
open Go.Conc Go.ConcN Go.RowKit Go.ChangeShapes Go.WideShapes Go.ChangeAt
set_option maxRecDepth 100000 in
theorem res_8 : ResFn Try.prog 8 := resB_ok Try.func8 (by kernel_rfl)
theorem results_8 : Try.f8.results = #[.tmp 12] := by kernel_rfl
theorem build_le (e : Operand → Value) (o : Oper) (w : World) (hop : o.op = .build 49 #[(2, .const (.int .i64 1))]) (h0 : e (.const (.int .i64 1)) = .int .i64 1) : (execOp e o).run Try.prog w = .ok (.value (.agg #[.int .i64 0, .int .i64 0, .int .i64 1, .int .i64 0])) w := by
  simp [go_sem, hop, h0, execOp]
theorem slice_le (e : Operand → Value) (o : Oper) (w : World) {t : Nat} (hop : o.op = .buildSlice 44 1 #[(0, .tmp t)]) {x y z u : Int} (h1 : e (.tmp t) = .agg #[.int .i64 x, .int .i64 y, .int .i64 z, .int .i64 u]) : (execOp e o).run Try.prog w = .ok (.value (.slice (some ⟨w.heap.size, 0, none⟩) 1 1)) (w.alloc (.cells #[.int .i64 x, .int .i64 y, .int .i64 z, .int .i64 u] 49)) := by
  simp [go_sem, hop, h1, execOp]
theorem slice_rus (e : Operand → Value) (o : Oper) (w : World) (hop : o.op = .buildSlice 43 1 #[(0, .const (.slice none 0 0))]) (h1 : e (.const (.slice none 0 0)) = .slice none 0 0) : (execOp e o).run Try.prog w = .ok (.value (.slice (some ⟨w.heap.size, 0, none⟩) 1 1)) (w.alloc (.cells #[.slice none 0 0] 52)) := by
  simp [go_sem, hop, h1, execOp]
theorem two_mem (L : World) : ∃ LA, (L.alloc (.cells #[.slice none 0 0] 52)).alloc (.cells #[.int .i64 0, .int .i64 0, .int .i64 1, .int .i64 0] 49) = LA ∧
    LA.heap[L.heap.size]? = some (.cells #[.slice none 0 0] 52 (0, 0)) ∧ LA.heap[L.heap.size + 1]? = some (.cells #[.int .i64 0, .int .i64 0, .int .i64 1, .int .i64 0] 49 (0, 0)) ∧ Keeps L LA := by
  refine ⟨_, rfl, ?_, ?_, ?_, fun b hb => ?_⟩
  · show ((L.heap.push _).push _)[L.heap.size]? = _
    rw [Array.getElem?_push, if_neg (by rw [Array.size_push]; omega), Array.getElem?_push, if_pos rfl]
  · show ((L.heap.push _).push _)[L.heap.size + 1]? = _
    rw [Array.getElem?_push, if_pos (by rw [Array.size_push])]
  · show L.heap.size ≤ ((L.heap.push _).push _).size
    rw [Array.size_push, Array.size_push]; omega
  · show ((L.heap.push _).push _)[b]? = _
    rw [Array.getElem?_push, if_neg (by rw [Array.size_push]; omega), Array.getElem?_push, if_neg (by omega)]
theorem two_rd {W : World} {g : Nat} (h0 : W.heap[g]? = some (.cells #[.slice none 0 0] 52 (0, 0))) (h1 : W.heap[g + 1]? = some (.cells #[.int .i64 0, .int .i64 0, .int .i64 1, .int .i64 0] 49 (0, 0))) :
    RdRules W W.heap.size (some ⟨g, 0, none⟩) [⟨none, 0, []⟩] ∧ Rd W W.heap.size (some ⟨g + 1, 0, none⟩) (flatX [⟨0, 0, 1, 0⟩]) := by
  refine ⟨⟨fun _ => ⟨g, 0, rfl, (Array.getElem?_eq_some_iff.1 h0).1, fun k hk => ?_⟩, fun k hk => ?_, fun k hk => ?_, by simp [Fits]⟩, fun _ => ⟨g + 1, 0, rfl, (Array.getElem?_eq_some_iff.1 h1).1, fun i v hi => ?_⟩⟩
  · obtain rfl : k = 0 := by simp at hk; exact hk
    simp [World.cell?, h0]
  · obtain rfl : k = 0 := by simp at hk; exact hk
    exact .nil _ _ _
  · obtain rfl : k = 0 := by simp at hk; exact hk
    simp [Fits]
  · rw [Nat.zero_add]
    exact cells_at (cs := cellsX ⟨0, 0, 1, 0⟩) h1 i v (by simpa [flatX] using hi)
theorem two_code : goCode [⟨none, 0, []⟩] [⟨0, 0, 1, 0⟩] 0 1 = 0 := by
  refine goCode_of ?_ ⟨by omega, by omega⟩ (by unfold wkOk; omega)
  unfold actCode
  rw [if_neg, if_neg, if_neg]
  · simp
  · simp [rulesBad]
  · simp [letsBad, letOk, kindOk]
theorem two_runA : runA [[]] 1 0 [0] (comeL [⟨0, 0, 1, 0⟩]) [] = some ([0], [⟨0, 0, 1, 0⟩]) := by
  simp [runA, logR, timeR, comeL, Come.add, atR, takeR]
/-- The first run leaves one letter. -/
theorem two_run {v : Value} {L L1 : World} (h : RunPA [⟨none, 0, []⟩] [⟨0, 0, 1, 0⟩] 0 1 L v L1) : ∃ u q c, v = .tuple #[u, .slice q 1 c, .int .i64 0] ∧ Keeps L L1 := by
  rcases h.1 two_code with ⟨h1, _⟩ | ⟨nums, log, u, lv, h1, rfl, _, h4⟩
  · exact absurd (two_runA.symm.trans h1) (by simp)
  · have h2 := two_runA.symm.trans h1
    simp only [Option.some.injEq, Prod.mk.injEq] at h2
    obtain ⟨rfl, rfl⟩ := h2
    obtain ⟨q, c, rfl, _, _⟩ := own_form h4
    exact ⟨u, q, c, rfl, kp_keeps h.2.2⟩
/-- What any run leaves. -/
theorem runE {R : List RulR} {ls : List LetR} {E wk : Int} {v : Value} {L L1 : World} (h : RunPA R ls E wk L v L1) : ∃ p n1 c q n2 d code, v = .tuple #[.slice p n1 c, .slice q n2 d, .int .i64 code] ∧ Keeps L L1 ∧
    (code ≠ 0 ∨ (code = 0 ∧ goCode R ls E wk = 0 ∧ ∃ nums log, runA (R.map (·.rs)) (E.toNat + 1) 0 (List.replicate R.length 0) (comeL ls) [] = some (nums, log) ∧ nums.length = n1 ∧ log.length = n2 ∧ Rd L1 L1.heap.size p (ints nums) ∧ Rd L1 L1.heap.size q (flatX log) ∧ ((q = none ∧ n2 = 0 ∧ d = 0) ∨ ∃ b, q = some ⟨b, 0, none⟩) ∧ n2 ≤ d ∧ d ≤ maxLen)) := by
  by_cases h0 : goCode R ls E wk = 0
  · rcases h.1 h0 with ⟨_, rfl⟩ | ⟨nums, log, u, lv, h1, rfl, h3, h4⟩
    · exact ⟨_, _, _, _, _, _, _, rfl, kp_keeps h.2.2, .inl (by decide)⟩
    · obtain ⟨p, c, rfl, _, _⟩ := own_form h3
      obtain ⟨q, d, rfl, hd1, hd2⟩ := own_form h4
      refine ⟨p, _, c, q, _, d, _, rfl, kp_keeps h.2.2, .inr ⟨rfl, h0, nums, log, h1, rfl, rfl, own_rd h3 rfl, own_rd h4 rfl, ?_, hd1, hd2⟩⟩
      rcases h4.2 with ⟨e, e0⟩ | ⟨b, _, _, e, _⟩
      · simp only [Value.slice.injEq] at e
        exact .inl ⟨e.1, e.2.1, e.2.2⟩
      · simp only [Value.slice.injEq] at e
        exact .inr ⟨b, e.1⟩
  · exact ⟨_, _, _, _, _, _, _, h.2.1 h0, kp_keeps h.2.2, .inl h0⟩
theorem Rd.pre {w : World} {B : Nat} {A : Option Addr} {xs ys : List LetR} (h : Rd w B A (flatX (xs ++ ys))) : Rd w B A (flatX xs) := by
  intro hne
  rw [flatX_app] at h
  obtain ⟨b, o, e, hb, hc⟩ := h (by simp [hne])
  exact ⟨b, o, e, hb, fun i v hi => hc i v (by rw [List.getElem?_append_left (List.getElem?_eq_some_iff.1 hi).1]; exact hi)⟩
/-- A rule among the first. -/
theorem hasR_take {rs : List RuleR} {x : LetR} {k : Nat} (h : k < rs.length) : hasR (rs.take (k + 1)) x = (hasR (rs.take k) x || rs[k].kind == x.kind) := by
  unfold hasR
  rw [List.take_succ_eq_append_getElem h, List.any_append]
  simp
end Go.Proofs.Yticdjkkcfdbdcaa
