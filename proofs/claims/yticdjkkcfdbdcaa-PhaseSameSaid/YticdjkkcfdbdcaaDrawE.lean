/- A region whose order is drawn, alone, in which some operations act, one behind the other; the rest are quiet. No program; no conditions but those named. -/
import Derived.Test.YticdjkkcfdbdcaaTop
namespace Go.Proofs.Yticdjkkcfdbdcaa
open Go.Conc Go.ConcN
section
variable {ops : Array Oper} {m : Nat} {P : Program}
def setV (V : Nat → Value) (i : Nat) (v : Value) : Nat → Value := fun j => if j = i then v else V j
theorem Held.setV {V : Nat → Value} {a a' : Act} {listed : Array Bool} (h : Held ops V m a listed a') {i : Nat} (hi : listed.getD i false = false) (v : Value) : Held ops (setV V i v) m a listed a' := by
  refine ⟨h.size, h.tsize, h.defers, fun t ht => ?_, h.closed, h.last⟩
  rw [h.val t ht]
  unfold valAt Go.Proofs.Yticdjkkcfdbdcaa.setV
  cases prodOf ops t with
  | none => rfl
  | some j =>
    simp only
    by_cases e : j = i
    · subst e; simp [hi]
    · simp [e]
/-- Every order: S tells of what is listed, of the values, of the world. -/
theorem wp_drawnA (hmx : P.follows .mixedOrders = true) (hok : drawOk ops m = true) (S : Array Bool → (Nat → Value) → World → Prop) {id : Nat} {a : Act} {Q : Exit → Act → World → Prop}
    (hop : ∀ i o, ops[i]? = some o → i ≠ m → ∀ l V w, l.size = ops.size → l.getD i false = false → (∀ j, reachB ops ops.size i j = true → l.getD j false = true) → S l V w → ∃ v w', (execOp (putsV ops V (List.range m) a).eval o).run P w = .ok (.value v) w' ∧ S (l.setIfInBounds i true) (setV V i v) w')
    (hlast : ∀ l V w, (∀ i, i < m → l.getD i false = true) → S l V w → wpOps P ops Q [m] (putsV ops V (List.range m) a) w) {w : World} {V : Nat → Value} (h0 : ∀ d, S (Array.replicate ops.size false) V { w with drawn := d }) : (Code.region id ops true).wp P Q a w := by
  have key : ∀ (fuel t : Nat) (listed : Array Bool) (V : Nat → Value) (a' : Act) (w : World), Held ops V m a listed a' → ((List.range ops.size).filter fun i => !listed.getD i true).length ≤ fuel → S listed V w → wpOps P ops Q (Region.linearise.go .any ops fuel t listed []) a' w := by
    intro fuel
    induction fuel with
    | zero =>
      intro t listed V a' w hh hc _
      exfalso
      have hm : m + 1 = ops.size := by unfold drawOk at hok; simp only [Bool.and_eq_true, decide_eq_true_eq] at hok; exact hok.1
      have : m ∈ (List.range ops.size).filter fun i => !listed.getD i true := List.mem_filter.2 ⟨List.mem_range.2 (by omega), by rw [getD_true (by rw [hh.size]; omega), hh.last]; rfl⟩
      have := List.length_pos_of_mem this
      omega
    | succ fuel ih =>
      intro t listed V a' w hh hc hS
      have hm : m + 1 = ops.size := by
        have hok' := hok
        unfold drawOk at hok'; simp only [Bool.and_eq_true, decide_eq_true_eq] at hok'; exact hok'.1
      have hne : ∃ j, j ∈ Region.ready .any ops listed := ready_least hok m m (Nat.le_refl _) (by omega) (by rw [getD_true (by rw [hh.size]; omega)]; exact hh.last)
      simp only [Region.linearise.go]
      change wpOps P ops Q (match (Region.ready .any ops listed)[t % (Region.ready .any ops listed).length]? with
        | some i => Region.linearise.go .any ops fuel (t / (Region.ready .any ops listed).length) (listed.setIfInBounds i true) [i]
        | none => [].reverse) a' w
      cases hi : (Region.ready .any ops listed)[t % (Region.ready .any ops listed).length]? with
      | none =>
        exfalso
        obtain ⟨j, hj⟩ := hne
        have hpos := List.length_pos_of_mem hj
        have hlt : t % (Region.ready .any ops listed).length < (Region.ready .any ops listed).length := Nat.mod_lt _ hpos
        rw [List.getElem?_eq_none_iff] at hi
        omega
      | some i =>
        simp only []
        rw [linearise_go_acc, List.reverse_singleton, List.singleton_append]
        have hmem := List.mem_of_getElem? hi
        obtain ⟨hin, hrd⟩ := List.mem_filter.1 hmem
        have hin' := List.mem_range.1 hin
        have ho : ops[i]? = some ops[i] := Array.getElem?_eq_getElem hin'
        simp only [Bool.and_eq_true, Bool.not_eq_true', ho, Option.map_some, Option.getD_some] at hrd
        obtain ⟨hun, hall⟩ := hrd
        rw [Array.all_eq_true'] at hall
        have hedge : ∀ e ∈ ops[i].after, Region.binds .any e = true → listed.getD e.on false = true := fun e he hb => by
          have := hall e he
          simpa [hb] using this
        have hli : i < listed.size := by rw [hh.size]; exact hin'
        have hif : listed.getD i false = false := by rw [← getD_true hli]; exact hun
        by_cases him : i = m
        · subst him
          have hothersF : ∀ j, j < ops.size → j ≠ i → listed.getD j false = true := fun j hj e => by
            have hreach := (drawOk_at hok (Array.getElem?_eq_getElem hj)).2.2.2.2.1.resolve_left e
            exact hh.reach _ i j hreach fun o' ho' => by rw [ho] at ho'; cases ho'; exact hedge
          have hrest : Region.linearise.go .any ops fuel (t / (Region.ready .any ops listed).length) (listed.setIfInBounds i true) [] = [] := by
            have hothers : ∀ j, j < ops.size → (listed.setIfInBounds i true).getD j true = true := fun j hj => by
              rw [getD_true (by simp [hh.size]; exact hj), getD_set _ _ _ hli]
              by_cases e : j = i
              · rw [if_pos e]
              · rw [if_neg e]; exact hothersF j hj e
            cases fuel with
            | zero => rfl
            | succ f =>
              simp only [Region.linearise.go]
              have : (List.range ops.size).filter (fun j => !(listed.setIfInBounds i true).getD j true && ((ops[j]?).map (·.after.all fun e => !Region.binds .any e || (listed.setIfInBounds i true).getD e.on false)).getD false) = [] := by
                rw [List.filter_eq_nil_iff]
                intro j hj
                rw [hothers j (List.mem_range.1 hj)]
                simp
              rw [this]
              rfl
          rw [hrest]
          have hfull : a' = putsV ops V (List.range i) a := hh.full hok fun j hj => hothersF j (by omega) (by omega)
          rw [hfull]
          exact hlast listed V w (fun j hj => hothersF j (by omega) (by omega)) hS
        · have heval := hh.eval hok ho him hedge
          have hwant : Region.wanted ops[i] (yielded ops a'.tmps) = true := by unfold Region.wanted; rw [(drawOk_at hok ho).2.1]
          have hcnt : ((List.range ops.size).filter fun j => !(listed.setIfInBounds i true).getD j true).length ≤ fuel := by
            have e : (List.range ops.size).filter (fun j => !(listed.setIfInBounds i true).getD j true) = ((List.range ops.size).filter fun j => !listed.getD j true).filter fun j => j != i := by
              rw [List.filter_filter]
              refine List.filter_congr fun j hj => ?_
              have hj' := List.mem_range.1 hj
              rw [getD_true (by simp [hh.size]; exact hj'), getD_set _ _ _ hli, getD_true (by rw [hh.size]; exact hj')]
              by_cases e : j = i
              · simp [e]
              · simp [e]
            have hmi : i ∈ (List.range ops.size).filter fun j => !listed.getD j true := List.mem_filter.2 ⟨hin, by rw [hun]; rfl⟩
            have hlt := (List.length_filter_lt_length_iff_exists (p := fun j => j != i) (l := (List.range ops.size).filter fun j => !listed.getD j true)).2 ⟨i, hmi, by simp⟩
            rw [e]; omega
          obtain ⟨v, w', hrun, hS'⟩ := hop i _ ho him listed V w hh.size hif (fun j hj => hh.reach _ i j hj fun o' ho' => by rw [ho] at ho'; cases ho'; exact hedge) hS
          have hstep := (hh.setV hif v).step hok ho him hedge
          have hv : Go.Proofs.Yticdjkkcfdbdcaa.setV V i v i = v := if_pos rfl
          rw [hv] at hstep
          simp only [wpOps, ho, hwant, if_true]
          refine .inl ?_
          unfold Oper.wp
          rw [← heval] at hrun
          rw [hrun]
          exact ih _ _ _ _ w' hstep hcnt hS'
  refine wp_region_draw fun t => ?_
  simp only [Region.schedule, hmx, Bool.true_or, if_true]
  refine key ops.size _ _ V a _ ⟨by simp, rfl, rfl, fun t ht => ?_, fun j o hj => ?_, ?_⟩ ?_ (h0 _)
  · unfold valAt
    have hrep : ∀ j, (Array.replicate ops.size false).getD j false = false := fun j => by
      rw [Array.getD_eq_getD_getElem?, Array.getElem?_replicate]
      split <;> rfl
    cases prodOf ops t with
    | none => rfl
    | some j => simp only [hrep]; rfl
  · exfalso
    rw [Array.getD_eq_getD_getElem?, Array.getElem?_replicate] at hj
    split at hj <;> simp at hj
  · rw [Array.getD_eq_getD_getElem?, Array.getElem?_replicate]
    split <;> rfl
  · exact Nat.le_trans (List.length_filter_le _ _) (by simp)
/-- The acting ones, in their order; the quiet ones ask nothing of them. -/
def chainOk (ops : Array Oper) (m : Nat) (E : List Nat) : Bool :=
  (E.all fun i => decide (i < m)) && ((List.range E.length).all fun n => (List.range n).all fun n' => match E[n]?, E[n']? with
    | some i, some j => i != j && reachB ops ops.size i j
    | _, _ => false) &&
  (List.range ops.size).all fun i => E.contains i || i == m || (match ops[i]? with
    | none => true
    | some o => o.op.operands.all fun x => match x with
      | .tmp t => (match prodOf ops t with | none => true | some j => !E.contains j)
      | _ => true)
/-- The values, those of the acting ones known so far. -/
def VE (E : List Nat) (V : Nat → Value) (vs : List Value) (i : Nat) : Value := match E.findIdx? (· == i) with
  | some n => vs.getD n undef
  | none => V i
theorem wp_drawnE (hmx : P.follows .mixedOrders = true) (hok : drawOk ops m = true) {E : List Nat} (hE : chainOk ops m E = true) (S : List Value → World → Prop) (V : Nat → Value) {id : Nat} {a : Act} {Q : Exit → Act → World → Prop}
    (hq : ∀ i o, ops[i]? = some o → i ≠ m → i ∉ E → ∀ vs w, S vs w → (execOp (putsV ops V (List.range m) a).eval o).run P w = .ok (.value (V i)) w)
    (he : ∀ (n i : Nat) o, E[n]? = some i → ops[i]? = some o → ∀ vs w, vs.length = n → S vs w → ∃ v w', (execOp (putsV ops (VE E V vs) (List.range m) a).eval o).run P w = .ok (.value v) w' ∧ S (vs ++ [v]) w')
    (hlast : ∀ vs w, vs.length = E.length → S vs w → wpOps P ops Q [m] (putsV ops (VE E V vs) (List.range m) a) w) {w : World} (h0 : ∀ d, S [] { w with drawn := d }) : (Code.region id ops true).wp P Q a w := by
  unfold chainOk at hE
  simp only [Bool.and_eq_true] at hE
  obtain ⟨⟨hE0, hE1⟩, hE2⟩ := hE
  rw [List.all_eq_true] at hE0 hE1 hE2
  have hlt : ∀ i ∈ E, i < m := fun i hi => by simpa using hE0 i hi
  have hch : ∀ (n n' i j : Nat), n' < n → E[n]? = some i → E[n']? = some j → i ≠ j ∧ reachB ops ops.size i j = true := fun n n' i j hn hi hj => by
    have hnl : n < E.length := (List.getElem?_eq_some_iff.1 hi).1
    have := hE1 n (List.mem_range.2 hnl)
    rw [List.all_eq_true] at this
    have := this n' (List.mem_range.2 hn)
    rw [hi, hj] at this
    simpa using this
  have hqt : ∀ i o, ops[i]? = some o → i ≠ m → i ∉ E → ∀ t, .tmp t ∈ o.op.operands → ∀ j, prodOf ops t = some j → j ∉ E := fun i o ho hi hn t ht j hj hjE => by
    have := hE2 i (List.mem_range.2 (Array.getElem?_eq_some_iff.1 ho).1)
    have hc : E.contains i = false := by simpa using hn
    simp only [hc, Bool.false_or, ho, beq_iff_eq, Bool.or_eq_true, hi, false_or] at this
    rw [Array.all_eq_true'] at this
    have := this _ ht
    simp only [hj] at this
    simp at this
    exact this hjE
  have hidx : ∀ (n i : Nat), E[n]? = some i → E.findIdx? (· == i) = some n := fun n i hi => by
    rw [List.findIdx?_eq_some_iff_getElem]
    obtain ⟨hnl, rfl⟩ := List.getElem?_eq_some_iff.1 hi
    refine ⟨hnl, by simp, fun j hj => ?_⟩
    have := (hch n j E[n] E[j] hj hi (List.getElem?_eq_getElem (by omega))).1
    simp only [beq_iff_eq, Bool.not_eq_true]
    exact fun e => this e.symm
  have hnot : ∀ i, i ∉ E → E.findIdx? (· == i) = none := fun i hi => by
    rw [List.findIdx?_eq_none_iff]
    intro x hx
    simp only [beq_eq_false_iff_ne, ne_eq]
    exact fun e => hi (e ▸ hx)
  have hputs : ∀ (V1 V2 : Nat → Value), (∀ i, i < m → V1 i = V2 i) → putsV ops V1 (List.range m) a = putsV ops V2 (List.range m) a := fun V1 V2 h => by
    have : ∀ (l : List Nat), (∀ i ∈ l, i < m) → ∀ b : Act, putsV ops V1 l b = putsV ops V2 l b := by
      intro l
      induction l with
      | nil => intro _ b; rfl
      | cons i r ih => intro hl b; simp only [putsV]; rw [h i (hl i (List.mem_cons_self ..))]; exact ih (fun j hj => hl j (List.mem_cons_of_mem _ hj)) _
    exact this _ (fun i hi => List.mem_range.1 hi) a
  refine wp_drawnA hmx hok (fun l V1 w => ∃ vs : List Value, vs.length ≤ E.length ∧ (∀ (n i : Nat), E[n]? = some i → (l.getD i false = true ↔ n < vs.length)) ∧ (∀ i, i < m → (i ∈ E → l.getD i false = true) → V1 i = VE E V vs i) ∧ S vs w) (V := V) (fun i o ho him l V1 w hls hi hreach hS => ?_) (fun l V1 w hall hS => ?_) fun d => ?_
  · obtain ⟨vs, h1, h2, h3, h4⟩ := hS
    have him' : i < m := by
      have : i < ops.size := (Array.getElem?_eq_some_iff.1 ho).1
      have hm : m + 1 = ops.size := (drawOk_at hok ho).1
      omega
    have hil : i < l.size := by rw [hls]; exact (Array.getElem?_eq_some_iff.1 ho).1
    by_cases hiE : i ∈ E
    · obtain ⟨n, hn⟩ := List.getElem?_of_mem hiE
      have hnl : n < E.length := (List.getElem?_eq_some_iff.1 hn).1
      have hvn : vs.length = n := by
        refine Nat.le_antisymm ?_ ?_
        · rcases Nat.lt_or_ge n vs.length with h | h
          · rw [(h2 n i hn).2 h] at hi; cases hi
          · exact h
        · cases n with
          | zero => exact Nat.zero_le _
          | succ n =>
            have hj : E[n]? = some E[n] := List.getElem?_eq_getElem (by omega)
            exact (h2 n _ hj).1 (hreach _ (hch (n + 1) n i _ (Nat.lt_succ_self _) hn hj).2)
      obtain ⟨v, w', g1, g2⟩ := he n i o hn ho vs w hvn h4
      -- the operands are known
      have hev : execOp (putsV ops V1 (List.range m) a).eval o = execOp (putsV ops (VE E V vs) (List.range m) a).eval o := by
        obtain ⟨hm, _, hs, _, _, _, hx⟩ := drawOk_at hok ho
        refine execOp_congr o hs fun x hxm => ?_
        cases x with
        | const v => rfl
        | global g => rfl
        | func f => rfl
        | tmp t =>
          obtain ⟨q1, q2, q3⟩ := putsV_val (V := V1) (fun i o ho d hd => (drawOk_at hok ho).2.2.2.2.2.1 d hd) (List.range m) a
          obtain ⟨r1, r2, r3⟩ := putsV_val (V := VE E V vs) (fun i o ho d hd => (drawOk_at hok ho).2.2.2.2.2.1 d hd) (List.range m) a
          show (putsV ops V1 (List.range m) a).tmps.getD t undef = (putsV ops (VE E V vs) (List.range m) a).tmps.getD t undef
          by_cases ht : t < a.tmps.size
          · rw [q3 t ht, r3 t ht]
            cases hp : prodOf ops t with
            | none => rfl
            | some j =>
              rcases (hx.resolve_left him) _ hxm t rfl j hp with rfl | ⟨e, hea, hb, rfl⟩
              · simp
              by_cases hjm' : e.on = m
              · simp [hjm']
              have hjm : e.on < m := by
                have : e.on < ops.size := List.mem_range.1 (List.mem_of_find?_eq_some hp)
                omega
              have hjl : l.getD e.on false = true := hreach _ (by
                have hsz : ops.size = (ops.size - 1) + 1 := by omega
                rw [hsz]; unfold reachB; rw [ho]
                simp only [Array.any_eq_true', Bool.and_eq_true, Bool.or_eq_true, beq_iff_eq]
                exact ⟨e, hea, hb, .inl rfl⟩)
              simp only [List.mem_range, hjm, if_true]
              exact h3 _ hjm fun _ => hjl
          · have p1 : (putsV ops V1 (List.range m) a).tmps[t]? = none := Array.getElem?_eq_none (by rw [q1]; exact Nat.not_lt.1 ht)
            have p2 : (putsV ops (VE E V vs) (List.range m) a).tmps[t]? = none := Array.getElem?_eq_none (by rw [r1]; exact Nat.not_lt.1 ht)
            rw [Array.getD_eq_getD_getElem?, Array.getD_eq_getD_getElem?, p1, p2]
      refine ⟨v, w', by rw [hev]; exact g1, vs ++ [v], by simp; omega, fun n' j hj => ?_, fun j hj hjE => ?_, g2⟩
      · rw [getD_set _ _ _ hil]
        by_cases e : j = i
        · subst e
          have : n' = n := Option.some.inj ((hidx n' j hj).symm.trans (hidx n j hn))
          simp; omega
        · rw [if_neg e, h2 n' j hj]
          have : n' ≠ n := fun e2 => e (by subst e2; rw [hn] at hj; exact (Option.some.inj hj).symm)
          simp; omega
      · by_cases e : j = i
        · subst e
          show (if j = j then v else V1 j) = _
          rw [if_pos rfl]
          unfold VE
          rw [hidx n j hn]
          simp [← hvn]
        · show (if j = i then v else V1 j) = _
          rw [if_neg e, h3 j hj (fun hx => by have := hjE hx; rwa [getD_set _ _ _ hil, if_neg e] at this)]
          unfold VE
          by_cases hx : j ∈ E
          · obtain ⟨n', hn'⟩ := List.getElem?_of_mem hx
            rw [hidx n' j hn']
            have hl := hjE hx
            rw [getD_set _ _ _ hil, if_neg e] at hl
            have := (h2 n' j hn').1 hl
            simp only [List.getD_eq_getElem?_getD]
            rw [List.getElem?_append_left this]
          · rw [hnot j hx]
    · have hev : execOp (putsV ops V1 (List.range m) a).eval o = execOp (putsV ops V (List.range m) a).eval o := by
        obtain ⟨hm, _, hs, _, _, _, hx⟩ := drawOk_at hok ho
        refine execOp_congr o hs fun x hxm => ?_
        cases x with
        | const v => rfl
        | global g => rfl
        | func f => rfl
        | tmp t =>
          obtain ⟨q1, q2, q3⟩ := putsV_val (V := V1) (fun i o ho d hd => (drawOk_at hok ho).2.2.2.2.2.1 d hd) (List.range m) a
          obtain ⟨r1, r2, r3⟩ := putsV_val (V := V) (fun i o ho d hd => (drawOk_at hok ho).2.2.2.2.2.1 d hd) (List.range m) a
          show (putsV ops V1 (List.range m) a).tmps.getD t undef = (putsV ops V (List.range m) a).tmps.getD t undef
          by_cases ht : t < a.tmps.size
          · rw [q3 t ht, r3 t ht]
            cases hp : prodOf ops t with
            | none => rfl
            | some j =>
              have hjE := hqt i o ho him hiE t hxm j hp
              simp only [List.mem_range]
              by_cases hjm : j < m
              · simp only [hjm, if_true]
                rw [h3 j hjm fun hx => absurd hx hjE]
                unfold VE
                rw [hnot j hjE]
              · simp [hjm]
          · have p1 : (putsV ops V1 (List.range m) a).tmps[t]? = none := Array.getElem?_eq_none (by rw [q1]; exact Nat.not_lt.1 ht)
            have p2 : (putsV ops V (List.range m) a).tmps[t]? = none := Array.getElem?_eq_none (by rw [r1]; exact Nat.not_lt.1 ht)
            rw [Array.getD_eq_getD_getElem?, Array.getD_eq_getD_getElem?, p1, p2]
      refine ⟨V i, w, by rw [hev]; exact hq i o ho him hiE vs w h4, vs, h1, fun n j hj => ?_, fun j hj hjE => ?_, h4⟩
      · have e : j ≠ i := fun e => hiE (e ▸ List.mem_of_getElem? hj)
        rw [getD_set _ _ _ hil, if_neg e]
        exact h2 n j hj
      · by_cases e : j = i
        · subst e
          show (if j = j then V j else V1 j) = _
          rw [if_pos rfl]
          unfold VE
          rw [hnot j hiE]
        · show (if j = i then V i else V1 j) = _
          rw [if_neg e]
          exact h3 j hj fun hx => by have := hjE hx; rwa [getD_set _ _ _ hil, if_neg e] at this
  · obtain ⟨vs, h1, h2, h3, h4⟩ := hS
    have hlen : vs.length = E.length := by
      refine Nat.le_antisymm h1 ?_
      cases hEl : E.length with
      | zero => exact Nat.zero_le _
      | succ n =>
        have hj : E[n]? = some E[n] := List.getElem?_eq_getElem (by omega)
        exact (h2 n _ hj).1 (hall _ (hlt _ (List.mem_of_getElem? hj)))
    rw [hputs V1 (VE E V vs) fun i hi => h3 i hi fun _ => hall i hi]
    exact hlast vs w hlen h4
  · refine ⟨[], Nat.zero_le _, fun n i hi => ?_, fun i hi hiE => ?_, h0 d⟩
    · have : (Array.replicate ops.size false).getD i false = false := by
        rw [Array.getD_eq_getD_getElem?, Array.getElem?_replicate]
        split <;> rfl
      simp [this]
    · have : (Array.replicate ops.size false).getD i false = false := by
        rw [Array.getD_eq_getD_getElem?, Array.getElem?_replicate]
        split <;> rfl
      have hx : i ∉ E := fun hx => by rw [hiE hx] at this; cases this
      unfold VE
      rw [hnot i hx]
end
end Go.Proofs.Yticdjkkcfdbdcaa
