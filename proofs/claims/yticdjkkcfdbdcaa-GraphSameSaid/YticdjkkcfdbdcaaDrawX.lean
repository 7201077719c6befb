/- A region whose order is drawn, in company, in which one operation acts and the goroutine's state turns. No program; no conditions but those named. -/
import Derived.Test.YticdjkkcfdbdcaaDrawE
namespace Go.Proofs.Yticdjkkcfdbdcaa
open Go.Conc Go.ConcN
section
variable {ops : Array Oper} {m : Nat} {V : Nat → Value} {P : Program} {main : Bool}
theorem j_drawX {J : Option Value → LK → Goroutine → World → Prop} {R : LK → World → World → Prop} (hJ : ∀ z, JOk P main R (J z)) (hmx : P.follows .mixedOrders = true) (hok : drawOk ops m = true) (S : Option Value → LK → World → Prop) (hSR : ∀ z k w w₁, S z k w → R k w w₁ → S z k w₁) (hSd : ∀ z k w d, S z k w → S z k (w.at d)) {e : Nat} (hem : e ≠ m) (hel : e < ops.size) {id : Nat} {b : Frame} {K : List Item} {cs : List Frame} {a : Act} (hb : b.kind ≠ .early)
    (hop : ∀ z v i o, ops[i]? = some o → i ≠ m → i ≠ e → ∀ k w, S z k w → (execOp (putsV ops (setV V e v) (List.range m) a).eval o).run P w = .ok (.value (V i)) w ∧ Own k w w (seen P b.fn ((execOp (putsV ops (setV V e v) (List.range m) a).eval o).events P w #[])))
    (hact : ∀ a' o rest k w, ops[e]? = some o → (∀ t, t < a.tmps.size → prodOf ops t = none → a'.eval (.tmp t) = a.eval (.tmp t)) → S none k w → (∀ v k1 w1, S (some v) k1 w1 → J (some v) k1 (G (b.at (a'.put o.dst v) (.inRegion ops rest :: K)) cs) w1) → J none k (G (b.at a' (.inRegion ops (e :: rest) :: K)) cs) w)
    (hlast : ∀ v k w, S (some v) k w → J (some v) k (G (b.at (putsV ops (setV V e v) (List.range m) a) (.inRegion ops [m] :: K)) cs) w) {k : LK} {W : World} (h0 : S none k W) : J none k (G (b.at a (.code (.region id ops true) :: K)) cs) W := by
  let VV : Option Value → Nat → Value := fun z => setV V e (z.getD undef)
  have key : ∀ (fuel t : Nat) (listed : Array Bool) (a' : Act) (z : Option Value) (k : LK) (w : World), Held ops (VV z) m a listed a' → z.isSome = listed.getD e false → ((List.range ops.size).filter fun i => !listed.getD i true).length ≤ fuel → S z k w → J z k (G (b.at a' (.inRegion ops (Region.linearise.go .any ops fuel t listed []) :: K)) cs) w := by
    intro fuel
    induction fuel with
    | zero =>
      intro t listed a' z k w hh _ hc _
      exfalso
      have hm : m + 1 = ops.size := by unfold drawOk at hok; simp only [Bool.and_eq_true, decide_eq_true_eq] at hok; exact hok.1
      have : m ∈ (List.range ops.size).filter fun i => !listed.getD i true := List.mem_filter.2 ⟨List.mem_range.2 (by omega), by rw [getD_true (by rw [hh.size]; omega), hh.last]; rfl⟩
      have := List.length_pos_of_mem this
      omega
    | succ fuel ih =>
      intro t listed a' z k w hh hze hc hS
      have hm : m + 1 = ops.size := by
        have hok' := hok
        unfold drawOk at hok'; simp only [Bool.and_eq_true, decide_eq_true_eq] at hok'; exact hok'.1
      have hne : ∃ j, j ∈ Region.ready .any ops listed := ready_least hok m m (Nat.le_refl _) (by omega) (by rw [getD_true (by rw [hh.size]; omega)]; exact hh.last)
      simp only [Region.linearise.go]
      change J z k (G (b.at a' (.inRegion ops (match (Region.ready .any ops listed)[t % (Region.ready .any ops listed).length]? with
        | some i => Region.linearise.go .any ops fuel (t / (Region.ready .any ops listed).length) (listed.setIfInBounds i true) [i]
        | none => [].reverse) :: K)) cs) w
      cases hi : (Region.ready .any ops listed)[t % (Region.ready .any ops listed).length]? with
      | none =>
        exfalso
        obtain ⟨j, hj⟩ := hne
        have hpos := List.length_pos_of_mem hj
        have hlt : t % (Region.ready .any ops listed).length < (Region.ready .any ops listed).length := Nat.mod_lt _ hpos
        rw [List.getElem?_eq_none_iff] at hi
        omega
      | some i =>
        simp only []
        rw [linearise_go_acc, List.reverse_singleton, List.singleton_append]
        have hmem := List.mem_of_getElem? hi
        obtain ⟨hin, hrd⟩ := List.mem_filter.1 hmem
        have hin' := List.mem_range.1 hin
        have ho : ops[i]? = some ops[i] := Array.getElem?_eq_getElem hin'
        simp only [Bool.and_eq_true, Bool.not_eq_true', ho, Option.map_some, Option.getD_some] at hrd
        obtain ⟨hun, hall⟩ := hrd
        rw [Array.all_eq_true'] at hall
        have hedge : ∀ e ∈ ops[i].after, Region.binds .any e = true → listed.getD e.on false = true := fun e he hb => by
          have := hall e he
          simpa [hb] using this
        have hli : i < listed.size := by rw [hh.size]; exact hin'
        by_cases him : i = m
        · subst him
          have hrest : Region.linearise.go .any ops fuel (t / (Region.ready .any ops listed).length) (listed.setIfInBounds i true) [] = [] := by
            have hothers : ∀ j, j < ops.size → (listed.setIfInBounds i true).getD j true = true := fun j hj => by
              rw [getD_true (by simp [hh.size]; exact hj), getD_set _ _ _ hli]
              by_cases e : j = i
              · rw [if_pos e]
              · rw [if_neg e]
                have hreach := (drawOk_at hok (Array.getElem?_eq_getElem hj)).2.2.2.2.1.resolve_left e
                exact hh.reach _ i j hreach fun o' ho' => by rw [ho] at ho'; cases ho'; exact hedge
            cases fuel with
            | zero => rfl
            | succ f =>
              simp only [Region.linearise.go]
              have : (List.range ops.size).filter (fun j => !(listed.setIfInBounds i true).getD j true && ((ops[j]?).map (·.after.all fun e => !Region.binds .any e || (listed.setIfInBounds i true).getD e.on false)).getD false) = [] := by
                rw [List.filter_eq_nil_iff]
                intro j hj
                rw [hothers j (List.mem_range.1 hj)]
                simp
              rw [this]
              rfl
          rw [hrest]
          have hall' : ∀ j, j < i → listed.getD j false = true := fun j hj => by
            have hj' : j < ops.size := by omega
            have hreach := (drawOk_at hok (Array.getElem?_eq_getElem hj')).2.2.2.2.1.resolve_left (by omega)
            exact hh.reach _ i j hreach fun o' ho' => by rw [ho] at ho'; cases ho'; exact hedge
          have hfull : a' = putsV ops (VV z) (List.range i) a := hh.full hok hall'
          rw [hall' e (by omega)] at hze
          obtain ⟨v, rfl⟩ := Option.isSome_iff_exists.1 hze
          rw [hfull]
          exact hlast v k w hS
        · have heval := hh.eval hok ho him hedge
          have hwant : Region.wanted ops[i] (yielded ops a'.tmps) = true := by unfold Region.wanted; rw [(drawOk_at hok ho).2.1]
          have hstep := hh.step hok ho him hedge
          have hcnt : ((List.range ops.size).filter fun j => !(listed.setIfInBounds i true).getD j true).length ≤ fuel := by
            have e : (List.range ops.size).filter (fun j => !(listed.setIfInBounds i true).getD j true) = ((List.range ops.size).filter fun j => !listed.getD j true).filter fun j => j != i := by
              rw [List.filter_filter]
              refine List.filter_congr fun j hj => ?_
              have hj' := List.mem_range.1 hj
              rw [getD_true (by simp [hh.size]; exact hj'), getD_set _ _ _ hli, getD_true (by rw [hh.size]; exact hj')]
              by_cases e : j = i
              · simp [e]
              · simp [e]
            have hmi : i ∈ (List.range ops.size).filter fun j => !listed.getD j true := List.mem_filter.2 ⟨hin, by rw [hun]; rfl⟩
            have hlt := (List.length_filter_lt_length_iff_exists (p := fun j => j != i) (l := (List.range ops.size).filter fun j => !listed.getD j true)).2 ⟨i, hmi, by simp⟩
            rw [e]; omega
          by_cases hie : i = e
          · subst hie
            have hunf : listed.getD i false = false := by rw [← getD_true hli]; exact hun
            rw [hunf] at hze
            have hz : z = none := by cases z with | none => rfl | some v => cases hze
            subst hz
            refine hact a' _ _ k w ho (fun t ht hp => ?_) hS fun v k1 w1 hS1 => ?_
            · show a'.tmps.getD t undef = a.tmps.getD t undef
              rw [hh.val t ht]
              unfold valAt
              rw [hp]
            · have h1 := (hh.setV hunf v).step hok ho him hedge
              have h2 : setV (VV none) i v = VV (some v) := by
                funext j
                show (if j = i then v else if j = i then _ else V j) = if j = i then v else V j
                split <;> rfl
              rw [h2] at h1
              have h3 : VV (some v) i = v := by show (if i = i then v else V i) = v; rw [if_pos rfl]
              rw [h3] at h1
              exact ih _ _ _ (some v) k1 w1 h1 (by rw [getD_set _ _ _ hli, if_pos rfl]; rfl) hcnt hS1
          · refine (hJ z).own _ _ _ rfl rfl fun w₁ hR => ?_
            have hS1 := hSR _ _ _ _ hS hR
            obtain ⟨g1, g2⟩ := hop z (z.getD undef) i _ ho him hie k w₁ hS1
            rw [← heval] at g1 g2
            refine ⟨_, w₁, _, stepG_value ho hwant hb g1, g2, ?_⟩
            rw [grow_self]
            have h3 : VV z i = V i := by show (if i = e then _ else V i) = V i; rw [if_neg hie]
            rw [h3] at hstep
            exact ih _ _ _ z k w₁ hstep (by rw [getD_set _ _ _ hli, if_neg (fun e2 => hie e2.symm)]; exact hze) hcnt hS1
  refine (hJ none).own _ _ _ rfl rfl fun w₁ hR => ⟨_, w₁.at (w₁.drawn + 1), #[], stepG_region_draw, ⟨.at k w₁ _, by simp⟩, ?_⟩
  have hsz : (w₁.at (w₁.drawn + 1)).heap.size = w₁.heap.size := rfl
  rw [hsz, grow_self]
  simp only [Region.schedule, hmx, Bool.true_or, if_true]
  have hrep : ∀ j, (Array.replicate ops.size false).getD j false = false := fun j => by
    rw [Array.getD_eq_getD_getElem?, Array.getElem?_replicate]
    split <;> rfl
  refine key ops.size _ _ a none k _ ⟨by simp, rfl, rfl, fun t ht => ?_, fun j o hj => ?_, hrep m⟩ (by rw [hrep]; rfl) ?_ (hSd _ _ _ _ (hSR _ _ _ _ h0 hR))
  · unfold valAt
    cases prodOf ops t with
    | none => rfl
    | some j => simp only [hrep]; rfl
  · rw [hrep] at hj; cases hj
  · exact Nat.le_trans (List.length_filter_le _ _) (by simp)
end
end Go.Proofs.Yticdjkkcfdbdcaa
