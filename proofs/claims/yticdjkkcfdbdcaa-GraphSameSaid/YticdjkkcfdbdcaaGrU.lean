/- What a worker may do: it takes a job, tells those that wait for it, sends on who can begin, says that it is done, closes the queue. No program; no conditions but those named. -/
import Derived.Test.YticdjkkcfdbdcaaGrG
import Derived.Test.YticdjkkcfdbdcaaQueue
namespace Go.Proofs.Yticdjkkcfdbdcaa
open Go.Conc Go.ConcN
section
variable {t : Trace} {n : Nat} {K : Nat → LK} {w : World} {i : Nat}
theorem at_two (t : Trace) (a b : MemOp) : (t ++ #[a, b])[t.size]? = some a ∧ (t ++ #[a, b])[t.size + 1]? = some b := by
  constructor
  · rw [Array.getElem?_append_right (Nat.le_refl _)]; simp
  · rw [Array.getElem?_append_right (by omega)]; simp
theorem heard_fst {a b : MemOp} (ha : a.g = i) (hd : Deaf t i = 0) : (t ++ #[a, b]).heard t.size := ⟨i, by simp [Trace.g?, ha], by rw [deaf_old (Nat.le_refl _)]; exact hd⟩
theorem heard_snd {a b : MemOp} (ha : a.g = i) (hb : b.g = i) (hm : a.act ≠ .mark .disable ∧ a.act ≠ .mark .enable) (hd : Deaf t i = 0) : (t ++ #[a, b]).heard (t.size + 1) :=
  ⟨i, by simp [Trace.g?, hb], by rw [deaf_step _ _ _ fun op hop => (by rw [(at_two t a b).1] at hop; cases hop; exact hm), deaf_old (Nat.le_refl _)]; exact hd⟩
/-- Who receives what was sent knows the sending. -/
theorem knows_hand {p c r : Nat} (hp : t.act? p = some (.send c r)) (hh : t.heard p) (hd : Deaf t i = 0) {a b : MemOp} (ha : a.g = i ∧ a.act ≠ .mark .disable ∧ a.act ≠ .mark .enable) (hb : b.g = i ∧ b.act = .recvDone c r) : Knows (t ++ #[a, b]) i p := by
  have hlt := lt_of_act? hp
  refine ⟨t.size + 1, b, (at_two t a b).2, hb.1, .inr (.single (.inr ⟨.handOver (c := c) (k := r) ((act?_old hlt).trans hp) (by rw [act?_of (at_two t a b).2, hb.2]), (heard_old hlt).2 hh, heard_snd ha.1 hb.1 ha.2 hd⟩))⟩
/-- Who reads atomically knows the last write. -/
theorem before_read {x : Addr} {p : Nat} (hp : LastWrite t x p) (hh : t.heard p) (hd : Deaf t i = 0) {a b : MemOp} (ha : a.g = i ∧ a.act = .access ⟨.cell x, false, true⟩) : Before (t ++ #[a, b]) p t.size := by
  have hlt := lt_of_act? hp.1
  refine .inr (.single (.inr ⟨.atomic (a := x) hlt ((act?_old hlt).trans hp.1) (by rw [act?_of (at_two t a b).1, ha.2]) (fun k sync h1 h2 => by rw [act?_old h2]; exact hp.2 k sync h1), (heard_old hlt).2 hh, heard_fst ha.1 hd⟩))
/-- Places that nobody writes, of whose writes one knows: it may read them. -/
theorem Lic.claimR (h : Lic n K w t) (hi : i < n) {U : Loc → Prop} (hU : ∀ l, U l → ∀ j, j < n → (j ≠ i → ¬ (K j).W l) ∧ ¬ (K j).A l) (hm : ∀ l, U l → MemLoc w.heap.size l) (hp : ∀ l, U l → PermW t i l) :
    Lic n (upd K i { K i with R := fun l => (K i).R l ∨ U l }) w t := by
  have kR : ∀ j l, (upd K i { K i with R := fun l => (K i).R l ∨ U l } j).R l → (K j).R l ∨ (j = i ∧ U l) := fun j l hl => by
    by_cases e : j = i
    · subst e; rw [upd_same] at hl; exact hl.imp id fun x => ⟨rfl, x⟩
    · rw [upd_ne K _ e] at hl; exact .inl hl
  have kW : ∀ j, (upd K i { K i with R := fun l => (K i).R l ∨ U l } j).W = (K j).W := fun j => by
    by_cases e : j = i
    · subst e; rw [upd_same]
    · rw [upd_ne K _ e]
  have kA : ∀ j, (upd K i { K i with R := fun l => (K i).R l ∨ U l } j).A = (K j).A := fun j => by
    by_cases e : j = i
    · subst e; rw [upd_same]
    · rw [upd_ne K _ e]
  refine ⟨fun a b ha hb hab l h1 h2 => ?_, fun a b ha hb hab l h1 h2 => ?_, fun a b ha hb l h1 h2 => ?_, fun a ha l hl => ?_, fun a ha l hl => ?_, fun a ha l hl => ?_, fun a ha p x hx hA hk => h.pa a ha p x hx (by rw [kA] at hA; exact hA) hk, h.said, h.race, h.seen, h.above⟩
  · rw [kW] at h1 h2; exact h.ww a b ha hb hab l h1 h2
  · rw [kW] at h1
    rcases kR b l h2 with q | ⟨e, q⟩
    · exact h.wr a b ha hb hab l h1 q
    · subst e; exact (hU l q a ha).1 hab h1
  · rw [kA] at h2
    rw [kW] at h1
    rcases h1 with h1 | h1
    · exact h.wa a b ha hb l (.inl h1) h2
    · rcases kR a l h1 with q | ⟨_, q⟩
      · exact h.wa a b ha hb l (.inr q) h2
      · exact (hU l q b hb).2 h2
  · rw [kW, kA] at hl
    rcases hl with hl | hl | hl
    · exact h.low a ha l (.inl hl)
    · rcases kR a l hl with q | ⟨_, q⟩
      · exact h.low a ha l (.inr (.inl q))
      · exact hm l q
    · exact h.low a ha l (.inr (.inr hl))
  · rw [kW] at hl; exact h.pw a ha l hl
  · rcases kR a l hl with q | ⟨e, q⟩
    · exact h.pr a ha l q
    · subst e; exact hp l q
/-- Another's cell turned. -/
theorem rely_set {k : LK} {w : World} {p : Addr} {u v : Value} (h1 : w.cell? p = some u) (hk : ¬ k.W (.cell p) ∧ ¬ k.R (.cell p)) : Rely k w (w.setCell p v) := by
  have hc := (own_write (k := ⟨fun l => l = .cell p, fun _ => False, fun _ => False⟩) (v := v) h1 rfl).chg
  have hb : p.block < w.heap.size := by
    refine Classical.byContradiction fun hn => ?_
    simp [World.cell?, Array.getElem?_eq_none (Nat.le_of_not_lt hn)] at h1
  refine ⟨hc.size, rfl, rfl, rfl, hc.shape, fun a ha => ?_, fun b o ho hn ha => ?_⟩
  · by_cases e : a.block < w.heap.size
    · exact hc.cell a e fun e => ha.elim (fun h => hk.1 (by cases e; exact h)) fun h => hk.2 (by cases e; exact h)
    · have q1 : w.heap[a.block]? = none := Array.getElem?_eq_none (by omega)
      have q2 : (w.setCell p v).heap[a.block]? = none := Array.getElem?_eq_none (by rw [setCell_size]; omega)
      simp only [World.cell?, q1, q2]
  · exact hc.obj b o ho hn fun e => by cases e
end
/-- Its licence with a job taken. -/
def LK.take (k : LK) (P : GPar) (M : GLoc) (j : Nat) : LK := ⟨fun l => k.W l ∨ l = numL M j, fun l => k.R l ∨ ∃ a ∈ P.aft j, l = numL M a, k.A⟩
/-- With its number written, for all to read. -/
def LK.gave (k : LK) (M : GLoc) (j : Nat) : LK := ⟨fun l => k.W l ∧ l ≠ numL M j, fun l => k.R l ∨ l = numL M j, k.A⟩
/-- What the queue holds. -/
abbrev bufQ (q : List Nat) : Array Value := (q.map fun (k : Nat) => Value.int .i64 (k : Int)).toArray
theorem buf_tail (j : Nat) (q : List Nat) : (bufQ (j :: q)).extract 1 (bufQ (j :: q)).size = bufQ q := by
  apply Array.ext'
  simp [bufQ]
  exact List.take_of_length_le (by simp)
theorem numL_inj {M : GLoc} {a b : Nat} (h : numL M a = numL M b) : a = b := by
  unfold numL at h
  simpa using h
section
variable {P : GPar} {M : GLoc} {m0 : Nat} {gh : GGh} {s r n : Nat} {T : Nat → Option GSt} {K : Nat → LK} {w w0 : World} {t : Trace} {X Rl : Loc → Prop} {Wg i : Nat}
theorem chan_rely {k : LK} {n1 s1 r1 n2 s2 r2 : Nat} {x1 x2 : Array Value} {c1 t1 c2 t2 : Bool} {c : Nat} (h1 : w.heap[c]? = some (.chan n1 x1 c1 s1 r1 t1)) (hk : ¬ k.W (.obj c) ∧ ¬ k.R (.obj c)) : Rely k w (w.setChan c n2 x2 c2 s2 r2 t2) := rely_chan h1 rfl hk
theorem mem_two {a b : MemOp} {op : MemOp} (h : op ∈ #[a, b]) : op = a ∨ op = b := by simpa using h
/-- ████ A JOB IS TAKEN. ████ -/
theorem GI.take (hO : GOk P M X Wg w0) (h : GI P M m0 gh s r n T K w t) (hl : Lic n K w t) (hs0 : w0.heap.size ≤ w.heap.size) {j : Nat} {q : List Nat} (hq : gh.q = j :: q) (hi : i < n) (hm0 : m0 ≤ i) (ht : T i = some .idle) (hd : Deaf t i = 0) {a b : MemOp} (ha : a.g = i ∧ a.act = .recv M.c r P.N) (hb : b.g = i ∧ b.act = .recvDone M.c r) :
    Lic n (upd K i ((K i).take P M j)) (w.setChan M.c P.N ((bufQ gh.q).extract 1 (bufQ gh.q).size) gh.cl s (r + 1) false) (t ++ #[a, b]) ∧
    GI P M m0 { gh with st := upd gh.st j (.busy i), q := q } s (r + 1) n (upd T i (some (.busy j .comp))) (upd K i ((K i).take P M j)) (w.setChan M.c P.N ((bufQ gh.q).extract 1 (bufQ gh.q).size) gh.cl s (r + 1) false) (t ++ #[a, b]) := by
  have hcl : M.c < w.heap.size := (Array.getElem?_eq_some_iff.1 h.ch).1
  generalize hw' : w.setChan M.c P.N ((bufQ gh.q).extract 1 (bufQ gh.q).size) gh.cl s (r + 1) false = w'
  have hsz : w'.heap.size = w.heap.size := by subst hw'; simp [World.setChan]
  have hcell : ∀ x : Addr, x.block ≠ M.c → w'.cell? x = w.cell? x := fun x hx => cell_block (by
    subst hw'
    show (w.heap.setIfInBounds M.c _)[x.block]? = _
    rw [Array.getElem?_setIfInBounds, if_neg (fun e => hx e.symm)])
  have hrow : ∀ x : Addr, ∀ v, w.cell? x = some v → x.block ≠ M.c := fun x v hv e => by
    unfold World.cell? at hv
    rw [e, h.ch] at hv
    cases hv
  have hjq := (h.ga.que j).1 (by rw [hq]; exact List.mem_cons_self ..)
  obtain ⟨hj, hsj⟩ := hjq
  have hTn : T i ≠ none := fun e => by rw [ht] at e; cases e
  have htouch : ∀ op ∈ #[a, b], ∀ x, op.act.touch? = some x → False := fun op hop x hx => by
    rcases mem_two hop with rfl | rfl
    · rw [ha.2] at hx; cases hx
    · rw [hb.2] at hx; cases hx
  have hap : a.act ≠ .mark .disable ∧ a.act ≠ .mark .enable := by rw [ha.2]; simp
  have hrest := h.rest j hj (.inr (.inl hsj))
  have hready : ∀ x ∈ P.aft j, x < P.N ∧ written gh T x ∧ toldTo P gh x j := fun x hx => h.ga.ready hO.wf hj (by rw [hsj]; simp) hx
  have hne : ∀ x ∈ P.aft j, x ≠ j := fun x hx e => by
    have := (hO.wf.mem j hj x hx).2.2
    rw [e] at this; omega
  have hpw : ∀ x ∈ P.aft j, PermW (t ++ #[a, b]) i (numL M x) := fun x hx => by
    obtain ⟨p, p1, p2, p3⟩ := h.hb3 0 j (by rw [hq]; rfl) (fun e => by rw [e] at hx; cases hx)
    rw [Nat.add_zero] at p1
    exact ((p3 x hx).app fun op hop y hy _ => (htouch op hop y hy).elim).knows (knows_hand p1 p2 hd ⟨ha.1, hap⟩ hb)
  have low : ∀ op ∈ #[a, b], op.g = i ∧ op.act.low w'.heap.size ∧ op.act.touch? = none := fun op hop => by
    rcases mem_two hop with rfl | rfl
    · exact ⟨ha.1, by rw [ha.2, hsz]; exact hcl, by rw [ha.2]; rfl⟩
    · exact ⟨hb.1, by rw [hb.2, hsz]; exact hcl, by rw [hb.2]; rfl⟩
  have hl1 := hl.mute (w' := w') hi (Nat.le_of_eq hsz.symm) low
  have hl2 := hl1.claim hi (U := fun l => l = numL M j) (fun l hx k hk => by subst hx; exact ⟨(hrest k hk).1, (hrest k hk).2, h.noA k hk j hj⟩) (fun l hx => by subst hx; rw [hsz]; exact Nat.lt_of_lt_of_le hO.nm hs0) (fun l hx => by
    subst hx
    exact (h.perm j hj (.inr (.inl hsj)) i hi (.inr ⟨hm0, hTn⟩)).app fun op hop y hy _ => (htouch op hop y hy).elim)
  have hl3 := hl2.claimR hi (U := fun l => ∃ x ∈ P.aft j, l = numL M x) (fun l ⟨x, hx, e⟩ k hk => by
      subst e
      refine ⟨fun e => ?_, ?_⟩
      · rw [upd_ne K _ e]; exact h.free x (hready x hx).1 (hready x hx).2.1 k hk
      · by_cases e : k = i
        · subst e; rw [upd_same]; exact h.noA k hk x (hready x hx).1
        · rw [upd_ne K _ e]; exact h.noA k hk x (hready x hx).1)
    (fun l ⟨x, _, e⟩ => by subst e; rw [hsz]; exact Nat.lt_of_lt_of_le hO.nm hs0) (fun l ⟨x, hx, e⟩ => by subst e; exact hpw x hx)
  rw [upd_same] at hl3
  have hK : upd (upd K i { K i with W := fun l => (K i).W l ∨ l = numL M j }) i { { K i with W := fun l => (K i).W l ∨ l = numL M j } with R := fun l => ({ K i with W := fun l => (K i).W l ∨ l = numL M j } : LK).R l ∨ ∃ x ∈ P.aft j, l = numL M x } = upd K i ((K i).take P M j) := by
    funext k
    by_cases e : k = i
    · subst e; rw [upd_same, upd_same]; rfl
    · rw [upd_ne _ _ e, upd_ne _ _ e, upd_ne _ _ e]
  rw [hK] at hl3
  refine ⟨hl3, ?_⟩
  have hga := h.ga.recv hq hi ht
  have stne : ∀ k, k ≠ j → upd gh.st j (.busy i) k = gh.st k := fun k hk => upd_ne _ _ hk
  have wr : ∀ k, k < P.N → written { gh with st := upd gh.st j (.busy i), q := q } (upd T i (some (.busy j .comp))) k → written gh T k ∧ k ≠ j := fun k hk hw => by
    have hkj : k ≠ j := fun e => by
      subst e
      rcases hw with hw | ⟨i', ph, h1, h2, h3⟩
      · simp only [upd_same] at hw; cases hw
      · simp only [upd_same] at h1
        cases h1
        rw [upd_same] at h2
        cases h2
        exact h3 rfl
    refine ⟨?_, hkj⟩
    rcases hw with hw | ⟨i', ph, h1, h2, h3⟩
    · simp only [stne k hkj] at hw; exact .inl hw
    · simp only [stne k hkj] at h1
      have e : i' ≠ i := fun e => by
        subst e
        rw [upd_same] at h2
        cases h2
        exact hkj rfl
      rw [upd_ne T _ e] at h2
      exact .inr ⟨i', ph, h1, h2, h3⟩
  have rs : ∀ k, resting { gh with st := upd gh.st j (.busy i), q := q } k → resting gh k ∧ k ≠ j := fun k hr => by
    have hkj : k ≠ j := fun e => by
      subst e
      unfold resting at hr
      simp only [upd_same] at hr
      rcases hr with hr | hr | ⟨_, hr⟩ <;> cases hr
    refine ⟨?_, hkj⟩
    unfold resting at hr ⊢
    simp only [stne k hkj] at hr
    exact hr
  have nTn : ∀ k, upd T i (some (.busy j .comp)) k ≠ none → T k ≠ none := fun k hk e => by
    by_cases e2 : k = i
    · subst e2; exact hTn e
    · rw [upd_ne T _ e2] at hk; exact hk e
  have kA : ∀ k, (upd K i ((K i).take P M j) k).A = (K k).A := fun k => by
    by_cases e : k = i
    · subst e; rw [upd_same]; rfl
    · rw [upd_ne K _ e]
  have nf : nFin P { gh with st := upd gh.st j (.busy i), q := q } = nFin P gh := by
    have := nFin_upd (P := P) (gh := gh) (gh' := { gh with st := upd gh.st j (.busy i), q := q }) hj rfl
    simpa [hsj] using this
  have nu : nUn P { gh with st := upd gh.st j (.busy i), q := q } + 1 = nUn P gh := by
    have := nUn_upd (P := P) (gh := gh) (gh' := { gh with st := upd gh.st j (.busy i), q := q }) hj rfl
    rw [hsj] at this
    simpa [JSt.un] using this
  refine ⟨hga, ?_, ?_, ?_, fun k hk => ?_, fun k hk => ?_, ?_, fun k hk hx => ?_, fun k hk x hx => ?_, fun k hk hw => ?_, fun k hk hw x hx => ?_, fun k hk hr x hx => ?_, fun k hk hr x hx hy => ?_, fun x hx k ph hT hp => ?_, fun k hk hs ht' => ?_, fun k x hk hs y hy => ?_, fun m k hm hne' => ?_, fun x h1 h2 h3 => h.out x h1 h2 (upd_none h3)⟩
  · subst hw'
    show (w.heap.setIfInBounds M.c _)[M.c]? = _
    rw [Array.getElem?_setIfInBounds, if_pos rfl, if_pos hcl, hq, buf_tail]
  · have := h.sr
    rw [hq] at this
    simp only [List.length_cons] at this
    show s = r + 1 + q.length
    omega
  · have := h.un
    omega
  · by_cases e : k = i
    · subst e
      rw [upd_same]
      refine ⟨?_, ?_⟩
      · rintro (hx | hx)
        · exact (h.noC k hk).1 hx
        · cases hx
      · rintro (hx | ⟨_, _, hx⟩)
        · exact (h.noC k hk).2 hx
        · cases hx
    · rw [upd_ne K _ e]; exact h.noC k hk
  · exact (hcell _ (hrow _ _ (h.left k hk))).trans (h.left k hk)
  · rw [nf]; exact (hcell _ (hrow _ _ h.over)).trans h.over
  · rw [kA]; exact h.atom k hk (hx.imp id (nTn k))
  · rw [kA]; exact h.noA k hk x hx
  · have := h.num k hk (wr k hk hw).1
    exact (hcell _ (hrow _ _ this)).trans this
  · obtain ⟨hw1, hkj⟩ := wr k hk hw
    by_cases e : x = i
    · subst e
      rw [upd_same]
      rintro (hz | hz)
      · exact h.free k hk hw1 x hx hz
      · exact hkj (numL_inj hz)
    · rw [upd_ne K _ e]; exact h.free k hk hw1 x hx
  · obtain ⟨hr1, hkj⟩ := rs k hr
    by_cases e : x = i
    · subst e
      rw [upd_same]
      refine ⟨?_, ?_⟩
      · rintro (hz | hz)
        · exact (h.rest k hk hr1 x hx).1 hz
        · exact hkj (numL_inj hz)
      · rintro (hz | ⟨y, hy, hz⟩)
        · exact (h.rest k hk hr1 x hx).2 hz
        · obtain rfl := numL_inj hz
          rcases (hready k hy).2.1 with hf | ⟨i', ph, hf, _⟩
          · rcases hr1 with hr | hr | ⟨_, hr⟩ <;> rw [hf] at hr <;> cases hr
          · rcases hr1 with hr | hr | ⟨_, hr⟩ <;> rw [hf] at hr <;> cases hr
    · rw [upd_ne K _ e]; exact h.rest k hk hr1 x hx
  · exact (h.perm k hk (rs k hr).1 x hx (hy.imp id fun z => ⟨z.1, nTn x z.2⟩)).app fun op hop y hy _ => (htouch op hop y hy).elim
  · have e : x ≠ i := fun e => by
      subst e
      rw [upd_same] at hT
      cases hT
      exact hp rfl
    rw [upd_ne T _ e] at hT
    rw [upd_ne K _ e]
    exact h.ownR x hx k ph hT hp
  · have hkj : k ≠ j := fun e => by subst e; simp only [upd_same] at hs; cases hs
    simp only [stne k hkj] at hs
    obtain ⟨p, p1, p2, p3⟩ := h.hb1 k hk hs ht'
    have hp := lt_of_act? p1.1
    refine ⟨p, p1.app fun op hop sync e => ?_, (heard_old hp).2 p2, fun y hy hta => (p3 y hy hta).app fun op hop z hz _ => (htouch op hop z hz).elim⟩
    exact htouch op hop _ (by rw [e]; rfl)
  · have hkj : k ≠ j := fun e => by subst e; simp only [upd_same] at hs; cases hs
    simp only [stne k hkj] at hs
    exact (h.hb2 k x hk hs y hy).app fun op hop z hz _ => (htouch op hop z hz).elim
  · obtain ⟨p, p1, p2, p3⟩ := h.hb3 (m + 1) k (by rw [hq]; exact hm) hne'
    have hp := lt_of_act? p1
    refine ⟨p, (act?_old hp).trans (by rw [p1]; congr 2; omega), (heard_old hp).2 p2, fun y hy => (p3 y hy).app fun op hop z hz _ => (htouch op hop z hz).elim⟩
end
end Go.Proofs.Yticdjkkcfdbdcaa

/- What a worker may do: it tells one that waits for its job; it says that the job is done. No program; no conditions but those named. -/
namespace Go.Proofs.Yticdjkkcfdbdcaa
open Go.Conc Go.ConcN
theorem cell_set_ne {w : World} {p x : Addr} {u v : Value} (h : w.cell? p = some u) (hx : x ≠ p) : (w.setCell p v).cell? x = w.cell? x := by
  by_cases e : x.block < w.heap.size
  · exact (own_write (k := ⟨fun l => l = .cell p, fun _ => False, fun _ => False⟩) (v := v) h rfl).chg.cell x e fun e => hx (by cases e; rfl)
  · have q1 : w.heap[x.block]? = none := Array.getElem?_eq_none (by omega)
    have q2 : (w.setCell p v).heap[x.block]? = none := Array.getElem?_eq_none (by rw [setCell_size]; omega)
    simp only [World.cell?, q1, q2]
theorem cell_set_eq {w : World} {p : Addr} {u v : Value} (h : w.cell? p = some u) : (w.setCell p v).cell? p = some v := by
  unfold World.cell? at h
  split at h
  · rename_i c e f hc
    split at h
    · cases h
    · rename_i hs
      have hlt := (Array.getElem?_eq_some_iff.1 h).1
      have h1 : (w.setCell p v).heap[p.block]? = some (.cells (c.setIfInBounds p.off v) e f) := by
        simp only [Bool.not_eq_true, Option.isSome_eq_false_iff, Option.isNone_iff_eq_none] at hs
        exact setCell_get hs hc
      unfold World.cell?
      rw [h1]
      simp only [hs, if_false]
      rw [Array.getElem?_setIfInBounds, if_pos rfl, if_pos hlt]
      simp
  · cases h
theorem cell_not_chan {w : World} {p : Addr} {u : Value} {c n s r : Nat} {b : Array Value} {cl tm : Bool} (h : w.cell? p = some u) (hc : w.heap[c]? = some (.chan n b cl s r tm)) : p.block ≠ c := fun e => by
  unfold World.cell? at h
  rw [e, hc] at h
  cases h
section
variable {P : GPar} {M : GLoc} {m0 : Nat} {gh : GGh} {s r n : Nat} {T : Nat → Option GSt} {K : Nat → LK} {w w0 : World} {t : Trace} {X Rl : Loc → Prop} {Wg i : Nat}
/-- The worker's licence behind its number's writing: what it had, with the number to read. -/
structure Gave (k k' : LK) (M : GLoc) (j : Nat) : Prop where
  W : ∀ l, k'.W l → k.W l
  nW : ¬ k'.W (numL M j)
  R : ∀ l, k'.R l ↔ k.R l ∨ l = numL M j
  A : k'.A = k.A
  had : k.W (numL M j) ∨ k.R (numL M j)
theorem Gave.of {j : Nat} (k : LK) (h : k.W (numL M j)) : Gave k (k.gave M j) M j := ⟨fun _ hl => hl.1, fun hl => hl.2 rfl, fun _ => .rfl, rfl, .inl h⟩
theorem Gave.self {j : Nat} {k : LK} (h : k.R (numL M j)) (hn : ¬ k.W (numL M j)) : Gave k k M j := ⟨fun _ h => h, hn, fun l => ⟨.inl, fun h2 => h2.elim id fun e => e ▸ h⟩, rfl, .inr h⟩
/-- The licences and the others, behind an atomic step on a cell. -/
theorem atomic_lic (hl : Lic n K w t) (hi : i < n) {p : Addr} {u v : Value} (hp : w.cell? p = some u) (hA : (K i).A (.cell p)) {j : Nat} {k' : LK} (hg : Gave (K i) k' M j) {a b : MemOp} (ha : a.g = i ∧ a.act = .access ⟨.cell p, false, true⟩) (hb : b.g = i ∧ b.act = .access ⟨.cell p, true, true⟩) :
    Lic n (upd K i k') (w.setCell p v) (t ++ #[a, b]) := by
  have hlt : p.block < w.heap.size := hl.low i hi (.cell p) (.inr (.inr hA))
  refine (hl.sync (w' := w.setCell p v) hi (Nat.le_of_eq (setCell_size ..).symm) (fun op hop => ?_)).less hi hg.W (fun l h => ?_) (fun l h => by rw [hg.A] at h; exact .inr h) (fun l h h2 => ?_)
  · rcases mem_two hop with rfl | rfl
    · exact ⟨ha.1, by rw [ha.2, setCell_size]; exact hlt, fun b hb => by rw [ha.2] at hb; cases hb; exact ⟨hA, (by simp), fun e => (by simp at e)⟩⟩
    · exact ⟨hb.1, by rw [hb.2, setCell_size]; exact hlt, fun b hb' => by rw [hb.2] at hb'; cases hb'; exact ⟨hA, (by simp), fun e => (by simp at e)⟩⟩
  · rcases (hg.R l).1 h with h | rfl
    · exact .inr h
    · exact hg.had
  · rw [hg.A] at h2
    rcases h with h | h
    · exact hl.wa i i hi hi l (.inl (hg.W l h)) h2
    · rcases (hg.R l).1 h with h | rfl
      · exact hl.wa i i hi hi l (.inr h) h2
      · exact hl.wa i i hi hi _ hg.had h2
/-- What such a step, at a job of its own, keeps of the rest. -/
structure Turned (P : GPar) (M : GLoc) (gh gh' : GGh) (i j : Nat) (T : Nat → Option GSt) (x' : GSt) : Prop where
  q : gh'.q = gh.q
  cl : gh'.cl = gh.cl
  wr : ∀ k, k < P.N → written gh' (upd T i (some x')) k → written gh T k ∨ k = j
  rs : ∀ k, k < P.N → resting gh' k → resting gh k
  nw : ∀ k ph, x' = .busy k ph → ph ≠ .comp → k = j
theorem GI.turn {j : Nat} {p : Addr} {u v : Value} {k' : LK} {gh' : GGh} {x' : GSt} (hO : GOk P M X Wg w0) (h : GI P M m0 gh s r n T K w t) (hl : Lic n K w t) (hi : i < n) (hT : T i ≠ none) (hj : j < P.N) (hjr : ¬ resting gh j) (hp : w.cell? p = some u) (hA : (K i).A (.cell p)) (hpn : ∀ k, k < P.N → p ≠ ⟨M.nb, k, none⟩) (hg : Gave (K i) k' M j) (hval : w.cell? ⟨M.nb, j, none⟩ = some (.int .i64 (M.val j)))
    {a b : MemOp} (ha : a.g = i ∧ a.act = .access ⟨.cell p, false, true⟩) (hb : b.g = i ∧ b.act = .access ⟨.cell p, true, true⟩) (hga : GA P gh' n (upd T i (some x'))) (htn : Turned P M gh gh' i j T x')
    (hun : nUn P gh' = nUn P gh) (hleft : ∀ k, k < P.N → (w.setCell p v).cell? (M.la k) = some (.int .i64 (((P.aft k).length : Int) - (cnt P gh'.d k : Int)))) (hover : (w.setCell p v).cell? M.ov = some (.int .i64 (nFin P gh' : Int)))
    (h1 : ∀ k, k < P.N → gh'.st k = .wait → (∃ a, a < P.N ∧ toldTo P gh' a k) → ∃ p', LastWrite (t ++ #[a, b]) (M.la k) p' ∧ (t ++ #[a, b]).heard p' ∧ ∀ x, x < P.N → toldTo P gh' x k → PermWAt (t ++ #[a, b]) (numL M x) p')
    (h2 : ∀ k i', k < P.N → gh'.st k = .hand i' → ∀ x ∈ P.aft k, PermW (t ++ #[a, b]) i' (numL M x)) :
    GI P M m0 gh' s r n (upd T i (some x')) (upd K i k') (w.setCell p v) (t ++ #[a, b]) := by
  have touch : ∀ op ∈ #[a, b], ∀ y, op.act.touch? = some y → y.loc = .cell p := fun op hop y hy => by
    rcases mem_two hop with rfl | rfl
    · rw [ha.2] at hy; cases hy; rfl
    · rw [hb.2] at hy; cases hy; rfl
  have tnum : ∀ k, k < P.N → ∀ op ∈ #[a, b], ∀ y, op.act.touch? = some y → y.loc ≠ numL M k := fun k hk op hop y hy e => by
    rw [touch op hop y hy] at e
    exact hpn k hk (by cases e; rfl)
  have nTn : ∀ k, upd T i (some x') k ≠ none → T k ≠ none := fun k hk e => by
    by_cases e2 : k = i
    · subst e2; exact hT e
    · rw [upd_ne T _ e2] at hk; exact hk e
  have kA : ∀ k, (upd K i k' k).A = (K k).A := fun k => by
    by_cases e : k = i
    · subst e; rw [upd_same]; exact hg.A
    · rw [upd_ne K _ e]
  have kW : ∀ k l, (upd K i k' k).W l → (K k).W l := fun k l hx => by
    by_cases e : k = i
    · subst e; rw [upd_same] at hx; exact hg.W l hx
    · rw [upd_ne K _ e] at hx; exact hx
  have kR : ∀ k l, (upd K i k' k).R l → (K k).R l ∨ l = numL M j := fun k l hx => by
    by_cases e : k = i
    · subst e; rw [upd_same] at hx; exact (hg.R l).1 hx
    · rw [upd_ne K _ e] at hx; exact .inl hx
  have hpc := cell_not_chan hp h.ch
  refine ⟨hga, ?_, by rw [htn.q]; exact h.sr, by rw [hun]; exact h.un, fun k hk => ⟨fun hx => (h.noC k hk).1 (kW k _ hx), fun hx => ?_⟩, hleft, hover, fun k hk hx => by rw [kA]; exact h.atom k hk (hx.imp id (nTn k)), fun k hk x hx => by rw [kA]; exact h.noA k hk x hx, fun k hk hw => ?_, fun k hk hw x hx hz => ?_, fun k hk hr x hx => ⟨fun hz => (h.rest k hk (htn.rs k hk hr) x hx).1 (kW x _ hz), fun hz => ?_⟩, fun k hk hr x hx hy => ?_, fun x hx k ph hTx hph => ?_, h1, h2, fun m k hm hne' => ?_, fun x z1 z2 z3 => htn.cl.trans (h.out x z1 z2 (upd_none z3))⟩
  · rw [setCell_ne (fun e => hpc e.symm), htn.q, htn.cl]; exact h.ch
  · rcases kR k _ hx with hx | hx
    · exact (h.noC k hk).2 hx
    · cases hx
  · rw [cell_set_ne hp fun e => hpn k hk e.symm]
    rcases htn.wr k hk hw with hw | rfl
    · exact h.num k hk hw
    · exact hval
  · rcases htn.wr k hk hw with hw | rfl
    · exact h.free k hk hw x hx (kW x _ hz)
    · by_cases e : x = i
      · subst e; rw [upd_same] at hz; exact hg.nW hz
      · rw [upd_ne K _ e] at hz
        rcases hg.had with hh | hh
        · exact hl.ww x i hx hi e _ hz hh
        · exact hl.wr x i hx hi e _ hz hh
  · rcases kR x _ hz with hz | hz
    · exact (h.rest k hk (htn.rs k hk hr) x hx).2 hz
    · obtain rfl := numL_inj hz
      exact hjr (htn.rs k hk hr)
  · exact (h.perm k hk (htn.rs k hk hr) x hx (hy.imp id fun z => ⟨z.1, nTn x z.2⟩)).app fun op hop y hy e => absurd e (tnum k hk op hop y hy)
  · by_cases e : x = i
    · subst e
      rw [upd_same] at hTx ⊢
      obtain rfl := htn.nw k ph (Option.some.inj hTx) hph
      exact (hg.R _).2 (.inr rfl)
    · rw [upd_ne T _ e] at hTx
      rw [upd_ne K _ e]
      exact h.ownR x hx k ph hTx hph
  · rw [htn.q] at hm
    obtain ⟨p', p1, p2, p3⟩ := h.hb3 m k hm hne'
    have hp' := lt_of_act? p1
    have hq := (h.ga.que k).1 (List.mem_of_getElem? hm)
    exact ⟨p', (act?_old hp').trans p1, (heard_old hp').2 p2, fun x hx => (p3 x hx).app fun op hop y hy e => absurd e (tnum x (hO.wf.mem k hq.1 x hx).1 op hop y hy)⟩
/-- What it has told to others, told one more. -/
theorem toldTo_upd {st : Nat → JSt} {q : List Nat} {cl : Bool} {j p m x k : Nat} (hp : (P.nxt j)[p]? = some m) (hd : gh.d j = p) : toldTo P { st := st, d := upd gh.d j (p + 1), q := q, cl := cl } x k ↔ toldTo P gh x k ∨ (x = j ∧ k = m) := by
  unfold toldTo
  by_cases e : x = j
  · subst e
    simp only [upd_same]
    have hlt := (List.getElem?_eq_some_iff.1 hp)
    rw [hd, List.take_succ_eq_append_getElem hlt.1, List.mem_append, List.mem_singleton, hlt.2]
    simp
  · simp only [upd_ne _ _ e]
    exact ⟨.inl, fun h => h.resolve_right fun h => e h.1⟩
/-- ████ ONE THAT WAITS IS TOLD. ████ -/
theorem GI.tell {j p m : Nat} {ph : GPh} {k' : LK} {z : Bool} (hO : GOk P M X Wg w0) (h : GI P M m0 gh s r n T K w t) (hl : Lic n K w t) (hi : i < n) (ht : T i = some (.busy j ph)) (hph : ph.at p) (hm : (P.nxt j)[p]? = some m) (hT0 : m0 ≤ i) (hd : Deaf t i = 0) (hg : Gave (K i) k' M j) (hval : w.cell? ⟨M.nb, j, none⟩ = some (.int .i64 (M.val j)))
    {a b : MemOp} (ha : a.g = i ∧ a.act = .access ⟨.cell (M.la m), false, true⟩) (hb : b.g = i ∧ b.act = .access ⟨.cell (M.la m), true, true⟩) (hz : z = true ↔ cnt P (upd gh.d j (p + 1)) m = (P.aft m).length) :
    GI P M m0 { gh with d := upd gh.d j (p + 1), st := if z then upd gh.st m (.hand i) else gh.st } s r n (upd T i (some (.busy j (if z then .send p else .put (p + 1))))) (upd K i k') (w.setCell (M.la m) (.int .i64 (((P.aft m).length : Int) - (cnt P gh.d m : Int) - 1))) (t ++ #[a, b]) := by
  have hTn : T i ≠ none := fun e => by rw [ht] at e; cases e
  obtain ⟨hj, hsj, hdj⟩ := h.ga.d_at hi ht hph
  obtain ⟨hm1, hm2, hm3, hct⟩ := h.ga.told hO.wf hi ht hph hm
  have hp := h.left m hm1
  have hpn : ∀ k, k < P.N → M.la m ≠ ⟨M.nb, k, none⟩ := fun k _ e => hO.ln m hm1 (by rw [e])
  have cne : m ≠ j := hm3
  have hga : GA P { gh with d := upd gh.d j (p + 1), st := if z then upd gh.st m (.hand i) else gh.st } n (upd T i (some (.busy j (if z then .send p else .put (p + 1))))) := by
    cases hz' : z with
    | true => exact h.ga.decZ hO.wf hi ht hph hm (hz.1 hz')
    | false => exact h.ga.decN hO.wf hi ht hph hm fun e => by rw [hz.2 e] at hz'; cases hz'
  have stm : ∀ k, k ≠ m → (if z then upd gh.st m (.hand i) else gh.st) k = gh.st k := fun k hk => by
    split
    · exact upd_ne _ _ hk
    · rfl
  have stmm : (if z then upd gh.st m (.hand i) else gh.st) m = if z then .hand i else .wait := by
    split
    · exact upd_same _ _ _
    · exact hm2
  have permW : ∀ {x}, x = j → PermW t i (numL M x) := fun {x} e => by
    subst e
    rcases hg.had with hh | hh
    · exact PermW.of (hl.pw i hi _ hh)
    · exact hl.pr i hi _ hh
  have touch : ∀ op ∈ #[a, b], ∀ y, op.act.touch? = some y → y.loc = .cell (M.la m) := fun op hop y hy => by
    rcases mem_two hop with rfl | rfl
    · rw [ha.2] at hy; cases hy; rfl
    · rw [hb.2] at hy; cases hy; rfl
  have tnum : ∀ k, ∀ op ∈ #[a, b], ∀ y, op.act.touch? = some y → y.loc ≠ numL M k := fun k op hop y hy e => by
    rw [touch op hop y hy] at e
    exact hO.ln m hm1 (by cases hh : M.la m; rw [hh] at e; cases e; rfl)
  have hh1 := heard_snd (t := t) (b := b) ha.1 hb.1 (by rw [ha.2]; simp) hd
  have e2 : t ++ #[a, b] = (t ++ #[a]) ++ #[b] := by rw [Array.append_assoc]; rfl
  have sz1 : (t ++ #[a]).size = t.size + 1 := by simp
  have atJ : PermWAt (t ++ #[a, b]) (numL M j) (t.size + 1) := by
    have p0 : PermW (t ++ #[a]) i (numL M j) := (permW rfl).app fun op hop y hy e _ => absurd e (tnum j op (by simp at hop; simp [hop]) y hy)
    have := PermW.at_ (y := b) p0 hb.1 fun y hy e => absurd e (tnum j b (by simp) y hy)
    rwa [← e2, sz1] at this
  have old : ∀ x, x < P.N → toldTo P gh x m → ∃ p', p' < t.size ∧ PermWAt (t ++ #[a, b]) (numL M x) p' ∧ Before (t ++ #[a, b]) p' t.size := fun x hx hxt => by
    obtain ⟨p', p1, p2, p3⟩ := h.hb1 m hm1 hm2 ⟨x, hx, hxt⟩
    exact ⟨p', lt_of_act? p1.1, (p3 x hx hxt).app fun op hop y hy e => absurd e (tnum x op hop y hy), before_read p1 p2 hd ha⟩
  have po : HappensBefore (t ++ #[a, b]) t.size (t.size + 1) := hb_po (by omega) (at_two t a b).1 (at_two t a b).2 (ha.1.trans hb.1.symm)
  refine h.turn (j := j) hO hl hi hTn hj (fun hr => by rcases hr with hr | hr | ⟨_, hr⟩ <;> rw [hsj] at hr <;> cases hr) hp ((h.atom i hi (.inr hTn)).1 m hm1) hpn hg hval ha hb hga ⟨rfl, rfl, fun k hk hw => ?_, fun k hk hr => ?_, fun k ph' e _ => (by cases e; rfl)⟩ ?_ (fun k hk => ?_) ?_ (fun k hk hs htl => ?_) (fun k i' hk hs x hx => ?_)
  · rcases hw with hw | ⟨i', ph', w1, w2, w3⟩
    · by_cases e : k = m
      · subst e
        simp only [stmm] at hw
        split at hw <;> cases hw
      · simp only [stm k e] at hw; exact .inl (.inl hw)
    · by_cases e : k = m
      · subst e
        simp only [stmm] at w1
        split at w1 <;> cases w1
      · simp only [stm k e] at w1
        by_cases e2 : i' = i
        · subst e2
          rw [upd_same] at w2
          cases w2
          exact .inr rfl
        · rw [upd_ne T _ e2] at w2
          exact .inl (.inr ⟨i', ph', w1, w2, w3⟩)
  · by_cases e : k = m
    · subst e; exact .inl hm2
    · unfold resting at hr ⊢
      simp only [stm k e] at hr
      exact hr
  · cases hz' : z with
    | false => rfl
    | true =>
      have := nUn_upd (P := P) (gh := gh) (gh' := { gh with d := upd gh.d j (p + 1), st := upd gh.st m (.hand i) }) hm1 rfl
      rw [hm2] at this
      simpa [JSt.un] using this
  · by_cases e : k = m
    · subst e
      rw [cell_set_eq hp]
      have := hct k
      rw [if_pos rfl] at this
      simp only [this]
      congr 2
      omega
    · rw [cell_set_ne hp fun e2 => e (hO.laI k hk m hm1 e2), h.left k hk]
      have := hct k
      rw [if_neg (fun e2 => e e2.symm)] at this
      simp only [this, Nat.add_zero]
  · rw [cell_set_ne hp fun e => hO.lo m hm1 e.symm, h.over]
    cases hz' : z with
    | false => rfl
    | true =>
      have := nFin_upd (P := P) (gh := gh) (gh' := { gh with d := upd gh.d j (p + 1), st := upd gh.st m (.hand i) }) hm1 rfl
      rw [hm2] at this
      have : nFin P { gh with d := upd gh.d j (p + 1), st := upd gh.st m (.hand i) } = nFin P gh := by simpa using this
      simp only [if_true]
      rw [this]
  · by_cases e : k = m
    · subst e
      refine ⟨t.size + 1, ?_, hh1, fun x hx hxt => ?_⟩
      · have := LastWrite.new (t ++ #[a]) (M.la k) hb.2
        rwa [← e2, sz1] at this
      · rcases (toldTo_upd hm hdj).1 hxt with hxt | ⟨rfl, _⟩
        · obtain ⟨p', _, q1, q2⟩ := old x hx hxt
          exact q1.on (.inr (q2.hb po))
        · exact atJ
    · simp only [stm k e] at hs
      have tl : ∀ x, toldTo P { gh with d := upd gh.d j (p + 1), st := if z then upd gh.st m (.hand i) else gh.st } x k → toldTo P gh x k := fun x hx => ((toldTo_upd hm hdj).1 hx).resolve_right fun h => e h.2
      obtain ⟨y, hy, hyt⟩ := htl
      obtain ⟨p', p1, p2, p3⟩ := h.hb1 k hk hs ⟨y, hy, tl y hyt⟩
      have hp' := lt_of_act? p1.1
      refine ⟨p', p1.app fun op hop sync e3 => ?_, (heard_old hp').2 p2, fun x hx hxt => (p3 x hx (tl x hxt)).app fun op hop y hy e => absurd e (tnum x op hop y hy)⟩
      have := touch op hop _ (by rw [e3]; rfl)
      exact e (hO.laI k hk m hm1 (by injection this))
  · by_cases e : k = m
    · subst e
      simp only [stmm] at hs
      split at hs
      · rename_i hz'
        cases hs
        have hall := hz.1 hz'
        have hw := hO.wf.mem k hm1 x hx
        have hfull := cnt_full hO.wf hm1 hall hw.1
        have hxt : toldTo P { gh with d := upd gh.d j (p + 1), st := gh.st } x k := by
          show k ∈ (P.nxt x).take (upd gh.d j (p + 1) x)
          rw [← List.count_pos_iff, hfull]
          exact List.count_pos_iff.2 hw.2.1
        rcases (toldTo_upd hm hdj).1 hxt with hxt | ⟨rfl, _⟩
        · obtain ⟨p', _, q1, q2⟩ := old x hw.1 hxt
          exact q1.knows ⟨t.size, a, (at_two t a b).1, ha.1, q2⟩
        · exact (permW rfl).app fun op hop y hy e _ => absurd e (tnum x op hop y hy)
      · cases hs
    · simp only [stm k e] at hs
      exact (h.hb2 k i' hk hs x hx).app fun op hop y hy e _ => absurd e (tnum x op hop y hy)
end
end Go.Proofs.Yticdjkkcfdbdcaa

/- What a worker may do: it says that its job is done; it sends on who can begin; it closes the queue. No program; no conditions but those named. -/
namespace Go.Proofs.Yticdjkkcfdbdcaa
open Go.Conc Go.ConcN
section
variable {P : GPar} {M : GLoc} {m0 : Nat} {gh : GGh} {s r n : Nat} {T : Nat → Option GSt} {K : Nat → LK} {w w0 : World} {t : Trace} {X Rl : Loc → Prop} {Wg i : Nat}
/-- ████ A JOB IS DONE. ████ -/
theorem GI.done {j : Nat} {ph : GPh} {k' : LK} {x : GSt} (hO : GOk P M X Wg w0) (h : GI P M m0 gh s r n T K w t) (hl : Lic n K w t) (hi : i < n) (ht : T i = some (.busy j ph)) (hph : ph.at (P.nxt j).length) (hg : Gave (K i) k' M j) (hval : w.cell? ⟨M.nb, j, none⟩ = some (.int .i64 (M.val j)))
    {a b : MemOp} (ha : a.g = i ∧ a.act = .access ⟨.cell M.ov, false, true⟩) (hb : b.g = i ∧ b.act = .access ⟨.cell M.ov, true, true⟩) (hx : (x = .idle ∧ nFin P gh + 1 ≠ P.N) ∨ (x = .last ∧ nFin P gh + 1 = P.N)) :
    GI P M m0 { gh with st := upd gh.st j .fin } s r n (upd T i (some x)) (upd K i k') (w.setCell M.ov (.int .i64 ((nFin P gh : Int) + 1))) (t ++ #[a, b]) := by
  have hTn : T i ≠ none := fun e => by rw [ht] at e; cases e
  obtain ⟨hj, hsj, hdj⟩ := h.ga.d_at hi ht hph
  have nf : nFin P { gh with st := upd gh.st j .fin } = nFin P gh + 1 := by
    have := nFin_upd (P := P) (gh := gh) (gh' := { gh with st := upd gh.st j .fin }) hj rfl
    rw [hsj] at this
    simpa using this
  have nu : nUn P { gh with st := upd gh.st j .fin } = nUn P gh := by
    have := nUn_upd (P := P) (gh := gh) (gh' := { gh with st := upd gh.st j .fin }) hj rfl
    rw [hsj] at this
    simpa [JSt.un] using this
  have hfin : (∀ m, m < P.N → upd gh.st j .fin m = .fin) ↔ nFin P gh + 1 = P.N := by
    rw [← nf]
    exact (nFin_all (gh := { gh with st := upd gh.st j .fin })).symm
  have hga := h.ga.over hi ht hph (x := x) (by
    rcases hx with ⟨e1, e2⟩ | ⟨e1, e2⟩
    · exact .inl ⟨e1, fun ha => e2 (hfin.1 ha)⟩
    · exact .inr ⟨e1, hfin.2 e2⟩)
  have hxb : ∀ k ph, x ≠ .busy k ph := fun k ph e => by rcases hx with ⟨h, _⟩ | ⟨h, _⟩ <;> rw [h] at e <;> cases e
  have stne : ∀ k, k ≠ j → upd gh.st j .fin k = gh.st k := fun k hk => upd_ne _ _ hk
  have touch : ∀ op ∈ #[a, b], ∀ y, op.act.touch? = some y → y.loc = .cell M.ov := fun op hop y hy => by
    rcases mem_two hop with rfl | rfl
    · rw [ha.2] at hy; cases hy; rfl
    · rw [hb.2] at hy; cases hy; rfl
  have tnum : ∀ k, ∀ op ∈ #[a, b], ∀ y, op.act.touch? = some y → y.loc ≠ numL M k := fun k op hop y hy e => by
    rw [touch op hop y hy] at e
    exact hO.on (by cases hh : M.ov; rw [hh] at e; cases e; rfl)
  refine h.turn (j := j) hO hl hi hTn hj (fun hr => by rcases hr with hr | hr | ⟨_, hr⟩ <;> rw [hsj] at hr <;> cases hr) h.over ((h.atom i hi (.inr hTn)).2.1) (fun k _ e => hO.on (by rw [e])) hg hval ha hb hga ⟨rfl, rfl, fun k hk hw => ?_, fun k hk hr => ?_, fun k ph' e _ => absurd e (hxb k ph')⟩ nu (fun k hk => ?_) ?_ (fun k hk hs htl => ?_) (fun k i' hk hs y hy => ?_)
  · by_cases e : k = j
    · exact .inr e
    · refine .inl ?_
      rcases hw with hw | ⟨i', ph', w1, w2, w3⟩
      · simp only [stne k e] at hw; exact .inl hw
      · simp only [stne k e] at w1
        have e2 : i' ≠ i := fun e2 => by
          subst e2
          rw [upd_same] at w2
          exact hxb _ _ (Option.some.inj w2)
        rw [upd_ne T _ e2] at w2
        exact .inr ⟨i', ph', w1, w2, w3⟩
  · by_cases e : k = j
    · subst e
      unfold resting at hr
      simp only [upd_same] at hr
      rcases hr with hr | hr | ⟨_, hr⟩ <;> cases hr
    · unfold resting at hr ⊢
      simp only [stne k e] at hr
      exact hr
  · rw [cell_set_ne h.over (hO.lo k hk)]; exact h.left k hk
  · rw [cell_set_eq h.over, nf]
    rfl
  · have e : k ≠ j := fun e => by subst e; simp only [upd_same] at hs; cases hs
    simp only [stne k e] at hs
    obtain ⟨p', p1, p2, p3⟩ := h.hb1 k hk hs htl
    have hp' := lt_of_act? p1.1
    refine ⟨p', p1.app fun op hop sync e3 => ?_, (heard_old hp').2 p2, fun x hx hxt => (p3 x hx hxt).app fun op hop y hy e => absurd e (tnum x op hop y hy)⟩
    have := touch op hop _ (by rw [e3]; rfl)
    exact hO.lo k hk (by injection this)
  · have e : k ≠ j := fun e => by subst e; simp only [upd_same] at hs; cases hs
    simp only [stne k e] at hs
    exact (h.hb2 k i' hk hs y hy).app fun op hop z hz e _ => absurd e (tnum y op hop z hz)
theorem nodup_len : ∀ (n : Nat) (l : List Nat), l.Nodup → (∀ x ∈ l, x < n) → l.length ≤ n
  | 0, l, _, h => by
    cases l with
    | nil => simp
    | cons x l => exact absurd (h x (List.mem_cons_self ..)) (by omega)
  | n + 1, l, hn, h => by
    have := nodup_len n (l.erase n) (hn.erase n) fun x hx => by
      have h1 := h x (List.mem_of_mem_erase hx)
      have h2 : x ≠ n := fun e => (List.Nodup.mem_erase_iff hn).1 hx |>.1 e
      omega
    rw [List.length_erase] at this
    split at this <;> omega
/-- There is room. -/
theorem GA.room (h : GA P gh n T) {j : Nat} (hj : j < P.N) (hs : gh.st j ≠ .que) : gh.q.length < P.N := by
  have := nodup_len P.N (j :: gh.q) (List.nodup_cons.2 ⟨fun hx => hs ((h.que j).1 hx).2, h.nodup⟩) fun x hx => by
    rcases List.mem_cons.1 hx with rfl | hx
    · exact hj
    · exact ((h.que x).1 hx).1
  simp only [List.length_cons] at this
  omega
theorem buf_push (q : List Nat) (j : Nat) : (bufQ q).push (.int .i64 (j : Int)) = bufQ (q ++ [j]) := by
  apply Array.ext'
  simp [bufQ]
theorem chan_cell {c n1 s1 r1 : Nat} {x1 : Array Value} {c1 t1 : Bool} {x : Addr} (hx : x.block ≠ c) : (w.setChan c n1 x1 c1 s1 r1 t1).cell? x = w.cell? x := cell_block (by
    show (w.heap.setIfInBounds c _)[x.block]? = _
    rw [Array.getElem?_setIfInBounds, if_neg (fun e => hx e.symm)])
theorem chan_self {c n1 s1 r1 : Nat} {x1 : Array Value} {c1 t1 : Bool} (hc : c < w.heap.size) : (w.setChan c n1 x1 c1 s1 r1 t1).heap[c]? = some (.chan n1 x1 c1 s1 r1 t1) := by
  show (w.heap.setIfInBounds c _)[c]? = _
  rw [Array.getElem?_setIfInBounds, if_pos rfl, if_pos hc]
theorem chan_size {c n1 s1 r1 : Nat} {x1 : Array Value} {c1 t1 : Bool} : (w.setChan c n1 x1 c1 s1 r1 t1).heap.size = w.heap.size := by simp [World.setChan]
/-- ████ ONE IS SENT ON. ████ -/
theorem GI.give {j p m : Nat} (hO : GOk P M X Wg w0) (h : GI P M m0 gh s r n T K w t) (hl : Lic n K w t) (hi : i < n) (ht : T i = some (.busy j (.send p))) (hm : (P.nxt j)[p]? = some m) (hd : Deaf t i = 0) {a b : MemOp} (ha : a.g = i ∧ a.act = .send M.c s) (hb : b.g = i ∧ b.act = .sendDone M.c s) :
    gh.cl = false ∧ (bufQ gh.q).size < P.N ∧ Lic n K (w.setChan M.c P.N ((bufQ gh.q).push (.int .i64 (m : Int))) false (s + 1) r false) (t ++ #[a, b]) ∧
    GI P M m0 { gh with st := upd gh.st m .que, q := gh.q ++ [m] } (s + 1) r n (upd T i (some (.busy j (.put (p + 1))))) K (w.setChan M.c P.N ((bufQ gh.q).push (.int .i64 (m : Int))) false (s + 1) r false) (t ++ #[a, b]) := by
  have hcl : M.c < w.heap.size := (Array.getElem?_eq_some_iff.1 h.ch).1
  obtain ⟨hj, hsj, hdj, m', hm', hsm⟩ := h.ga.work i j _ hi ht
  obtain rfl : m = m' := Option.some.inj (hm.symm.trans hm')
  have hmn : m < P.N := hO.wf.lt j hj m (List.mem_of_getElem? hm)
  have hopen : gh.cl = false := by
    cases hc : gh.cl with
    | false => rfl
    | true => have := h.ga.shut hc j hj; rw [hsj] at this; cases this
  have hmj : m ≠ j := fun e => by subst e; rw [hsj] at hsm; cases hsm
  have hroom := h.ga.room hj (by rw [hsj]; simp)
  have hTn : T i ≠ none := fun e => by rw [ht] at e; cases e
  have htouch : ∀ op ∈ #[a, b], ∀ x, op.act.touch? = some x → False := fun op hop x hx => by
    rcases mem_two hop with rfl | rfl
    · rw [ha.2] at hx; cases hx
    · rw [hb.2] at hx; cases hx
  refine ⟨hopen, by simpa [bufQ] using hroom, hl.mute hi (Nat.le_of_eq chan_size.symm) fun op hop => ?_, ?_⟩
  · rcases mem_two hop with rfl | rfl
    · exact ⟨ha.1, by rw [ha.2, chan_size]; exact hcl, by rw [ha.2]; rfl⟩
    · exact ⟨hb.1, by rw [hb.2, chan_size]; exact hcl, by rw [hb.2]; rfl⟩
  have stne : ∀ k, k ≠ m → upd gh.st m .que k = gh.st k := fun k hk => upd_ne _ _ hk
  have nf : nFin P { gh with st := upd gh.st m .que, q := gh.q ++ [m] } = nFin P gh := by
    have := nFin_upd (P := P) (gh := gh) (gh' := { gh with st := upd gh.st m .que, q := gh.q ++ [m] }) hmn rfl
    rw [hsm] at this
    simpa using this
  have nu : nUn P { gh with st := upd gh.st m .que, q := gh.q ++ [m] } = nUn P gh := by
    have := nUn_upd (P := P) (gh := gh) (gh' := { gh with st := upd gh.st m .que, q := gh.q ++ [m] }) hmn rfl
    rw [hsm] at this
    simpa [JSt.un] using this
  have wr : ∀ k, k < P.N → written { gh with st := upd gh.st m .que, q := gh.q ++ [m] } (upd T i (some (.busy j (.put (p + 1))))) k → written gh T k := fun k hk hw => by
    have e : k ≠ m := fun e => by
      subst e
      rcases hw with hw | ⟨_, _, hw, _⟩ <;> simp only [upd_same] at hw <;> cases hw
    rcases hw with hw | ⟨i', ph', w1, w2, w3⟩
    · simp only [stne k e] at hw; exact .inl hw
    · simp only [stne k e] at w1
      by_cases e2 : i' = i
      · subst e2
        rw [upd_same] at w2
        cases w2
        exact .inr ⟨i', _, w1, ht, by simp⟩
      · rw [upd_ne T _ e2] at w2
        exact .inr ⟨i', ph', w1, w2, w3⟩
  have rs : ∀ k, resting { gh with st := upd gh.st m .que, q := gh.q ++ [m] } k → resting gh k := fun k hr => by
    by_cases e : k = m
    · subst e; exact .inr (.inr ⟨i, hsm⟩)
    · unfold resting at hr ⊢
      simp only [stne k e] at hr
      exact hr
  have nTn : ∀ k, upd T i (some (.busy j (.put (p + 1)))) k ≠ none → T k ≠ none := fun k hk e => by
    by_cases e2 : k = i
    · subst e2; exact hTn e
    · rw [upd_ne T _ e2] at hk; exact hk e
  have old : ∀ {x v}, w.cell? x = some v → (w.setChan M.c P.N ((bufQ gh.q).push (.int .i64 (m : Int))) false (s + 1) r false).cell? x = some v := fun {x v} hx => (chan_cell (cell_not_chan hx h.ch)).trans hx
  refine ⟨h.ga.send hi ht hm hmn, ?_, ?_, by rw [nu]; exact h.un, h.noC, fun k hk => old (h.left k hk), by rw [nf]; exact old h.over, fun k hk hx => h.atom k hk (hx.imp id (nTn k)), h.noA, fun k hk hw => old (h.num k hk (wr k hk hw)), fun k hk hw => h.free k hk (wr k hk hw), fun k hk hr => h.rest k hk (rs k hr), fun k hk hr x hx hy => ?_, fun x hx k ph hTx hph => ?_, fun k hk hs htl => ?_, fun k i' hk hs y hy => ?_, fun q k hq hne => ?_, fun x z1 z2 z3 => h.out x z1 z2 (upd_none z3)⟩
  · rw [chan_self hcl, buf_push, hopen]
  · have := h.sr
    show s + 1 = r + (gh.q ++ [m]).length
    rw [List.length_append, List.length_singleton]
    omega
  · exact (h.perm k hk (rs k hr) x hx (hy.imp id fun z => ⟨z.1, nTn x z.2⟩)).app fun op hop y hy _ => (htouch op hop y hy).elim
  · by_cases e : x = i
    · subst e
      rw [upd_same] at hTx
      cases hTx
      exact h.ownR x hx j _ ht (by simp)
    · rw [upd_ne T _ e] at hTx
      exact h.ownR x hx k ph hTx hph
  · have e : k ≠ m := fun e => by subst e; simp only [upd_same] at hs; cases hs
    simp only [stne k e] at hs
    obtain ⟨p', p1, p2, p3⟩ := h.hb1 k hk hs htl
    have hp' := lt_of_act? p1.1
    exact ⟨p', p1.app fun op hop sync e3 => htouch op hop _ (by rw [e3]; rfl), (heard_old hp').2 p2, fun x hx hxt => (p3 x hx hxt).app fun op hop y hy _ => (htouch op hop y hy).elim⟩
  · have e : k ≠ m := fun e => by subst e; simp only [upd_same] at hs; cases hs
    simp only [stne k e] at hs
    exact (h.hb2 k i' hk hs y hy).app fun op hop z hz _ => (htouch op hop z hz).elim
  · rcases Nat.lt_or_ge q gh.q.length with hql | hql
    · have hq' : gh.q[q]? = some k := by
        have : (gh.q ++ [m])[q]? = some k := hq
        rwa [List.getElem?_append_left hql] at this
      obtain ⟨p', p1, p2, p3⟩ := h.hb3 q k hq' hne
      have hp' := lt_of_act? p1
      exact ⟨p', (act?_old hp').trans p1, (heard_old hp').2 p2, fun x hx => (p3 x hx).app fun op hop y hy _ => (htouch op hop y hy).elim⟩
    · have hq' : (gh.q ++ [m])[q]? = some k := hq
      rw [List.getElem?_append_right hql] at hq'
      have hq0 : q = gh.q.length := by
        have := (List.getElem?_eq_some_iff.1 hq').1
        simp at this
        omega
      subst hq0
      simp at hq'
      subst hq'
      have e2 : t ++ #[a, b] = (t ++ #[a]) ++ #[b] := by rw [Array.append_assoc]; rfl
      refine ⟨t.size, ?_, heard_fst ha.1 hd, fun x hx => ?_⟩
      · rw [act?_of (at_two t a b).1, ha.2, h.sr]
      · have := (PermW.at_ (y := a) (h.hb2 m i hmn hsm x hx) ha.1 fun y hy _ => (htouch a (by simp) y hy).elim).app (u := #[b]) fun op hop y hy _ => (htouch op (by simp at hop; simp [hop]) y hy).elim
        rwa [← e2] at this
/-- ████ THE QUEUE IS CLOSED. ████ -/
theorem GI.close (h : GI P M m0 gh s r n T K w t) (hl : Lic n K w t) (hi : i < n) (ht : T i = some .last) {a b : MemOp} (ha : a.g = i ∧ a.act = .access ⟨.obj M.c, false, true⟩) (hb : b.g = i ∧ b.act = .close M.c) :
    gh.cl = false ∧ Lic n K (w.setChan M.c P.N (bufQ gh.q) true s r false) (t ++ #[a, b]) ∧
    GI P M m0 { gh with cl := true } s r n (upd T i (some .idle)) K (w.setChan M.c P.N (bufQ gh.q) true s r false) (t ++ #[a, b]) := by
  have hcl : M.c < w.heap.size := (Array.getElem?_eq_some_iff.1 h.ch).1
  have hTn : T i ≠ none := fun e => by rw [ht] at e; cases e
  have hA := (h.atom i hi (.inr hTn)).2.2
  have touch : ∀ op ∈ #[a, b], ∀ y, op.act.touch? = some y → y.loc = .obj M.c ∧ y.kind = .atomic := fun op hop y hy => by
    rcases mem_two hop with rfl | rfl
    · rw [ha.2] at hy; cases hy; exact ⟨rfl, rfl⟩
    · rw [hb.2] at hy; cases hy
  obtain ⟨hopen, hall, _⟩ := h.ga.last i hi ht
  refine ⟨hopen, hl.sync hi (Nat.le_of_eq chan_size.symm) fun op hop => ?_, ?_⟩
  · refine ⟨?_, ?_, fun y hy => ?_⟩
    · rcases mem_two hop with rfl | rfl
      · exact ha.1
      · exact hb.1
    · rcases mem_two hop with rfl | rfl
      · rw [ha.2, chan_size]; exact hcl
      · rw [hb.2, chan_size]; exact hcl
    · obtain ⟨e1, e2⟩ := touch op hop y hy
      rw [e1, e2]
      exact ⟨hA, (by simp), fun e => by simp at e⟩
  have nTn : ∀ k, upd T i (some .idle) k ≠ none → T k ≠ none := fun k hk e => by
    by_cases e2 : k = i
    · subst e2; exact hTn e
    · rw [upd_ne T _ e2] at hk; exact hk e
  have old : ∀ {x v}, w.cell? x = some v → (w.setChan M.c P.N (bufQ gh.q) true s r false).cell? x = some v := fun {x v} hx => (chan_cell (cell_not_chan hx h.ch)).trans hx
  have nocell : ∀ op ∈ #[a, b], ∀ y, op.act.touch? = some y → ∀ k, y.loc ≠ numL M k := fun op hop y hy k e => by rw [(touch op hop y hy).1] at e; cases e
  have fin : ∀ k, k < P.N → ∀ {x}, x ≠ .fin → gh.st k ≠ x := fun k hk {x} hx e => hx (e.symm.trans (hall k hk))
  refine ⟨h.ga.close hi ht, chan_self hcl, h.sr, h.un, h.noC, fun k hk => old (h.left k hk), old h.over, fun k hk hx => h.atom k hk (hx.imp id (nTn k)), h.noA, fun k hk _ => old (h.num k hk (.inl (hall k hk))), fun k hk _ => h.free k hk (.inl (hall k hk)), fun k hk hr => h.rest k hk hr, fun k hk hr x hx hy => (h.perm k hk hr x hx (hy.imp id fun z => ⟨z.1, nTn x z.2⟩)).app fun op hop y hy e => absurd e (nocell op hop y hy k), fun x hx k ph hTx hph => ?_, fun k hk hs _ => absurd hs (fin k hk (by simp)), fun k i' hk hs _ _ => absurd hs (fin k hk (by simp)), fun q k hq _ => ?_, fun _ _ _ _ => rfl⟩
  · by_cases e : x = i
    · subst e; rw [upd_same] at hTx; cases hTx
    · rw [upd_ne T _ e] at hTx
      exact h.ownR x hx k ph hTx hph
  · have := (h.ga.que k).1 (List.mem_of_getElem? hq)
    exact absurd this.2 (fin k this.1 (by simp))
end
end Go.Proofs.Yticdjkkcfdbdcaa
