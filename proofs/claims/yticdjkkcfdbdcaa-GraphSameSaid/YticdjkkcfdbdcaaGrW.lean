/- The family of workers that do jobs: its start, a go statement, its end. No conditions but those named. -/
import Derived.Test.YticdjkkcfdbdcaaGrV
namespace Go.Proofs.Yticdjkkcfdbdcaa
open Go.Conc Go.ConcN
section
variable {P : GPar} {M : GLoc} {m0 : Nat} {w0 : World} {X Rl : Loc → Prop} {Wg : Nat}
/-- At a go statement. -/
theorem famG_go (hO : GOk P M X Wg w0) {n : Nat} {T : Nat → Option GSt} {K : Nat → LK} {w : World} {t : Trace} {a b : MemOp} {k k' kc : LK} (h : (famG P M X Rl w0 m0).G n T K w t) (hl : Lic n K w t) (hn : 0 < n) (hm : m0 ≤ n) (hk : K 0 = k) (hT0 : T 0 = none) (hd : Deaf t 0 = 0)
    (kW : ∀ l, k'.W l → k.W l) (kR : ∀ l, k'.R l → k.W l ∨ k.R l) (kA : k'.A = k.A) (cW : ∀ l, kc.W l → k.W l) (cR : ∀ l, kc.R l → k.W l ∨ k.R l) (cA : kc.A = k.A) (ha : a.g = 0 ∧ a.act = .go n) (hb : b.g = n ∧ b.act = .start) :
    (famG P M X Rl w0 m0).G (n + 1) (upd T n (some .idle)) (upd (upd K 0 k') n kc) w (t ++ #[a, b]) := by
  obtain ⟨⟨h1, h2, h3, h4, h5⟩, gh, s, r, h6⟩ := h
  have htouch : ∀ op ∈ #[a, b], ∀ x, op.act.touch? = some x → False := fun op hop x hx => by
    rcases mem_two hop with rfl | rfl
    · rw [ha.2] at hx; cases hx
    · rw [hb.2] at hx; cases hx
  have hK : ∀ j, j < n + 1 → (∀ l, (upd (upd K 0 k') n kc j).W l → (K (if j = n then 0 else j)).W l) ∧ (∀ l, (upd (upd K 0 k') n kc j).R l → (K (if j = n then 0 else j)).W l ∨ (K (if j = n then 0 else j)).R l) ∧ (upd (upd K 0 k') n kc j).A = (K (if j = n then 0 else j)).A ∧ (if j = n then 0 else j) < n := fun j hj => by
    by_cases e : j = n
    · subst e
      rw [upd_same, if_pos rfl, hk]
      exact ⟨cW, cR, cA, hn⟩
    · rw [upd_ne _ _ e, if_neg e]
      by_cases e2 : j = 0
      · subst e2
        rw [upd_same, hk]
        exact ⟨kW, kR, kA, hn⟩
      · rw [upd_ne _ _ e2]
        exact ⟨fun _ h => h, fun _ h => .inr h, rfl, by omega⟩
  have nW : ∀ (l : Loc), (∀ i, i < n → ¬ (K i).W l ∧ ¬ (K i).R l) → ∀ j, j < n + 1 → ¬ (upd (upd K 0 k') n kc j).W l ∧ ¬ (upd (upd K 0 k') n kc j).R l := fun l hx j hj => by
    obtain ⟨q1, q2, _, q4⟩ := hK j hj
    exact ⟨fun z => (hx _ q4).1 (q1 l z), fun z => (q2 l z).elim (hx _ q4).1 (hx _ q4).2⟩
  have wr : ∀ k, written gh (upd T n (some .idle)) k → written gh T k := fun k hw => hw.imp id fun ⟨i, ph, w1, w2, w3⟩ => ⟨i, ph, w1, by
    by_cases e : i = n
    · subst e; rw [upd_same] at w2; cases w2
    · rwa [upd_ne T _ e] at w2, w3⟩
  show _ ∧ ∃ gh s r, GI P M m0 gh s r (n + 1) (@upd (Option GSt) T n (some .idle)) (upd (upd K 0 k') n kc) w (t ++ #[a, b])
  refine ⟨⟨h1, fun j hj l hx hw => h2 _ (hK j hj).2.2.2 l hx ((hK j hj).1 l hw), h3, h4.app fun op hop x => ?_, h5⟩, gh, s, r, h6.ga.fork, h6.ch, h6.sr, h6.un, nW _ h6.noC, h6.left, h6.over, fun i hi hx => ?_, fun i hi k hk => ?_, fun k hk hw => h6.num k hk (wr k hw), fun k hk hw i hi hz => h6.free k hk (wr k hw) _ (hK i hi).2.2.2 ((hK i hi).1 _ hz), fun k hk hr => nW _ (h6.rest k hk hr), fun k hk hr i hi hy => ?_, fun i hi k ph hTx hph => ?_, fun k hk hs htl => ?_, fun k i hk hs y hy => ?_, fun m k hq hne => ?_, fun i q1 q2 q3 => ?_⟩
  · rcases mem_two hop with rfl | rfl
    · rw [ha.2]; simp
    · rw [hb.2]; simp
  · rw [(hK i hi).2.2.1]
    by_cases e : i = n
    · subst e; rw [if_pos rfl]; exact h6.atom 0 hn (.inl rfl)
    · rw [if_neg e]
      exact h6.atom i (by omega) (hx.imp id fun z => by rwa [upd_ne T _ e] at z)
  · rw [(hK i hi).2.2.1]; exact h6.noA _ (hK i hi).2.2.2 k hk
  · by_cases e : i = n
    · subst e
      intro p x hx e
      have hp0 := h6.perm k hk hr 0 hn (.inl rfl)
      have hold : touchAt t p = some x := by
        obtain ⟨z, hz, hza⟩ := touch_of hx
        rcases getElem?_append_cases hz with ⟨_, hz'⟩ | ⟨_, hzu⟩
        · rw [touchAt_of hz']; exact hza
        · exact (htouch z hzu x hza).elim
      exact fork_knows ha hb hd (hl.above i (Nat.le_refl _)) (hp0 p x hold e)
    · exact (h6.perm k hk hr i (by omega) (hy.imp id fun z => ⟨z.1, by rw [upd_ne T _ e] at z; exact z.2⟩)).app fun op hop y hy _ => (htouch op hop y hy).elim
  · by_cases e : i = n
    · subst e; rw [upd_same] at hTx; cases hTx
    · rw [upd_ne T _ e] at hTx
      have hi' : i < n := by omega
      have := h6.ownR i hi' k ph hTx hph
      rw [upd_ne _ _ e]
      have e2 : i ≠ 0 := fun e2 => by subst e2; rw [hT0] at hTx; cases hTx
      rw [upd_ne K _ e2]
      exact this
  · obtain ⟨p', p1, p2, p3⟩ := h6.hb1 k hk hs htl
    have hp' := lt_of_act? p1.1
    exact ⟨p', p1.app fun op hop sync e3 => htouch op hop _ (by rw [e3]; rfl), (heard_old hp').2 p2, fun x hx hxt => (p3 x hx hxt).app fun op hop y hy _ => (htouch op hop y hy).elim⟩
  · exact (h6.hb2 k i hk hs y hy).app fun op hop z hz _ => (htouch op hop z hz).elim
  · obtain ⟨p', p1, p2, p3⟩ := h6.hb3 m k hq hne
    have hp' := lt_of_act? p1
    exact ⟨p', (act?_old hp').trans p1, (heard_old hp').2 p2, fun x hx => (p3 x hx).app fun op hop y hy _ => (htouch op hop y hy).elim⟩
  · by_cases e : i = n
    · subst e; rw [upd_same] at q3; cases q3
    · rw [upd_ne T _ e] at q3; exact h6.out i q1 (by omega) q3
/-- Who may begin at once. -/
def readyQ (P : GPar) : List Nat := (List.range P.N).filter fun k => (P.aft k).isEmpty
def gh0 (P : GPar) : GGh := ⟨fun k => if (P.aft k).isEmpty then .que else .wait, fun _ => 0, readyQ P, decide (P.N = 0)⟩
theorem cnt_zero (P : GPar) (k : Nat) : cnt P (fun _ => 0) k = 0 := by
  unfold cnt
  have : (List.range P.N).map (fun a => ((P.nxt a).take 0).count k) = (List.range P.N).map fun _ => 0 := List.map_congr_left fun a _ => by simp
  simp only [List.take_zero, List.count_nil]
  induction (List.range P.N) with
  | nil => rfl
  | cons x l ih => simpa using ih
theorem ga_start (P : GPar) (m0 : Nat) : GA P (gh0 P) m0 fun _ => none := by
  have st2 : ∀ k, (gh0 P).st k = .que ∨ (gh0 P).st k = .wait := fun k => by
    show (if _ then JSt.que else .wait) = _ ∨ (if _ then JSt.que else .wait) = _
    split
    · exact .inl rfl
    · exact .inr rfl
  have nb : ∀ k x, (gh0 P).st k = x → x = .que ∨ x = .wait := fun k x h => by rw [← h]; exact st2 k
  refine ⟨fun a _ => Nat.zero_le _, fun _ _ _ _ => rfl, fun k _ h => ?_, fun k => ?_, List.nodup_range.filter _, fun k i _ h => ?_, fun i k ph _ h => (by cases h), fun j i _ h => ?_, fun k hk => ?_, fun hc k hk => ?_, fun i _ h => (by cases h), fun hc hall => ?_⟩
  · rcases nb k _ h with e | e <;> cases e
  · show k ∈ (List.range P.N).filter _ ↔ k < P.N ∧ (if (P.aft k).isEmpty then JSt.que else .wait) = .que
    rw [List.mem_filter, List.mem_range]
    refine and_congr_right fun _ => ?_
    split <;> simp_all
  · rcases nb k _ h with e | e <;> cases e
  · rcases nb j _ h with e | e <;> cases e
  · show (if (P.aft k).isEmpty then JSt.que else .wait) = .wait ↔ cnt P (fun _ => 0) k < _
    rw [cnt_zero]
    split
    · rename_i h
      rw [List.isEmpty_iff] at h
      simp [h]
    · rename_i h
      have : P.aft k ≠ [] := fun e => h (by rw [e]; rfl)
      exact ⟨fun _ => List.length_pos_iff.2 this, fun _ => rfl⟩
  · have : P.N = 0 := by simpa [gh0] using hc
    omega
  · have hn : P.N ≠ 0 := by simpa [gh0] using hc
    rcases nb 0 _ (hall 0 (Nat.pos_of_ne_zero hn)) with e | e <;> cases e
/-- At the start. -/
theorem famG_start {k0 : LK} {t : Trace} (hm : 0 < m0) (hR : RelIn Rl t) (hX : ∀ l, X l → MemLoc w0.heap.size l ∧ ¬ k0.W l) (hch : w0.heap[M.c]? = some (.chan P.N (bufQ (readyQ P)) (decide (P.N = 0)) (readyQ P).length 0 false)) (hc : ¬ k0.W (.obj M.c) ∧ ¬ k0.R (.obj M.c))
    (hleft : ∀ k, k < P.N → w0.cell? (M.la k) = some (.int .i64 ((P.aft k).length : Int))) (hover : w0.cell? M.ov = some (.int .i64 0)) (hA : (∀ k, k < P.N → k0.A (.cell (M.la k))) ∧ k0.A (.cell M.ov) ∧ k0.A (.obj M.c)) (hnum : ∀ k, k < P.N → (¬ k0.W (numL M k) ∧ ¬ k0.R (numL M k) ∧ ¬ k0.A (numL M k)) ∧ Perm t 0 (numL M k)) :
    (famG P M X Rl w0 m0).G m0 (fun _ => none) (fun i => if i = 0 then k0 else LK.none) w0 t := by
  have st2 : ∀ k, (gh0 P).st k = .que ∨ (gh0 P).st k = .wait := fun k => by
    show (if _ then JSt.que else .wait) = _ ∨ (if _ then JSt.que else .wait) = _
    split
    · exact .inl rfl
    · exact .inr rfl
  have nb : ∀ k x, (gh0 P).st k = x → x = .que ∨ x = .wait := fun k x h => by rw [← h]; exact st2 k
  have nw : ∀ k, ¬ written (gh0 P) (fun _ => none) k := fun k hw => by
    rcases hw with hw | ⟨i, _, _, hw, _⟩
    · rcases nb k _ hw with e | e <;> cases e
    · cases hw
  have nt : ∀ a k, ¬ toldTo P (gh0 P) a k := fun a k h => by
    unfold toldTo at h
    simp [gh0] at h
  have nun : nUn P (gh0 P) = P.N := by
    unfold nUn
    rw [List.filter_eq_self.2 fun k _ => by rcases st2 k with e | e <;> rw [e] <;> rfl, List.length_range]
  have nfin : nFin P (gh0 P) = 0 := by
    unfold nFin
    rw [List.length_eq_zero_iff, List.filter_eq_nil_iff]
    intro k _ h
    have h := of_decide_eq_true h
    rcases nb k _ h with e | e <;> cases e
  refine ⟨⟨.refl _ _, fun i hi l hx => ?_, fun l hx => (hX l hx).1, hR, hm⟩, gh0 P, (readyQ P).length, 0, ga_start P m0, hch, (Nat.zero_add _).symm, by rw [nun, Nat.zero_add], fun i hi => ?_, fun k hk => ?_, by rw [nfin]; exact hover, fun i hi hx => ?_, fun i hi k hk => ?_, fun k _ hw => absurd hw (nw k), fun k _ hw => absurd hw (nw k), fun k hk _ i hi => ?_, fun k hk _ i hi hy => ?_, fun i _ k ph h => (by cases h), fun k _ _ ⟨a, _, h⟩ => absurd h (nt a k), fun k i _ h => ?_, fun m k hq hne => ?_, fun i q1 q2 _ => by omega⟩
  · by_cases e : i = 0
    · subst e; exact (hX l hx).2
    · simp only [if_neg e]; exact id
  · by_cases e : i = 0
    · subst e; exact hc
    · simp only [if_neg e]; exact ⟨id, id⟩
  · show w0.cell? (M.la k) = some (Value.int .i64 (((P.aft k).length : Int) - (cnt P (fun _ => 0) k : Int)))
    rw [cnt_zero, hleft k hk]
    simp
  · rcases hx with rfl | hx
    · exact hA
    · exact absurd rfl hx
  · by_cases e : i = 0
    · subst e; exact (hnum k hk).1.2.2
    · simp only [if_neg e]; exact id
  · by_cases e : i = 0
    · subst e; exact ⟨(hnum k hk).1.1, (hnum k hk).1.2.1⟩
    · simp only [if_neg e]; exact ⟨id, id⟩
  · rcases hy with rfl | ⟨_, hy⟩
    · exact (hnum k hk).2
    · exact absurd rfl hy
  · rcases nb k _ h with e | e <;> cases e
  · have := List.mem_of_getElem? (show (readyQ P)[m]? = some k from hq)
    unfold readyQ at this
    rw [List.mem_filter, List.isEmpty_iff] at this
    exact absurd this.2 hne
/-- At the end. -/
theorem famG_fin (hwf : GWf P) {n tot : Nat} {T : Nat → Option GSt} {K : Nat → LK} {w : World} {t : Trace} (h : (famG P M X Rl w0 m0).G n T K w t) (hT : ∀ i, i < n → T i = none) (hn : n = m0 + tot) (ht : 1 ≤ tot) :
    RelIn Rl t ∧ Rely (keepK X) w0 w ∧ (∀ k, k < P.N → w.cell? ⟨M.nb, k, none⟩ = some (.int .i64 (M.val k)) ∧ w.cell? (M.la k) = some (.int .i64 0)) ∧ w.cell? M.ov = some (.int .i64 (P.N : Int)) ∧ w.heap[M.c]? = some (.chan P.N #[] true P.N P.N false) := by
  obtain ⟨⟨h1, _, _, h4, _⟩, gh, s, r, h6⟩ := h
  have hc := h6.out m0 (Nat.le_refl _) (by omega) (hT m0 (by omega))
  have hall := h6.ga.shut hc
  have hq : gh.q = [] := by
    cases hq : gh.q with
    | nil => rfl
    | cons k q =>
      have := (h6.ga.que k).1 (by rw [hq]; exact List.mem_cons_self ..)
      have h2 := hall k this.1
      rw [this.2] at h2; cases h2
  have hu : nUn P gh = 0 := by
    unfold nUn
    rw [List.length_eq_zero_iff, List.filter_eq_nil_iff]
    intro k hk h
    rw [hall k (List.mem_range.1 hk)] at h
    cases h
  have hr : r = P.N := by have := h6.un; omega
  have hs : s = P.N := by have := h6.sr; rw [hq] at this; simp at this; omega
  have hch := h6.ch
  rw [hq, hc, hr, hs] at hch
  refine ⟨h4, h1, fun k hk => ⟨h6.num k hk (.inl (hall k hk)), ?_⟩, ?_, hch⟩
  · have h7 := h6.left k hk
    have h8 : cnt P gh.d k = (P.aft k).length := by
      have h9 := cnt_le (d := gh.d) hwf hk
      have h10 : ¬ cnt P gh.d k < (P.aft k).length := fun h => by
        have := (h6.ga.wait k hk).2 h
        rw [hall k hk] at this; cases this
      omega
    rw [h8] at h7
    rw [h7]; simp
  · have := h6.over
    rw [nFin_all.2 hall] at this
    exact this
end
section
variable {P : Program} {Post : Value → World → Prop} {n0 : Nat} {W0 : World}
/-- ████ FORK AND JOIN, whatever the family ████, where more than the group is shared. -/
theorem win_forkA {ty : TypeId} {Wg tot : Nat} {fm : Nat → (Loc → Prop) → Fam} {X : Loc → Prop} {Fin : Nat → (Nat → LK) → World → Prop} {k k0 : LK} {g : Goroutine} {Anc : Goroutine → Prop} {w : World} (hfok : ∀ m0 Shun, (fm m0 Shun).Ok Wg)
    (hwg : WgIs ty Wg w 0 0) (htot : tot ≤ 16) (hWk : ∀ l, WgLoc Wg l → k.W l) (hXo : ∀ l, MemLoc n0 l → X l)
    (kW : ∀ l, k0.W l → k.W l ∧ ¬ k0.A l) (kR : ∀ l, k0.R l → (k.W l ∨ k.R l) ∧ ¬ k0.A l) (kA : ∀ l, k0.A l → k.W l) (kA2 : ∀ l, WgLoc Wg l → k0.A l)
    (hG0 : ∀ m0 Shun t, 0 < m0 → RelIn Shun t → (∀ l, k.W l ∨ k.R l → Perm t 0 l) → (fm m0 Shun).G m0 (fun _ => none) (fun i => if i = 0 then k0 else LK.none) w t)
    (hGF : ∀ m0 Shun n T K w' t, (fm m0 Shun).G n T K w' t → (∀ i, i < n → T i = none) → n = m0 + tot → RelIn Shun t ∧ Rely (keepK X) w w' ∧ Fin m0 K w')
    (hWP : ∀ m0 p0 Shun, WP (wgProto P (fm m0 Shun) ty Wg m0 p0 tot Shun (fun g' _ => Anc g')) 0 k0 (.main (.sp tot 3)) g w)
    (hc : ∀ (gend : Goroutine) (w' : World) (k' : LK) (m0 : Nat) (K : Nat → LK), Anc gend → Rely (keepK X) w w' → (∀ l, k.W l → ¬ WgLoc Wg l → k'.W l) → (∀ l, k.R l → ¬ WgLoc Wg l → k'.R l) → (∀ l, NewLoc w.heap.size w'.heap.size l → k'.W l) → Fin m0 K w' → Win P Post n0 W0 k' gend w') :
    Win P Post n0 W0 k g w := by
  intro Shun gs sl t q hO h0 hL hP hRel hS hk
  have hpos : 0 < gs.size := (Array.getElem?_eq_some_iff.1 h0).1
  have hWs : ∀ l, WgLoc Wg l → ¬ Shun l := fun l hl => (hk l (.inl (hWk l hl))).2
  have hnr : NoRelease (stW Wg) t := fun i hi => by
    obtain ⟨op, hop, ha⟩ := Option.map_eq_some_iff.1 (show (t[i]?).map (·.act) = some _ from hi)
    exact hWs _ ⟨0, none, rfl⟩ (hRel op (Array.mem_of_getElem? hop) (stW Wg) ha)
  obtain ⟨o0, hw0⟩ := hWP gs.size t.size Shun
  have hok : (fm gs.size Shun).Ok Wg := hfok _ _
  have hwok := wg_ok (P := P) (ty := ty) (m0 := gs.size) (p0 := t.size) (tot := tot) (Shun := Shun) (Anc := fun g' _ => Anc g') hok
  let S0 : Nat → WSt (fm gs.size Shun).τ := fun i => if i = 0 then .main (.sp tot 3) else .gone
  let K0 : Nat → LK := fun i => if i = 0 then k0 else LK.none
  have hlic : Lic gs.size K0 w t := Lic.start hP hL k0 (fun l hl => hk l (.inl (kW l hl).1)) (fun l hl => hk l (kR l hl).1) (fun l hl => hk l (.inl (kA l hl))) (fun l hl ha => (hl.elim (fun x => (kW l x).2) (fun x => (kR l x).2)) ha)
  have hcast : Cast (pr := wgProto P (fm gs.size Shun) ty Wg gs.size t.size tot Shun (fun g' _ => Anc g')) gs.size gs w t S0 K0 (fun i => if i = 0 then o0 else .leaf) q := by
    refine ⟨rfl, hpos, hlic, ⟨WgInv.start hP hL hpos hwg hnr, ?_, fun i hi hne l hl => ?_, ⟨?_, htot⟩, ?_⟩, ?_, fun i hi => ?_⟩
    · have := hG0 gs.size Shun t hpos hRel fun l hl p a ha e => (hP.known p a ha (by rw [e]; exact isMemory_of (hk l hl).1)).resolve_right (fun x => (hk l hl).2 (e ▸ x.1))
      have hS0 : (fun i => (S0 i).x) = fun _ => none := by
        funext i
        by_cases e : i = 0
        · simp [S0, e, WSt.x]
        · simp [S0, e, WSt.x]
      show (fm gs.size Shun).G gs.size (fun i => (S0 i).x) K0 w t
      rw [hS0]; exact this
    · by_cases e : i = 0
      · subst e; exact kA2 l hl
      · exact absurd (if_neg e) hne
    · show gs.size + leftW (WSt.main (MT.sp tot 3)) = _
      rfl
    · intro r s e hs
      have e' : (WSt.main (MT.sp tot 3) : WSt (fm gs.size Shun).τ) = .main (.sp r s) := e
      cases e'; omega
    · show ¬ (_ = _)
      simp [S0]
    · by_cases e : i = 0
      · subst e
        exact ⟨g, h0, .inl ⟨by show ¬ (_ = _); simp [S0], g, w, .inl rfl, .refl _ _, ⟨hok.refl _ _, fun _ st sm h => ⟨st, sm, h, Int.le_refl _⟩⟩, hw0⟩⟩
      · refine ⟨gs[i], Array.getElem?_eq_getElem hi, .inr ⟨if_neg e, e, hL.old i _ (by omega) (Array.getElem?_eq_getElem hi)⟩⟩
  obtain ⟨N, gs', w', sl', t', n', S', K', O', q', g', hrun, hc', hg', hgr, hend⟩ := cast_runs hwok _ _ _ _ _ gs w t S0 K0 q sl rfl rfl rfl hcast
  obtain ⟨hret, hanc⟩ := hend
  replace hanc : Anc g' := hanc
  obtain ⟨f1, f2, f3, f4, f5⟩ := hc'.f
  obtain ⟨hpast, hgone⟩ := f1.past hret hc'.lic
  have hnt : n' = gs.size + tot := by
    have := f4.1
    rw [hret] at this
    exact this
  have hnone : ∀ i, i < n' → (S' i).x = none := fun i hi => by
    by_cases e : i = 0
    · subst e; rw [hret]; rfl
    · rw [hgone i hi e]; rfl
  obtain ⟨e4, e1, hfin⟩ := hGF gs.size Shun n' (fun i => (S' i).x) K' w' t' f2 hnone hnt
  refine .steps hrun ?_
  have hsz : w.heap.size ≤ w'.heap.size := e1.size
  have hWm : ∀ l, WgLoc Wg l → MemLoc w.heap.size l := fun l hl => (hk l (.inl (hWk l hl))).1
  refine hc g' w' ⟨fun l => (MemLoc w'.heap.size l ∧ ¬ (Shun l ∨ WgLoc Wg l)) ∧ ¬ MemLoc n0 l, fun l => MemLoc w'.heap.size l ∧ ¬ (Shun l ∨ WgLoc Wg l), fun _ => False⟩ gs.size K' hanc e1 (fun l hl hn => ⟨⟨(hk l (.inl hl)).1.mono hsz, fun x => x.elim (hk l (.inl hl)).2 hn⟩, hO.lic l hl⟩)
    (fun l hl hn => ⟨(hk l (.inr hl)).1.mono hsz, fun x => x.elim (hk l (.inr hl)).2 hn⟩) (fun l hl => ⟨⟨hl.mem.1, fun x => hl.mem.2 (x.elim (hS l) (hWm l))⟩, fun hm => hl.mem.2 (hm.mono hO.size)⟩) hfin
    (fun l => Shun l ∨ WgLoc Wg l) gs' sl' t' q' ⟨Nat.le_trans hO.size hsz, fun b hb => ?_, e1.os.trans hO.os, e1.output.trans hO.output, fun l hl => hl.2, e1.tape.trans hO.tape⟩ hg' ⟨fun i y hi hy => ?_, fun j hj => ?_⟩ hpast (fun op hop a ha => .inl (e4 op hop a ha))
    (fun l hl => hl.elim (fun x => (hS l x).mono hsz) (fun x => (hWm l x).mono hsz)) (fun l hl => hl.elim (fun x => x.1) id)
  · rw [← hO.heap b hb]
    have hb' : b < w.heap.size := Nat.lt_of_lt_of_le hb hO.size
    have hs : w.heap[b]? = some w.heap[b] := Array.getElem?_eq_getElem hb'
    rw [hs]
    by_cases hn : NotCells w.heap[b]
    · exact e1.obj b _ hs hn (.inr (hXo _ hb))
    · have : ∃ c e f, w.heap[b] = .cells c e f := Classical.byContradiction fun hx => hn fun c e f he => hx ⟨c, e, f, he⟩
      obtain ⟨c, e, f, he⟩ := this
      rw [he] at hs ⊢
      exact e1.row hs fun o => .inr (hXo _ hb)
  · have hin : i < n' := by rw [← hc'.size]; exact (Array.getElem?_eq_some_iff.1 hy).1
    obtain ⟨y', hy', hcase⟩ := hc'.th i hin
    rw [hy] at hy'; cases hy'
    rcases hcase with ⟨hng, _⟩ | ⟨_, _, hq⟩
    · exact absurd (hgone i hin (by omega)) hng
    · exact hq
  · exact hc'.lic.above j (by rw [← hc'.size]; exact hj)
end
end Go.Proofs.Yticdjkkcfdbdcaa
