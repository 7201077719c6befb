/- A call of (*atomic.Int64).Store in company, told of the lone world. No conditions but those named. -/
import Derived.Test.YticdjkkcfdbdcaaGrE
import Derived.Test.YticdjkkcfdbdcaaGrO
import Derived.Test.YticdjkkcfdbdcaaDrawE
import Derived.Test.YticdjkkcfdbdcaaChan
namespace Go.Proofs.Yticdjkkcfdbdcaa
open Go.Conc Go.ConcN
/-- Silent steps, whatever the world. -/
inductive QS (P : Program) (main : Bool) : Goroutine → Goroutine → Prop
  | refl (g : Goroutine) : QS P main g g
  | step {g g1 g2 : Goroutine} (hr : g.status = .running) (ho : g1.offers = none) (h : ∀ w : World, stepG P main g w = .go g1 w #[]) (t : QS P main g1 g2) : QS P main g g2
theorem wgo_qs (P : Program) {X : Exts} (hX : ExtOk P X) (main : Bool) (ty : Nat) : ∀ (n : Nat) (g : Goroutine), (wgo P X main (ty, 2) n g).2 = [] → QS P main g (wgo P X main (ty, 2) n g).1
  | 0, g, _ => .refl g
  | n + 1, g, hb => by
    unfold wgo at hb ⊢
    split at hb
    · rename_i ho; rw [if_pos ho]; exact .refl g
    · rename_i ho
      rw [if_neg ho]
      have ho' : g.offers = none := by simpa using ho
      split at hb
      · rename_i g' l h
        split at hb
        · rename_i hs
          obtain ⟨hr, hst⟩ := qstep_step hX h
          exact .step hr (qstep_offers h) (fun w => by rw [hst w, hs]) (wgo_qs P hX main ty n g' hb)
        · exact .refl g
      · rename_i h
        split at hb
        · rename_i a ha
          split at hb
          · rename_i g' hg
            split at hb
            · rename_i hc
              try rw [if_pos hc]
              simp only [Bool.and_eq_true, List.isEmpty_iff, Option.isNone_iff_eq_none, Array.isEmpty_iff] at hc
              obtain ⟨⟨⟨c1, c2⟩, c3⟩, c4⟩ := hc
              have hb2 : a.run.asks ++ (wgo P X main (ty, 2) n g').2 = [] := hb
              obtain ⟨b1, b2⟩ := List.append_eq_nil_iff.1 hb2
              refine .step (g1 := g') ?_ (astep_offers ha hg) (fun w => ?_) (wgo_qs P hX main ty n g' b2)
              · unfold astep at ha
                split at ha
                · cases ha
                · rename_i hx
                  simp only [Bool.or_eq_true, not_or, bne_iff_ne, ne_eq, Decidable.not_not] at hx
                  exact hx.1.1.2
              · obtain ⟨_, hst⟩ := astep_step hX ha ho' main w ⟨(fun x hx => by rw [c1] at hx; cases hx), (fun x hx => by rw [b1] at hx; cases hx), (fun x hx => by rw [c3] at hx; cases hx), (fun x y hx => by rw [c2] at hx; cases hx)⟩
                rw [hg] at hst
                simp only at hst
                rw [hst, c4]
                simp [ARun.world, c2]
            · rename_i hc; try rw [if_neg hc]
              exact .refl g
          · exact .refl g
        · exact .refl g
theorem QS.offers {P : Program} {main : Bool} {a b : Goroutine} (h : QS P main a b) (ha : a.offers = none) : b.offers = none := by
  induction h with
  | refl => exact ha
  | step _ ho _ _ ih => exact ih ho
section
variable {Post : Value → World → Prop} {n0 : Nat} {W0 : World}
theorem win_qs {g g' : Goroutine} (h : QS Try.prog true g g') (ho : g.offers = none) {k : LK} {W : World} (hw : ∀ d, Win Try.prog Post n0 W0 k g' (W.at d)) : ∀ d, Win Try.prog Post n0 W0 k g (W.at d) := by
  induction h with
  | refl => exact hw
  | step hr ho' hst _ ih =>
    intro d
    refine win_own hr fun d' => ⟨_, (W.at d).at d', #[], hst _, .idle _ _, ?_⟩
    have : ((W.at d).at d').heap.size = (W.at d).heap.size := rfl
    rw [this, grow_self]
    exact ih ho' hw d'
noncomputable def se0 (x : Addr) (n : Int) (c : Frame) (cs : List Frame) : Goroutine := G (Frame.enter Try.prog 56 #[.pointer (some x), .int .i64 n] .normal) (c :: cs)
noncomputable def se1 (x : Addr) (n : Int) (c : Frame) (cs : List Frame) := wgo Try.prog grExt true (0, 2) 100 (se0 x n c cs)
end
set_option maxRecDepth 100000 in
theorem store_script64 (b o : Nat) (n : Int) (c : Frame) (cs : List Frame) : ∃ (g0 g1 : Goroutine), QS Try.prog true (se0 ⟨b, o, none⟩ n c cs) g0 ∧ (g0.status = .running ∧ g0.offers = none) ∧ (∀ w u, w.cell? ⟨b, o, none⟩ = some u → w.frozen? ⟨b, o, none⟩ = false → stepG Try.prog true g0 w = .go g1 (w.setCell ⟨b, o, none⟩ (.int .i64 n)) #[wrE ⟨b, o, none⟩]) ∧ g1.offers = none ∧ QS Try.prog true g1 (G (c.finish (.tuple #[])) cs) := by
  have h1 : (se1 ⟨b, o, none⟩ n c cs).2 = [] := by kernel_rfl
  have q1 : QS Try.prog true (se0 ⟨b, o, none⟩ n c cs) (se1 ⟨b, o, none⟩ n c cs).1 := wgo_qs Try.prog grExt_ok true 0 100 _ h1
  have ho : (se1 ⟨b, o, none⟩ n c cs).1.offers = none := q1.offers rfl
  have h2 : alook Try.prog grExt (se1 ⟨b, o, none⟩ n c cs).1 undef none = (true, [], [], [], some (⟨b, o, none⟩, .int .i64 n), #[wrE ⟨b, o, none⟩], true) := by kernel_rfl
  obtain ⟨a, e1, e2, e3, e4, e5, e6, e7⟩ := anext_some h2
  refine ⟨_, anext Try.prog grExt (se1 ⟨b, o, none⟩ n c cs).1 undef none, q1, ⟨(alook_running h2).1, ho⟩, fun w u hc hz => ?_, (alook_running h2).2, ?_⟩
  · obtain ⟨_, hst⟩ := astep_step grExt_ok e1 ho true w ⟨fun y hy => by rw [e3] at hy; simp at hy, fun y hy => by rw [e4] at hy; simp at hy, fun y hy => by rw [e5] at hy; simp at hy, fun y z hy => by rw [e6] at hy; cases hy; exact ⟨⟨_, hc⟩, hz⟩⟩
    rw [e2] at hst
    simp only at hst
    rw [e7] at hst
    rw [hst]
    simp only [ARun.world, e6]
  · have h3 : wgo Try.prog grExt true (0, 2) 3 (anext Try.prog grExt (se1 ⟨b, o, none⟩ n c cs).1 undef none) = (G (c.finish (.tuple #[])) cs, []) := by kernel_rfl
    have := wgo_qs Try.prog grExt_ok true 0 3 (anext Try.prog grExt (se1 ⟨b, o, none⟩ n c cs).1 undef none) (by rw [h3])
    rw [h3] at this
    exact this
section
variable {Post : Value → World → Prop} {n0 : Nat} {W0 : World}
/-- ████ A STORE ████ -/
theorem m_store {L : World} {b o : Nat} {n u : Int} {up : Bool} (hc : L.cell? ⟨b, o, none⟩ = some (.int .i64 u)) (hz : L.frozen? ⟨b, o, none⟩ = false) :
    MCalls (InV grL grV) Try.prog (fun k g w => Win Try.prog Post n0 W0 k g w) 56 #[.pointer (some ⟨b, o, none⟩), .int .i64 n] up (fun v L1 => v = .tuple #[] ∧ L1 = L.setCell ⟨b, o, none⟩ (.int .i64 n)) L := by
  intro c' base ρ k W args' hM hA hk
  obtain ⟨hs, hv⟩ := hA
  obtain ⟨x, y, rfl⟩ : ∃ x y, args' = #[x, y] := by
    rcases args' with ⟨l⟩
    match l, hs with
    | [x, y], _ => exact ⟨x, y, rfl⟩
  have hx := hv 0 _ _ rfl rfl
  have hy := hv 1 _ _ rfl rfl
  cases hy
  obtain ⟨a', hAR, rfl⟩ : ∃ a', AR ρ ⟨b, o, none⟩ a' ∧ x = .pointer (some a') := by
    cases hx with
    | ptr h => exact ⟨_, h, rfl⟩
  obtain ⟨⟨u', h1⟩, h2, h3, h4⟩ := hM.wr.store (v := .int .i64 n) (v' := .int .i64 n) hAR hc hz (.int _ _)
  obtain ⟨_, c, s, hρ, rfl⟩ := hAR
  obtain ⟨g0, g1, q1, ⟨r1, r2⟩, hst, o1, q2⟩ := store_script64 c (s + o) n c' base
  have hlt : c < W.heap.size := (hM.wr.lt b c s hρ).2
  refine win_qs (W := W) q1 rfl (fun d0 => ?_) W.drawn
  refine win_act r1 fun d => ?_
  have hst' := hst ((W.at d0).at d) u' h1 h2
  have hsz : (((W.at d0).at d).setCell ⟨c, s + o, none⟩ (.int .i64 n)).heap.size = W.heap.size := by simp [World.setCell, World.at]
  refine ⟨_, _, _, fun gs sl h0 hs => (runT_crowd_go (sl := sl) (i := 0) h0 hst').trans (by rw [map_woken hs]), (own_write (w := (W.at d0).at d) (v := .int .i64 n) h1 h3).chg, fun op hop => ?_, ?_⟩
  · obtain ⟨e, he, rfl⟩ := Go.Conc.mem_ofEvents hop
    have : e = wrE ⟨c, s + o, none⟩ := by simpa using he
    subst this
    refine ⟨rfl, ?_, fun bb hb => ?_, fun a e => (by cases e), (by simp [wrE, MemAct.ofEvent]), (by simp [wrE, MemAct.ofEvent])⟩
    · rw [hsz]; exact hlt
    · have : bb = ⟨.cell ⟨c, s + o, none⟩, true, .atomic⟩ := by
        have h : some (⟨.cell ⟨c, s + o, none⟩, true, .atomic⟩ : Touch) = some bb := hb
        exact (Option.some.inj h).symm
      subst this
      exact .inr (.inl h3)
  · have hs1 : (W.at d0).heap.size = W.heap.size := rfl
    rw [hsz, hs1, grow_self]
    have key := win_qs (Post := Post) (n0 := n0) (W0 := W0) (k := k) (W := W.setCell ⟨c, s + o, none⟩ (.int .i64 n)) q2 o1 fun d2 => hk (.tuple #[]) (.tuple #[]) (L.setCell ⟨b, o, none⟩ (.int .i64 n)) ρ k ((W.setCell ⟨c, s + o, none⟩ (.int .i64 n)).at d2) ⟨rfl, rfl⟩ (.refl _) (fun _ => ⟨by simp [World.setCell, World.at], fun _ h => h, fun _ h => .inl h, rfl, rfl⟩) ⟨h4.heaps rfl rfl, hM.pr⟩ (.tuple rfl fun i v v' h => by simp at h)
    exact key d
end
end Go.Proofs.Yticdjkkcfdbdcaa
