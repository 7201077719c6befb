/- A worker of graph.Run in company, whole. No conditions but those named. -/
import Derived.Test.YticdjkkcfdbdcaaGrL
namespace Go.Proofs.Yticdjkkcfdbdcaa
open Go.Conc Go.ConcN Go.RowKit
theorem grun_mixed : Try.prog.follows .mixedOrders = true := by kernel_rfl
theorem gk_r17 : drawOk (opsOf Try.f57 17) 3 = true := by kernel_rfl
theorem seen_objs (P : Program) (fn : FuncId) (c : Nat) : seen P fn #[⟨.obj c, false, true⟩, ⟨.obj c, true, true⟩] = #[⟨.obj c, false, true⟩, ⟨.obj c, true, true⟩] := by simp [seen]
theorem close_at {b : Frame} {K : List Item} {cs : List Frame} {a : Act} {ops : Array Oper} {i : Nat} {rest : List Nat} {x : Operand} {ats : Array TypeId} {c : Nat} (hb : b.kind ≠ .early) (hx : (ops[i]?).map (fun o => (o.op, o.guard, o.dst)) = some (.call { callee := .builtin .close, args := #[x], argTypes := ats }, none, none)) (hc : a.eval x = .chan (some c)) :
    CloseAt Try.prog (G (b.at a (.inRegion ops (i :: rest) :: K)) cs) c (G (b.at a (.inRegion ops rest :: K)) cs) := by
  obtain ⟨o, ho, hop, hg, hd⟩ := op_ex hx
  refine ⟨by simp [mayWake, G, Frame.at, ho, hop], fun w cap buf s r hw => ?_⟩
  have hrun : (execOp a.eval o).run Try.prog w = .ok (.value (.tuple #[])) (w.setChan c cap buf true s r false) ∧ (execOp a.eval o).events Try.prog w #[] = #[⟨.obj c, false, true⟩, ⟨.obj c, true, true⟩] := by
    have : (execOp a.eval o).runT Try.prog w #[] = (.ok (.value (.tuple #[])) (w.setChan c cap buf true s r false), #[⟨.obj c, false, true⟩, ⟨.obj c, true, true⟩]) := by
      have e : execOp a.eval o = (Builtin.close_ ats o.type #[.chan (some c)] >>= fun v => pure (.value v)) := by
        simp only [execOp, hop, resolve, List.map_toArray, List.map_cons, List.map_nil, hc]
        rfl
      rw [e]
      change (Sem.getObj c _).runT Try.prog w #[] = _
      simp only [Sem.runT, hw]
      change (Sem.setObj c _ _).runT Try.prog w _ = _
      simp only [Sem.runT, hw]
      rfl
    rw [Sem.runT_eq] at this
    exact Prod.mk.inj this
  have := stepG_value (P := Try.prog) (main := false) (b := b) (a := a) (k := K) (cs := cs) (rest := rest) ho (yld hg _) hb hrun.1
  rw [this, hd]
  unfold listed
  rw [hrun.2, seen_objs]
  rfl
section
variable {P : GPar} {M : GLoc} {X Rl : Loc → Prop} {w0 : World} {m0 p0 tot wg : Nat} {Shun : Loc → Prop} {Anc : Goroutine → World → Prop} {R0 At : Loc → Prop} {Nj : Nat → Int} {B : GBox} {n r0 j : Nat} {ds : List Deferred} {b : Frame} {cs : List Frame} {K : List Item}
/-- Which state it comes to. -/
def stG (P : GPar) (j : Nat) (ph : GPh) : Option Value → GSt
  | none => .busy j ph
  | some (.int _ v) => if v = (P.N : Int) then .last else .idle
  | some _ => .idle
def V17 (P : GPar) (jA : Option Addr) (cap : Nat) : Nat → Value := fun i => match i with
  | 1 => .slice jA P.N cap
  | 2 => .int .i64 (P.N : Int)
  | _ => undef
set_option maxRecDepth 100000 in
/-- The job is done. -/
theorem gk_over (hO : GOk P M X wg w0) (hN : JobsAt w0 R0 P M Nj B) (hb : b.kind ≠ .early) (hn0 : n ≠ 0) (hj : j < P.N) {ph : GPh} (hph : ph.at (P.nxt j).length)
    (hn : ∀ a k w, Tm 66 ds (tbG wg B M) a → GB w0 R0 At M r0 k w → WP (wgProto Try.prog (famG P M X Rl w0 m0) 114 wg m0 p0 tot Shun Anc) n k (.work .idle) (G (b.at a K) cs) w) {a : Act} {k : LK} {w : World} (hT : Tm 66 ds (tbG wg B M) a) (hS : GP w0 R0 At M r0 j ph k w) :
    WP (wgProto Try.prog (famG P M X Rl w0 m0) 114 wg m0 p0 tot Shun Anc) n k (.work (.busy j ph)) (G (b.at a (.code (.seq (rgK 17 true) (.cond (.tmp 64) (rgK 18 false) .skip)) :: K)) cs) w := by
  obtain ⟨jA, cap, hjb, _⟩ := hN.jobs
  obtain ⟨ob, hov, hobz, hobf⟩ := hN.ov
  have hJz : ∀ z, JOk Try.prog (n == 0) (fun k w w₁ => Rely k w w₁ ∧ (famG P M X Rl w0 m0).GR n w w₁) (fun k g w => WP (wgProto Try.prog (famG P M X Rl w0 m0) 114 wg m0 p0 tot Shun Anc) n k (.work (stG P j ph z)) g w) := fun z => gk_jok hO n (stG P j ph z)
  let S : Option Value → LK → World → Prop := fun z k w => match z with
    | none => GP w0 R0 At M r0 j ph k w
    | some v => (∃ i, v = .int .i64 i) ∧ GB w0 R0 At M r0 k w
  have hSR : ∀ z k w w₁, S z k w → (Rely k w w₁ ∧ (famG P M X Rl w0 m0).GR n w w₁) → S z k w₁ := fun z k w w₁ h hR => by
    cases z with
    | none => exact GP.go h hR.1 hR.2.2
    | some v => exact ⟨h.1, GB.go h.2 hR.1 hR.2.2⟩
  have hSb : ∀ z k w, S z k w → GB w0 R0 At M r0 k w := fun z k w h => by
    cases z with
    | none => exact GP.b h
    | some v => exact h.2
  have hdd := drawOk_d gk_r17
  have hsz : (opsOf Try.f57 17).size = 4 := by kernel_rfl
  refine js_seq (hJz none) (S none) (hSR none) (fun k w hS => ?_) hS
  refine j_drawX (J := fun z k g w => WP (wgProto Try.prog (famG P M X Rl w0 m0) 114 wg m0 p0 tot Shun Anc) n k (.work (stG P j ph z)) g w) hJz grun_mixed gk_r17 S hSR (fun z k w d h => ?_) (V := V17 P jA cap) (e := 0) (by decide) (by rw [hsz]; decide) hb (fun z v i o hio him hie k w hS => ?_) (fun a' o rest k w ho0 hold hS hgo => ?_) (fun v k w hS => ?_) hS
  · cases z with
    | none => exact GP.go h (.at k w d) (fun _ h => h)
    | some v => exact ⟨h.1, GB.go h.2 (.at k w d) (fun _ h => h)⟩
  · have hi4 := (Array.getElem?_eq_some_iff.1 hio).1
    obtain rfl | rfl : i = 1 ∨ i = 2 := by omega
    · have e2 : (putsV (opsOf Try.f57 17) (setV (V17 P jA cap) 0 v) (List.range 3) a).eval (.tmp 2) = .pointer (some ⟨B.jobs, 0, none⟩) := (puts_old hdd (by kernel_rfl)).trans (hT.of 2 _ rfl)
      obtain ⟨c1, c2⟩ := (hSb z k w hS).rd hjb.1 hjb.2
      exact opv_load (op_of (p := .load 34 (.tmp 2)) (by kernel_rfl) hio) e2 (fun w => Try.isAgg34 w) c1 c2
    · have e2 : (putsV (opsOf Try.f57 17) (setV (V17 P jA cap) 0 v) (List.range 3) a).eval (.tmp 62) = .slice jA P.N cap := puts_new (V := setV (V17 P jA cap) 0 v) hdd (t := 62) (j := 1) (by kernel_rfl) (by decide) (by rw [hT.size]; decide)
      have := run_lenJ (op_of (p := .call { callee := .builtin .len, args := #[.tmp 62], argTypes := #[34] }) (by kernel_rfl) hio) e2 w
      rw [Sem.runT_eq] at this
      obtain ⟨q1, q2⟩ := Prod.mk.inj this
      exact ⟨q1, by rw [q2, seen_empty]; exact .idle k w⟩
  · -- the call
    have hS' : GP w0 R0 At M r0 j ph k w := hS
    obtain ⟨hop, hg, hdo⟩ : o.op = .call { callee := .value (.func 58), args := #[.tmp 6, .const (.int .i64 1)], argTypes := #[128, 2] } ∧ o.guard = none ∧ o.dst = some 61 := by
      obtain ⟨o', ho', q1, q2, q3⟩ := op_ex (ops := opsOf Try.f57 17) (i := 0) (p := .call { callee := .value (.func 58), args := #[.tmp 6, .const (.int .i64 1)], argTypes := #[128, 2] }) (d := some 61) (by kernel_rfl)
      rw [ho0] at ho'
      cases ho'
      exact ⟨q1, q2, q3⟩
    have hcall := op_call (P := Try.prog) (e := a'.eval) (n := 58) (first := #[]) (captured := #[]) hop rfl ⟨_, Try.func58, by kernel_rfl, by kernel_rfl⟩
    have hargs : (#[] ++ #[Operand.tmp 6, .const (.int .i64 1)].map a'.eval ++ #[] : Array Value) = #[.pointer (some ⟨ob, 0, none⟩), .int .i64 1] := by
      have h6 : a'.eval (.tmp 6) = .pointer (some ⟨ob, 0, none⟩) := (hold 6 (by rw [hT.size]; decide) (by kernel_rfl)).trans ((hT.of 6 _ rfl).trans (by rw [hov]))
      simp [h6]
      rfl
    rw [hargs] at hcall
    refine j_ctl (hJz none) (fun w => (stepG_enter ho0 (yld hg _) hb (hcall w).1).trans (by rw [listed, (hcall w).2, seen_empty])) fun w₂ hR2 => ?_
    have hS2 : GP w0 R0 At M r0 j ph k w₂ := hS'.go hR2.1 hR2.2.2
    have hfin : ∀ v, (b.at a' (.inRegion (opsOf Try.f57 17) (0 :: rest) :: .code (.cond (.tmp 64) (rgK 18 false) .skip) :: K)).finish v = b.at (a'.put o.dst v) (.inRegion (opsOf Try.f57 17) rest :: .code (.cond (.tmp 64) (rgK 18 false) .skip) :: K) := fun v => by rw [Frame.finish_at, ho0]; rfl
    refine gk_add hO hn0 (x := .busy j ph) (x' := .idle) (bb := ob) (o := 0) (d := 1) fun g0 g1 hA hr0 ho' hpost => ?_
    simp only [hfin] at hpost
    rw [← hov] at hA
    have gb : ∀ {w' : World}, Rely k w₂ w' → (∀ r0, Recvd M w₂ r0 → Recvd M w' r0) → GB w0 R0 At M r0 (k.after M j ph) w' := fun {w'} hr hv => by
      have h1 := hS2.b.go hr hv
      refine ⟨fun l hl => ?_, by rw [(LK.after_le k M j ph).2]; exact h1.A, h1.rel, h1.rcv⟩
      have := h1.R l hl
      cases ph with
      | comp => exact .inl this
      | put _ => exact this
      | send _ => exact this
    have hzz : w₂.frozen? M.ov = false := by rw [hov]; exact (frozen_rely hS2.b.rel hobz).trans hobf
    have hlz2 : M.ov.block < w₂.heap.size := by rw [hov]; exact Nat.lt_of_lt_of_le hobz hS2.b.rel.size
    refine wp_gdone hO hn0 hr0 ho' hph (fun e => (hS2.num e).1) (fun e => (hS2.num e).2) hzz hlz2 (Nat.le_trans hN.few (by decide)) hA (fun w' v hr hv hrc => ?_) (fun w' hr hrc => ?_)
    · refine hpost _ _ _ _ ?_
      have := hgo (.int .i64 v) (k.after M j ph) w' ⟨⟨v, rfl⟩, gb hr hrc⟩
      have e : stG P j ph (some (.int .i64 v)) = .idle := if_neg hv
      rw [e] at this
      exact this
    · refine hpost _ _ _ _ ?_
      have := hgo (.int .i64 (P.N : Int)) (k.after M j ph) w' ⟨⟨_, rfl⟩, gb hr hrc⟩
      have e : stG P j ph (some (.int .i64 (P.N : Int))) = .last := if_pos rfl
      rw [e] at this
      exact this
  · -- is it the last?
    obtain ⟨⟨i, rfl⟩, hB⟩ := (hS : (∃ i, v = .int .i64 i) ∧ GB w0 R0 At M r0 k w)
    have e61 : (putsV (opsOf Try.f57 17) (setV (V17 P jA cap) 0 (.int .i64 i)) (List.range 3) a).eval (.tmp 61) = .int .i64 i := puts_new (V := setV (V17 P jA cap) 0 (.int .i64 i)) hdd (t := 61) (j := 0) (by kernel_rfl) (by decide) (by rw [hT.size]; decide)
    have e63 : (putsV (opsOf Try.f57 17) (setV (V17 P jA cap) 0 (.int .i64 i)) (List.range 3) a).eval (.tmp 63) = .int .i64 (P.N : Int) := puts_new (V := setV (V17 P jA cap) 0 (.int .i64 i)) hdd (t := 63) (j := 2) (by kernel_rfl) (by decide) (by rw [hT.size]; decide)
    have hT2 : Tm 66 ds ((63, .int .i64 (P.N : Int)) :: (61, .int .i64 i) :: tbG wg B M) (putsV (opsOf Try.f57 17) (setV (V17 P jA cap) 0 (.int .i64 i)) (List.range 3) a) := by
      refine ⟨(puts_size hdd _).trans hT.size, (puts_defers hdd _).trans hT.d, fun t x hx => ?_⟩
      unfold getT at hx
      by_cases h1 : 63 = t
      · subst h1; rw [if_pos rfl] at hx; cases hx; exact e63
      · rw [if_neg h1] at hx
        unfold getT at hx
        by_cases h2 : 61 = t
        · subst h2; rw [if_pos rfl] at hx; cases hx; exact e61
        · rw [if_neg h2] at hx
          have hp : prodOf (opsOf Try.f57 17) t = none := by
            unfold tbG at hx
            simp only [getT] at hx
            repeat' (split at hx)
            all_goals first
              | (cases hx; done)
              | (rename_i h; subst h; kernel_rfl)
          exact (puts_old hdd hp).trans (hT.of t x hx)
    generalize putsV (opsOf Try.f57 17) (setV (V17 P jA cap) 0 (.int .i64 i)) (List.range 3) a = a2 at hT2 ⊢
    have hSB : ∀ k w w₁, GB w0 R0 At M r0 k w → (Rely k w w₁ ∧ (famG P M X Rl w0 m0).GR n w w₁) → GB w0 R0 At M r0 k w₁ := fun k w w₁ h hR => h.go hR.1 hR.2.2
    refine t_run (hJz (some (.int .i64 i))) (GB w0 R0 At M r0) hSB hb (i := 3) (p := .binOp .eql 2 (.tmp 61) (.tmp 63) 2) (d := 64) (by kernel_rfl) (by decide) hT2 (fun o ho w => run_arith under_i64g ho (hT2.of _ _ rfl) (hT2.of _ _ rfl) (.inr (.inr (.inl ⟨rfl, rfl⟩))) w) (fun a3 hT3 k w hS => ?_) hB
    refine js_regend (hJz (some (.int .i64 i))) (GB w0 R0 At M r0) hSB (fun k w hS => js_cond (hJz (some (.int .i64 i))) (GB w0 R0 At M r0) hSB (hT3.of 64 _ rfl) (fun k w hS => ?_) hS) hS
    have hT4 : Tm 66 ds (tbG wg B M) a3 := hT3.to (getT_skip (getT_skip (getT_skip getT_refl rfl) rfl) rfl)
    by_cases hi : i = (P.N : Int)
    · rw [show (i == (P.N : Int)) = true by simpa using hi]
      have e : stG P j ph (some (.int .i64 i)) = .last := if_pos hi
      show WP (wgProto Try.prog (famG P M X Rl w0 m0) 114 wg m0 p0 tot Shun Anc) n k (.work (stG P j ph (some (.int .i64 i)))) (G (b.at a3 (.code (rgK 18 false) :: K)) cs) w
      rw [e]
      have hJ := gk_jok (P := P) (M := M) (X := X) (Rl := Rl) (w0 := w0) (m0 := m0) (p0 := p0) (tot := tot) (wg := wg) (Shun := Shun) (Anc := Anc) hO n .last
      refine t_region hJ _ hSB (n := 2) (by kernel_rfl) (fun k w hS => ?_) hS
      refine t_load hJ _ hSB hb (i := 0) (t := 1) (d := 65) (ty := 126) (by kernel_rfl) (by decide) hT4 rfl (fun w => Try.isAgg126 w) (fun k w hS => hS.rd hN.ch.1 hN.ch.2) (fun a5 hT5 k w hS => ?_) hS
      refine wp_gclose hO hn0 rfl rfl (close_at (x := .tmp 65) (ats := #[126]) hb (by kernel_rfl) (hT5.of 65 _ rfl)) fun w' hr hrc => ?_
      have hJ2 := gk_jok (P := P) (M := M) (X := X) (Rl := Rl) (w0 := w0) (m0 := m0) (p0 := p0) (tot := tot) (wg := wg) (Shun := Shun) (Anc := Anc) hO n .idle
      exact js_regend hJ2 _ hSB (fun k w hS => hn a5 k w (hT5.to (getT_skip getT_refl rfl)) hS) (hS.go hr hrc)
    · rw [show (i == (P.N : Int)) = false by simpa using hi]
      have e : stG P j ph (some (.int .i64 i)) = .idle := if_neg hi
      show WP (wgProto Try.prog (famG P M X Rl w0 m0) 114 wg m0 p0 tot Shun Anc) n k (.work (stG P j ph (some (.int .i64 i)))) (G (b.at a3 (.code .skip :: K)) cs) w
      rw [e]
      have hJ2 := gk_jok (P := P) (M := M) (X := X) (Rl := Rl) (w0 := w0) (m0 := m0) (p0 := p0) (tot := tot) (wg := wg) (Shun := Shun) (Anc := Anc) hO n .idle
      exact js_skip hJ2 _ hSB (fun k w hS => hn a3 k w hT4 hS) hS
end
end Go.Proofs.Yticdjkkcfdbdcaa
