/- A worker of phase.Run in company: it takes processes from the channel until there are no more. No conditions but those named. -/
import Derived.Test.YticdjkkcfdbdcaaSpawn
import Derived.Test.YticdjkkcfdbdcaaWgDn
namespace Go.Proofs.Yticdjkkcfdbdcaa
open Go.Conc Go.ConcN Go.RowKit
noncomputable def LBW : Code := .seq (.region 2 (opsOf Try.f49 2) false) (.seq (.cond (.tmp 5) .skip (.exit 0)) (.block 1 (.seq (.region 3 (opsOf Try.f49 3) false) (.region 4 (opsOf Try.f49 4) false))))
set_option maxRecDepth 100000 in
theorem body_49 : (Try.f49).body = some (.seq (.region 0 (opsOf Try.f49 0) false) (.seq (.region 1 (opsOf Try.f49 1) false) (.block 0 (.loop LBW)))) := by kernel_rfl
/-- The worker's temporaries. -/
structure AW (wg c : Nat) (a : Act) : Prop where
  size : a.tmps.size = 9
  d : a.defers = [dcall 50 #[.pointer (some ⟨wg, 0, none⟩)]]
  t3 : a.eval (.tmp 3) = .chan (some c)
theorem AW.put {wg c : Nat} {a : Act} (h : AW wg c a) {d : Nat} (hd : d ≠ 3) (v : Value) : AW wg c (a.put (some d) v) := ⟨(put_size _ _ _).trans h.size, h.d, (eval_put_ne _ hd _).trans h.t3⟩
theorem run_recv2 (e : Operand → Value) (o : Oper) {c : Nat} (hop : o.op = .recv 103 (.tmp 3) true) (h3 : e (.tmp 3) = .chan (some c)) (w : World) : (execOp e o).runT Try.prog w #[] = (.ok (.comm #[rcase c (.pointer none)] true (.recv true)) w, #[]) := by
  simp [go_sem, hop, h3, execOp, rcase]
/-- How far the channel is known to be taken. -/
def Tight (x : List Nat) (u : Nat) : Prop := (∀ j ∈ x, j < u) ∧ (u = 0 ∨ u - 1 ∈ x)
theorem Tight.take {x : List Nat} {u r : Nat} (h : Tight x u) (hr : ∀ j ∈ x, j < r) : u ≤ r ∧ Tight (x ++ [r]) (r + 1) := by
  have hu : u ≤ r := by
    rcases h.2 with e | e
    · omega
    · have := hr _ e; omega
  refine ⟨hu, fun j hj => ?_, .inr (by simp)⟩
  rcases List.mem_append.1 hj with hj | hj
  · have := hr j hj; omega
  · simp at hj; omega
section
variable {X Rl : Loc → Prop} {It : Nat → Loc → Prop} {items : Array Value} {c cap s0 : Nat} {w0 : World} {m0 p0 m wg : Nat} {Q : Nat → LK → World → Prop} {Shun : Loc → Prop} {Anc : Goroutine → World → Prop} {R0 : Loc → Prop}
/-- What the worker knows between two items. -/
structure WI (It : Nat → Loc → Prop) (w0 : World) (R0 : Loc → Prop) (wg : Nat) (Q : Nat → LK → World → Prop) (x : List Nat) (k : LK) (w : World) : Prop where
  R : k.R = R0
  A : k.A = WgLoc wg
  W : ∀ l, k.W l → (∃ j ∈ x, It j l) ∨ ¬ MemLoc w0.heap.size l
  mem : ∀ l, k.W l → MemLoc w.heap.size l
  rel : Rely (keepK R0) w0 w
  did : ∀ j ∈ x, Q j k w
theorem WI.rely (hQ' : ∀ j k w w', Q j k w → Rely k w w' → Q j k w') {x : List Nat} {k : LK} {w w₁ : World} (h : WI It w0 R0 wg Q x k w) (hr : Rely k w w₁) : WI It w0 R0 wg Q x k w₁ :=
  ⟨h.R, h.A, h.W, fun l hl => (h.mem l hl).mono hr.size, h.rel.trans ⟨hr.size, hr.tape, hr.os, hr.output, hr.shape, fun a ha => hr.cell a (ha.imp (fun f => f.elim) (fun f => by rw [h.R]; exact f)), fun b o ho hn ha => hr.obj b o ho hn (ha.imp (fun f => f.elim) (fun f => by rw [h.R]; exact f))⟩, fun j hj => hQ' j k w w₁ (h.did j hj) hr⟩
/-- What a call on an item does, in company. -/
def ItemCall (It : Nat → Loc → Prop) (w0 : World) (R0 : Loc → Prop) (Q : Nat → LK → World → Prop) (f : FuncId) (r : Nat) (v : Value) : Prop :=
  ∀ (J : LK → Goroutine → World → Prop) (main : Bool) (R : LK → World → World → Prop), JOk Try.prog main R J → ∀ c' cs w, Rely ⟨It r, R0, fun _ => False⟩ w0 w →
    (∀ k1 w1, Up ⟨It r, R0, fun _ => False⟩ w.heap.size k1 w1.heap.size → Q r k1 w1 → J k1 (G (c'.finish (.tuple #[])) cs) w1) → J ⟨It r, R0, fun _ => False⟩ (G (Frame.enter Try.prog f #[v] .normal) (c' :: cs)) w
theorem plus_item {k : LK} {U : Loc → Prop} (h : k.R = R0) : k.plus ⟨U, R0, fun _ => False⟩ = k.plusW U := by
  obtain ⟨W, R, A⟩ := k
  simp only at h
  subst h
  simp [LK.plus, LK.plusW]
/-- Between the taking and the call. -/
structure WT (It : Nat → Loc → Prop) (w0 : World) (R0 : Loc → Prop) (wg : Nat) (Q : Nat → LK → World → Prop) (x : List Nat) (r : Nat) (k0 k : LK) (w : World) : Prop where
  k : k = k0.plusW (It r)
  wi : WI It w0 R0 wg Q x k0 w
  rel : Rely ⟨It r, R0, fun _ => False⟩ w0 w
theorem rely_plusW {k : LK} {U : Loc → Prop} {w w₁ : World} (h : Rely (k.plusW U) w w₁) : Rely k w w₁ := h.mono ⟨fun l hl => .inl hl, fun l hl => .inr hl⟩
theorem WT.rely (hQ' : ∀ j k w w', Q j k w → Rely k w w' → Q j k w') {x : List Nat} {r : Nat} {k0 k : LK} {w w₁ : World} (h : WT It w0 R0 wg Q x r k0 k w) (hr : Rely k w w₁) : WT It w0 R0 wg Q x r k0 k w₁ := by
  obtain ⟨rfl, h2, h3⟩ := h
  exact ⟨rfl, h2.rely hQ' (rely_plusW hr), h3.trans (hr.mono (k := ⟨It r, R0, fun _ => False⟩) ⟨fun l hl => .inr hl, fun l hl => .inr (by rw [← h2.R] at hl; exact hl)⟩)⟩
theorem rely_both {U : Loc → Prop} {w w' : World} (h1 : Rely (keepK R0) w w') (h2 : Rely (keepK U) w w') : Rely ⟨U, R0, fun _ => False⟩ w w' :=
  ⟨h1.size, h1.tape, h1.os, h1.output, h1.shape, fun a ha => ha.elim (fun x => h2.cell a (.inr x)) (fun x => h1.cell a (.inr x)), fun b o ho hn ha => ha.elim (fun x => h2.obj b o ho hn (.inr x)) (fun x => h1.obj b o ho hn (.inr x))⟩
theorem run_ext (e : Operand → Value) (o : Oper) {t : Tmp} {i : Nat} {x y : Value} (hop : o.op = .extract (.tmp t) i) (ht : e (.tmp t) = .tuple #[x, y]) (hi : i = 0 ∨ i = 1) (w : World) : (execOp e o).runT Try.prog w #[] = (.ok (.value (if i = 0 then x else y)) w, #[]) := by
  rcases hi with rfl | rfl <;> simp [go_sem, hop, ht, execOp]
theorem wk_loop (ok : (famQ X Rl It items c cap s0 w0 m0 Q).Ok wg) (hQ' : ∀ j k w w', Q j k w → Rely k w w' → Q j k w') (hQu : ∀ j k k' w, Q j k w → (∀ l, k.W l → k'.W l) → Q j k' w) (hIc : ∀ j l, j < items.size → It j l → MemLoc w0.heap.size l ∧ l ≠ .obj c ∧ ¬ WgLoc wg l) (hXc : ∀ l, X l → l ≠ .obj c ∧ ∀ j, j < items.size → ¬ It j l)
    (hdis : ∀ i j, i < items.size → j < items.size → i ≠ j → ∀ l, It i l → ¬ It j l) (hcg : c ≠ wg) (hR0 : ∀ l, R0 l → MemLoc w0.heap.size l ∧ ∀ j, j < items.size → ¬ It j l) (hcall : ∀ r, r < items.size → ItemCall It w0 R0 Q 51 r (items.getD r undef)) {n : Nat} (hn0 : n ≠ 0) {cs : List Frame} (hcs : cs = [bornBelow Try.prog]) :
    ∀ (d : Nat) (x : List Nat) (u : Nat) (a : Act) (k : LK) (w : World), items.size - u ≤ d → Tight x u → (∀ j ∈ x, j < items.size) → AW wg c a → WI It w0 R0 wg Q x k w →
      WP (wgProto Try.prog (famQ X Rl It items c cap s0 w0 m0 Q) 114 wg m0 p0 m Shun Anc) n k (.work x) (G ((baseD 49).at a (.code LBW :: .inLoop LBW :: .inBlock 0 :: [])) cs) w := by
  intro d
  induction d using Nat.strongRecOn with
  | _ d ih =>
  intro x u a k w hd hti hx ha hwi
  have hb : (baseD 49).kind ≠ .early := by decide
  have hJ : ∀ x, JOk Try.prog (n == 0) _ _ := fun x => wp_jok (P := Try.prog) (ty := 114) (m0 := m0) (p0 := p0) (tot := m) (Shun := Shun) (Anc := Anc) ok n (s := .work x) id
  have hSR : ∀ k w w₁, WI It w0 R0 wg Q x k w → (Rely k w w₁ ∧ (famQ X Rl It items c cap s0 w0 m0 Q).GR n w w₁) → WI It w0 R0 wg Q x k w₁ := fun k w w₁ h hR => h.rely hQ' hR.1
  refine js_seq (hJ x) _ hSR (fun k w hS => j_ctl (hJ x) (fun w => stepG_region) fun w₁ hR => ?_) hwi
  replace hS := hSR _ _ _ hS hR
  clear hR hwi
  have hsz2 : List.range (opsOf Try.f49 2).size = [0, 1] := by kernel_rfl
  rw [hsz2]
  obtain ⟨o0, ho0, hop0, hg0, hd0⟩ := op_ex (ops := opsOf Try.f49 2) (i := 0) (p := .recv 103 (.tmp 3) true) (d := some 4) (by kernel_rfl)
  obtain ⟨o1, ho1, hop1, hg1, hd1⟩ := op_ex (ops := opsOf Try.f49 2) (i := 1) (p := .extract (.tmp 4) 1) (d := some 5) (by kernel_rfl)
  refine wp_recvQ ok hQ' hIc hXc hdis hcg hn0 hb ho0 (yld hg0 _) (fun w => run_recv2 _ _ hop0 ha.t3 w) (fun r w' hr hxr hrel hsame => ?_) (fun w' hrel hno => ?_)
  · -- an item
    obtain ⟨hur, hti'⟩ := hti.take hxr
    have hwi' := hS.rely hQ' hrel
    have hT : WT It w0 R0 wg Q x r k (k.plusW (It r)) w' := ⟨rfl, hwi', rely_both hwi'.rel hsame⟩
    have hTR : ∀ k1 w w₁, WT It w0 R0 wg Q x r k k1 w → (Rely k1 w w₁ ∧ (famQ X Rl It items c cap s0 w0 m0 Q).GR n w w₁) → WT It w0 R0 wg Q x r k k1 w₁ := fun k1 w w₁ h hR => h.rely hQ' hR.1
    rw [hd0]
    have z4 : (a.put (some 4) (.tuple #[items.getD r undef, .bool true])).eval (.tmp 4) = .tuple #[items.getD r undef, .bool true] := eval_put_eq _ (by rw [ha.size]; decide) _
    have ha1 := ha.put (d := 4) (by decide) (.tuple #[items.getD r undef, .bool true])
    generalize a.put (some 4) _ = a1 at z4 ha1
    refine j_val (hJ (x ++ [r])) _ hTR hb ho1 (yld hg1 _) (v := .bool true) (fun k w hS => opv_run fun w => by rw [run_ext _ _ hop1 z4 (.inr rfl)]; rfl) (fun k1 w hS => ?_) hT
    rw [hd1]
    have z5 : (a1.put (some 5) (.bool true)).eval (.tmp 5) = .bool true := eval_put_eq _ (by rw [ha1.size]; decide) _
    have z4' : (a1.put (some 5) (.bool true)).eval (.tmp 4) = .tuple #[items.getD r undef, .bool true] := (eval_put_ne _ (by decide) _).trans z4
    have ha2 := ha1.put (d := 5) (by decide) (.bool true)
    generalize a1.put (some 5) _ = a2 at z5 z4' ha2
    refine js_regend (hJ (x ++ [r])) _ hTR (fun k1 w hS => js_seq (hJ (x ++ [r])) _ hTR (fun k1 w hS => js_cond (hJ (x ++ [r])) _ hTR z5 (fun k1 w hS => js_skip (hJ (x ++ [r])) _ hTR (fun k1 w hS => js_block (hJ (x ++ [r])) _ hTR (fun k1 w hS => js_seq (hJ (x ++ [r])) _ hTR (fun k1 w hS => j_ctl (hJ (x ++ [r])) (fun w => stepG_region) fun w₁ hR => ?_) hS) hS) hS) hS) hS) hS
    replace hS := hTR _ _ _ hS hR
    clear hR
    have hsz3 : List.range (opsOf Try.f49 3).size = [0, 1] := by kernel_rfl
    rw [hsz3]
    obtain ⟨o2, ho2, hop2, hg2, hd2⟩ := op_ex (ops := opsOf Try.f49 3) (i := 0) (p := .extract (.tmp 4) 0) (d := some 6) (by kernel_rfl)
    obtain ⟨o3, ho3, hop3, hg3, hd3⟩ := op_ex (ops := opsOf Try.f49 3) (i := 1) (p := .assign (.tmp 6)) (d := some 2) (by kernel_rfl)
    refine j_val (hJ (x ++ [r])) _ hTR hb ho2 (yld hg2 _) (v := items.getD r undef) (fun k w hS => opv_run fun w => by rw [run_ext _ _ hop2 z4' (.inl rfl)]; rfl) (fun k1 w hS => ?_) hS
    rw [hd2]
    have z6 : (a2.put (some 6) (items.getD r undef)).eval (.tmp 6) = items.getD r undef := eval_put_eq _ (by rw [ha2.size]; decide) _
    have ha3 := ha2.put (d := 6) (by decide) (items.getD r undef)
    generalize a2.put (some 6) _ = a3 at z6 ha3
    refine j_val (hJ (x ++ [r])) _ hTR hb ho3 (yld hg3 _) (fun k w hS => opv_move (x := .tmp 6) (.inr hop3)) (fun k1 w hS => ?_) hS
    rw [hd3, z6]
    have z2 : (a3.put (some 2) (items.getD r undef)).eval (.tmp 2) = items.getD r undef := eval_put_eq _ (by rw [ha3.size]; decide) _
    have ha4 := ha3.put (d := 2) (by decide) (items.getD r undef)
    generalize a3.put (some 2) _ = a4 at z2 ha4
    refine js_regend (hJ (x ++ [r])) _ hTR (fun k1 w hS => j_ctl (hJ (x ++ [r])) (fun w => stepG_region) fun w₁ hR => ?_) hS
    replace hS := hTR _ _ _ hS hR
    clear hR
    have hsz4 : List.range (opsOf Try.f49 4).size = [0, 1] := by kernel_rfl
    rw [hsz4]
    obtain ⟨o4, ho4, hop4, hg4, hd4⟩ := op_ex (ops := opsOf Try.f49 4) (i := 0) (p := .move (.tmp 2)) (d := some 7) (by kernel_rfl)
    obtain ⟨o5, ho5, hop5, hg5, hd5⟩ := op_ex (ops := opsOf Try.f49 4) (i := 1) (p := .call { callee := .value (.func 51), args := #[.tmp 7], argTypes := #[104] }) (d := some 8) (by kernel_rfl)
    refine j_val (hJ (x ++ [r])) _ hTR hb ho4 (yld hg4 _) (fun k w hS => opv_move (x := .tmp 2) (.inl hop4)) (fun k1 w hS => ?_) hS
    rw [hd4, z2]
    have z7 : (a4.put (some 7) (items.getD r undef)).eval (.tmp 7) = items.getD r undef := eval_put_eq _ (by rw [ha4.size]; decide) _
    have ha5 := ha4.put (d := 7) (by decide) (items.getD r undef)
    generalize a4.put (some 7) _ = a5 at z7 ha5
    have hcl := op_call (P := Try.prog) (e := a5.eval) (n := 51) (first := #[]) (captured := #[]) hop5 rfl ⟨_, Try.func51, by kernel_rfl, by kernel_rfl⟩
    have hargs : (#[] ++ #[Operand.tmp 7].map a5.eval ++ #[] : Array Value) = #[items.getD r undef] := by simp [z7]
    rw [hargs] at hcl
    refine j_ctl (hJ (x ++ [r])) (fun w => (stepG_enter ho5 (yld hg5 _) hb (hcl w).1).trans (by rw [listed, (hcl w).2, seen_empty])) fun w₂ hR => ?_
    replace hS := hTR _ _ _ hS hR
    clear hR
    obtain ⟨rfl, hS1, hS2⟩ := hS
    have hF : ∀ l, k.W l ∨ k.R l → MemLoc w₂.heap.size l := fun l hl => hl.elim (hS1.mem l) fun x => (hR0 l (by rw [← hS1.R]; exact x)).1.mono hS1.rel.size
    have hfin := hcall r hr _ _ _ (JF.ok (F := k) (W0 := w₂) (hJ (x ++ [r])) hF) ((baseD 49).at a5 (.inRegion (opsOf Try.f49 4) [1] :: .inBlock 1 :: .inLoop LBW :: .inBlock 0 :: [])) cs w₂ hS2 (fun k1 w1 hu hq => ?_)
    · have := hfin (.refl _ _) fun l hl hI => by
        rcases hl with hl | hl
        · rcases hS1.W l hl with ⟨j, hj, hIj⟩ | hnm
          · exact hdis j r (hx j hj) hr (by have := hxr j hj; omega) l hIj hI
          · exact hnm (hIc r l hr hI).1
        · rw [hS1.R] at hl; exact (hR0 l hl).2 r hr hI
      rw [plus_item hS1.R] at this
      exact this
    · intro hrel1 _
      have hwi2 : WI It w0 R0 wg Q (x ++ [r]) (k.plus k1) w1 := by
        have hm0 : ∀ l, k1.W l → It r l ∨ NewLoc w₂.heap.size w1.heap.size l := fun l hl => hu.new l hl
        refine ⟨?_, ?_, fun l hl => ?_, fun l hl => ?_, ?_, fun j hj => ?_⟩
        · show (fun l => k.R l ∨ k1.R l) = R0
          rw [hS1.R, hu.R]; funext l; simp
        · show (fun l => k.A l ∨ k1.A l) = WgLoc wg
          rw [hS1.A, hu.A]; funext l; simp
        · rcases hl with hl | hl
          · rcases hS1.W l hl with ⟨j, hj, hIj⟩ | hnm
            · exact .inl ⟨j, List.mem_append_left _ hj, hIj⟩
            · exact .inr hnm
          · rcases hm0 l hl with hl | hl
            · exact .inl ⟨r, by simp, hl⟩
            · exact .inr fun hm => hl.mem.2 (hm.mono hS1.rel.size)
        · rcases hl with hl | hl
          · exact (hS1.mem l hl).mono hrel1.size
          · rcases hm0 l hl with hl | hl
            · exact (hIc r l hr hl).1.mono (Nat.le_trans hS1.rel.size hrel1.size)
            · exact hl.mem.1
        · exact hS1.rel.trans (hrel1.mono (k := keepK R0) ⟨fun l hl => hl.elim, fun l hl => .inr (by rw [hS1.R]; exact hl)⟩)
        · rcases List.mem_append.1 hj with hj | hj
          · exact hQu j k _ w1 (hQ' j k w₂ w1 (hS1.did j hj) hrel1) fun l hl => .inl hl
          · simp at hj; subst hj
            exact hQu j k1 _ w1 hq fun l hl => .inr hl
      have hSR2 : ∀ k w w₁, WI It w0 R0 wg Q (x ++ [r]) k w → (Rely k w w₁ ∧ (famQ X Rl It items c cap s0 w0 m0 Q).GR n w w₁) → WI It w0 R0 wg Q (x ++ [r]) k w₁ := fun k w w₁ h hR => h.rely hQ' hR.1
      rw [show ((baseD 49).at a5 (.inRegion (opsOf Try.f49 4) [1] :: .inBlock 1 :: .inLoop LBW :: .inBlock 0 :: [])).finish (.tuple #[]) = (baseD 49).at (a5.put o5.dst (.tuple #[])) (.inRegion (opsOf Try.f49 4) [] :: .inBlock 1 :: .inLoop LBW :: .inBlock 0 :: []) by rw [Frame.finish_at, ho5]; rfl, hd5]
      refine js_regend (hJ (x ++ [r])) _ hSR2 (fun k w hS => js_inBlock (hJ (x ++ [r])) _ hSR2 (fun k w hS => js_inLoop (hJ (x ++ [r])) _ hSR2 (fun k w hS => ?_) hS) hS) hwi2
      exact ih (items.size - (r + 1)) (by omega) (x ++ [r]) (r + 1) _ k w (Nat.le_refl _) hti' (fun j hj => by rcases List.mem_append.1 hj with hj | hj; exact hx j hj; simp at hj; omega) (ha5.put (by decide) _) hS
  · -- no more
    have hwi' := hS.rely hQ' hrel
    have hNR : ∀ k w w₁, (WI It w0 R0 wg Q x k w ∧ NoMore c cap s0 w) → (Rely k w w₁ ∧ (famQ X Rl It items c cap s0 w0 m0 Q).GR n w w₁) → WI It w0 R0 wg Q x k w₁ ∧ NoMore c cap s0 w₁ := fun k w w₁ h hR => ⟨h.1.rely hQ' hR.1, hR.2 h.2⟩
    rw [hd0]
    have z4 : (a.put (some 4) (.tuple #[.pointer none, .bool false])).eval (.tmp 4) = .tuple #[.pointer none, .bool false] := eval_put_eq _ (by rw [ha.size]; decide) _
    have ha1 := ha.put (d := 4) (by decide) (.tuple #[.pointer none, .bool false])
    generalize a.put (some 4) _ = a1 at z4 ha1
    refine j_val (hJ x) _ hNR hb ho1 (yld hg1 _) (v := .bool false) (fun k w hS => opv_run fun w => by rw [run_ext _ _ hop1 z4 (.inr rfl)]; rfl) (fun k1 w hS => ?_) ⟨hwi', hno⟩
    rw [hd1]
    have z5 : (a1.put (some 5) (.bool false)).eval (.tmp 5) = .bool false := eval_put_eq _ (by rw [ha1.size]; decide) _
    have ha2 := ha1.put (d := 5) (by decide) (.bool false)
    generalize a1.put (some 5) _ = a2 at z5 ha2
    refine js_regend (hJ x) _ hNR (fun k1 w hS => js_seq (hJ x) _ hNR (fun k1 w hS => js_cond (hJ x) _ hNR z5 (fun k1 w hS => js_exit (hJ x) _ hNR (K1 := []) rfl (fun k1 w hS => js_end (hJ x) _ hNR (fun k1 w hS => ?_) hS) hS) hS) hS) hS
    obtain ⟨g0, q, hdn⟩ := done_phase wg a2.tmps []
    have hb0 : (n == 0) = false := by simpa using hn0
    have e : dnIn Try.prog 49 50 wg a2.tmps [] = G { (baseD 49).at a2 [] with mode := .returning } cs := by
      rw [hcs]
      show _ = G { (baseD 49).at a2 [] with mode := .returning } [bornBelow Try.prog]
      unfold dnIn Frame.at
      rw [ha2.d]
      rfl
    rw [e] at q
    refine wp_still ok (by simp) rfl (by rw [hb0]; exact q) (wp_done ok hn0 hdn fun w₁ hr hgr => ?_)
    exact ⟨fun j hj => hQ' j _ _ _ (hS.1.did j hj) hr, hgr hS.2⟩
theorem wk_born (ok : (famQ X Rl It items c cap s0 w0 m0 Q).Ok wg) (hQ' : ∀ j k w w', Q j k w → Rely k w w' → Q j k w') (hQu : ∀ j k k' w, Q j k w → (∀ l, k.W l → k'.W l) → Q j k' w) (hIc : ∀ j l, j < items.size → It j l → MemLoc w0.heap.size l ∧ l ≠ .obj c ∧ ¬ WgLoc wg l) (hXc : ∀ l, X l → l ≠ .obj c ∧ ∀ j, j < items.size → ¬ It j l)
    (hdis : ∀ i j, i < items.size → j < items.size → i ≠ j → ∀ l, It i l → ¬ It j l) (hcg : c ≠ wg) (hR0 : ∀ l, R0 l → MemLoc w0.heap.size l ∧ ∀ j, j < items.size → ¬ It j l) (hcall : ∀ r, r < items.size → ItemCall It w0 R0 Q 51 r (items.getD r undef))
    {bx : Nat} (hbx : R0 (.cell ⟨bx, 0, none⟩)) (hbc : w0.cell? ⟨bx, 0, none⟩ = some (.chan (some c))) {n : Nat} (hn0 : n ≠ 0) {w : World} (hw : Rely ⟨fun _ => False, R0, fun _ => False⟩ w0 w) :
    WP (wgProto Try.prog (famQ X Rl It items c cap s0 w0 m0 Q) 114 wg m0 p0 m Shun Anc) n ⟨fun _ => False, R0, WgLoc wg⟩ (.work []) (born Try.prog { target := .fn (.func 49) #[.pointer (some ⟨wg, 0, none⟩), .pointer (some ⟨bx, 0, none⟩)], args := #[] }) w := by
  have hb : (baseD 49).kind ≠ .early := by decide
  have hJ : JOk Try.prog (n == 0) _ _ := wp_jok (P := Try.prog) (ty := 114) (m0 := m0) (p0 := p0) (tot := m) (Shun := Shun) (Anc := Anc) ok n (s := .work []) id
  have hwi : WI It w0 R0 wg Q [] ⟨fun _ => False, R0, WgLoc wg⟩ w := ⟨rfl, rfl, fun l hl => hl.elim, fun l hl => hl.elim, hw.mono (k := keepK R0) ⟨fun l hl => hl.elim, fun l hl => .inr hl⟩, fun j hj => by cases hj⟩
  have hSR : ∀ k w w₁, WI It w0 R0 wg Q [] k w → (Rely k w w₁ ∧ (famQ X Rl It items c cap s0 w0 m0 Q).GR n w w₁) → WI It w0 R0 wg Q [] k w₁ := fun k w w₁ h hR => h.rely hQ' hR.1
  refine hJ.own _ _ _ rfl rfl fun w₁ hR => ⟨_, _, _, stepG_first Try.func49 (by kernel_rfl) body_49 w₁, .idle _ _, ?_⟩
  rw [grow_self, Array.empty_append]
  replace hwi := hSR _ _ _ hwi hR
  clear hR hw w
  rw [enter_atD _ Try.func49 body_49, show (Try.f49).ntmps = 9 by kernel_rfl]
  generalize ha0 : (⟨#[.pointer (some ⟨wg, 0, none⟩), .pointer (some ⟨bx, 0, none⟩)] ++ Array.replicate (9 - #[Value.pointer (some ⟨wg, 0, none⟩), .pointer (some ⟨bx, 0, none⟩)].size) undef, []⟩ : Act) = a0
  have z : a0.tmps.size = 9 := by subst ha0; simp
  have zd : a0.defers = [] := by subst ha0; rfl
  have z0 : a0.eval (.tmp 0) = .pointer (some ⟨wg, 0, none⟩) := by subst ha0; exact eval_args _ _ 0 _ (by simp)
  have z1 : a0.eval (.tmp 1) = .pointer (some ⟨bx, 0, none⟩) := by subst ha0; exact eval_args _ _ 1 _ (by simp)
  clear ha0
  refine js_seq hJ _ hSR (fun k w hS => j_ctl hJ (fun w => stepG_region) fun w₁ hR => ?_) hwi
  replace hS := hSR _ _ _ hS hR
  clear hR
  have hsz0 : List.range (opsOf Try.f49 0).size = [0] := by kernel_rfl
  rw [hsz0]
  obtain ⟨o, ho0, hop, hg, hdst⟩ := op_ex (ops := opsOf Try.f49 0) (i := 0) (p := .defer { callee := .value (.func 50), args := #[.tmp 0], argTypes := #[114] }) (d := none) (by kernel_rfl)
  refine j_ctl hJ (fun w => stepG_defer ho0 (by unfold Region.wanted; rw [hg]) hb hop) fun w₂ hR => ?_
  replace hS := hSR _ _ _ hS hR
  clear hR
  rw [hdst, put_none, zd]
  have hargs : (#[Operand.tmp 0].map a0.eval) = #[.pointer (some ⟨wg, 0, none⟩)] := by simp [z0]
  rw [hargs]
  generalize ha1 : (⟨a0.tmps, [dcall 50 #[.pointer (some ⟨wg, 0, none⟩)]]⟩ : Act) = a1
  have y : a1.tmps.size = 9 := by subst ha1; exact z
  have yd : a1.defers = [dcall 50 #[.pointer (some ⟨wg, 0, none⟩)]] := by subst ha1; rfl
  have y1 : a1.eval (.tmp 1) = .pointer (some ⟨bx, 0, none⟩) := by subst ha1; exact z1
  clear ha1 z zd z0 z1 hargs
  refine js_regend hJ _ hSR (fun k w hS => js_seq hJ _ hSR (fun k w hS => j_ctl hJ (fun w => stepG_region) fun w₁ hR => ?_) hS) hS
  replace hS := hSR _ _ _ hS hR
  clear hR
  have hsz1 : List.range (opsOf Try.f49 1).size = [0] := by kernel_rfl
  rw [hsz1]
  obtain ⟨o1, ho1, hop1, hg1, hd1⟩ := op_ex (ops := opsOf Try.f49 1) (i := 0) (p := .load 103 (.tmp 1)) (d := some 3) (by kernel_rfl)
  refine j_val hJ _ hSR hb ho1 (yld hg1 _) (v := .chan (some c)) (fun k w hS => opv_load hop1 y1 (fun w => Try.isAgg103 w) ((hS.rel.cell _ (.inr hbx)).trans hbc) (.inr (by rw [hS.R]; exact hbx))) (fun k1 w hS => ?_) hS
  rw [hd1]
  have hA : AW wg c (a1.put (some 3) (.chan (some c))) := ⟨(put_size _ _ _).trans y, yd, eval_put_eq _ (by rw [y]; decide) _⟩
  refine js_regend hJ _ hSR (fun k w hS => js_block hJ _ hSR (fun k w hS => js_loop hJ _ hSR (fun k w hS => ?_) hS) hS) hS
  exact wk_loop ok hQ' hQu hIc hXc hdis hcg hR0 hcall hn0 rfl _ [] 0 _ k w (Nat.le_refl _) ⟨fun j hj => (by cases hj), .inl rfl⟩ (fun j hj => by cases hj) hA hS
end
end Go.Proofs.Yticdjkkcfdbdcaa
