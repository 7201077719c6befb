/- A worker of graph.Run in company: what it reads; how it reckons a job's number. No conditions but those named. -/
import Derived.Test.YticdjkkcfdbdcaaGrE
import Derived.Test.YticdjkkcfdbdcaaTm
import Derived.Test.YticdjkkcfdbdcaaSpawnA
import Derived.Test.YticdjkkcfdbdcaaDrawX
import Derived.Test.YticdjkkcfdbdcaaBase
namespace Go.Proofs.Yticdjkkcfdbdcaa
open Go.Conc Go.ConcN Go.RowKit
noncomputable def rgK (i : Nat) (d : Bool) : Code := .region i (opsOf Try.f57 i) d
noncomputable def LGA : Code := .seq (rgK 6 false) (.seq (.cond (.tmp 29) .skip (.exit 2)) (.seq (.block 3 (.seq (rgK 7 false) (rgK 8 false))) (rgK 9 false)))
noncomputable def LGC : Code := .seq (rgK 12 false) (.seq (.cond (.tmp 50) .skip (.exit 4)) (.seq (.block 5 (.seq (rgK 13 false) (.seq (rgK 14 false) (.cond (.tmp 57) (rgK 15 false) .skip)))) (rgK 16 false)))
noncomputable def LGB : Code := .seq (rgK 2 false) (.seq (.cond (.tmp 15) .skip (.exit 0)) (.block 1 (.seq (rgK 3 false) (.seq (rgK 4 false) (.seq (.seq (rgK 5 false) (.block 2 (.loop LGA))) (.seq (rgK 10 false) (.seq (.seq (rgK 11 false) (.block 4 (.loop LGC))) (.seq (rgK 17 true) (.cond (.tmp 64) (rgK 18 false) .skip)))))))))
set_option maxRecDepth 100000 in
theorem body_gk : (Try.f57).body = some (.seq (rgK 0 false) (.seq (rgK 1 false) (.block 0 (.loop LGB)))) := by kernel_rfl
def step31 (n v : Int) : Int := IntKind.i64.wrap (IntKind.i64.wrap (31 * n) + v)
/-- What all read; where it lies. -/
structure GBox where
  ch : Nat
  jobs : Nat
  nums : Nat
  next : Nat
  left : Nat
structure JobsAt (w0 : World) (R0 : Loc → Prop) (P : GPar) (M : GLoc) (Nj : Nat → Int) (X : GBox) : Prop where
  ch : w0.cell? ⟨X.ch, 0, none⟩ = some (.chan (some M.c)) ∧ R0 (.cell ⟨X.ch, 0, none⟩)
  jobs : ∃ jA cap, (w0.cell? ⟨X.jobs, 0, none⟩ = some (.slice jA P.N cap) ∧ R0 (.cell ⟨X.jobs, 0, none⟩)) ∧ ∀ k, k < P.N → ∃ jb jo, jA = some ⟨jb, jo, none⟩ ∧ (∃ sA sc, (w0.cell? ⟨jb, jo + k * 4 + 2, none⟩ = some (.slice sA (P.aft k).length sc) ∧ R0 (.cell ⟨jb, jo + k * 4 + 2, none⟩)) ∧
      ∀ q (h : q < (P.aft k).length), ∃ ab ao, sA = some ⟨ab, ao, none⟩ ∧ w0.cell? ⟨ab, ao + q, none⟩ = some (.int .i64 ((P.aft k)[q] : Int)) ∧ R0 (.cell ⟨ab, ao + q, none⟩)) ∧ w0.cell? ⟨jb, jo + k * 4 + 3, none⟩ = some (.int .i64 (Nj k)) ∧ R0 (.cell ⟨jb, jo + k * 4 + 3, none⟩)
  nums : w0.cell? ⟨X.nums, 0, none⟩ = some (.slice (some ⟨M.nb, 0, none⟩) P.N P.N) ∧ R0 (.cell ⟨X.nums, 0, none⟩)
  numz : ∀ k, k < P.N → w0.frozen? ⟨M.nb, k, none⟩ = false
  nume : ∀ k, k < P.N → ∃ v, w0.cell? ⟨M.nb, k, none⟩ = some v
  next : ∃ xb, (w0.cell? ⟨X.next, 0, none⟩ = some (.slice (some ⟨xb, 0, none⟩) P.N P.N) ∧ R0 (.cell ⟨X.next, 0, none⟩)) ∧ ∀ k, k < P.N → ∃ xA xc, (w0.cell? ⟨xb, k, none⟩ = some (.slice xA (P.nxt k).length xc) ∧ R0 (.cell ⟨xb, k, none⟩)) ∧
      ∀ q (h : q < (P.nxt k).length), ∃ ab ao, xA = some ⟨ab, ao, none⟩ ∧ w0.cell? ⟨ab, ao + q, none⟩ = some (.int .i64 ((P.nxt k)[q] : Int)) ∧ R0 (.cell ⟨ab, ao + q, none⟩)
  left : ∃ lb, (w0.cell? ⟨X.left, 0, none⟩ = some (.slice (some ⟨lb, 0, none⟩) P.N P.N) ∧ R0 (.cell ⟨X.left, 0, none⟩)) ∧ (∀ k, M.la k = ⟨lb, k, none⟩) ∧ lb < w0.heap.size ∧ ∀ k, k < P.N → w0.frozen? ⟨lb, k, none⟩ = false
  ov : ∃ ob, M.ov = ⟨ob, 0, none⟩ ∧ ob < w0.heap.size ∧ w0.frozen? ⟨ob, 0, none⟩ = false
  few : P.N ≤ 200
  short : ∀ k, k < P.N → (P.aft k).length ≤ 200
  shortN : ∀ k, k < P.N → (P.nxt k).length ≤ 1000000
  val : ∀ k, k < P.N → M.val k = (P.aft k).foldl (fun n a => step31 n (M.val a)) (Nj k)
  nb : M.nb < w0.heap.size
  numR : ∀ k, k < P.N → ¬ R0 (numL M k)
/-- What the worker knows, whatever it does. -/
structure GB (w0 : World) (R0 At : Loc → Prop) (M : GLoc) (r0 : Nat) (k : LK) (w : World) : Prop where
  R : ∀ l, R0 l → k.R l
  A : k.A = At
  rel : Rely (keepK R0) w0 w
  rcv : Recvd M w r0
/-- .. with a job taken. -/
structure GC (P : GPar) (w0 : World) (R0 At : Loc → Prop) (M : GLoc) (r0 j : Nat) (k : LK) (w : World) : Prop where
  b : GB w0 R0 At M r0 k w
  W : k.W (numL M j)
  vals : ∀ x ∈ P.aft j, x < P.N ∧ w.cell? ⟨M.nb, x, none⟩ = some (.int .i64 (M.val x)) ∧ k.R (numL M x)
/-- .. with its number told or to be told. -/
structure GP (w0 : World) (R0 At : Loc → Prop) (M : GLoc) (r0 j : Nat) (ph : GPh) (k : LK) (w : World) : Prop where
  b : GB w0 R0 At M r0 k w
  num : ph = .comp → k.W (numL M j) ∧ w.cell? ⟨M.nb, j, none⟩ = some (.int .i64 (M.val j))
section
variable {P : GPar} {w0 w w₁ : World} {R0 At : Loc → Prop} {M : GLoc} {r0 j : Nat} {ph : GPh} {k : LK}
theorem GB.go (h : GB w0 R0 At M r0 k w) (hr : Rely k w w₁) (hg : ∀ r, Recvd M w r → Recvd M w₁ r) : GB w0 R0 At M r0 k w₁ := ⟨h.R, h.A, h.rel.trans (hr.mono (k := keepK R0) ⟨fun l hl => hl.elim, fun l hl => .inr (h.R l hl)⟩), hg _ h.rcv⟩
theorem GC.go (h : GC P w0 R0 At M r0 j k w) (hr : Rely k w w₁) (hg : ∀ r, Recvd M w r → Recvd M w₁ r) : GC P w0 R0 At M r0 j k w₁ := ⟨h.b.go hr hg, h.W, fun x hx => ⟨(h.vals x hx).1, (hr.cell _ (.inr (h.vals x hx).2.2)).trans (h.vals x hx).2.1, (h.vals x hx).2.2⟩⟩
theorem GP.go (h : GP w0 R0 At M r0 j ph k w) (hr : Rely k w w₁) (hg : ∀ r, Recvd M w r → Recvd M w₁ r) : GP w0 R0 At M r0 j ph k w₁ := ⟨h.b.go hr hg, fun e => ⟨(h.num e).1, (hr.cell _ (.inl (h.num e).1)).trans (h.num e).2⟩⟩
theorem GB.rd (h : GB w0 R0 At M r0 k w) {a : Addr} {v : Value} (hc : w0.cell? a = some v) (hR : R0 (.cell a)) : w.cell? a = some v ∧ (k.W (.cell a) ∨ k.R (.cell a)) := ⟨(h.rel.cell _ (.inr hR)).trans hc, .inr (h.R _ hR)⟩
end
theorem field_job (g o : Nat) (w : World) : ∀ n, n < 4 → (Instr.fieldAt 41 (.pointer (some ⟨g, o, none⟩)) n).runT Try.prog w #[] = (.ok (.pointer (some ⟨g, o + n, none⟩)) w, #[])
  | 0, _ => by kernel_rfl
  | 1, _ => by kernel_rfl
  | 2, _ => by kernel_rfl
  | 3, _ => by kernel_rfl
  | n + 4, h => absurd h (by omega)
theorem run_field {e : Operand → Value} {o : Oper} {s n : Nat} {x : Operand} {p q : Addr} (hop : o.op = .fieldAddr s x n) (hx : e x = .pointer (some p)) (hf : ∀ w, (Instr.fieldAt s (.pointer (some p)) n).runT Try.prog w #[] = (.ok (.pointer (some q)) w, #[])) (w : World) : (execOp e o).runT Try.prog w #[] = (.ok (.value (.pointer (some q))) w, #[]) := by
  have h := hf w
  rw [Sem.runT_eq] at h ⊢
  obtain ⟨h1, h2⟩ := Prod.mk.inj h
  simp only [execOp, hop, hx]
  simp [h1, h2]
theorem run_lenI {e : Operand → Value} {o : Oper} {x : Operand} {A : Option Addr} {n c : Nat} (hop : o.op = .call { callee := .builtin .len, args := #[x], argTypes := #[39] }) (hx : e x = .slice A n c) (w : World) : (execOp e o).runT Try.prog w #[] = (.ok (.value (.int .i64 n)) w, #[]) := by
  simp [go_sem, hop, hx, execOp]
theorem run_lenJ {e : Operand → Value} {o : Oper} {x : Operand} {A : Option Addr} {n c : Nat} (hop : o.op = .call { callee := .builtin .len, args := #[x], argTypes := #[34] }) (hx : e x = .slice A n c) (w : World) : (execOp e o).runT Try.prog w #[] = (.ok (.value (.int .i64 n)) w, #[]) := by
  simp [go_sem, hop, hx, execOp]
theorem run_extr {e : Operand → Value} {o : Oper} {t : Tmp} {i : Nat} {x y : Value} (hop : o.op = .extract (.tmp t) i) (ht : e (.tmp t) = .tuple #[x, y]) (hi : i = 0 ∨ i = 1) (w : World) : (execOp e o).runT Try.prog w #[] = (.ok (.value (if i = 0 then x else y)) w, #[]) := by
  rcases hi with rfl | rfl <;> simp [go_sem, hop, ht, execOp]
theorem run_arith {e : Operand → Value} {o : Oper} {x y : Operand} {a b : Int} {op : BinOp} {r : Value} {t yt : TypeId} (hu : Try.prog.underlying t = some (.int .i64)) (hop : o.op = .binOp op t x y yt) (hx : e x = .int .i64 a) (hy : e y = .int .i64 b) (hr : (op = .add ∧ r = .int .i64 (IntKind.i64.wrap (a + b))) ∨ (op = .mul ∧ r = .int .i64 (IntKind.i64.wrap (a * b))) ∨ (op = .eql ∧ r = .bool (a == b)) ∨ (op = .lss ∧ r = .bool (decide (a < b)))) (w : World) :
    (execOp e o).runT Try.prog w #[] = (.ok (.value r) w, #[]) := by
  rcases hr with ⟨rfl, rfl⟩ | ⟨rfl, rfl⟩ | ⟨rfl, rfl⟩ | ⟨rfl, rfl⟩ <;> simp [go_sem, hop, hx, hy, execOp, hu, runU hu]
theorem under_int : Try.prog.underlying 3 = some (.int .i64) := by kernel_rfl
theorem under_i64g : Try.prog.underlying 2 = some (.int .i64) := by kernel_rfl
/-- The captured ones and the channel. -/
def tbG (wg : Nat) (X : GBox) (M : GLoc) : List (Nat × Value) := [(0, .pointer (some ⟨wg, 0, none⟩)), (1, .pointer (some ⟨X.ch, 0, none⟩)), (2, .pointer (some ⟨X.jobs, 0, none⟩)), (3, .pointer (some ⟨X.nums, 0, none⟩)), (4, .pointer (some ⟨X.next, 0, none⟩)), (5, .pointer (some ⟨X.left, 0, none⟩)), (6, .pointer (some M.ov)), (13, .chan (some M.c))]
theorem getT_skip {l l' : List (Nat × Value)} {d : Nat} {v : Value} (h : ∀ t x, getT l' t = some x → getT l t = some x) (hd : getT l' d = none) : ∀ t x, getT l' t = some x → getT ((d, v) :: l) t = some x := fun t x hx => by
  unfold getT
  by_cases e : d = t
  · subst e; rw [hd] at hx; cases hx
  · rw [if_neg e]; exact h t x hx
theorem getT_refl {l : List (Nat × Value)} : ∀ t x, getT l t = some x → getT l t = some x := fun _ _ h => h
section
variable {P : GPar} {M : GLoc} {X Rl : Loc → Prop} {w0 : World} {m0 p0 tot wg : Nat} {Shun : Loc → Prop} {Anc : Goroutine → World → Prop} {R0 At : Loc → Prop} {Nj : Nat → Int} {B : GBox} {n r0 j : Nat} {ds : List Deferred} {b : Frame} {cs : List Frame} {K : List Item}
theorem gk_jok (hO : GOk P M X wg w0) (n : Nat) (x : GSt) : JOk Try.prog (n == 0) (fun k w w₁ => Rely k w w₁ ∧ (famG P M X Rl w0 m0).GR n w w₁) (fun k g w => WP (wgProto Try.prog (famG P M X Rl w0 m0) 114 wg m0 p0 tot Shun Anc) n k (.work x) g w) := wp_jok (famG_ok hO) n (s := .work x) id
set_option maxRecDepth 100000 in
/-- The number is reckoned. -/
theorem gk_sum (hO : GOk P M X wg w0) (hN : JobsAt w0 R0 P M Nj B) (hb : b.kind ≠ .early) (hj : j < P.N) {sv : Value} (hsv : ∃ sA sc, sv = .slice sA (P.aft j).length sc ∧ ∀ q (h : q < (P.aft j).length), ∃ ab ao, sA = some ⟨ab, ao, none⟩ ∧ w0.cell? ⟨ab, ao + q, none⟩ = some (.int .i64 ((P.aft j)[q] : Int)) ∧ R0 (.cell ⟨ab, ao + q, none⟩))
    (hn : ∀ a k w, Tm 66 ds ((8, .int .i64 (M.val j)) :: (7, .int .i64 (j : Int)) :: tbG wg B M) a → GC P w0 R0 At M r0 j k w → WP (wgProto Try.prog (famG P M X Rl w0 m0) 114 wg m0 p0 tot Shun Anc) n k (.work (.busy j .comp)) (G (b.at a K) cs) w) :
    ∀ (d q : Nat) (a : Act) (k : LK) (w : World), (P.aft j).length - q = d → q ≤ (P.aft j).length → Tm 66 ds ((28, .int .i64 (q : Int)) :: (27, .int .i64 ((P.aft j).length : Int)) :: (26, sv) :: (8, .int .i64 (((P.aft j).take q).foldl (fun n a => step31 n (M.val a)) (Nj j))) :: (7, .int .i64 (j : Int)) :: tbG wg B M) a → GC P w0 R0 At M r0 j k w →
      WP (wgProto Try.prog (famG P M X Rl w0 m0) 114 wg m0 p0 tot Shun Anc) n k (.work (.busy j .comp)) (G (b.at a (.code LGA :: .inLoop LGA :: .inBlock 2 :: K)) cs) w := by
  obtain ⟨sA, sc, rfl, hsv⟩ := hsv
  intro d
  induction d with
  | zero =>
    intro q a k w hd hq hT hS
    have hJ := gk_jok (P := P) (M := M) (X := X) (Rl := Rl) (w0 := w0) (m0 := m0) (p0 := p0) (tot := tot) (wg := wg) (Shun := Shun) (Anc := Anc) hO n (.busy j .comp)
    have hSR : ∀ k w w₁, GC P w0 R0 At M r0 j k w → (Rely k w w₁ ∧ (famG P M X Rl w0 m0).GR n w w₁) → GC P w0 R0 At M r0 j k w₁ := fun k w w₁ h hR => h.go hR.1 hR.2.2
    obtain rfl : q = (P.aft j).length := by omega
    refine js_seq hJ _ hSR (fun k w hS => t_region hJ _ hSR (n := 1) (by kernel_rfl) (fun k w hS => ?_) hS) hS
    refine t_run hJ _ hSR hb (i := 0) (p := .binOp .lss 3 (.tmp 28) (.tmp 27) 3) (d := 29) (by kernel_rfl) (by decide) hT (v := .bool (decide (((P.aft j).length : Int) < ((P.aft j).length : Int)))) (fun o ho w => run_arith under_int ho (hT.of _ _ rfl) (hT.of _ _ rfl) (.inr (.inr (.inr ⟨rfl, rfl⟩))) w) (fun a1 hT k w hS => ?_) hS
    rw [decide_eq_false (Int.lt_irrefl _)] at hT
    refine js_regend hJ _ hSR (fun k w hS => js_seq hJ _ hSR (fun k w hS => js_cond hJ _ hSR (hT.of 29 _ rfl) (fun k w hS => js_exit hJ _ hSR (K1 := K) (by simp [exitTo]) (fun k w hS => ?_) hS) hS) hS) hS
    refine hn a1 k w (hT.to ?_) hS
    rw [hN.val j hj]
    rw [List.take_of_length_le (Nat.le_refl _)]
    exact getT_skip (getT_skip (getT_skip (getT_skip getT_refl rfl) rfl) rfl) rfl
  | succ d ih =>
    intro q a k w hd hq hT hS
    have hJ := gk_jok (P := P) (M := M) (X := X) (Rl := Rl) (w0 := w0) (m0 := m0) (p0 := p0) (tot := tot) (wg := wg) (Shun := Shun) (Anc := Anc) hO n (.busy j .comp)
    have hSR : ∀ k w w₁, GC P w0 R0 At M r0 j k w → (Rely k w w₁ ∧ (famG P M X Rl w0 m0).GR n w w₁) → GC P w0 R0 At M r0 j k w₁ := fun k w w₁ h hR => h.go hR.1 hR.2.2
    have hlt : q < (P.aft j).length := by omega
    obtain ⟨ab, ao, rfl, hc, hR⟩ := hsv q hlt
    have hs200 := hN.short j hj
    refine js_seq hJ _ hSR (fun k w hS => t_region hJ _ hSR (n := 1) (by kernel_rfl) (fun k w hS => ?_) hS) hS
    refine t_run hJ _ hSR hb (i := 0) (p := .binOp .lss 3 (.tmp 28) (.tmp 27) 3) (d := 29) (by kernel_rfl) (by decide) hT (v := .bool (decide ((q : Int) < ((P.aft j).length : Int)))) (fun o ho w => run_arith under_int ho (hT.of _ _ rfl) (hT.of _ _ rfl) (.inr (.inr (.inr ⟨rfl, rfl⟩))) w) (fun a1 hT k w hS => ?_) hS
    rw [decide_eq_true (by omega)] at hT
    refine js_regend hJ _ hSR (fun k w hS => js_seq hJ _ hSR (fun k w hS => js_cond hJ _ hSR (hT.of 29 _ rfl) (fun k w hS => js_skip hJ _ hSR (fun k w hS => js_seq hJ _ hSR (fun k w hS => js_block hJ _ hSR (fun k w hS => js_seq hJ _ hSR (fun k w hS => t_region hJ _ hSR (n := 3) (by kernel_rfl) (fun k w hS => ?_) hS) hS) hS) hS) hS) hS) hS) hS
    refine t_index hJ _ hSR hb (i := 0) (t := 26) (u := 28) (d := 30) (ty := 39) (elem := 3) (sz := 1) (by kernel_rfl) (by decide) hT (q := ⟨ab, ao, none⟩) (len := (P.aft j).length) (n := q) rfl rfl hlt Try.underlying39 (fun w => Try.sizeOf3 w) (fun a2 hT k w hS => ?_) hS
    rw [show ((⟨ab, ao, none⟩ : Addr).add (q * 1)) = ⟨ab, ao + q, none⟩ by simp [Addr.add_lit']] at hT
    refine t_load hJ _ hSR hb (i := 1) (t := 30) (d := 31) (ty := 3) (by kernel_rfl) (by decide) hT rfl (fun w => Try.isAgg3 w) (fun k w hS => hS.b.rd hc hR) (fun a3 hT k w hS => ?_) hS
    refine t_move hJ _ hSR hb (i := 2) (t := 31) (d := 10) (asg := true) (by kernel_rfl) (by decide) hT rfl (fun a4 hT k w hS => ?_) hS
    have hmem : (P.aft j)[q] ∈ P.aft j := List.getElem_mem _
    have hx := fun {k w} (hS : GC P w0 R0 At M r0 j k w) => hS.vals _ hmem
    have hx0 := (hx hS).1
    generalize hxe : (P.aft j)[q] = x at hT hx hx0
    refine js_regend hJ _ hSR (fun k w hS => t_region hJ _ hSR (n := 8) (by kernel_rfl) (fun k w hS => ?_) hS) hS
    refine t_move hJ _ hSR hb (i := 0) (t := 8) (d := 32) (asg := false) (by kernel_rfl) (by decide) hT rfl (fun a5 hT k w hS => ?_) hS
    refine t_run hJ _ hSR hb (i := 1) (p := .binOp .mul 2 (.const (.int .i64 31)) (.tmp 32) 2) (d := 33) (by kernel_rfl) (by decide) hT (fun o ho w => run_arith under_i64g ho rfl (hT.of _ _ rfl) (.inr (.inl ⟨rfl, rfl⟩)) w) (fun a6 hT k w hS => ?_) hS
    refine t_load hJ _ hSR hb (i := 2) (t := 3) (d := 34) (ty := 23) (by kernel_rfl) (by decide) hT rfl (fun w => Try.isAgg23 w) (fun k w hS => hS.b.rd hN.nums.1 hN.nums.2) (fun a7 hT k w hS => ?_) hS
    refine t_move hJ _ hSR hb (i := 3) (t := 10) (d := 35) (asg := false) (by kernel_rfl) (by decide) hT rfl (fun a8 hT k w hS => ?_) hS
    refine t_index hJ _ hSR hb (i := 4) (t := 34) (u := 35) (d := 36) (ty := 23) (elem := 2) (sz := 1) (by kernel_rfl) (by decide) hT (q := ⟨M.nb, 0, none⟩) (len := P.N) (n := x) rfl rfl hx0 Try.underlying23 (fun w => Try.sizeOf2 w) (fun a9 hT k w hS => ?_) hS
    rw [show ((⟨M.nb, 0, none⟩ : Addr).add (x * 1)) = ⟨M.nb, x, none⟩ by simp [Addr.add_lit']] at hT
    refine t_load hJ _ hSR hb (i := 5) (t := 36) (d := 37) (ty := 2) (by kernel_rfl) (by decide) hT rfl (fun w => Try.isAgg2 w) (fun k w hS => ⟨(hx hS).2.1, .inr (hx hS).2.2⟩) (fun a10 hT k w hS => ?_) hS
    refine t_run hJ _ hSR hb (i := 6) (p := .binOp .add 2 (.tmp 33) (.tmp 37) 2) (d := 38) (by kernel_rfl) (by decide) hT (fun o ho w => run_arith under_i64g ho (hT.of _ _ rfl) (hT.of _ _ rfl) (.inl ⟨rfl, rfl⟩) w) (fun a11 hT k w hS => ?_) hS
    refine t_move hJ _ hSR hb (i := 7) (t := 38) (d := 8) (asg := true) (by kernel_rfl) (by decide) hT rfl (fun a12 hT k w hS => ?_) hS
    have hfold : ((P.aft j).take (q + 1)).foldl (fun n a => step31 n (M.val a)) (Nj j) = IntKind.i64.wrap (IntKind.i64.wrap (31 * ((P.aft j).take q).foldl (fun n a => step31 n (M.val a)) (Nj j)) + M.val x) := by
      rw [List.take_succ_eq_append_getElem hlt, List.foldl_append, hxe]
      rfl
    rw [← hfold] at hT
    refine js_regend hJ _ hSR (fun k w hS => js_inBlock hJ _ hSR (fun k w hS => t_region hJ _ hSR (n := 2) (by kernel_rfl) (fun k w hS => ?_) hS) hS) hS
    refine t_run hJ _ hSR hb (i := 0) (p := .binOp .add 3 (.tmp 28) (.const (.int .i64 1)) 3) (d := 39) (by kernel_rfl) (by decide) hT (fun o ho w => run_arith under_int ho (hT.of _ _ rfl) rfl (.inl ⟨rfl, rfl⟩) w) (fun a13 hT k w hS => ?_) hS
    rw [show IntKind.i64.wrap ((q : Int) + 1) = ((q + 1 : Nat) : Int) by rw [IntKind.wrap_i64]; omega] at hT
    refine t_move hJ _ hSR hb (i := 1) (t := 39) (d := 28) (asg := false) (by kernel_rfl) (by decide) hT rfl (fun a14 hT k w hS => ?_) hS
    refine js_regend hJ _ hSR (fun k w hS => js_inLoop hJ _ hSR (fun k w hS => ?_) hS) hS
    refine ih (q + 1) a14 k w (by omega) (by omega) (hT.to ?_) hS
    refine getT_cons rfl (getT_cons rfl (getT_cons rfl (getT_cons rfl (getT_cons rfl ?_))))
    exact getT_skip (getT_skip (getT_skip (getT_skip (getT_skip (getT_skip (getT_skip (getT_skip (getT_skip (getT_skip (getT_skip (getT_skip (getT_skip (getT_skip (getT_skip (getT_skip (getT_skip (getT_skip (getT_skip getT_refl rfl) rfl) rfl) rfl) rfl) rfl) rfl) rfl) rfl) rfl) rfl) rfl) rfl) rfl) rfl) rfl) rfl) rfl) rfl
end
end Go.Proofs.Yticdjkkcfdbdcaa
