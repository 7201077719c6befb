/- The contract of Same over letters: two lists that are one. No conditions but that what is read is there. -/
import Derived.Test.YticdjkkcfdbdcaaAcH
import Derived.Test.YticdjkkcfdbdcaaPhN
import Derived.Test.YticdjkkcfdbdcaaAcRa
namespace Go.Proofs.Yticdjkkcfdbdcaa
open Go.ChangeShapes Go.WideShapes Go.ChangeAt Go.RowKit
set_option maxRecDepth 100000 in
set_option maxHeartbeats 1000000 in
theorem same_x (w : World) (B : Nat) (A A' : Option Addr) (c c' n : Nat) (l : List LetR) (hA : Rd w B A (flatX l)) (hA' : Rd w B A' (flatX l)) (hB : B ≤ w.heap.size) (hn : l.length = n) (hl : n ≤ 1048576) :
    Calls Try.prog 26 #[.slice A n c, .slice A' n c'] w fun e w' => e = .returned (.bool true) ∧ RowKit.Below w.heap.size w w' := by
  have HA := Lib.hid (And.intro hA (And.intro hA' hn)); clear hA hA' hn
  go_enter Try.func26, Try.ntmps26
  go_wp2
  go_loopg [13] n (fun gk i wr => ∃ k : Nat, gk + k = n ∧ i = .int .i64 k ∧ RowKit.Below w.heap.size w wr)
  case atStart => exact ⟨0, by omega, rfl, RowKit.Below.refl _ _⟩
  case round =>
    obtain ⟨k, hgk, rfl, hb⟩ := hrel
    by_cases hk : k < n
    · have hkl : k < l.length := by have := HA.out.2.2; omega
      obtain ⟨g, o, rfl, hg, hc⟩ := rd_flat (f := cellsX) (s := 4) (by decide) (fun _ => rfl) (HA.out.1.keep (w' := wr) fun p hp => hb.cell (by omega)) hkl
      obtain ⟨g', o', rfl, hg', hd⟩ := rd_flat (f := cellsX) (s := 4) (by decide) (fun _ => rfl) (HA.out.2.1.keep (w' := wr) fun p hp => hb.cell (by omega)) hkl
      have Hb := Lib.hid hb
      clear hb
      generalize l[k] = x at hc hd
      obtain ⟨xt, xd, xk, xn⟩ := x
      have c0 := hc 0 _ rfl
      have c1 := hc 1 _ rfl
      have c2 := hc 2 _ rfl
      have c3 := hc 3 _ rfl
      have d0 := hd 0 _ rfl
      have d1 := hd 1 _ rfl
      have d2 := hd 2 _ rfl
      have d3 := hd 3 _ rfl
      rw [Nat.add_zero] at c0 d0
      simp only at c0 c1 c2 c3 d0 d1 d2 d3
      clear hc hd
      go_wp2
      go_quiet (fail)
      go_wp2
      go_roundg (gk - 1)
      case measure => omega
      case rel => exact ⟨k + 1, by omega, by go_num, below_drewN Hb.out _⟩
    · have Hb := Lib.hid hb
      clear hb
      go_wp2
      go_ret
      exact ⟨rfl, Hb.out⟩
end Go.Proofs.Yticdjkkcfdbdcaa

/- What actor.Run and the reference's Played say, in one form; Played in company. No conditions but those named. -/
namespace Go.Proofs.Yticdjkkcfdbdcaa
open Go.Conc Go.ConcN Go.RowKit Go.ChangeShapes Go.WideShapes Go.ChangeAt
theorem pack_one {fn : Func} {i : Tmp} (h : fn.results = #[.tmp i]) (T : Array Value) : pack (resVals fn T) = T.getD i undef := by
  simp [resVals, h, pack]
theorem run_as (e : Operand → Value) (o : Oper) {x : Operand} (hop : o.op = .assign x) (w : World) : (execOp e o).runT Try.prog w #[] = (.ok (.value (e x)) w, #[]) := by simp [go_sem, hop, execOp]
def Keeps (L L' : World) : Prop := L.heap.size ≤ L'.heap.size ∧ ∀ b, b < L.heap.size → L'.heap[b]? = L.heap[b]?
theorem Keeps.trans {L L1 L2 : World} (h : Keeps L L1) (h' : Keeps L1 L2) : Keeps L L2 := ⟨Nat.le_trans h.1 h'.1, fun b hb => (h'.2 b (Nat.lt_of_lt_of_le hb h.1)).trans (h.2 b hb)⟩
theorem Keeps.below {L L1 : World} (h : RowKit.Below L.heap.size L L1) : Keeps L L1 := ⟨h.size, fun b hb => h.block b hb⟩
theorem Keeps.eq {L L1 : World} (e : L1.heap = L.heap) : Keeps L L1 := ⟨by rw [e]; exact Nat.le_refl _, fun b _ => by rw [e]⟩
theorem Keeps.cell {L L1 : World} (h : Keeps L L1) {p : Addr} (hp : p.block < L.heap.size) : L1.cell? p = L.cell? p := by simp only [World.cell?, h.2 _ hp]
theorem kp_keeps {L L1 : World} (h : Kp L.heap.size L L1) : Keeps L L1 := ⟨h.size, h.at_⟩
theorem Rd.kept {L L1 : World} {B : Nat} {A : Option Addr} {vs : List Value} (h : Rd L B A vs) (hB : B ≤ L.heap.size) (hk : Keeps L L1) : Rd L1 B A vs := h.keep fun p hp => hk.cell (Nat.lt_of_lt_of_le hp hB)
theorem RdRules.kept {L L1 : World} {B : Nat} {A : Option Addr} {R : List RulR} (h : RdRules L B A R) (hB : B ≤ L.heap.size) (hk : Keeps L L1) : RdRules L1 B A R := h.keep fun p hp => hk.cell (Nat.lt_of_lt_of_le hp hB)
theorem RdRules.more {w : World} {B B' : Nat} {A : Option Addr} {R : List RulR} (h : RdRules w B A R) (hB : B ≤ B') : RdRules w B' A R :=
  ⟨fun hn => by
    obtain ⟨b, o, e, hb, hc⟩ := h.row hn
    exact ⟨b, o, e, Nat.lt_of_lt_of_le hb hB, hc⟩, fun k hk => (h.each k hk).more hB, h.small, h.fits⟩
theorem own_rd {w : World} {base n s : Nat} {e : TypeId} {v : Value} {vs : List Value} {p : Option Addr} {cc : Nat} (h : w.ownsRow base e s v n vs) (hv : v = .slice p n cc) : Rd w w.heap.size p vs := by
  subst hv
  intro hne
  rcases h.2 with ⟨_, h0⟩ | ⟨g, cap, cur, hv, _, hg, _, _, _, ht⟩
  · exfalso
    have := h.1
    rw [h0, Nat.zero_mul] at this
    exact hne (List.eq_nil_of_length_eq_zero this)
  · cases hv
    refine ⟨g, 0, rfl, (Array.getElem?_eq_some_iff.1 hg).1, fun i u hu => ?_⟩
    rw [Nat.zero_add, cell_of_row _ _ _ _ _ _ hg]
    rw [← ht, List.getElem?_take] at hu
    split at hu
    · simpa using hu
    · cases hu
theorem timeR_nums (R : List (List RuleR)) (c : Come) (t : Int) (nums : List Int) : (timeR R c t nums).1.length = nums.length := by simp [timeR]
/-- What a run comes to is not long. -/
theorem runA_some {R : List (List RuleR)} : ∀ (k : Nat) (t : Int) (nums : List Int) (c : Come) (log : List LetR) {ys : List Int} {zs : List LetR}, log.length ≤ 100000 → runA R k t nums c log = some (ys, zs) → ys.length = nums.length ∧ zs.length ≤ 100000
  | 0, t, nums, c, log, ys, zs, hl, h => by
    obtain ⟨rfl, rfl⟩ := Prod.mk.inj (Option.some.inj h)
    exact ⟨rfl, hl⟩
  | k + 1, t, nums, c, log, ys, zs, hl, h => by
    have h2 : (if 100000 < (log ++ logR R.length c t).length then none else runA R k (t + 1) (timeR R c t nums).1 (c.addAll (timeR R c t nums).2) (log ++ logR R.length c t)) = some (ys, zs) := h
    split at h2
    · cases h2
    · have h3 := runA_some k _ _ _ _ (by omega) h2
      rw [timeR_nums] at h3
      exact h3
/-- What the reference answers, whatever the input. -/
def RefPA (R : List RulR) (ls : List LetR) (E wk : Int) (L : World) (v : Value) (L1 : World) : Prop :=
  (goCode R ls E wk = 0 → (runA (R.map (·.rs)) (E.toNat + 1) 0 (List.replicate R.length 0) (comeL ls) [] = none ∧ v = .tuple #[.slice none 0 0, .slice none 0 0, .int .i64 2]) ∨
    ∃ nums log g c lv, runA (R.map (·.rs)) (E.toNat + 1) 0 (List.replicate R.length 0) (comeL ls) [] = some (nums, log) ∧ v = .tuple #[.slice (some ⟨g, 0, none⟩) R.length c, lv, .int .i64 0] ∧ Blk L1 g 2 (ints nums) ∧ ownX L1 L.heap.size lv log) ∧
  (goCode R ls E wk ≠ 0 → v = .tuple #[.slice none 0 0, .slice none 0 0, .int .i64 (goCode R ls E wk)]) ∧ Keeps L L1
/-- One form for right and for wrong input. -/
structure SaidA (R : List RulR) (ls : List LetR) (E wk : Int) (ys : List Int) (zs : List LetR) (code : Int) : Prop where
  len : ys.length ≤ 200
  lenz : zs.length ≤ 100000
  run : ∀ v L L1, RunPA R ls E wk L v L1 → ∃ p c q d, v = .tuple #[.slice p ys.length c, .slice q zs.length d, .int .i64 code] ∧ Rd L1 L1.heap.size p (ints ys) ∧ Rd L1 L1.heap.size q (flatX zs) ∧ Keeps L L1
  ref : ∀ v L L1, RefPA R ls E wk L v L1 → ∃ p c q d, v = .tuple #[.slice p ys.length c, .slice q zs.length d, .int .i64 code] ∧ Rd L1 L1.heap.size p (ints ys) ∧ Rd L1 L1.heap.size q (flatX zs) ∧ Keeps L L1
theorem goCode_zero {R : List RulR} {ls : List LetR} {E wk : Int} (h : goCode R ls E wk = 0) : actCode R ls = 0 ∧ (0 ≤ E ∧ E ≤ 1000) ∧ wkOk wk := by
  unfold goCode at h
  split at h
  · rename_i h0
    exact absurd h h0
  · rename_i h0
    split at h
    · rename_i h1
      exact ⟨Classical.byContradiction h0, h1⟩
    · cases h
theorem saidA (R : List RulR) (ls : List LetR) (E wk : Int) : ∃ ys zs code, SaidA R ls E wk ys zs code := by
  by_cases h0 : goCode R ls E wk = 0
  · have hc := goCode_zero h0
    cases hr : runA (R.map (·.rs)) (E.toNat + 1) 0 (List.replicate R.length 0) (comeL ls) [] with
    | none =>
      refine ⟨[], [], 2, by simp, by simp, fun v L L1 h => ?_, fun v L L1 h => ?_⟩
      · rcases h.1 h0 with ⟨_, rfl⟩ | ⟨_, _, _, _, h1, _⟩
        · exact ⟨none, 0, none, 0, rfl, .nil _ _ _, .nil _ _ _, kp_keeps h.2.2⟩
        · rw [hr] at h1; cases h1
      · rcases h.1 h0 with ⟨_, rfl⟩ | ⟨_, _, _, _, _, h1, _⟩
        · exact ⟨none, 0, none, 0, rfl, .nil _ _ _, .nil _ _ _, h.2.2⟩
        · rw [hr] at h1; cases h1
    | some p =>
      obtain ⟨ys, zs⟩ := p
      obtain ⟨hly, hlz⟩ := runA_some _ _ _ _ _ (by simp) hr
      rw [List.length_replicate] at hly
      have hn := (actCode_zero hc.1).1
      refine ⟨ys, zs, 0, by omega, hlz, fun v L L1 h => ?_, fun v L L1 h => ?_⟩
      · rcases h.1 h0 with ⟨h1, _⟩ | ⟨nums, log, u, lv, h1, rfl, h3, h4⟩
        · rw [hr] at h1; cases h1
        · rw [hr] at h1
          cases h1
          obtain ⟨p, cc, rfl, _, _⟩ := own_form h3
          obtain ⟨q, d, rfl, _, _⟩ := own_form h4
          exact ⟨p, cc, q, d, rfl, own_rd h3 rfl, own_rd h4 rfl, kp_keeps h.2.2⟩
      · rcases h.1 h0 with ⟨h1, _⟩ | ⟨nums, log, g, cc, lv, h1, rfl, h3, h4⟩
        · rw [hr] at h1; cases h1
        · rw [hr] at h1
          cases h1
          obtain ⟨q, d, rfl, _, _⟩ := own_form h4
          exact ⟨_, cc, q, d, by rw [hly], h3.rd, own_rd h4 rfl, h.2.2⟩
  · refine ⟨[], [], goCode R ls E wk, by simp, by simp, fun v L L1 h => ⟨none, 0, none, 0, h.2.1 h0, .nil _ _ _, .nil _ _ _, kp_keeps h.2.2⟩, fun v L L1 h => ⟨none, 0, none, 0, h.2.1 h0, .nil _ _ _, .nil _ _ _, h.2.2⟩⟩
section
variable {Post : Value → World → Prop} {n0 : Nat} {W0 : World}
theorem played_m {A AX : Option Addr} {c cl n m : Nat} {R : List RulR} {ls : List LetR} {E wk : Int} {L : World} (hR : RdRules L L.heap.size A R) (hX : Rd L L.heap.size AX (flatX ls)) (hn : R.length = n) (hm : ls.length = m) (hfm : Fits m) :
    MCalls (InV acL acV) Try.prog (fun k g w => Win Try.prog Post n0 W0 k g w) 25 #[.slice A n c, .slice AX m cl, .int .i64 E, .int .i64 wk] false (RefPA R ls E wk L) L := by
  refine MCalls.lone (win_jok (P := Try.prog) (Post := Post) (n0 := n0) (W0 := W0)) ac_ok (by unfold InV; decide) fun T => ?_
  by_cases h0 : goCode R ls E wk = 0
  · obtain ⟨h1, h2, h3⟩ := goCode_zero h0
    refine (played_any { L with tape := T } L.heap.size n m A AX c cl E wk R ls (hR.keep fun _ _ => rfl) (hX.keep fun _ _ => rfl) (Nat.le_refl _) hn hm h1 h2 h3).mono ?_
    rintro e w' ⟨hb, res, hres, ho⟩
    have hri := played_is h1 h2.1 hres
    rcases ho with ⟨rfl, rfl⟩ | ⟨nums, log, g, cc, lv, rfl, rfl, q1, q2⟩
    · exact ⟨fun _ => .inl ⟨hri.symm, rfl⟩, fun h => absurd h0 h, hb.size, fun b hb' => hb.block b hb'⟩
    · exact ⟨fun _ => .inr ⟨nums, log, g, cc, lv, hri.symm, rfl, q1, q2⟩, fun h => absurd h0 h, hb.size, fun b hb' => hb.block b hb'⟩
  · refine (played_bad { L with tape := T } L.heap.size n m A AX c cl E wk R ls (hR.keep fun _ _ => rfl) (hX.keep fun _ _ => rfl) (Nat.le_refl _) hn hm hfm h0).mono ?_
    rintro e w' ⟨rfl, q3⟩
    exact ⟨fun h => absurd h h0, fun _ => rfl, q3.size, fun b hb => q3.block b hb⟩
end
end Go.Proofs.Yticdjkkcfdbdcaa

/- The law steplaw.ActorRuns' body in company, told of the lone world: true. No conditions but those named. -/
namespace Go.Proofs.Yticdjkkcfdbdcaa
open Go.Conc Go.ConcN Go.RowKit Go.ChangeShapes Go.WideShapes Go.ChangeAt
set_option maxRecDepth 100000 in
theorem res_7 : ResFn Try.prog 7 := resB_ok Try.func7 (by kernel_rfl)
theorem results_7 : Try.f7.results = #[.tmp 8] := by kernel_rfl
section
variable {Post : Value → World → Prop} {n0 : Nat} {W0 : World}
set_option maxRecDepth 100000 in
set_option maxHeartbeats 4000000 in
theorem law_m {A AX : Option Addr} {c cl n m : Nat} {R : List RulR} {ls : List LetR} {E wk : Int} {L : World} (hR : RdRules L L.heap.size A R) (hX : Rd L L.heap.size AX (flatX ls)) (hn : R.length = n) (hm : ls.length = m) (hfm : Fits m) {code : Code} (hcode : Try.f7.body = some code) :
    Mp (InV acL acV) Try.prog (fun k g w => Win Try.prog Post n0 W0 k g w) 7 code false (fun e a1 _ => (e = .normal ∨ e = .ret) ∧ pack (resVals Try.f7 a1.tmps) = .bool true) ⟨#[.slice A n c, .slice AX m cl, .int .i64 E, .int .i64 wk] ++ Array.replicate (Try.f7.ntmps - #[Value.slice A n c, .slice AX m cl, .int .i64 E, .int .i64 wk].size) undef, []⟩ L := by
  have hJ : JOk Try.prog true _ (fun k g w => Win Try.prog Post n0 W0 k g w) := win_jok (P := Try.prog) (Post := Post) (n0 := n0) (W0 := W0)
  have hcode' := (show Try.f7.body = some _ from rfl).symm.trans hcode
  obtain rfl := Option.some.inj hcode'
  clear hcode hcode'
  simp only [Try.ntmps7, List.size_toArray, List.length_cons, List.length_nil, Nat.reduceAdd, Nat.reduceSub, Array.replicate_succ, Array.replicate_zero, List.push_toArray, List.append_toArray, List.nil_append, List.cons_append]
  have Hn := Lib.hid hn; clear hn
  have Hm := Lib.hid hm; clear hm
  have HR := Lib.hid (And.intro hR (And.intro hX hfm)); clear hR hX hfm
  refine Mp.piece' hJ ac_ok res_7 (by kernel_rfl) (fun L' => Hid (L'.heap = L.heap)) (fun L' e => Lib.hid e) fun L2 Hs => ?_
  go_wp2
  refine MpPost.normal ?_
  have k2 : Keeps L L2 := .eq Hs.out
  obtain ⟨ys, zs, code, hS⟩ := saidA R ls E wk
  have hc1 := arun_m (Post := Post) (n0 := n0) (W0 := W0) (A := A) (AX := AX) (c := c) (cl := cl) (E := E) (wk := wk) (L := L2) ((HR.out.1.kept (Nat.le_refl _) k2).more k2.1) ((HR.out.2.1.kept (Nat.le_refl _) k2).more k2.1) Hn.out Hm.out HR.out.2.2
  refine Mp.seq hJ (Mp.region hJ ?_)
  (refine MpOps.val hJ ac_ok.bodies rfl (yld rfl _) (okOpB_ok (by kernel_rfl)) (fun w => run_mv _ _ rfl w) ?_; refine MpOps.val hJ ac_ok.bodies rfl (yld rfl _) (okOpB_ok (by kernel_rfl)) (fun w => run_mv _ _ rfl w) ?_; refine MpOps.val hJ ac_ok.bodies rfl (yld rfl _) (okOpB_ok (by kernel_rfl)) (fun w => run_mv _ _ rfl w) ?_; refine MpOps.val hJ ac_ok.bodies rfl (yld rfl _) (okOpB_ok (by kernel_rfl)) (fun w => run_mv _ _ rfl w) ?_)
  go_simp
  refine MpOps.call' hJ rfl (yld rfl _) rfl (fun x hx => ?_) ⟨_, Try.func24, by kernel_rfl, by kernel_rfl⟩ (by simp only [List.map_toArray, List.map_cons, List.map_nil]; rfl) (MCalls.mono hc1 fun v L3 hv => ?_)
  · simp at hx
    rcases hx with rfl | rfl | rfl | rfl <;> trivial
  obtain ⟨p1, c1, q1, d1, rfl, r1, s1, k3⟩ := hS.run _ _ _ hv
  clear hc1 hv
  (refine MpOps.val hJ ac_ok.bodies rfl (yld rfl _) (okOpB_ok (by kernel_rfl)) (fun w => run_mv _ _ rfl w) ?_; go_simp; refine MpOps.val hJ ac_ok.bodies rfl (yld rfl _) (okOpB_ok (by kernel_rfl)) (fun w => run_ex _ _ rfl rfl rfl w) ?_; refine MpOps.val hJ ac_ok.bodies rfl (yld rfl _) (okOpB_ok (by kernel_rfl)) (fun w => run_ex _ _ rfl rfl rfl w) ?_; refine MpOps.val hJ ac_ok.bodies rfl (yld rfl _) (okOpB_ok (by kernel_rfl)) (fun w => run_ex _ _ rfl rfl rfl w) ?_; go_simp; refine MpOps.val hJ ac_ok.bodies rfl (yld rfl _) (okOpB_ok (by kernel_rfl)) (fun w => run_as _ _ rfl w) ?_; refine MpOps.val hJ ac_ok.bodies rfl (yld rfl _) (okOpB_ok (by kernel_rfl)) (fun w => run_as _ _ rfl w) ?_; refine MpOps.val hJ ac_ok.bodies rfl (yld rfl _) (okOpB_ok (by kernel_rfl)) (fun w => run_as _ _ rfl w) ?_; refine MpOps.nil hJ ?_)
  show Mp _ _ _ _ _ _ _ _ _
  go_simp
  have k13 := k2.trans k3
  have hc2 := played_m (Post := Post) (n0 := n0) (W0 := W0) (A := A) (AX := AX) (c := c) (cl := cl) (E := E) (wk := wk) (L := L3) ((HR.out.1.kept (Nat.le_refl _) k13).more k13.1) ((HR.out.2.1.kept (Nat.le_refl _) k13).more k13.1) Hn.out Hm.out HR.out.2.2
  refine Mp.seq hJ (Mp.region hJ ?_)
  (refine MpOps.val hJ ac_ok.bodies rfl (yld rfl _) (okOpB_ok (by kernel_rfl)) (fun w => run_mv _ _ rfl w) ?_; refine MpOps.val hJ ac_ok.bodies rfl (yld rfl _) (okOpB_ok (by kernel_rfl)) (fun w => run_mv _ _ rfl w) ?_; refine MpOps.val hJ ac_ok.bodies rfl (yld rfl _) (okOpB_ok (by kernel_rfl)) (fun w => run_mv _ _ rfl w) ?_; refine MpOps.val hJ ac_ok.bodies rfl (yld rfl _) (okOpB_ok (by kernel_rfl)) (fun w => run_mv _ _ rfl w) ?_)
  go_simp
  refine MpOps.call' hJ rfl (yld rfl _) rfl (fun x hx => ?_) ⟨_, Try.func25, by kernel_rfl, by kernel_rfl⟩ (by simp only [List.map_toArray, List.map_cons, List.map_nil]; rfl) (MCalls.mono hc2 fun v L4 hv => ?_)
  · simp at hx
    rcases hx with rfl | rfl | rfl | rfl <;> trivial
  obtain ⟨p2, c2, q2, d2, rfl, r2, s2, k4⟩ := hS.ref _ _ _ hv
  clear hc2 hv
  (refine MpOps.val hJ ac_ok.bodies rfl (yld rfl _) (okOpB_ok (by kernel_rfl)) (fun w => run_mv _ _ rfl w) ?_; go_simp; refine MpOps.val hJ ac_ok.bodies rfl (yld rfl _) (okOpB_ok (by kernel_rfl)) (fun w => run_ex _ _ rfl rfl rfl w) ?_; refine MpOps.val hJ ac_ok.bodies rfl (yld rfl _) (okOpB_ok (by kernel_rfl)) (fun w => run_ex _ _ rfl rfl rfl w) ?_; refine MpOps.val hJ ac_ok.bodies rfl (yld rfl _) (okOpB_ok (by kernel_rfl)) (fun w => run_ex _ _ rfl rfl rfl w) ?_; go_simp; refine MpOps.val hJ ac_ok.bodies rfl (yld rfl _) (okOpB_ok (by kernel_rfl)) (fun w => run_as _ _ rfl w) ?_; refine MpOps.val hJ ac_ok.bodies rfl (yld rfl _) (okOpB_ok (by kernel_rfl)) (fun w => run_as _ _ rfl w) ?_; refine MpOps.val hJ ac_ok.bodies rfl (yld rfl _) (okOpB_ok (by kernel_rfl)) (fun w => run_as _ _ rfl w) ?_; refine MpOps.nil hJ ?_)
  show Mp _ _ _ _ _ _ _ _ _
  go_simp
  have k14 := k13.trans k4
  have x1 : Rd L4 L3.heap.size p1 (ints ys) := r1.kept (Nat.le_refl _) k4
  have x2 : Rd L4 L3.heap.size q1 (flatX zs) := s1.kept (Nat.le_refl _) k4
  have xA : RdRules L4 L.heap.size A R := HR.out.1.kept (Nat.le_refl _) k14
  have xX : Rd L4 L.heap.size AX (flatX ls) := HR.out.2.1.kept (Nat.le_refl _) k14
  refine Mp.last' hJ ac_ok res_7 (by kernel_rfl) (fun L' => Hid ((Rd L' L'.heap.size p1 (ints ys) ∧ Rd L' L'.heap.size p2 (ints ys)) ∧ (Rd L' L'.heap.size q1 (flatX zs) ∧ Rd L' L'.heap.size q2 (flatX zs)) ∧ RdRules L' L'.heap.size A R ∧ Rd L' L'.heap.size AX (flatX ls))) (fun L' e => Lib.hid ⟨⟨(x1.kept k4.1 (.eq e)).more (by rw [e]; exact k4.1), (r2.kept (Nat.le_refl _) (.eq e)).more (by rw [e]; exact Nat.le_refl _)⟩, ⟨(x2.kept k4.1 (.eq e)).more (by rw [e]; exact k4.1), (s2.kept (Nat.le_refl _) (.eq e)).more (by rw [e]; exact Nat.le_refl _)⟩, (xA.kept k14.1 (.eq e)).more (by rw [e]; exact k14.1), (xX.kept k14.1 (.eq e)).more (by rw [e]; exact k14.1)⟩) fun L6 H6 => ?_
  have hlen := hS.len
  have hlenz := hS.lenz
  clear x1 x2 r2 s2 xA xX k4 k14 k13 k3 r1 s1 hS k2 Hs
  have hsame : ∀ W : World, W.heap = L6.heap → Calls Try.prog 17 #[.slice p1 ys.length c1, .slice p2 ys.length c2] W fun e w' => e = .returned (.bool true) ∧ Keeps L6 w' := fun W e => by
    have h1 : Rd W W.heap.size p1 (ints ys) := (H6.out.1.1.kept (Nat.le_refl _) (.eq e)).more (by rw [e]; exact Nat.le_refl _)
    have h2 : Rd W W.heap.size p2 (ints ys) := (H6.out.1.2.kept (Nat.le_refl _) (.eq e)).more (by rw [e]; exact Nat.le_refl _)
    refine (same_s W W.heap.size p1 p2 c1 c2 ys h1 h2 (Nat.le_refl _) (by omega)).mono ?_
    rintro e' w' ⟨rfl, hb⟩
    exact ⟨rfl, (Keeps.eq e).trans (Keeps.below hb)⟩
  have hsamx : ∀ W : World, Keeps L6 W → Calls Try.prog 26 #[.slice q1 zs.length d1, .slice q2 zs.length d2] W fun e w' => e = .returned (.bool true) ∧ Keeps L6 w' := fun W e => by
    refine (same_x W L6.heap.size q1 q2 d1 d2 zs.length zs (H6.out.2.1.1.kept (Nat.le_refl _) e) (H6.out.2.1.2.kept (Nat.le_refl _) e) e.1 rfl (by omega)).mono ?_
    rintro e' w' ⟨rfl, hb⟩
    exact ⟨rfl, e.trans (Keeps.below hb)⟩
  have hchk : ∀ W : World, Keeps L6 W → Calls Try.prog 27 #[.slice A n c, .slice AX m cl] W fun e w' => e = .returned (.int .i64 (actCode R ls)) ∧ Keeps L6 w' := fun W e => by
    refine (act_check W L6.heap.size n m A AX c cl R ls (H6.out.2.2.1.kept (Nat.le_refl _) e) (H6.out.2.2.2.kept (Nat.le_refl _) e) e.1 Hn.out Hm.out HR.out.2.2).mono ?_
    rintro e' w' ⟨rfl, hb⟩
    exact ⟨rfl, e.trans (Keeps.below hb)⟩
  have hrul : ∀ W : World, Keeps L6 W → Calls Try.prog 28 #[.slice A n c, .slice AX m cl] W fun e w' => e = .returned (.int .i64 (actCode R ls)) ∧ Keeps L6 w' := fun W e => by
    refine (rules_any W L6.heap.size n m A AX c cl R ls (H6.out.2.2.1.kept (Nat.le_refl _) e) (H6.out.2.2.2.kept (Nat.le_refl _) e) e.1 Hn.out Hm.out HR.out.2.2).mono ?_
    rintro e' w' ⟨rfl, hb⟩
    exact ⟨rfl, e.trans (Keeps.below hb)⟩
  have HS1 := Lib.hid hsame; have HS2 := Lib.hid hsamx; have HC := Lib.hid hchk; have HD := Lib.hid hrul; clear hsame hsamx hchk hrul H6 HR
  generalize actCode R ls = dc at *
  generalize ys.length = yl at *
  generalize zs.length = zl at *
  go_wp2_with (first | (go_at_call 17; refine (HS1.out _ rfl).mono ?_; rintro e w1 ⟨rfl, hb⟩; have Hb := Lib.hid hb; clear hb) | (go_at_call 26; refine (HS2.out _ Hb.out).mono ?_; rintro e w1 ⟨rfl, hb⟩; have Hb1 := Lib.hid hb; clear hb) | (go_at_call 27; refine (HC.out _ Hb1.out).mono ?_; rintro e w2 ⟨rfl, hb⟩; have Hb2 := Lib.hid hb; clear hb) | (go_at_call 28; refine (HD.out _ Hb2.out).mono ?_; rintro e w3 ⟨rfl, hb⟩; have Hb3 := Lib.hid hb; clear hb))
  refine MpPost.leave ⟨.inr rfl, ?_⟩
  rw [pack_one results_7]
  rfl
end
end Go.Proofs.Yticdjkkcfdbdcaa
