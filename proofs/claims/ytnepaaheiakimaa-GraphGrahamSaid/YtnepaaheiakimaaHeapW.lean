/- The queue's methods. No conditions but that what is read is there. -/
import Derived.Test.YtnepaaheiakimaaGraphSpd
import Derived.Test.YtnepaaheiakimaaHeapM
import Derived.BigQuiet
import Derived.BigRegion
import Derived.Deep.QuietTactic
import Derived.StillTailTactics
import Derived.Deep.RegionLaw
import Derived.WalkSmall
namespace Go.Proofs.Ytnepaaheiakimaa
open Go.ChangeShapes Go.WideShapes Go.ChangeAt Go.RowKit

/-- The queue: at block q; its jobs; its row. -/
structure QSt (w : World) (B base q : Nat) (A : Option Addr) (c : Nat) (J : List JobR) (v : Value) (l : List Int) : Prop where
  blk : Blk w q 50 [.slice A J.length c, v]
  own : w.ownsRow base 3 1 v l.length (ints l)
  jobs : RdJobs w B A J
  few : J.length ≤ 200
  size : l.length ≤ 1000
  inR : ∀ a ∈ l, okIn J.length a
  qlow : q < base
  blow : B ≤ q
  bound : base ≤ w.heap.size
theorem rd_drewN {w : World} {B : Nat} {A : Option Addr} {vs : List Value} (h : Rd w B A vs) (m : Nat) : Rd (w.drewN m) B A vs := h
theorem QSt.drewN {w : World} {B base q : Nat} {A : Option Addr} {c : Nat} {J : List JobR} {v : Value} {l : List Int} (h : QSt w B base q A c J v l) (m : Nat) : QSt (w.drewN m) B base q A c J v l :=
  ⟨h.blk, h.own, ⟨h.jobs.row, h.jobs.after, h.jobs.small, h.jobs.fits⟩, h.few, h.size, h.inR, h.qlow, h.blow, h.bound⟩
theorem QSt.urg {w : World} {B base q : Nat} {A : Option Addr} {c : Nat} {J : List JobR} {v : Value} {l : List Int} (h : QSt w B base q A c J v l) {a : Nat} (ha : a < l.length) :
    ∃ (x jb jo : Nat), l[a] = (x : Int) ∧ x < J.length ∧ A = some ⟨jb, jo, none⟩ ∧ w.cell? ⟨jb, jo + x * 4 + 1, none⟩ = some (.int .i64 (urgOf J x)) := by
  obtain ⟨h0, h1⟩ := h.inR _ (List.getElem_mem ha)
  obtain ⟨x, hx⟩ := Int.eq_ofNat_of_zero_le h0
  have hxJ : x < J.length := by omega
  obtain ⟨jb, jo, e, _, _, c1, _, _⟩ := h.jobs.at_ hxJ
  rw [← urgOf_eq hxJ] at c1
  exact ⟨x, jb, jo, hx, hxJ, e, c1⟩

theorem QSt.turn {w w' : World} {B base q : Nat} {A : Option Addr} {c : Nat} {J : List JobR} {v : Value} {l l' : List Int} (h : QSt w B base q A c J v l) {row : Option Nat} (hg : w.grownBy w' row) (hrow : ∀ k, row = some k → base ≤ k)
    (hown : w'.ownsRow base 3 1 v l.length (ints l')) (hl : l'.length = l.length) (hin : ∀ a ∈ l', okIn J.length a) : QSt w' B base q A c J v l' where
  blk := h.blk.grown hg (fun e => by have := hrow _ e.symm; have := h.qlow; omega)
  own := by rw [hl]; exact hown
  jobs := h.jobs.keep fun p hp => World.cell?_of_block (hg.block p.block (by have := h.bound; have := h.qlow; have := h.blow; omega) (fun e => by have := hrow _ e.symm; have := h.qlow; have := h.blow; omega))
  few := h.few
  size := by rw [hl]; exact h.size
  inR := hin
  qlow := h.qlow
  blow := h.blow
  bound := Nat.le_trans h.bound hg.size
theorem qlen (w : World) (B base q : Nat) (A : Option Addr) (c : Nat) (J : List JobR) (v : Value) (l : List Int) (h : QSt w B base q A c J v l) :
    Calls Try.prog 20 #[.pointer (some ⟨q, 0, none⟩)] w fun e w' => e = .returned (.int .i64 l.length) ∧ w = w' := by
  obtain ⟨Av, cv, rfl, _, _⟩ := own_form h.own
  have hc := h.blk.cell 1
  simp only [List.getElem?_cons_succ, List.getElem?_cons_zero] at hc
  clear h
  go_enter Try.func20, Try.ntmps20
  go_wp2
  go_ret
  exact ⟨rfl, rfl⟩

instance (J : List JobR) (a b : Nat) : Decidable (sooner J a b) := inferInstanceAs (Decidable (_ ∨ _))
set_option maxRecDepth 100000 in
set_option maxHeartbeats 1000000 in
theorem qless (r : Bool) (w : World) (B base q : Nat) (A : Option Addr) (c : Nat) (J : List JobR) (v : Value) (l : List Int) (a b : Nat) (h : QSt w B base q A c J v l) (ha : a < l.length) (hb : b < l.length)
    (hr : decide (sooner J l[a].toNat l[b].toNat) = r) :
    Calls Try.prog 77 #[.pointer (some ⟨q, 0, none⟩), .int .i64 a, .int .i64 b] w fun e w' => e = .returned (.bool r) ∧ ∃ m, w' = w.drewN m := by
  have hsz := h.size
  have hfw := h.few
  obtain ⟨x, jb, jo, hx, hxJ, rfl, cx⟩ := h.urg ha
  obtain ⟨y, jb', jo', hy, hyJ, e', cy⟩ := h.urg hb
  injection e' with e'
  injection e' with e1 e2
  subst e1 e2
  obtain ⟨Av, cv, hv, _, _⟩ := own_form h.own
  subst hv
  have hc0 := h.blk.cell 0
  have hc1 := h.blk.cell 1
  simp only [List.getElem?_cons_succ, List.getElem?_cons_zero] at hc0 hc1
  obtain ⟨ob, oo, rfl, _, ca⟩ := (rd_own h.own).atMap ha
  obtain ⟨ob', oo', e', _, cb⟩ := (rd_own h.own).atMap hb
  injection e' with e'
  injection e' with e1 e2
  subst e1 e2
  rw [hx] at ca hr
  rw [hy] at cb hr
  simp only [Int.toNat_natCast] at hr
  have ha' : (a : Int) < l.length := by omega
  have hb' : (b : Int) < l.length := by omega
  have hx' : (x : Int) < J.length := by omega
  have hy' : (y : Int) < J.length := by omega
  have hs : sooner J x y ↔ (urgOf J y < urgOf J x ∨ (urgOf J x = urgOf J y ∧ x < y)) := Iff.rfl
  have Hs := Lib.hid hs; clear hs
  have Hr := Lib.hid hr; clear hr
  clear hx hy h
  generalize hux : urgOf J x = ux at *
  generalize huy : urgOf J y = uy at *
  clear hux huy
  by_cases hu : ux = uy
  · subst hu
    go_enter Try.func77, Try.ntmps77
    go_wp2
    go_quiet (fail)
    go_wp2
    go_quiet (fail)
    go_wp2
    go_ret
    refine ⟨retBool ?_, ?_⟩
    · rw [← Hr.out]
      refine decide_eq_decide.2 ?_
      rw [Hs.out]
      simp
    · exact ⟨_, rfl⟩
  · have hu1 : (ux == uy) = false := beq_eq_false_iff_ne.2 hu
    have hu2 : (ux != uy) = true := bne_iff_ne.2 hu
    have Hu := Lib.hid hu; clear hu
    go_enter Try.func77, Try.ntmps77
    go_wp2
    go_quiet (fail)
    go_wp2
    go_quiet (fail)
    go_wp2
    go_quiet (fail)
    go_wp2
    go_ret
    have hu := Hu.out
    refine ⟨retBool ?_, ?_⟩
    · rw [← Hr.out]
      exact decide_eq_decide.2 (by rw [Hs.out]; omega)
    · exact ⟨_, by simp only [World.drewN_drewN]; rfl⟩

theorem own_form2 {w : World} {base : Nat} {e : TypeId} {v : Value} {n : Nat} {vs : List Value} (h : w.ownsRow base e 1 v n vs) (hn : 0 < n) : ∃ g c, v = .slice (some ⟨g, 0, none⟩) n c ∧ base ≤ g ∧ g < w.heap.size := by
  rcases h.2 with ⟨_, h0⟩ | ⟨g, cap, cur, hv, hb, hg, _⟩
  · omega
  · exact ⟨g, cap, hv, hb, (Array.getElem?_eq_some_iff.1 hg).1⟩
def SwapPost (w : World) (B base q : Nat) (A : Option Addr) (c : Nat) (J : List JobR) (v : Value) (l : List Int) (e : Ending) (w' : World) : Prop :=
  e = .returned (.tuple #[]) ∧ QSt w' B base q A c J v l ∧ w.grownBy w' v.ownBlock

set_option maxRecDepth 100000 in
set_option maxHeartbeats 1000000 in
theorem qswap (w : World) (B base q : Nat) (A : Option Addr) (c : Nat) (J : List JobR) (v : Value) (l : List Int) (a b : Nat) (h : QSt w B base q A c J v l) (ha : a < l.length) (hb : b < l.length) :
    Calls Try.prog 80 #[.pointer (some ⟨q, 0, none⟩), .int .i64 a, .int .i64 b] w (SwapPost w B base q A c J v (swp l a b)) := by
  have hsz := h.size
  obtain ⟨ob, cv, rfl, hbase, hlt⟩ := own_form2 h.own (by omega)
  have hc1 := h.blk.cell 1
  simp only [List.getElem?_cons_succ, List.getElem?_cons_zero] at hc1
  have hca : w.cell? ⟨ob, a, none⟩ = some (.int .i64 l[a]) := by rw [h.own.cellAt a (by omega)]; simp [ints, ha]
  have hcb : w.cell? ⟨ob, b, none⟩ = some (.int .i64 l[b]) := by rw [h.own.cellAt b (by omega)]; simp [ints, hb]
  have hfa := h.own.frozenAt a
  have hfb := h.own.frozenAt b
  have ha' : (a : Int) < l.length := by omega
  have hb' : (b : Int) < l.length := by omega
  have hqn : ¬ (q = ob) := by have := h.qlow; omega
  have hqn' : ¬ (ob = q) := by have := h.qlow; omega
  have hst := h.own.stored a (.int .i64 l[b])
  have hcb2 : (w.setCell ⟨ob, a, none⟩ (.int .i64 l[b])).cell? ⟨ob, b, none⟩ = (ints l |>.set a (.int .i64 l[b]))[b]? := hst.1.cellAt b (by omega)
  rw [List.getElem?_eq_getElem (by simpa using hb)] at hcb2
  have hst2 := hst.1.stored b (.int .i64 l[a])
  have hown2 : ((w.setCell ⟨ob, a, none⟩ (.int .i64 l[b])).setCell ⟨ob, b, none⟩ (.int .i64 l[a])).ownsRow base 3 1 (.slice (some ⟨ob, 0, none⟩) l.length cv) l.length (ints (swp l a b)) := by
    have := hst2.1
    rwa [ints_set, ints_set, show (l.set a l[b]).set b l[a] = swp l a b by simp [swp, ha, hb]] at this
  have hgr := hst.2.trans hst2.2
  have Hown2 := Lib.hid hown2; clear hown2
  have Hgr := Lib.hid hgr; clear hgr hst hst2
  have H := Lib.hid h
  clear h
  obtain ⟨z, hz⟩ : ∃ z, (ints l |>.set a (.int .i64 l[b]))[b]'(by simpa using hb) = z := ⟨_, rfl⟩
  rw [hz] at hcb2
  clear hz
  generalize hx : l[a] = x at *
  generalize hy : l[b] = y at *
  have Hx := Lib.hid hx; clear hx
  have Hy := Lib.hid hy; clear hy
  go_enter Try.func80, Try.ntmps80
  go_wp2
  go_region
  all_goals go_wp2
  go_end0
  refine ⟨rfl, ?_, ⟨Hgr.out.os, Hgr.out.tape, Hgr.out.output, Hgr.out.size, Hgr.out.block⟩⟩
  exact H.out.turn ⟨Hgr.out.os, Hgr.out.tape, Hgr.out.output, Hgr.out.size, Hgr.out.block⟩ (fun k hk => by cases hk; exact hbase) Hown2.out (by rw [swp_len]) (fun x hx => H.out.inR x (swp_mem ha hb hx))

theorem step_append_own {P : Program} {ops : Array Oper} {o : Oper} {a : Act} {w : World} {K : Act → World → Prop} {Q : Exit → Act → World → Prop} {E : Prop}
    (hg : o.guard = none) (s x : Operand) (t : TypeId) (hop : o.op = Op.call { callee := Callee.builtin Builtin.append, args := #[s, x], argTypes := #[t, t] })
    (base : Nat) (e : TypeId) (i : TypeInfo) (z : Value) (size bytes : Nat) (h1 : P.underlying t = some (.slice e)) (h2 : P.info? e = some i) (h3 : i.zero = some z) (h4 : i.size = size) (h5 : i.bytes = bytes) (h6 : z.cells.size = size) (h7 : 0 < size)
    (v : Value) (n : Nat) (xs : List Value) (hs : a.eval s = v) (hown : w.ownsRow base e size v n xs)
    (ad : Addr) (m c : Nat) (news : List Value) (hx : a.eval x = .slice (some ad) m c) (hn : news.length = m * size) (hc : ∀ j u, news[j]? = some u → w.cell? (ad.add j) = some u) (h1c : ∀ u ∈ news, u.oneCell' = true)
    (b1 : n + m ≤ maxLen) (b2 : (n + m) * bytes ≤ 140737488355328) (hbase : base ≤ w.heap.size)
    (hK : ∀ v' w', w'.ownsRow base e size v' (n + m) (xs ++ news) → w.grownBy w' v.ownBlock → (v'.ownBlock = v.ownBlock ∨ v'.ownBlock = some w.heap.size) → K (a.put o.dst v') w') :
    if Region.wanted o (yielded ops a.tmps) = true then Oper.wp P o a w K Q else E := by
  have hw : Region.wanted o (yielded ops a.tmps) = true := by simp [Region.wanted, hg]
  rw [if_pos hw]
  obtain ⟨v', w', hr, h2', h3', _, h5'⟩ := run_append_own_at (P := P) w base t o.type e i z size bytes h1 h2 h3 h4 h5 h6 h7 v n xs hown ad m c news hn hc h1c b1 b2 hbase
  unfold Oper.wp execOp
  simp only [hop, resolve, invoke, builtin, Sem.run_bind, Sem.run_pure, Result.andThen_ok, List.map_toArray, List.map_cons, List.map_nil, hs, hx, hr]
  exact hK v' w' h2' h3' h5'

theorem assert_int (x : Int) (W : World) : (Instr.typeAssert (.iface 3 (.int .i64 x)) 20 3 false).run Try.prog W = .ok (.int .i64 x) W := by kernel_rfl
/-- What a call on the queue may change: the queue's block and its row's. -/
structure QMove (q : Nat) (w w' : World) (v v' : Value) : Prop where
  os : w'.os = w.os
  tape : w'.tape = w.tape
  output : w'.output = w.output
  size : w.heap.size ≤ w'.heap.size
  block : ∀ k, k < w.heap.size → k ≠ q → some k ≠ v.ownBlock → w'.heap[k]? = w.heap[k]?
  at_ : v'.ownBlock = v.ownBlock ∨ ∃ b, v'.ownBlock = some b ∧ w.heap.size ≤ b
theorem QMove.refl (q : Nat) (w : World) (v : Value) : QMove q w w v v := ⟨rfl, rfl, rfl, Nat.le_refl _, fun _ _ _ _ => rfl, .inl rfl⟩
theorem QMove.trans {q : Nat} {w w1 w2 : World} {v v1 v2 : Value} (h : QMove q w w1 v v1) (k : QMove q w1 w2 v1 v2) : QMove q w w2 v v2 where
  os := k.os.trans h.os
  tape := k.tape.trans h.tape
  output := k.output.trans h.output
  size := Nat.le_trans h.size k.size
  block := fun i hi h1 h2 => by
    have hs := h.size
    refine (k.block i (by omega) h1 ?_).trans (h.block i hi h1 h2)
    intro e
    rcases h.at_ with e' | ⟨b, e', hb⟩
    · exact h2 (e.trans e')
    · rw [e'] at e; cases e; omega
  at_ := by
    have hs := h.size
    rcases k.at_ with e' | ⟨b, e', hb⟩
    · rcases h.at_ with e2 | ⟨b, e2, hb⟩
      · exact .inl (e'.trans e2)
      · exact .inr ⟨b, e'.trans e2, hb⟩
    · exact .inr ⟨b, e', by omega⟩
theorem QMove.drewN {q : Nat} {w w' : World} {v v' : Value} (h : QMove q w w' v v') (m : Nat) : QMove q w (w'.drewN m) v v' := ⟨h.os, h.tape, h.output, h.size, h.block, h.at_⟩
theorem QMove.of_grown {q : Nat} {w w' : World} {v : Value} (h : w.grownBy w' v.ownBlock) : QMove q w w' v v := ⟨h.os, h.tape, h.output, h.size, fun k hk _ h2 => h.block k hk h2, .inl rfl⟩
def PushPost (w : World) (B base q : Nat) (A : Option Addr) (c : Nat) (J : List JobR) (v : Value) (l : List Int) (e : Ending) (w' : World) : Prop :=
  e = .returned (.tuple #[]) ∧ ∃ v', QSt w' B base q A c J v' l ∧ QMove q w w' v v'

set_option maxRecDepth 100000 in
set_option maxHeartbeats 1000000 in
theorem qpush (w : World) (B base q : Nat) (A : Option Addr) (c : Nat) (J : List JobR) (v : Value) (l : List Int) (x : Int) (h : QSt w B base q A c J v l) (hx : okIn J.length x) (hl : l.length < 1000) :
    Calls Try.prog 79 #[.pointer (some ⟨q, 0, none⟩), .iface 3 (.int .i64 x)] w (PushPost w B base q A c J v (l ++ [x])) := by
  obtain ⟨i0, hi0, hz0, hz1, hz2⟩ := info_parts info_int
  have Hi0 := Lib.hid (And.intro hi0 (And.intro hz0 (And.intro hz1 hz2))); clear hi0 hz0 hz1 hz2
  obtain ⟨Av, cv, rfl, _, _⟩ := own_form h.own
  have hc1 := h.blk.cell 1
  have hf1 := h.blk.frozen 1
  simp only [List.getElem?_cons_succ, List.getElem?_cons_zero] at hc1
  have hqb := h.blk.lt
  have hbase := h.bound
  have hown := h.own
  have hta := assert_int x
  have hblk2 : Blk ((w.alloc (.cells #[.int .i64 x] 3)).drew) q 50 [.slice A J.length c, .slice Av l.length cv] := h.blk.alloc _
  have hown2 : ((w.alloc (.cells #[.int .i64 x] 3)).drew).ownsRow base 3 1 (.slice Av l.length cv) l.length (ints l) := hown.alloc _
  have hcn : ∀ j u, [Value.int .i64 x][j]? = some u → ((w.alloc (.cells #[.int .i64 x] 3)).drew).cell? ((⟨w.heap.size, 0, none⟩ : Addr).add j) = some u := cell_one_new _ _ _
  have hone : ∀ u ∈ [Value.int .i64 x], u.oneCell' = true := by intro u hu; simp at hu; subst hu; rfl
  have hb1 : l.length + 1 ≤ maxLen := by unfold maxLen; omega
  have hb2 : (l.length + 1) * 8 ≤ 140737488355328 := by omega
  have hbs : base ≤ ((w.alloc (.cells #[.int .i64 x] 3)).drew).heap.size := by show base ≤ (w.alloc _).heap.size; rw [World.size_alloc]; omega
  have hqv : (Value.slice Av l.length cv).ownBlock ≠ some q := fun e => by have := h.own.lt _ e; have := h.qlow; omega
  have Hall := Lib.hid (And.intro hblk2 (And.intro hown2 (And.intro hcn (And.intro hone (And.intro hb1 (And.intro hb2 (And.intro hbs hqv))))))); clear hblk2 hown2 hcn hone hb1 hb2 hbs hqv
  have H := Lib.hid h
  have Hx := Lib.hid hx
  have Hown := Lib.hid hown
  clear h hx hown
  go_enter Try.func79, Try.ntmps79
  go_wp2
  go_region_law (refine step_append_own rfl (.tmp 8) (.tmp 11) _ rfl base 3 i0 (.int .i64 0) 1 8 Try.underlying38 Hi0.out.1 Hi0.out.2.1 Hi0.out.2.2.1 Hi0.out.2.2.2 rfl (by decide) (.slice Av l.length cv) l.length (ints l) rfl Hall.out.2.1 ⟨w.heap.size, 0, none⟩ 1 1 [.int .i64 x] rfl rfl Hall.out.2.2.1 Hall.out.2.2.2.1 Hall.out.2.2.2.2.1 Hall.out.2.2.2.2.2.1 Hall.out.2.2.2.2.2.2.1 (fun v1 w2 hown1 hg1 hat1 => ?_); obtain ⟨A1, c1, rfl, _, _⟩ := own_form hown1; have hbk := Hall.out.1.grown hg1 (fun e => Hall.out.2.2.2.2.2.2.2 e.symm); have hc2 := hbk.cell 1; have hf2 := hbk.frozen 1; simp only [List.getElem?_cons_succ, List.getElem?_cons_zero] at hc2; have Hown1 := Lib.hid hown1; have Hg1 := Lib.hid hg1; have Hat1 := Lib.hid hat1; have Hbk := Lib.hid hbk; clear hown1 hg1 hat1 hbk)
  all_goals go_wp2
  all_goals (
    go_end0
    have hg0 := Hg1.out
    have h := H.out
    have hsz : w.heap.size ≤ w2.heap.size := by
      have := hg0.size
      have e1 : ((w.alloc (.cells #[.int .i64 x] 3)).drew).heap.size = w.heap.size + 1 := World.size_alloc ..
      omega
    have hfarq : ∀ k, k < w.heap.size → k ≠ q → some k ≠ (Value.slice Av l.length cv).ownBlock → (w2.setCell ⟨q, 1, none⟩ (.slice A1 (l.length + 1) c1)).heap[k]? = w.heap[k]? := fun k hk h1 h2 => by
      rw [Below.heap_setCell _ _ _ _ h1, hg0.block k (Nat.lt_of_lt_of_le hk (by have e1 : ((w.alloc (.cells #[.int .i64 x] 3)).drew).heap.size = w.heap.size + 1 := World.size_alloc ..; omega)) h2]
      exact Below.heap_alloc w _ k hk
    refine ⟨rfl, .slice A1 (l.length + 1) c1, ?_, ⟨hg0.os, hg0.tape, hg0.output, ?_, hfarq, ?_⟩⟩
    · refine ⟨Hbk.out.set_ 1 _, ?_, h.jobs.keep fun p hp => World.cell?_of_block ?_, h.few, ?_, ?_, h.qlow, h.blow, ?_⟩
      · have := ownsRow_setCell_below Hown1.out (a := ⟨q, 1, none⟩) h.qlow (.slice A1 (l.length + 1) c1)
        simpa [ints] using this
      · refine hfarq p.block (by have := h.bound; have := h.qlow; have := h.blow; omega) (by have := h.blow; omega) (fun e => ?_)
        have := h.own.lt _ e.symm
        have := h.qlow; have := h.blow
        omega
      · simp; omega
      · intro a ha
        rcases List.mem_append.1 ha with ha | ha
        · exact h.inR a ha
        · simp at ha; subst ha; exact Hx.out
      · have := h.bound
        show base ≤ (w2.setCell _ _).heap.size
        simp [World.setCell]
        omega
    · simpa [World.setCell] using hsz
    · rcases Hat1.out with e | e
      · exact .inl e
      · refine .inr ⟨_, e, ?_⟩
        have e1 : ((w.alloc (.cells #[.int .i64 x] 3)).drew).heap.size = w.heap.size + 1 := World.size_alloc ..
        omega)
end Go.Proofs.Ytnepaaheiakimaa
