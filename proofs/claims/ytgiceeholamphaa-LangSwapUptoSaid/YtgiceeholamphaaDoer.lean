/- The contract of doer.block: it does what a program means. No conditions but that what is read is there, is a program, can be counted, and that its names are in the map. -/
import Derived.Test.YtgiceeholamphaaRun
namespace Go.Proofs.Ytgiceeholamphaa
open Go.ChangeShapes Go.WideShapes Go.ChangeAt Go.RowKit Go.Maps

section
variable {w : World} {o : Oper} {a : Act} {Q : Exit → Act → World → Prop} {e : TypeId} {b N : Nat} {f : ByteArray → Option Int}
/-- m[s]. -/
theorem run_map_get (he : Try.prog.underlying e = some (.int .i64)) (hz : (zeroValue e).run Try.prog w = .ok (.int .i64 0) w) {t : TypeId} (ht : Try.prog.underlying t = some (.map 9 e))
    (hown : MapAt w e b N f) (s : ByteArray) (hs : s.size ≤ maxLen) : (Instr.lookup t (.map (some b)) (.string s) false).run Try.prog w = .ok (.int .i64 ((f s).getD 0)) w := by
  obtain ⟨D, h, h'⟩ := hown
  obtain ⟨c, hrun, hat, _⟩ := h.lookup_int kS ht he hz (WideMaps.keyOf_string_mk Try.underlying9 hs)
  have hat2 := (h'.get s).symm.trans hat
  have hc := (Lit.int.inj (DataW.lit.inj hat2)).2
  subst hc
  exact hrun
/-- m[s] = v. -/
theorem run_map_set (he : Try.prog.underlying e = some (.int .i64)) {t : TypeId} (ht : Try.prog.underlying t = some (.map 9 e))
    (hown : MapAt w e b N f) (hN : N < maxLen) (s : ByteArray) (hs : s.size ≤ maxLen) (c : Int) (hw : (Lit.int .i64 c).wf = true) :
    ∃ w', (Instr.mapUpdate t (.map (some b)) (.string s) (.int .i64 c)).run Try.prog w = .ok () w' ∧ MapAt w' e b (if (f s).isSome then N else N + 1) (upd f s c) ∧ w.grownBy w' (some b) := by
  obtain ⟨D, h, h'⟩ := hown
  obtain ⟨w', hrun, h1, h2⟩ := h.update kS ht hN (WideMaps.keyOf_string_mk Try.underlying9 hs) (plainElem_int he hw)
  refine ⟨w', hrun, ⟨_, ?_, h'.put h.isMap s c⟩, h2⟩
  split
  · rename_i hf
    have hsz := size_put (k := keyL s) (h.tidy kS) (.lit (.int .i64 c))
    rw [h'.has s, if_pos hf] at hsz
    have hle := h.size_le
    have h1 : w'.ownsMap Try.prog 9 (plainElem Try.prog e) b (N + 1) (D.put (keyL s) (.lit (.int .i64 c))) := h1
    obtain ⟨es, clock, g1, g2, g3, g4⟩ := h1
    refine ⟨es, clock, g1, g2, ?_, g4⟩
    rw [g4, Maps.size_eq, Go.length_read] at hsz
    omega
  · exact h1
theorem upon_of_run {x : Sem Unit} {w' : World} {next : Act → World → Prop} (hrun : x.run Try.prog w = .ok () w') (hK : next (a.put o.dst undef) w') :
    Oper.upon Try.prog o a next Q ((x.run Try.prog w).andThen fun _ w' => Result.ok Next.skip w') := by rw [hrun]; exact hK
end
theorem KeptBut.ofBelow {w w' : World} (h : Below w.heap.size w w') (bs : List Nat) : KeptBut w w' bs := ⟨h.os, h.tape, h.output, h.size, fun i hi _ => h.block i hi⟩
theorem KeptBut.set_ (w : World) {p : Addr} {bs : List Nat} (hp : p.block ∈ bs) (u : Value) : KeptBut w (w.setCell p u) bs :=
  ⟨rfl, rfl, rfl, by simp [World.setCell], fun i _ hn => Below.heap_setCell w p u i (fun e => hn (e ▸ hp))⟩
theorem KeptBut.drewN {w w' : World} {bs : List Nat} (h : KeptBut w w' bs) (n : Nat) : KeptBut w (w'.drewN n) bs := ⟨h.os, h.tape, h.output, h.size, h.block⟩
theorem MapAt.wf {w : World} {b N : Nat} {f : ByteArray → Option Int} (h : MapAt w 2 b N f) {s : ByteArray} (hs : s.size ≤ maxLen) : (Lit.int .i64 ((f s).getD 0)).wf = true := by
  obtain ⟨D, h, h'⟩ := h
  obtain ⟨c, _, hat, hw⟩ := h.lookup_int kS Try.underlying40 Try.underlying2 (zero_int64 w) (WideMaps.keyOf_string_mk Try.underlying9 hs)
  have hat2 := (h'.get s).symm.trans hat
  rw [(Lit.int.inj (DataW.lit.inj hat2)).2]
  exact hw
theorem ev_wf {f : ByteArray → Option Int} (hf : ∀ s : ByteArray, s.size ≤ maxLen → (Lit.int .i64 ((f s).getD 0)).wf = true) (e : ExprR) (hA : AllE e) : (Lit.int .i64 (e.ev f)).wf = true := by
  have hn := hA.name
  rw [e.ev_eq]
  rcases hA.ok with h | h | h
  · rw [if_pos h.1]
    exact WalkArith.wf_i64 (by omega)
  · rw [if_neg (by omega), if_pos h.1]
    exact hf _ (named_small (hn h.1))
  · rw [if_neg (by omega), if_neg (by omega)]
    have hl := h.2.2.2.2
    match hk : e.kids, hl with
    | [x, y], _ =>
      simp only [evs, opE]
      split
      · exact wrap64_wf _
      · split <;> exact wrap64_wf _
/-- What a run leaves: the doer's steps, the map. -/
def Ran (w' : World) (gd bm N : Nat) (mo : Int) (b : Bool) : Option St → Prop
  | some s => b = true ∧ DoAt w' gd bm (mo - s.2) mo ∧ MapAt w' 2 bm N s.1
  | none => b = false
def DPost (r : Option St) (gd bm N : Nat) (mo : Int) (w : World) (E : Ending) (w' : World) : Prop :=
  ∃ b : Bool, E = .returned (.bool b) ∧ KeptBut w w' [gd, bm] ∧ Ran w' gd bm N mo b r
theorem RowB.one {w : World} {B : Nat} {A : Option Addr} {x : BlockR} {l : List BlockR} (h : RowB w B A (x :: l)) : RowB w B A [x] := fun _ => by
  obtain ⟨b, o, e, hb, hc⟩ := h (by simp)
  refine ⟨b, o, e, hb, fun i hi => ?_⟩
  obtain rfl : i = 0 := by simpa using hi
  exact hc 0 (by simp)
theorem RowB.tail {w : World} {B b o : Nat} {x : BlockR} {l : List BlockR} (h : RowB w B (some ⟨b, o, none⟩) (x :: l)) : RowB w B (some ⟨b, o + 1, none⟩) l := fun _ => by
  obtain ⟨b', o', e, hb, hc⟩ := h (by simp)
  injection e with e
  injection e with e1 e2
  subst e1 e2
  refine ⟨b, o + 1, rfl, hb, fun i hi => ?_⟩
  have := hc (i + 1) (by simpa using hi)
  rw [show o + 1 + i = o + (i + 1) by omega]
  exact this
theorem runB_one (b : BlockR) (st : St) : runB [b] st = runS b.l st := by
  rw [runB_cons, runB_nil]
  cases runS b.l st <;> rfl
theorem run_then (x : StatR) (st : St) (hk : x.kind = 3) (hl : st.2 ≠ 0) (h : 0 < x.e.ev st.1) : x.run st = headRun x.blocks (st.1, st.2 - 1) := by
  rw [x.run_eq, if_pos (by omega), if_neg hl, if_neg (by omega), if_neg (by omega), if_pos h]
theorem run_else (x : StatR) (st : St) (hk : x.kind = 3) (hl : st.2 ≠ 0) (h : ¬ 0 < x.e.ev st.1) : x.run st = tailRun x.blocks (st.1, st.2 - 1) := by
  rw [x.run_eq, if_pos (by omega), if_neg hl, if_neg (by omega), if_neg (by omega), if_neg h]
theorem run_par (x : StatR) (st : St) (hk : x.kind = 5) : x.run st = runB x.blocks st := by rw [x.run_eq, if_neg (by omega), if_neg (by omega)]
theorem run_loop (x : StatR) (st : St) (hk : x.kind = 4) : x.run st = iterO (headRun x.blocks) x.n.toNat st := by rw [x.run_eq, if_neg (by omega), if_pos (by omega)]
theorem iter_none {g : St → Option St} {st : St} {n m : Nat} (h : iterO g n st = none) (hn : n ≤ m) : iterO g m st = none := by
  rw [show m = n + (m - n) by omega, iter_add, h]
  rfl
theorem iter_still {g : St → Option St} {st s : St} {n m : Nat} (h : iterO g n st = some s) (hs : g s = some s) (hn : n ≤ m) : iterO g m st = some s := by
  rw [show m = n + (m - n) by omega, iter_add, h]
  exact iter_same hs _
/-- No slice of blocks is longer than its room. -/
inductive CapS : StatR → Prop
  | mk (x : StatR) (cap : x.blocks.length ≤ x.bc) (each : ∀ b ∈ x.blocks, ∀ y ∈ b.l, CapS y) : CapS x
def CapL (l : List StatR) : Prop := ∀ x ∈ l, CapS x
theorem CapS.cap {x : StatR} (h : CapS x) : x.blocks.length ≤ x.bc := by cases h with | mk _ r _ => exact r
theorem CapS.in_ {x : StatR} (h : CapS x) {b : BlockR} (hb : b ∈ x.blocks) : CapL b.l := by cases h with | mk _ _ r => exact r b hb
/-- doer.block for programs of fewer nodes. -/
def DBlockC (n : Nat) : Prop := ∀ (k : BlockR) (w : World) (B gd bm N : Nat) (mo : Int) (st : St), nodesS k.l < n → RdB w B k → AllL k.l → CapL k.l → B ≤ gd → B ≤ bm → gd ≠ bm →
    DoAt w gd bm (mo - st.2) mo → MapAt w 2 bm N st.1 → N < maxLen → Dom st.1 (wrS k.l) → (st.2 : Int) ≤ mo → mo ≤ 9223372036854775807 →
    Calls Try.prog 12 #[.pointer (some ⟨gd, 0, none⟩), k.val] w (DPost (runS k.l st) gd bm N mo w)
theorem runS_take {l : List StatR} {q : Nat} (hq : q < l.length) (st : St) : runS (l.take (q + 1)) st = (runS (l.take q) st).bind (l[q]).run := by
  rw [take_snocA hq, runS_append]
  congr 1
  funext s
  rw [runS_cons, runS_nil]
  cases (l[q]).run s <;> rfl
theorem runS_none {l : List StatR} {q : Nat} {st : St} (h : runS (l.take q) st = none) : runS l st = none := by
  have e := List.take_append_drop q l
  rw [← e, runS_append, h]
  rfl
theorem AllS.down {l : List StatR} {st st' : St} (hd : Dom st.1 (wrS l)) (h : runS l st = some st') : Down st st' := runS_down l (fun x _ => run_down x) st st' hd h
set_option maxRecDepth 100000 in
set_option maxHeartbeats 8000000 in
theorem dblock_step (n : Nat) (ih : DBlockC n) : DBlockC (n + 1) := by
  intro k w B gd bm N mo st hN hR hA hCp hB1 hB2 hne hD hM hNm hdom hst hmo
  obtain ⟨A, c, L⟩ := k
  simp only [BlockR.l] at hN hA hdom hCp
  have HCp := Lib.hid hCp; clear hCp
  have hdl := hD.lt
  have hml := hM.lt
  have hrow : RowS w B A L := hR.row
  have heach : ∀ x ∈ L, RdS w B x := hR.each
  have hfit : L.length ≤ 1048576 := hR.fits
  have H := Lib.hid (And.intro ih (And.intro hN (And.intro hrow (And.intro heach (And.intro hA (And.intro hD (And.intro hM hdom))))))); clear ih hN hrow heach hA hD hM hdom hR
  show Calls Try.prog 12 #[.pointer (some ⟨gd, 0, none⟩), .slice A L.length c] w _
  go_enter Try.func12, Try.ntmps12
  go_wp2_with fail
  go_loopg [14] L.length (fun gk i wr => ∃ (q : Nat) (s : St), gk + q = L.length ∧ i = .int .i64 q ∧ runS (L.take q) st = some s ∧ DoAt wr gd bm (mo - s.2) mo ∧ MapAt wr 2 bm N s.1 ∧ KeptBut w wr [gd, bm])
  case atStart => exact ⟨0, st, by omega, rfl, by rw [List.take_zero, runS_nil], H.out.2.2.2.2.2.1, H.out.2.2.2.2.2.2.1, KeptBut.refl _ _⟩
  case round =>
    obtain ⟨q, s, hgq, rfl, hrun, hd, hm, hk⟩ := hrel
    by_cases hq : q < L.length
    · obtain ⟨b, o, rfl, hbB, hx⟩ := H.out.2.2.1.at_ (i := q) hq
      have hz := hk.size
      have hx := hx.keep (w' := wr) hbB fun p hp => hk.cell (by omega) (by simp; omega)
      have hRx := H.out.2.2.2.1 _ (List.getElem_mem hq)
      have hAx := H.out.2.2.2.2.1 _ (List.getElem_mem hq)
      have hCx := HCp.out _ (List.getElem_mem hq)
      have hdn := AllS.down (l := L.take q) (H.out.2.2.2.2.2.2.2.sub fun t ht => by
        have e := List.take_append_drop q L
        rw [← e, wrS, assignsS_append, addsS_append]
        simp only [wrS, List.mem_append] at ht ⊢
        rcases ht with ht | ht
        · exact .inl (.inl ht)
        · exact .inr (.inl ht)) hrun
      have hdx : Dom s.1 ((L[q]).assigns ++ (L[q]).adds) := (H.out.2.2.2.2.2.2.2.sub (wrS_mem (List.getElem_mem hq))).down hdn
      have hnx : (L[q]).nodes ≤ nodesS L := nodesS_le (List.getElem_mem hq)
      have hnext := runS_take hq st
      rw [hrun] at hnext
      have hstop : (L[q]).run s = none → runS L st = none := fun h => runS_none (q := q + 1) (by rw [hnext]; exact h)
      have hsle : (s.2 : Int) ≤ mo := by have := hdn.le; omega
      obtain ⟨x, hxe⟩ : ∃ x, L[q] = x := ⟨_, rfl⟩
      rw [hxe] at hx hRx hAx hCx hdx hnx hnext hstop
      have hrx := x.run_eq s
      have hfx : x.blocks.length ≤ 1048576 := hRx.fits
      have hnodes := x.nodes_eq
      have hnm := hAx.name
      obtain ⟨f, lf⟩ := s
      simp only at hd hm hsle
      obtain ⟨kind, name, ⟨ek, en, ename, eA, ec, ekids⟩, xn, xA, xc, blocks⟩ := x
      obtain ⟨x0, x1, x2, x3, x4, x5, x6, x7⟩ := hx
      simp only [StatR.kind, StatR.name, StatR.e, StatR.n, StatR.bA, StatR.bc, StatR.blocks, ExprR.kind, ExprR.n, ExprR.name, ExprR.sA, ExprR.sc, ExprR.kids] at x0 x1 x2 x3 x4 x5 x6 x7 hrx hfx hnodes hnm
      have hbn : ¬ (b = wr.heap.size) := by omega
      have c1 := hd.cell 1
      have c2 := hd.cell 2
      have c0 := hd.cell 0
      have f1 := hd.frozen 1
      simp at c0 c1 c2
      have hgl : gd < wr.heap.size := by omega
      have hbml : bm < wr.heap.size := by omega
      have HCx := Lib.hid hCx; clear hCx
      have HE := Lib.hid (And.intro hrun (And.intro hd (And.intro hm (And.intro hk (And.intro hRx (And.intro hAx (And.intro hdx (And.intro hnx (And.intro hnext (And.intro hstop (And.intro hrx (And.intro hnodes hxe)))))))))))); clear hrun hd hm hk hRx hAx hdx hnx hnext hstop hrx hnodes hxe hdn
      go_upto_if 20 with (fail)
      go_cut [] (fun wc => (kind ≤ 3 → lf ≠ 0) ∧ DoAt wc gd bm (mo - ((if kind ≤ 3 then lf - 1 else lf : Nat) : Int)) mo ∧ MapAt wc 2 bm N f ∧ KeptBut w wc [gd, bm] ∧ Blk wc wr.heap.size 34 (StatR.cells (.mk kind name (.mk ek en ename eA ec ekids) xn xA xc blocks)))
      case first => as_aux_lemma =>
        have hd := HE.out.2.1.alloc (.cells (StatR.cells (.mk kind name (.mk ek en ename eA ec ekids) xn xA xc blocks)).toArray 34)
        have hm := HE.out.2.2.1.alloc (.cells (StatR.cells (.mk kind name (.mk ek en ename eA ec ekids) xn xA xc blocks)).toArray 34)
        have hk := HE.out.2.2.2.1.trans (KeptBut.alloc wr (.cells (StatR.cells (.mk kind name (.mk ek en ename eA ec ekids) xn xA xc blocks)).toArray 34) _)
        have hsx := Blk.new wr 34 (StatR.cells (.mk kind name (.mk ek en ename eA ec ekids) xn xA xc blocks))
        have HF := Lib.hid (And.intro hd (And.intro hm (And.intro hk hsx))); clear hd hm hk hsx
        by_cases h3 : kind ≤ 3
        · by_cases h0 : lf = 0
          · have hst := HE.out.2.2.2.2.2.2.2.2.2.1 (HE.out.2.2.2.2.2.2.2.2.2.2.1.trans ((if_pos h3).trans (if_pos h0)))
            have HS := Lib.hid hst; clear hst
            subst h0
            go_wp2_with fail
            go_quiet (fail)
            go_wp2_with fail
            go_ret
            refine ⟨false, rfl, HF.out.2.2.1.drewN _, ?_⟩
            show Ran _ gd bm N mo false (runS L st)
            rw [HS.out]
            rfl
          · have hne1 : ¬ (mo - (lf : Int) = mo) := by omega
            go_wp2_with fail
            go_quiet (fail)
            go_wp2_with fail
            go_meet
            case rel =>
              refine ⟨fun _ => h0, ?_, HF.out.2.1.setCell (fun e => hne e.symm) _, (HF.out.2.2.1.drewN _).trans (KeptBut.set_ _ (by simp) _), HF.out.2.2.2.far (by simp; omega) _⟩
              have h := HF.out.1.set_ 1 (.int .i64 (mo - (lf : Int) + 1))
              rw [if_pos h3, show mo - ((lf - 1 : Nat) : Int) = mo - (lf : Int) + 1 by omega]
              exact h
        · go_wp2_with fail
          go_meet
          case rel => exact ⟨fun h => absurd h (by omega), by rw [if_neg (by omega)]; exact HF.out.1, HF.out.2.1, HF.out.2.2.1, HF.out.2.2.2⟩
      case rest =>
        obtain ⟨hl0, hd, hm, hk, hsx⟩ := hcut
        have hlr := hsx.lt
        have hz1 := hd.lt
        have hz2 := hm.lt
        have hzw := hk.size
        have v0 := hsx.cell 0
        have v1 := hsx.cell 1
        have v2 := hsx.cell 2
        have v3 := hsx.cell 3
        have v4 := hsx.cell 4
        have v5 := hsx.cell 5
        have v6 := hsx.cell 6
        have v7 := hsx.cell 7
        have d0 := hd.cell 0
        have d1 := hd.cell 1
        have d2 := hd.cell 2
        simp [StatR.cells, StatR.kind, StatR.name, StatR.e, StatR.n, StatR.bA, StatR.bc, StatR.blocks, ExprR.kind, ExprR.n, ExprR.name, ExprR.sA, ExprR.sc, ExprR.kids] at v0 v1 v2 v3 v4 v5 v6 v7 d0 d1 d2
        clear x0 x1 x2 x3 x4 x5 x6 x7 c0 c1 c2 f1
        generalize hlx : (if kind ≤ 3 then lf - 1 else lf : Nat) = lx at *
        have hcall := fun (hk3 : kind ≤ 3) (W : World) (hb : Below wc.heap.size wc W) => value_any (.mk ek en ename eA ec ekids) W B gd bm N (mo - lx) mo f ((HE.out.2.2.2.2.1.e.keep (fun p hp => hk.cell (by omega) (by simp; omega))).under (hb.mono (by omega))) (HE.out.2.2.2.2.2.1.e hk3) (by have := hb.size; omega) (hd.below hb hz1) (hm.below hb hz2)
        have hwf : kind ≤ 3 → (Lit.int .i64 (ExprR.ev f (.mk ek en ename eA ec ekids))).wf = true := fun hk3 => ev_wf (fun s hs => hm.wf hs) _ (HE.out.2.2.2.2.2.1.e hk3)
        have hsub : ∀ bb ∈ blocks, ∀ (W : World) (s : St), KeptBut w W [gd, bm] → DoAt W gd bm (mo - s.2) mo → MapAt W 2 bm N s.1 → Down (f, lf) s →
            Calls Try.prog 12 #[.pointer (some ⟨gd, 0, none⟩), bb.val] W (DPost (runS bb.l s) gd bm N mo W) := fun bb hb W s hkW hDW hMW hdn =>
          H.out.1 bb W B gd bm N mo s (by
            have h1 := nodesB_le hb
            have h4 := HE.out.2.2.2.2.2.2.2.2.2.2.2.1
            rw [bb.nodes_eq] at h1
            have h2 := HE.out.2.2.2.2.2.2.2.1
            have h3 := H.out.2.1
            omega) ((HE.out.2.2.2.2.1.block hb).keep fun p hp => hkW.cell (by omega) (by simp; omega)) (fun y hy => HE.out.2.2.2.2.2.1.in_ hb hy) (HCx.out.in_ hb) hB1 hB2 hne hDW hMW hNm
            ((HE.out.2.2.2.2.2.2.1.down hdn).sub fun t ht => wr_blocks t (wrB_mem hb t ht)) (by have := hdn.le; simp only at this; omega) hmo
        have HSub := Lib.hid hsub; clear hsub
        have HC := Lib.hid (And.intro hl0 (And.intro hd (And.intro hm (And.intro hk (And.intro hsx (And.intro hlx (And.intro hcall hwf))))))); clear hl0 hd hm hk hsx hlx hcall hwf
        go_upto_block 2 with (fail)
        go_cut [7] (fun s7 wz => ∃ (tA : Option Addr) (tc : Nat) (todo : List BlockR) (s1 : St), s7 = .slice tA todo.length tc ∧ RowB w B tA todo ∧ (∀ b ∈ todo, b ∈ blocks) ∧ DoAt wz gd bm (mo - s1.2) mo ∧ MapAt wz 2 bm N s1.1 ∧ KeptBut w wz [gd, bm] ∧ todo.length ≤ 1048576 ∧ StatR.run (.mk kind name (.mk ek en ename eA ec ekids) xn xA xc blocks) (f, lf) = runB todo s1 ∧ Down (f, lf) s1)
        case first => as_aux_lemma =>
          have hok := HE.out.2.2.2.2.2.1.ok
          simp only [okS, StatR.kind, StatR.name, StatR.e, StatR.n, StatR.blocks] at hok
          have hrow := HE.out.2.2.2.2.1.row
          rcases hok with ⟨h12, hb0, hx0, hbl⟩ | ⟨h3, h⟩ | ⟨h4, h⟩ | ⟨h5, h⟩
          · have hs := named_small (hnm (by omega))
            have hfs : (f name).isSome = true := HE.out.2.2.2.2.2.2.1 name (by rcases h12 with rfl | rfl <;> simp [StatR.assigns, StatR.adds])
            have hbl : blocks = [] := List.length_eq_zero_iff.1 hbl
            have HS := Lib.hid (And.intro hfs (And.intro hbl (And.intro hrow (And.intro hb0 hx0)))); clear hfs hbl hrow hb0 hx0 hnm
            rcases h12 with rfl | rfl
            · go_wp2_with fail
              go_region_held3 (fun w' => w'.cell? ⟨gd, 0, none⟩ = some (.map (some bm)) ∧ w'.cell? ⟨wr.heap.size, 1, none⟩ = some (.string name) ∧ w'.cell? ⟨wr.heap.size, 2, none⟩ = some (.int .i64 ek) ∧ w'.cell? ⟨wr.heap.size, 3, none⟩ = some (.int .i64 en) ∧ w'.cell? ⟨wr.heap.size, 4, none⟩ = some (.string ename) ∧ w'.cell? ⟨wr.heap.size, 5, none⟩ = some (.slice eA ekids.length ec)) (go_keep) (first
                | (go_at_call 22; (
                    refine (show Calls _ _ _ _ _ from HC.out.2.2.2.2.2.2.1 (by decide) _ (Below.refl _ _).drew).mono ?_
                    rintro E w2 ⟨rfl, hb2'⟩
                    have hb2 : Below wc.heap.size wc w2 := ((Below.refl _ wc).drew).trans hb2'
                    clear hb2'
                    have g0 : w2.cell? ⟨gd, 0, none⟩ = some (.map (some bm)) := (hb2.cell (p := ⟨gd, 0, none⟩) hz1).trans d0
                    have g1 : w2.cell? ⟨wr.heap.size, 1, none⟩ = some (.string name) := (hb2.cell (p := ⟨wr.heap.size, 1, none⟩) hlr).trans v1
                    have g2 : w2.cell? ⟨wr.heap.size, 2, none⟩ = some (.int .i64 ek) := (hb2.cell (p := ⟨wr.heap.size, 2, none⟩) hlr).trans v2
                    have g3 : w2.cell? ⟨wr.heap.size, 3, none⟩ = some (.int .i64 en) := (hb2.cell (p := ⟨wr.heap.size, 3, none⟩) hlr).trans v3
                    have g4 : w2.cell? ⟨wr.heap.size, 4, none⟩ = some (.string ename) := (hb2.cell (p := ⟨wr.heap.size, 4, none⟩) hlr).trans v4
                    have g5 : w2.cell? ⟨wr.heap.size, 5, none⟩ = some (.slice eA ekids.length ec) := (hb2.cell (p := ⟨wr.heap.size, 5, none⟩) hlr).trans v5
                    have hd2 : DoAt w2 gd bm (mo - lx) mo := HC.out.2.1.below hb2 hz1
                    have hs2 := HC.out.2.2.2.2.1.below hb2 hlr
                    obtain ⟨w3, hrun3, hm3, hg3⟩ := run_map_set Try.underlying2 Try.underlying40 (HC.out.2.2.1.below (hb2) hz2) hNm name hs _ (HC.out.2.2.2.2.2.2.2 (by decide))
                    have g0 : w3.cell? ⟨gd, 0, none⟩ = some (.map (some bm)) := ((hd2.grown hg3 (by simp; omega)).cell 0).trans rfl
                    have g1 : w3.cell? ⟨wr.heap.size, 1, none⟩ = some (.string name) := ((hs2.grown hg3 (by simp; omega)).cell 1).trans rfl
                    have g2 : w3.cell? ⟨wr.heap.size, 2, none⟩ = some (.int .i64 ek) := ((hs2.grown hg3 (by simp; omega)).cell 2).trans rfl
                    have g3 : w3.cell? ⟨wr.heap.size, 3, none⟩ = some (.int .i64 en) := ((hs2.grown hg3 (by simp; omega)).cell 3).trans rfl
                    have g4 : w3.cell? ⟨wr.heap.size, 4, none⟩ = some (.string ename) := ((hs2.grown hg3 (by simp; omega)).cell 4).trans rfl
                    have g5 : w3.cell? ⟨wr.heap.size, 5, none⟩ = some (.slice eA ekids.length ec) := ((hs2.grown hg3 (by simp; omega)).cell 5).trans rfl
                    have HB2 := Lib.hid (And.intro hb2 (And.intro hm3 hg3)); clear hb2 hm3 hg3 hd2 hs2)))
              go_wp2_with fail
              go_meet
              case rel =>
                have hl : lf - 1 = lx := (if_pos (by decide)).symm.trans HC.out.2.2.2.2.2.1
                have hrun1 : StatR.run (.mk 1 name (.mk ek en ename eA ec ekids) xn xA xc blocks) (f, lf) = some (upd f name (ExprR.ev f (.mk ek en ename eA ec ekids)), lx) := by
                  rw [← hl]
                  exact HE.out.2.2.2.2.2.2.2.2.2.2.1.trans ((if_pos (by decide)).trans ((if_neg (HC.out.1 (by decide))).trans (if_pos (by trivial))))
                have hM := HB2.out.2.1
                rw [if_pos HS.out.1] at hM
                refine ⟨xA, xc, [], (upd f name (ExprR.ev f (.mk ek en ename eA ec ekids)), lx), by simp, RowB.nil _ _ _, by simp, (HC.out.2.1.below HB2.out.1 hz1).grown HB2.out.2.2 (by simp; omega), hM, HC.out.2.2.2.1.trans ((KeptBut.ofBelow HB2.out.1 _).trans (KeptBut.grown HB2.out.2.2 (fun k e => by cases e; simp))), by simp, ?_, run_down _ _ _ HE.out.2.2.2.2.2.2.1 hrun1⟩
                rw [runB_nil]
                exact hrun1
            · go_wp2_with (go_at_call 22; (
                refine (show Calls _ _ _ _ _ from HC.out.2.2.2.2.2.2.1 (by decide) _ (Below.refl _ _)).mono ?_
                rintro E w2 ⟨rfl, hb2⟩
                have g0 : w2.cell? ⟨gd, 0, none⟩ = some (.map (some bm)) := (hb2.cell (p := ⟨gd, 0, none⟩) hz1).trans d0
                have g1 : w2.cell? ⟨wr.heap.size, 1, none⟩ = some (.string name) := (hb2.cell (p := ⟨wr.heap.size, 1, none⟩) hlr).trans v1
                have hd2 : DoAt w2 gd bm (mo - lx) mo := HC.out.2.1.below hb2 hz1
                have hs2 := HC.out.2.2.2.2.1.below hb2 hlr
                have hget := run_map_get (w := w2.drew) Try.underlying2 (zero_int64 _) Try.underlying40 (HC.out.2.2.1.below hb2 hz2).drew name hs
                obtain ⟨w3, hrun3, hm3, hg3⟩ := run_map_set (w := w2.drew) Try.underlying2 Try.underlying40 (HC.out.2.2.1.below hb2 hz2).drew hNm name hs (IntKind.i64.wrap ((f name).getD 0 + (ExprR.ev f (.mk ek en ename eA ec ekids)))) (by rw [IntWalk.i64_left]; exact wrap64_wf _)
                have e0 : w3.cell? ⟨gd, 0, none⟩ = some (.map (some bm)) := ((hd2.drew.grown hg3 (by simp; omega)).cell 0).trans rfl
                have e1 : w3.cell? ⟨wr.heap.size, 1, none⟩ = some (.string name) := ((hs2.drew.grown hg3 (by simp; omega)).cell 1).trans rfl
                have HB2 := Lib.hid (And.intro hb2.drew (And.intro hm3 hg3)); clear hb2 hm3 hg3 hd2 hs2))
              go_region_held3 (fun w' => w'.cell? ⟨gd, 0, none⟩ = some (.map (some bm)) ∧ w'.cell? ⟨wr.heap.size, 1, none⟩ = some (.string name)) (go_keep) (fail)
              go_wp2_with fail
              go_meet
              case rel =>
                have hl : lf - 1 = lx := (if_pos (by decide)).symm.trans HC.out.2.2.2.2.2.1
                have hrun1 : StatR.run (.mk 2 name (.mk ek en ename eA ec ekids) xn xA xc blocks) (f, lf) = some (upd f name (IntKind.i64.wrap ((f name).getD 0 + (ExprR.ev f (.mk ek en ename eA ec ekids)))), lx) := by
                  rw [← hl, IntWalk.i64_left]
                  exact HE.out.2.2.2.2.2.2.2.2.2.2.1.trans ((if_pos (by decide)).trans ((if_neg (HC.out.1 (by decide))).trans ((if_neg (by decide)).trans (if_pos (by trivial)))))
                have hM := HB2.out.2.1
                rw [if_pos HS.out.1] at hM
                refine ⟨xA, xc, [], (upd f name (IntKind.i64.wrap ((f name).getD 0 + (ExprR.ev f (.mk ek en ename eA ec ekids)))), lx), by simp, RowB.nil _ _ _, by simp, (HC.out.2.1.below HB2.out.1 hz1).grown HB2.out.2.2 (by simp; omega), hM, HC.out.2.2.2.1.trans ((KeptBut.ofBelow HB2.out.1 _).trans (KeptBut.grown HB2.out.2.2 (fun k e => by cases e; simp))), by simp, ?_, run_down _ _ _ HE.out.2.2.2.2.2.2.1 hrun1⟩
                rw [runB_nil]
                exact hrun1
          · obtain ⟨hn0, hx0, hb1, hb2⟩ := h
            subst h3
            have hcap : blocks.length ≤ xc := HCx.out.cap
            obtain ⟨xb, xo, hxA, hxB, _⟩ := hrow.at_ (i := 0) hb1
            simp only [StatR.bA] at hxA
            subst hxA
            obtain ⟨b1, rest, rfl⟩ : ∃ b1 rest, blocks = b1 :: rest := by
              cases blocks with
              | nil => simp at hb1
              | cons b1 rest => exact ⟨b1, rest, rfl⟩
            have HS := Lib.hid hrow; clear hrow hnm hn0
            simp only [List.length_cons] at hb1 hb2 hcap v7
            by_cases h0 : 0 < ExprR.ev f (.mk ek en ename eA ec ekids)
            · have Hv := Lib.hid h0
              go_wp2_with (go_at_call 22; (
                refine (show Calls _ _ _ _ _ from HC.out.2.2.2.2.2.2.1 (by decide) _ (Below.refl _ _)).mono ?_
                rintro E w2 ⟨rfl, hb2⟩
                have g4 : w2.cell? ⟨wr.heap.size, 7, none⟩ = some (.slice (some ⟨xb, xo, none⟩) (rest.length + 1) xc) := (hb2.cell (p := ⟨wr.heap.size, 7, none⟩) hlr).trans v7
                have HB2 := Lib.hid hb2; clear hb2))
              go_meet
              case rel =>
                have hl : lf - 1 = lx := (if_pos (by decide)).symm.trans HC.out.2.2.2.2.2.1
                have hl0 := HC.out.1 (by decide)
                refine ⟨_, _, [b1], (f, lx), rfl, HS.out.one, (fun b hb => by simp at hb; simp [hb]), HC.out.2.1.below HB2.out hz1, HC.out.2.2.1.below HB2.out hz2, HC.out.2.2.2.1.trans (KeptBut.ofBelow HB2.out _), by first | omega | simp, ?_, ⟨by simp only; omega, fun e => by simp only at e; omega, fun _ => rfl⟩⟩
                rw [← hl]
                refine Eq.trans (run_then _ (f, lf) rfl hl0 Hv.out) (by show headRun (b1 :: rest) (f, lf - 1) = _; rw [headRun_cons]; exact (runB_one _ _).symm)

            have Hv := Lib.hid h0
            rcases Nat.lt_or_ge 1 xc with hx1 | hx1
            · go_wp2_with (go_at_call 22; (
                refine (show Calls _ _ _ _ _ from HC.out.2.2.2.2.2.2.1 (by decide) _ (Below.refl _ _)).mono ?_
                rintro E w2 ⟨rfl, hb2⟩
                have g4 : w2.cell? ⟨wr.heap.size, 7, none⟩ = some (.slice (some ⟨xb, xo, none⟩) (rest.length + 1) xc) := (hb2.cell (p := ⟨wr.heap.size, 7, none⟩) hlr).trans v7
                have HB2 := Lib.hid hb2; clear hb2))
              go_meet
              case rel =>
                have hl : lf - 1 = lx := (if_pos (by decide)).symm.trans HC.out.2.2.2.2.2.1
                have hl0 := HC.out.1 (by decide)
                refine ⟨_, _, rest, (f, lx), rfl, HS.out.tail, (fun b hb => List.mem_cons_of_mem _ hb), HC.out.2.1.below HB2.out hz1, HC.out.2.2.1.below HB2.out hz2, HC.out.2.2.2.1.trans (KeptBut.ofBelow HB2.out _), by first | omega | simp, ?_, ⟨by simp only; omega, fun e => by simp only at e; omega, fun _ => rfl⟩⟩
                rw [← hl]
                refine Eq.trans (run_else _ (f, lf) rfl hl0 (Int.not_lt.2 Hv.out)) (by show tailRun (b1 :: _) (f, lf - 1) = _; rw [tailRun_cons])

            · obtain rfl : xc = 1 := by omega
              obtain rfl : rest = [] := List.length_eq_zero_iff.1 (by omega)
              go_wp2_with (go_at_call 22; (
                refine (show Calls _ _ _ _ _ from HC.out.2.2.2.2.2.2.1 (by decide) _ (Below.refl _ _)).mono ?_
                rintro E w2 ⟨rfl, hb2⟩
                have g4 : w2.cell? ⟨wr.heap.size, 7, none⟩ = some (.slice (some ⟨xb, xo, none⟩) 1 1) := (hb2.cell (p := ⟨wr.heap.size, 7, none⟩) hlr).trans v7
                have HB2 := Lib.hid hb2; clear hb2))
              go_meet
              case rel =>
                have hl : lf - 1 = lx := (if_pos (by decide)).symm.trans HC.out.2.2.2.2.2.1
                have hl0 := HC.out.1 (by decide)
                refine ⟨_, _, [], (f, lx), rfl, RowB.nil _ _ _, by simp, HC.out.2.1.below HB2.out hz1, HC.out.2.2.1.below HB2.out hz2, HC.out.2.2.2.1.trans (KeptBut.ofBelow HB2.out _), by first | omega | simp, ?_, ⟨by simp only; omega, fun e => by simp only at e; omega, fun _ => rfl⟩⟩
                rw [← hl]
                refine Eq.trans (run_else _ (f, lf) rfl hl0 (Int.not_lt.2 Hv.out)) (by show tailRun (b1 :: _) (f, lf - 1) = _; rw [tailRun_cons])

          · obtain ⟨hn0, hx0, hx1, hbl, hno⟩ := h
            subst h4
            obtain ⟨xb, xo, hxA, hxB, hc0⟩ := hrow.at_ (i := 0) (by simp only [StatR.blocks]; omega)
            simp only [StatR.bA] at hxA
            subst hxA
            obtain ⟨b1, rfl⟩ : ∃ b1, blocks = [b1] := by
              match blocks, hbl with
              | [b1], _ => exact ⟨b1, rfl⟩
            simp only [StatR.blocks, List.getElem_cons_zero, Nat.add_zero] at hc0
            simp only [List.length_cons, List.length_nil] at v7
            have hl : lf = lx := (if_neg (by decide)).symm.trans HC.out.2.2.2.2.2.1
            subst hl
            clear hn0 hno hbl hnm hrow
            obtain ⟨K, rfl⟩ : ∃ K : Nat, xn = K := ⟨xn.toNat, by omega⟩
            obtain ⟨bA, bc, bl⟩ := b1
            obtain ⟨wo, rfl⟩ : ∃ wo : World, wo = wr := ⟨_, rfl⟩
            obtain ⟨gq, hgq'⟩ : ∃ gq, gq = gk := ⟨_, rfl⟩
            have HG := Lib.hid hgq'; clear hgq'
            go_wp2_with fail
            go_loopg [9, 88] K (fun gk s9 s88 wr => ∃ (p : Nat) (s : St), gk + p = K ∧ s88 = .int .i64 p ∧ iterO (headRun [BlockR.mk bA bc bl]) p (f, lf) = some s ∧ DoAt wr gd bm (mo - s.2) mo ∧ MapAt wr 2 bm N s.1 ∧ KeptBut wc wr [gd, bm] ∧ Down (f, lf) s)
            case atStart => exact ⟨0, (f, lf), by omega, rfl, rfl, HC.out.2.1, HC.out.2.2.1, KeptBut.refl _ _, Down.refl _⟩
            case round =>
              obtain ⟨p, s, hgp, rfl, hit, hdp, hmp, hkp, hdn⟩ := hrel
              have hkw := HC.out.2.2.2.1.trans hkp
              by_cases hp : p < K
              · have hp2 : (p : Int) < (K : Int) := by omega
                have e7 := (hkp.blk HC.out.2.2.2.2.1 (by simp; omega)).cell 7
                have e0 := hdp.cell 0
                have e1 := hdp.cell 1
                have ec : wr.cell? ⟨xb, xo, none⟩ = some (.slice bA bl.length bc) := (hkw.cell (p := ⟨xb, xo, none⟩) (by simp; omega) (by simp; omega)).trans hc0
                simp [StatR.cells, StatR.kind, StatR.name, StatR.e, StatR.n, StatR.bA, StatR.bc, StatR.blocks] at e0 e1 e7
                have hcall := HSub.out (.mk bA bc bl) (by simp) wr s hkw hdp hmp hdn
                have hstep := iter_succ (headRun [BlockR.mk bA bc bl]) p (f, lf)
                rw [hit] at hstep
                have H4 := Lib.hid (And.intro hit (And.intro hkp (And.intro hdn (And.intro hcall (And.intro hstep (And.intro hkw hdp)))))); clear hit hkp hdn hcall hstep hkw hdp hmp
                go_upto_if 100 with (go_at_call 12; (
                  refine (show Calls _ _ _ _ _ from H4.out.2.2.2.1).mono ?_
                  rintro E w5 ⟨bb, rfl, hk5, hr5⟩
                  have H5 := Lib.hid (And.intro hk5 hr5); clear hk5 hr5))
                have hz5 := H5.out.1.size
                have hzk := H4.out.2.1.size
                cases hrs : runS bl s with
                | none =>
                  have hbb : bb = false := by
                    have h := H5.out.2
                    rw [show runS (BlockR.mk bA bc bl).l s = none from hrs] at h
                    exact h
                  have hno : iterO (headRun [BlockR.mk bA bc bl]) (p + 1) (f, lf) = none := H4.out.2.2.2.2.1.trans (by show headRun [BlockR.mk bA bc bl] s = none; rw [headRun_cons]; exact hrs)
                  have hst := HE.out.2.2.2.2.2.2.2.2.2.1 ((run_loop _ (f, lf) rfl).trans (iter_none hno (by show p + 1 ≤ (K : Int).toNat; omega)))
                  have HN := Lib.hid hst; clear hst hno
                  subst hbb
                  go_wp2_with fail
                  go_ret
                  refine ⟨false, rfl, H4.out.2.2.2.2.2.1.trans H5.out.1, ?_⟩
                  show Ran _ gd bm N mo false (runS L st)
                  rw [HN.out]
                  rfl
                | some s2 =>
                  have hr := H5.out.2
                  rw [show runS (BlockR.mk bA bc bl).l s = some s2 from hrs] at hr
                  obtain ⟨hbb, hd5, hm5⟩ := hr
                  have hdn2 : Down s s2 := AllS.down (l := bl) ((HE.out.2.2.2.2.2.2.1.down H4.out.2.2.1).sub fun t ht => wr_blocks t (wrB_mem (b := .mk bA bc bl) (by simp [StatR.blocks]) t ht)) hrs
                  have hgr : headRun [BlockR.mk bA bc bl] s = some s2 := by rw [headRun_cons]; exact hrs
                  have e5 := hd5.cell 1
                  simp at e5
                  subst hbb
                  by_cases hs : s2.2 = s.2
                  · obtain rfl := hdn2.same hs
                    have HM := Lib.hid (And.intro hd5 (And.intro hm5 hgr)); clear hd5 hm5 hgr hdn2 hrs
                    go_wp2_with fail
                    go_meet
                    case rel => exact ⟨none, 0, [], s2, rfl, RowB.nil _ _ _, by simp, HM.out.1, HM.out.2.1, H4.out.2.2.2.2.2.1.trans H5.out.1, by simp, Eq.trans (run_loop _ (f, lf) rfl) (by rw [runB_nil]; exact iter_still H4.out.1 HM.out.2.2 (by show p ≤ (K : Int).toNat; omega)), H4.out.2.2.1⟩
                  · have hne1 : ¬ (mo - (s.2 : Int) = mo - (s2.2 : Int)) := by omega
                    have HM := Lib.hid (And.intro hd5 (And.intro hm5 (And.intro hgr hdn2))); clear hd5 hm5 hgr hdn2 hrs
                    go_wp2_with fail
                    go_roundg (gk - 1)
                    case measure => omega
                    case rel => exact ⟨p + 1, s2, by omega, by go_num, H4.out.2.2.2.2.1.trans HM.out.2.2.1, HM.out.1, HM.out.2.1, H4.out.2.1.trans H5.out.1, H4.out.2.2.1.trans HM.out.2.2.2⟩
              · obtain rfl : p = K := by omega
                have hp2 : ¬ ((p : Int) < (p : Int)) := by omega
                have H4 := Lib.hid (And.intro hit (And.intro hkp (And.intro hdn (And.intro hdp (And.intro hmp hkw))))); clear hit hkp hdn hdp hmp hkw
                go_wp2_with fail
                go_meet
                case rel => exact ⟨none, 0, [], s, rfl, RowB.nil _ _ _, by simp, H4.out.2.2.2.1, H4.out.2.2.2.2.1, H4.out.2.2.2.2.2, by simp, Eq.trans (run_loop _ (f, lf) rfl) (by rw [runB_nil]; show iterO (headRun [BlockR.mk bA bc bl]) (p : Int).toNat (f, lf) = some s; rw [Int.toNat_natCast]; exact H4.out.1), H4.out.2.2.1⟩
          · obtain ⟨hn0, hx0, hb1, hb2, hno⟩ := h
            subst h5
            have HS := Lib.hid hrow; clear hrow hnm hn0 hno
            go_wp2_with fail
            go_meet
            case rel =>
              have hl : lf = lx := (if_neg (by decide)).symm.trans HC.out.2.2.2.2.2.1
              refine ⟨_, _, blocks, (f, lx), rfl, HS.out, fun _ h => h, HC.out.2.1, HC.out.2.2.1, HC.out.2.2.2.1, hfx, ?_, ?_⟩
              · rw [← hl]
                exact run_par _ _ rfl
              · rw [← hl]
                exact Down.refl _
        case rest =>
          obtain ⟨tA, tc, todo, s1, rfl, hrow, hin, hdt, hmt, hkt, hlen, hrt, hdn⟩ := hcut
          clear v0 v1 v2 v3 v4 v5 v6 v7 d0 d1 d2 hnm
          have HT := Lib.hid (And.intro hrow (And.intro hin (And.intro hdt (And.intro hmt (And.intro hkt (And.intro hrt hdn)))))); clear hrow hin hdt hmt hkt hrt hdn
          obtain ⟨wo, rfl⟩ : ∃ wo : World, wo = wr := ⟨_, rfl⟩
          obtain ⟨gq, hgq'⟩ : ∃ gq, gq = gk := ⟨_, rfl⟩
          have HG := Lib.hid hgq'; clear hgq'
          go_wp2_with fail
          go_loopg [11, 110] todo.length (fun gk s11 i wr => ∃ (p : Nat) (s : St), gk + p = todo.length ∧ i = .int .i64 p ∧ runB (todo.take p) s1 = some s ∧ DoAt wr gd bm (mo - s.2) mo ∧ MapAt wr 2 bm N s.1 ∧ KeptBut w wr [gd, bm] ∧ Down (f, lf) s)
          case atStart => exact ⟨0, s1, by omega, rfl, by rw [List.take_zero, runB_nil], HT.out.2.2.1, HT.out.2.2.2.1, HT.out.2.2.2.2.1, HT.out.2.2.2.2.2.2⟩
          case round =>
            obtain ⟨p, s, hgp, rfl, hit, hdp, hmp, hkp, hdn⟩ := hrel
            by_cases hp : p < todo.length
            · have hp2 : (p : Int) < (todo.length : Int) := by omega
              obtain ⟨xb, xo, hxA, hxB, hc0⟩ := HT.out.1.at_ (i := p) hp
              subst hxA
              have hmem := HT.out.2.1 _ (List.getElem_mem hp)
              have hstep : runB (todo.take (p + 1)) s1 = runS (todo[p]).l s := by
                rw [take_snocA hp, runB_append, hit]
                exact runB_one _ _
              obtain ⟨b1, hb1⟩ : ∃ b1, todo[p] = b1 := ⟨_, rfl⟩
              rw [hb1] at hc0 hmem hstep
              obtain ⟨bA, bc, bl⟩ := b1
              have ecl : wr.cell? ⟨xb, xo + p, none⟩ = some (.slice bA bl.length bc) := (hkp.cell (p := ⟨xb, xo + p, none⟩) (by simp; omega) (by simp; omega)).trans hc0
              have hcall := HSub.out _ hmem wr s hkp hdp hmp hdn
              have H4 := Lib.hid (And.intro hit (And.intro hkp (And.intro hdn (And.intro hcall (And.intro hstep (And.intro hmem hdp)))))); clear hit hkp hdn hcall hstep hmem hdp hmp hb1
              go_upto_if 117 with (go_at_call 12; (
                refine (show Calls _ _ _ _ _ from H4.out.2.2.2.1).mono ?_
                rintro E w5 ⟨bb, rfl, hk5, hr5⟩
                have H5 := Lib.hid (And.intro hk5 hr5); clear hk5 hr5))
              have hz5 := H5.out.1.size
              cases hrs : runS bl s with
              | none =>
                have hbb : bb = false := by
                  have h := H5.out.2
                  rw [show runS (BlockR.mk bA bc bl).l s = none from hrs] at h
                  exact h
                have hno : runB todo s1 = none := by
                  have h1 : runB (todo.take (p + 1)) s1 = none := H4.out.2.2.2.2.1.trans hrs
                  rw [← List.take_append_drop (p + 1) todo, runB_append, h1]
                  rfl
                have hst := HE.out.2.2.2.2.2.2.2.2.2.1 (HT.out.2.2.2.2.2.1.trans hno)
                have HN := Lib.hid hst; clear hst hno
                subst hbb
                go_wp2_with fail
                go_ret
                refine ⟨false, rfl, H4.out.2.1.trans H5.out.1, ?_⟩
                show Ran _ gd bm N mo false (runS L st)
                rw [HN.out]
                rfl
              | some s2 =>
                have hr := H5.out.2
                rw [show runS (BlockR.mk bA bc bl).l s = some s2 from hrs] at hr
                obtain ⟨hbb, hd5, hm5⟩ := hr
                have hdn2 : Down s s2 := AllS.down (l := bl) ((HE.out.2.2.2.2.2.2.1.down H4.out.2.2.1).sub fun t ht => wr_blocks (x := (.mk kind name (.mk ek en ename eA ec ekids) xn xA xc blocks)) t (wrB_mem (b := .mk bA bc bl) H4.out.2.2.2.2.2.1 t ht)) hrs
                have hnx2 := H4.out.2.2.2.2.1.trans hrs
                subst hbb
                have HM := Lib.hid (And.intro hd5 (And.intro hm5 (And.intro hnx2 hdn2))); clear hd5 hm5 hnx2 hdn2 hrs
                go_wp2_with fail
                go_roundg (gk - 1)
                case measure => omega
                case rel => exact ⟨p + 1, s2, by omega, by go_num, HM.out.2.2.1, HM.out.1, HM.out.2.1, H4.out.2.1.trans H5.out.1, H4.out.2.2.1.trans HM.out.2.2.2⟩
            · obtain rfl : p = todo.length := by omega
              have hp2 : ¬ ((todo.length : Int) < (todo.length : Int)) := by omega
              rw [List.take_length] at hit
              have H4 := Lib.hid (And.intro hit (And.intro hdp (And.intro hmp hkp))); clear hit hdp hmp hkp hdn
              go_wp2_with fail
              go_roundg (gq - 1)
              case measure => have := HG.out; omega
              case rel => exact ⟨q + 1, s, by have := HG.out; omega, by go_num, HE.out.2.2.2.2.2.2.2.2.1.trans (HT.out.2.2.2.2.2.1.trans H4.out.1), H4.out.2.1, H4.out.2.2.1, H4.out.2.2.2⟩
    · have hend : L.take q = L := List.take_of_length_le (by omega)
      rw [hend] at hrun
      have H5 := Lib.hid (And.intro hrun (And.intro hd (And.intro hm hk))); clear hrun hd hm hk hend
      go_wp2_with fail
      go_ret
      exact ⟨true, rfl, H5.out.2.2.2, by rw [show runS (BlockR.mk A c L).l st = some s from H5.out.1]; exact ⟨rfl, H5.out.2.1, H5.out.2.2.1⟩⟩
theorem dblock_any : ∀ n, DBlockC n
  | 0 => fun _ _ _ _ _ _ _ _ h => absurd h (Nat.not_lt_zero _)
  | n + 1 => dblock_step n (dblock_any n)
end Go.Proofs.Ytgiceeholamphaa
