/- The contracts of newNames, Names.expr, Names.block, Of. No conditions but that what is read is there, is a program, and can be counted. -/
import Derived.Test.YtgiceeholamphaaDoorNames
import Derived.Deep.CutBlock
namespace Go.Proofs.YtgiceeholamphaaDoor
open Go.ChangeShapes Go.WideShapes Go.ChangeAt Go.RowKit Go.Maps

def namesV (b1 b2 b3 : Nat) : Value := .agg #[.map (some b1), .map (some b2), .map (some b3)]
def NExprPost (e : ExprR) (b3 : Nat) (l : List ByteArray) (w : World) (E : Ending) (w' : World) : Prop :=
  E = .returned (.tuple #[]) ∧ MapAt w' 3 b3 (l ++ e.names).length (cntF (l ++ e.names)) ∧ KeptBut w w' [b3]
theorem named_small {s : ByteArray} (h : named s) : s.size ≤ maxLen := by have := h.2.1; unfold maxLen; omega
/-- Names are names, all the way down. -/
inductive SoundE : ExprR → Prop
  | mk (e : ExprR) (name : e.kind = 2 → named e.name) (each : ∀ k ∈ e.kids, SoundE k) : SoundE e
theorem SoundE.name {e : ExprR} (h : SoundE e) : e.kind = 2 → named e.name := by cases h with | mk _ r _ => exact r
theorem SoundE.kid {e k : ExprR} (h : SoundE e) (hk : k ∈ e.kids) : SoundE k := by cases h with | mk _ _ r => exact r k hk
theorem AllE.name {e : ExprR} (h : AllE e) (hk : e.kind = 2) : named e.name := by
  rcases h.ok with h | h | h
  · have := h.1; omega
  · exact h.2.2.1
  · have := h.1; omega
theorem AllE.sound {e : ExprR} (h : AllE e) : SoundE e := by
  induction h with
  | mk e ok each ih => exact ⟨e, fun hk => (AllE.mk e ok each).name hk, ih⟩
theorem noneE.sound {e : ExprR} (h : noneE e) : SoundE e := by
  refine ⟨e, fun hk => by have := h.1; omega, fun k hk => ?_⟩
  rw [List.eq_nil_of_length_eq_zero h.2.2.2] at hk
  cases hk
theorem AllS.sound {x : StatR} (h : AllS x) : SoundE x.e := by
  by_cases hk : x.kind ≤ 3
  · exact (h.e hk).sound
  · rcases h.ok with h' | h' | h' | h'
    · have := h'.1; omega
    · have := h'.1; omega
    · exact h'.2.2.2.2.2.sound
    · exact h'.2.2.2.2.2.sound
theorem push_map {w' : World} {b : Nat} {l : List ByteArray} {s : ByteArray} (h : MapAt w' 3 b (if (cntF l s).isSome then l.length else l.length + 1) (upd (cntF l) s ((cnt l s : Int) + 1))) : MapAt w' 3 b (l ++ [s]).length (cntF (l ++ [s])) := by
  rw [cntF_push] at h
  exact h.mono (by rw [List.length_append]; simp; split <;> omega)
theorem names_boxes {wr W3 : World} {c1 c2 : List Value} {t u : TypeId} (bs : List Nat) (h : (wr.alloc (.cells c1.toArray t)).alloc (.cells c2.toArray u) = W3) :
    KeptBut wr W3 bs ∧ W3.heap.size = wr.heap.size + 2 ∧ Blk W3 wr.heap.size t c1 ∧ Blk W3 (wr.heap.size + 1) u c2 := by
  subst h
  refine ⟨(KeptBut.alloc _ _ _).trans (KeptBut.alloc _ _ _), by simp, (Blk.new _ _ _).alloc _, ?_⟩
  have h := Blk.new (wr.alloc (.cells c1.toArray t)) u c2
  rwa [show (wr.alloc (.cells c1.toArray t)).heap.size = wr.heap.size + 1 by simp] at h
theorem KeptBut.map' {w w' : World} {bs : List Nat} (_ : KeptBut w w' bs) {e : TypeId} {b N : Nat} {f : ByteArray → Option Int} (hk : MapAt w e b N f) {c1 c2 : Array Value} {t u : TypeId} (h : (w.alloc (.cells c1 t)).alloc (.cells c2 u) = w') : MapAt w' e b N f := by
  subst h
  exact (hk.alloc _).alloc _
set_option maxRecDepth 100000 in
set_option maxHeartbeats 2000000 in
theorem nexpr_any : ∀ (e : ExprR) (w : World) (B b1 b2 b3 : Nat) (l : List ByteArray), RdE w B e → SoundE e → B ≤ b3 → MapAt w 3 b3 l.length (cntF l) → l.length + e.nodes ≤ 4194304 →
    Calls Tryd.prog 82 #[namesV b1 b2 b3, e.val] w (NExprPost e b3 l w) := by
  refine ExprR.ind fun e ih => ?_
  intro w B b1 b2 b3 l hR hA hB hM hn
  have hlt := hM.lt
  have hnodes := e.nodes_eq
  have hname := hA.name
  have hkidA := fun k (hk : k ∈ e.kids) => hA.kid hk
  have hrow := hR.row
  have heach := fun k (hk : k ∈ e.kids) => hR.kid hk
  have hnm := e.names_eq
  have hfit := hR.fits
  obtain ⟨kind, m, name, sA, sc, kids⟩ := e
  simp only [ExprR.kids, ExprR.kind, ExprR.name, ExprR.sA] at ih hnodes hname hkidA hrow heach hnm hfit
  unfold Fits at hfit
  have hll : l.length < 4194304 := by omega
  have H := Lib.hid (And.intro ih (And.intro hkidA (And.intro hrow (And.intro heach (And.intro hnm (And.intro hn hnodes)))))); clear ih hkidA hrow heach hnm hR hA hn hnodes
  have hb1 : ¬ (b3 = w.heap.size) := by omega
  show Calls Tryd.prog 82 #[.agg #[.map (some b1), .map (some b2), .map (some b3)], .agg #[.int .i64 kind, .int .i64 m, .string name, .slice sA kids.length sc]] w _
  have key : Calls Tryd.prog 82 #[.agg #[.map (some b1), .map (some b2), .map (some b3)], .agg #[.int .i64 kind, .int .i64 m, .string name, .slice sA kids.length sc]] w (NExprPost (.mk kind m name sA sc kids) b3 l w) := by
    have HM := Lib.hid hM; clear hM
    go_enter Tryd.func82, Tryd.ntmps82
    go_upto_if 8 with (fail)
    generalize hW3 : (w.alloc (.cells #[.map (some b1), .map (some b2), .map (some b3)] 84)).alloc (.cells #[.int .i64 kind, .int .i64 m, .string name, .slice sA kids.length sc] 46) = W3
    obtain ⟨hk3, hz3, hx3, hq3⟩ := names_boxes (c1 := [.map (some b1), .map (some b2), .map (some b3)]) (c2 := [.int .i64 kind, .int .i64 m, .string name, .slice sA kids.length sc]) [b3] hW3
    have hm3 := hk3.map' HM.out hW3
    clear hW3
    go_cut [] (fun wc => MapAt wc 3 b3 (l ++ (if kind = 2 then [name] else [])).length (cntF (l ++ (if kind = 2 then [name] else []))) ∧ KeptBut w wc [b3] ∧ Blk wc w.heap.size 84 [.map (some b1), .map (some b2), .map (some b3)] ∧ Blk wc (w.heap.size + 1) 46 [.int .i64 kind, .int .i64 m, .string name, .slice sA kids.length sc])
    case first => as_aux_lemma =>
      by_cases k2 : kind = 2
      · subst k2
        have hs := named_small (hname rfl)
        have y2 := hx3.cell 2
        have z2 := hq3.cell 2
        simp at y2 z2
        have hcl := cnt_le l name
        have H3 := Lib.hid (And.intro hk3 (And.intro hx3 (And.intro hq3 (And.intro hm3 hname)))); clear hk3 hx3 hq3 hm3 hname
        go_wp2_with (first
          | (at_lookup; refine wpList_map_get rfl _ _ 82 rfl Tryd.underlying3 (zero_int _) Tryd.underlying82 rfl H3.out.2.2.2.1 name hs rfl ?_; rw [cntF_getD])
          | (at_mapUpdate; refine wpList_map_set rfl _ _ _ 82 rfl Tryd.underlying3 Tryd.underlying82 rfl H3.out.2.2.2.1 (by unfold maxLen; omega) name hs rfl _ rfl (WalkArith.wf_i64 (by omega)) ?_; intro w5 hm5 hg5; have H5 := Lib.hid (And.intro hm5 hg5); clear hm5 hg5))
        go_meet
        case rel =>
          have hk := KeptBut.grown (bs := [b3]) H5.out.2 (fun k e => by cases e; simp)
          exact ⟨push_map H5.out.1, H3.out.1.trans hk, hk.blk H3.out.2.1 (by simp; omega), hk.blk H3.out.2.2.1 (by simp; omega)⟩
      · have e2 : (kind == 2) = false := beq_eq_false_iff_ne.2 k2
        have H3 := Lib.hid (And.intro hk3 (And.intro hx3 (And.intro hq3 hm3))); clear hk3 hx3 hq3 hm3
        go_wp2_with fail
        go_meet
        case rel => exact ⟨by rw [if_neg k2, List.append_nil]; exact H3.out.2.2.2, H3.out.1, H3.out.2.1, H3.out.2.2.1⟩
    case rest =>
      clear hk3 hx3 hq3 hm3
      obtain ⟨hm, hk, hx, hq⟩ := hcut
      generalize hl1 : l ++ (if kind = 2 then [name] else []) = l1 at *
      have z3 := hq.cell 3
      simp at z3
      have H3 := Lib.hid (And.intro hm (And.intro hk (And.intro hx hl1))); clear hm hk hx hq hl1
      go_wp2_with fail
      go_loopg [18] kids.length (fun gk i wr => ∃ q : Nat, gk + q = kids.length ∧ i = .int .i64 q ∧ MapAt wr 3 b3 (l1 ++ namesE (kids.take q)).length (cntF (l1 ++ namesE (kids.take q))) ∧ KeptBut w wr [b3] ∧ Blk wr w.heap.size 84 [.map (some b1), .map (some b2), .map (some b3)])
      case atStart => exact ⟨0, by omega, rfl, by rw [List.take_zero, namesE, List.append_nil]; exact H3.out.1, H3.out.2.1, H3.out.2.2.1⟩
      case round =>
        obtain ⟨q, hgq, rfl, hm, hk, hx⟩ := hrel
        by_cases hq : q < kids.length
        · obtain ⟨b, o, rfl, hbB, hc⟩ := H.out.2.2.1.at_ (i := q) hq
          have hz := hk.size
          have hc := hc.keep (w' := wr) hbB fun p hp => hk.cell (by omega) (by simp; omega)
          have hRk := (H.out.2.2.2.1 _ (List.getElem_mem hq)).keep (w' := wr) fun p hp => hk.cell (by omega) (by simp; omega)
          have hih := H.out.1 _ (List.getElem_mem hq)
          have hAk := H.out.2.1 _ (List.getElem_mem hq)
          have hnk : (l1 ++ namesE (kids.take q)).length + (kids[q]).nodes ≤ 4194304 := by
            have h1 := H.out.2.2.2.2.2.1
            have h2 := H.out.2.2.2.2.2.2
            have h3 : nodesE kids = nodesE (kids.take q) + (kids[q]).nodes + nodesE (kids.drop (q + 1)) := by
              conv => lhs; rw [← List.take_append_drop (q + 1) kids, nodesE_append, take_snocA hq, nodesE_append]
              simp [nodesE]
            have h4 : (namesE (kids.take q)).length ≤ nodesE (kids.take q) := by
              generalize kids.take q = t
              induction t with
              | nil => simp [namesE]
              | cons y t iht => have := namesE_len y; simp only [namesE, nodesE, List.length_append]; omega
            have h5 : l1.length ≤ l.length + 1 := by rw [← H3.out.2.2.2, List.length_append]; split <;> simp
            rw [List.length_append]
            omega
          have hnx : namesE (kids.take (q + 1)) = namesE (kids.take q) ++ (kids[q]).names := by rw [take_snocA hq, namesE_append]; simp [namesE]
          obtain ⟨k, hke⟩ : ∃ k, kids[q] = k := ⟨_, rfl⟩
          rw [hke] at hc hRk hih hAk hnk hnx
          have y0 := hx.cell 0
          have y1 := hx.cell 1
          have y2 := hx.cell 2
          simp at y0 y1 y2
          have hxl := hx.lt
          have hcall := hih (wr.alloc (.cells k.cells.toArray 46)) B b1 b2 b3 _ (hRk.keep fun p hp => World.cell?_alloc_lt wr _ p (by omega)) hAk hB (hm.alloc _) hnk
          obtain ⟨kk, kn, ks, kA, kc, kl⟩ := k
          obtain ⟨c0, c1, c2, c3⟩ := hc
          simp only [ExprR.kind, ExprR.n, ExprR.name, ExprR.sA, ExprR.sc, ExprR.kids] at c0 c1 c2 c3
          have hbn : ¬ (b = wr.heap.size) := by omega
          have H5 := Lib.hid (And.intro hk (And.intro hx (And.intro hcall hnx))); clear hk hx hcall hnx hm hRk hih hAk hke
          go_wp2_with (go_at_call 82; (
            refine (show Calls _ _ _ _ _ from H5.out.2.2.1).mono ?_
            rintro E w5 ⟨rfl, hm5, hk5⟩
            have H6 := Lib.hid (And.intro hm5 hk5); clear hm5 hk5))
          go_roundg (gk - 1)
          case measure => omega
          case rel =>
            have hka := (KeptBut.alloc wr (.cells (ExprR.mk kk kn ks kA kc kl).cells.toArray 46) [b3]).trans H6.out.2
            exact ⟨q + 1, by omega, by go_num, by rw [H5.out.2.2.2, ← List.append_assoc]; exact H6.out.1, H5.out.1.trans hka, hka.blk H5.out.2.1 (by simp; omega)⟩
        · have hend : kids.take q = kids := List.take_of_length_le (by omega)
          rw [hend] at hm
          have H5 := Lib.hid (And.intro hm hk); clear hm hk hx hend
          go_wp2_with fail
          go_end0
          refine ⟨rfl, ?_, H5.out.2⟩
          have hnn : (ExprR.mk kind m name sA sc kids).names = (if kind = 2 then [name] else []) ++ namesE kids := H.out.2.2.2.2.1
          rw [hnn, ← List.append_assoc, H3.out.2.2.2]
          exact H5.out.1
  exact key
theorem KeptBut.sub {w w' : World} {bs cs : List Nat} (h : KeptBut w w' bs) (hs : ∀ b ∈ bs, b ∈ cs) : KeptBut w w' cs := ⟨h.os, h.tape, h.output, h.size, fun i hi hn => h.block i hi (fun hm => hn (hs i hm))⟩
/-- What Names.block makes of the three maps. -/
structure NBl (w w' : World) (b1 b2 b3 : Nat) (l1 l2 l3 : List ByteArray) : Prop where
  m1 : MapAt w' 3 b1 l1.length (cntF l1)
  m2 : MapAt w' 3 b2 l2.length (cntF l2)
  m3 : MapAt w' 3 b3 l3.length (cntF l3)
  kept : KeptBut w w' [b1, b2, b3]
section
variable {w w' w2 : World} {b1 b2 b3 : Nat} {l1 l2 l3 : List ByteArray}
theorem NBl.alloc (h : NBl w w' b1 b2 b3 l1 l2 l3) (o : Obj) : NBl w (w'.alloc o) b1 b2 b3 l1 l2 l3 := ⟨h.m1.alloc o, h.m2.alloc o, h.m3.alloc o, h.kept.trans (KeptBut.alloc _ _ _)⟩
theorem NBl.put1 {s : ByteArray} (h : NBl w w' b1 b2 b3 l1 l2 l3) (h12 : b1 ≠ b2) (h13 : b1 ≠ b3) (hm : MapAt w2 3 b1 (if (cntF l1 s).isSome then l1.length else l1.length + 1) (upd (cntF l1) s ((cnt l1 s : Int) + 1))) (hg : w'.grownBy w2 (some b1)) : NBl w w2 b1 b2 b3 (l1 ++ [s]) l2 l3 :=
  ⟨push_map hm, h.m2.kept hg (by simpa using h12.symm), h.m3.kept hg (by simpa using h13.symm), h.kept.trans (.grown hg (fun k e => by cases e; simp))⟩
theorem NBl.put2 {s : ByteArray} (h : NBl w w' b1 b2 b3 l1 l2 l3) (h12 : b1 ≠ b2) (h23 : b2 ≠ b3) (hm : MapAt w2 3 b2 (if (cntF l2 s).isSome then l2.length else l2.length + 1) (upd (cntF l2) s ((cnt l2 s : Int) + 1))) (hg : w'.grownBy w2 (some b2)) : NBl w w2 b1 b2 b3 l1 (l2 ++ [s]) l3 :=
  ⟨h.m1.kept hg (by simpa using h12), push_map hm, h.m3.kept hg (by simpa using h23.symm), h.kept.trans (.grown hg (fun k e => by cases e; simp))⟩
theorem NBl.put3 {m : List ByteArray} (h : NBl w w' b1 b2 b3 l1 l2 l3) (h13 : b1 ≠ b3) (h23 : b2 ≠ b3) (hm : MapAt w2 3 b3 m.length (cntF m)) (hg : KeptBut w' w2 [b3]) : NBl w w2 b1 b2 b3 l1 l2 m :=
  ⟨hg.map h.m1 (by simpa using h13), hg.map h.m2 (by simpa using h23), hm, h.kept.trans (hg.sub fun b hb => by simp at hb; subst hb; simp)⟩
theorem NBl.then_ {k1 k2 k3 : List ByteArray} (h : NBl w w' b1 b2 b3 l1 l2 l3) (k : NBl w' w2 b1 b2 b3 k1 k2 k3) : NBl w w2 b1 b2 b3 k1 k2 k3 := ⟨k.m1, k.m2, k.m3, h.kept.trans k.kept⟩
end
def NBlockPost (L : List StatR) (b1 b2 b3 : Nat) (l1 l2 l3 : List ByteArray) (w : World) (E : Ending) (w' : World) : Prop :=
  E = .returned (.tuple #[]) ∧ NBl w w' b1 b2 b3 (l1 ++ assignsS L) (l2 ++ addsS L) (l3 ++ readsS L)
theorem AllS.name {x : StatR} (h : AllS x) (hk : x.kind ≤ 2) : named x.name := by
  rcases h.ok with h | h | h | h
  · exact h.2.1
  all_goals have := h.1; omega
theorem names_lenS (l : List StatR) : (assignsS l).length + (addsS l).length + (readsS l).length ≤ nodesS l := by
  induction l with
  | nil => simp [assignsS, addsS, readsS]
  | cons y l ihl => have := names_len y; simp only [assignsS, addsS, readsS, nodesS, List.length_append]; omega
/-- Names.block for programs of at most so many nodes. -/
def NBlockC (n : Nat) : Prop := ∀ (k : BlockR) (w : World) (B b1 b2 b3 : Nat) (l1 l2 l3 : List ByteArray), nodesS k.l < n → RdB w B k → AllL k.l → B ≤ b1 → B ≤ b2 → B ≤ b3 → b1 ≠ b2 → b1 ≠ b3 → b2 ≠ b3 →
    MapAt w 3 b1 l1.length (cntF l1) → MapAt w 3 b2 l2.length (cntF l2) → MapAt w 3 b3 l3.length (cntF l3) → l1.length + l2.length + l3.length + nodesS k.l ≤ 4194304 →
    Calls Tryd.prog 60 #[namesV b1 b2 b3, k.val] w (NBlockPost k.l b1 b2 b3 l1 l2 l3 w)
set_option maxRecDepth 100000 in
set_option maxHeartbeats 4000000 in
theorem nblock_step (n : Nat) (ih : NBlockC n) : NBlockC (n + 1) := by
  intro k w B b1 b2 b3 l1 l2 l3 hN hR hA hB1 hB2 hB3 h12 h13 h23 hM1 hM2 hM3 hn
  obtain ⟨A, c, L⟩ := k
  simp only [BlockR.l] at hN hA hn
  have hlt1 := hM1.lt
  have hlt2 := hM2.lt
  have hlt3 := hM3.lt
  have H := Lib.hid (And.intro ih (And.intro hN (And.intro hR (And.intro hA (And.intro hn (And.intro hM1 (And.intro hM2 hM3))))))); clear ih hN hR hA hn hM1 hM2 hM3
  have hfit := H.out.2.2.1.fits
  unfold Fits at hfit
  simp only [BlockR.l] at hfit
  show Calls Tryd.prog 60 #[.agg #[.map (some b1), .map (some b2), .map (some b3)], .slice A L.length c] w _
  go_enter Tryd.func60, Tryd.ntmps60
  go_wp2_with fail
  go_loopg [10] L.length (fun gk i wr => ∃ q : Nat, gk + q = L.length ∧ i = .int .i64 q ∧ NBl w wr b1 b2 b3 (l1 ++ assignsS (L.take q)) (l2 ++ addsS (L.take q)) (l3 ++ readsS (L.take q)) ∧ Blk wr w.heap.size 84 [.map (some b1), .map (some b2), .map (some b3)])
  case atStart => exact ⟨0, by omega, rfl, ⟨by rw [List.take_zero, assignsS, List.append_nil]; exact H.out.2.2.2.2.2.1.alloc _, by rw [List.take_zero, addsS, List.append_nil]; exact H.out.2.2.2.2.2.2.1.alloc _, by rw [List.take_zero, readsS, List.append_nil]; exact H.out.2.2.2.2.2.2.2.alloc _, KeptBut.alloc _ _ _⟩, Blk.new w 84 [.map (some b1), .map (some b2), .map (some b3)]⟩
  case round =>
    obtain ⟨q, hgq, rfl, hnb, hbx⟩ := hrel
    by_cases hq : q < L.length
    · obtain ⟨b, o, rfl, hbB, hx⟩ := (show RowS w B A L from H.out.2.2.1.row).at_ (i := q) hq
      have hz := hnb.kept.size
      have hx := hx.keep (w' := wr) hbB fun p hp => hnb.kept.cell (by omega) (by simp; omega)
      have hRx := ((show ∀ y ∈ L, RdS w B y from H.out.2.2.1.each) _ (List.getElem_mem hq)).keep (w' := wr) fun p hp => hnb.kept.cell (by omega) (by simp; omega)
      have hAx := H.out.2.2.2.1 _ (List.getElem_mem hq)
      have e1 : assignsS (L.take (q + 1)) = assignsS (L.take q) ++ (L[q]).assigns := by rw [take_snocA hq, assignsS_append]; simp [assignsS]
      have e2 : addsS (L.take (q + 1)) = addsS (L.take q) ++ (L[q]).adds := by rw [take_snocA hq, addsS_append]; simp [addsS]
      have e3 : readsS (L.take (q + 1)) = readsS (L.take q) ++ (L[q]).reads := by rw [take_snocA hq, readsS_append]; simp [readsS]
      have hnn : nodesS (L.take q) + (L[q]).nodes ≤ nodesS L := by
        have h1 := nodesS_take L (q + 1)
        rw [take_snocA hq, nodesS_append] at h1
        simpa [nodesS] using h1
      have hln := names_lenS (L.take q)
      obtain ⟨x, hxe⟩ : ∃ x, L[q] = x := ⟨_, rfl⟩
      rw [hxe] at hx hRx hAx e1 e2 e3 hnn
      have hxn := names_len x
      have hnodes := x.nodes_eq
      have a1 := x.assigns_eq
      have a2 := x.adds_eq
      have a3 := x.reads_eq
      have hnm := hAx.name
      generalize hL1 : l1 ++ assignsS (L.take q) = L1 at *
      generalize hL2 : l2 ++ addsS (L.take q) = L2 at *
      generalize hL3 : l3 ++ readsS (L.take q) = L3 at *
      have hlen : L1.length + L2.length + L3.length + x.nodes ≤ 4194304 := by
        have := H.out.2.2.2.2.1
        rw [← hL1, ← hL2, ← hL3]
        simp only [List.length_append]
        omega
      have hfx := hRx.fits
      unfold Fits at hfx
      obtain ⟨kind, name, ⟨ek, en, ename, eA, ec, ekids⟩, xn, xA, xc, blocks⟩ := x
      obtain ⟨x0, x1, x2, x3, x4, x5, x6, x7⟩ := hx
      simp only [StatR.kind, StatR.name, StatR.e, StatR.n, StatR.bA, StatR.bc, StatR.blocks, ExprR.kind, ExprR.n, ExprR.name, ExprR.sA, ExprR.sc, ExprR.kids] at x0 x1 x2 x3 x4 x5 x6 x7 hnm a1 a2 a3 hnodes hfx
      have hbn : ¬ (b = wr.heap.size) := by omega
      have hbz := hbx.lt
      have HE := Lib.hid (And.intro hRx (And.intro hAx (And.intro e1 (And.intro e2 (And.intro e3 (And.intro hL1 (And.intro hL2 (And.intro hL3 (And.intro hxn (And.intro hnodes (And.intro hxe (And.intro hnn (And.intro a1 (And.intro a2 a3)))))))))))))); clear hRx hAx e1 e2 e3 hL1 hL2 hL3 hxn hnodes hxe a1 a2 a3 hln
      have HN := Lib.hid (And.intro hnb hbx)
      have y0 := hbx.cell 0
      have y1 := hbx.cell 1
      have y2 := hbx.cell 2
      simp at y0 y1 y2
      clear hnb hbx
      go_upto_block 2 with (fail)
      go_cut [] (fun wc => NBl w wc b1 b2 b3 (L1 ++ (if kind = 1 then [name] else [])) (L2 ++ (if kind = 2 then [name] else [])) L3 ∧ Blk wc w.heap.size 84 [.map (some b1), .map (some b2), .map (some b3)] ∧ Blk wc wr.heap.size 49 (StatR.cells (.mk kind name (.mk ek en ename eA ec ekids) xn xA xc blocks)))
      case first => as_aux_lemma =>
        have hnb := HN.out.1.alloc (.cells (StatR.cells (.mk kind name (.mk ek en ename eA ec ekids) xn xA xc blocks)).toArray 49)
        have hbx := HN.out.2.alloc (.cells (StatR.cells (.mk kind name (.mk ek en ename eA ec ekids) xn xA xc blocks)).toArray 49)
        have hsx := Blk.new wr 49 (StatR.cells (.mk kind name (.mk ek en ename eA ec ekids) xn xA xc blocks))
        have hc1 := cnt_le L1 name
        have hc2 := cnt_le L2 name
        have H3 := Lib.hid (And.intro hnb (And.intro hbx hsx)); clear hnb hbx hsx
        by_cases k1 : kind = 1
        · subst k1
          have hs := named_small (hnm (by omega))
          go_wp2_with (first
            | (at_lookup; refine wpList_map_get rfl _ _ 82 rfl Tryd.underlying3 (zero_int _) Tryd.underlying82 rfl H3.out.1.m1 name hs rfl ?_; rw [cntF_getD])
            | (at_mapUpdate; refine wpList_map_set rfl _ _ _ 82 rfl Tryd.underlying3 Tryd.underlying82 rfl H3.out.1.m1 (by unfold maxLen; omega) name hs rfl _ rfl (WalkArith.wf_i64 (by omega)) ?_; intro w5 hm5 hg5; have H5 := Lib.hid (And.intro hm5 hg5); clear hm5 hg5))
          go_meet
          case rel => exact ⟨by rw [if_neg (show ¬ (1 : Int) = 2 by decide), List.append_nil]; exact H3.out.1.put1 h12 h13 H5.out.1 H5.out.2, H3.out.2.1.grown H5.out.2 (by simp; omega), H3.out.2.2.grown H5.out.2 (by simp; omega)⟩
        have e1 : (kind == 1) = false := beq_eq_false_iff_ne.2 k1
        by_cases k2 : kind = 2
        · subst k2
          have hs := named_small (hnm (by omega))
          go_wp2_with (first
            | (at_lookup; refine wpList_map_get rfl _ _ 82 rfl Tryd.underlying3 (zero_int _) Tryd.underlying82 rfl H3.out.1.m2 name hs rfl ?_; rw [cntF_getD])
            | (at_mapUpdate; refine wpList_map_set rfl _ _ _ 82 rfl Tryd.underlying3 Tryd.underlying82 rfl H3.out.1.m2 (by unfold maxLen; omega) name hs rfl _ rfl (WalkArith.wf_i64 (by omega)) ?_; intro w5 hm5 hg5; have H5 := Lib.hid (And.intro hm5 hg5); clear hm5 hg5))
          go_meet
          case rel => exact ⟨by rw [if_neg (show ¬ (2 : Int) = 1 by decide), List.append_nil]; exact H3.out.1.put2 h12 h23 H5.out.1 H5.out.2, H3.out.2.1.grown H5.out.2 (by simp; omega), H3.out.2.2.grown H5.out.2 (by simp; omega)⟩
        have e2 : (kind == 2) = false := beq_eq_false_iff_ne.2 k2
        go_wp2_with fail
        go_meet
        case rel => exact ⟨by rw [if_neg k1, if_neg k2, List.append_nil, List.append_nil]; exact H3.out.1, H3.out.2.1, H3.out.2.2⟩
      case rest =>
        obtain ⟨hnb, hbx, hsx⟩ := hcut
        have hlen1 : (L1 ++ (if kind = 1 then [name] else [])).length + (L2 ++ (if kind = 2 then [name] else [])).length ≤ L1.length + L2.length + 1 := by
          simp only [List.length_append]
          by_cases k1 : kind = 1
          · rw [if_pos k1, if_neg (by omega)]; simp; omega
          · rw [if_neg k1]; split <;> simp <;> omega
        generalize hK1 : L1 ++ (if kind = 1 then [name] else []) = K1 at *
        generalize hK2 : L2 ++ (if kind = 2 then [name] else []) = K2 at *
        have z0 := hbx.cell 0
        have z1 := hbx.cell 1
        have z2 := hbx.cell 2
        have v2 := hsx.cell 2
        have v3 := hsx.cell 3
        have v4 := hsx.cell 4
        have v5 := hsx.cell 5
        have v7 := hsx.cell 7
        simp [StatR.cells, StatR.kind, StatR.name, StatR.e, StatR.n, StatR.bA, StatR.bc, StatR.blocks, ExprR.kind, ExprR.n, ExprR.name, ExprR.sA, ExprR.sc, ExprR.kids] at z0 z1 z2 v2 v3 v4 v5 v7
        clear y0 y1 y2 x0 x1 x2 x3 x4 x5 x6 x7
        have hzc := hnb.kept.size
        have hen := namesE_len (.mk ek en ename eA ec ekids)
        have hnd := HE.out.2.2.2.2.2.2.2.2.2.1
        have hcall := nexpr_any (.mk ek en ename eA ec ekids) wc B b1 b2 b3 L3 (HE.out.1.e.keep fun p hp => by
          have h1 := hnb.kept.cell (p := p) (by omega) (by simp; omega)
          have h2 := HN.out.1.kept.cell (p := p) (by omega) (by simp; omega)
          exact h1.trans h2.symm) HE.out.2.1.sound hB3 hnb.m3 (by omega)
        have H3 := Lib.hid (And.intro hnb (And.intro hbx (And.intro hsx (And.intro hcall (And.intro hK1 hK2))))); clear hnb hbx hsx hcall hK1 hK2
        go_upto_region 10 with (go_at_call 82; (
          refine (show Calls _ _ _ _ _ from H3.out.2.2.2.1).mono ?_
          rintro E w5 ⟨rfl, hm5, hk5⟩
          have hnb5 := H3.out.1.put3 h13 h23 hm5 hk5
          have hbx5 := hk5.blk H3.out.2.1 (by simp; omega)
          have v7' := (hk5.blk H3.out.2.2.1 (by simp; omega)).cell 7
          simp [StatR.cells, StatR.bA, StatR.bc, StatR.blocks] at v7'
          have H5 := Lib.hid (And.intro hnb5 hbx5); clear hnb5 hbx5 hm5 hk5))
        obtain ⟨wo, rfl⟩ : ∃ wo : World, wo = wr := ⟨_, rfl⟩
        obtain ⟨gq, hgq'⟩ : ∃ gq, gq = gk := ⟨_, rfl⟩
        have HG := Lib.hid hgq'; clear hgq'
        clear z0 z1 z2 v2 v3 v4 v5 v7
        have hek : (ExprR.mk ek en ename eA ec ekids).names.length ≤ (ExprR.mk ek en ename eA ec ekids).nodes := hen
        generalize hK3 : L3 ++ (ExprR.mk ek en ename eA ec ekids).names = K3 at *
        have hK3l : K3.length ≤ L3.length + (ExprR.mk ek en ename eA ec ekids).nodes := by rw [← hK3, List.length_append]; omega
        have HK3 := Lib.hid hK3; clear hK3
        go_wp2_with fail
        go_loopg [39] blocks.length (fun gk i w6 => ∃ r : Nat, gk + r = blocks.length ∧ i = .int .i64 r ∧ NBl w w6 b1 b2 b3 (K1 ++ assignsB (blocks.take r)) (K2 ++ addsB (blocks.take r)) (K3 ++ readsB (blocks.take r)) ∧ Blk w6 w.heap.size 84 [.map (some b1), .map (some b2), .map (some b3)])
        case atStart => exact ⟨0, by omega, rfl, by rw [List.take_zero, assignsB, addsB, readsB, List.append_nil, List.append_nil, List.append_nil]; exact H5.out.1, H5.out.2⟩
        case round =>
          obtain ⟨r, hgr, rfl, hnb, hbx⟩ := hrel
          by_cases hr : r < blocks.length
          · obtain ⟨bb, oo, e0, hbB2, hx2⟩ := HE.out.1.row.at_ (i := r) hr
            simp only [StatR.bA, StatR.blocks] at e0 hx2
            subst e0
            have hkw : ∀ p : Addr, p.block < B → wr.cell? p = wo.cell? p := fun p hp => by
              have h1 := hnb.kept.cell (p := p) (by omega) (by simp; omega)
              have h2 := HN.out.1.kept.cell (p := p) (by omega) (by simp; omega)
              exact h1.trans h2.symm
            have hx2 := (hkw ⟨bb, oo + r, none⟩ hbB2).trans hx2
            have hRb := (HE.out.1.block (b := blocks[r]) (List.getElem_mem hr)).keep hkw
            have hAb : AllL blocks[r].l := fun y hy => HE.out.2.1.in_ (b := blocks[r]) (List.getElem_mem hr) hy
            have f1 : assignsB (blocks.take (r + 1)) = assignsB (blocks.take r) ++ assignsS blocks[r].l := by rw [take_snocA hr, assignsB_append]; simp [assignsB, BlockR.assigns_eq]
            have f2 : addsB (blocks.take (r + 1)) = addsB (blocks.take r) ++ addsS blocks[r].l := by rw [take_snocA hr, addsB_append]; simp [addsB, BlockR.adds_eq]
            have f3 : readsB (blocks.take (r + 1)) = readsB (blocks.take r) ++ readsS blocks[r].l := by rw [take_snocA hr, readsB_append]; simp [readsB, BlockR.reads_eq]
            have hnB : nodesB (blocks.take r) + nodesS blocks[r].l ≤ nodesB blocks := by
              have h1 := nodesB_take blocks (r + 1)
              rw [take_snocA hr, nodesB_append] at h1
              simpa [nodesB, BlockR.nodes_eq] using h1
            have hlB : (assignsB (blocks.take r)).length + (addsB (blocks.take r)).length + (readsB (blocks.take r)).length ≤ nodesB (blocks.take r) := by
              generalize blocks.take r = t
              induction t with
              | nil => simp [assignsB, addsB, readsB]
              | cons y t iht => have := names_lenS y.l; simp only [assignsB, addsB, readsB, nodesB, List.length_append, y.assigns_eq, y.adds_eq, y.reads_eq, y.nodes_eq]; omega
            obtain ⟨kk, hke⟩ : ∃ kk, blocks[r] = kk := ⟨_, rfl⟩
            rw [hke] at hx2 hRb hAb f1 f2 f3 hnB
            have hcall := H.out.1 kk wr B b1 b2 b3 _ _ _ (by
              have h1 := HE.out.2.2.2.2.2.2.2.2.2.1
              have h2 := HE.out.2.2.2.2.2.2.2.2.2.2.2.1
              have h3 := H.out.2.1
              omega) hRb hAb hB1 hB2 hB3 h12 h13 h23 hnb.m1 hnb.m2 hnb.m3 (by
              have h1 := HE.out.2.2.2.2.2.2.2.2.2.1
              simp only [List.length_append] at *
              omega)
            obtain ⟨kA, kc, kl⟩ := kk
            simp only [BlockR.val, BlockR.A, BlockR.l, BlockR.c] at hx2 f1 f2 f3
            have z0 := hbx.cell 0
            have z1 := hbx.cell 1
            have z2 := hbx.cell 2
            simp at z0 z1 z2
            have H6 := Lib.hid (And.intro hnb (And.intro hbx (And.intro hcall (And.intro f1 (And.intro f2 f3))))); clear hnb hbx hcall f1 f2 f3 hRb hAb hkw hke
            go_wp2_with (go_at_call 60; (
              refine (show Calls _ _ _ _ _ from H6.out.2.2.1).mono ?_
              rintro E w7 ⟨rfl, hn7⟩
              have H7 := Lib.hid hn7; clear hn7))
            go_roundg (gk - 1)
            case measure => omega
            case rel =>
              obtain ⟨p1, p2, p3, p4, p5, p6⟩ := H6.out
              exact ⟨r + 1, by omega, by go_num, by rw [p4, p5, p6, ← List.append_assoc, ← List.append_assoc, ← List.append_assoc]; exact p1.then_ H7.out, H7.out.kept.blk p2 (by simp; omega)⟩
          · have hend : blocks.take r = blocks := List.take_of_length_le (by omega)
            rw [hend] at hnb
            have H6 := Lib.hid (And.intro hnb hbx); clear hnb hbx hend
            go_wp2_with fail
            go_roundg (gq - 1)
            case measure =>
              have := HG.out
              omega
            case rel =>
              obtain ⟨_, _, e1, e2, e3, hL1, hL2, hL3, _, _, _, _, a1, a2, a3⟩ := HE.out
              have g1 : l1 ++ assignsS (L.take (q + 1)) = K1 ++ assignsB blocks := by rw [e1, ← List.append_assoc, hL1, a1, ← List.append_assoc, ← H3.out.2.2.2.2.1]; rfl
              have g2 : l2 ++ addsS (L.take (q + 1)) = K2 ++ addsB blocks := by rw [e2, ← List.append_assoc, hL2, a2, ← List.append_assoc, ← H3.out.2.2.2.2.2]; rfl
              have g3 : l3 ++ readsS (L.take (q + 1)) = K3 ++ readsB blocks := by rw [e3, ← List.append_assoc, hL3, a3, ← List.append_assoc, ← HK3.out]
              exact ⟨q + 1, by have := HG.out; omega, by go_num, by rw [g1, g2, g3]; exact H6.out.1, H6.out.2⟩
    · have hend : L.take q = L := List.take_of_length_le (by omega)
      rw [hend] at hnb
      have H5 := Lib.hid hnb; clear hnb hbx hend
      go_wp2_with fail
      go_end0
      exact ⟨rfl, H5.out⟩
theorem nblock_any : ∀ n, NBlockC n
  | 0 => fun _ _ _ _ _ _ _ _ _ h => absurd h (Nat.not_lt_zero _)
  | n + 1 => nblock_step n (nblock_any n)
/-- What Of hands back: three maps of its own. -/
def OfPost (L : List StatR) (w : World) (E : Ending) (w' : World) : Prop :=
  ∃ b1 b2 b3, E = .returned (namesV b1 b2 b3) ∧ w.heap.size ≤ b1 ∧ w.heap.size ≤ b2 ∧ w.heap.size ≤ b3 ∧ b1 ≠ b2 ∧ b1 ≠ b3 ∧ b2 ≠ b3 ∧
    MapAt w' 3 b1 (assignsS L).length (cntF (assignsS L)) ∧ MapAt w' 3 b2 (addsS L).length (cntF (addsS L)) ∧ MapAt w' 3 b3 (readsS L).length (cntF (readsS L)) ∧ Below w.heap.size w w'
def NewPost (w : World) (E : Ending) (w' : World) : Prop :=
  ∃ b1 b2 b3, E = .returned (namesV b1 b2 b3) ∧ w.heap.size ≤ b1 ∧ w.heap.size ≤ b2 ∧ w.heap.size ≤ b3 ∧ b1 ≠ b2 ∧ b1 ≠ b3 ∧ b2 ≠ b3 ∧
    MapAt w' 3 b1 0 (fun _ => none) ∧ MapAt w' 3 b2 0 (fun _ => none) ∧ MapAt w' 3 b3 0 (fun _ => none) ∧ Below w.heap.size w w'
set_option maxRecDepth 100000 in
theorem new_any (w : World) : Calls Tryd.prog 59 #[] w (NewPost w) := by
  have hmm := @run_makeMap Tryd.prog
  go_enter Tryd.func59, Tryd.ntmps59
  go_wp2_with fail
  refine bodyPost_ret (v := namesV (w.heap.size + 1) (w.heap.size + 1 + 1) (w.heap.size + 1 + 1 + 1)) (by simp [results, Tryd.results59, go_sem, namesV]) rfl ⟨_, _, _, rfl, by omega, by omega, by omega, by omega, by omega, by omega, ?_, ?_, ?_, ?_⟩
  · have h := MapAt.made (w.alloc (.cells #[.map (some (w.heap.size + 1)), .map (some (w.heap.size + 1 + 1)), .map (some (w.heap.size + 1 + 1 + 1))] 84)) 3
    rw [show (w.alloc (.cells #[.map (some (w.heap.size + 1)), .map (some (w.heap.size + 1 + 1)), .map (some (w.heap.size + 1 + 1 + 1))] 84)).heap.size = w.heap.size + 1 by simp] at h
    exact (h.alloc _).alloc _
  · have h := MapAt.made ((w.alloc (.cells #[.map (some (w.heap.size + 1)), .map (some (w.heap.size + 1 + 1)), .map (some (w.heap.size + 1 + 1 + 1))] 84)).alloc (.map #[] 0)) 3
    rw [show ((w.alloc (.cells #[.map (some (w.heap.size + 1)), .map (some (w.heap.size + 1 + 1)), .map (some (w.heap.size + 1 + 1 + 1))] 84)).alloc (.map #[] 0)).heap.size = w.heap.size + 1 + 1 by simp] at h
    exact h.alloc _
  · have h := MapAt.made (((w.alloc (.cells #[.map (some (w.heap.size + 1)), .map (some (w.heap.size + 1 + 1)), .map (some (w.heap.size + 1 + 1 + 1))] 84)).alloc (.map #[] 0)).alloc (.map #[] 0)) 3
    rw [show (((w.alloc (.cells #[.map (some (w.heap.size + 1)), .map (some (w.heap.size + 1 + 1)), .map (some (w.heap.size + 1 + 1 + 1))] 84)).alloc (.map #[] 0)).alloc (.map #[] 0)).heap.size = w.heap.size + 1 + 1 + 1 by simp] at h
    exact h
  · exact ((((Below.refl _ _).alloc (Nat.le_refl _) _).alloc (by simp) _).alloc (by simp; omega) _).alloc (by simp; omega) _
set_option maxRecDepth 100000 in
theorem of_any (k : BlockR) (w : World) (B : Nat) (hR : RdB w B k) (hA : AllL k.l) (hB : B ≤ w.heap.size) (hn : nodesS k.l ≤ 1048576) :
    Calls Tryd.prog 38 #[k.val] w (OfPost k.l w) := by
  obtain ⟨A, c, L⟩ := k
  simp only [BlockR.l] at hA hn
  have HX := Lib.hid (And.intro hR hA); clear hR hA
  show Calls Tryd.prog 38 #[.slice A L.length c] w _
  go_enter Tryd.func38, Tryd.ntmps38
  go_wp2_with (first
    | (go_at_call 59; (
       refine (new_any _).mono ?_
       rintro E w2 ⟨b1, b2, b3, rfl, h1, h2, h3, h12, h13, h23, m1, m2, m3, hb⟩
       unfold namesV
       simp only [World.size_alloc] at h1 h2 h3
       have hz := hb.size
       simp only [World.size_alloc] at hz
       have H2 := Lib.hid (And.intro h12 (And.intro h13 (And.intro h23 (And.intro m1 (And.intro m2 (And.intro m3 hb)))))); clear h12 h13 h23 m1 m2 m3 hb))
    | (go_at_call 60; (
       refine (show Calls _ _ _ _ _ from nblock_any (nodesS L + 1) (.mk A c L) _ B b1 b2 b3 [] [] [] (Nat.lt_succ_self _) (HX.out.1.keep fun p hp => ((((Below.refl w.heap.size w).alloc (Nat.le_refl _) (.cells #[.map none, .map none, .map none] 84)).trans (H2.out.2.2.2.2.2.2.mono (by simp))).alloc (by omega) _).cell (Nat.lt_of_lt_of_le hp hB)) HX.out.2 (by omega) (by omega) (by omega) H2.out.1 H2.out.2.1 H2.out.2.2.1 (by rw [cntF_nil]; exact H2.out.2.2.2.1.alloc _) (by rw [cntF_nil]; exact H2.out.2.2.2.2.1.alloc _) (by rw [cntF_nil]; exact H2.out.2.2.2.2.2.1.alloc _) (by simp only [List.length_nil, BlockR.l]; omega)).mono ?_
       rintro E w5 ⟨rfl, hn5⟩
       have hb1 := H2.out.2.2.2.1.lt
       have hb2 := H2.out.2.2.2.2.1.lt
       have hb3 := H2.out.2.2.2.2.2.1.lt
       have hnx := hn5.kept.blk (Blk.new w2 84 [.map (some b1), .map (some b2), .map (some b3)]) (by simp; omega)
       have hrx := hn5.kept.blk (((Blk.new w 84 [.map none, .map none, .map none]).below (B := w.heap.size + 1) (by have h := H2.out.2.2.2.2.2.2; simpa using h) (by omega)).alloc (.cells #[.map (some b1), .map (some b2), .map (some b3)] 84)) (by simp; omega)
       have y0 := hnx.cell 0
       have y1 := hnx.cell 1
       have y2 := hnx.cell 2
       have z0 := hrx.cell 0
       have z1 := hrx.cell 1
       have z2 := hrx.cell 2
       have f0 := hrx.frozen 0
       have f1 := hrx.frozen 1
       have f2 := hrx.frozen 2
       simp at y0 y1 y2 z0 z1 z2
       have hbw := (((Below.refl w.heap.size w).alloc (Nat.le_refl _) (.cells #[.map none, .map none, .map none] 84)).trans (H2.out.2.2.2.2.2.2.mono (by simp))).alloc (by omega) (.cells #[.map (some b1), .map (some b2), .map (some b3)] 84)
       have hbw := hbw.trans (hn5.kept.below (by simp; omega) (fun b hb => by simp at hb; omega))
       have H5 := Lib.hid (And.intro hn5 hbw); clear hn5 hbw hnx hrx)))
  refine bodyPost_ret (v := namesV b1 b2 b3) (by simp [results, Tryd.results38, go_sem, namesV, z0, z1, z2]) rfl ⟨b1, b2, b3, rfl, by omega, by omega, by omega, H2.out.1, H2.out.2.1, H2.out.2.2.1, ?_, ?_, ?_, ?_⟩
  · exact ((H5.out.1.m1.setCell (by simp; omega) _).setCell (by simp; omega) _).setCell (by simp; omega) _
  · exact ((H5.out.1.m2.setCell (by simp; omega) _).setCell (by simp; omega) _).setCell (by simp; omega) _
  · exact ((H5.out.1.m3.setCell (by simp; omega) _).setCell (by simp; omega) _).setCell (by simp; omega) _
  · exact ((H5.out.2.setCell (by simp) _).setCell (by simp) _).setCell (by simp) _
end Go.Proofs.YtgiceeholamphaaDoor
