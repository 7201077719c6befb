/- The contracts of stepref.reads, uses: how a program uses a name. No conditions but that what is read is there. -/
import Derived.Test.YtgiceeholamphaaDoorRefN
namespace Go.Proofs.YtgiceeholamphaaDoor
open Go.ChangeShapes Go.WideShapes Go.ChangeAt Go.RowKit Go.Maps

noncomputable def memB (s : ByteArray) (l : List ByteArray) : Bool := @decide (s ∈ l) (Classical.propDecidable _)
theorem memB_true {s : ByteArray} {l : List ByteArray} (h : s ∈ l) : memB s l = true := @decide_eq_true _ (Classical.propDecidable _) h
theorem memB_false {s : ByteArray} {l : List ByteArray} (h : s ∉ l) : memB s l = false := @decide_eq_false _ (Classical.propDecidable _) h
theorem memB_iff {s : ByteArray} {l : List ByteArray} : memB s l = true ↔ s ∈ l := @decide_eq_true_iff _ (Classical.propDecidable _)
theorem memB_nil (s : ByteArray) : memB s [] = false := memB_false (by simp)
theorem memB_append (s : ByteArray) (l m : List ByteArray) : memB s (l ++ m) = (memB s l || memB s m) := by
  rw [Bool.eq_iff_iff, Bool.or_eq_true, memB_iff, memB_iff, memB_iff, List.mem_append]
theorem memB_one (s t : ByteArray) : memB s [t] = decide (t = s) := by
  by_cases h : t = s
  · rw [decide_eq_true h]; exact memB_true (by simp [h])
  · rw [decide_eq_false h]; exact memB_false (by simp; exact fun e => h e.symm)
def BoolPost (t : Bool) (w : World) (E : Ending) (w' : World) : Prop := E = .returned (.bool t) ∧ Below w.heap.size w w'
set_option maxRecDepth 100000 in
set_option maxHeartbeats 2000000 in
theorem reads_any : ∀ (e : ExprR) (w : World) (B : Nat) (s : ByteArray), RdE w B e → B ≤ w.heap.size → Calls Tryd.prog 63 #[e.val, .string s] w (BoolPost (memB s e.names) w) := by
  refine ExprR.ind fun e ih => ?_
  intro w B s hR hB
  have hrow := hR.row
  have heach := fun k (hk : k ∈ e.kids) => hR.kid hk
  have hnm : (e.kind = 2 → e.names = [e.name] ++ namesE e.kids) ∧ (e.kind ≠ 2 → e.names = namesE e.kids) := ⟨fun h => by rw [e.names_eq, if_pos h], fun h => by rw [e.names_eq, if_neg h]; rfl⟩
  have hfit := hR.fits
  obtain ⟨kind, m, name, sA, sc, kids⟩ := e
  simp only [ExprR.kids, ExprR.kind, ExprR.name, ExprR.sA] at ih hrow heach hnm hfit
  unfold Fits at hfit
  have hsame := same_name name s
  have H := Lib.hid (And.intro ih (And.intro hrow (And.intro heach hnm))); clear ih hrow heach hnm hR
  have key : ∀ hit : Bool, (if kind = 2 then decide (name = s) else false) = hit → Calls Tryd.prog 63 #[.agg #[.int .i64 kind, .int .i64 m, .string name, .slice sA kids.length sc], .string s] w (BoolPost (memB s (ExprR.mk kind m name sA sc kids).names) w) := by
    intro hit hhit
    cases hit with
    | true =>
      by_cases k2 : kind = 2
      · subst k2
        rw [if_pos rfl] at hhit
        rw [hhit] at hsame
        have hres : memB s (ExprR.mk 2 m name sA sc kids).names = true := by
          rw [H.out.2.2.2.1 rfl, memB_append, memB_one, hhit]; rfl
        have HR := Lib.hid hres
        clear hres hhit
        go_enter Tryd.func63, Tryd.ntmps63
        go_wp2_with fail
        go_ret
        exact ⟨by rw [HR.out]; rfl, (Below.refl _ _).alloc (Nat.le_refl _) _⟩
      · rw [if_neg k2] at hhit; cases hhit
    | false =>
      have hres0 : memB s (ExprR.mk kind m name sA sc kids).names = memB s (namesE kids) := by
        by_cases k2 : kind = 2
        · rw [if_pos k2] at hhit; rw [H.out.2.2.2.1 k2, memB_append, memB_one, hhit]; rfl
        · rw [H.out.2.2.2.2 k2]
      rw [hres0]
      clear hres0
      go_enter Tryd.func63, Tryd.ntmps63
      go_upto_region 1 with (fail)
      generalize hW : w.alloc (.cells #[.int .i64 kind, .int .i64 m, .string name, .slice sA kids.length sc] 46) = W
      obtain ⟨hbw, hzw, hxw⟩ := box_factsN (c := [.int .i64 kind, .int .i64 m, .string name, .slice sA kids.length sc]) hW
      clear hW
      have y0 := hxw.cell 0
      have y2 := hxw.cell 2
      have y3 := hxw.cell 3
      simp at y0 y2 y3
      go_cut [14] (fun s14 wc => s14 = .bool false ∧ W = wc)
      case first => as_aux_lemma =>
        by_cases k2 : kind = 2
        · subst k2
          rw [if_pos rfl] at hhit
          rw [hhit] at hsame
          clear hhit
          go_wp2_with fail
          go_meet
          case rel => exact ⟨rfl, rfl⟩
        · have e2 : (kind == 2) = false := beq_eq_false_iff_ne.2 k2
          clear hhit hsame
          go_wp2_with fail
          go_meet
          case rel => exact ⟨rfl, rfl⟩
      case rest =>
        obtain ⟨rfl, rfl⟩ := hcut
        have H3 := Lib.hid hbw; clear hbw hxw y0 y2 hhit hsame
        go_wp2_with fail
        go_loopg [5] kids.length (fun gk i wr => ∃ q : Nat, gk + q = kids.length ∧ i = .int .i64 q ∧ memB s (namesE (kids.take q)) = false ∧ Below (w.heap.size + 1) W wr)
        case atStart => exact ⟨0, by omega, rfl, by rw [List.take_zero, namesE]; exact memB_nil s, Below.refl _ _⟩
        case round =>
          obtain ⟨q, hgq, rfl, hl, hb⟩ := hrel
          have y3r : wr.cell? ⟨w.heap.size, 3, none⟩ = some (.slice sA kids.length sc) := (hb.cell (p := ⟨w.heap.size, 3, none⟩) (Nat.lt_succ_self _)).trans y3
          clear y3
          by_cases hq : q < kids.length
          · obtain ⟨b, o, rfl, hbB, hc⟩ := H.out.2.1.at_ (i := q) hq
            have hz := hb.size
            have hkeep : ∀ p : Addr, p.block < B → wr.cell? p = w.cell? p := fun p hp => (hb.cell (by omega)).trans (H3.out.cell (by omega))
            have hc := hc.keep hbB hkeep
            have hRk := (H.out.2.2.1 _ (List.getElem_mem hq)).keep hkeep
            have hih := H.out.1 _ (List.getElem_mem hq)
            have hnx : namesE (kids.take (q + 1)) = namesE (kids.take q) ++ (kids[q]).names := by rw [take_snocA hq, namesE_append]; simp [namesE]
            have hmm : (kids[q]).names ⊆ namesE kids := fun t ht => by
              have h3 : namesE kids = namesE (kids.take (q + 1)) ++ namesE (kids.drop (q + 1)) := by rw [← namesE_append, List.take_append_drop]
              rw [h3, hnx]; simp [ht]
            obtain ⟨k, hke⟩ : ∃ k, kids[q] = k := ⟨_, rfl⟩
            rw [hke] at hc hRk hih hnx hmm
            have hcall := hih wr B s hRk (by omega)
            generalize hkn : memB s k.names = hit at *
            obtain ⟨kk, kn, ks, kA, kc, kl⟩ := k
            obtain ⟨c0, c1, c2, c3⟩ := hc
            simp only [ExprR.kind, ExprR.n, ExprR.name, ExprR.sA, ExprR.sc, ExprR.kids] at c0 c1 c2 c3
            have H5 := Lib.hid (And.intro hb (And.intro hcall (And.intro hnx (And.intro hmm (And.intro hkn hl))))); clear hb hcall hnx hl hRk hih hke hkeep hmm hkn
            cases hit
            · go_wp2_with (go_at_call 63; (
                refine (show Calls _ _ _ _ _ from H5.out.2.1).mono ?_
                rintro E w5 ⟨rfl, hb2⟩
                have H6 := Lib.hid hb2; clear hb2))
              go_roundg (gk - 1)
              case measure => omega
              case rel => exact ⟨q + 1, by omega, by go_num, by rw [H5.out.2.2.1, memB_append, H5.out.2.2.2.2.1, H5.out.2.2.2.2.2]; rfl, H5.out.1.trans (H6.out.mono (by omega))⟩
            · have hres : memB s (namesE kids) = true := memB_true (H5.out.2.2.2.1 (memB_iff.1 H5.out.2.2.2.2.1))
              have HR := Lib.hid hres; clear hres
              go_wp2_with (go_at_call 63; (
                refine (show Calls _ _ _ _ _ from H5.out.2.1).mono ?_
                rintro E w5 ⟨rfl, hb2⟩
                have H6 := Lib.hid hb2; clear hb2))
              go_ret
              exact ⟨by rw [HR.out]; rfl, H3.out.trans ((H5.out.1.trans (H6.out.mono (by omega))).mono (by omega))⟩
          · have hend : kids.take q = kids := List.take_of_length_le (by omega)
            rw [hend] at hl
            have H5 := Lib.hid (And.intro hb hl); clear hl hb hend
            go_wp2_with fail
            go_ret
            exact ⟨by rw [H5.out.2]; rfl, H3.out.trans (H5.out.1.mono (by omega))⟩
  exact key _ rfl
end Go.Proofs.YtgiceeholamphaaDoor
