/- The contract of graph.Span: the work and the longest way. No conditions but that what is read is there. -/
import Derived.Test.YtnepaaheiakimaaGraphChk
import Derived.Test.YtnepaaheiakimaaGraphEnd
import Derived.RegionTactic
import Derived.ChangeAlike
namespace Go.Proofs.Ytnepaaheiakimaa
open Go.ChangeShapes Go.WideShapes Go.ChangeAt Go.RowKit

theorem Good.valid {J : List JobR} (h : Good J) : Valid J := ⟨h.ok, h.few, h.short⟩
theorem Good.len {J : List JobR} (h : Good J) : ∀ i, i < J.length → 1 ≤ lenOf J i ∧ lenOf J i ≤ 1000 := fun i hi => by rw [lenOf_eq hi]; exact (h.ok i hi).1
theorem Good.inR {J : List JobR} (h : Good J) : ∀ i, ∀ a ∈ aft J i, okIn J.length a := h.valid.inR

def SpanPost (w : World) (J : List JobR) (e : Ending) (w' : World) : Prop :=
  ∃ a b : Int, e = .returned (.tuple #[.int .i64 a, .int .i64 b, .int .i64 (jobsCode J)]) ∧ Below w.heap.size w w' ∧ (jobsCode J ≠ 0 → a = 0 ∧ b = 0) ∧
    (jobsCode J = 0 → a = workTo J J.length ∧ ∀ E, IsEnd J E → b = spanTo E J.length)

set_option maxRecDepth 100000 in
set_option maxHeartbeats 2000000 in
theorem span_any (w : World) (B : Nat) (A : Option Addr) (c n : Nat) (J : List JobR) (hR : RdJobs w B A J) (hB : B ≤ w.heap.size) (hn : J.length = n) :
    Calls Try.prog 10 #[.slice A n c] w (SpanPost w J) := by
  have Hn := Lib.hid hn; clear hn
  have HR := Lib.hid hR; clear hR
  obtain ⟨jc, hjc⟩ : ∃ jc, jobsCode J = jc := ⟨_, rfl⟩
  have Hjc := Lib.hid hjc; clear hjc
  by_cases h0 : jc = 0
  · subst h0
    have hg := good_of_zero Hjc.out
    have hfew : n ≤ 200 := Hn.out ▸ hg.few
    obtain ⟨E, hE⟩ := exists_end hg.len hg.inR hg.can
    have hmk1 := fun W => run_make_row' (P := Try.prog) 38 3 (.int .i64 0) 8 Try.underlying38 info_int rfl .i64 .i64 n (by omega) (by omega) W
    have Hg := Lib.hid hg; clear hg
    have HE := Lib.hid hE; clear hE
    go_enter Try.func10, Try.ntmps10
    go_wp2_with (first
      | (go_at_call 17; refine (check_any _ B _ _ _ J HR.out hB Hn.out).mono ?_; rintro e w1 ⟨rfl, hb1⟩; rw [Hjc.out]; have hz1 := hb1.size; have Hb1 := Lib.hid hb1; clear hb1)
      | (go_at_call 24; refine (order_any _ B _ _ _ J (HR.out.below (Hb1.out.mono hB)) (by omega) Hn.out Hg.out.valid).mono ?_; rintro e w2 ⟨v2, out, rfl, hwh, hown, hb2⟩; have hz2 := hb2.size; have Hb2 := Lib.hid hb2; clear hb2; have Hwh := Lib.hid hwh; clear hwh; have hol : out.length = n := (Hwh.out.ok.2 Hg.out.can).trans Hn.out; rw [decide_eq_true (show out.length = J.length by rw [Hn.out]; exact hol)]; have Hol := Lib.hid hol; clear hol; obtain ⟨oA, oc, rfl, hoc, hoc'⟩ := own_form hown; rw [Hol.out]; unfold maxLen at hoc'; have Hown := Lib.hid hown; clear hown))
    have hrow := rd_own Hown.out
    have Hrow := Lib.hid hrow; clear hrow
    have hb0 : Blk (w2.alloc (.cells (madeCells #[.int .i64 0] n) 3)) w2.heap.size 3 (ints (fnI n fun j => if (j : Int) ∈ out.take 0 then E j else 0)) := Blk.newArr w2 _ (by
      rw [made_one, ← ints_rep]; congr 1; apply List.ext_getElem?; intro j; simp [fnI, List.getElem?_replicate]; split <;> simp_all)
    have hbe0 : Below w2.heap.size w2 (w2.alloc (.cells (madeCells #[.int .i64 0] n) 3)) := (Below.refl _ _).alloc (Nat.le_refl _) _
    have Hb0 := Lib.hid hb0; clear hb0
    have Hbe0 := Lib.hid hbe0; clear hbe0
    go_loopg [2, 3, 28] n (fun gk wk sp i wr => ∃ (k : Nat), gk + k = n ∧ i = .int .i64 k ∧ wk = .int .i64 (wS J (out.take k)) ∧ sp = .int .i64 (mS E (out.take k)) ∧ Below w2.heap.size w2 wr ∧
      Blk wr w2.heap.size 3 (ints (fnI n fun j => if (j : Int) ∈ out.take k then E j else 0)))
    case atStart => exact ⟨0, by omega, rfl, by simp [wS], by simp [mS], Hbe0.out, Hb0.out⟩
    case round =>
      obtain ⟨k, hgk, rfl, rfl, rfl, hbel, hblk⟩ := hrel
      have hws := wS_bound Hg.out.len (out.take k) (fun a ha => Hwh.out.inR a (List.mem_of_mem_take ha))
      have hms := mS_bound HE.out (out.take k) (fun a ha => Hwh.out.inR a (List.mem_of_mem_take ha))
      have hlt' : (out.take k).length ≤ n := by rw [List.length_take]; have := Hol.out; omega
      rw [Hn.out] at hms
      by_cases hlt : k < n
      · have hko : k < out.length := by have := Hol.out; omega
        obtain ⟨ob, oo, rfl, hob, co⟩ := (Hrow.out.below hbel).atMap hko
        obtain ⟨i0, i1⟩ := Hwh.out.inR _ (List.getElem_mem hko)
        have htopo := Hwh.out.topo k hko
        have hsn : wS J (out.take (k + 1)) = wS J (out.take k) + lenOf J out[k].toNat := by rw [List.take_succ_eq_append_getElem hko, wS_snoc]
        have hsm : mS E (out.take (k + 1)) = max (mS E (out.take k)) (E out[k].toNat) := by rw [List.take_succ_eq_append_getElem hko, mS_snoc]
        have htk : out.take (k + 1) = out.take k ++ [out[k]] := List.take_succ_eq_append_getElem hko
        have hnew : out[k] ∉ out.take k := fun hm => by
          have := Hwh.out.nodup
          rw [← List.take_append_drop k out] at this
          exact (List.nodup_append.1 this).2.2 _ hm _ (by rw [List.drop_eq_getElem_cons hko]; exact List.mem_cons_self) rfl
        rw [Hn.out] at i1
        generalize hi : out[k] = i at *
        obtain ⟨i, rfl⟩ := Int.eq_ofNat_of_zero_le i0
        simp only [Int.toNat_natCast] at hsn hsm htopo
        have hin : i < n := by omega
        have hiJ : i < J.length := by have := Hn.out; omega
        have hRw := HR.out.below (Hb1.out.mono hB) |>.below (Hb2.out.mono (Nat.le_trans hB hz1)) |>.below (hbel.mono (Nat.le_trans hB (Nat.le_trans hz1 hz2)))
        obtain ⟨jb, jo, rfl, hjb, c0, -, c2, -⟩ := hRw.at_ hiJ
        have hrd := (HR.out.below (Hb1.out.mono hB) |>.below (Hb2.out.mono (Nat.le_trans hB hz1))).after i hiJ
        have hlen := Hg.out.len i hiJ
        have haft := aft_eq hiJ
        have hlo := lenOf_eq hiJ
        have hsh := Hg.out.short i hiJ
        have hinr := Hg.out.inR i
        have hEi := HE.out.eq i hiJ
        have hEl := HE.out.lo i hiJ
        have hEh := HE.out.hi i hiJ
        rw [haft] at hinr htopo
        rw [Hn.out] at hinr hEh
        obtain ⟨j, hj⟩ : ∃ j, J[i] = j := ⟨_, rfl⟩
        rw [hj] at c0 c2 hrd haft hlo hsh hinr htopo
        obtain ⟨jl, ju, jn, sA, sc, af⟩ := j
        dsimp only at c0 c2 hrd haft hlo hsh hinr htopo
        rw [hlo] at hlen hsn hEi
        have Hlo := Lib.hid hlo
        have Haft := Lib.hid haft; clear haft
        have Hhi := Lib.hid hi; clear hi
        have Hsn := Lib.hid hsn; clear hsn
        have Hsm := Lib.hid hsm; clear hsm
        have Htk := Lib.hid htk; clear htk
        have Hnew := Lib.hid hnew; clear hnew
        have Htopo := Lib.hid htopo; clear htopo
        have Hinr := Lib.hid hinr; clear hinr
        have HEi := Lib.hid hEi; clear hEi
        have Hbel := Lib.hid hbel; clear hbel
        have Hblk := Lib.hid hblk; clear hblk
        have Hrd := Lib.hid hrd; clear hrd
        clear hRw hlo hj
        go_wp2
        obtain ⟨wo, rfl⟩ : ∃ wo : World, wo = wr := ⟨_, rfl⟩
        obtain ⟨go, rfl⟩ : ∃ go : Nat, go = gk := ⟨_, rfl⟩
        go_loopg [38] af.length (fun gk q wr => ∃ (m : Nat), gk + m = af.length ∧ q = .int .i64 m ∧ Below w2.heap.size w2 wr ∧
          Blk wr w2.heap.size 3 (ints (fnI n fun j => if j = i then mxTo J E i m else if (j : Int) ∈ out.take k then E j else 0)))
        case atStart =>
          refine ⟨0, by omega, rfl, Hbel.out, ?_⟩
          have h := Hblk.out
          rwa [fnI_congr (g := fun j => if j = i then mxTo J E i 0 else if (j : Int) ∈ out.take k then E j else 0) (fun j _ => by
            by_cases e : j = i
            · subst e; simp [mxTo_zero]; intro h; exact absurd h Hnew.out
            · simp [e])] at h
        case round =>
          obtain ⟨m, hgm, rfl, hbel, hblk⟩ := hrel
          have hmx := mxTo_bound HE.out Hg.out.inR i m
          rw [Hn.out] at hmx
          by_cases hm : m < af.length
          · obtain ⟨ab, ao, rfl, hab, ca⟩ := (Hrd.out.below (hbel.mono (Nat.le_trans hB (Nat.le_trans hz1 hz2)))).atMap hm
            have hxi := Hinr.out _ (List.getElem_mem hm)
            have hxt := Htopo.out _ (List.getElem_mem hm)
            have hsucc := mxTo_succ (J := J) (E := E) (i := i) (q := m) (by rw [Haft.out]; exact hm)
            rw [List.getElem_of_eq Haft.out] at hsucc
            generalize hx : af[m] = x at *
            obtain ⟨x0, x1⟩ := hxi
            obtain ⟨x, rfl⟩ := Int.eq_ofNat_of_zero_le x0
            simp only [Int.toNat_natCast] at hsucc
            have hxn : x < n := by omega
            have hxi : x ≠ i := fun e => Hnew.out (e ▸ hxt)
            have hci : wr.cell? ⟨w2.heap.size, i, none⟩ = some (.int .i64 (mxTo J E i m)) := by rw [hblk.cell]; simp [ints, fnI, hin]
            have hcx : wr.cell? ⟨w2.heap.size, x, none⟩ = some (.int .i64 (E x)) := by rw [hblk.cell]; simp [ints, fnI, hxn, hxi, hxt]
            have hfi := hblk.frozen i
            have hEx0 := HE.out.lo x (by have := Hn.out; omega)
            have hEx1 := HE.out.hi x (by have := Hn.out; omega)
            have hset := hblk.set_ i (.int .i64 (mxTo J E i (m + 1)))
            rw [ints_set, fnI_set (g := fun j => if j = i then mxTo J E i (m + 1) else if (j : Int) ∈ out.take k then E j else 0) (by simp) (fun j _ hj => by simp [hj]), hsucc] at hset
            have Hset := Lib.hid hset; clear hset
            have Hbel2 := Lib.hid hbel; clear hbel
            have Hsucc := Lib.hid hsucc; clear hsucc
            clear hblk hxt hx hxi
            generalize hM : mxTo J E i m = M at *
            generalize hEX : E x = EX at *
            clear hM hEX
            go_wp2
            go_region
            all_goals go_wp2
            all_goals
              go_roundg (gk - 1)
              case measure => omega
              case rel =>
                refine ⟨m + 1, by omega, by go_num, ?_, ?_⟩
                · exact (Hbel2.out.setCell (Nat.le_refl _) _).drew
                · rw [Hsucc.out]
                  have h := Hset.out
                  first
                    | (rw [show max M EX = EX by omega] at h ⊢; exact h.drew)
                    | (rw [show max M EX = M by omega] at h ⊢; exact h.drew)
          · have hmm : m = af.length := by omega
            subst hmm
            have hEi2 : mxTo J E i af.length + jl = E i := by have := HEi.out; rw [mxOf, Haft.out] at this; exact this.symm
            have hc0 := (HR.out.below (Hb1.out.mono hB) |>.below (Hb2.out.mono (Nat.le_trans hB hz1)) |>.below (hbel.mono (Nat.le_trans hB (Nat.le_trans hz1 hz2)))).at_ hiJ
            obtain ⟨b', o', e', hjb', c0', -, -, -⟩ := hc0
            obtain ⟨rfl, rfl⟩ : jb = b' ∧ jo = o' := by injection e' with e'; injection e' with e1 e2; exact ⟨e1, e2⟩
            rw [← lenOf_eq hiJ, Hlo.out] at c0'
            clear e'
            have hci : wr.cell? ⟨w2.heap.size, i, none⟩ = some (.int .i64 (mxTo J E i af.length)) := by rw [hblk.cell]; simp [ints, fnI, hin]
            have hfi := hblk.frozen i
            have hne1 : ¬ (jb = w2.heap.size) := by omega
            have hne2 : ¬ (w2.heap.size = jb) := by omega
            have hset := hblk.set_ i (.int .i64 (E i))
            rw [ints_set, fnI_set (g := fun j => if (j : Int) ∈ out.take (k + 1) then E j else 0) (by simp [Htk.out]) (fun j _ hj => by
              have : ¬ ((j : Int) = (i : Int)) := by omega
              simp [Htk.out, hj, this])] at hset
            have Hset := Lib.hid hset; clear hset
            have Hbel2 := Lib.hid hbel; clear hbel
            clear hblk
            generalize hM : mxTo J E i af.length = M at *
            generalize hEX : E i = EX at *
            generalize hS : mS E (out.take k) = S at *
            generalize hW : wS J (out.take k) = W at *
            have HEi2 := Lib.hid hEi2
            have hM2 : M + jl ≤ 1000 * (n : Int) := by omega
            clear hM hEX hS hW hEi2
            go_wp2
            go_region
            all_goals go_wp2
            all_goals
              have Hmax := Lib.hid Hsm.out
              go_roundg (go - 1)
              case measure => omega
              case rel =>
                have e2 := HEi2.out
                refine ⟨k + 1, by omega, by go_num, congrArg (Value.int .i64) Hsn.out.symm, congrArg (Value.int .i64) ?_, (Hbel2.out.setCell (Nat.le_refl _) _).drew, ?_⟩
                · rw [Hmax.out]; omega
                · rw [e2]; exact Hset.out.drew
      · have htk : out.take k = out := List.take_of_length_le (by have := Hol.out; omega)
        have hw : wS J (out.take k) = workTo J J.length := by rw [htk, wS_perm (Hwh.out.perm Hg.out.can), wS_all]
        have hm : mS E (out.take k) = spanTo E J.length := by rw [htk, mS_perm (Hwh.out.perm Hg.out.can), mS_all]
        rw [hw] at hws
        rw [hm] at hms
        rw [hw, hm]
        have hbel2 := Hb1.out.trans ((Hb2.out.mono hz1).trans (hbel.mono (Nat.le_trans hz1 hz2)))
        have Hbel2 := Lib.hid hbel2; clear hbel2 hbel hblk htk hw hm
        go_wp2
        go_ret3
        refine ⟨workTo J J.length, spanTo E J.length, ?_, Hbel2.out, fun h => absurd Hjc.out h, fun _ => ⟨rfl, fun F hF => HE.out.span hF Hg.out.can _ (Nat.le_refl _)⟩⟩
        rw [Hjc.out]; rfl
  · have h0' : (jc == 0) = false := beq_eq_false_iff_ne.2 h0
    have h1' : (jc != 0) = true := bne_iff_ne.2 h0
    go_enter Try.func10, Try.ntmps10
    go_wp2_with (first
      | (go_at_call 17; refine (check_any _ B _ _ _ J HR.out hB Hn.out).mono ?_; rintro e w1 ⟨rfl, hb1⟩; rw [Hjc.out]; have Hb1 := Lib.hid hb1; clear hb1))
    go_ret3
    refine ⟨0, 0, by rw [Hjc.out]; rfl, Hb1.out, fun _ => ⟨rfl, rfl⟩, fun h => absurd (Hjc.out.symm.trans h) h0⟩
end Go.Proofs.Ytnepaaheiakimaa
