/- The law stepkeep.PhaseSame's body in company, told of the lone world: true. No conditions but those named. -/
import Derived.Test.YticdjkkcfdbdcaaPhLa
namespace Go.Proofs.Yticdjkkcfdbdcaa
open Go.Conc Go.ConcN Go.RowKit Go.ChangeShapes Go.WideShapes Go.ChangeAt
set_option maxRecDepth 100000 in
theorem res_4 : ResFn Try.prog 4 := resB_ok Try.func4 (by kernel_rfl)
theorem results_4 : Try.f4.results = #[.tmp 6] := by kernel_rfl
theorem run_as4 (e : Operand → Value) (o : Oper) {x : Operand} (hop : o.op = .assign x) (w : World) : (execOp e o).runT Try.prog w #[] = (.ok (.value (e x)) w, #[]) := by simp [go_sem, hop, execOp]
theorem build_do (e : Operand → Value) (o : Oper) (w : World) (hop : o.op = .build 31 #[(0, .const (.int .i64 1)), (2, .const (.int .i64 5))]) (h0 : e (.const (.int .i64 1)) = .int .i64 1) (h2 : e (.const (.int .i64 5)) = .int .i64 5) : (execOp e o).run Try.prog w = .ok (.value (.agg #[.int .i64 1, .int .i64 0, .int .i64 5])) w := by
  simp [go_sem, hop, h0, h2, execOp]
theorem slice_do (e : Operand → Value) (o : Oper) (w : World) {t : Nat} (hop : o.op = .buildSlice 32 1 #[(0, .tmp t)]) {x y z : Int} (h1 : e (.tmp t) = .agg #[.int .i64 x, .int .i64 y, .int .i64 z]) : (execOp e o).run Try.prog w = .ok (.value (.slice (some ⟨w.heap.size, 0, none⟩) 1 1)) (w.alloc (.cells #[.int .i64 x, .int .i64 y, .int .i64 z] 31)) := by
  simp [go_sem, hop, h1, execOp]
theorem slice_dos (e : Operand → Value) (o : Oper) (w : World) {t : Nat} (hop : o.op = .buildSlice 22 1 #[(0, .tmp t)]) {A : Option Addr} {l c : Nat} (h1 : e (.tmp t) = .slice A l c) : (execOp e o).run Try.prog w = .ok (.value (.slice (some ⟨w.heap.size, 0, none⟩) 1 1)) (w.alloc (.cells #[.slice A l c] 32)) := by
  simp [go_sem, hop, h1, execOp]
/-- What a run leaves: an error, or what all runs that are right leave. -/
theorem runS (D : List DosR) : ∃ (k : Nat) (ys : List Int), (dosCode D = 0 → ys.length = D.length ∧ ∀ m : Nat, (∀ i (h : i < D.length), syncs D[i].ds ≤ m) → k ≤ m + 1) ∧
    ∀ wk v L L1, RunPM D wk L v L1 → ∃ p l c m code, v = .tuple #[.slice p l c, .int .i64 m, .int .i64 code] ∧ Keeps L L1 ∧ (code ≠ 0 ∨ (code = 0 ∧ dosCode D = 0 ∧ m = k ∧ l = ys.length ∧ Rd L1 L1.heap.size p (ints ys))) := by
  obtain ⟨k, ps, hP⟩ := Phs.ex _ (startP D) (Nat.le_refl _)
  have hlen : (ps.map (·.num)).length = D.length := by rw [List.length_map, phs_length hP, startP_length]
  refine ⟨k, ps.map (·.num), fun h0 => ⟨hlen, fun m hm => hP.few (n := D.length) (fun p hp d hd => ?_) fun p hp => ?_⟩, fun wk v L L1 h => ?_⟩
  · obtain ⟨l, hl, rfl⟩ := List.mem_map.1 hp
    exact (dosCode_zero h0).2.2 l hl d hd
  · obtain ⟨l, hl, rfl⟩ := List.mem_map.1 hp
    obtain ⟨i, hi, rfl⟩ := List.getElem_of_mem hl
    have := hm i hi
    show weight D[i].ds ≤ _
    unfold weight
    split <;> omega
  · by_cases h0 : runCode D wk = 0
    · obtain ⟨k', ps', u, h1, rfl, h3⟩ := h.1 h0
      obtain ⟨rfl, rfl⟩ := hP.det h1
      obtain ⟨p, cc, rfl, _, _⟩ := own_form h3
      exact ⟨p, _, cc, _, _, rfl, kp_keeps h.2.2, .inr ⟨rfl, (runCode_zero h0).1, rfl, hlen.symm, own_rd h3 rfl⟩⟩
    · exact ⟨_, _, _, _, _, h.2.1 h0, kp_keeps h.2.2, .inl h0⟩
theorem one_phs (A : Option Addr) (c : Nat) : Phs (startP [⟨A, c, [⟨1, 0, 5⟩]⟩]) 1 [⟨[], 5, [], []⟩] := by
  refine .step ⟨_, List.mem_cons_self .., by simp⟩ ?_
  have : phaseAll (startP [⟨A, c, [⟨1, 0, 5⟩]⟩]) = [⟨[], 5, [], []⟩] := by
    simp [phaseAll, startP, ranP, runP, mailTo, w64]
    decide +kernel
  rw [this]
  exact .done (by simp)
theorem one_code (A : Option Addr) (c : Nat) : runCode [⟨A, c, [⟨1, 0, 5⟩]⟩] 1 = 0 := by
  have h : dosCode [⟨A, c, [⟨1, 0, 5⟩]⟩] = 0 := by
    unfold dosCode
    rw [if_neg (by simp [okDo]), if_neg (by simp [Large])]
  unfold runCode
  rw [if_neg (by simp [h]), if_pos (by unfold wkOk; decide)]
theorem one_run {A : Option Addr} {c : Nat} {v : Value} {L L1 : World} (h : RunPM [⟨A, c, [⟨1, 0, 5⟩]⟩] 1 L v L1) : ∃ g c', v = .tuple #[.slice (some ⟨g, 0, none⟩) 1 c', .int .i64 1, .int .i64 0] ∧ L1.cell? ⟨g, 0, none⟩ = some (.int .i64 5) ∧ g < L1.heap.size ∧ Keeps L L1 := by
  obtain ⟨k', ps', u, h1, rfl, h3⟩ := h.1 (one_code A c)
  obtain ⟨rfl, rfl⟩ := (one_phs A c).det h1
  obtain ⟨g, c', e, _, hg, hc⟩ := own_cells h3 (by simp)
  cases e
  refine ⟨g, c', rfl, ?_, hg, kp_keeps h.2.2⟩
  rw [hc 0 (by simp)]
  rfl
theorem one_rd {W : World} {g : Nat} (h0 : W.heap[g]? = some (.cells #[.int .i64 1, .int .i64 0, .int .i64 5] 31 (0, 0))) (h1 : W.heap[g + 1]? = some (.cells #[.slice (some ⟨g, 0, none⟩) 1 1] 32 (0, 0))) :
    RdAll W W.heap.size (some ⟨g + 1, 0, none⟩) [⟨some ⟨g, 0, none⟩, 1, [⟨1, 0, 5⟩]⟩] := by
  refine ⟨fun _ => ⟨g + 1, 0, rfl, (Array.getElem?_eq_some_iff.1 h1).1, fun k hk => ?_⟩, fun k hk => ?_, fun k hk => ?_, by simp [Fits]⟩
  · obtain rfl : k = 0 := by simp at hk; exact hk
    simp [World.cell?, h1]
  · obtain rfl : k = 0 := by simp at hk; exact hk
    refine ⟨fun _ => ⟨g, 0, rfl, (Array.getElem?_eq_some_iff.1 h0).1, fun j hj => ?_⟩⟩
    obtain rfl : j = 0 := by simp at hj; exact hj
    simp [World.cell?, h0]
  · obtain rfl : k = 0 := by simp at hk; exact hk
    simp [Fits]
theorem syncs_succ {l : List DoR} {j : Nat} (h : j < l.length) : syncs (l.take (j + 1)) = syncs (l.take j) + if l[j].kind = 4 then 1 else 0 := by
  rw [List.take_add_one, List.getElem?_eq_getElem h]
  simp only [syncs, List.filter_append, List.length_append, Option.toList_some, List.filter_cons, List.filter_nil]
  by_cases e : l[j].kind = 4
  · simp [e]
  · simp [e]
theorem syncs_le (l : List DoR) : syncs l ≤ l.length := List.length_filter_le ..
end Go.Proofs.Yticdjkkcfdbdcaa

/- The law stepkeep.PhaseSame's body: its end: syncs are counted, what the runs gave is held together. No conditions but those named. -/
namespace Go.Proofs.Yticdjkkcfdbdcaa
open Go.Conc Go.ConcN Go.RowKit Go.ChangeShapes Go.WideShapes Go.ChangeAt
set_option maxRecDepth 100000 in
set_option maxHeartbeats 4000000 in
theorem same_end {u1 u2 u3 u4 u5 u6 u7 u8 u9 u16 u17 u18 u19 u20 u21 u22 u23 u24 u25 u26 u27 u28 u29 u30 u31 u32 u33 u34 u35 u36 u37 u38 u39 u40 u41 u42 u43 u44 u45 u46 u47 u48 u49 u50 u51 u52 u53 u54 u55 u56 u57 u58 u59 u60 u61 u62 u63 u64 u65 u66 u67 u68 u69 u70 u71 u72 u73 u74 u75 u76 u77 u78 u79 u80 u81 u82 u83 u84 u85 u86 u87 u88 u89 u90 u91 u92 u93 u94 u95 u96 u97 u98 u99 u100 u101 u102 u103 u104 u105 u106 u107 u108 u109 u110 u111 u112 u113 u114 : Value} {A p1 p2 : Option Addr} {n c c1 c2 : Nat} {kk : Nat} {ys : List Int} {D : List DosR} {L7 : World} (hn : D.length = n) (hd : dosCode D = 0) (hk : ys.length = D.length ∧ ∀ m : Nat, (∀ i (h : i < D.length), syncs D[i].ds ≤ m) → kk ≤ m + 1)
    (hR : RdAll L7 L7.heap.size A D) (h1 : Rd L7 L7.heap.size p1 (ints ys)) (h2 : Rd L7 L7.heap.size p2 (ints ys)) {r0 r1 r2 r3 code : Code} (hcode : Try.f4.body = some (.seq r0 (.seq r1 (.seq r2 (.seq r3 code))))) :
    code.wp Try.prog (MpPost fun e a1 _ => (e = .normal ∨ e = .ret) ∧ pack (resVals Try.f4 a1.tmps) = .bool true) ⟨#[.slice A n c, u1, u2, u3, u4, u5, u6, u7, u8, u9, .slice p1 ys.length c1, .int .i64 kk, .int .i64 0, .slice p2 ys.length c2, .int .i64 kk, .int .i64 0, u16, u17, u18, u19, u20, u21, u22, u23, u24, u25, u26, u27, u28, u29, u30, u31, u32, u33, u34, u35, u36, u37, u38, u39, u40, u41, u42, u43, u44, u45, u46, u47, u48, u49, u50, u51, u52, u53, u54, u55, u56, u57, u58, u59, u60, u61, u62, u63, u64, u65, u66, u67, u68, u69, u70, u71, u72, u73, u74, u75, u76, u77, u78, u79, u80, u81, u82, u83, u84, u85, u86, u87, u88, u89, u90, u91, u92, u93, u94, u95, u96, u97, u98, u99, u100, u101, u102, u103, u104, u105, u106, u107, u108, u109, u110, u111, u112, u113, u114], []⟩ L7 := by
  have hcode' := (show Try.f4.body = some (.seq _ (.seq _ (.seq _ (.seq _ _)))) from rfl).symm.trans hcode
  have hc2 := Option.some.inj hcode'
  injection hc2 with hx hc2
  clear hx
  injection hc2 with hx hc2
  clear hx
  injection hc2 with hx hc2
  clear hx
  injection hc2 with hx hc2
  clear hx
  subst hc2
  clear hcode hcode'
  obtain ⟨z1, z2, _⟩ := dosCode_zero hd
  have hsame : ∀ W : World, W.heap = L7.heap → Calls Try.prog 17 #[.slice p1 ys.length c1, .slice p2 ys.length c2] W fun e w' => e = .returned (.bool true) ∧ Keeps L7 w' := fun W e => by
    have q1 : Rd W W.heap.size p1 (ints ys) := (h1.kept (Nat.le_refl _) (.eq e)).more (by rw [e]; exact Nat.le_refl _)
    have q2 : Rd W W.heap.size p2 (ints ys) := (h2.kept (Nat.le_refl _) (.eq e)).more (by rw [e]; exact Nat.le_refl _)
    refine (same_s W W.heap.size p1 p2 c1 c2 ys q1 q2 (Nat.le_refl _) (by omega)).mono ?_
    rintro e' w' ⟨rfl, hb⟩
    exact ⟨rfl, (Keeps.eq e).trans (Keeps.below hb)⟩
  have HSm := Lib.hid hsame; clear hsame h1 h2
  have Hds := Lib.hid z2
  have Hk := Lib.hid hk
  have hyn : ys.length = n := by rw [hk.1, hn]
  have hn200 : n ≤ 200 := by rw [← hn]; exact z1
  have Hn := Lib.hid hn
  have HR := Lib.hid hR
  clear hk hn hR z1 z2 hd
  rw [hyn] at HSm ⊢
  clear hyn
  go_wp2
  go_loopg [16, 67] n (fun gk mv iv wr => ∃ (i m : Nat), gk + i = n ∧ iv = .int .i64 i ∧ mv = .int .i64 m ∧ m ≤ 1000 ∧ L7 = wr ∧ ∀ j (h : j < D.length), j < i → syncs D[j].ds ≤ m)
  case atStart => exact ⟨0, 0, by omega, rfl, rfl, by omega, rfl, fun j _ h => absurd h (by omega)⟩
  case round =>
    obtain ⟨i, m, hgi, rfl, rfl, hm, rfl, hs⟩ := hrel
    have Hs := Lib.hid hs; clear hs
    by_cases hi : i < n
    · have hiD : i < D.length := by rw [Hn.out]; exact hi
      obtain ⟨ob, oo, rfl, hob, c0⟩ := HR.out.at_ hiD
      have hl := Hds.out D[i] (List.getElem_mem hiD)
      have hE := HR.out.each i hiD
      obtain ⟨d, hdd⟩ : ∃ d, D[i] = d := ⟨_, rfl⟩
      rw [hdd] at c0 hl hE
      obtain ⟨Ad, cd, ds⟩ := d
      dsimp only at c0 hl hE
      obtain ⟨ln, hln⟩ : ∃ ln, ds.length = ln := ⟨_, rfl⟩
      rw [hln] at c0 hl
      have HE := Lib.hid (And.intro hE (And.intro hln hdd)); clear hE hln hdd
      obtain ⟨gO, rfl⟩ : ∃ gO : Nat, gO = gk := ⟨_, rfl⟩
      go_wp2
      go_loopg [18, 75] ln (fun gk kv jv wq => ∃ (j s : Nat), gk + j = ln ∧ jv = .int .i64 j ∧ kv = .int .i64 s ∧ s ≤ j ∧ L7 = wq ∧ s = syncs (ds.take j))
      case atStart => exact ⟨0, 0, by omega, rfl, rfl, by omega, rfl, by simp [syncs]⟩
      case round =>
        obtain ⟨j, s, hgj, rfl, rfl, hsj, rfl, hsy⟩ := hrel
        have Hsy := Lib.hid hsy; clear hsy
        by_cases hj : j < ln
        · have hjD : j < ds.length := by rw [HE.out.2.1]; exact hj
          obtain ⟨db, dO, rfl, hdb, d0, d1, d2⟩ := HE.out.1.at_ hjD
          have hsuc := syncs_succ hjD
          rw [← Hsy.out] at hsuc
          generalize ds[j].kind = kd at d0 hsuc
          clear d1 d2
          by_cases hkd : kd = 4
          · subst hkd
            have Hsuc := Lib.hid hsuc; clear hsuc
            go_wp2
            go_roundg (gk - 1)
            case measure => omega
            case rel => exact ⟨j + 1, s + 1, by omega, by go_num, by go_num, by omega, rfl, by rw [Hsuc.out]; simp⟩
          · have Hsuc := Lib.hid (And.intro hsuc hkd); clear hsuc
            go_wp2
            go_roundg (gk - 1)
            case measure => omega
            case rel => exact ⟨j + 1, s, by omega, by go_num, rfl, by omega, rfl, by rw [Hsuc.out.1, if_neg Hsuc.out.2]; rfl⟩
        · have hall : s = syncs ds := by rw [Hsy.out, List.take_of_length_le (by rw [HE.out.2.1]; omega)]
          have Hall := Lib.hid hall; clear hall
          rcases Nat.lt_or_ge m s with hms | hms
          rotate_left
          · have hms' : ¬ (m : Int) < (s : Int) := by omega
            go_wp2
            go_roundg (gO - 1)
            case measure => omega
            case rel => exact ⟨i + 1, m, by omega, by go_num, rfl, by omega, rfl, fun j' hj' hlt => by
              by_cases e : j' < i
              · exact Hs.out j' hj' e
              · obtain rfl : j' = i := by omega
                rw [HE.out.2.2]
                show syncs ds ≤ _
                rw [← Hall.out]
                omega⟩
          · have hms' : (m : Int) < (s : Int) := by omega
            go_wp2
            go_roundg (gO - 1)
            case measure => omega
            case rel => exact ⟨i + 1, s, by omega, by go_num, rfl, by omega, rfl, fun j' hj' hlt => by
              by_cases e : j' < i
              · exact Nat.le_trans (Hs.out j' hj' e) (Nat.le_of_lt hms)
              · obtain rfl : j' = i := by omega
                rw [HE.out.2.2]
                show syncs ds ≤ _
                rw [← Hall.out]
                exact Nat.le_refl _⟩
    · have hle := Hk.out.2 m fun j hj => Hs.out j hj (by rw [Hn.out] at hj; omega)
      have hkm : (kk : Int) ≤ (m : Int) + 1 := by omega
      have hkk : kk ≤ 1001 := by omega
      go_wp2_with (first | (go_at_call 17; refine (HSm.out _ rfl).mono ?_; rintro e w1 ⟨rfl, hb⟩; have Hb := Lib.hid hb; clear hb))
      refine MpPost.leave ⟨.inr rfl, ?_⟩
      rw [pack_one results_4]
      rfl
end Go.Proofs.Yticdjkkcfdbdcaa

/- The law stepkeep.PhaseSame's body in company, told of the lone world: true: its walk. No conditions but those named. -/
namespace Go.Proofs.Yticdjkkcfdbdcaa
open Go.Conc Go.ConcN Go.RowKit Go.ChangeShapes Go.WideShapes Go.ChangeAt
theorem one_mem (L : World) : ∃ LA, (L.alloc (.cells #[.int .i64 1, .int .i64 0, .int .i64 5] 31)).alloc (.cells #[.slice (some ⟨L.heap.size, 0, none⟩) 1 1] 32) = LA ∧
    LA.heap[L.heap.size]? = some (.cells #[.int .i64 1, .int .i64 0, .int .i64 5] 31 (0, 0)) ∧ LA.heap[L.heap.size + 1]? = some (.cells #[.slice (some ⟨L.heap.size, 0, none⟩) 1 1] 32 (0, 0)) ∧ Keeps L LA := by
  refine ⟨_, rfl, ?_, ?_, ?_, fun b hb => ?_⟩
  · show ((L.heap.push _).push _)[L.heap.size]? = _
    rw [Array.getElem?_push, if_neg (by rw [Array.size_push]; omega), Array.getElem?_push, if_pos rfl]
  · show ((L.heap.push _).push _)[L.heap.size + 1]? = _
    rw [Array.getElem?_push, if_pos (by rw [Array.size_push])]
  · show L.heap.size ≤ ((L.heap.push _).push _).size
    rw [Array.size_push, Array.size_push]; omega
  · show ((L.heap.push _).push _)[b]? = _
    rw [Array.getElem?_push, if_neg (by rw [Array.size_push]; omega), Array.getElem?_push, if_neg (by omega)]
section
variable {Post : Value → World → Prop} {n0 : Nat} {W0 : World}
set_option maxRecDepth 100000 in
set_option maxHeartbeats 4000000 in
theorem same_m {A : Option Addr} {c n : Nat} {D : List DosR} {one two : Int} {L : World} (hR : RdAll L L.heap.size A D) (hn : D.length = n) (hcap : ∀ k (h : k < D.length), D[k].ds.length ≤ D[k].c) {code : Code} (hcode : Try.f4.body = some code) :
    Mp (InV phL phV) Try.prog (fun k g w => Win Try.prog Post n0 W0 k g w) 4 code false (fun e a1 _ => (e = .normal ∨ e = .ret) ∧ pack (resVals Try.f4 a1.tmps) = .bool true) ⟨#[.slice A n c, .int .i64 one, .int .i64 two] ++ Array.replicate (Try.f4.ntmps - #[Value.slice A n c, .int .i64 one, .int .i64 two].size) undef, []⟩ L := by
  have hJ : JOk Try.prog true _ (fun k g w => Win Try.prog Post n0 W0 k g w) := win_jok (P := Try.prog) (Post := Post) (n0 := n0) (W0 := W0)
  have hcode' := (show Try.f4.body = some _ from rfl).symm.trans hcode
  obtain rfl := Option.some.inj hcode'
  clear hcode hcode'
  simp only [Try.ntmps4, List.size_toArray, List.length_cons, List.length_nil, Nat.reduceAdd, Nat.reduceSub, Array.replicate_succ, Array.replicate_zero, List.push_toArray, List.append_toArray, List.nil_append, List.cons_append]
  have Hn := Lib.hid hn; clear hn
  have HR := Lib.hid hR; clear hR
  have Hcap := Lib.hid hcap; clear hcap
  refine Mp.piece' hJ ph_ok res_4 (by kernel_rfl) (fun L' => Hid (L'.heap = L.heap)) (fun L' e => Lib.hid e) fun L2 Hs => ?_
  go_wp2
  refine MpPost.normal ?_
  refine Mp.seq hJ (Mp.seq hJ (Mp.region hJ ?_))
  refine MpOps.val' hJ ph_ok.bodies rfl (yld rfl _) (okOpB_ok (by kernel_rfl)) (fun w => build_do _ _ w rfl rfl rfl) ?_
  refine MpOps.new hJ ph_ok.bodies (v := .slice (some ⟨L2.heap.size, 0, none⟩) 1 1) (x := .cells #[.int .i64 1, .int .i64 0, .int .i64 5] 31) rfl (yld rfl _) (okOpB_ok (by kernel_rfl)) (fun w hw => by rw [slice_do _ _ w rfl rfl, hw]) ?_
  refine MpOps.new hJ ph_ok.bodies (v := .slice (some ⟨L2.heap.size + 1, 0, none⟩) 1 1) (x := .cells #[.slice (some ⟨L2.heap.size, 0, none⟩) 1 1] 32) rfl (yld rfl _) (okOpB_ok (by kernel_rfl)) (fun w hw => by rw [slice_dos _ _ w rfl rfl, hw]; simp) ?_
  obtain ⟨LA, hLA, e0, e1, kB⟩ := one_mem L2
  have kA : Keeps L LA := (Keeps.eq Hs.out).trans kB
  rw [hLA]
  clear hLA kB
  have hc0 := run_m (Post := Post) (n0 := n0) (W0 := W0) (c := 1) (wk := 1) (L := LA) (one_rd e0 e1) (n := 1) rfl (fun k hk => by
    obtain rfl : k = 0 := by simp at hk; exact hk
    simp)
  generalize L2.heap.size = g2 at e0 e1 hc0 ⊢
  refine MpOps.call' hJ rfl (yld rfl _) rfl (fun x hx => ?_) ⟨_, Try.func15, by kernel_rfl, by kernel_rfl⟩ (by simp only [List.map_toArray, List.map_cons, List.map_nil]; rfl) (MCalls.mono hc0 fun v L3 hv => ?_)
  · simp at hx
    rcases hx with rfl | rfl <;> first | trivial | exact .int _ _
  obtain ⟨g5, c5, rfl, r5, r5g, k3⟩ := one_run hv
  clear hc0 hv e0 e1
  ((refine MpOps.val hJ ph_ok.bodies rfl (yld rfl _) (okOpB_ok (by kernel_rfl)) (fun w => run_mv _ _ rfl w) ?_; refine MpOps.val hJ ph_ok.bodies rfl (yld rfl _) (okOpB_ok (by kernel_rfl)) (fun w => run_ex _ _ rfl rfl rfl w) ?_; refine MpOps.val hJ ph_ok.bodies rfl (yld rfl _) (okOpB_ok (by kernel_rfl)) (fun w => run_ex _ _ rfl rfl rfl w) ?_; refine MpOps.val hJ ph_ok.bodies rfl (yld rfl _) (okOpB_ok (by kernel_rfl)) (fun w => run_ex _ _ rfl rfl rfl w) ?_; refine MpOps.val hJ ph_ok.bodies rfl (yld rfl _) (okOpB_ok (by kernel_rfl)) (fun w => run_as4 _ _ rfl w) ?_; refine MpOps.val hJ ph_ok.bodies rfl (yld rfl _) (okOpB_ok (by kernel_rfl)) (fun w => run_as4 _ _ rfl w) ?_; refine MpOps.val hJ ph_ok.bodies rfl (yld rfl _) (okOpB_ok (by kernel_rfl)) (fun w => run_as4 _ _ rfl w) ?_; refine MpOps.nil hJ ?_))
  show Mp _ _ _ _ _ _ _ _ _
  go_simp
  have k13 := kA.trans k3
  refine Mp.last' hJ ph_ok res_4 (by kernel_rfl) (fun L' => Hid (L'.heap = L3.heap)) (fun L' e => Lib.hid e) fun L4 H4 => ?_
  have hc5 : L4.cell? ⟨g5, 0, none⟩ = some (.int .i64 5) := by simp only [World.cell?, H4.out]; exact r5
  have k14 := k13.trans (.eq H4.out)
  clear r5 r5g k3 kA k13 H4
  go_wp2
  refine MpPost.normal ?_
  obtain ⟨kk, ys, hk, hS⟩ := runS D
  have hc1 := run_m (Post := Post) (n0 := n0) (W0 := W0) (A := A) (c := c) (wk := one) (L := L4) ((HR.out.kept (Nat.le_refl _) k14).more k14.1) Hn.out Hcap.out
  refine Mp.seq hJ (Mp.region hJ ?_)
  ((refine MpOps.val hJ ph_ok.bodies rfl (yld rfl _) (okOpB_ok (by kernel_rfl)) (fun w => run_mv _ _ rfl w) ?_; refine MpOps.val hJ ph_ok.bodies rfl (yld rfl _) (okOpB_ok (by kernel_rfl)) (fun w => run_mv _ _ rfl w) ?_))
  refine MpOps.call' hJ rfl (yld rfl _) rfl (fun x hx => ?_) ⟨_, Try.func15, by kernel_rfl, by kernel_rfl⟩ (by simp only [List.map_toArray, List.map_cons, List.map_nil]; rfl) (MCalls.mono hc1 fun v L5 hv => ?_)
  · simp at hx
    rcases hx with rfl | rfl <;> trivial
  obtain ⟨p1, l1, c1, m1, code1, rfl, k5, H1⟩ := hS _ _ _ _ hv
  clear hc1 hv
  ((refine MpOps.val hJ ph_ok.bodies rfl (yld rfl _) (okOpB_ok (by kernel_rfl)) (fun w => run_mv _ _ rfl w) ?_; refine MpOps.val hJ ph_ok.bodies rfl (yld rfl _) (okOpB_ok (by kernel_rfl)) (fun w => run_ex _ _ rfl rfl rfl w) ?_; refine MpOps.val hJ ph_ok.bodies rfl (yld rfl _) (okOpB_ok (by kernel_rfl)) (fun w => run_ex _ _ rfl rfl rfl w) ?_; refine MpOps.val hJ ph_ok.bodies rfl (yld rfl _) (okOpB_ok (by kernel_rfl)) (fun w => run_ex _ _ rfl rfl rfl w) ?_; refine MpOps.val hJ ph_ok.bodies rfl (yld rfl _) (okOpB_ok (by kernel_rfl)) (fun w => run_as4 _ _ rfl w) ?_; refine MpOps.val hJ ph_ok.bodies rfl (yld rfl _) (okOpB_ok (by kernel_rfl)) (fun w => run_as4 _ _ rfl w) ?_; refine MpOps.val hJ ph_ok.bodies rfl (yld rfl _) (okOpB_ok (by kernel_rfl)) (fun w => run_as4 _ _ rfl w) ?_; refine MpOps.nil hJ ?_))
  show Mp _ _ _ _ _ _ _ _ _
  go_simp
  have k15 := k14.trans k5
  have hc2 := run_m (Post := Post) (n0 := n0) (W0 := W0) (A := A) (c := c) (wk := two) (L := L5) ((HR.out.kept (Nat.le_refl _) k15).more k15.1) Hn.out Hcap.out
  refine Mp.seq hJ (Mp.region hJ ?_)
  ((refine MpOps.val hJ ph_ok.bodies rfl (yld rfl _) (okOpB_ok (by kernel_rfl)) (fun w => run_mv _ _ rfl w) ?_; refine MpOps.val hJ ph_ok.bodies rfl (yld rfl _) (okOpB_ok (by kernel_rfl)) (fun w => run_mv _ _ rfl w) ?_))
  refine MpOps.call' hJ rfl (yld rfl _) rfl (fun x hx => ?_) ⟨_, Try.func15, by kernel_rfl, by kernel_rfl⟩ (by simp only [List.map_toArray, List.map_cons, List.map_nil]; rfl) (MCalls.mono hc2 fun v L6 hv => ?_)
  · simp at hx
    rcases hx with rfl | rfl <;> trivial
  obtain ⟨p2, l2, c2, m2, code2, rfl, k6, H2⟩ := hS _ _ _ _ hv
  clear hc2 hv
  ((refine MpOps.val hJ ph_ok.bodies rfl (yld rfl _) (okOpB_ok (by kernel_rfl)) (fun w => run_mv _ _ rfl w) ?_; refine MpOps.val hJ ph_ok.bodies rfl (yld rfl _) (okOpB_ok (by kernel_rfl)) (fun w => run_ex _ _ rfl rfl rfl w) ?_; refine MpOps.val hJ ph_ok.bodies rfl (yld rfl _) (okOpB_ok (by kernel_rfl)) (fun w => run_ex _ _ rfl rfl rfl w) ?_; refine MpOps.val hJ ph_ok.bodies rfl (yld rfl _) (okOpB_ok (by kernel_rfl)) (fun w => run_ex _ _ rfl rfl rfl w) ?_; refine MpOps.val hJ ph_ok.bodies rfl (yld rfl _) (okOpB_ok (by kernel_rfl)) (fun w => run_as4 _ _ rfl w) ?_; refine MpOps.val hJ ph_ok.bodies rfl (yld rfl _) (okOpB_ok (by kernel_rfl)) (fun w => run_as4 _ _ rfl w) ?_; refine MpOps.val hJ ph_ok.bodies rfl (yld rfl _) (okOpB_ok (by kernel_rfl)) (fun w => run_as4 _ _ rfl w) ?_; refine MpOps.nil hJ ?_))
  show Mp _ _ _ _ _ _ _ _ _
  go_simp
  have k16 := k15.trans k6
  have qA : RdAll L6 L.heap.size A D := HR.out.kept (Nat.le_refl _) k16
  refine Mp.last' hJ ph_ok res_4 (by kernel_rfl) (fun L' => Hid (L'.heap = L6.heap)) (fun L' e => Lib.hid e) fun L7 H7 => ?_
  have h1 : code1 ≠ 0 ∨ (code1 = 0 ∧ dosCode D = 0 ∧ m1 = kk ∧ l1 = ys.length ∧ Rd L7 L7.heap.size p1 (ints ys)) := H1.imp id fun ⟨a1, a2, a3, a4, a5⟩ => ⟨a1, a2, a3, a4, ((a5.kept (Nat.le_refl _) k6).kept k6.1 (.eq H7.out)).more (by rw [H7.out]; exact k6.1)⟩
  have h2 : code2 ≠ 0 ∨ (code2 = 0 ∧ dosCode D = 0 ∧ m2 = kk ∧ l2 = ys.length ∧ Rd L7 L7.heap.size p2 (ints ys)) := H2.imp id fun ⟨a1, a2, a3, a4, a5⟩ => ⟨a1, a2, a3, a4, (a5.kept (Nat.le_refl _) (.eq H7.out)).more (by rw [H7.out]; exact Nat.le_refl _)⟩
  have hA : RdAll L7 L7.heap.size A D := (qA.kept k16.1 (.eq H7.out)).more (by rw [H7.out]; exact k16.1)
  clear H1 H2 qA k16 k15 k14 k5 k6 hS HR H7 Hs
  have HA := Lib.hid hA; clear hA
  have Hk := Lib.hid hk; clear hk
  rcases h1 with h1 | ⟨rfl, hd, rfl, rfl, h1⟩
  · clear h2
    have h1' : (code1 == 0) = false := by simp [h1]
    go_wp2
    refine MpPost.leave ⟨.inr rfl, ?_⟩
    rw [pack_one results_4]
    rfl
  rcases h2 with h2 | ⟨rfl, _, rfl, rfl, h2⟩
  · have h2' : (code2 == 0) = false := by simp [h2]
    have H1 := Lib.hid h1; clear h1
    go_wp2
    refine MpPost.leave ⟨.inr rfl, ?_⟩
    rw [pack_one results_4]
    rfl
  exact same_end Hn.out hd (Hk.out hd) HA.out h1 h2 (show Try.f4.body = some (.seq _ (.seq _ (.seq _ (.seq _ _)))) from rfl)
end
end Go.Proofs.Yticdjkkcfdbdcaa
