/- The reference's Phases, in plain Lean: its rows, its mails, phase by phase. No program; no conditions. -/
import Derived.Test.YticdjkkcfdbdcaaPhZb
import Derived.Laws.Tables
namespace Go.Proofs.Yticdjkkcfdbdcaa
open Go.ChangeShapes Go.WideShapes Go.ChangeAt Go.RowKit
/-- The rows tell of the processes. -/
structure RM (D : List DosR) (p : Nat) (ms : List MailR) (cur : List ProcR) (nums ats fol : List Int) : Prop where
  len : cur.length = D.length
  num : nums = cur.map (·.num)
  al : ats.length = D.length
  fl : fol.length = D.length
  at_ : ∀ (j : Nat) (h : j < D.length) (h' : j < cur.length), ∃ a : Nat, ats[j]? = some (a : Int) ∧ a ≤ D[j].ds.length ∧ cur[j].todo = D[j].ds.drop a
  fo : ∀ (j : Nat) (h : j < D.length) (h' : j < cur.length), ∃ f : Nat, fol[j]? = some (f : Int) ∧ f ≤ p ∧ cur[j].come = comeM j f p ms
/-- One process is told anew. -/
theorem RM.setq {D : List DosR} {p : Nat} {ms : List MailR} {cur : List ProcR} {nums ats fol : List Int} (h : RM D p ms cur nums ats fol) {i : Nat} (hi : i < D.length) {q : ProcR} {a f : Nat} (ha : a ≤ D[i].ds.length) (ht : q.todo = D[i].ds.drop a) (hf : f ≤ p) (hc : q.come = comeM i f p ms) :
    RM D p ms (cur.set i q) (nums.set i q.num) (ats.set i a) (fol.set i f) := by
  have hic : i < cur.length := by rw [h.len]; exact hi
  refine ⟨by simp [h.len], by rw [h.num, List.map_set], by simp [h.al], by simp [h.fl], fun j hj hj' => ?_, fun j hj hj' => ?_⟩
  · rw [List.getElem_set, List.getElem?_set]
    by_cases e : i = j
    · subst e
      rw [if_pos rfl, if_pos rfl, if_pos (by rw [h.al]; exact hi)]
      exact ⟨a, rfl, ha, ht⟩
    · rw [if_neg e, if_neg e]
      exact h.at_ j hj (by rw [h.len]; exact hj)
  · rw [List.getElem_set, List.getElem?_set]
    by_cases e : i = j
    · subst e
      rw [if_pos rfl, if_pos rfl, if_pos (by rw [h.fl]; exact hi)]
      exact ⟨f, rfl, hf, hc⟩
    · rw [if_neg e, if_neg e]
      exact h.fo j hj (by rw [h.len]; exact hj)
/-- The start of a phase. -/
structure RS (D : List DosR) (p : Nat) (ps : List ProcR) (ms : List MailR) : Prop where
  ml : ∀ m ∈ ms, m.ph < p
  ns : ∀ q ∈ ps, q.sends = []
  b1 : ms.length + todoSum ps ≤ 200000
  b2 : p + todoSum ps ≤ 200000
  cs : ∀ k ps', Phs ps k ps' → Phs (startP D) (p + k) ps'
def lettersOf (ps : List ProcR) : List (Int × Int) := (ps.map ranP).flatMap (·.sends)
theorem mailsOf_ph {p : Int} {ls : List (Int × Int)} {m : MailR} (h : m ∈ mailsOf p ls) : m.ph = p := by
  unfold mailsOf at h
  obtain ⟨x, _, rfl⟩ := List.mem_map.1 h
  rfl
theorem mailsOf_length (p : Int) (ls : List (Int × Int)) : (mailsOf p ls).length = ls.length := by simp [mailsOf]
theorem letters_sum (ps : List ProcR) : (lettersOf ps).length + todoSum (phaseAll ps) ≤ todoSum ps := by
  have h := sends_sum ps
  have e : (ps.map ranP).map (fun p => p.todo.length) = ps.map (fun p => (ranP p).todo.length) := by rw [List.map_map]; rfl
  rw [e] at h
  rw [todoSum_eq]
  exact h
theorem RS.next {D : List DosR} {p : Nat} {ps : List ProcR} {ms : List MailR} {nums ats fol : List Int} (h : RS D p ps ms) (hb : ∃ q ∈ ps, q.todo ≠ []) (hm : RM D p ms (ps.map ranP) nums ats fol) :
    RS D (p + 1) (phaseAll ps) (ms ++ mailsOf p (lettersOf ps)) ∧ RM D (p + 1) (ms ++ mailsOf p (lettersOf ps)) (phaseAll ps) nums ats fol := by
  have hl := letters_sum ps
  have hlt := todoSum_lt hb
  have h1 := h.b1
  have h2 := h.b2
  have hpl : ps.length = D.length := by have := hm.len; simpa using this
  have hat : ∀ (j : Nat) (hj : j < ps.length) (hj' : j < (phaseAll ps).length), (phaseAll ps)[j] = ⟨(ranP ps[j]).todo, (ranP ps[j]).num, (ranP ps[j]).come ++ mailTo j (lettersOf ps), []⟩ := fun j hj hj' => by
    have := phaseAll_at ps hj
    rw [List.getElem?_eq_getElem hj'] at this
    exact Option.some.inj this
  refine ⟨⟨fun m hmm => ?_, fun q hq => ?_, ?_, by omega, fun k ps' hp => ?_⟩, ⟨by rw [phaseAll_length]; exact hpl, ?_, hm.al, hm.fl, fun j hj hj' => ?_, fun j hj hj' => ?_⟩⟩
  · rcases List.mem_append.1 hmm with h3 | h3
    · have := h.ml m h3; omega
    · rw [mailsOf_ph h3]; omega
  · obtain ⟨j, hj, rfl⟩ := List.getElem_of_mem hq
    rw [hat j (by rw [← phaseAll_length]; exact hj) hj]
  · rw [List.length_append, mailsOf_length]; omega
  · have := h.cs (k + 1) ps' (.step hb hp)
    rw [show p + 1 + k = p + (k + 1) by omega]
    exact this
  · rw [hm.num]
    apply List.ext_getElem
    · simp [phaseAll_length]
    · intro j h3 h4
      simp only [List.length_map] at h3 h4
      simp only [List.getElem_map]
      rw [hat j h3 h4]
  · have hjp : j < ps.length := by rw [hpl]; exact hj
    obtain ⟨a, e1, e2, e3⟩ := hm.at_ j hj (by simpa using hjp)
    refine ⟨a, e1, e2, ?_⟩
    rw [hat j hjp hj']
    simpa using e3
  · have hjp : j < ps.length := by rw [hpl]; exact hj
    obtain ⟨f, e1, e2, e3⟩ := hm.fo j hj (by simpa using hjp)
    refine ⟨f, e1, by omega, ?_⟩
    rw [hat j hjp hj']
    simp only [List.getElem_map] at e3
    rw [e3, comeM_append, show ((p + 1 : Nat) : Int) = (p : Int) + 1 by omega, comeM_old _ _ _ _ h.ml, comeM_next _ _ _ (by omega)]
theorem ranP_idle {q : ProcR} (h : q.todo = []) (hs : q.sends = []) : ranP q = q := by
  obtain ⟨t, n, c, s⟩ := q
  simp only at h hs
  subst h hs
  rfl
theorem RS.fin {D : List DosR} {p : Nat} {ps : List ProcR} {ms : List MailR} (h : RS D p ps ms) (hb : ¬ ∃ q ∈ ps, q.todo ≠ []) : Phs (startP D) p ps ∧ (ps.map ranP).map (·.num) = ps.map (·.num) := by
  have hz : ∀ q ∈ ps, q.todo = [] := fun q hq => Classical.byContradiction fun hn => hb ⟨q, hq, hn⟩
  refine ⟨h.cs 0 ps (.done hz), ?_⟩
  rw [List.map_map]
  exact List.map_congr_left fun q hq => by rw [Function.comp_apply, ranP_idle (hz q hq) (h.ns q hq)]
theorem RS.start {D : List DosR} (hn : D.length ≤ 200) (h1 : ∀ l ∈ D, l.ds.length ≤ 1000) : RS D 0 (startP D) [] := by
  have hts : todoSum (startP D) ≤ 200000 := by
    have := todoSum_le (m := 1000) (startP D) fun p hp => by
      simp only [startP, List.mem_map] at hp
      obtain ⟨l, hl, rfl⟩ := hp
      exact h1 l hl
    have : (startP D).length = D.length := by simp [startP]
    omega
  refine ⟨fun m hm => (by cases hm), fun q hq => ?_, by simpa using hts, by omega, fun k ps' h => by rw [Nat.zero_add]; exact h⟩
  simp only [startP, List.mem_map] at hq
  obtain ⟨l, _, rfl⟩ := hq
  rfl
theorem RM.start (D : List DosR) : RM D 0 [] (startP D) (List.replicate D.length 0) (List.replicate D.length 0) (List.replicate D.length 0) := by
  refine ⟨by simp [startP], ?_, by simp, by simp, fun j hj hj' => ⟨0, by simp [hj], Nat.zero_le _, by simp [startP]⟩, fun j hj hj' => ⟨0, by simp [hj], Nat.le_refl _, by simp [startP, comeM]⟩⟩
  apply List.ext_getElem <;> simp [startP]
/-- The processes, i of them done with their phase. -/
def curI (ps : List ProcR) (i : Nat) : List ProcR := (ps.take i).map ranP ++ ps.drop i
theorem curI_zero (ps : List ProcR) : curI ps 0 = ps := by simp [curI]
theorem curI_full (ps : List ProcR) : curI ps ps.length = ps.map ranP := by simp [curI]
theorem curI_length (ps : List ProcR) (i : Nat) : (curI ps i).length = ps.length := by simp [curI]; omega
theorem curI_at {ps : List ProcR} {i : Nat} (h : i < ps.length) (h' : i < (curI ps i).length) : (curI ps i)[i] = ps[i] := by
  have e : (curI ps i)[i]? = ps[i]? := by
    unfold curI
    have hl : ((ps.take i).map ranP).length = i := by simp; omega
    rw [List.getElem?_append_right (by omega), hl, Nat.sub_self, List.getElem?_drop, Nat.add_zero]
  rw [List.getElem?_eq_getElem h', List.getElem?_eq_getElem h] at e
  exact Option.some.inj e
theorem curI_succ {ps : List ProcR} {i : Nat} (h : i < ps.length) : (curI ps i).set i (ranP ps[i]) = curI ps (i + 1) := by
  unfold curI
  have hl : ((ps.take i).map ranP).length = i := by simp; omega
  rw [List.set_append_right _ _ (by omega), hl, Nat.sub_self, List.take_succ_eq_append_getElem h, List.map_append, List.append_assoc, List.drop_eq_getElem_cons h]
  rfl
/-- The letters of the first i. -/
def ltrI (ps : List ProcR) (i : Nat) : List (Int × Int) := ((ps.take i).map ranP).flatMap (·.sends)
theorem ltrI_zero (ps : List ProcR) : ltrI ps 0 = [] := rfl
theorem ltrI_succ {ps : List ProcR} {i : Nat} (h : i < ps.length) : ltrI ps (i + 1) = ltrI ps i ++ (ranP ps[i]).sends := by
  unfold ltrI
  rw [List.take_succ_eq_append_getElem h, List.map_append, List.flatMap_append]
  simp
theorem ltrI_full (ps : List ProcR) : ltrI ps ps.length = lettersOf ps := by unfold ltrI lettersOf; rw [List.take_length]
theorem ltrI_room {ps : List ProcR} {i : Nat} (h : i < ps.length) : (ltrI ps i).length + ps[i].todo.length ≤ todoSum ps := by
  have h1 := sends_sum (ps.take i)
  have h2 : todoSum ps = todoSum (ps.take i) + todoSum (ps.drop i) := by
    conv => lhs; rw [← List.take_append_drop i ps]
    simp only [todoSum, List.map_append, List.sum_append]
  have h3 : ps[i].todo.length ≤ todoSum (ps.drop i) := by
    rw [List.drop_eq_getElem_cons h]
    simp only [todoSum, List.map_cons, List.sum_cons]
    omega
  unfold ltrI
  omega
end Go.Proofs.Yticdjkkcfdbdcaa

/- The region of the reference's Phases that sends a mail, alone. No conditions but that what is read is there. -/
namespace Go.Proofs.Yticdjkkcfdbdcaa
open Go.Conc Go.ConcN Go.RowKit
theorem RfSt.drawn {w0 w : World} {B : Nat} {A : Option Addr} {D : List DosR} {g : Nat} {nums ats fol : List Int} {mv : Value} {ms : List MailR} (h : RfSt w0 w B A D g nums ats fol mv ms) (d : Nat) : RfSt w0 { w with drawn := d } B A D g nums ats fol mv ms :=
  ⟨h.b0, h.b1, h.b2, h.own, ⟨h.rd.row, fun k hk => ⟨(h.rd.each k hk).row⟩, h.rd.small, h.rd.fits⟩, h.low, h.bound, ⟨h.bel.os, h.bel.tape, h.bel.output, h.bel.size, h.bel.block⟩, h.len⟩
set_option maxRecDepth 100000 in
theorem f16_r27 : drawOk (opsOf Try.f16 27) 14 = true := by kernel_rfl
set_option maxRecDepth 100000 in
theorem f16_c27 : chainOk (opsOf Try.f16 27) 14 [12, 13] = true := by kernel_rfl
theorem info_mail : (Try.prog.info? 120).map (fun i => (i.zero, i.size, i.bytes)) = some (some (.agg #[.int .i64 0, .int .i64 0, .int .i64 0]), 3, 24) := by kernel_rfl
theorem q_asgV {e : Operand → Value} {o : Oper} {w : World} {x : Operand} {v : Value} (hop : o.op = .assign x) (hv : e x = v) : (execOp e o).run Try.prog w = .ok (.value v) w := by
  rw [← hv]
  simp [go_sem, hop, execOp]
theorem q_indexI {e : Operand → Value} {o : Oper} {x y : Operand} {g n c8 j : Nat} (w : World) (hop : o.op = .indexAddr 23 x y) (h1 : e x = .slice (some ⟨g, 0, none⟩) n c8) (h2 : e y = .int .i64 j) (hj : j < n) : (execOp e o).run Try.prog w = .ok (.value (.pointer (some ⟨g, j, none⟩))) w := by
  have := (opv_index (P := Try.prog) (fn := 0) (k := LK.none) (w := w) hop h1 h2 (by omega) (by omega) Try.underlying23 (fun w => Try.sizeOf2 w)).1
  rw [show ((⟨g, 0, none⟩ : Addr).add (((j : Nat) : Int).toNat * 1)) = ⟨g, j, none⟩ by simp [Addr.add_lit']] at this
  exact this
theorem build_mail (e : Operand → Value) (o : Oper) (w : World) (hop : o.op = .build 120 #[(0, .tmp 100), (1, .tmp 102), (2, .tmp 109)]) {x y z : Int} (h0 : e (.tmp 100) = .int .i64 x) (h1 : e (.tmp 102) = .int .i64 y) (h2 : e (.tmp 109) = .int .i64 z) : (execOp e o).run Try.prog w = .ok (.value (.agg #[.int .i64 x, .int .i64 y, .int .i64 z])) w := by
  simp [go_sem, hop, h0, h1, h2, execOp]
theorem slice_mail (e : Operand → Value) (o : Oper) (w : World) (hop : o.op = .buildSlice 118 1 #[(0, .tmp 110)]) {x y z : Int} (h1 : e (.tmp 110) = .agg #[.int .i64 x, .int .i64 y, .int .i64 z]) : (execOp e o).run Try.prog w = .ok (.value (.slice (some ⟨w.heap.size, 0, none⟩) 1 1)) (w.alloc (.cells #[.int .i64 x, .int .i64 y, .int .i64 z] 120)) := by
  simp [go_sem, hop, h1, execOp]
def V27 (g n nd i : Nat) (mv : Value) (p dst num nn : Int) : Nat → Value := fun k => match k with
  | 0 => mv
  | 1 => .int .i64 p
  | 2 => .pointer (some ⟨nd, 1, none⟩)
  | 3 => .int .i64 dst
  | 4 => .slice (some ⟨g, 0, none⟩) n n
  | 5 => .int .i64 i
  | 6 => .pointer (some ⟨g, i, none⟩)
  | 7 => .int .i64 num
  | 8 => .pointer (some ⟨nd, 2, none⟩)
  | 9 => .int .i64 nn
  | 10 => .int .i64 (w64 (num + nn))
  | 11 => .agg #[.int .i64 p, .int .i64 dst, .int .i64 (w64 (num + nn))]
  | _ => undef
def S27 (w0 : World) (B : Nat) (A : Option Addr) (D : List DosR) (g nd : Nat) (nums ats fol : List Int) (mv : Value) (ms : List MailR) (kd p dst x nn : Int) (vs : List Value) (w : World) : Prop :=
  w.heap[nd]? = some (.cells #[.int .i64 kd, .int .i64 dst, .int .i64 nn] 31 (0, 0)) ∧
  match vs with
  | [] => RfSt w0 w B A D g nums ats fol mv ms
  | [v1] => RfSt w0 w B A D g nums ats fol mv ms ∧ ∃ nl, v1 = .slice (some ⟨nl, 0, none⟩) 1 1 ∧ Blk w nl 120 [.int .i64 p, .int .i64 dst, .int .i64 x]
  | _ :: v2 :: _ => RfSt w0 w B A D g nums ats fol v2 (ms ++ [⟨p, dst, x⟩])
set_option maxRecDepth 100000 in
set_option maxHeartbeats 1000000 in
theorem r27_wp {ops : Array Oper} (hops : ops = opsOf Try.f16 27) {a : Act} {w0 W : World} {B : Nat} {A : Option Addr} {D : List DosR} {g nd i n : Nat} {nums ats fol : List Int} {mv : Value} {ms : List MailR} {kd p dst num nn : Int}
    (hz : a.tmps.size = 170) (t8 : a.eval (.tmp 8) = .slice (some ⟨g, 0, none⟩) n n) (t11 : a.eval (.tmp 11) = mv) (t12 : a.eval (.tmp 12) = .int .i64 p) (t14 : a.eval (.tmp 14) = .int .i64 i) (t15 : a.eval (.tmp 15) = .pointer (some ⟨nd, 0, none⟩))
    (hS : RfSt w0 W B A D g nums ats fol mv ms) (hgw : g ≤ w0.heap.size) (hi : i < n) (hnum : nums[i]? = some num) (hnd : W.heap[nd]? = some (.cells #[.int .i64 kd, .int .i64 dst, .int .i64 nn] 31 (0, 0))) (hms : ms.length < 200000) {Q : Exit → Act → World → Prop} {id : Nat}
    (hQ : ∀ v1 v2 w', RfSt w0 w' B A D g nums ats fol v2 (ms ++ [⟨p, dst, w64 (num + nn)⟩]) → Q .normal ((putsV ops (VE [12, 13] (V27 g n nd i mv p dst num nn) [v1, v2]) (List.range 14) a).put (some 11) v2) w') : (Code.region id ops true).wp Try.prog Q a W := by
  subst hops
  obtain ⟨i0, hi0, hz0, hz1, hz2⟩ := info_parts info_mail
  have hdd := drawOk_d f16_r27
  have nw : ∀ (V : Nat → Value) t j, prodOf (opsOf Try.f16 27) t = some j → j < 14 → t < 170 → (putsV (opsOf Try.f16 27) V (List.range 14) a).eval (.tmp t) = V j := fun V t j h1 h2 h3 => puts_new hdd h1 h2 (by rw [hz]; exact h3)
  have od : ∀ (V : Nat → Value) t, prodOf (opsOf Try.f16 27) t = none → (putsV (opsOf Try.f16 27) V (List.range 14) a).eval (.tmp t) = a.eval (.tmp t) := fun V t h => puts_old hdd h
  have ol : ∀ (V : Nat → Value) t j, prodOf (opsOf Try.f16 27) t = some j → 14 ≤ j → (putsV (opsOf Try.f16 27) V (List.range 14) a).eval (.tmp t) = a.eval (.tmp t) := fun V t j h h' => puts_late hdd h h'
  have hsz : (opsOf Try.f16 27).size = 15 := by kernel_rfl
  have hcell : ∀ (w : World) (mv' : Value) ms', RfSt w0 w B A D g nums ats fol mv' ms' → w.cell? ⟨g, i, none⟩ = some (.int .i64 num) := fun w mv' ms' h => by
    rw [h.b0.cell]; simp [ints, hnum]
  have hdc : ∀ w : World, w.heap[nd]? = some (.cells #[.int .i64 kd, .int .i64 dst, .int .i64 nn] 31 (0, 0)) → w.cell? ⟨nd, 1, none⟩ = some (.int .i64 dst) ∧ w.cell? ⟨nd, 2, none⟩ = some (.int .i64 nn) := fun w h => by simp [World.cell?, h]
  have hRf : ∀ vs w, S27 w0 B A D g nd nums ats fol mv ms kd p dst (w64 (num + nn)) nn vs w → w.cell? ⟨g, i, none⟩ = some (.int .i64 num) := fun vs w h => by
    obtain ⟨_, h⟩ := h
    match vs, h with
    | [], h => exact hcell w _ _ h
    | [_], h => exact hcell w _ _ h.1
    | _ :: _ :: _, h => exact hcell w _ _ h
  refine wp_drawnE mixed_orders f16_r27 f16_c27 (S27 w0 B A D g nd nums ats fol mv ms kd p dst (w64 (num + nn)) nn) (V27 g n nd i mv p dst num nn) (fun k o hio him hiE vs w hS => ?_) (fun q k o hq hio vs w hl hS => ?_) (fun vs w hl hS => ?_) (fun d => ⟨hnd, hS.drawn d⟩)
  · have hi16 : k < 15 := by have := (Array.getElem?_eq_some_iff.1 hio).1; omega
    have h12 : k ≠ 12 := fun e => hiE (by subst e; simp)
    have h13 : k ≠ 13 := fun e => hiE (by subst e; simp)
    have hc := hRf vs w hS
    obtain ⟨d1, d2⟩ := hdc w hS.1
    obtain rfl | rfl | rfl | rfl | rfl | rfl | rfl | rfl | rfl | rfl | rfl | rfl : k = 0 ∨ k = 1 ∨ k = 2 ∨ k = 3 ∨ k = 4 ∨ k = 5 ∨ k = 6 ∨ k = 7 ∨ k = 8 ∨ k = 9 ∨ k = 10 ∨ k = 11 := by omega
    · exact q_moveV (op_of (p := .move (.tmp 11)) (by kernel_rfl) hio) ((ol _ 11 14 (by kernel_rfl) (by decide)).trans t11)
    · exact q_moveV (op_of (p := .move (.tmp 12)) (by kernel_rfl) hio) ((od _ 12 (by kernel_rfl)).trans t12)
    · exact q_field (op_of (p := .fieldAddr 31 (.tmp 15) 1) (by kernel_rfl) hio) ((od _ 15 (by kernel_rfl)).trans t15) (fun w => field_d nd w 1 (by decide))
    · exact q_load (op_of (p := .load 3 (.tmp 101)) (by kernel_rfl) hio) (nw _ 101 2 (by kernel_rfl) (by decide) (by decide)) (fun w => Try.isAgg3 w) d1
    · exact q_moveV (op_of (p := .move (.tmp 8)) (by kernel_rfl) hio) ((od _ 8 (by kernel_rfl)).trans t8)
    · exact q_moveV (op_of (p := .move (.tmp 14)) (by kernel_rfl) hio) ((od _ 14 (by kernel_rfl)).trans t14)
    · exact q_indexI w (op_of (p := .indexAddr 23 (.tmp 103) (.tmp 104)) (by kernel_rfl) hio) (nw (V27 g n nd i mv p dst num nn) 103 4 (by kernel_rfl) (by decide) (by decide)) (nw (V27 g n nd i mv p dst num nn) 104 5 (by kernel_rfl) (by decide) (by decide)) hi
    · exact q_load (op_of (p := .load 2 (.tmp 105)) (by kernel_rfl) hio) (nw _ 105 6 (by kernel_rfl) (by decide) (by decide)) (fun w => Try.isAgg2 w) hc
    · exact q_field (op_of (p := .fieldAddr 31 (.tmp 15) 2) (by kernel_rfl) hio) ((od _ 15 (by kernel_rfl)).trans t15) (fun w => field_d nd w 2 (by decide))
    · exact q_load (op_of (p := .load 2 (.tmp 107)) (by kernel_rfl) hio) (nw _ 107 8 (by kernel_rfl) (by decide) (by decide)) (fun w => Try.isAgg2 w) d2
    · have e50 : (putsV (opsOf Try.f16 27) (V27 g n nd i mv p dst num nn) (List.range 14) a).eval (.tmp 106) = .int .i64 num := nw _ 106 7 (by kernel_rfl) (by decide) (by decide)
      have e52 : (putsV (opsOf Try.f16 27) (V27 g n nd i mv p dst num nn) (List.range 14) a).eval (.tmp 108) = .int .i64 nn := nw _ 108 9 (by kernel_rfl) (by decide) (by decide)
      have := (opv_add (P := Try.prog) (fn := 0) (k := LK.none) (w := w) (op_of (p := .binOp .add 2 (.tmp 106) (.tmp 108) 2) (by kernel_rfl) hio) e50 e52 under_i64).1
      rw [w64_wrap] at this; exact this
    · exact build_mail _ _ w (op_of (by kernel_rfl) hio) (nw (V27 g n nd i mv p dst num nn) 100 1 (by kernel_rfl) (by decide) (by decide)) (nw (V27 g n nd i mv p dst num nn) 102 3 (by kernel_rfl) (by decide) (by decide)) (nw (V27 g n nd i mv p dst num nn) 109 10 (by kernel_rfl) (by decide) (by decide))
  · match q, hq with
    | 0, hq =>
      obtain rfl : 12 = k := by simpa using hq
      obtain rfl : vs = [] := List.eq_nil_of_length_eq_zero hl
      obtain ⟨hS1, hS2⟩ := hS
      refine ⟨.slice (some ⟨w.heap.size, 0, none⟩) 1 1, w.alloc (.cells #[.int .i64 p, .int .i64 dst, .int .i64 (w64 (num + nn))] 120), slice_mail _ _ _ (op_of (by kernel_rfl) hio) (nw _ 110 11 (by kernel_rfl) (by decide) (by decide)), (Below.heap_alloc w _ nd (Array.getElem?_eq_some_iff.1 hS1).1).trans hS1, hS2.alloc hgw _, w.heap.size, rfl, Blk.newArr w _ rfl⟩
    | 1, hq =>
      obtain rfl : 13 = k := by simpa using hq
      match vs, hl with
      | [v1], _ =>
        obtain ⟨hS1, hS2, nl, rfl, hnl⟩ := hS
        have ex : (putsV (opsOf Try.f16 27) (VE [12, 13] (V27 g n nd i mv p dst num nn) [.slice (some ⟨nl, 0, none⟩) 1 1]) (List.range 14) a).eval (.tmp 111) = .slice (some ⟨nl, 0, none⟩) 1 1 := nw _ 111 12 (by kernel_rfl) (by decide) (by decide)
        have es : (putsV (opsOf Try.f16 27) (VE [12, 13] (V27 g n nd i mv p dst num nn) [.slice (some ⟨nl, 0, none⟩) 1 1]) (List.range 14) a).eval (.tmp 99) = mv := nw _ 99 0 (by kernel_rfl) (by decide) (by decide)
        obtain ⟨v', w', r1, r2, r3, r4, r5⟩ := run_append_own_at (P := Try.prog) w (g + 3) 118 o.type 120 i0 (.agg #[.int .i64 0, .int .i64 0, .int .i64 0]) 3 24 Try.underlying118 hi0 hz0 hz1 hz2 rfl (by decide) mv ms.length (cellsM ms) hS2.own ⟨nl, 0, none⟩ 1 1 [.int .i64 p, .int .i64 dst, .int .i64 (w64 (num + nn))] rfl (fun j u hu => by rw [hnl.cellAdd]; exact hu) (by intro u hu; simp at hu; rcases hu with rfl | rfl | rfl <;> rfl) (by unfold maxLen; omega) (by omega) hS2.bound
        have hop : o.op = .call { callee := .builtin .append, args := #[.tmp 99, .tmp 111], argTypes := #[118, 118] } := op_of (by kernel_rfl) hio
        refine ⟨v', w', ?_, ?_, ?_⟩
        · unfold execOp
          simp only [hop, resolve, invoke, builtin, Sem.run_bind, Sem.run_pure, Result.andThen_ok, List.map_toArray, List.map_cons, List.map_nil, es, ex, r1]
        · refine (r3.block nd (Array.getElem?_eq_some_iff.1 hS1).1 fun e => ?_).trans hS1
          obtain ⟨_, cur, h2⟩ := own_block_at hS2.own e.symm
          rw [hS1] at h2
          cases h2
        · exact hS2.mail r3 (by rw [cellsM_append]; exact r2)
    | q + 2, hq => simp at hq
  · match vs, hl with
    | [v1, v2], _ =>
      obtain ⟨hS1, hS2⟩ := hS
      have e112 : (putsV (opsOf Try.f16 27) (VE [12, 13] (V27 g n nd i mv p dst num nn) [v1, v2]) (List.range 14) a).eval (.tmp 112) = v2 := nw _ 112 13 (by kernel_rfl) (by decide) (by decide)
      obtain ⟨o, ho14, hop, hgd, hdst⟩ := op_ex (ops := opsOf Try.f16 27) (i := 14) (p := .assign (.tmp 112)) (d := some 11) (by kernel_rfl)
      have g1 : (execOp (putsV (opsOf Try.f16 27) (VE [12, 13] (V27 g n nd i mv p dst num nn) [v1, v2]) (List.range 14) a).eval o).run Try.prog w = .ok (.value v2) w := q_asgV hop e112
      simp only [wpOps, ho14, yld hgd, if_true]
      refine .inl ?_
      unfold Oper.wp
      rw [g1]
      simp only [Oper.upon, hdst]
      exact hQ v1 v2 w hS2
end Go.Proofs.Yticdjkkcfdbdcaa

/- One process of the reference in a phase, in plain Lean. No program; no conditions. -/
namespace Go.Proofs.Yticdjkkcfdbdcaa
open Go.ChangeShapes Go.WideShapes Go.ChangeAt Go.RowKit
theorem set_self {α : Type} {l : List α} {k : Nat} {v : α} (h : l[k]? = some v) : l.set k v = l := by
  obtain ⟨hk, rfl⟩ := List.getElem?_eq_some_iff.1 h
  exact List.set_getElem_self hk
def busyTo (ps : List ProcR) (k : Nat) : Bool := (ps.take k).any fun q => !q.todo.isEmpty
theorem busyTo_succ {ps : List ProcR} {k : Nat} (h : k < ps.length) : busyTo ps (k + 1) = (busyTo ps k || !ps[k].todo.isEmpty) := by
  unfold busyTo
  rw [List.take_succ_eq_append_getElem h, List.any_append]
  simp
theorem busyTo_full (ps : List ProcR) : busyTo ps ps.length = true ↔ ∃ q ∈ ps, q.todo ≠ [] := by
  unfold busyTo
  rw [List.take_length, List.any_eq_true]
  simp [List.isEmpty_iff]
structure WhileI (D : List DosR) (p k : Nat) (ps : List ProcR) (ms : List MailR) (x q : ProcR) (a f : Nat) (nums ats fol : List Int) : Prop where
  rm : RM D p ms ((curI ps k).set k q) nums ats fol
  hx : ps[k]? = some x
  hk : k < D.length
  ha : ats[k]? = some (a : Int)
  hal : a ≤ (D[k]'hk).ds.length
  ht : q.todo = (D[k]'hk).ds.drop a
  hf : fol[k]? = some (f : Int)
  hfl : f ≤ p
  hc : q.come = comeM k f p ms
  hn : nums[k]? = some q.num
  run : runP q.num q.come q.sends q.todo = ranP x
  room : q.sends.length + q.todo.length ≤ x.todo.length
section
variable {D : List DosR} {p k : Nat} {ps : List ProcR} {ms : List MailR} {x q : ProcR} {a f : Nat} {nums ats fol : List Int}
/-- The start. -/
theorem WhileI.start (h : RM D p ms (curI ps k) nums ats fol) (hk : k < D.length) (hs : ∀ q ∈ ps, q.sends = []) (hp : ps.length = D.length) : ∃ a f, WhileI D p k ps ms (ps[k]'(by omega)) (ps[k]'(by omega)) a f nums ats fol := by
  have hkp : k < ps.length := by omega
  have hkc : k < (curI ps k).length := by rw [curI_length]; exact hkp
  obtain ⟨a, a1, a2, a3⟩ := h.at_ k hk hkc
  obtain ⟨f, f1, f2, f3⟩ := h.fo k hk hkc
  have e := curI_at hkp hkc
  rw [e] at a3 f3
  have hsn := hs _ (List.getElem_mem hkp)
  refine ⟨a, f, by rw [← e, List.set_getElem_self]; exact h, List.getElem?_eq_getElem hkp, hk, a1, a2, a3, f1, f2, f3, ?_, ?_, ?_⟩
  · rw [h.num]; simp [hkc, e]
  · rw [hsn]; rfl
  · rw [hsn]; simp
theorem WhileI.kc (h : WhileI D p k ps ms x q a f nums ats fol) : k < ps.length := (List.getElem?_eq_some_iff.1 h.hx).1
/-- One step, whatever it does. -/
theorem WhileI.step (h : WhileI D p k ps ms x q a f nums ats fol) {q' : ProcR} {a' f' : Nat} (ha : a' ≤ (D[k]'h.hk).ds.length) (ht : q'.todo = (D[k]'h.hk).ds.drop a') (hf : f' ≤ p) (hc : q'.come = comeM k f' p ms) (hr : runP q'.num q'.come q'.sends q'.todo = ranP x) (hm : q'.sends.length + q'.todo.length ≤ x.todo.length) :
    WhileI D p k ps ms x q' a' f' (nums.set k q'.num) (ats.set k a') (fol.set k f') := by
  have hkc : k < (curI ps k).length := by rw [curI_length]; exact h.kc
  have h1 := h.rm.setq h.hk ha ht hf hc
  rw [List.set_set] at h1
  have hnl : nums.length = (curI ps k).length := by rw [h.rm.num]; simp
  refine ⟨h1, h.hx, h.hk, ?_, ha, ht, ?_, hf, hc, ?_, hr, hm⟩
  · rw [List.getElem?_set, if_pos rfl, if_pos (by rw [h.rm.al]; exact h.hk)]
  · rw [List.getElem?_set, if_pos rfl, if_pos (by rw [h.rm.fl]; exact h.hk)]
  · rw [List.getElem?_set, if_pos rfl, if_pos (by omega)]
theorem WhileI.next (h : WhileI D p k ps ms x q a f nums ats fol) (ha : a < (D[k]'h.hk).ds.length) : q.todo = (D[k]'h.hk).ds[a] :: (D[k]'h.hk).ds.drop (a + 1) := by rw [h.ht, List.drop_eq_getElem_cons ha]
theorem WhileI.room' (h : WhileI D p k ps ms x q a f nums ats fol) (ha : a < (D[k]'h.hk).ds.length) : q.sends.length + ((D[k]'h.hk).ds.drop (a + 1)).length + 1 ≤ x.todo.length := by
  have := h.room
  rw [h.next ha] at this
  simp only [List.length_cons] at this
  omega
theorem WhileI.add (h : WhileI D p k ps ms x q a f nums ats fol) (ha : a < (D[k]'h.hk).ds.length) (hd : (D[k]'h.hk).ds[a].kind = 1) : WhileI D p k ps ms x ⟨(D[k]'h.hk).ds.drop (a + 1), w64 (q.num + (D[k]'h.hk).ds[a].n), q.come, q.sends⟩ (a + 1) f (nums.set k (w64 (q.num + (D[k]'h.hk).ds[a].n))) (ats.set k ((a + 1 : Nat) : Int)) fol := by
  have h1 := h.step (q' := ⟨(D[k]'h.hk).ds.drop (a + 1), w64 (q.num + (D[k]'h.hk).ds[a].n), q.come, q.sends⟩) (a' := a + 1) (f' := f) ha rfl h.hfl h.hc (by
    have := h.run; rw [h.next ha] at this; simp only [runP, hd, if_true] at this; exact this) (by have := h.room' ha; simp only; omega)
  rwa [set_self h.hf] at h1
theorem WhileI.send (h : WhileI D p k ps ms x q a f nums ats fol) (ha : a < (D[k]'h.hk).ds.length) (hd : (D[k]'h.hk).ds[a].kind = 2) : WhileI D p k ps ms x ⟨(D[k]'h.hk).ds.drop (a + 1), q.num, q.come, q.sends ++ [((D[k]'h.hk).ds[a].to, w64 (q.num + (D[k]'h.hk).ds[a].n))]⟩ (a + 1) f nums (ats.set k ((a + 1 : Nat) : Int)) fol := by
  have h1 := h.step (q' := ⟨(D[k]'h.hk).ds.drop (a + 1), q.num, q.come, q.sends ++ [((D[k]'h.hk).ds[a].to, w64 (q.num + (D[k]'h.hk).ds[a].n))]⟩) (a' := a + 1) (f' := f) ha rfl h.hfl h.hc (by
    have := h.run; rw [h.next ha] at this; simp only [runP, hd, show ¬ (2 : Int) = 1 by decide, if_false, if_true] at this; exact this) (by have := h.room' ha; simp only [List.length_append, List.length_cons, List.length_nil]; omega)
  rwa [set_self h.hf, set_self h.hn] at h1
theorem WhileI.fold (h : WhileI D p k ps ms x q a f nums ats fol) (ha : a < (D[k]'h.hk).ds.length) (hd : (D[k]'h.hk).ds[a].kind = 3) : WhileI D p k ps ms x ⟨(D[k]'h.hk).ds.drop (a + 1), foldN q.num q.come, [], q.sends⟩ (a + 1) p (nums.set k (foldN q.num q.come)) (ats.set k ((a + 1 : Nat) : Int)) (fol.set k (p : Int)) :=
  h.step (q' := ⟨(D[k]'h.hk).ds.drop (a + 1), foldN q.num q.come, [], q.sends⟩) (a' := a + 1) (f' := p) ha rfl (Nat.le_refl _) (comeM_none _ _ _).symm (by
    have := h.run; rw [h.next ha] at this; simp only [runP, hd, show ¬ (3 : Int) = 1 by decide, show ¬ (3 : Int) = 2 by decide, if_false, if_true] at this; exact this) (by have := h.room' ha; simp only; omega)
/-- It is done. -/
theorem WhileI.fin (h : WhileI D p k ps ms x q a f nums ats fol) (hq : q = ranP x) : RM D p ms (curI ps (k + 1)) nums ats fol ∧ ltrI ps (k + 1) = ltrI ps k ++ q.sends := by
  have hkp := h.kc
  have hx : ps[k] = x := by have := h.hx; rw [List.getElem?_eq_getElem hkp] at this; exact Option.some.inj this
  have h1 := h.rm
  rw [hq, ← hx, curI_succ hkp] at h1
  exact ⟨h1, by rw [ltrI_succ hkp, hq, hx]⟩
theorem WhileI.over (h : WhileI D p k ps ms x q a f nums ats fol) (ha : ¬ a < (D[k]'h.hk).ds.length) : q = ranP x := by
  have ht : q.todo = [] := by rw [h.ht]; exact List.drop_eq_nil_of_le (by omega)
  have := h.run
  rw [ht] at this
  rw [← this]
  obtain ⟨t, n, c, s⟩ := q
  simp only at ht
  subst ht
  rfl
theorem WhileI.sync (h : WhileI D p k ps ms x q a f nums ats fol) (ha : a < (D[k]'h.hk).ds.length) (hd : (D[k]'h.hk).ds[a].kind = 4) : RM D p ms (curI ps (k + 1)) nums (ats.set k ((a + 1 : Nat) : Int)) fol ∧ ltrI ps (k + 1) = ltrI ps k ++ q.sends := by
  have hr : (⟨(D[k]'h.hk).ds.drop (a + 1), q.num, q.come, q.sends⟩ : ProcR) = ranP x := by
    have := h.run; rw [h.next ha] at this; simp only [runP, hd, show ¬ (4 : Int) = 1 by decide, show ¬ (4 : Int) = 2 by decide, show ¬ (4 : Int) = 3 by decide, if_false] at this; exact this
  have hkp := h.kc
  have hx : ps[k] = x := by have := h.hx; rw [List.getElem?_eq_getElem hkp] at this; exact Option.some.inj this
  have h1 := h.rm.setq (q := ⟨(D[k]'h.hk).ds.drop (a + 1), q.num, q.come, q.sends⟩) (a := a + 1) (f := f) h.hk ha rfl h.hfl h.hc
  rw [List.set_set, set_self h.hn, set_self h.hf, hr, ← hx, curI_succ hkp] at h1
  exact ⟨h1, by rw [ltrI_succ hkp, hx, ← hr]⟩
end
theorem mails_more (ms : List MailR) (p : Nat) (a b : List (Int × Int)) : ms ++ mailsOf p (a ++ b) = (ms ++ mailsOf p a) ++ mailsOf p b := by rw [mailsOf_append, List.append_assoc]
theorem come_start (k f p : Nat) (ms : List MailR) (ls : List (Int × Int)) : comeM k f p (ms ++ mailsOf p ls) = comeM k f p ms := by rw [comeM_append, comeM_same, List.append_nil]
theorem fold_hit {k f p : Nat} {msl : List MailR} {m : Nat} (hm : m < msl.length) (h : msl[m].dst = k ∧ msl[m].ph < p ∧ (f : Int) ≤ msl[m].ph) (num : Int) : foldN num (comeM k f p (msl.drop m)) = foldN (w64 (w64 (31 * num) + msl[m].n)) (comeM k f p (msl.drop (m + 1))) := by
  rw [comeM_take hm, if_pos h]; rfl
theorem fold_miss {k f p : Nat} {msl : List MailR} {m : Nat} (hm : m < msl.length) (h : ¬ (msl[m].dst = k ∧ msl[m].ph < p ∧ (f : Int) ≤ msl[m].ph)) : comeM k f p (msl.drop m) = comeM k f p (msl.drop (m + 1)) := by
  rw [comeM_take hm, if_neg h]; rfl
/-- What is known at the head of the reference's loop. -/
def RInv (w : World) (B : Nat) (A : Option Addr) (D : List DosR) (g p : Nat) (more : Bool) (mv : Value) (wr : World) : Prop :=
  (more = true ∧ ∃ ps ms nums ats fol, RS D p ps ms ∧ RM D p ms ps nums ats fol ∧ RfSt w wr B A D g nums ats fol mv ms) ∨
  (more = false ∧ 1 ≤ p ∧ p ≤ 200001 ∧ ∃ ps nums ats fol ms, Phs (startP D) (p - 1) ps ∧ nums = ps.map (·.num) ∧ RfSt w wr B A D g nums ats fol mv ms)
theorem made_zero (n : Nat) : (madeCells #[Value.int .i64 0] n).toList = ints (List.replicate n 0) := by
  apply List.ext_getElem?
  intro j
  by_cases h : j < n <;> simp [madeCells, ints, h, Nat.mod_one]
theorem rf_start {w2 : World} {B : Nat} {A : Option Addr} {D : List DosR} (hR : RdAll w2 B A D) (hB : B ≤ w2.heap.size) : RfSt w2 (((w2.alloc (.cells (madeCells #[Value.int .i64 0] D.length) 2)).alloc (.cells (madeCells #[Value.int .i64 0] D.length) 3)).alloc (.cells (madeCells #[Value.int .i64 0] D.length) 3)) B A D w2.heap.size (List.replicate D.length 0) (List.replicate D.length 0) (List.replicate D.length 0) (.slice none 0 0) [] := by
  have b0 := Blk.newArr w2 2 (made_zero D.length)
  have b1 := Blk.newArr (w2.alloc (.cells (madeCells #[Value.int .i64 0] D.length) 2)) 3 (made_zero D.length)
  have b2 := Blk.newArr ((w2.alloc (.cells (madeCells #[Value.int .i64 0] D.length) 2)).alloc (.cells (madeCells #[Value.int .i64 0] D.length) 3)) 3 (made_zero D.length)
  simp only [World.size_alloc] at b1 b2
  refine ⟨(b0.alloc _).alloc _, b1.alloc _, b2, World.ownsRow_nil .., ((hR.keep fun p hp => World.cell?_alloc_lt _ _ p (by omega)).keep fun p hp => World.cell?_alloc_lt _ _ p (by simp; omega)).keep fun p hp => World.cell?_alloc_lt _ _ p (by simp; omega), hB, by simp, (((RowKit.Below.refl _ _).alloc (Nat.le_refl _) _).alloc (by simp) _).alloc (by simp; omega) _, by simp⟩
theorem phase_end {w wr : World} {B : Nat} {A : Option Addr} {D : List DosR} {g p k : Nat} {ps : List ProcR} {ms : List MailR} {nums ats fol : List Int} {mv : Value} (hS : RS D p ps ms) (hM : RM D p ms (curI ps k) nums ats fol) (hk : k = D.length) (hF : RfSt w wr B A D g nums ats fol mv (ms ++ mailsOf p (ltrI ps k))) : RInv w B A D g (p + 1) (busyTo ps k) mv wr := by
  have hpl : ps.length = k := by have := hM.len; rw [curI_length] at this; omega
  rw [← hpl] at hM hF ⊢
  rw [curI_full] at hM
  rw [ltrI_full] at hF
  by_cases hb : ∃ q ∈ ps, q.todo ≠ []
  · obtain ⟨h1, h2⟩ := hS.next hb hM
    exact .inl ⟨(busyTo_full ps).2 hb, _, _, _, _, _, h1, h2, hF⟩
  · obtain ⟨h1, h2⟩ := hS.fin hb
    refine .inr ⟨?_, by omega, by have := hS.b2; omega, ps, nums, ats, fol, _, h1, hM.num.trans h2, hF⟩
    cases hx : busyTo ps ps.length with
    | false => rfl
    | true => exact absurd ((busyTo_full ps).1 hx) hb
end Go.Proofs.Yticdjkkcfdbdcaa

/- The region of the reference's Phases that takes the next Do, alone. No conditions but that what is read is there. -/
namespace Go.Proofs.Yticdjkkcfdbdcaa
open Go.Conc Go.ConcN Go.RowKit
theorem q_loadDo {e : Operand → Value} {o : Oper} {w : World} {x : Operand} {b q : Nat} {kd dst nn : Int} (hop : o.op = .load 31 x) (hx : e x = .pointer (some ⟨b, q, none⟩)) (h0 : w.cell? ⟨b, q, none⟩ = some (.int .i64 kd)) (h1 : w.cell? ⟨b, q + 1, none⟩ = some (.int .i64 dst)) (h2 : w.cell? ⟨b, q + 2, none⟩ = some (.int .i64 nn)) : (execOp e o).run Try.prog w = .ok (.value (.agg #[.int .i64 kd, .int .i64 dst, .int .i64 nn])) w := by
  simp [go_sem, hop, hx, h0, h1, h2, execOp, Instr.loadAt]
theorem q_allocDo {e : Operand → Value} {o : Oper} {w : World} (hop : o.op = .alloc 31) : (execOp e o).run Try.prog w = .ok (.value (.pointer (some ⟨w.heap.size, 0, none⟩))) (w.alloc (.cells #[.int .i64 0, .int .i64 0, .int .i64 0] 31)) := by
  simp [go_sem, hop, execOp]
theorem setRow_ne (w : World) {g b : Nat} (cs : Array Value) (h : b ≠ g) : (w.setRow g cs).heap[b]? = w.heap[b]? := by
  unfold World.setRow
  simp only [Array.getElem?_modify]
  rw [if_neg (fun e => h e.symm)]
theorem RfSt.setRow {w0 w : World} {B : Nat} {A : Option Addr} {D : List DosR} {g nd : Nat} {nums ats fol : List Int} {mv : Value} {ms : List MailR} (h : RfSt w0 w B A D g nums ats fol mv ms) (hn : g + 3 ≤ nd) {old : Array Value} (ho : w.heap[nd]? = some (.cells old 31 (0, 0))) (cs : Array Value) : RfSt w0 (w.setRow nd cs) B A D g nums ats fol mv ms where
  b0 := (setRow_ne w cs (by omega)).trans h.b0
  b1 := (setRow_ne w cs (by omega)).trans h.b1
  b2 := (setRow_ne w cs (by omega)).trans h.b2
  own := own_of_block h.own fun b hb => setRow_ne w cs fun e => by
    obtain ⟨_, cur, h2⟩ := own_block_at h.own hb
    rw [e, ho] at h2
    cases h2
  rd := h.rd.keep fun p hp => World.cell?_of_block (setRow_ne w cs (by have := h.low; omega))
  low := h.low
  bound := by rw [size_setRow]; exact h.bound
  bel := ⟨h.bel.os, h.bel.tape, h.bel.output, by rw [size_setRow]; exact h.bel.size, fun k hk => (setRow_ne w cs (by omega)).trans (h.bel.block k hk)⟩
  len := h.len
theorem q_indexN {e : Operand → Value} {o : Oper} {x y : Operand} {g n c8 j : Nat} (w : World) (hop : o.op = .indexAddr 39 x y) (h1 : e x = .slice (some ⟨g, 0, none⟩) n c8) (h2 : e y = .int .i64 j) (hj : j < n) : (execOp e o).run Try.prog w = .ok (.value (.pointer (some ⟨g, j, none⟩))) w := by
  have := (opv_index (P := Try.prog) (fn := 0) (k := LK.none) (w := w) hop h1 h2 (by omega) (by omega) Try.underlying39 (fun w => Try.sizeOf3 w)).1
  rw [show ((⟨g, 0, none⟩ : Addr).add (((j : Nat) : Int).toNat * 1)) = ⟨g, j, none⟩ by simp [Addr.add_lit']] at this
  exact this
theorem q_indexD {e : Operand → Value} {o : Oper} {x y : Operand} {b q n c8 j : Nat} (w : World) (hop : o.op = .indexAddr 32 x y) (h1 : e x = .slice (some ⟨b, q, none⟩) n c8) (h2 : e y = .int .i64 j) (hj : j < n) : (execOp e o).run Try.prog w = .ok (.value (.pointer (some ⟨b, q + j * 3, none⟩))) w := by
  have := (opv_index (P := Try.prog) (fn := 0) (k := LK.none) (w := w) hop h1 h2 (by omega) (by omega) Try.underlying32 (fun w => Try.sizeOf31 w)).1
  rw [show ((⟨b, q, none⟩ : Addr).add (((j : Nat) : Int).toNat * 3)) = ⟨b, q + j * 3, none⟩ by simp [Addr.add_lit']] at this
  exact this
theorem q_indexS {e : Operand → Value} {o : Oper} {x y : Operand} {b q n c8 j : Nat} (w : World) (hop : o.op = .indexAddr 22 x y) (h1 : e x = .slice (some ⟨b, q, none⟩) n c8) (h2 : e y = .int .i64 j) (hj : j < n) : (execOp e o).run Try.prog w = .ok (.value (.pointer (some ⟨b, q + j, none⟩))) w := by
  have := (opv_index (P := Try.prog) (fn := 0) (k := LK.none) (w := w) hop h1 h2 (by omega) (by omega) Try.underlying22 (fun w => Try.sizeOf32 w)).1
  rw [show ((⟨b, q, none⟩ : Addr).add (((j : Nat) : Int).toNat * 1)) = ⟨b, q + j, none⟩ by simp [Addr.add_lit']] at this
  exact this
set_option maxRecDepth 100000 in
theorem f16_r20 : drawOk (opsOf Try.f16 20) 11 = true := by kernel_rfl
set_option maxRecDepth 100000 in
theorem f16_c20 : chainOk (opsOf Try.f16 20) 11 [10] = true := by kernel_rfl
def V20 (ob oo n c g k jl dc db dO a : Nat) (kd dst nn : Int) : Nat → Value := fun i => match i with
  | 0 => .slice (some ⟨ob, oo, none⟩) n c
  | 1 => .int .i64 k
  | 2 => .pointer (some ⟨ob, oo + k, none⟩)
  | 3 => .slice (some ⟨db, dO, none⟩) jl dc
  | 4 => .slice (some ⟨g, 0, none⟩) n n
  | 5 => .int .i64 k
  | 6 => .pointer (some ⟨g, k, none⟩)
  | 7 => .int .i64 a
  | 8 => .pointer (some ⟨db, dO + a * 3, none⟩)
  | 9 => .agg #[.int .i64 kd, .int .i64 dst, .int .i64 nn]
  | _ => undef
structure C20 (W : World) (ob oo g k jl dc db dO a : Nat) (kd dst nn : Int) : Prop where
  c0 : W.cell? ⟨ob, oo + k, none⟩ = some (.slice (some ⟨db, dO, none⟩) jl dc)
  ca : W.cell? ⟨g, k, none⟩ = some (.int .i64 a)
  d0 : W.cell? ⟨db, dO + a * 3, none⟩ = some (.int .i64 kd)
  d1 : W.cell? ⟨db, dO + a * 3 + 1, none⟩ = some (.int .i64 dst)
  d2 : W.cell? ⟨db, dO + a * 3 + 2, none⟩ = some (.int .i64 nn)
  l0 : ob < W.heap.size
  l1 : g < W.heap.size
  l2 : db < W.heap.size
theorem C20.alloc {W : World} {ob oo g k jl dc db dO a : Nat} {kd dst nn : Int} (h : C20 W ob oo g k jl dc db dO a kd dst nn) (o : Obj) : C20 (W.alloc o) ob oo g k jl dc db dO a kd dst nn :=
  ⟨(World.cell?_alloc_lt W o _ h.l0).trans h.c0, (World.cell?_alloc_lt W o _ h.l1).trans h.ca, (World.cell?_alloc_lt W o _ h.l2).trans h.d0, (World.cell?_alloc_lt W o _ h.l2).trans h.d1, (World.cell?_alloc_lt W o _ h.l2).trans h.d2, by simp; have := h.l0; omega, by simp; have := h.l1; omega, by simp; have := h.l2; omega⟩
set_option maxRecDepth 100000 in
set_option maxHeartbeats 1000000 in
theorem r20_wp {ops : Array Oper} (hops : ops = opsOf Try.f16 20) {a : Act} {w0 W : World} {B : Nat} {A : Option Addr} {D : List DosR} {g n ob oo c k jl dc db dO av : Nat} {nums ats fol : List Int} {mv : Value} {ms : List MailR} {kd dst nn : Int}
    (hz : a.tmps.size = 170) (t0 : a.eval (.tmp 0) = .slice (some ⟨ob, oo, none⟩) n c) (t9 : a.eval (.tmp 9) = .slice (some ⟨g + 1, 0, none⟩) n n) (t14 : a.eval (.tmp 14) = .int .i64 k)
    (hS : RfSt w0 W B A D g nums ats fol mv ms) (hgw : g ≤ w0.heap.size) (hk : k < n) (ha : av < jl) (hC : C20 W ob oo (g + 1) k jl dc db dO av kd dst nn) {Q : Exit → Act → World → Prop} {id : Nat}
    (hQ : ∀ v1 nd w', RfSt w0 w' B A D g nums ats fol mv ms → w'.heap[nd]? = some (.cells #[.int .i64 kd, .int .i64 dst, .int .i64 nn] 31 (0, 0)) → v1 = .pointer (some ⟨nd, 0, none⟩) → Q .normal (putsV ops (VE [10] (V20 ob oo n c (g + 1) k jl dc db dO av kd dst nn) [v1]) (List.range 11) a) w') : (Code.region id ops true).wp Try.prog Q a W := by
  subst hops
  have hdd := drawOk_d f16_r20
  have nw : ∀ (V : Nat → Value) t j, prodOf (opsOf Try.f16 20) t = some j → j < 11 → t < 170 → (putsV (opsOf Try.f16 20) V (List.range 11) a).eval (.tmp t) = V j := fun V t j h1 h2 h3 => puts_new hdd h1 h2 (by rw [hz]; exact h3)
  have od : ∀ (V : Nat → Value) t, prodOf (opsOf Try.f16 20) t = none → (putsV (opsOf Try.f16 20) V (List.range 11) a).eval (.tmp t) = a.eval (.tmp t) := fun V t h => puts_old hdd h
  have hsz : (opsOf Try.f16 20).size = 12 := by kernel_rfl
  refine wp_drawnE mixed_orders f16_r20 f16_c20 (fun vs w => C20 w ob oo (g + 1) k jl dc db dO av kd dst nn ∧ RfSt w0 w B A D g nums ats fol mv ms ∧ ∀ v1, vs[0]? = some v1 → ∃ nd, v1 = .pointer (some ⟨nd, 0, none⟩) ∧ g + 3 ≤ nd ∧ w.heap[nd]? = some (.cells #[.int .i64 0, .int .i64 0, .int .i64 0] 31 (0, 0))) (V20 ob oo n c (g + 1) k jl dc db dO av kd dst nn) (fun i o hio him hiE vs w hS => ?_) (fun q i o hq hio vs w hl hS => ?_) (fun vs w hl hS => ?_) (fun d => ⟨⟨hC.c0, hC.ca, hC.d0, hC.d1, hC.d2, hC.l0, hC.l1, hC.l2⟩, hS.drawn d, fun v1 h => by cases h⟩)
  · have hi12 : i < 12 := by have := (Array.getElem?_eq_some_iff.1 hio).1; omega
    have h10 : i ≠ 10 := fun e => hiE (by subst e; simp)
    have hC := hS.1
    obtain rfl | rfl | rfl | rfl | rfl | rfl | rfl | rfl | rfl | rfl : i = 0 ∨ i = 1 ∨ i = 2 ∨ i = 3 ∨ i = 4 ∨ i = 5 ∨ i = 6 ∨ i = 7 ∨ i = 8 ∨ i = 9 := by omega
    · exact q_moveV (op_of (p := .move (.tmp 0)) (by kernel_rfl) hio) ((od _ 0 (by kernel_rfl)).trans t0)
    · exact q_moveV (op_of (p := .move (.tmp 14)) (by kernel_rfl) hio) ((od _ 14 (by kernel_rfl)).trans t14)
    · exact q_indexS w (op_of (p := .indexAddr 22 (.tmp 66) (.tmp 67)) (by kernel_rfl) hio) (nw (V20 ob oo n c (g + 1) k jl dc db dO av kd dst nn) 66 0 (by kernel_rfl) (by decide) (by decide)) (nw (V20 ob oo n c (g + 1) k jl dc db dO av kd dst nn) 67 1 (by kernel_rfl) (by decide) (by decide)) hk
    · exact q_load (op_of (p := .load 32 (.tmp 68)) (by kernel_rfl) hio) (nw _ 68 2 (by kernel_rfl) (by decide) (by decide)) (fun w => Try.isAgg32 w) hC.c0
    · exact q_moveV (op_of (p := .move (.tmp 9)) (by kernel_rfl) hio) ((od _ 9 (by kernel_rfl)).trans t9)
    · exact q_moveV (op_of (p := .move (.tmp 14)) (by kernel_rfl) hio) ((od _ 14 (by kernel_rfl)).trans t14)
    · exact q_indexN w (op_of (p := .indexAddr 39 (.tmp 70) (.tmp 71)) (by kernel_rfl) hio) (nw (V20 ob oo n c (g + 1) k jl dc db dO av kd dst nn) 70 4 (by kernel_rfl) (by decide) (by decide)) (nw (V20 ob oo n c (g + 1) k jl dc db dO av kd dst nn) 71 5 (by kernel_rfl) (by decide) (by decide)) hk
    · exact q_load (op_of (p := .load 3 (.tmp 72)) (by kernel_rfl) hio) (nw _ 72 6 (by kernel_rfl) (by decide) (by decide)) (fun w => Try.isAgg3 w) hC.ca
    · exact q_indexD w (op_of (p := .indexAddr 32 (.tmp 69) (.tmp 73)) (by kernel_rfl) hio) (nw (V20 ob oo n c (g + 1) k jl dc db dO av kd dst nn) 69 3 (by kernel_rfl) (by decide) (by decide)) (nw (V20 ob oo n c (g + 1) k jl dc db dO av kd dst nn) 73 7 (by kernel_rfl) (by decide) (by decide)) ha
    · exact q_loadDo (op_of (p := .load 31 (.tmp 74)) (by kernel_rfl) hio) (nw _ 74 8 (by kernel_rfl) (by decide) (by decide)) hC.d0 hC.d1 hC.d2
  · match q, hq with
    | 0, hq =>
      obtain rfl : 10 = i := by simpa using hq
      obtain rfl : vs = [] := List.eq_nil_of_length_eq_zero hl
      refine ⟨_, _, q_allocDo (op_of (by kernel_rfl) hio), hS.1.alloc _, hS.2.1.alloc hgw _, fun v1 h => ?_⟩
      simp at h
      subst h
      exact ⟨w.heap.size, rfl, hS.2.1.bound, heap_alloc_new w _⟩
    | q + 1, hq => simp at hq
  · match vs, hl with
    | [v1], _ =>
      obtain ⟨hC1, hS1, hv⟩ := hS
      obtain ⟨nd, rfl, hnd, hold⟩ := hv v1 rfl
      have e15 : (putsV (opsOf Try.f16 20) (VE [10] (V20 ob oo n c (g + 1) k jl dc db dO av kd dst nn) [.pointer (some ⟨nd, 0, none⟩)]) (List.range 11) a).eval (.tmp 15) = .pointer (some ⟨nd, 0, none⟩) := nw _ 15 10 (by kernel_rfl) (by decide) (by decide)
      have e75 : (putsV (opsOf Try.f16 20) (VE [10] (V20 ob oo n c (g + 1) k jl dc db dO av kd dst nn) [.pointer (some ⟨nd, 0, none⟩)]) (List.range 11) a).eval (.tmp 75) = .agg #[.int .i64 kd, .int .i64 dst, .int .i64 nn] := nw _ 75 9 (by kernel_rfl) (by decide) (by decide)
      obtain ⟨o, ho11, hop, hgd, hdst⟩ := op_ex (ops := opsOf Try.f16 20) (i := 11) (p := .store 31 (.tmp 15) (.tmp 75)) (d := none) (by kernel_rfl)
      simp only [wpOps, ho11, yld hgd, if_true]
      refine .inl (wp_store_row 31 (.tmp 15) (.tmp 75) hop nd #[.int .i64 kd, .int .i64 dst, .int .i64 nn] e15 e75 31 _ hold (by kernel_rfl) rfl (by simp; exact ⟨rfl, rfl, rfl⟩) ?_)
      rw [hdst, put_none]
      exact hQ _ nd _ (hS1.setRow hnd hold _) (setRow_heap _ _ _ _ _ _ hold) rfl
theorem own_cells {w : World} {base s n : Nat} {e : TypeId} {v : Value} {vs : List Value} (h : w.ownsRow base e s v n vs) (hn : 0 < n) : ∃ g c, v = .slice (some ⟨g, 0, none⟩) n c ∧ base ≤ g ∧ g < w.heap.size ∧ ∀ i, i < n * s → w.cell? ⟨g, i, none⟩ = vs[i]? := by
  rcases h.2 with ⟨_, h0⟩ | ⟨g, cap, cur, rfl, h1, h2, _, _, h3, h4⟩
  · omega
  · refine ⟨g, cap, rfl, h1, (Array.getElem?_eq_some_iff.1 h2).1, fun i hi => ?_⟩
    rw [← h4, List.getElem?_take, if_pos hi]
    simp [World.cell?, h2]
set_option maxRecDepth 100000 in
theorem f16_r33 : drawOk (opsOf Try.f16 33) 14 = true := by kernel_rfl
theorem run_mulI {e : Operand → Value} {o : Oper} {x y : Operand} {t yt : TypeId} {a b : Int} (hop : o.op = .binOp .mul t x y yt) (hx : e x = .int .i64 a) (hy : e y = .int .i64 b) (ht : Try.prog.underlying t = some (.int .i64)) (w : World) : (execOp e o).run Try.prog w = .ok (.value (.int .i64 (w64 (a * b)))) w := by
  rw [← w64_wrap]
  simp [go_sem, hop, hx, hy, ht, execOp]
theorem q_indexM {e : Operand → Value} {o : Oper} {x y : Operand} {g n c8 j : Nat} (w : World) (hop : o.op = .indexAddr 118 x y) (h1 : e x = .slice (some ⟨g, 0, none⟩) n c8) (h2 : e y = .int .i64 j) (hj : j < n) : (execOp e o).run Try.prog w = .ok (.value (.pointer (some ⟨g, j * 3, none⟩))) w := by
  have := (opv_index (P := Try.prog) (fn := 0) (k := LK.none) (w := w) hop h1 h2 (by omega) (by omega) Try.underlying118 (fun w => Try.sizeOf120 w)).1
  rw [show ((⟨g, 0, none⟩ : Addr).add (((j : Nat) : Int).toNat * 3)) = ⟨g, j * 3, none⟩ by simp [Addr.add_lit']] at this
  exact this
theorem field_m (g o : Nat) (w : World) : (Instr.fieldAt 120 (.pointer (some ⟨g, o, none⟩)) 2).run Try.prog w = .ok (.pointer (some ⟨g, o + 2, none⟩)) w := by kernel_rfl
def V33 (g n k gm ln cm m : Nat) (nu yn : Int) : Nat → Value := fun i => match i with
  | 0 => .slice (some ⟨g, 0, none⟩) n n
  | 1 => .int .i64 k
  | 2 => .slice (some ⟨g, 0, none⟩) n n
  | 3 => .int .i64 k
  | 4 => .pointer (some ⟨g, k, none⟩)
  | 5 => .int .i64 nu
  | 6 => .int .i64 (w64 (31 * nu))
  | 7 => .slice (some ⟨gm, 0, none⟩) ln cm
  | 8 => .int .i64 m
  | 9 => .pointer (some ⟨gm, m * 3, none⟩)
  | 10 => .pointer (some ⟨gm, m * 3 + 2, none⟩)
  | 11 => .int .i64 yn
  | 12 => .int .i64 (w64 (w64 (31 * nu) + yn))
  | 13 => .pointer (some ⟨g, k, none⟩)
  | _ => undef
set_option maxRecDepth 100000 in
set_option maxHeartbeats 1000000 in
theorem r33_wp {ops : Array Oper} (hops : ops = opsOf Try.f16 33) {a : Act} {w0 W : World} {B : Nat} {A : Option Addr} {D : List DosR} {g n k gm ln cm m : Nat} {nums ats fol : List Int} {mv : Value} {ms : List MailR} {nu yn : Int}
    (hz : a.tmps.size = 170) (t8 : a.eval (.tmp 8) = .slice (some ⟨g, 0, none⟩) n n) (t11 : a.eval (.tmp 11) = .slice (some ⟨gm, 0, none⟩) ln cm) (t14 : a.eval (.tmp 14) = .int .i64 k) (t16 : a.eval (.tmp 16) = .int .i64 m)
    (hS : RfSt w0 W B A D g nums ats fol mv ms) (hk : k < n) (hm : m < ln) (hc : W.cell? ⟨g, k, none⟩ = some (.int .i64 nu)) (hf : W.frozen? ⟨g, k, none⟩ = false) (hy : W.cell? ⟨gm, m * 3 + 2, none⟩ = some (.int .i64 yn)) {Q : Exit → Act → World → Prop} {id : Nat}
    (hQ : ∀ w', RfSt w0 w' B A D g (nums.set k (w64 (w64 (31 * nu) + yn))) ats fol mv ms → Q .normal (putsV ops (V33 g n k gm ln cm m nu yn) (List.range 14) a) w') : (Code.region id ops true).wp Try.prog Q a W := by
  subst hops
  have hdd := drawOk_d f16_r33
  have nw : ∀ t j, prodOf (opsOf Try.f16 33) t = some j → j < 14 → t < 170 → (putsV (opsOf Try.f16 33) (V33 g n k gm ln cm m nu yn) (List.range 14) a).eval (.tmp t) = V33 g n k gm ln cm m nu yn j := fun t j h1 h2 h3 => puts_new hdd h1 h2 (by rw [hz]; exact h3)
  have od : ∀ t, prodOf (opsOf Try.f16 33) t = none → (putsV (opsOf Try.f16 33) (V33 g n k gm ln cm m nu yn) (List.range 14) a).eval (.tmp t) = a.eval (.tmp t) := fun t h => puts_old hdd h
  have hsz : (opsOf Try.f16 33).size = 15 := by kernel_rfl
  refine wp_drawn mixed_orders f16_r33 (fun w => RfSt w0 w B A D g nums ats fol mv ms ∧ w.cell? ⟨g, k, none⟩ = some (.int .i64 nu) ∧ w.frozen? ⟨g, k, none⟩ = false ∧ w.cell? ⟨gm, m * 3 + 2, none⟩ = some (.int .i64 yn)) (fun w d h => ⟨h.1.drawn d, h.2.1, h.2.2.1, h.2.2.2⟩) (V33 g n k gm ln cm m nu yn) (fun i o hio him => ?_) (fun w hS => ?_) ⟨hS, hc, hf, hy⟩
  · have hi15 : i < 15 := by have := (Array.getElem?_eq_some_iff.1 hio).1; omega
    refine .inl fun w hS => ?_
    obtain rfl | rfl | rfl | rfl | rfl | rfl | rfl | rfl | rfl | rfl | rfl | rfl | rfl | rfl : i = 0 ∨ i = 1 ∨ i = 2 ∨ i = 3 ∨ i = 4 ∨ i = 5 ∨ i = 6 ∨ i = 7 ∨ i = 8 ∨ i = 9 ∨ i = 10 ∨ i = 11 ∨ i = 12 ∨ i = 13 := by omega
    · exact q_moveV (op_of (p := .move (.tmp 8)) (by kernel_rfl) hio) ((od 8 (by kernel_rfl)).trans t8)
    · exact q_moveV (op_of (p := .move (.tmp 14)) (by kernel_rfl) hio) ((od 14 (by kernel_rfl)).trans t14)
    · exact q_moveV (op_of (p := .move (.tmp 8)) (by kernel_rfl) hio) ((od 8 (by kernel_rfl)).trans t8)
    · exact q_moveV (op_of (p := .move (.tmp 14)) (by kernel_rfl) hio) ((od 14 (by kernel_rfl)).trans t14)
    · exact q_indexI w (op_of (p := .indexAddr 23 (.tmp 151) (.tmp 152)) (by kernel_rfl) hio) (nw 151 2 (by kernel_rfl) (by decide) (by decide)) (nw 152 3 (by kernel_rfl) (by decide) (by decide)) hk
    · exact q_load (op_of (p := .load 2 (.tmp 153)) (by kernel_rfl) hio) (nw 153 4 (by kernel_rfl) (by decide) (by decide)) (fun w => Try.isAgg2 w) hS.2.1
    · exact run_mulI (op_of (p := .binOp .mul 2 (.const (.int .i64 31)) (.tmp 154) 2) (by kernel_rfl) hio) rfl (nw 154 5 (by kernel_rfl) (by decide) (by decide)) under_i64 w
    · exact q_moveV (op_of (p := .move (.tmp 11)) (by kernel_rfl) hio) ((od 11 (by kernel_rfl)).trans t11)
    · exact q_moveV (op_of (p := .move (.tmp 16)) (by kernel_rfl) hio) ((od 16 (by kernel_rfl)).trans t16)
    · exact q_indexM w (op_of (p := .indexAddr 118 (.tmp 156) (.tmp 157)) (by kernel_rfl) hio) (nw 156 7 (by kernel_rfl) (by decide) (by decide)) (nw 157 8 (by kernel_rfl) (by decide) (by decide)) hm
    · exact q_field (op_of (p := .fieldAddr 120 (.tmp 158) 2) (by kernel_rfl) hio) (nw 158 9 (by kernel_rfl) (by decide) (by decide)) (fun w => field_m gm _ w)
    · exact q_load (op_of (p := .load 2 (.tmp 159)) (by kernel_rfl) hio) (nw 159 10 (by kernel_rfl) (by decide) (by decide)) (fun w => Try.isAgg2 w) hS.2.2.2
    · have := (opv_add (P := Try.prog) (fn := 0) (k := LK.none) (w := w) (op_of (p := .binOp .add 2 (.tmp 155) (.tmp 160) 2) (by kernel_rfl) hio) (nw 155 6 (by kernel_rfl) (by decide) (by decide)) (nw 160 11 (by kernel_rfl) (by decide) (by decide)) under_i64).1
      rw [w64_wrap] at this; exact this
    · exact q_indexI w (op_of (p := .indexAddr 23 (.tmp 149) (.tmp 150)) (by kernel_rfl) hio) (nw 149 0 (by kernel_rfl) (by decide) (by decide)) (nw 150 1 (by kernel_rfl) (by decide) (by decide)) hk
  · obtain ⟨o, ho14, hop, hgd, hdst⟩ := op_ex (ops := opsOf Try.f16 33) (i := 14) (p := .store 2 (.tmp 162) (.tmp 161)) (d := none) (by kernel_rfl)
    have g1 := (op_store (P := Try.prog) (fn := 0) (k := ⟨fun _ => True, fun _ => True, fun _ => True⟩) (w := w) hop (nw 162 13 (by kernel_rfl) (by decide) (by decide)) (nw 161 12 (by kernel_rfl) (by decide) (by decide)) ⟨fun c h => (by cases h), fun c h => (by cases h)⟩ (fun w => Try.sizeOf2 w) hS.2.1 hS.2.2.1 trivial).1
    simp only [wpOps, ho14, yld hgd, if_true]
    refine .inl ?_
    unfold Oper.wp
    rw [g1, Oper.upon_skip, hdst, put_none]
    exact hQ _ (hS.1.setNum k _)
end Go.Proofs.Yticdjkkcfdbdcaa
