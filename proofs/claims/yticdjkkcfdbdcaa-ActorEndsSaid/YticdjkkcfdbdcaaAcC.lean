/- The contract of actor.Check. No conditions but that what is read is there. -/
import Derived.Test.YticdjkkcfdbdcaaAcB
import Derived.Test.YticdjkkcfdbdcaaAcH
import Derived.Test.YticdjkkcfdbdcaaPhN
import Derived.Deep.LoopGhost
import Derived.Carry
namespace Go.Proofs.Yticdjkkcfdbdcaa
open Go.ChangeShapes Go.WideShapes Go.ChangeAt Go.RowKit Go.Conc Go.ConcN
theorem actCode_let {R : List RulR} {ls : List LetR} {k : Nat} (hk : k < ls.length) (h : ¬ letOk R.length ls[k]) : actCode R ls = 1 := by
  unfold actCode
  rw [if_pos ⟨_, List.getElem_mem hk, h⟩]
theorem actCode_rule {R : List RulR} {ls : List LetR} {k : Nat} (hk : k < R.length) (h : rulesBad R.length R[k].rs) : actCode R ls = 1 := by
  unfold actCode
  split
  · rfl
  · rw [if_pos ⟨_, List.getElem_mem hk, h⟩]
def lgA (R : List RulR) (m : Nat) (k : Nat) : Bool := decide (200 < R.length) || decide (200 < m) || (R.take k).any fun l => decide (200 < l.rs.length)
theorem lgA_succ {R : List RulR} {m k : Nat} (hk : k < R.length) : lgA R m (k + 1) = (lgA R m k || decide (200 < R[k].rs.length)) := by
  simp only [lgA, List.take_succ_eq_append_getElem hk, List.any_append, List.any_cons, List.any_nil, Bool.or_false, Bool.or_assoc]
theorem actCode_end {R : List RulR} {ls : List LetR} (h1 : ∀ (k : Nat) (h : k < ls.length), letOk R.length ls[k]) (h2 : ∀ (k : Nat) (h : k < R.length), ¬ rulesBad R.length R[k].rs) : actCode R ls = if lgA R ls.length R.length = true then 2 else 0 := by
  unfold actCode
  rw [if_neg, if_neg]
  · by_cases hl : 200 < R.length ∨ 200 < ls.length ∨ ∃ r ∈ R, 200 < r.rs.length
    · rw [if_pos hl, if_pos]
      simp only [lgA, List.take_length, Bool.or_eq_true, decide_eq_true_eq, List.any_eq_true]
      rcases hl with h | h | h
      · exact .inl (.inl h)
      · exact .inl (.inr h)
      · exact .inr h
    · rw [if_neg hl, if_neg]
      simp only [lgA, List.take_length, Bool.or_eq_true, decide_eq_true_eq, List.any_eq_true]
      rintro ((h | h) | h)
      · exact hl (.inl h)
      · exact hl (.inr (.inl h))
      · exact hl (.inr (.inr h))
  · rintro ⟨r, hr, hb⟩
    obtain ⟨k, hk, rfl⟩ := List.getElem_of_mem hr
    exact h2 k hk hb
  · rintro ⟨x, hx, hb⟩
    obtain ⟨k, hk, rfl⟩ := List.getElem_of_mem hx
    exact hb (h1 k hk)
/-- How often the kinds were seen. -/
def SeenAt (sa : Assoc) (rs : List RuleR) (q : Nat) : Prop := ∀ k, getI sa k = if k ∈ (rs.take q).map (·.kind) then some (.int .i64 1) else none
theorem seen_zero (rs : List RuleR) : SeenAt [] rs 0 := fun k => by simp [getI]
theorem seen_put {sa : Assoc} {rs : List RuleR} {q : Nat} (h : SeenAt sa rs q) (hq : q < rs.length) : SeenAt (putI sa rs[q].kind (.int .i64 1)) rs (q + 1) := fun k => by
  rw [List.take_succ_eq_append_getElem hq]
  by_cases e : k = rs[q].kind
  · subst e
    rw [getI_put_same, if_pos (by rw [List.map_append]; exact List.mem_append_right _ (List.mem_map.2 ⟨_, List.mem_cons_self .., rfl⟩))]
  · rw [getI_put_other _ _ e, h k]
    have : k ∈ ((rs.take q) ++ [rs[q]]).map (·.kind) ↔ k ∈ (rs.take q).map (·.kind) := by
      rw [List.map_append, List.mem_append]
      exact ⟨fun h => h.elim id fun h => by rw [List.map_cons, List.map_nil, List.mem_singleton] at h; exact absurd h e, .inl⟩
    simp only [this]
theorem zero_intv (w : World) : (zeroValue 3).run Try.prog w = .ok (.int .i64 0) w := by kernel_rfl
theorem nodup_take {rs : List RuleR} {q : Nat} (hq : q < rs.length) (h : ((rs.take q).map (·.kind)).Nodup) (hn : rs[q].kind ∉ (rs.take q).map (·.kind)) : ((rs.take (q + 1)).map (·.kind)).Nodup := by
  rw [List.take_succ_eq_append_getElem hq, List.map_append, List.nodup_append]
  refine ⟨h, by simp, fun a ha b hb => ?_⟩
  simp at hb
  subst hb
  exact fun e => hn (e ▸ ha)
theorem not_nodup {rs : List RuleR} {q : Nat} (hq : q < rs.length) (hn : rs[q].kind ∈ (rs.take q).map (·.kind)) : ¬ (rs.map (·.kind)).Nodup := fun h => by
  have e : rs = rs.take q ++ rs[q] :: rs.drop (q + 1) := by rw [← List.drop_eq_getElem_cons hq, List.take_append_drop]
  rw [e, List.map_append, List.nodup_append] at h
  have := h.2.2 _ hn rs[q].kind (List.mem_map.2 ⟨_, List.mem_cons_self .., rfl⟩)
  exact this rfl
set_option maxRecDepth 100000 in
set_option maxHeartbeats 8000000 in
theorem act_check (w : World) (B n m : Nat) (A AL : Option Addr) (c cl : Nat) (R : List RulR) (ls : List LetR) (hR : RdRules w B A R) (hX : Rd w B AL (flatX ls)) (hB : B ≤ w.heap.size) (hn : R.length = n) (hm : ls.length = m) (hfm : Fits m) :
    Calls Try.prog 27 #[.slice A n c, .slice AL m cl] w fun e w' => e = .returned (.int .i64 (actCode R ls)) ∧ RowKit.Below w.heap.size w w' := by
  have hfit : n ≤ 140737488351232 := hn ▸ hR.fits
  unfold Fits at hfm
  have Hn := Lib.hid hn; clear hn
  have Hm := Lib.hid hm; clear hm
  have HR := Lib.hid (And.intro hR hX); clear hR hX
  go_enter Try.func27, Try.ntmps27
  go_wp2
  go_loopg [15] m (fun gk i wr => ∃ (k : Nat), gk + k = m ∧ i = .int .i64 k ∧ RowKit.Below w.heap.size w wr ∧ ∀ (q : Nat) (h : q < ls.length), q < k → letOk n ls[q])
  case atStart => exact ⟨0, by omega, rfl, RowKit.Below.refl _ _, fun q _ h => absurd h (by omega)⟩
  case round =>
    obtain ⟨k, hgk, rfl, hbel, hok⟩ := hrel
    by_cases hlt : k < m
    · have hkl : k < ls.length := by have := Hm.out; omega
      have hXw := HR.out.2.below (hbel.mono hB)
      obtain ⟨xb, xo, rfl, hxb, hc⟩ := rd_flat (f := cellsX) (s := 4) (by decide) (fun _ => rfl) hXw hkl
      have hbadx : ¬ letOk n ls[k] → actCode R ls = 1 := fun h => actCode_let hkl (by rw [Hn.out]; exact h)
      obtain ⟨x, hx⟩ : ∃ x, ls[k] = x := ⟨_, rfl⟩
      rw [hx] at hc hbadx
      obtain ⟨xt, xd, xk, xn⟩ := x
      have c0 := hc 0 _ rfl
      have c1 := hc 1 _ rfl
      have c2 := hc 2 _ rfl
      have c3 := hc 3 _ rfl
      rw [Nat.add_zero] at c0
      simp only at c0 c1 c2 c3
      have hz := hbel.size
      have hba := hbel.alloc hz (.cells #[.int .i64 xt, .int .i64 xd, .int .i64 xk, .int .i64 xn] 49)
      have Hba := Lib.hid hba; clear hba
      have Hbad := Lib.hid hbadx; clear hbadx
      have Hx := Lib.hid hx; clear hx
      have Hok := Lib.hid hok; clear hok
      clear hbel hXw hc hz
      obtain ⟨kb, hkb⟩ : ∃ b, decide (kindOk xk) = b := ⟨_, rfl⟩
      have HK := Lib.hid hkb
      rcases Int.lt_or_le xt 0 with h1 | h1
      · clear hkb
        have hbad := Hbad.out (fun h => by unfold letOk kindOk at h; simp only at h; omega)
        have Hb := Lib.hid hbad; clear hbad
        go_wp2_with (go_at_call 66; refine (kind_b _ _ _ HK.out).mono ?_; rintro e w2 ⟨rfl, rfl⟩)
        go_ret
        exact ⟨retInt Hb.out.symm, Hba.out⟩
      rcases Int.lt_or_le 100000 xt with h2 | h2
      · clear hkb
        have hbad := Hbad.out (fun h => by unfold letOk kindOk at h; simp only at h; omega)
        have Hb := Lib.hid hbad; clear hbad
        go_wp2_with (go_at_call 66; refine (kind_b _ _ _ HK.out).mono ?_; rintro e w2 ⟨rfl, rfl⟩)
        go_ret
        exact ⟨retInt Hb.out.symm, Hba.out⟩
      rcases Int.lt_or_le xd 0 with h3 | h3
      · clear hkb
        have hbad := Hbad.out (fun h => by unfold letOk kindOk at h; simp only at h; omega)
        have Hb := Lib.hid hbad; clear hbad
        go_wp2_with (go_at_call 66; refine (kind_b _ _ _ HK.out).mono ?_; rintro e w2 ⟨rfl, rfl⟩)
        go_ret
        exact ⟨retInt Hb.out.symm, Hba.out⟩
      rcases Int.lt_or_le xd n with h4 | h4
      rotate_left
      · clear hkb
        have hbad := Hbad.out (fun h => by unfold letOk kindOk at h; simp only at h; omega)
        have Hb := Lib.hid hbad; clear hbad
        go_wp2_with (go_at_call 66; refine (kind_b _ _ _ HK.out).mono ?_; rintro e w2 ⟨rfl, rfl⟩)
        go_ret
        exact ⟨retInt Hb.out.symm, Hba.out⟩
      cases kb with
      | false =>
        have hnk : ¬ kindOk xk := of_decide_eq_false hkb
        have HNK := Lib.hid hnk
        clear hkb hnk
        have hbad := Hbad.out (fun h => HNK.out h.2.2.2.2)
        have Hb := Lib.hid hbad; clear hbad
        go_wp2_with (go_at_call 66; refine (kind_b _ _ _ HK.out).mono ?_; rintro e w2 ⟨rfl, rfl⟩)
        go_ret
        exact ⟨retInt Hb.out.symm, Hba.out⟩
      | true =>
        have hgood : letOk n ⟨xt, xd, xk, xn⟩ := ⟨h1, h2, h3, h4, of_decide_eq_true hkb⟩
        have HG := Lib.hid hgood; clear hgood hkb
        go_wp2_with (go_at_call 66; refine (kind_b _ _ _ HK.out).mono ?_; rintro e w2 ⟨rfl, rfl⟩)
        go_roundg (gk - 1)
        case measure => omega
        case rel =>
          refine ⟨k + 1, by omega, by go_num, Hba.out, fun q hq hqk => ?_⟩
          by_cases e : q = k
          · subst e; rw [Hx.out]; exact HG.out
          · exact Hok.out q hq (by omega)
    · have hok2 : ∀ (q : Nat) (h : q < ls.length), letOk n ls[q] := fun q h => hok q h (by have := Hm.out; omega)
      have Hok := Lib.hid hok2; clear hok2 hok
      have Hb1 := Lib.hid hbel; clear hbel
      obtain ⟨l0, hl0⟩ : ∃ b, lgA R ls.length 0 = b := ⟨_, rfl⟩
      have hl1 : l0 = (decide ((200 : Int) < n) || decide ((200 : Int) < m)) := by
        have e1 : decide ((200 : Int) < n) = decide (200 < n) := dec_castD n 200
        have e2 : decide ((200 : Int) < m) = decide (200 < m) := dec_castD m 200
        rw [← hl0, e1, e2]
        simp [lgA, Hn.out, Hm.out]
      have Hl0 := Lib.hid hl0; clear hl0
      have hcs : ((200 : Int) < n ∧ l0 = true) ∨ (¬ (200 : Int) < n ∧ l0 = decide ((200 : Int) < m)) := by
        by_cases h : (200 : Int) < n
        · exact .inl ⟨h, by rw [hl1]; simp [h]⟩
        · exact .inr ⟨h, by rw [hl1]; simp [h]⟩
      clear hl1
      obtain ⟨wx, rfl⟩ : ∃ wx : World, wx = wr := ⟨_, rfl⟩
      rcases hcs with ⟨h200, rfl⟩ | ⟨h200, rfl⟩
      all_goals
        go_wp2
        clear h200
        go_loopg [7, 56] n (fun gk lg i wr => ∃ (k : Nat), gk + k = n ∧ i = .int .i64 k ∧ lg = .bool (lgA R ls.length k) ∧ RowKit.Below w.heap.size w wr ∧ ∀ (q : Nat) (h : q < R.length), q < k → ¬ rulesBad n R[q].rs)
        case atStart => exact ⟨0, by omega, rfl, by rw [Hl0.out], Hb1.out, fun q _ h => absurd h (by omega)⟩
        case round =>
          clear Hl0 Hb1
          obtain ⟨k, hgk, rfl, rfl, hbel, hrk⟩ := hrel
          by_cases hlt : k < n
          · have hkR : k < R.length := by have := Hn.out; omega
            have hRw := HR.out.1.keep (w' := wr) (fun p hp => (hbel.mono hB).cell hp)
            obtain ⟨ob, oo, rfl, hob, c0⟩ := hRw.at_ hkR
            have hrd := hRw.each k hkR
            have hsm := hRw.small k hkR
            have hls := lgA_succ (m := ls.length) hkR
            have hrb : rulesBad n R[k].rs → actCode R ls = 1 := fun h => actCode_rule hkR (by rw [Hn.out]; exact h)
            obtain ⟨j, hj⟩ : ∃ j, R[k] = j := ⟨_, rfl⟩
            rw [hj] at c0 hrd hsm hls hrb
            obtain ⟨jA, jc, rs⟩ := j
            dsimp only at c0 hrd hsm hls hrb
            unfold Fits at hsm
            obtain ⟨lg, hlg⟩ : ∃ lg, lgA R ls.length k = lg := ⟨_, rfl⟩
            rw [hlg] at hls ⊢
            have hz := hbel.size
            have Hj := Lib.hid (And.intro hj (And.intro hls (And.intro hrb (And.intro hrk (And.intro hbel (And.intro hrd hlg)))))); clear hj hls hrb hrk hbel hrd hlg hRw
            have hmk := @run_makeMap Try.prog
            cases lg
            all_goals
              go_wp2
              clear hmk
              obtain ⟨wo, rfl⟩ : ∃ wo : World, wo = wr := ⟨_, rfl⟩
              obtain ⟨go, rfl⟩ : ∃ go : Nat, go = gk := ⟨_, rfl⟩
              go_loopg [69] rs.length (fun gk i wr => ∃ (q : Nat) (sa : Assoc), gk + q = rs.length ∧ i = .int .i64 q ∧ RowKit.Below wo.heap.size wo wr ∧ wo.heap.size < wr.heap.size ∧ MapI wr wo.heap.size sa ∧ SeenAt sa rs q ∧ ((rs.take q).map (·.kind)).Nodup ∧ ∀ (m : Nat) (h : m < rs.length), m < q → ruleOk n rs[m])
              case atStart => exact ⟨0, [], by omega, rfl, (RowKit.Below.refl _ _).alloc (Nat.le_refl _) _, by simp, ⟨#[], 0, heap_alloc_new wo _, rfl⟩, seen_zero _, by simp, fun m _ h => absurd h (by omega)⟩
              case round =>
                obtain ⟨q, sa, hgq, rfl, hbe, hmb, hmp, hsn, hnd, hin⟩ := hrel
                by_cases hq : q < rs.length
                · have hrd2 := Hj.out.2.2.2.2.2.1.below (hbe.mono (Nat.le_trans hB hz))
                  obtain ⟨rb, ro, rfl, hrb2, hcr⟩ := rd_flat (f := cellsRu) (s := 7) (by decide) (fun _ => rfl) hrd2 hq
                  have hsp := seen_put hsn hq
                  have hnt := nodup_take hq hnd
                  have hnn := not_nodup hq
                  have hg1 := hsn rs[q].kind
                  obtain ⟨x, hx⟩ : ∃ x, rs[q] = x := ⟨_, rfl⟩
                  rw [hx] at hcr hsp hnt hnn hg1
                  have hxU : cellsU x = cellsRu x := rfl
                  obtain ⟨kd, ti, pl, md, sd, dt, af⟩ := x
                  have d0 := hcr 0 _ rfl
                  have d1 := hcr 1 _ rfl
                  have d2 := hcr 2 _ rfl
                  have d3 := hcr 3 _ rfl
                  have d4 := hcr 4 _ rfl
                  have d5 := hcr 5 _ rfl
                  have d6 := hcr 6 _ rfl
                  rw [Nat.add_zero] at d0
                  simp only at d0 d1 d2 d3 d4 d5 d6 hsp hnt hnn hg1
                  have hz2 := hbe.size
                  obtain ⟨W, hW⟩ : ∃ W, wr.alloc (.cells #[.int .i64 kd, .int .i64 ti, .int .i64 pl, .int .i64 md, .int .i64 sd, .int .i64 dt, .int .i64 af] 54) = W := ⟨_, rfl⟩
                  have hmW : MapI W wo.heap.size sa := by rw [← hW]; exact hmp.keep (RowKit.Below.heap_alloc wr _ _ hmb)
                  have hbW : RowKit.Below wo.heap.size wo W := by rw [← hW]; exact hbe.alloc hz2 _
                  have hnew : W.heap[wr.heap.size]? = some (.cells (cellsRu ⟨kd, ti, pl, md, sd, dt, af⟩).toArray 54 (0, 0)) := by rw [← hW]; exact heap_alloc_new wr _
                  have hszW : W.heap.size = wr.heap.size + 1 := by rw [← hW]; simp
                  obtain ⟨cv, hcv, hcc⟩ : ∃ cv : Int, (getI sa kd).getD (.int .i64 0) = .int .i64 cv ∧ ((cv = 0 ∧ kd ∉ (rs.take q).map (·.kind)) ∨ (cv = 1 ∧ kd ∈ (rs.take q).map (·.kind))) := by
                    rw [hg1]
                    by_cases h : kd ∈ (rs.take q).map (·.kind)
                    · rw [if_pos h]; exact ⟨1, rfl, .inr ⟨rfl, h⟩⟩
                    · rw [if_neg h]; exact ⟨0, rfl, .inl ⟨rfl, h⟩⟩
                  have hl1 := run_lookupI (P := Try.prog) (w := W) Try.underlying147 Try.underlying3 zero_intv hmW kd
                  rw [hcv] at hl1
                  obtain ⟨es, ck, hent, hup⟩ := run_updateI' (P := Try.prog) (w := W) Try.underlying147 Try.underlying3 hmW kd (.int .i64 (cv + 1))
                  have hmS : MapI (setMap W wo.heap.size es ck) wo.heap.size (putI sa kd (.int .i64 (cv + 1))) := setMap_eq (by omega) hent
                  have hneS : ∀ b, b ≠ wo.heap.size → (setMap W wo.heap.size es ck).heap[b]? = W.heap[b]? := fun b hb => setMap_ne W es ck hb
                  have hszS : (setMap W wo.heap.size es ck).heap.size = W.heap.size := setMap_size ..
                  have hbS : RowKit.Below wo.heap.size wo (setMap W wo.heap.size es ck) := ⟨hbW.os, hbW.tape, hbW.output, by rw [hszS]; exact hbW.size, fun b hb => (hneS b (by omega)).trans (hbW.block b hb)⟩
                  generalize setMap W wo.heap.size es ck = w3 at hup hmS hneS hszS hbS
                  have hn3 : w3.heap[wr.heap.size]? = some (.cells (cellsRu ⟨kd, ti, pl, md, sd, dt, af⟩).toArray 54 (0, 0)) := (hneS _ (by omega)).trans hnew
                  have e0 := cells_at hn3 0 _ rfl
                  have e1 := cells_at hn3 1 _ rfl
                  have e2 := cells_at hn3 2 _ rfl
                  have e3 := cells_at hn3 3 _ rfl
                  have e4 := cells_at hn3 4 _ rfl
                  have e5 := cells_at hn3 5 _ rfl
                  have e6 := cells_at hn3 6 _ rfl
                  simp only at e0 e1 e2 e3 e4 e5 e6
                  rw [← hW] at hl1 hup
                  have hcb : 0 ≤ cv ∧ cv ≤ 1 := by omega
                  have hfo : ∀ b, decide (ruleOk n ⟨kd, ti, pl, md, sd, dt, af⟩) = b → Calls Try.prog 67 #[.agg #[.int .i64 kd, .int .i64 ti, .int .i64 pl, .int .i64 md, .int .i64 sd, .int .i64 dt, .int .i64 af], .int .i64 n] w3 fun e w' => e = .returned (.bool b) ∧ RowKit.Below w3.heap.size w3 w' ∧ RowKit.Below wo.heap.size wo w' ∧ (Instr.lookup 147 (.map (some wo.heap.size)) (.int .i64 kd) false).run Try.prog w' = .ok (.int .i64 (cv + 1)) w' ∧ MapI w' wo.heap.size (putI sa kd (.int .i64 (cv + 1))) ∧ w'.cell? ⟨wr.heap.size, 0, none⟩ = some (.int .i64 kd) := fun b hb => by
                    refine (aformed_b w3 n ⟨kd, ti, pl, md, sd, dt, af⟩).mono ?_
                    rintro e w' ⟨rfl, hb'⟩
                    have hm' := hmS.keep (hb'.block _ (by omega))
                    have hl2 := run_lookupI (P := Try.prog) (w := w') Try.underlying147 Try.underlying3 zero_intv hm' kd
                    rw [getI_put_same] at hl2
                    exact ⟨by rw [hb], hb', hbS.trans (hb'.mono (by omega)), hl2, hm', (hb'.cell (p := ⟨wr.heap.size, 0, none⟩) (by show wr.heap.size < w3.heap.size; omega)).trans e0⟩
                  have HF := Lib.hid hfo; clear hfo
                  have HQ := Lib.hid (And.intro hx (And.intro hsp (And.intro hnt (And.intro hnn (And.intro hin (And.intro hnd hszW)))))); clear hx hsp hnt hnn hin hnd hsn hg1 hcr hxU hrd2 hmW hbW hnew hent hmS hneS hbS hn3 hcv hmp hbe hW
                  have hsz3 : wo.heap.size < w3.heap.size := by omega
                  by_cases hfm2 : ruleOk n ⟨kd, ti, pl, md, sd, dt, af⟩
                  · have hd1 : decide (ruleOk n ⟨kd, ti, pl, md, sd, dt, af⟩) = true := decide_eq_true hfm2
                    have HD := Lib.hid (And.intro hd1 hfm2); clear hd1 hfm2
                    rcases hcc with ⟨rfl, hnk⟩ | ⟨rfl, hnk⟩
                    · have HN := Lib.hid hnk; clear hnk
                      rw [show ((0 : Int) + 1) = 1 from rfl] at hup
                      go_wp2_with (go_at_call 67; refine (HF.out _ HD.out.1).mono ?_; rintro e w4 ⟨rfl, g1, g2, hlk, g4, hk0⟩; rw [show ((0 : Int) + 1) = 1 from rfl] at hlk; have HG := Lib.hid (And.intro g1 (And.intro g2 g4)); clear g1 g2 g4)
                      go_roundg (gk - 1)
                      case measure => omega
                      case rel =>
                        refine ⟨q + 1, _, by omega, by go_num, HG.out.2.1, by have := HG.out.1.size; omega, HG.out.2.2, HQ.out.2.1, HQ.out.2.2.1 HN.out, fun m' hm' hmq => ?_⟩
                        by_cases e : m' = q
                        · subst e; rw [HQ.out.1]; exact HD.out.2
                        · exact HQ.out.2.2.2.2.1 m' hm' (by omega)
                    · have hbad : actCode R ls = 1 := Hj.out.2.2.1 (.inr (HQ.out.2.2.2.1 hnk))
                      have HB1 := Lib.hid hbad; clear hbad hnk
                      rw [show ((1 : Int) + 1) = 2 from rfl] at hup
                      go_wp2_with (go_at_call 67; refine (HF.out _ HD.out.1).mono ?_; rintro e w4 ⟨rfl, g1, g2, hlk, g4, hk0⟩; rw [show ((1 : Int) + 1) = 2 from rfl] at hlk; have HG := Lib.hid (And.intro g1 (And.intro g2 g4)); clear g1 g2 g4)
                      go_ret
                      exact ⟨retInt HB1.out.symm, Hj.out.2.2.2.2.1.trans (HG.out.2.1.mono hz)⟩
                  · have hd1 : decide (ruleOk n ⟨kd, ti, pl, md, sd, dt, af⟩) = false := decide_eq_false hfm2
                    have hbad : actCode R ls = 1 := Hj.out.2.2.1 (.inl ⟨_, List.getElem_mem hq, by rw [HQ.out.1]; exact hfm2⟩)
                    have HD := Lib.hid (And.intro hd1 hbad); clear hd1 hfm2 hbad hcc
                    go_wp2_with (go_at_call 67; refine (HF.out _ HD.out.1).mono ?_; rintro e w4 ⟨rfl, g1, g2, hlk, g4, hk0⟩; have HG := Lib.hid (And.intro g1 (And.intro g2 g4)); clear g1 g2 g4)
                    go_ret
                    exact ⟨retInt HD.out.2.symm, Hj.out.2.2.2.2.1.trans (HG.out.2.1.mono hz)⟩
                · have hqe : q = rs.length := by omega
                  subst hqe
                  have hnb : ¬ rulesBad n rs := by
                    rintro (⟨r, hr, hb⟩ | hb)
                    · obtain ⟨q', hq', rfl⟩ := List.getElem_of_mem hr
                      exact hb (hin q' hq' hq')
                    · rw [List.take_length] at hnd
                      exact hb hnd
                  have Hnb := Lib.hid (And.intro hnb hbe); clear hnb hin hnd hbe hsn hmp
                  go_wp2
                  go_roundg (go - 1)
                  case measure => omega
                  case rel =>
                    refine ⟨k + 1, by omega, by go_num, ?_, Hj.out.2.2.2.2.1.trans (Hnb.out.2.mono hz), fun q hq hqk => ?_⟩
                    · rw [Hj.out.2.1]; simp <;> omega
                    · by_cases e : q = k
                      · subst e; rw [Hj.out.1]; exact Hnb.out.1
                      · exact Hj.out.2.2.2.1 q hq (by omega)
          · have hkn : k = R.length := by have := Hn.out; omega
            have hend := actCode_end (R := R) (ls := ls) (fun q h => by rw [Hn.out]; exact Hok.out q h) (fun q h => by rw [Hn.out]; exact hrk q h (by omega))
            rw [← hkn] at hend
            have Hend := Lib.hid (And.intro hend hbel); clear hend hrk hbel
            obtain ⟨lg, hlg⟩ : ∃ lg, lgA R ls.length k = lg := ⟨_, rfl⟩
            rw [hlg]
            have Hlg := Lib.hid hlg; clear hlg
            cases lg
            all_goals
              go_wp2
              go_ret
              exact ⟨retInt (by rw [Hend.out.1, Hlg.out]; rfl), Hend.out.2⟩
end Go.Proofs.Yticdjkkcfdbdcaa
