/- The walk of (*process).phase, alone. No conditions but that what is read is there. -/
import Derived.Test.YticdjkkcfdbdcaaPhR
import Derived.Test.YticdjkkcfdbdcaaScO
import Derived.Test.YticdjkkcfdbdcaaRows
import Derived.Deep.DeepCutAuto
import Derived.Deep.LoopGhost
import Derived.BigQuiet
import Derived.BigRegion
import Derived.Deep.QuietTactic
import Derived.StillTailTactics
import Derived.Deep.RegionLaw
import Derived.WalkSmall
namespace Go.Proofs.Yticdjkkcfdbdcaa
open Go.ChangeShapes Go.WideShapes Go.ChangeAt Go.RowKit
theorem foldN_drop {n : Int} {l : List Int} {q : Nat} (hq : q < l.length) : foldN n (l.drop q) = foldN (w64 (w64 (31 * n) + l[q])) (l.drop (q + 1)) := by
  rw [List.drop_eq_getElem_cons hq]; rfl
theorem do_cells (W : World) (x y z : Value) (t : TypeId) {m : Nat} (hm : W.heap.size = m) : (W.alloc (.cells #[x, y, z] t)).cell? ⟨m, 1, none⟩ = some y ∧ (W.alloc (.cells #[x, y, z] t)).cell? ⟨m, 2, none⟩ = some z := by
  subst hm
  have hb : Blk (W.alloc (.cells #[x, y, z] t)) W.heap.size t [x, y, z] := Blk.newArr W t rfl
  exact ⟨hb.cell 1, hb.cell 2⟩
structure PhPost (w : World) (base g : Nat) (T : TypeId) (p : ProcR) (tA cA : Option Addr) (tc cc : Nat) (e : Ending) (w' : World) : Prop where
  ret : e = .returned (.tuple #[])
  st : ∃ (d x : Nat) (cA' : Option Addr) (cc' : Nat) (sv' : Value), (runP p.num p.come p.sends p.todo).todo = p.todo.drop d ∧ (d < p.todo.length → x = d) ∧ PrSt w' base g T (runP p.num p.come p.sends p.todo) (tA.map (·.add (3 * x))) cA' (tc - d) cc' sv' ∧
    ((cA' = cA ∧ cc' = cc ∧ (runP p.num p.come p.sends p.todo).come = p.come) ∨ (cA' = none ∧ cc' = 0 ∧ (runP p.num p.come p.sends p.todo).come = []))
  far : Far base g w w'
theorem add_two (A : Option Addr) (i j : Nat) : (A.map (·.add i)).map (·.add j) = A.map (·.add (i + j)) := by cases A <;> simp [add_add]
set_option maxRecDepth 100000 in
set_option maxHeartbeats 4000000 in
theorem phase_any (w : World) (base g : Nat) (T : TypeId) (p : ProcR) (tA cA : Option Addr) (tc cc : Nat) (sv : Value) (h : PrSt w base g T p tA cA tc cc sv) :
    Calls Try.prog 51 #[.pointer (some ⟨g, 0, none⟩)] w (PhPost w base g T p tA cA tc cc) := by
  have H := Lib.hid h
  clear h
  go_enter Try.func51, Try.ntmps51
  go_wp2
  go_loopg [] p.todo.length (fun gk wr => ∃ (d x : Nat) (num : Int) (come : List Int) (sends : List (Int × Int)) (tA' cA' : Option Addr) (cc' : Nat) (sv' : Value), gk + d = p.todo.length ∧ PrSt wr base g T ⟨p.todo.drop d, num, come, sends⟩ tA' cA' (tc - d) cc' sv' ∧ tA' = tA.map (·.add (3 * x)) ∧ (d < p.todo.length → x = d) ∧
    runP num come sends (p.todo.drop d) = runP p.num p.come p.sends p.todo ∧ ((cA' = cA ∧ cc' = cc ∧ come = p.come) ∨ (cA' = none ∧ cc' = 0 ∧ come = [])) ∧ Far base g w wr)
  case atStart => exact ⟨0, 0, p.num, p.come, p.sends, tA, cA, cc, sv, rfl, by simpa using H.out, by cases tA <;> simp [add_zero], fun _ => rfl, by simp, .inl ⟨rfl, rfl, rfl⟩, Far.refl _ _ _⟩
  case round =>
    obtain ⟨d, x, num, come, sends, tA', cA', cc', sv', hgk, hst, htA, hx, hrun, hcm, hfar⟩ := hrel
    have hdl : d ≤ p.todo.length := by omega
    cases hD : p.todo.drop d with
    | nil =>
      have hd : p.todo.length ≤ d := List.drop_eq_nil_iff.1 hD
      rw [hD] at hst hrun
      have hc0 := hst.blk.cell 0
      simp only [List.getElem?_cons_zero, List.length_nil] at hc0
      have Hst := Lib.hid hst; clear hst
      have Hrun := Lib.hid hrun; clear hrun
      have Hcm := Lib.hid hcm; clear hcm
      have Hfar := Lib.hid hfar; clear hfar
      have HD := Lib.hid hD; clear hD
      have Hx := Lib.hid hx; clear hx
      go_wp2
      go_end0
      refine ⟨rfl, ⟨d, x, cA', cc', sv', ?_, Hx.out, ?_, ?_⟩, Hfar.out⟩
      · rw [← Hrun.out, HD.out]; rfl
      · rw [← Hrun.out, ← htA]; exact Hst.out
      · rw [← Hrun.out]; exact Hcm.out
    | cons y rest =>
      have hlen : rest.length + 1 + d = p.todo.length := by have := congrArg List.length hD; simp at this; omega
      obtain rfl := hx (by omega)
      rw [hD] at hst hrun
      have hrest : p.todo.drop (x + 1) = rest := by rw [← List.drop_drop, hD]; rfl
      obtain ⟨b, o, hA, hb, e0, e1, e2, htl⟩ := hst.todo.tail
      subst hA
      have hc0 := hst.blk.cell 0
      have hc1 := hst.blk.cell 1
      have hc2 := hst.blk.cell 2
      have hc3 := hst.blk.cell 3
      have hf0 := hst.blk.frozen 0
      have hf1 := hst.blk.frozen 1
      have hf2 := hst.blk.frozen 2
      have hf3 := hst.blk.frozen 3
      simp only [List.getElem?_cons_zero, List.getElem?_cons_succ, List.length_cons] at hc0 hc1 hc2 hc3
      have htc := hst.tc
      have hcap := hst.cap
      have hlow := hst.low
      have hbd := hst.bound
      simp only [List.length_cons] at htc hcap
      obtain ⟨kd, dst, nn⟩ := y
      dsimp only at e0 e1 e2
      have hgw := hst.blk.lt
      have hbg : b ≠ g := by omega
      -- the address behind the step
      have hnx : ∃ oA tcA x', (tc - x = 1 → oA = o ∧ tcA = 0 ∧ x' = x) ∧ (¬ tc - x = 1 → oA = o + 3 ∧ tcA = tc - x - 1 ∧ x' = x + 1) ∧ RdDos wr g (some ⟨b, oA, none⟩) rest ∧ rest.length ≤ tcA ∧ tcA = tc - (x + 1) ∧ some (⟨b, oA, none⟩ : Addr) = tA.map (·.add (3 * x')) ∧ (x + 1 < p.todo.length → x' = x + 1) := by
        by_cases e : tc - x = 1
        · have hr0 : rest.length = 0 := by omega
          obtain rfl : rest = [] := List.eq_nil_of_length_eq_zero hr0
          exact ⟨o, 0, x, fun _ => ⟨rfl, rfl, rfl⟩, fun h => absurd e h, RdDos.nil _ _ _, Nat.le_refl _, by omega, htA, fun h => by simp at hlen; omega⟩
        · refine ⟨o + 3, tc - x - 1, x + 1, fun h => absurd h e, fun _ => ⟨rfl, rfl, rfl⟩, htl, by omega, by omega, ?_, fun _ => rfl⟩
          have := congrArg (Option.map (·.add 3)) htA
          rw [add_two] at this
          rw [Nat.mul_add, Nat.mul_one, ← this]
          simp [Addr.add_lit']
      obtain ⟨oA, tcA, x', hn1, hn2, hnr, hnl, hnt, hnA, hnx⟩ := hnx
      have hst1 := hst.next hnr hnl
      have hfar1 := hfar.set_ 0 (.slice (some ⟨b, oA, none⟩) rest.length tcA)
      have Hst1 := Lib.hid (And.intro hst1 (And.intro hfar1 (And.intro hnt (And.intro hnA hnx)))); clear hst1 hfar1 hnt hnA hnx hst hfar hnr
      have Hrun := Lib.hid hrun; clear hrun
      have Hcm := Lib.hid hcm; clear hcm
      have HD := Lib.hid hD; clear hD
      have Hrest := Lib.hid hrest; clear hrest
      clear htl htA
      have hcs : (tc - x = 1 ∧ rest = [] ∧ oA = o ∧ tcA = 0) ∨ (¬ tc - x = 1 ∧ oA = o + 3 ∧ tcA = tc - x - 1) := by
        by_cases ht1 : tc - x = 1
        · exact .inl ⟨ht1, List.eq_nil_of_length_eq_zero (by omega), (hn1 ht1).1, (hn1 ht1).2.1⟩
        · exact .inr ⟨ht1, (hn2 ht1).1, (hn2 ht1).2.1⟩
      clear hn1 hn2
      rcases hcs with ⟨ht1, rfl, rfl, rfl⟩ | ⟨ht1, rfl, rfl⟩
      all_goals
        by_cases h1 : kd = 1
        · subst h1
          go_wp2
          go_region
          all_goals go_wp2
          go_roundg (gk - 1)
          case measure => omega
          case rel =>
            have h1 := ((Hst1.out.1.num (w64 (num + nn))).alloc (.cells #[.int .i64 1, .int .i64 dst, .int .i64 nn] 31)).drew
            have h2 := ((Hst1.out.2.1.set_ 1 (.int .i64 (w64 (num + nn)))).alloc (by simp [World.setCell]; omega) (.cells #[.int .i64 1, .int .i64 dst, .int .i64 nn] 31)).drew
            refine ⟨x + 1, x', w64 (num + nn), come, sends, _, cA', cc', sv', by omega, ?_, Hst1.out.2.2.2.1, Hst1.out.2.2.2.2, ?_, Hcm.out, h2⟩
            · rw [Hrest.out, ← Hst1.out.2.2.1]; exact h1
            · rw [Hrest.out, ← Hrun.out]; rfl
        by_cases h2 : kd = 2
        · subst h2
          go_wp2
          have hs1 := Hst1.out.1.alloc (.cells #[.int .i64 2, .int .i64 dst, .int .i64 nn] 31)
          have hfr := Hst1.out.2.1.alloc Hst1.out.1.bound (.cells #[.int .i64 2, .int .i64 dst, .int .i64 nn] 31)
          have hnr : some wr.heap.size ≠ sv'.ownBlock := fun e => by have := Hst1.out.1.own.lt _ e.symm; simp [World.setCell] at this
          refine r7_wp (n := wr.heap.size) (dst := dst) (nn := nn) (w0 := w) (by kernel_rfl) (by kernel_rfl) rfl rfl hs1 (by omega) (by simp [World.setCell]) hnr (do_cells _ _ _ _ _ (by simp [World.setCell])).1 (do_cells _ _ _ _ _ (by simp [World.setCell])).2 hfr fun v1 v2 w3 h3 h4 => ?_
          have Hn := Lib.hid (And.intro h3 h4)
          clear h3 h4 hs1 hfr hnr
          rw [show List.range 19 = [0, 1, 2, 3, 4, 5, 6, 7, 8, 9, 10, 11, 12, 13, 14, 15, 16, 17, 18] from rfl]
          simp only [putsV, V7, VE, List.findIdx?_cons, List.findIdx?_nil, List.getElem?_toArray, List.getElem?_cons_succ, List.getElem?_cons_zero, Option.bind_some]
          go_simp
          go_wp2
          go_roundg (gk - 1)
          case measure => omega
          case rel =>
            refine ⟨x + 1, x', num, come, sends ++ [(dst, w64 (num + nn))], _, cA', cc', v2, by omega, ?_, Hst1.out.2.2.2.1, Hst1.out.2.2.2.2, ?_, Hcm.out, Hn.out.2⟩
            · rw [Hrest.out, ← Hst1.out.2.2.1]; exact Hn.out.1
            · rw [Hrest.out, ← Hrun.out]; rfl
        by_cases h3 : kd = 3
        · subst h3
          go_wp2
          have hfw := Hst1.out.1.few
          simp only at hfw
          obtain ⟨wo, rfl⟩ : ∃ wo : World, wo = wr := ⟨_, rfl⟩
          obtain ⟨go, rfl⟩ : ∃ go : Nat, go = gk := ⟨_, rfl⟩
          have hp := Hst1.out.1.alloc (.cells #[.int .i64 3, .int .i64 dst, .int .i64 nn] 31)
          have hfr := Hst1.out.2.1.alloc Hst1.out.1.bound (.cells #[.int .i64 3, .int .i64 dst, .int .i64 nn] 31)
          have HP := Lib.hid (And.intro hp hfr); clear hp hfr
          go_loopg [66] come.length (fun gk i wr => ∃ (q : Nat) (num' : Int), gk + q = come.length ∧ i = .int .i64 q ∧ foldN num' (come.drop q) = foldN num come ∧ PrSt wr base g T ⟨p.todo.drop (x + 1), num', come, sends⟩ (tA.map (·.add (3 * x'))) cA' (tc - (x + 1)) cc' sv' ∧ Far base g w wr)
          case atStart =>
            refine ⟨0, num, by omega, rfl, by simp, ?_, ?_⟩
            · rw [Hrest.out, ← Hst1.out.2.2.1, ← Hst1.out.2.2.2.1]; exact HP.out.1
            · exact HP.out.2
          case round =>
            obtain ⟨q, num', hgq, rfl, hfo, hpr, hfa⟩ := hrel
            have c1 := hpr.blk.cell 1
            have c2 := hpr.blk.cell 2
            have f1 := hpr.blk.frozen 1
            have f2 := hpr.blk.frozen 2
            simp only [List.getElem?_cons_succ, List.getElem?_cons_zero] at c1 c2
            by_cases hq : q < come.length
            · obtain ⟨cb, co, hcA, hcb, cq⟩ := hpr.come.atMap hq
              subst hcA
              have hfd := foldN_drop (n := num') hq
              obtain ⟨y, hy⟩ : ∃ y, come[q] = y := ⟨_, rfl⟩
              rw [hy] at cq hfd
              have hn := hpr.num (w64 (w64 (31 * num') + y))
              have hf := hfa.set_ 1 (.int .i64 (w64 (w64 (31 * num') + y)))
              rw [hfd] at hfo
              have HN := Lib.hid (And.intro hfo (And.intro hn hf))
              have hne : cb ≠ g := by omega
              clear hfo hn hf hfd hpr hfa hy HP Hst1 Hrun Hcm HD Hrest hc0 hc1 hc2 hc3 hf0 hf1 hf2 hf3 e0 e1 e2
              go_wp2
              go_roundg (gk - 1)
              case measure => omega
              case rel => exact ⟨q + 1, w64 (w64 (31 * num') + y), by omega, by go_num, HN.out.1, HN.out.2.1, HN.out.2.2⟩
            · have hq0 : come.drop q = [] := List.drop_eq_nil_of_le (by omega)
              rw [hq0] at hfo
              have hfo' : num' = foldN num come := hfo
              have hn := hpr.fold
              have hf := hfa.set_ 2 (.slice none 0 0)
              rw [hfo'] at hn
              have HN := Lib.hid (And.intro hn hf)
              clear hfo hn hf hpr hfa hfo' hq0 hc0 hc1 hc2 hc3 hf0 hf1 hf2 hf3 e0 e1 e2 HP
              go_wp2
              go_roundg (go - 1)
              case measure => omega
              case rel =>
                refine ⟨x + 1, x', foldN num come, [], sends, _, none, 0, sv', by omega, HN.out.1, rfl, Hst1.out.2.2.2.2, ?_, .inr ⟨rfl, rfl, rfl⟩, HN.out.2⟩
                rw [Hrest.out, ← Hrun.out]; rfl
        · have h4 : ∀ r, runP num come sends (⟨kd, dst, nn⟩ :: r) = ⟨r, num, come, sends⟩ := fun r => by simp [runP, h1, h2, h3]
          have H4 := Lib.hid h4; clear h4
          go_wp2
          go_end0
          have hp := Hst1.out.1.alloc (.cells #[.int .i64 kd, .int .i64 dst, .int .i64 nn] 31)
          refine ⟨rfl, ⟨x + 1, x', cA', cc', sv', ?_, Hst1.out.2.2.2.2, ?_, ?_⟩, Hst1.out.2.1.alloc (by simp [World.setCell]; omega) _⟩
          · rw [← Hrun.out, H4.out, Hrest.out]
          · rw [← Hrun.out, H4.out, ← Hst1.out.2.2.2.1, ← Hst1.out.2.2.1]; exact hp
          · rw [← Hrun.out, H4.out]; exact Hcm.out
end Go.Proofs.Yticdjkkcfdbdcaa
