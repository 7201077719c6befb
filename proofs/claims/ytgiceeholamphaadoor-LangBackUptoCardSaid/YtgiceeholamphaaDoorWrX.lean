/- The contract of (*lang.writer).expr, whole: by induction on the expression. No conditions but those that ExprW names. -/
import Derived.Test.YtgiceeholamphaaDoorWrE
import Derived.Deep.RegionHeld3
namespace Go.Proofs.YtgiceeholamphaaDoor
open Go.ChangeShapes Go.WideShapes Go.ChangeAt Go.RowKit Go.Maps

/-- A call of strconv.FormatInt where the table lies below B. -/
theorem fmtB (n : Int) (h0 : -9223372036854775808 ≤ n) (h1 : n ≤ 9223372036854775807) (w : World) (B : Nat) (h : TensB B w) :
    Calls Tryd.prog 23 #[.int .i64 n, .int .i64 10] w (TextPost (Lib.itoa n) w) := fmt_post n h0 h1 w h.here
set_option maxRecDepth 100000 in
set_option maxHeartbeats 4000000 in
theorem exprW_num (m : Int) (name : ByteArray) (sA : Option Addr) (sc : Nat) (kids : List ExprR) (hm : 0 ≤ m ∧ m ≤ 1000000000) : ExprW (.mk 1 m name sA sc kids) := by
  intro w B b l hR hW hl hB hT
  have hev := (ExprR.mk 1 m name sA sc kids).txt_num rfl 0
  have hnp := nodesE_pos (ExprR.mk 1 m name sA sc kids)
  have hil := Lib.itoa_length_le m (by omega) (by omega)
  have hzb := hW.lt
  have H := Lib.hid (And.intro hW (And.intro hT hev)); clear hW hT hev hR
  show Calls Tryd.prog 55 #[.pointer (some ⟨b, 0, none⟩), .agg #[.int .i64 1, .int .i64 m, .string name, .slice sA kids.length sc]] w _
  go_enter Tryd.func55, Tryd.ntmps55
  go_upto_region 1 with (fail)
  generalize hW1 : w.alloc (.cells #[.pointer (some ⟨b, 0, none⟩)] 74) = W1
  obtain ⟨a1, a2, a3⟩ := box_facts2 (c := [.pointer (some ⟨b, 0, none⟩)]) hW1
  clear hW1
  rw [← a2]
  generalize hW2 : W1.alloc (.cells #[.int .i64 1, .int .i64 m, .string name, .slice sA kids.length sc] 46) = W2
  obtain ⟨b1, b2, b3⟩ := box_facts2 (c := [.int .i64 1, .int .i64 m, .string name, .slice sA kids.length sc]) hW2
  clear hW2
  have a4 := a3.below b1 (by omega)
  have hb0 : Below w.heap.size w W2 := a1.trans (b1.mono (by omega))
  generalize hn1 : W1.heap.size = n1 at *
  generalize hn0 : w.heap.size = n0 at *
  have z0 : W2.cell? ⟨n0, 0, none⟩ = some (.pointer (some ⟨b, 0, none⟩)) := a4.cell 0
  have c0 : W2.cell? ⟨n1, 0, none⟩ = some (.int .i64 1) := b3.cell 0
  have c1 : W2.cell? ⟨n1, 1, none⟩ = some (.int .i64 m) := b3.cell 1
  have c2 : W2.cell? ⟨n1, 2, none⟩ = some (.string name) := b3.cell 2
  have c3 : W2.cell? ⟨n1, 3, none⟩ = some (.slice sA kids.length sc) := b3.cell 3
  have hWW := H.out.1.below (hn0.symm ▸ hb0)
  have hTT := H.out.2.1.on (hb0.mono hB)
  have hz2 : n1 < W2.heap.size := by omega
  have hz0 : n0 < W2.heap.size := by omega
  have hKK : Kp B b w W2 := Kp.of (hn0.symm ▸ hb0) (by omega)
  have HX := Lib.hid (And.intro hWW (And.intro hTT (And.intro hKK (And.intro a4 b3)))); clear hWW hTT hKK a1 a3 a4 b1 b3 hb0 hn0 hn1
  have h01 : n0 < n1 := by omega
  clear a2 b2
  go_wp2_with fail
  go_region_held3 (fun w' => w'.cell? ⟨n0, 0, none⟩ = some (.pointer (some ⟨b, 0, none⟩)) ∧ w'.cell? ⟨n1, 1, none⟩ = some (.int .i64 m)) (go_keep) ((first
    | (go_at_call 23; (
        refine (show Calls _ _ _ _ _ from fmtB m (by omega) (by omega) W2.drew B (HX.out.2.1.on ((Below.refl _ _).drew))).mono ?_
        rintro E w3 ⟨rfl, hb3⟩
        have d0 : w3.cell? ⟨n0, 0, none⟩ = some (.pointer (some ⟨b, 0, none⟩)) := (bcell hb3 n0 0 hz0).trans z0
        have d1 : w3.cell? ⟨n1, 1, none⟩ = some (.int .i64 m) := (bcell hb3 n1 1 hz2).trans c1
        have hb3' : Below W2.heap.size W2 w3 := ((Below.refl _ _).drew).trans hb3
        have hw3 := HX.out.1.below hb3'
        have hk3 : Kp B b W2 w3 := Kp.of hb3' (by omega)
        have hz3 := hk3.size
        have hws := ws_any B b l (Lib.itoa m) w3 hw3 (by omega) (by omega)
        have HY := Lib.hid (And.intro hws (And.intro hk3 (And.intro (hk3.blk HX.out.2.2.2.1 (by omega) (by decide)) (hk3.blk HX.out.2.2.2.2 (by omega) (by decide))))); clear hb3 hb3' hw3 hk3 hws))
    | (go_at_call 34; (
        refine (show Calls _ _ _ _ _ from HY.out.1).mono ?_
        rintro E w4 ⟨rfl, hw4, hk4⟩
        have d0 : w4.cell? ⟨n0, 0, none⟩ = some (.pointer (some ⟨b, 0, none⟩)) := (hk4.blk HY.out.2.2.1 (by omega) (by decide)).cell 0
        have d1 : w4.cell? ⟨n1, 1, none⟩ = some (.int .i64 m) := (hk4.blk HY.out.2.2.2 (by omega) (by decide)).cell 1
        have HZ := Lib.hid (And.intro hw4 hk4); clear hw4 hk4))))
  go_wp2_with fail
  go_end0
  exact ⟨rfl, by rw [H.out.2.2]; exact HZ.out.1, HX.out.2.2.1.trans (HY.out.2.1.trans HZ.out.2)⟩
set_option maxRecDepth 100000 in
set_option maxHeartbeats 4000000 in
theorem exprW_name (m : Int) (name : ByteArray) (sA : Option Addr) (sc : Nat) (kids : List ExprR) (hn : name.size ≤ 8) : ExprW (.mk 2 m name sA sc kids) := by
  intro w B b l hR hW hl hB hT
  have hev := (ExprR.mk 2 m name sA sc kids).txt_name rfl 0
  have hnp := nodesE_pos (ExprR.mk 2 m name sA sc kids)
  have hzb := hW.lt
  have hnl : name.data.toList.length ≤ 8 := by rw [Array.length_toList]; exact hn
  have hne : name = ⟨name.data.toList.toArray⟩ := by simp
  simp only [ExprR.name] at hev
  generalize name.data.toList = nm at *
  subst hne
  clear hn
  have H := Lib.hid (And.intro hW (And.intro hT hev)); clear hW hT hev hR
  show Calls Tryd.prog 55 #[.pointer (some ⟨b, 0, none⟩), .agg #[.int .i64 2, .int .i64 m, .string ⟨nm.toArray⟩, .slice sA kids.length sc]] w _
  go_enter Tryd.func55, Tryd.ntmps55
  go_upto_region 1 with (fail)
  generalize hW1 : w.alloc (.cells #[.pointer (some ⟨b, 0, none⟩)] 74) = W1
  obtain ⟨a1, a2, a3⟩ := box_facts2 (c := [.pointer (some ⟨b, 0, none⟩)]) hW1
  clear hW1
  rw [← a2]
  generalize hW2 : W1.alloc (.cells #[.int .i64 2, .int .i64 m, .string ⟨nm.toArray⟩, .slice sA kids.length sc] 46) = W2
  obtain ⟨b1, b2, b3⟩ := box_facts2 (c := [.int .i64 2, .int .i64 m, .string ⟨nm.toArray⟩, .slice sA kids.length sc]) hW2
  clear hW2
  have a4 := a3.below b1 (by omega)
  have hb0 : Below w.heap.size w W2 := a1.trans (b1.mono (by omega))
  generalize hn1 : W1.heap.size = n1 at *
  generalize hn0 : w.heap.size = n0 at *
  have z0 : W2.cell? ⟨n0, 0, none⟩ = some (.pointer (some ⟨b, 0, none⟩)) := a4.cell 0
  have c0 : W2.cell? ⟨n1, 0, none⟩ = some (.int .i64 2) := b3.cell 0
  have c1 : W2.cell? ⟨n1, 1, none⟩ = some (.int .i64 m) := b3.cell 1
  have c2 : W2.cell? ⟨n1, 2, none⟩ = some (.string ⟨nm.toArray⟩) := b3.cell 2
  have c3 : W2.cell? ⟨n1, 3, none⟩ = some (.slice sA kids.length sc) := b3.cell 3
  have hWW := H.out.1.below (hn0.symm ▸ hb0)
  have hTT := H.out.2.1.on (hb0.mono hB)
  have hz2 : n1 < W2.heap.size := by omega
  have hz0 : n0 < W2.heap.size := by omega
  have hKK : Kp B b w W2 := Kp.of (hn0.symm ▸ hb0) (by omega)
  have hws := ws_any B b l nm W2.drew hWW (by omega) (by show B ≤ W2.heap.size; omega)
  have HX := Lib.hid (And.intro hWW (And.intro hws (And.intro hKK (And.intro a4 b3)))); clear hWW hTT hKK a1 a3 a4 b1 b3 hb0 hn0 hn1 hws
  have h01 : n0 < n1 := by omega
  clear a2 b2
  go_wp2_with fail
  go_region_held3 (fun w' => w'.cell? ⟨n0, 0, none⟩ = some (.pointer (some ⟨b, 0, none⟩)) ∧ w'.cell? ⟨n1, 2, none⟩ = some (.string ⟨nm.toArray⟩)) (go_keep) ((first
    | (go_at_call 34; (
        refine (show Calls _ _ _ _ _ from HX.out.2.1).mono ?_
        rintro E w4 ⟨rfl, hw4, hk4⟩
        have hk4 : Kp B b W2 w4 := (Kp.of ((Below.refl _ _).drew) (by omega)).trans hk4
        have d0 : w4.cell? ⟨n0, 0, none⟩ = some (.pointer (some ⟨b, 0, none⟩)) := (hk4.blk HX.out.2.2.2.1 (by omega) (by decide)).cell 0
        have d1 : w4.cell? ⟨n1, 2, none⟩ = some (.string ⟨nm.toArray⟩) := (hk4.blk HX.out.2.2.2.2 (by omega) (by decide)).cell 2
        have HZ := Lib.hid (And.intro hw4 hk4); clear hw4 hk4))))
  go_wp2_with fail
  go_end0
  exact ⟨rfl, by rw [H.out.2.2]; exact HZ.out.1, HX.out.2.2.1.trans HZ.out.2⟩
set_option maxRecDepth 100000 in
set_option maxHeartbeats 4000000 in
theorem exprW_op (kind m : Int) (name : ByteArray) (sA : Option Addr) (sc : Nat) (x y : ExprR) (hk : 3 ≤ kind ∧ kind ≤ 5) (hx : AllE x) (hy : AllE y) (ix : ExprW x) (iy : ExprW y) : ExprW (.mk kind m name sA sc [x, y]) := by
  intro w B b l hR hW hl hB hT
  have hev := (ExprR.mk kind m name sA sc [x, y]).txt_op hk.1 rfl 0
  rw [if_neg (by omega)] at hev
  simp only [ExprR.bare, ExprR.kind] at hev
  have hnk := (ExprR.mk kind m name sA sc [x, y]).nodes_eq
  simp only [nodesE, ExprR.kids] at hnk
  have hzb := hW.lt
  have hrow := hR.row
  have hRx := hR.kid (k := x) (by simp [ExprR.kids])
  have hRy := hR.kid (k := y) (by simp [ExprR.kids])
  have hlx := txt_len x hx
  have hly := txt_len y hy
  simp only [ExprR.kids, ExprR.sA] at hrow
  obtain ⟨bx, ox, rfl, hbB, hcx⟩ := hrow.at_ (i := 0) (by simp)
  obtain ⟨bx', ox', eq, _, hcy⟩ := hrow.at_ (i := 1) (by simp)
  injection eq with eq
  injection eq with eq1 eq2
  subst eq1 eq2
  clear hrow hR
  simp only [Nat.zero_mul, Nat.add_zero, Nat.one_mul, List.getElem_cons_zero, List.getElem_cons_succ] at hcx hcy
  have H := Lib.hid (And.intro hW (And.intro hT (And.intro hev (And.intro hRx (And.intro hRy (And.intro hx (And.intro hy (And.intro ix (And.intro iy (And.intro hlx (And.intro hly (And.intro hcx hcy)))))))))))); clear hW hT hev hRx hRy hx hy ix iy hlx hly hcx hcy
  show Calls Tryd.prog 55 #[.pointer (some ⟨b, 0, none⟩), .agg #[.int .i64 kind, .int .i64 m, .string name, .slice (some ⟨bx, ox, none⟩) 2 sc]] w _
  go_enter Tryd.func55, Tryd.ntmps55
  go_upto_region 1 with (fail)
  generalize hW1 : w.alloc (.cells #[.pointer (some ⟨b, 0, none⟩)] 74) = W1
  obtain ⟨a1, a2, a3⟩ := box_facts2 (c := [.pointer (some ⟨b, 0, none⟩)]) hW1
  clear hW1
  rw [← a2]
  generalize hW2 : W1.alloc (.cells #[.int .i64 kind, .int .i64 m, .string name, .slice (some ⟨bx, ox, none⟩) 2 sc] 46) = W2
  obtain ⟨b1, b2, b3⟩ := box_facts2 (c := [.int .i64 kind, .int .i64 m, .string name, .slice (some ⟨bx, ox, none⟩) 2 sc]) hW2
  clear hW2
  have a4 := a3.below b1 (by omega)
  have hb0 : Below w.heap.size w W2 := a1.trans (b1.mono (by omega))
  generalize hn1 : W1.heap.size = n1 at *
  generalize hn0 : w.heap.size = n0 at *
  have z0 : W2.cell? ⟨n0, 0, none⟩ = some (.pointer (some ⟨b, 0, none⟩)) := a4.cell 0
  have c0 : W2.cell? ⟨n1, 0, none⟩ = some (.int .i64 kind) := b3.cell 0
  have c1 : W2.cell? ⟨n1, 1, none⟩ = some (.int .i64 m) := b3.cell 1
  have c2 : W2.cell? ⟨n1, 2, none⟩ = some (.string name) := b3.cell 2
  have c3 : W2.cell? ⟨n1, 3, none⟩ = some (.slice (some ⟨bx, ox, none⟩) 2 sc) := b3.cell 3
  have hWW := H.out.1.below (hn0.symm ▸ hb0)
  have hTT := H.out.2.1.on (hb0.mono hB)
  have hz2 : n1 < W2.heap.size := by omega
  have hz0 : n0 < W2.heap.size := by omega
  have hKK : Kp B b w W2 := Kp.of (hn0.symm ▸ hb0) (by omega)
  have k1 : (kind == 1) = false := by simp; omega
  have k2 : (kind == 2) = false := by simp; omega
  have HX := Lib.hid (And.intro hWW (And.intro hTT (And.intro hKK (And.intro a4 b3)))); clear hWW hTT hKK a1 a3 a4 b1 b3 hn0 hn1
  have h01 : n0 < n1 := by omega
  clear a2 b2
  have hst : (store ⟨W2.heap.size, 0, none⟩ (.func (.func 80) #[] #[])).run Tryd.prog (W2.alloc (.cells #[.nilFunc] 52)) = .ok () ((W2.alloc (.cells #[.nilFunc] 52)).setCell ⟨W2.heap.size, 0, none⟩ (.func (.func 80) #[] #[])) := by
    have hb : Blk (W2.alloc (.cells #[.nilFunc] 52)) W2.heap.size 52 [.nilFunc] := Blk.new _ _ _
    have e1 := hb.cell 0
    have e2 := hb.frozen 0
    simp only [store, Sem.run, e1, e2, List.getElem?_cons_zero]
    rfl
  go_upto_region 7 with (fail)
  generalize hW3 : W2.alloc (.cells #[.func (.func 80) #[] #[]] 52) = W3
  obtain ⟨d1, d2, d3⟩ := box_facts2 (c := [.func (.func 80) #[] #[]]) hW3
  clear hW3 hst z0 c0 c1 c2 c3
  have hb03 : Below n0 w W3 := hb0.trans (d1.mono (by omega))
  have e2 := HX.out.2.2.2.1.below d1 hz0
  have e3 := HX.out.2.2.2.2.below d1 hz2
  have hW3 := HX.out.1.below d1
  have hT3 := HX.out.2.1.on (d1.mono (by omega))
  have hk3 : Kp B b w W3 := HX.out.2.2.1.trans (Kp.of d1 (by omega))
  have hB3 : Below B w W3 := hb03.mono hB
  have hR3x := H.out.2.2.2.1.under hB3
  have hR3y := H.out.2.2.2.2.1.under hB3
  have hz3 : n1 < W3.heap.size := by omega
  generalize hn4 : W2.heap.size = n4 at *
  have h14 : n1 < n4 := by omega
  have hB3' : B ≤ W3.heap.size := by omega
  clear d1 d2 hz2 hz0 hn4
  have hcx := H.out.2.2.2.2.2.2.2.2.2.2.2.1.keep hbB fun p hp => hB3.cell hp
  have hcy := H.out.2.2.2.2.2.2.2.2.2.2.2.2.keep hbB fun p hp => hB3.cell hp
  have hlx := H.out.2.2.2.2.2.2.2.2.2.1 (tightOf kind false)
  have hly := H.out.2.2.2.2.2.2.2.2.2.2.1 (tightOf kind true)
  have hc1 := side_any x H.out.2.2.2.2.2.1 H.out.2.2.2.2.2.2.2.1 W3 B b n0 n1 n4 l kind m name (some ⟨bx, ox, none⟩) 2 sc false hR3x hW3 (by omega) hB3' hT3 e2 e3 d3 (by omega)
  have hev : (ExprR.mk kind m name (some ⟨bx, ox, none⟩) sc [x, y]).txt 0 = x.txt (tightOf kind false) ++ (opT kind ++ y.txt (tightOf kind true)) := by
    exact H.out.2.2.1
  have hop := opT_len kind
  generalize x.txt (tightOf kind false) = tx at *
  obtain ⟨xk, xn, xs, xA, xc, xl⟩ := x
  obtain ⟨yk, yn, ys, yA, yc, yl⟩ := y
  obtain ⟨p0, p1, p2, p3⟩ := hcx
  have z0 : W3.cell? ⟨n0, 0, none⟩ = some (.pointer (some ⟨b, 0, none⟩)) := e2.cell 0
  have c0 : W3.cell? ⟨n1, 0, none⟩ = some (.int .i64 kind) := e3.cell 0
  have c3 : W3.cell? ⟨n1, 3, none⟩ = some (.slice (some ⟨bx, ox, none⟩) 2 sc) := e3.cell 3
  simp only [ExprR.kind, ExprR.n, ExprR.name, ExprR.sA, ExprR.sc, ExprR.kids] at p0 p1 p2 p3
  have HQ := Lib.hid (And.intro hc1 (And.intro hcy (And.intro hR3y (And.intro e2 (And.intro e3 (And.intro d3 (And.intro hT3 (And.intro hk3 hev)))))))); clear hc1 hcy hR3x hR3y e2 e3 d3 hT3 hk3 hev hb0 hb03 hB3 hW3
  have mk1 : Nat := 0
  have hkk : kind = 3 ∨ kind = 4 ∨ kind = 5 := by omega
  rcases hkk with rfl | rfl | rfl
  · go_wp2_with (first
      | (clear mk1; go_at_call 81; (
          refine (show Calls _ _ _ _ _ from HQ.out.1).mono ?_
          rintro E w4 ⟨rfl, hw4, hk4⟩
          have hz4 := hk4.size
          have t2 := hk4.blk HQ.out.2.2.2.1 (by omega) (by decide)
          have t3 := hk4.blk HQ.out.2.2.2.2.1 (by omega) (by decide)
          have t4 := hk4.blk HQ.out.2.2.2.2.2.1 (by omega) (by decide)
          have z4 : w4.cell? ⟨n0, 0, none⟩ = some (.pointer (some ⟨b, 0, none⟩)) := t2.cell 0
          have q0 : w4.cell? ⟨n1, 0, none⟩ = some (.int .i64 3) := t3.cell 0
          have hws := ws_any B b _ [32, 43, 32] w4 hw4 (by simp; omega) (by omega)
          have HY := Lib.hid (And.intro hws (And.intro hk4 (And.intro t2 (And.intro t3 t4)))); clear hw4 hk4 t2 t3 t4 hws))
      | (go_at_call 34; (
          refine (show Calls _ _ _ _ _ from HY.out.1).mono ?_
          rintro E w5 ⟨rfl, hw5, hk5⟩
          have hz5 := hk5.size
          have t2 := hk5.blk HY.out.2.2.1 (by omega) (by decide)
          have t3 := hk5.blk HY.out.2.2.2.1 (by omega) (by decide)
          have t4 := hk5.blk HY.out.2.2.2.2 (by omega) (by decide)
          have q3 : w5.cell? ⟨n1, 3, none⟩ = some (.slice (some ⟨bx, ox, none⟩) 2 sc) := t3.cell 3
          have hk35 := HY.out.2.1.trans hk5
          have hcy := HQ.out.2.1.keep hbB fun p hp => hk35.below.cell hp
          obtain ⟨r0, r1, r2, r3⟩ := hcy
          simp only [ExprR.kind, ExprR.n, ExprR.name, ExprR.sA, ExprR.sc, ExprR.kids] at r0 r1 r2 r3
          have hc2 := side_any _ H.out.2.2.2.2.2.2.1 H.out.2.2.2.2.2.2.2.2.1 w5 B b n0 n1 n4 _ 3 m name (some ⟨bx, ox, none⟩) 2 sc true (HQ.out.2.2.1.under hk35.below) hw5 (by simp; omega) (by omega) (HQ.out.2.2.2.2.2.2.1.on hk35.below) t2 t3 t4 (by omega)
          have HZ := Lib.hid (And.intro hc2 hk35); clear hw5 hk5 hk35 t2 t3 t4 hc2))
      | (go_at_call 81; (
          refine (show Calls _ _ _ _ _ from HZ.out.1).mono ?_
          rintro E w6 ⟨rfl, hw6, hk6⟩
          have HW := Lib.hid (And.intro hw6 hk6); clear hw6 hk6)))
    go_end0
    exact ⟨rfl, by rw [HQ.out.2.2.2.2.2.2.2.2]; rw [show ∀ t : List UInt8, l ++ (tx ++ (opT 3 ++ t)) = l ++ tx ++ [32, 43, 32] ++ t from fun t => by simp [opT]]; exact HW.out.1, HQ.out.2.2.2.2.2.2.2.1.trans (HZ.out.2.trans HW.out.2)⟩
  · go_wp2_with (first
      | (clear mk1; go_at_call 81; (
          refine (show Calls _ _ _ _ _ from HQ.out.1).mono ?_
          rintro E w4 ⟨rfl, hw4, hk4⟩
          have hz4 := hk4.size
          have t2 := hk4.blk HQ.out.2.2.2.1 (by omega) (by decide)
          have t3 := hk4.blk HQ.out.2.2.2.2.1 (by omega) (by decide)
          have t4 := hk4.blk HQ.out.2.2.2.2.2.1 (by omega) (by decide)
          have z4 : w4.cell? ⟨n0, 0, none⟩ = some (.pointer (some ⟨b, 0, none⟩)) := t2.cell 0
          have q0 : w4.cell? ⟨n1, 0, none⟩ = some (.int .i64 4) := t3.cell 0
          have hws := ws_any B b _ [32, 45, 32] w4 hw4 (by simp; omega) (by omega)
          have HY := Lib.hid (And.intro hws (And.intro hk4 (And.intro t2 (And.intro t3 t4)))); clear hw4 hk4 t2 t3 t4 hws))
      | (go_at_call 34; (
          refine (show Calls _ _ _ _ _ from HY.out.1).mono ?_
          rintro E w5 ⟨rfl, hw5, hk5⟩
          have hz5 := hk5.size
          have t2 := hk5.blk HY.out.2.2.1 (by omega) (by decide)
          have t3 := hk5.blk HY.out.2.2.2.1 (by omega) (by decide)
          have t4 := hk5.blk HY.out.2.2.2.2 (by omega) (by decide)
          have q3 : w5.cell? ⟨n1, 3, none⟩ = some (.slice (some ⟨bx, ox, none⟩) 2 sc) := t3.cell 3
          have hk35 := HY.out.2.1.trans hk5
          have hcy := HQ.out.2.1.keep hbB fun p hp => hk35.below.cell hp
          obtain ⟨r0, r1, r2, r3⟩ := hcy
          simp only [ExprR.kind, ExprR.n, ExprR.name, ExprR.sA, ExprR.sc, ExprR.kids] at r0 r1 r2 r3
          have hc2 := side_any _ H.out.2.2.2.2.2.2.1 H.out.2.2.2.2.2.2.2.2.1 w5 B b n0 n1 n4 _ 4 m name (some ⟨bx, ox, none⟩) 2 sc true (HQ.out.2.2.1.under hk35.below) hw5 (by simp; omega) (by omega) (HQ.out.2.2.2.2.2.2.1.on hk35.below) t2 t3 t4 (by omega)
          have HZ := Lib.hid (And.intro hc2 hk35); clear hw5 hk5 hk35 t2 t3 t4 hc2))
      | (go_at_call 81; (
          refine (show Calls _ _ _ _ _ from HZ.out.1).mono ?_
          rintro E w6 ⟨rfl, hw6, hk6⟩
          have HW := Lib.hid (And.intro hw6 hk6); clear hw6 hk6)))
    go_end0
    exact ⟨rfl, by rw [HQ.out.2.2.2.2.2.2.2.2]; rw [show ∀ t : List UInt8, l ++ (tx ++ (opT 4 ++ t)) = l ++ tx ++ [32, 45, 32] ++ t from fun t => by simp [opT]]; exact HW.out.1, HQ.out.2.2.2.2.2.2.2.1.trans (HZ.out.2.trans HW.out.2)⟩
  · go_wp2_with (first
      | (clear mk1; go_at_call 81; (
          refine (show Calls _ _ _ _ _ from HQ.out.1).mono ?_
          rintro E w4 ⟨rfl, hw4, hk4⟩
          have hz4 := hk4.size
          have t2 := hk4.blk HQ.out.2.2.2.1 (by omega) (by decide)
          have t3 := hk4.blk HQ.out.2.2.2.2.1 (by omega) (by decide)
          have t4 := hk4.blk HQ.out.2.2.2.2.2.1 (by omega) (by decide)
          have z4 : w4.cell? ⟨n0, 0, none⟩ = some (.pointer (some ⟨b, 0, none⟩)) := t2.cell 0
          have q0 : w4.cell? ⟨n1, 0, none⟩ = some (.int .i64 5) := t3.cell 0
          have hws := ws_any B b _ [32, 42, 32] w4 hw4 (by simp; omega) (by omega)
          have HY := Lib.hid (And.intro hws (And.intro hk4 (And.intro t2 (And.intro t3 t4)))); clear hw4 hk4 t2 t3 t4 hws))
      | (go_at_call 34; (
          refine (show Calls _ _ _ _ _ from HY.out.1).mono ?_
          rintro E w5 ⟨rfl, hw5, hk5⟩
          have hz5 := hk5.size
          have t2 := hk5.blk HY.out.2.2.1 (by omega) (by decide)
          have t3 := hk5.blk HY.out.2.2.2.1 (by omega) (by decide)
          have t4 := hk5.blk HY.out.2.2.2.2 (by omega) (by decide)
          have q3 : w5.cell? ⟨n1, 3, none⟩ = some (.slice (some ⟨bx, ox, none⟩) 2 sc) := t3.cell 3
          have hk35 := HY.out.2.1.trans hk5
          have hcy := HQ.out.2.1.keep hbB fun p hp => hk35.below.cell hp
          obtain ⟨r0, r1, r2, r3⟩ := hcy
          simp only [ExprR.kind, ExprR.n, ExprR.name, ExprR.sA, ExprR.sc, ExprR.kids] at r0 r1 r2 r3
          have hc2 := side_any _ H.out.2.2.2.2.2.2.1 H.out.2.2.2.2.2.2.2.2.1 w5 B b n0 n1 n4 _ 5 m name (some ⟨bx, ox, none⟩) 2 sc true (HQ.out.2.2.1.under hk35.below) hw5 (by simp; omega) (by omega) (HQ.out.2.2.2.2.2.2.1.on hk35.below) t2 t3 t4 (by omega)
          have HZ := Lib.hid (And.intro hc2 hk35); clear hw5 hk5 hk35 t2 t3 t4 hc2))
      | (go_at_call 81; (
          refine (show Calls _ _ _ _ _ from HZ.out.1).mono ?_
          rintro E w6 ⟨rfl, hw6, hk6⟩
          have HW := Lib.hid (And.intro hw6 hk6); clear hw6 hk6)))
    go_end0
    exact ⟨rfl, by rw [HQ.out.2.2.2.2.2.2.2.2]; rw [show ∀ t : List UInt8, l ++ (tx ++ (opT 5 ++ t)) = l ++ tx ++ [32, 42, 32] ++ t from fun t => by simp [opT]]; exact HW.out.1, HQ.out.2.2.2.2.2.2.2.1.trans (HZ.out.2.trans HW.out.2)⟩
/-- Every expression is written. -/
theorem exprW_any : ∀ e : ExprR, AllE e → ExprW e := by
  refine ExprR.ind fun e ih h => ?_
  have hok := h.ok
  have hkid := fun k (hk : k ∈ e.kids) => h.kid hk
  obtain ⟨kind, m, name, sA, sc, kids⟩ := e
  simp only [okE, ExprR.kind, ExprR.n, ExprR.name, ExprR.kids] at hok ih hkid
  rcases hok with ⟨rfl, h1, h2, _⟩ | ⟨rfl, _, h2, _⟩ | ⟨h1, h2, _, _, h3⟩
  · exact exprW_num m name sA sc kids ⟨h1, h2⟩
  · exact exprW_name m name sA sc kids h2.2.1
  · obtain ⟨x, y, rfl⟩ := kids2 h3
    exact exprW_op kind m name sA sc x y ⟨h1, h2⟩ (hkid x (by simp)) (hkid y (by simp)) (ih x (by simp) (hkid x (by simp))) (ih y (by simp) (hkid y (by simp)))
end Go.Proofs.YtgiceeholamphaaDoor
