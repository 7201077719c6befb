/- The contract of stepref.TextExpr. No conditions but that what is read is there, and is an expression, and the table of powers of ten is as it was laid. -/
import Derived.Test.YtgiceeholamphaaDoorTextM
import Derived.Test.YtgiceeholamphaaDoorFmt
import Derived.Lib.AppendIntMem
import Derived.Deep.RegionHeld3
namespace Go.Proofs.YtgiceeholamphaaDoor
open Go.ChangeShapes Go.WideShapes Go.ChangeAt Go.RowKit Go.Maps

/-- A text is returned; nothing of old is changed. -/
def TextPost (l : List UInt8) (w : World) (E : Ending) (w' : World) : Prop := E = .returned (.string ⟨l.toArray⟩) ∧ Below w.heap.size w w'
/-- The table of powers of ten, as it was laid. -/
abbrev Tens (w : World) : Prop := Lib.TabIs Tryd.prog w "internal/strconv.uint64pow10" .u64 Lib.pow10Tab
theorem Tens.below {w w' : World} (h : Tens w) (hb : Below w.heap.size w w') : Tens w' := Lib.tabBelow_of_tabIs h w' hb
theorem fmt_post (n : Int) (h0 : -9223372036854775808 ≤ n) (h1 : n ≤ 9223372036854775807) (w : World) (h : Tens w) :
    Calls Tryd.prog 23 #[.int .i64 n, .int .i64 10] w (TextPost (Lib.itoa n) w) := by
  refine (fmt_any n h0 h1 w h).mono ?_
  rintro E w' ⟨rfl, k, os, rfl⟩
  exact ⟨rfl, Lib.below_grow _ w (Nat.le_refl _) k os⟩
set_option maxRecDepth 100000 in
set_option maxHeartbeats 4000000 in
theorem textE_any : ∀ (e : ExprR) (w : World) (B t : Nat), RdE w B e → AllE e → 26 * e.nodes ≤ 8000000 → B ≤ w.heap.size → Tens w → t ≤ 2 →
    Calls Tryd.prog 22 #[e.val, .int .i64 t] w (TextPost (e.txt t) w) := by
  refine ExprR.ind fun e ih => ?_
  intro w B t hR hA hnn hB hT ht
  have hev1 := fun h => e.txt_num h t
  have hev2 := fun h => e.txt_name h t
  have hev3 := fun a b h hk => @ExprR.txt_op e a b h hk t
  have hnk := e.nodes_eq
  have hrow := hR.row
  have hkR := fun k (hk : k ∈ e.kids) => hR.kid hk
  have hok : okE e := hA.ok
  have hkA : ∀ k ∈ e.kids, AllE k := fun k hk => hA.kid hk
  have hbare := fun a b => @rfl _ (e.bare a b)
  obtain ⟨kind, m, name, sA, sc, kids⟩ := e
  simp only [ExprR.kind, ExprR.n, ExprR.name, ExprR.kids, ExprR.sA] at hev1 hev2 hev3 ih hrow hkR hkA hnk
  have H := Lib.hid (And.intro ih (And.intro hkR (And.intro hkA hT))); clear ih hkR hkA hT hR hA
  by_cases k1 : kind = 1
  · have Hev := Lib.hid (hev1 k1); clear hev1 hev2 hev3 hbare hrow
    subst k1
    have hm : 0 ≤ m ∧ m ≤ 1000000000 := by
      rcases hok with h | h | h
      · exact ⟨h.2.1, h.2.2.1⟩
      · have := h.1; simp [ExprR.kind] at this
      · have := h.1; simp [ExprR.kind] at this
    clear hok
    show Calls Tryd.prog 22 #[.agg #[.int .i64 1, .int .i64 m, .string name, .slice sA kids.length sc], .int .i64 t] w _
    go_enter Tryd.func22, Tryd.ntmps22
    go_wp2_with (go_at_call 23; (
      refine (show Calls _ _ _ _ _ from fmt_post m (by omega) (by omega) _ (H.out.2.2.2.below ((Below.refl _ _).alloc (Nat.le_refl _) _))).mono ?_
      rintro E w2 ⟨rfl, hb2⟩
      have HB2 := Lib.hid hb2; clear hb2))
    go_ret
    exact ⟨by rw [Hev.out]; rfl, ((Below.refl _ _).alloc (Nat.le_refl _) _).trans (HB2.out.mono (by simp))⟩
  by_cases k2 : kind = 2
  · have Hev := Lib.hid (hev2 k2); clear hev1 hev2 hev3 hbare hrow hok
    subst k2
    show Calls Tryd.prog 22 #[.agg #[.int .i64 2, .int .i64 m, .string name, .slice sA kids.length sc], .int .i64 t] w _
    go_enter Tryd.func22, Tryd.ntmps22
    go_wp2_with fail
    go_ret
    exact ⟨by rw [Hev.out]; exact congrArg (fun a : Array UInt8 => Ending.returned (.string ⟨a⟩)) (Array.toArray_toList (xs := name.data)).symm, (Below.refl _ _).alloc (Nat.le_refl _) _⟩
  have hk : 3 ≤ kind ∧ kind ≤ 5 ∧ kids.length = 2 := by
    rcases hok with h | h | h
    · exact absurd h.1 k1
    · exact absurd h.1 k2
    · exact ⟨h.1, h.2.1, h.2.2.2.2⟩
  clear hok hev1 hev2 k1 k2
  obtain ⟨hk3, hk5, hkl⟩ := hk
  obtain ⟨x, y, rfl⟩ : ∃ x y, kids = [x, y] := by
    match kids, hkl with
    | [x, y], _ => exact ⟨x, y, rfl⟩
  clear hkl
  have hev := hev3 x y hk3 rfl
  simp only [nodesE] at hnk
  clear hev3 hbare
  obtain ⟨b, o, rfl, hbB, hx⟩ := hrow.at_ (i := 0) (by simp)
  obtain ⟨b', o', eq, _, hy⟩ := hrow.at_ (i := 1) (by simp)
  injection eq with eq
  injection eq with eq1 eq2
  subst eq1 eq2
  clear hrow
  simp only [Nat.zero_mul, Nat.add_zero, Nat.one_mul, List.getElem_cons_zero, List.getElem_cons_succ] at hx hy
  obtain ⟨x0, x1, x2, x3⟩ := hx
  obtain ⟨y0, y1, y2, y3⟩ := hy
  have hbl : b < w.heap.size := by omega
  have hbn : ¬ (b = w.heap.size) := by omega
  have hcx := fun (W : World) (t : Nat) (ht : t ≤ 2) (h : Below w.heap.size w W) => H.out.1 x (by simp) W B t ((H.out.2.1 x (by simp)).under (h.mono hB)) (H.out.2.2.1 x (by simp)) (by omega) (by have := h.size; omega) (H.out.2.2.2.below h) ht
  have hcy := fun (W : World) (t : Nat) (ht : t ≤ 2) (h : Below w.heap.size w W) => H.out.1 y (by simp) W B t ((H.out.2.1 y (by simp)).under (h.mono hB)) (H.out.2.2.1 y (by simp)) (by omega) (by have := h.size; omega) (H.out.2.2.2.below h) ht
  have HC := Lib.hid (And.intro hcx hcy); clear hcx hcy
  have hlx := txt_len x (H.out.2.2.1 x (by simp))
  have hly := txt_len y (H.out.2.2.1 y (by simp))
  have hbl1 : b < w.heap.size + 1 := by omega
  have hk : kind = 3 ∨ kind = 4 ∨ kind = 5 := by omega
  clear hk3 hk5
  rcases hk with rfl | rfl | rfl
  · by_cases hm : 0 < t
    · have hev : (ExprR.mk 3 m name (some ⟨b, o, none⟩) sc [x, y]).txt t = if 0 < t then 40 :: ((x.txt 0 ++ ([32, 43, 32] ++ y.txt 1)) ++ [41]) else x.txt 0 ++ ([32, 43, 32] ++ y.txt 1) := hev
      have hev := hev.trans (if_pos hm)
      have hlx := hlx 0
      have hly := hly 1
      generalize hxv : x.txt 0 = xv at *
      generalize hyv : y.txt 1 = yv at *
      have Hv := Lib.hid (And.intro hxv hyv); clear hxv hyv
      have Hev := Lib.hid hev; clear hev
      have hlx2 : (xv.length : Int) ≤ 8000000 := by omega
      have hly2 : (yv.length : Int) ≤ 8000000 := by omega
      have hls : xv.length + yv.length + 26 ≤ 8000000 := by omega
      have ex1 : ∀ w : World, (Op.stringOp .add ⟨xv.toArray⟩ ⟨#[32, 43, 32]⟩).run Tryd.prog w = .ok (.string ⟨(xv ++ [32, 43, 32]).toArray⟩) w := fun w => run_string_add_lists (P := Tryd.prog) w xv [32, 43, 32] (by omega) (by simp)
      have ex2 : ∀ w : World, (Op.stringOp .add ⟨(xv ++ [32, 43, 32]).toArray⟩ ⟨yv.toArray⟩).run Tryd.prog w = .ok (.string ⟨((xv ++ [32, 43, 32]) ++ yv).toArray⟩) w := fun w => run_string_add_lists (P := Tryd.prog) w (xv ++ [32, 43, 32]) yv (by simp; omega) (by omega)
      have hm2 : (0 : Int) < (t : Int) := by omega
      have mk1 : Nat := 0
      show Calls Tryd.prog 22 #[.agg #[.int .i64 3, .int .i64 m, .string name, .slice (some ⟨b, o, none⟩) 2 sc], .int .i64 t] w _
      go_enter Tryd.func22, Tryd.ntmps22
      go_wp2_with fail
      go_region_held3 (fun w' => w'.cell? ⟨w.heap.size, 3, none⟩ = some (.slice (some ⟨b, o, none⟩) 2 sc) ∧ w'.cell? ⟨b, o, none⟩ = some (.int .i64 x.kind) ∧ w'.cell? ⟨b, o + 1, none⟩ = some (.int .i64 x.n) ∧ w'.cell? ⟨b, o + 2, none⟩ = some (.string x.name) ∧ w'.cell? ⟨b, o + 3, none⟩ = some (.slice x.sA x.kids.length x.sc) ∧ w'.cell? ⟨b, o + 4, none⟩ = some (.int .i64 y.kind) ∧ w'.cell? ⟨b, o + 4 + 1, none⟩ = some (.int .i64 y.n) ∧ w'.cell? ⟨b, o + 4 + 2, none⟩ = some (.string y.name) ∧ w'.cell? ⟨b, o + 4 + 3, none⟩ = some (.slice y.sA y.kids.length y.sc)) (go_keep) (first
        | (clear mk1; go_at_call 22; (
            refine (show Calls _ _ _ _ _ from HC.out.1 _ 0 (by omega) (((Below.refl w.heap.size w).alloc (Nat.le_refl _) (.cells #[.int .i64 3, .int .i64 m, .string name, .slice (some ⟨b, o, none⟩) 2 sc] 46)).drew)).mono ?_
            rintro E w2 ⟨rfl, hb2⟩
            have hc2 := bcell hb2
            have hs2 : w.heap.size < w2.heap.size := by have := hb2.size; simp at this; omega
            have hs2' : b < w2.heap.size := by omega
            rw [Hv.out.1]
            have HB2 := Lib.hid hb2; clear hb2))
        | (go_at_call 22; (
            refine (show Calls _ _ _ _ _ from HC.out.2 _ 1 (by omega) ((((Below.refl w.heap.size w).alloc (Nat.le_refl _) (.cells #[.int .i64 3, .int .i64 m, .string name, .slice (some ⟨b, o, none⟩) 2 sc] 46)).drew).trans (HB2.out.mono (by simp)))).mono ?_
            rintro E w3 ⟨rfl, hb3⟩
            have hc3 := bcell hb3
            rw [Hv.out.2]
            have HB3 := Lib.hid hb3; clear hb3)))
      go_wp2_with fail
      go_ret
      exact ⟨by rw [Hev.out]; simp [ByteArray.mk_append_mk], ((((Below.refl w.heap.size w).alloc (Nat.le_refl _) (.cells #[.int .i64 3, .int .i64 m, .string name, .slice (some ⟨b, o, none⟩) 2 sc] 46)).drew).trans (HB2.out.mono (by simp))).trans (HB3.out.mono (by omega))⟩
    · have hev : (ExprR.mk 3 m name (some ⟨b, o, none⟩) sc [x, y]).txt t = if 0 < t then 40 :: ((x.txt 0 ++ ([32, 43, 32] ++ y.txt 1)) ++ [41]) else x.txt 0 ++ ([32, 43, 32] ++ y.txt 1) := hev
      have hev := hev.trans (if_neg hm)
      have hlx := hlx 0
      have hly := hly 1
      generalize hxv : x.txt 0 = xv at *
      generalize hyv : y.txt 1 = yv at *
      have Hv := Lib.hid (And.intro hxv hyv); clear hxv hyv
      have Hev := Lib.hid hev; clear hev
      have hlx2 : (xv.length : Int) ≤ 8000000 := by omega
      have hly2 : (yv.length : Int) ≤ 8000000 := by omega
      have hls : xv.length + yv.length + 26 ≤ 8000000 := by omega
      have ex1 : ∀ w : World, (Op.stringOp .add ⟨xv.toArray⟩ ⟨#[32, 43, 32]⟩).run Tryd.prog w = .ok (.string ⟨(xv ++ [32, 43, 32]).toArray⟩) w := fun w => run_string_add_lists (P := Tryd.prog) w xv [32, 43, 32] (by omega) (by simp)
      have ex2 : ∀ w : World, (Op.stringOp .add ⟨(xv ++ [32, 43, 32]).toArray⟩ ⟨yv.toArray⟩).run Tryd.prog w = .ok (.string ⟨((xv ++ [32, 43, 32]) ++ yv).toArray⟩) w := fun w => run_string_add_lists (P := Tryd.prog) w (xv ++ [32, 43, 32]) yv (by simp; omega) (by omega)
      have hm2 : ¬ (0 : Int) < (t : Int) := by omega
      have mk1 : Nat := 0
      show Calls Tryd.prog 22 #[.agg #[.int .i64 3, .int .i64 m, .string name, .slice (some ⟨b, o, none⟩) 2 sc], .int .i64 t] w _
      go_enter Tryd.func22, Tryd.ntmps22
      go_wp2_with fail
      go_region_held3 (fun w' => w'.cell? ⟨w.heap.size, 3, none⟩ = some (.slice (some ⟨b, o, none⟩) 2 sc) ∧ w'.cell? ⟨b, o, none⟩ = some (.int .i64 x.kind) ∧ w'.cell? ⟨b, o + 1, none⟩ = some (.int .i64 x.n) ∧ w'.cell? ⟨b, o + 2, none⟩ = some (.string x.name) ∧ w'.cell? ⟨b, o + 3, none⟩ = some (.slice x.sA x.kids.length x.sc) ∧ w'.cell? ⟨b, o + 4, none⟩ = some (.int .i64 y.kind) ∧ w'.cell? ⟨b, o + 4 + 1, none⟩ = some (.int .i64 y.n) ∧ w'.cell? ⟨b, o + 4 + 2, none⟩ = some (.string y.name) ∧ w'.cell? ⟨b, o + 4 + 3, none⟩ = some (.slice y.sA y.kids.length y.sc)) (go_keep) (first
        | (clear mk1; go_at_call 22; (
            refine (show Calls _ _ _ _ _ from HC.out.1 _ 0 (by omega) (((Below.refl w.heap.size w).alloc (Nat.le_refl _) (.cells #[.int .i64 3, .int .i64 m, .string name, .slice (some ⟨b, o, none⟩) 2 sc] 46)).drew)).mono ?_
            rintro E w2 ⟨rfl, hb2⟩
            have hc2 := bcell hb2
            have hs2 : w.heap.size < w2.heap.size := by have := hb2.size; simp at this; omega
            have hs2' : b < w2.heap.size := by omega
            rw [Hv.out.1]
            have HB2 := Lib.hid hb2; clear hb2))
        | (go_at_call 22; (
            refine (show Calls _ _ _ _ _ from HC.out.2 _ 1 (by omega) ((((Below.refl w.heap.size w).alloc (Nat.le_refl _) (.cells #[.int .i64 3, .int .i64 m, .string name, .slice (some ⟨b, o, none⟩) 2 sc] 46)).drew).trans (HB2.out.mono (by simp)))).mono ?_
            rintro E w3 ⟨rfl, hb3⟩
            have hc3 := bcell hb3
            rw [Hv.out.2]
            have HB3 := Lib.hid hb3; clear hb3)))
      go_wp2_with fail
      go_ret
      exact ⟨by rw [Hev.out]; simp, ((((Below.refl w.heap.size w).alloc (Nat.le_refl _) (.cells #[.int .i64 3, .int .i64 m, .string name, .slice (some ⟨b, o, none⟩) 2 sc] 46)).drew).trans (HB2.out.mono (by simp))).trans (HB3.out.mono (by omega))⟩
  · by_cases hm : 0 < t
    · have hev : (ExprR.mk 4 m name (some ⟨b, o, none⟩) sc [x, y]).txt t = if 0 < t then 40 :: ((x.txt 0 ++ ([32, 45, 32] ++ y.txt 1)) ++ [41]) else x.txt 0 ++ ([32, 45, 32] ++ y.txt 1) := hev
      have hev := hev.trans (if_pos hm)
      have hlx := hlx 0
      have hly := hly 1
      generalize hxv : x.txt 0 = xv at *
      generalize hyv : y.txt 1 = yv at *
      have Hv := Lib.hid (And.intro hxv hyv); clear hxv hyv
      have Hev := Lib.hid hev; clear hev
      have hlx2 : (xv.length : Int) ≤ 8000000 := by omega
      have hly2 : (yv.length : Int) ≤ 8000000 := by omega
      have hls : xv.length + yv.length + 26 ≤ 8000000 := by omega
      have ex1 : ∀ w : World, (Op.stringOp .add ⟨xv.toArray⟩ ⟨#[32, 45, 32]⟩).run Tryd.prog w = .ok (.string ⟨(xv ++ [32, 45, 32]).toArray⟩) w := fun w => run_string_add_lists (P := Tryd.prog) w xv [32, 45, 32] (by omega) (by simp)
      have ex2 : ∀ w : World, (Op.stringOp .add ⟨(xv ++ [32, 45, 32]).toArray⟩ ⟨yv.toArray⟩).run Tryd.prog w = .ok (.string ⟨((xv ++ [32, 45, 32]) ++ yv).toArray⟩) w := fun w => run_string_add_lists (P := Tryd.prog) w (xv ++ [32, 45, 32]) yv (by simp; omega) (by omega)
      have hm2 : (0 : Int) < (t : Int) := by omega
      have mk1 : Nat := 0
      show Calls Tryd.prog 22 #[.agg #[.int .i64 4, .int .i64 m, .string name, .slice (some ⟨b, o, none⟩) 2 sc], .int .i64 t] w _
      go_enter Tryd.func22, Tryd.ntmps22
      go_wp2_with fail
      go_region_held3 (fun w' => w'.cell? ⟨w.heap.size, 3, none⟩ = some (.slice (some ⟨b, o, none⟩) 2 sc) ∧ w'.cell? ⟨b, o, none⟩ = some (.int .i64 x.kind) ∧ w'.cell? ⟨b, o + 1, none⟩ = some (.int .i64 x.n) ∧ w'.cell? ⟨b, o + 2, none⟩ = some (.string x.name) ∧ w'.cell? ⟨b, o + 3, none⟩ = some (.slice x.sA x.kids.length x.sc) ∧ w'.cell? ⟨b, o + 4, none⟩ = some (.int .i64 y.kind) ∧ w'.cell? ⟨b, o + 4 + 1, none⟩ = some (.int .i64 y.n) ∧ w'.cell? ⟨b, o + 4 + 2, none⟩ = some (.string y.name) ∧ w'.cell? ⟨b, o + 4 + 3, none⟩ = some (.slice y.sA y.kids.length y.sc)) (go_keep) (first
        | (clear mk1; go_at_call 22; (
            refine (show Calls _ _ _ _ _ from HC.out.1 _ 0 (by omega) (((Below.refl w.heap.size w).alloc (Nat.le_refl _) (.cells #[.int .i64 4, .int .i64 m, .string name, .slice (some ⟨b, o, none⟩) 2 sc] 46)).drew)).mono ?_
            rintro E w2 ⟨rfl, hb2⟩
            have hc2 := bcell hb2
            have hs2 : w.heap.size < w2.heap.size := by have := hb2.size; simp at this; omega
            have hs2' : b < w2.heap.size := by omega
            rw [Hv.out.1]
            have HB2 := Lib.hid hb2; clear hb2))
        | (go_at_call 22; (
            refine (show Calls _ _ _ _ _ from HC.out.2 _ 1 (by omega) ((((Below.refl w.heap.size w).alloc (Nat.le_refl _) (.cells #[.int .i64 4, .int .i64 m, .string name, .slice (some ⟨b, o, none⟩) 2 sc] 46)).drew).trans (HB2.out.mono (by simp)))).mono ?_
            rintro E w3 ⟨rfl, hb3⟩
            have hc3 := bcell hb3
            rw [Hv.out.2]
            have HB3 := Lib.hid hb3; clear hb3)))
      go_wp2_with fail
      go_ret
      exact ⟨by rw [Hev.out]; simp [ByteArray.mk_append_mk], ((((Below.refl w.heap.size w).alloc (Nat.le_refl _) (.cells #[.int .i64 4, .int .i64 m, .string name, .slice (some ⟨b, o, none⟩) 2 sc] 46)).drew).trans (HB2.out.mono (by simp))).trans (HB3.out.mono (by omega))⟩
    · have hev : (ExprR.mk 4 m name (some ⟨b, o, none⟩) sc [x, y]).txt t = if 0 < t then 40 :: ((x.txt 0 ++ ([32, 45, 32] ++ y.txt 1)) ++ [41]) else x.txt 0 ++ ([32, 45, 32] ++ y.txt 1) := hev
      have hev := hev.trans (if_neg hm)
      have hlx := hlx 0
      have hly := hly 1
      generalize hxv : x.txt 0 = xv at *
      generalize hyv : y.txt 1 = yv at *
      have Hv := Lib.hid (And.intro hxv hyv); clear hxv hyv
      have Hev := Lib.hid hev; clear hev
      have hlx2 : (xv.length : Int) ≤ 8000000 := by omega
      have hly2 : (yv.length : Int) ≤ 8000000 := by omega
      have hls : xv.length + yv.length + 26 ≤ 8000000 := by omega
      have ex1 : ∀ w : World, (Op.stringOp .add ⟨xv.toArray⟩ ⟨#[32, 45, 32]⟩).run Tryd.prog w = .ok (.string ⟨(xv ++ [32, 45, 32]).toArray⟩) w := fun w => run_string_add_lists (P := Tryd.prog) w xv [32, 45, 32] (by omega) (by simp)
      have ex2 : ∀ w : World, (Op.stringOp .add ⟨(xv ++ [32, 45, 32]).toArray⟩ ⟨yv.toArray⟩).run Tryd.prog w = .ok (.string ⟨((xv ++ [32, 45, 32]) ++ yv).toArray⟩) w := fun w => run_string_add_lists (P := Tryd.prog) w (xv ++ [32, 45, 32]) yv (by simp; omega) (by omega)
      have hm2 : ¬ (0 : Int) < (t : Int) := by omega
      have mk1 : Nat := 0
      show Calls Tryd.prog 22 #[.agg #[.int .i64 4, .int .i64 m, .string name, .slice (some ⟨b, o, none⟩) 2 sc], .int .i64 t] w _
      go_enter Tryd.func22, Tryd.ntmps22
      go_wp2_with fail
      go_region_held3 (fun w' => w'.cell? ⟨w.heap.size, 3, none⟩ = some (.slice (some ⟨b, o, none⟩) 2 sc) ∧ w'.cell? ⟨b, o, none⟩ = some (.int .i64 x.kind) ∧ w'.cell? ⟨b, o + 1, none⟩ = some (.int .i64 x.n) ∧ w'.cell? ⟨b, o + 2, none⟩ = some (.string x.name) ∧ w'.cell? ⟨b, o + 3, none⟩ = some (.slice x.sA x.kids.length x.sc) ∧ w'.cell? ⟨b, o + 4, none⟩ = some (.int .i64 y.kind) ∧ w'.cell? ⟨b, o + 4 + 1, none⟩ = some (.int .i64 y.n) ∧ w'.cell? ⟨b, o + 4 + 2, none⟩ = some (.string y.name) ∧ w'.cell? ⟨b, o + 4 + 3, none⟩ = some (.slice y.sA y.kids.length y.sc)) (go_keep) (first
        | (clear mk1; go_at_call 22; (
            refine (show Calls _ _ _ _ _ from HC.out.1 _ 0 (by omega) (((Below.refl w.heap.size w).alloc (Nat.le_refl _) (.cells #[.int .i64 4, .int .i64 m, .string name, .slice (some ⟨b, o, none⟩) 2 sc] 46)).drew)).mono ?_
            rintro E w2 ⟨rfl, hb2⟩
            have hc2 := bcell hb2
            have hs2 : w.heap.size < w2.heap.size := by have := hb2.size; simp at this; omega
            have hs2' : b < w2.heap.size := by omega
            rw [Hv.out.1]
            have HB2 := Lib.hid hb2; clear hb2))
        | (go_at_call 22; (
            refine (show Calls _ _ _ _ _ from HC.out.2 _ 1 (by omega) ((((Below.refl w.heap.size w).alloc (Nat.le_refl _) (.cells #[.int .i64 4, .int .i64 m, .string name, .slice (some ⟨b, o, none⟩) 2 sc] 46)).drew).trans (HB2.out.mono (by simp)))).mono ?_
            rintro E w3 ⟨rfl, hb3⟩
            have hc3 := bcell hb3
            rw [Hv.out.2]
            have HB3 := Lib.hid hb3; clear hb3)))
      go_wp2_with fail
      go_ret
      exact ⟨by rw [Hev.out]; simp, ((((Below.refl w.heap.size w).alloc (Nat.le_refl _) (.cells #[.int .i64 4, .int .i64 m, .string name, .slice (some ⟨b, o, none⟩) 2 sc] 46)).drew).trans (HB2.out.mono (by simp))).trans (HB3.out.mono (by omega))⟩
  · by_cases hm : 1 < t
    · have hev : (ExprR.mk 5 m name (some ⟨b, o, none⟩) sc [x, y]).txt t = if 1 < t then 40 :: ((x.txt 1 ++ ([32, 42, 32] ++ y.txt 2)) ++ [41]) else x.txt 1 ++ ([32, 42, 32] ++ y.txt 2) := hev
      have hev := hev.trans (if_pos hm)
      have hlx := hlx 1
      have hly := hly 2
      generalize hxv : x.txt 1 = xv at *
      generalize hyv : y.txt 2 = yv at *
      have Hv := Lib.hid (And.intro hxv hyv); clear hxv hyv
      have Hev := Lib.hid hev; clear hev
      have hlx2 : (xv.length : Int) ≤ 8000000 := by omega
      have hly2 : (yv.length : Int) ≤ 8000000 := by omega
      have hls : xv.length + yv.length + 26 ≤ 8000000 := by omega
      have ex1 : ∀ w : World, (Op.stringOp .add ⟨xv.toArray⟩ ⟨#[32, 42, 32]⟩).run Tryd.prog w = .ok (.string ⟨(xv ++ [32, 42, 32]).toArray⟩) w := fun w => run_string_add_lists (P := Tryd.prog) w xv [32, 42, 32] (by omega) (by simp)
      have ex2 : ∀ w : World, (Op.stringOp .add ⟨(xv ++ [32, 42, 32]).toArray⟩ ⟨yv.toArray⟩).run Tryd.prog w = .ok (.string ⟨((xv ++ [32, 42, 32]) ++ yv).toArray⟩) w := fun w => run_string_add_lists (P := Tryd.prog) w (xv ++ [32, 42, 32]) yv (by simp; omega) (by omega)
      have hm2 : (1 : Int) < (t : Int) := by omega
      have mk1 : Nat := 0
      show Calls Tryd.prog 22 #[.agg #[.int .i64 5, .int .i64 m, .string name, .slice (some ⟨b, o, none⟩) 2 sc], .int .i64 t] w _
      go_enter Tryd.func22, Tryd.ntmps22
      go_wp2_with fail
      go_region_held3 (fun w' => w'.cell? ⟨w.heap.size, 3, none⟩ = some (.slice (some ⟨b, o, none⟩) 2 sc) ∧ w'.cell? ⟨b, o, none⟩ = some (.int .i64 x.kind) ∧ w'.cell? ⟨b, o + 1, none⟩ = some (.int .i64 x.n) ∧ w'.cell? ⟨b, o + 2, none⟩ = some (.string x.name) ∧ w'.cell? ⟨b, o + 3, none⟩ = some (.slice x.sA x.kids.length x.sc) ∧ w'.cell? ⟨b, o + 4, none⟩ = some (.int .i64 y.kind) ∧ w'.cell? ⟨b, o + 4 + 1, none⟩ = some (.int .i64 y.n) ∧ w'.cell? ⟨b, o + 4 + 2, none⟩ = some (.string y.name) ∧ w'.cell? ⟨b, o + 4 + 3, none⟩ = some (.slice y.sA y.kids.length y.sc)) (go_keep) (first
        | (clear mk1; go_at_call 22; (
            refine (show Calls _ _ _ _ _ from HC.out.1 _ 1 (by omega) (((Below.refl w.heap.size w).alloc (Nat.le_refl _) (.cells #[.int .i64 5, .int .i64 m, .string name, .slice (some ⟨b, o, none⟩) 2 sc] 46)).drew)).mono ?_
            rintro E w2 ⟨rfl, hb2⟩
            have hc2 := bcell hb2
            have hs2 : w.heap.size < w2.heap.size := by have := hb2.size; simp at this; omega
            have hs2' : b < w2.heap.size := by omega
            rw [Hv.out.1]
            have HB2 := Lib.hid hb2; clear hb2))
        | (go_at_call 22; (
            refine (show Calls _ _ _ _ _ from HC.out.2 _ 2 (by omega) ((((Below.refl w.heap.size w).alloc (Nat.le_refl _) (.cells #[.int .i64 5, .int .i64 m, .string name, .slice (some ⟨b, o, none⟩) 2 sc] 46)).drew).trans (HB2.out.mono (by simp)))).mono ?_
            rintro E w3 ⟨rfl, hb3⟩
            have hc3 := bcell hb3
            rw [Hv.out.2]
            have HB3 := Lib.hid hb3; clear hb3)))
      go_wp2_with fail
      go_ret
      exact ⟨by rw [Hev.out]; simp [ByteArray.mk_append_mk], ((((Below.refl w.heap.size w).alloc (Nat.le_refl _) (.cells #[.int .i64 5, .int .i64 m, .string name, .slice (some ⟨b, o, none⟩) 2 sc] 46)).drew).trans (HB2.out.mono (by simp))).trans (HB3.out.mono (by omega))⟩
    · have hev : (ExprR.mk 5 m name (some ⟨b, o, none⟩) sc [x, y]).txt t = if 1 < t then 40 :: ((x.txt 1 ++ ([32, 42, 32] ++ y.txt 2)) ++ [41]) else x.txt 1 ++ ([32, 42, 32] ++ y.txt 2) := hev
      have hev := hev.trans (if_neg hm)
      have hlx := hlx 1
      have hly := hly 2
      generalize hxv : x.txt 1 = xv at *
      generalize hyv : y.txt 2 = yv at *
      have Hv := Lib.hid (And.intro hxv hyv); clear hxv hyv
      have Hev := Lib.hid hev; clear hev
      have hlx2 : (xv.length : Int) ≤ 8000000 := by omega
      have hly2 : (yv.length : Int) ≤ 8000000 := by omega
      have hls : xv.length + yv.length + 26 ≤ 8000000 := by omega
      have ex1 : ∀ w : World, (Op.stringOp .add ⟨xv.toArray⟩ ⟨#[32, 42, 32]⟩).run Tryd.prog w = .ok (.string ⟨(xv ++ [32, 42, 32]).toArray⟩) w := fun w => run_string_add_lists (P := Tryd.prog) w xv [32, 42, 32] (by omega) (by simp)
      have ex2 : ∀ w : World, (Op.stringOp .add ⟨(xv ++ [32, 42, 32]).toArray⟩ ⟨yv.toArray⟩).run Tryd.prog w = .ok (.string ⟨((xv ++ [32, 42, 32]) ++ yv).toArray⟩) w := fun w => run_string_add_lists (P := Tryd.prog) w (xv ++ [32, 42, 32]) yv (by simp; omega) (by omega)
      have hm2 : ¬ (1 : Int) < (t : Int) := by omega
      have mk1 : Nat := 0
      show Calls Tryd.prog 22 #[.agg #[.int .i64 5, .int .i64 m, .string name, .slice (some ⟨b, o, none⟩) 2 sc], .int .i64 t] w _
      go_enter Tryd.func22, Tryd.ntmps22
      go_wp2_with fail
      go_region_held3 (fun w' => w'.cell? ⟨w.heap.size, 3, none⟩ = some (.slice (some ⟨b, o, none⟩) 2 sc) ∧ w'.cell? ⟨b, o, none⟩ = some (.int .i64 x.kind) ∧ w'.cell? ⟨b, o + 1, none⟩ = some (.int .i64 x.n) ∧ w'.cell? ⟨b, o + 2, none⟩ = some (.string x.name) ∧ w'.cell? ⟨b, o + 3, none⟩ = some (.slice x.sA x.kids.length x.sc) ∧ w'.cell? ⟨b, o + 4, none⟩ = some (.int .i64 y.kind) ∧ w'.cell? ⟨b, o + 4 + 1, none⟩ = some (.int .i64 y.n) ∧ w'.cell? ⟨b, o + 4 + 2, none⟩ = some (.string y.name) ∧ w'.cell? ⟨b, o + 4 + 3, none⟩ = some (.slice y.sA y.kids.length y.sc)) (go_keep) (first
        | (clear mk1; go_at_call 22; (
            refine (show Calls _ _ _ _ _ from HC.out.1 _ 1 (by omega) (((Below.refl w.heap.size w).alloc (Nat.le_refl _) (.cells #[.int .i64 5, .int .i64 m, .string name, .slice (some ⟨b, o, none⟩) 2 sc] 46)).drew)).mono ?_
            rintro E w2 ⟨rfl, hb2⟩
            have hc2 := bcell hb2
            have hs2 : w.heap.size < w2.heap.size := by have := hb2.size; simp at this; omega
            have hs2' : b < w2.heap.size := by omega
            rw [Hv.out.1]
            have HB2 := Lib.hid hb2; clear hb2))
        | (go_at_call 22; (
            refine (show Calls _ _ _ _ _ from HC.out.2 _ 2 (by omega) ((((Below.refl w.heap.size w).alloc (Nat.le_refl _) (.cells #[.int .i64 5, .int .i64 m, .string name, .slice (some ⟨b, o, none⟩) 2 sc] 46)).drew).trans (HB2.out.mono (by simp)))).mono ?_
            rintro E w3 ⟨rfl, hb3⟩
            have hc3 := bcell hb3
            rw [Hv.out.2]
            have HB3 := Lib.hid hb3; clear hb3)))
      go_wp2_with fail
      go_ret
      exact ⟨by rw [Hev.out]; simp, ((((Below.refl w.heap.size w).alloc (Nat.le_refl _) (.cells #[.int .i64 5, .int .i64 m, .string name, .slice (some ⟨b, o, none⟩) 2 sc] 46)).drew).trans (HB2.out.mono (by simp))).trans (HB3.out.mono (by omega))⟩
end Go.Proofs.YtgiceeholamphaaDoor
