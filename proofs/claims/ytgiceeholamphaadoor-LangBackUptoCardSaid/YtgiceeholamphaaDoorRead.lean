/- The contract of lang.Read. No conditions but the text's length. -/
import Derived.Test.YtgiceeholamphaaDoorRdY
import Derived.Test.YtgiceeholamphaaDoorReadC
import Derived.Test.YtgiceeholamphaaDoorWrB
import Derived.Test.YtgiceeholamphaaDoorChk
namespace Go.Proofs.YtgiceeholamphaaDoor
open Go.ChangeShapes Go.WideShapes Go.ChangeAt Go.RowKit Go.Maps

/-- What a text is read as. -/
inductive ReadOut where
  | syn (at_ : Nat)
  | large
  | fine (l : List StatR)
noncomputable def outOf : PR (List StatR) → ReadOut
  | .no n => .syn n
  | .ok l ts => if isTok [] ts then (if wrong l = 0 then .fine l else .large) else .syn (hd ts).2
def ReadPost (o : ReadOut) (w : World) (E : Ending) (w' : World) : Prop :=
  Below w.heap.size w w' ∧ match o with
  | .syn n => E = .returned (.tuple #[.slice none 0 0, .agg #[.int .i64 6, .int .i64 (n : Int)]])
  | .large => E = .returned (.tuple #[.slice none 0 0, .agg #[.int .i64 2, .int .i64 0]])
  | .fine l => ∃ k : BlockR, E = .returned (.tuple #[k.val, .agg #[.int .i64 0, .int .i64 0]]) ∧ plainS k.l = l ∧ LdB (under w.heap.size) w' k
theorem RAt.begin {w : World} {base : Nat} {v : Value} {T : List Tok} (h : w.ownsRow base 64 2 v T.length (tokC T)) (hT : 0 < T.length) :
    ∃ tb c, v = .slice (some ⟨tb, 0, none⟩) T.length c ∧ base ≤ tb ∧ tb < w.heap.size ∧ RAt (w.alloc (.cells #[.slice (some ⟨tb, 0, none⟩) T.length c, .int .i64 0] 61)) w.heap.size tb c T 0 := by
  obtain ⟨tb, c, rfl, hb, hlt, _, _⟩ := own_top h hT
  refine ⟨tb, c, rfl, hb, hlt, hT, by omega, Blk.newArr _ _ rfl, fun k hk => ?_⟩
  obtain ⟨h1, h2⟩ := tokC_get T hk
  exact ⟨(World.cell?_alloc_lt w _ (a := ⟨tb, k * 2, none⟩) hlt).trans ((h.cellAt _ (by omega)).trans h1), (World.cell?_alloc_lt w _ (a := ⟨tb, k * 2 + 1, none⟩) hlt).trans ((h.cellAt _ (by omega)).trans h2)⟩
theorem blw_drewN (w : World) (n : Nat) : Below w.heap.size w (w.drewN n) := ⟨rfl, rfl, rfl, Nat.le_refl _, fun _ _ => rfl⟩
/-- What stands below, and Read's two results. -/
structure RB (w wr : World) (v f0 f1 : Value) : Prop where
  below : Below w.heap.size w wr
  bl : Blk wr w.heap.size 22 [v]
  bf : Blk wr (w.heap.size + 1) 30 [f0, f1]
section
variable {w wr w' : World} {v f0 f1 : Value}
theorem RB.grown {g : Nat} (h : RB w wr v f0 f1) (hg : wr.grownBy w' (some g)) (hgl : w.heap.size + 1 < g) : RB w w' v f0 f1 :=
  ⟨h.below.grown hg h.below.size (fun k e => by cases e; omega), h.bl.grown hg (by intro e; cases e; omega), h.bf.grown hg (by intro e; cases e; omega)⟩
theorem RB.kept {B : Nat} (h : RB w wr v f0 f1) (hb : Below B wr w') (hB : w.heap.size + 1 < B) : RB w w' v f0 f1 := ⟨h.below.trans (hb.mono (by omega)), h.bl.below hb (by omega), h.bf.below hb hB⟩
theorem RB.setL (h : RB w wr v f0 f1) (v2 : Value) : RB w (wr.setCell ⟨w.heap.size, 0, none⟩ v2) v2 f0 f1 := ⟨h.below.setCell (Nat.le_refl _) _, by simpa using h.bl.set_ 0 v2, h.bf.far (by show w.heap.size + 1 ≠ w.heap.size; omega) _⟩
theorem RB.setF (h : RB w wr v f0 f1) (a b : Value) : RB w ((wr.setCell ⟨w.heap.size + 1, 0, none⟩ a).setCell ⟨w.heap.size + 1, 1, none⟩ b) v a b :=
  ⟨(h.below.setCell (p := ⟨w.heap.size + 1, 0, none⟩) (by show w.heap.size ≤ w.heap.size + 1; omega) _).setCell (p := ⟨w.heap.size + 1, 1, none⟩) (by show w.heap.size ≤ w.heap.size + 1; omega) _, (h.bl.far (by show w.heap.size ≠ w.heap.size + 1; omega) _).far (by show w.heap.size ≠ w.heap.size + 1; omega) _, by simpa using (h.bf.set_ 0 a).set_ 1 b⟩
/-- What Read hands back is read last. -/
theorem RB.give (h : RB w wr v f0 f1) {tmps : Array Value} (h2 : tmps[2]?.getD undef = .pointer (some ⟨w.heap.size, 0, none⟩)) (h3 : tmps[3]?.getD undef = .pointer (some ⟨w.heap.size + 1, 0, none⟩)) :
    (results Tryd.f11 tmps).run Tryd.prog wr = .ok (.tuple #[v, .agg #[f0, f1]]) wr := by
  have c0 := h.bl.cell 0
  have c1 := h.bf.cell 0
  have c2 := h.bf.cell 1
  have c0' : wr.cell? ⟨w.heap.size, 0, none⟩ = some v := c0
  have c1' : wr.cell? ⟨w.heap.size + 1, 0, none⟩ = some f0 := c1
  have c2' : wr.cell? ⟨w.heap.size + 1, 1, none⟩ = some f1 := c2
  clear c0 c1 c2
  simp [results, Tryd.results11, h2, h3, go_sem, c0', c1', c2']
/-- Behind a stop: the closure hands back the fault. -/
theorem door_stop {tmps : Array Value} {o : ReadOut} {n : Nat} (h : RB w wr v f0 f1) (h2 : tmps[2]?.getD undef = .pointer (some ⟨w.heap.size, 0, none⟩)) (h3 : tmps[3]?.getD undef = .pointer (some ⟨w.heap.size + 1, 0, none⟩)) (ho : o = .syn n) :
    Leaves Tryd.prog Tryd.f11 tmps (ReadPost o w) [{ target := .fn (.func 24) #[.pointer (some ⟨w.heap.size, 0, none⟩), .pointer (some ⟨w.heap.size + 1, 0, none⟩)], args := #[] }] (.panicking [{ v := .iface 55 (.int .i64 (n : Int)), recovered := false }]) wr := by
  subst ho
  refine leaves_cons (f := 24) (args := #[.pointer (some ⟨w.heap.size, 0, none⟩), .pointer (some ⟨w.heap.size + 1, 0, none⟩)]) (by simp) (by simp [go_sem]) ?_
  refine (catch_stop _ _ _ _ _ _ _ [] h.bl h.bf (by omega)).mono ?_
  rintro e u' w'' ⟨rfl, rfl, rfl⟩
  have h4 := (h.setL (.slice none 0 0)).setF (.int .i64 6) (.int .i64 (n : Int))
  exact ⟨_, h4.give h2 h3, h4.below, rfl⟩
/-- Behind a return. -/
theorem door_ret {tmps : Array Value} {o : ReadOut} (h : RB w wr v f0 f1) (h2 : tmps[2]?.getD undef = .pointer (some ⟨w.heap.size, 0, none⟩)) (h3 : tmps[3]?.getD undef = .pointer (some ⟨w.heap.size + 1, 0, none⟩)) (ho : ReadPost o w (.returned (.tuple #[v, .agg #[f0, f1]])) wr) :
    Leaves Tryd.prog Tryd.f11 tmps (ReadPost o w) [{ target := .fn (.func 24) #[.pointer (some ⟨w.heap.size, 0, none⟩), .pointer (some ⟨w.heap.size + 1, 0, none⟩)], args := #[] }] .returning wr := by
  refine leaves_cons (f := 24) (args := #[.pointer (some ⟨w.heap.size, 0, none⟩), .pointer (some ⟨w.heap.size + 1, 0, none⟩)]) (by simp) (by simp [go_sem]) ?_
  refine (catch_idle _ _ _).mono ?_
  rintro e u' w'' ⟨rfl, rfl, rfl⟩
  exact ⟨_, h.give h2 h3, ho⟩
end
set_option maxRecDepth 100000 in
set_option maxHeartbeats 8000000 in
theorem read_any (s : ByteArray) (w : World) (hs : s.size ≤ 1048576) (f : Nat) (rl : PR (List StatR)) (hr : (gram f).list [] (toksAt s.data.toList 0) = some rl) :
    Calls Tryd.prog 11 #[.string s] w (ReadPost (outOf rl) w) := by
  have hmf : ∀ (fn : Fn) (first cap : Array Value) (w : World), (Instr.makeFunc fn first cap).run Tryd.prog w = .ok (.func fn first cap) w := fun _ _ _ _ => rfl
  have hT := tokOk s.data.toList (by simpa using hs)
  obtain ⟨T, hTe⟩ : ∃ T, toksAt s.data.toList 0 = T := ⟨_, rfl⟩
  have hTl := toksAt_len s.data.toList 0
  rw [hTe] at hr hT hTl
  have hTp : 0 < T.length := by obtain ⟨P, n, e⟩ := hT.fin; rw [e]; simp
  have htk := fun wx => tokens_any s wx hs
  unfold TokPost at htk
  rw [hTe] at htk
  have hR0 : RB w ((w.alloc (.cells #[.slice none 0 0] 22)).alloc (.cells #[.int .i64 0, .int .i64 0] 30)) (.slice none 0 0) (.int .i64 0) (.int .i64 0) :=
    ⟨((Below.refl _ _).alloc (Nat.le_refl _) _).alloc (by simp) _, (Blk.newArr _ _ rfl).alloc _, by have := Blk.newArr (w.alloc (.cells #[.slice none 0 0] 22)) 30 (cs := #[.int .i64 0, .int .i64 0]) (vs := [.int .i64 0, .int .i64 0]) rfl; simpa using this⟩
  have hfew := (gram_few f).list _ _ _ hr
  have H := Lib.hid (And.intro hT (And.intro htk (And.intro hTp (And.intro hr (And.intro hR0 (And.intro hfew hTl)))))); clear hT htk hTp hr hTe hR0 hfew hTl
  go_enter_defers Tryd.func11, Tryd.ntmps11
  go_upto_region 3 with (go_at_call 25; (
    refine (show Calls _ _ _ _ _ from H.out.2.1 _).mono ?_
    rintro E w3 ⟨v, rfl, hown, hb3⟩
    obtain ⟨tb, c, rfl, hb, hlt, hA⟩ := RAt.begin hown H.out.2.2.1
    have hz3 := hb3.size
    simp at hz3
    have hR3 := (H.out.2.2.2.2.1.kept hb3 (by simp)).grown (g := w3.heap.size) (World.grownBy_alloc w3 (.cells #[.slice (some ⟨tb, 0, none⟩) T.length c, .int .i64 0] 61) _) (by omega)
    have hb' : w.heap.size + 2 ≤ tb := by simpa using hb
    have H3 := Lib.hid (And.intro hR3 hA); clear hb3 hA hb hlt hown hR3))
  generalize hW4 : w3.alloc (.cells #[.slice (some ⟨tb, 0, none⟩) T.length c, .int .i64 0] 61) = W4 at *
  obtain ⟨g, hg⟩ : ∃ g, w3.heap.size = g := ⟨_, rfl⟩
  rw [hg] at hz3
  rw [hg]
  have hA0 := H3.out.2
  rw [hg] at hA0
  have hblk := block_all f W4 g tb c 0 T rl hA0 H.out.1 (by simpa using H.out.2.2.2.1)
  have H4 := Lib.hid (And.intro H3.out.1 (And.intro hA0 hblk)); clear hA0 hblk H3 hg hW4
  cases rl with
  | no n =>
    go_wp2_with (go_at_call 26; (
      refine (show Calls _ _ _ _ _ from H4.out.2.2).mono ?_
      rintro E w5 ⟨hg5, rfl⟩
      have H5 := Lib.hid hg5; clear hg5))
    exact door_stop (H4.out.1.grown H5.out (by omega)) rfl rfl rfl
  | ok l ts =>
    have hl0 := H4.out.1.bl.cell 0
    go_upto_region 4 with (go_at_call 26; (
      refine (show Calls _ _ _ _ _ from H4.out.2.2).mono ?_
      rintro E w5 ⟨hg5, v, i5, rfl, ⟨k, rfl, hke, hkl⟩, hd5, hA5⟩
      have hR5 := H4.out.1.grown hg5 (by omega)
      have l0 := hR5.bl.cell 0
      have q0 := hR5.bl.frozen 0
      have hz5 := H4.out.1.bf.lt
      have H5 := Lib.hid (And.intro hR5 (And.intro hke (And.intro hkl (And.intro hd5 (And.intro hA5 hz5))))); clear hR5 hke hkl hd5 hA5 hg5 hz5
      simp only [BlockR.val]))
    obtain ⟨hR5, hke, hkl, hd5, hA5, hz5⟩ := H5.out
    have hR6 := hR5.setL (.slice k.A k.l.length k.c)
    have hA6 : RAt (w5.setCell ⟨w.heap.size, 0, none⟩ (.slice k.A k.l.length k.c)) g tb c T i5 := hA5.far (by omega) (by omega)
    have hkl6 := hkl.go (Stays.set_ (b := w.heap.size) (o := 0) (v := .slice k.A k.l.length k.c) (by simp; omega))
    generalize w5.setCell ⟨w.heap.size, 0, none⟩ (.slice k.A k.l.length k.c) = W6 at *
    clear hl0 l0 q0 H4 H5 hR5 hkl hA5
    obtain ⟨t, hd', ht, h0, h1, hf0, h2, hil, hTl⟩ := hA6.facts H.out.1
    have hne := hA6.ne
    by_cases hk : isTok [] ts = true
    · have ht1 : t.1 = [] := by
        have := isTok_hd hk
        rw [← hd5, hd'] at this
        exact this
      rw [ht1] at h2
      have hoo : outOf (.ok l ts) = if wrong l = 0 then .fine l else .large := by simp only [outOf]; rw [if_pos hk]
      have hcost := H.out.2.2.2.2.2.1
      simp only [Cost, nodesS, Nat.zero_add] at hcost
      have hlen := H.out.2.2.2.2.2.2
      have htsl : ts.length = T.length - i5 := by rw [← hd5, List.length_drop]
      have hi5 := hA6.hi
      have hkn : nodesS k.l ≤ 1048576 := by
        have e := plainS_nodes k.l
        rw [hke] at e
        have hsz : s.data.toList.length = s.size := by simp
        omega
      by_cases hw : wrong l = 0
      · rw [if_pos hw] at hoo
        have hw' : wrong k.l = 0 := by rw [← wrong_bare, hke]; exact hw
        have hchk := fun wx (hb : Below W6.heap.size W6 wx) => check_any k wx W6.heap.size (hkl6.rd.under hb) hb.size hkn
        have HH := Lib.hid (And.intro hR6 (And.intro hA6 (And.intro hkl6 (And.intro hke hchk)))); clear hR6 hA6 hkl6 hke hchk hcost hlen
        have l0 := HH.out.1.bl.cell 0
        go_wp2_with fail
        go_quiet (fail)
        go_wp2_with (go_at_call 14; (
          refine (show Calls _ _ _ _ _ from HH.out.2.2.2.2 _ (blw_drewN _ nq)).mono ?_
          rintro E w8 ⟨rfl, hb8⟩
          rw [hw']
          have hR8 := HH.out.1.kept ((blw_drewN W6 nq).trans hb8) (by have := HH.out.1.bf.lt; omega)
          have l8 := hR8.bl.cell 0
          have p0 := hR8.bl.frozen 0
          have m0 := hR8.bf.cell 0
          have m1 := hR8.bf.cell 1
          have p1 := hR8.bf.frozen 0
          have p2 := hR8.bf.frozen 1
          have H8 := Lib.hid (And.intro hR8 hb8); clear hR8 hb8))
        have hR9 := (H8.out.1.setL (.slice k.A k.l.length k.c)).setF (.int .i64 0) (.int .i64 0)
        refine door_ret hR9 rfl rfl ?_
        rw [hoo]
        have hlow := HH.out.1.bf.lt
        refine ⟨hR9.below, k, rfl, HH.out.2.2.2.1, ?_⟩
        refine ((((HH.out.2.2.1.go (S' := under (w.heap.size + 2)) (Stays.sub (by intro b _ hb; simp at hb ⊢; omega))).go (Stays.of_grown (S := under (w.heap.size + 2)) (grown_of_below ((blw_drewN W6 nq).trans H8.out.2) none) (by simp))).go (((Stays.set_ (by simp)).trans (Stays.set_ (by simp))).trans (Stays.set_ (by simp)))).go (Stays.sub (by intro b _ hb; simp at hb ⊢; omega)))
      · rw [if_neg hw] at hoo
        have hw' : ¬ ((wrong k.l : Int) = 0) := by rw [← wrong_bare, hke]; omega
        have hchk := fun wx (hb : Below W6.heap.size W6 wx) => check_any k wx W6.heap.size (hkl6.rd.under hb) hb.size hkn
        unfold ChkPost at hchk
        generalize wrong k.l = x at *
        have HH := Lib.hid (And.intro hR6 (And.intro hA6 (And.intro hkl6 (And.intro hke hchk)))); clear hR6 hA6 hkl6 hke hchk hcost hlen
        have l0 := HH.out.1.bl.cell 0
        go_wp2_with fail
        go_quiet (fail)
        go_wp2_with (go_at_call 14; (
          refine (show Calls _ _ _ _ _ from HH.out.2.2.2.2 _ (blw_drewN _ nq)).mono ?_
          rintro E w8 ⟨rfl, hb8⟩
          have hR8 := HH.out.1.kept ((blw_drewN W6 nq).trans hb8) (by have := HH.out.1.bf.lt; omega)
          have l8 := hR8.bl.cell 0
          have p0 := hR8.bl.frozen 0
          have m0 := hR8.bf.cell 0
          have m1 := hR8.bf.cell 1
          have p1 := hR8.bf.frozen 0
          have p2 := hR8.bf.frozen 1
          have H8 := Lib.hid (And.intro hR8 hb8); clear hR8 hb8))
        have hR9 := (H8.out.1.setL (.slice none 0 0)).setF (.int .i64 2) (.int .i64 0)
        refine door_ret hR9 rfl rfl ?_
        rw [hoo]
        exact ⟨hR9.below, rfl⟩
    · have ht1 : ¬ t.1 = [] := by
        intro e
        apply hk
        unfold isTok
        rw [← hd5, hd', e]
        rfl
      have hoo : outOf (.ok l ts) = .syn (hd ts).2 := by simp only [outOf]; rw [if_neg hk]
      have hse1 : t.1.isEmpty = false := by cases h : t.1 with | nil => exact absurd h ht1 | cons _ _ => rfl
      have hfl := fail_any (World.drewN W6 0) g tb c i5 T
      have HH := Lib.hid (And.intro hR6 (And.intro hA6 (And.intro hd5 H.out.1))); clear hR6 hA6 hkl6 hke hfl
      have l0 := HH.out.1.bl.cell 0
      go_wp2_with fail
      go_quiet (fail)
      go_wp2_with (go_at_call 27; (
        refine (show Calls _ _ _ _ _ from fail_any _ g tb c i5 T (HH.out.2.1.kept (grown_drewN W6 nq none)) HH.out.2.2.2).mono ?_
        rintro E w8 ⟨rfl, hg8⟩
        have H8 := Lib.hid hg8; clear hg8))
      refine door_stop (n := (hd ts).2) ((HH.out.1.kept (blw_drewN W6 nq) (by have := HH.out.1.bf.lt; omega)).grown (g := g) (H8.out.but _) (by omega)) rfl rfl (by first | rfl | exact hoo)
end Go.Proofs.YtgiceeholamphaaDoor
