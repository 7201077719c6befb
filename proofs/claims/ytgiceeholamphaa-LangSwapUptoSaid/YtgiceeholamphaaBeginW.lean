/- The contract of lang.Begin: the walk. No conditions but that what is read is there, is a program, and can be counted. -/
import Derived.Test.YtgiceeholamphaaBegin
namespace Go.Proofs.Ytgiceeholamphaa
open Go.ChangeShapes Go.WideShapes Go.ChangeAt Go.RowKit Go.Maps

/-- The map that is being filled, and the three maps of names. -/
structure BegSt (w wr : World) (bm b1 b2 b3 sl N : Nat) (F : ByteArray → Option Int) (l1 l2 l3 : List ByteArray) : Prop where
  mm : MapAt wr 2 bm N F
  m1 : MapAt wr 3 b1 l1.length (cntF l1)
  m2 : MapAt wr 3 b2 l2.length (cntF l2)
  m3 : MapAt wr 3 b3 l3.length (cntF l3)
  sl : Blk wr sl 57 [.map (some b1), .map (some b2), .map (some b3)]
  below : Below w.heap.size w wr
/-- What has been gone through after so many of the three maps. -/
def accN (l1 l2 l3 : List ByteArray) : Nat → List ByteArray
  | 0 => []
  | 1 => l1
  | 2 => l1 ++ l2
  | _ => l1 ++ l2 ++ l3
/-- Which blocks are which. -/
structure BegNe (w : World) (bm b1 b2 b3 sl : Nat) : Prop where
  n1 : bm ≠ b1
  n2 : bm ≠ b2
  n3 : bm ≠ b3
  ns : bm ≠ sl
  gm : w.heap.size ≤ bm
theorem BegSt.grown {w wr w2 : World} {bm b1 b2 b3 sl N : Nat} {F : ByteArray → Option Int} {l1 l2 l3 : List ByteArray} {row : Option Nat} (h : BegSt w wr bm b1 b2 b3 sl N F l1 l2 l3) (hg : wr.grownBy w2 row) (hr : ∀ k, row = some k → wr.heap.size ≤ k) : BegSt w w2 bm b1 b2 b3 sl N F l1 l2 l3 := by
  have ne : ∀ b, b < wr.heap.size → some b ≠ row := fun b hb e => by have := hr b e.symm; omega
  exact ⟨h.mm.kept hg (ne _ h.mm.lt), h.m1.kept hg (ne _ h.m1.lt), h.m2.kept hg (ne _ h.m2.lt), h.m3.kept hg (ne _ h.m3.lt), h.sl.grown hg (ne _ h.sl.lt), h.below.grown hg h.below.size (fun k hk => by have := hr k hk; have := h.below.size; omega)⟩
/-- A step of the iterator, whose block came behind all of these. -/
theorem BegSt.iter {w wo wr w2 : World} {bm b1 b2 b3 sl N M : Nat} {F G : ByteArray → Option Int} {l1 l2 l3 : List ByteArray} (h : BegSt w wr bm b1 b2 b3 sl N F l1 l2 l3) (h0 : BegSt w wo bm b1 b2 b3 sl M G l1 l2 l3) (hg : wr.grownBy w2 (some wo.heap.size)) : BegSt w w2 bm b1 b2 b3 sl N F l1 l2 l3 := by
  have ne : ∀ b, b < wo.heap.size → some b ≠ some wo.heap.size := fun b hb e => by cases e; omega
  exact ⟨h.mm.kept hg (ne _ h0.mm.lt), h.m1.kept hg (ne _ h0.m1.lt), h.m2.kept hg (ne _ h0.m2.lt), h.m3.kept hg (ne _ h0.m3.lt), h.sl.grown hg (ne _ h0.sl.lt), h.below.grown hg h.below.size (fun k e => by cases e; exact h0.below.size)⟩
theorem BegSt.put {w wr w2 : World} {bm b1 b2 b3 sl N M : Nat} {F G : ByteArray → Option Int} {l1 l2 l3 : List ByteArray} (h : BegSt w wr bm b1 b2 b3 sl N F l1 l2 l3) (hn : BegNe w bm b1 b2 b3 sl) (hg : wr.grownBy w2 (some bm)) (hm : MapAt w2 2 bm M G) : BegSt w w2 bm b1 b2 b3 sl M G l1 l2 l3 :=
  ⟨hm, h.m1.kept hg (by simpa using hn.n1.symm), h.m2.kept hg (by simpa using hn.n2.symm), h.m3.kept hg (by simpa using hn.n3.symm), h.sl.grown hg (by simpa using hn.ns.symm), h.below.grown hg h.below.size (fun k e => by cases e; exact hn.gm)⟩
/-- The map that comes next. -/
theorem BegSt.pick {w wr : World} {bm b1 b2 b3 sl N : Nat} {F : ByteArray → Option Int} {l1 l2 l3 : List ByteArray} (h : BegSt w wr bm b1 b2 b3 sl N F l1 l2 l3) (hn : BegNe w bm b1 b2 b3 sl) {q : Nat} (hq : q < 3) :
    ∃ (bq : Nat) (lq : List ByteArray), wr.cell? ⟨sl, q, none⟩ = some (.map (some bq)) ∧ MapAt wr 3 bq lq.length (cntF lq) ∧ bq ≠ bm ∧ accN l1 l2 l3 (q + 1) = accN l1 l2 l3 q ++ lq ∧ bq < wr.heap.size := by
  have c0 := h.sl.cell 0
  have c1 := h.sl.cell 1
  have c2 := h.sl.cell 2
  have hq3 : q = 0 ∨ q = 1 ∨ q = 2 := by omega
  rcases hq3 with rfl | rfl | rfl
  · exact ⟨b1, l1, c0, h.m1, hn.n1.symm, by simp [accN], h.m1.lt⟩
  · exact ⟨b2, l2, c1, h.m2, hn.n2.symm, by simp [accN], h.m2.lt⟩
  · exact ⟨b3, l3, c2, h.m3, hn.n3.symm, by simp [accN], h.m3.lt⟩
def BeginPost (L : List StatR) (V : List VarR) (w : World) (E : Ending) (w' : World) : Prop :=
  Below w.heap.size w w' ∧ ((¬ goodV V ∧ E = .returned (.tuple #[.map none, .int .i64 7])) ∨
    (goodV V ∧ ∃ b N, E = .returned (.tuple #[.map (some b), .int .i64 0]) ∧ w.heap.size ≤ b ∧ N ≤ 3145728 ∧ MapAt w' 2 b N (beginF L V)))
set_option maxRecDepth 100000 in
set_option maxHeartbeats 4000000 in
theorem begin_any (k : BlockR) (w : World) (B : Nat) (A' : Option Addr) (c' : Nat) (V : List VarR) (hR : RdB w B k) (hA : AllL k.l) (hV : RdV w B A' V) (hB : B ≤ w.heap.size) (hn : nodesS k.l ≤ 1048576) :
    Calls Try.prog 11 #[k.val, .slice A' V.length c'] w (BeginPost k.l V w) := by
  obtain ⟨A, c, L⟩ := k
  simp only [BlockR.l] at hA hn
  have hfit := hV.fits
  unfold Fits at hfit
  have HX := Lib.hid (And.intro hR (And.intro hA (And.intro hV hn))); clear hR hA hV hn
  have hmm := @run_makeMap Try.prog
  show Calls Try.prog 11 #[.slice A L.length c, .slice A' V.length c'] w _
  go_enter Try.func11, Try.ntmps11
  go_wp2_with fail
  go_loopg [20] V.length (fun gk i wr => ∃ q : Nat, gk + q = V.length ∧ i = .int .i64 q ∧ MapAt wr 2 w.heap.size q (startF (V.take q)) ∧ goodV (V.take q) ∧ Below w.heap.size w wr)
  case atStart => exact ⟨0, by omega, rfl, MapAt.made w _, ⟨(fun v hv => by cases hv), List.nodup_nil⟩, (Below.refl _ _).alloc (Nat.le_refl _) _⟩
  case round =>
    obtain ⟨q, hgq, rfl, hm, hgv, hb⟩ := hrel
    by_cases hq : q < V.length
    · have hz := hm.lt
      obtain ⟨b, o, rfl, hbB, c0, c1⟩ := (HX.out.2.2.1.row.keep (w' := wr) fun p hp => hb.cell (Nat.lt_of_lt_of_le hp hB)).at_ (i := q) hq
      have hsm := HX.out.2.2.1.small _ (List.getElem_mem hq)
      have htk := take_snocA hq
      have hgg : goodV V → goodV (V.take (q + 1)) := goodV_take
      rw [htk, goodV_snoc] at hgg
      have hst := startF_snoc (V.take q) V[q]
      rw [← htk] at hst
      have hgn := goodV_snoc (l := V.take q) (v := V[q])
      rw [← htk] at hgn
      obtain ⟨v, hve⟩ : ∃ v, V[q] = v := ⟨_, rfl⟩
      rw [hve] at c0 c1 hsm hgg hst hgn
      obtain ⟨vs, vn⟩ := v
      simp only at c0 c1 hsm hgg hst hgn
      have hbn : ¬ (b = wr.heap.size) := by omega
      have hsz : vs.size ≤ maxLen := by unfold maxLen; omega
      have hwf := hsm.2
      clear htk hsm
      have hma := hm.alloc (.cells #[.string vs, .int .i64 vn] 36)
      have H2 := Lib.hid (And.intro hma (And.intro hb (And.intro hgg (And.intro hst (And.intro hgn hgv))))); clear hma hm hb hgg hst hgn hgv hve
      by_cases hin : (startF (V.take q) vs).isSome = true
      · have hbad : ¬ goodV V := fun h => by have := (H2.out.2.2.1 h).2.1; rw [this] at hin; cases hin
        have Hbad := Lib.hid hbad; clear hbad
        have Hin := Lib.hid hin; clear hin
        go_wp2_with (at_lookup; refine wpList_map_ok rfl _ _ 40 rfl Try.underlying2 (zero_int64 _) Try.underlying40 rfl H2.out.1 vs hsz rfl ?_; rw [Hin.out])
        go_ret2
        exact ⟨H2.out.2.1.alloc H2.out.2.1.size _, .inl ⟨Hbad.out, rfl⟩⟩
      · have hnone : startF (V.take q) vs = none := by simpa using hin
        have hin' : (startF (V.take q) vs).isSome = false := by simpa using hin
        have Hin := Lib.hid (And.intro hnone hin'); clear hin hnone hin'
        by_cases hnm : named vs
        rotate_left
        · have hbad : ¬ goodV V := fun h => hnm (H2.out.2.2.1 h).2.2
          have Hbad := Lib.hid hbad; clear hbad
          have Hnm := Lib.hid hnm; clear hnm
          go_wp2_with (first
            | (at_lookup; refine wpList_map_ok rfl _ _ 40 rfl Try.underlying2 (zero_int64 _) Try.underlying40 rfl H2.out.1 vs hsz rfl ?_; rw [Hin.out.2])
            | (go_at_call 20; (refine (isName_any _ _).mono ?_; rintro E w5 ⟨rfl, hb5⟩; rw [decide_eq_false Hnm.out]; have H5 := Lib.hid hb5; clear hb5)))
          go_ret2
          exact ⟨(H2.out.2.1.alloc H2.out.2.1.size _).trans (H5.out.mono (by have := H2.out.2.1.size; simp; omega)), .inl ⟨Hbad.out, rfl⟩⟩
        · have Hnm := Lib.hid hnm; clear hnm
          have hqm : q < maxLen := by unfold maxLen; omega
          go_wp2_with (first
            | (at_lookup; refine wpList_map_ok rfl _ _ 40 rfl Try.underlying2 (zero_int64 _) Try.underlying40 rfl H2.out.1 vs hsz rfl ?_; rw [Hin.out.2])
            | (go_at_call 20; (
               refine (isName_any _ _).mono ?_
               rintro E w5 ⟨rfl, hb5⟩
               rw [decide_eq_true Hnm.out]
               have hm5 := H2.out.1.below hb5 (by have := H2.out.1.lt; omega)
               have hx5 := (Blk.new wr 36 [.string vs, .int .i64 vn]).below hb5 (by simp)
               have y0 := hx5.cell 0
               have y1 := hx5.cell 1
               simp at y0 y1
               have hw5 := (H2.out.2.1.alloc H2.out.2.1.size (.cells #[.string vs, .int .i64 vn] 36)).trans (hb5.mono (by have := H2.out.2.1.size; simp; omega))
               have H5 := Lib.hid (And.intro hm5 hw5); clear hb5 hm5 hx5 hw5))
            | (at_mapUpdate; (
               refine wpList_map_set rfl _ _ _ 40 rfl Try.underlying2 Try.underlying40 rfl H5.out.1 hqm vs hsz rfl vn rfl hwf ?_
               intro w6 hm6 hg6
               have H6 := Lib.hid (And.intro hm6 hg6); clear hm6 hg6)))
          go_roundg (gk - 1)
          case measure => omega
          case rel =>
            refine ⟨q + 1, by omega, by go_num, ?_, H2.out.2.2.2.2.1.2 ⟨H2.out.2.2.2.2.2, Hin.out.1, Hnm.out⟩, H5.out.2.grown H6.out.2 H5.out.2.size (fun k e => by cases e; exact Nat.le_refl _)⟩
            rw [H2.out.2.2.2.1]
            have h := H6.out.1
            rw [Hin.out.2] at h
            exact h
    · have hend : V.take q = V := List.take_of_length_le (by omega)
      rw [hend] at hm hgv
      have hm := hm.mono (M := 1048576) (by omega)
      have H2 := Lib.hid (And.intro hm (And.intro hgv hb)); clear hm hgv hb hend
      have hws := H2.out.2.2.size
      clear hgq
      go_upto_region 11 with (go_at_call 21; (
        refine (of_any (.mk A c L) _ B (HX.out.1.keep fun p hp => H2.out.2.2.cell (Nat.lt_of_lt_of_le hp hB)) HX.out.2.1 (by omega) HX.out.2.2.2).mono ?_
        rintro E w5 ⟨b1, b2, b3, rfl, g1, g2, g3, n12, n13, n23, m1, m2, m3, hb5⟩
        unfold namesV
        have H5 := Lib.hid (And.intro m1 (And.intro m2 (And.intro m3 hb5))); clear n12 n13 n23 m1 m2 m3 hb5))
      have hnl := names_lenS L
      obtain ⟨l1, hl1⟩ : ∃ l1, l1 = assignsS L := ⟨_, rfl⟩
      obtain ⟨l2, hl2⟩ : ∃ l2, l2 = addsS L := ⟨_, rfl⟩
      obtain ⟨l3, hl3⟩ : ∃ l3, l3 = readsS L := ⟨_, rfl⟩
      have hacc : ∀ q, (accN l1 l2 l3 q).length ≤ 1048576 := fun q => by
        have := HX.out.2.2.2
        rw [← hl1, ← hl2, ← hl3] at hnl
        match q with
        | 0 => simp [accN]
        | 1 => simp only [accN]; omega
        | 2 => simp only [accN, List.length_append]; omega
        | _ + 3 => simp only [accN, List.length_append]; omega
      have hbg : BegSt w ((w5.alloc (.cells #[.map (some b1), .map (some b2), .map (some b3)] 59)).alloc (.cells #[.map (some b1), .map (some b2), .map (some b3)] 57)) w.heap.size b1 b2 b3 (w5.heap.size + 1) 1048576 (startF V) l1 l2 l3 := by
        have hlt := H2.out.1.lt
        rw [hl1, hl2, hl3]
        refine ⟨(((H2.out.1.below H5.out.2.2.2 hlt).alloc _).alloc _), (H5.out.1.alloc _).alloc _, (H5.out.2.1.alloc _).alloc _, (H5.out.2.2.1.alloc _).alloc _, ?_, (((H2.out.2.2.trans (H5.out.2.2.2.mono hws)).alloc (by have := H5.out.2.2.2.size; omega) _).alloc (by have := H5.out.2.2.2.size; simp; omega) _)⟩
        have h := Blk.new (w5.alloc (.cells #[.map (some b1), .map (some b2), .map (some b3)] 59)) 57 [.map (some b1), .map (some b2), .map (some b3)]
        rwa [show (w5.alloc (.cells #[.map (some b1), .map (some b2), .map (some b3)] 59)).heap.size = w5.heap.size + 1 by simp] at h
      have hne : BegNe w w.heap.size b1 b2 b3 (w5.heap.size + 1) := by
        have hlt := H2.out.1.lt
        have := H5.out.2.2.2.size
        exact ⟨by omega, by omega, by omega, by omega, Nat.le_refl _⟩
      have H6 := Lib.hid (And.intro hbg (And.intro hne (And.intro hacc (And.intro hl1 (And.intro hl2 hl3))))); clear hbg hne hacc hl1 hl2 hl3 hnl
      have hss := H5.out.2.2.2.size
      go_wp2_with fail
      go_loopg [54] 3 (fun gk i wr => ∃ (q N : Nat), gk + q = 3 ∧ i = .int .i64 q ∧ N ≤ 1048576 + (accN l1 l2 l3 q).length ∧ BegSt w wr w.heap.size b1 b2 b3 (w5.heap.size + 1) N (fillF (startF V) (accN l1 l2 l3 q)) l1 l2 l3)
      case atStart => exact ⟨0, 1048576, by omega, rfl, by omega, by rw [accN, fillF_nil]; exact H6.out.1⟩
      case round =>
        obtain ⟨r, N, hgr, rfl, hN, hbs⟩ := hrel
        by_cases hr : r < 3
        · obtain ⟨bq, lq, hcell, hmq, hqm, hac, hql⟩ := hbs.pick H6.out.2.1 hr
          have hri : (r : Int) < 3 := by omega
          have hlq : N + lq.length ≤ 1048576 + (accN l1 l2 l3 (r + 1)).length := by rw [hac, List.length_append]; omega
          have hlq2 := H6.out.2.2.1 (r + 1)
          obtain ⟨wo, rfl⟩ : ∃ wo : World, wo = wr := ⟨_, rfl⟩
          obtain ⟨gq, hgq'⟩ : ∃ gq, gq = gk := ⟨_, rfl⟩
          have HG := Lib.hid hgq'; clear hgq'
          have H8 := Lib.hid (And.intro hbs (And.intro hmq (And.intro hqm hac))); clear hbs hmq hqm hac
          go_wp2_with (at_range; (
            refine wpList_map_range rfl _ 57 rfl Try.underlying57 rfl H8.out.2.1 ?_
            intro w8 cnt0 hl8 hc8 hg8 hs8
            have hb8 := H8.out.1.grown hg8 (fun k e => by cases e)
            have H9 := Lib.hid (And.intro hl8 hb8); clear hl8 hb8 hg8))
          go_frame
          go_loopg [] cnt0 (fun gk wr => ∃ (todo : ByteArray → Bool) (M : Nat), LeftAt wr 3 bq wo.heap.size lq.length (cntF lq) todo gk ∧ M + gk ≤ N + lq.length ∧ BegSt w wr w.heap.size b1 b2 b3 (w5.heap.size + 1) M (fillT (fillF (startF V) (accN l1 l2 l3 r)) lq todo) l1 l2 l3)
          case atStart => exact ⟨_, N, H9.out.1, by omega, by rw [fillT_start]; exact H9.out.2⟩
          case round =>
            obtain ⟨todo, M, hla, hM, hbs⟩ := hrel
            have H10 := Lib.hid (And.intro hla hbs); clear hla hbs
            go_wp2_with (at_next; refine wpList_map_next rfl _ rfl Try.underlying3 rfl H10.out.1 ?_ ?_)
            · intro hall
              go_wp2_with fail
              go_roundg (gq - 1)
              case measure => have := HG.out; omega
              case rel =>
                have h := H10.out.2
                rw [fillT_end _ _ hall, fillF_append, ← H8.out.2.2.2] at h
                exact ⟨r + 1, M, by have := HG.out; omega, by go_num, by omega, h⟩
            · intro s cv w9 cnt9 hss htd hfs hla9 hlt9 hg9 hs9 hen
              have hb9 := H10.out.2.iter H8.out.1 hg9
              have hsl : s ∈ lq := cntF_isSome.1 (by rw [hfs]; rfl)
              have hstep := fillT_step (fillF (startF V) (accN l1 l2 l3 r)) lq todo hsl
              have hMm : M < maxLen := by unfold maxLen; omega
              have hbq8 := H8.out.1.mm.lt
              have H11 := Lib.hid (And.intro hb9 (And.intro hla9 hstep)); clear hb9 hla9 hstep hg9 hsl hfs htd
              by_cases hin : (fillT (fillF (startF V) (accN l1 l2 l3 r)) lq todo s).isSome = true
              · have Hin := Lib.hid hin; clear hin
                go_wp2_with (at_lookup; refine wpList_map_ok rfl _ _ 40 rfl Try.underlying2 (zero_int64 _) Try.underlying40 rfl H11.out.1.mm s hss rfl ?_; rw [Hin.out])
                go_roundg cnt9
                case measure => exact hlt9
                case rel => exact ⟨_, M, H11.out.2.1, by omega, by rw [H11.out.2.2, if_pos Hin.out]; exact H11.out.1⟩
              · have hin' : (fillT (fillF (startF V) (accN l1 l2 l3 r)) lq todo s).isSome = false := by simpa using hin
                have Hin := Lib.hid (And.intro hin hin'); clear hin hin'
                go_wp2_with (first
                  | (at_lookup; refine wpList_map_ok rfl _ _ 40 rfl Try.underlying2 (zero_int64 _) Try.underlying40 rfl H11.out.1.mm s hss rfl ?_; rw [Hin.out.2])
                  | (at_mapUpdate; (
                     refine wpList_map_set rfl _ _ _ 40 rfl Try.underlying2 Try.underlying40 rfl H11.out.1.mm hMm s hss rfl 0 rfl (by decide) ?_
                     intro w10 hm10 hg10
                     have H12 := Lib.hid (And.intro hm10 hg10); clear hm10 hg10
                     go_frame)))
                go_roundg cnt9
                case measure => exact hlt9
                case rel =>
                  have h := H12.out.1
                  rw [Hin.out.2] at h
                  refine ⟨_, M + 1, H11.out.2.1.kept H12.out.2 (by simpa using H8.out.2.2.1) (by simp; omega), by omega, by rw [H11.out.2.2, if_neg Hin.out.1]; exact H11.out.1.put H6.out.2.1 H12.out.2 h⟩

        · obtain rfl : r = 3 := by omega
          have hri : ¬ (((3 : Nat) : Int) < 3) := by omega
          have H8 := Lib.hid hbs; clear hbs
          go_wp2_with fail
          go_ret2
          refine ⟨H8.out.below, .inr ⟨H2.out.2.1, w.heap.size, N, rfl, Nat.le_refl _, by have := H6.out.2.2.1 3; omega, ?_⟩⟩
          have h := H8.out.mm
          rw [show accN l1 l2 l3 3 = allNames L by rw [H6.out.2.2.2.1, H6.out.2.2.2.2.1, H6.out.2.2.2.2.2]; rfl] at h
          exact h
end Go.Proofs.Ytgiceeholamphaa
