/- The walk of the reference's Played. No conditions but that what is read is there. -/
import Derived.Test.YticdjkkcfdbdcaaAcPb
import Derived.OwnWalk
import Derived.Deep.LoopGhost
import Derived.Carry
namespace Go.Proofs.Yticdjkkcfdbdcaa
open Go.ChangeShapes Go.WideShapes Go.ChangeAt Go.RowKit Go.Conc Go.ConcN
set_option maxRecDepth 100000 in
set_option maxHeartbeats 8000000 in
theorem played_any (w : World) (B n m : Nat) (A AL : Option Addr) (c cl : Nat) (E wk : Int) (R : List RulR) (ls : List LetR) (hR : RdRules w B A R) (hX : Rd w B AL (flatX ls)) (hB : B ≤ w.heap.size) (hn : R.length = n) (hm : ls.length = m)
    (hc : actCode R ls = 0) (hE : 0 ≤ E ∧ E ≤ 1000) (hw : wkOk wk) :
    Calls Try.prog 25 #[.slice A n c, .slice AL m cl, .int .i64 E, .int .i64 wk] w (PlayedPost w R ls E) := by
  obtain ⟨z1, z2, z3, z4, z5⟩ := actCode_zero hc
  have hm200 : m ≤ 200 := hm ▸ z2
  have hn200 : n ≤ 200 := hn ▸ z1
  have hwk : decide (wkOk wk) = true := decide_eq_true hw
  have hbe : decide ((0 : Int) ≤ E ∧ E ≤ 1000) = true := decide_eq_true hE
  have hru := rules_any w B n m A AL c cl R ls hR hX hB hn hm (by unfold Fits; omega)
  rw [hc] at hru
  have HRU := Lib.hid hru; clear hru
  have Hwk := Lib.hid hwk; clear hwk
  have Hbe := Lib.hid hbe; clear hbe
  have Hn := Lib.hid hn; clear hn
  have Hm := Lib.hid hm; clear hm
  have HR := Lib.hid (And.intro hR hX); clear hR hX
  have HZ := Lib.hid (And.intro z3 (And.intro z4 z5)); clear z1 z2 z3 z4 z5
  have hm1 := fun W => make_i64 n hn200 W
  obtain ⟨i0, hi0, hz0, hz1, hz2⟩ := info_parts info_sent
  obtain ⟨j0, hj0, hy0, hy1, hy2⟩ := info_parts info_lett
  have Hi0 := Lib.hid (And.intro hi0 (And.intro hz0 (And.intro hz1 hz2)))
  have Hj0 := Lib.hid (And.intro hj0 (And.intro hy0 (And.intro hy1 hy2)))
  clear hi0 hz0 hz1 hz2 hj0 hy0 hy1 hy2 hw
  go_enter Try.func25, Try.ntmps25
  go_wp2_with (first | (go_at_call 28; refine HRU.out.mono ?_; rintro e w2 ⟨rfl, hb2⟩; have Hb2 := Lib.hid hb2; clear hb2) | (go_at_call 54; refine (between_b E 0 1000 _ _ Hbe.out).mono ?_; rintro e w3 ⟨rfl, rfl⟩) | (go_at_call 46; refine (workers_b wk true _ Hwk.out).mono ?_; rintro e w3 ⟨rfl, rfl⟩))
  go_loopg [12, 13, 14] m (fun gk tv nv iv wr => ∃ (k : Nat), gk + k = m ∧ iv = .int .i64 k ∧ nv = .int .i64 k ∧ ownS wr w.heap.size tv ((todo0 ls).take k) ∧ RowKit.Below w.heap.size w wr)
  case atStart => exact ⟨0, by omega, rfl, rfl, by rw [List.take_zero]; exact World.ownsRow_nil .., Hb2.out⟩
  case round =>
    obtain ⟨k, hgk, rfl, rfl, hown, hbel⟩ := hrel
    obtain ⟨tv, rfl⟩ : ∃ tv : Value, tv = u12 := ⟨_, rfl⟩
    by_cases hlt : k < m
    · have hkl : k < ls.length := by have := Hm.out; omega
      have hXw := HR.out.2.below (hbel.mono hB)
      obtain ⟨xb, xo, rfl, hxb, hcx⟩ := rd_flat (f := cellsX) (s := 4) (by decide) (fun _ => rfl) hXw hkl
      have hsn := todo0_succ hkl
      obtain ⟨x, hx⟩ : ∃ x, ls[k] = x := ⟨_, rfl⟩
      rw [hx] at hcx hsn
      obtain ⟨xt, xd, xk, xn⟩ := x
      have c0 := hcx 0 _ rfl
      have c1 := hcx 1 _ rfl
      have c2 := hcx 2 _ rfl
      have c3 := hcx 3 _ rfl
      rw [Nat.add_zero] at c0
      simp only at c0 c1 c2 c3
      have htl : ((todo0 ls).take k).length = k := by simp [todo0]; omega
      have hb63 : w.heap.size ≤ wr.heap.size := hbel.size
      have hown' := hown.alloc (.cells (cellsS ⟨⟨xt, xd, xk, xn⟩, -1, -1, k⟩).toArray 145)
      have HO := Lib.hid (And.intro hown' (And.intro hsn (And.intro htl hbel))); clear hown hown' hsn htl hbel hXw hcx hx
      go_wp2_with (at_builtin; go_loud (refine wpList_append_own_at _ rfl (.tmp 43) (.tmp 50) _ rfl w.heap.size 145 i0 (aggS sent0) 7 56 Try.underlying143 Hi0.out.1 Hi0.out.2.1 Hi0.out.2.2.1 Hi0.out.2.2.2 rfl (by decide) tv _ _ rfl HO.out.1 ⟨wr.heap.size, 0, none⟩ 1 1 (cellsS ⟨⟨xt, xd, xk, xn⟩, -1, -1, k⟩) rfl rfl (cells_newly wr _ _) (cellsS_one' _) ?qb ?qc ?qd ?_))
      case qb => rw [HO.out.2.2.1]; unfold maxLen; omega
      case qc => rw [HO.out.2.2.1]; omega
      case qd => rw [World.size_alloc]; omega
      intro v1 w3 hown3 hg3 _ _
      have hpush : ownS w3 w.heap.size v1 ((todo0 ls).take (k + 1)) ∧ RowKit.Below w.heap.size w w3 := by
        refine ⟨?_, bel_grown (HO.out.2.2.2.alloc hb63 _) hg3 fun b hb => (HO.out.1.lt _ hb).1⟩
        rw [HO.out.2.1]
        unfold ownS
        rw [List.length_append, cellsSs_app, cellsSs_one]
        simpa using hown3
      have HP := Lib.hid hpush; clear hpush hown3 hg3
      go_wp2
      go_roundg (gk - 1)
      case measure => omega
      case rel => exact ⟨k + 1, by omega, by go_num, by go_num, HP.out.1, HP.out.2⟩
    · have hkm : k = m := by omega
      subst hkm
      have hst : PlSt w (wr.alloc (.cells (madeCells #[.int .i64 0] n) 2)) wr.heap.size (List.replicate n 0) tv (todo0 ls) (.slice none 0 0) [] := by
        have hb := hbel.alloc hbel.size (.cells (madeCells #[.int .i64 0] n) 2)
        have e : (todo0 ls).take k = todo0 ls := List.take_of_length_le (by simp [todo0]; have := Hm.out; omega)
        rw [e] at hown
        exact ⟨Blk.newArr _ _ (made_zero n), hown.alloc _, World.ownsRow_nil .., hb, hbel.size⟩
      have hz0 := PlInv.start (n := n) (R := R) (ls := ls) (E := E) (by rw [Hm.out]; omega) HZ.out.1 Hn.out
      rw [Hm.out] at hz0
      have HS := Lib.hid (And.intro hst hz0); clear hst hz0 hown hbel
      go_wp2
      clear hm1
      obtain ⟨g, hg⟩ : ∃ g, wr.heap.size = g := ⟨_, rfl⟩
      rw [hg] at HS ⊢
      clear hg
      go_loopg [12, 13, 16] (200002 + k) (fun gk tv nv lv wr => ∃ (todo : List SentR) (nums : List Int) (no : Int) (log : List LetR), gk = 2 * (100001 - log.length) + todo.length ∧ nv = .int .i64 no ∧ PlSt w wr g nums tv todo lv log ∧ PlInv n R ls E todo nums no log)
      case atStart => exact ⟨_, _, _, _, by simp [todo0]; have := Hm.out; omega, rfl, HS.out.1, HS.out.2⟩
      case round =>
        clear HS
        obtain ⟨todo, nums, no, log, hgk, rfl, hst, hinv⟩ := hrel
        obtain ⟨lv, rfl⟩ : ∃ lv : Value, lv = u16 := ⟨_, rfl⟩
        by_cases hne : 0 < todo.length
        · obtain ⟨gt, ct, rfl, hct1, hct2, hgt1, hgt2, hcell⟩ := hst.at_ hne
          have hct3 : ct ≤ 9223372036854775807 := by unfold maxLen at hct2; omega
          have ht200 : todo.length ≤ 200 := hinv.len
          have HS := Lib.hid (And.intro hst hinv); clear hst hinv hcell hct2
          go_wp2
          obtain ⟨gM, rfl⟩ : ∃ gM : Nat, gM = gk := ⟨_, rfl⟩
          go_loopg [17, 18] todo.length (fun gk fv iv wr => ∃ (i f : Nat), gk + i = todo.length ∧ iv = .int .i64 i ∧ fv = .int .i64 f ∧ (∃ hf : f < todo.length, ∀ (i' : Nat) (h : i' < todo.length), i' < i → ¬ soonerR todo[i'] todo[f]) ∧ PlSt w wr g nums (.slice (some ⟨gt, 0, none⟩) todo.length ct) todo lv log)
          case atStart => exact ⟨0, 0, by omega, rfl, rfl, ⟨hne, fun i' _ h => absurd h (by omega)⟩, HS.out.1⟩
          case round =>
            obtain ⟨i, f, hgi, rfl, rfl, ⟨hf, hmin⟩, hst⟩ := hrel
            by_cases hi : i < todo.length
            · obtain ⟨gt', ct', he, _, _, _, _, hcell⟩ := hst.at_ hne
              obtain ⟨rfl, rfl⟩ : gt = gt' ∧ ct = ct' := by simp only [Value.slice.injEq, Option.some.injEq, Addr.mk.injEq] at he; exact ⟨he.1.1, he.2.2⟩
              have H1 := Lib.hid (And.intro hst (And.intro hmin hcell)); clear hst hmin hcell he
              go_wp2
              refine p20_wp (gt := gt) (n := todo.length) (c := ct) (i0 := i) (f0 := f) (s := todo[i]) (s2 := todo[f]) (by kernel_rfl) rfl rfl rfl rfl hi hf (fun j v hv => (H1.out.2.2 i hi j v hv).1) (fun j v hv => (H1.out.2.2 f hf j v hv).1) fun w4 hw4 => ?_
              have H2 := Lib.hid (H1.out.1.keep hw4); clear hw4
              rw [show List.range 8 = [0, 1, 2, 3, 4, 5, 6, 7] from rfl]
              simp only [putsV, VP20, VE, List.findIdx?_nil, List.getElem?_toArray, List.getElem?_cons_succ, List.getElem?_cons_zero, Option.bind_some]
              go_simp
              by_cases hso : soonerR todo[i] todo[f]
              · rw [decide_eq_true hso]
                have Hso := Lib.hid hso; clear hso
                go_wp2
                go_roundg (gk - 1)
                case measure => omega
                case rel =>
                  refine ⟨i + 1, i, by omega, by go_num, rfl, ⟨hi, fun i' h' hl => ?_⟩, H2.out⟩
                  by_cases e : i' = i
                  · subst e; exact soonerR.irrefl _
                  · exact fun hx => H1.out.2.1 i' h' (by omega) (hx.trans Hso.out)
              · rw [decide_eq_false hso]
                have Hso := Lib.hid hso; clear hso
                go_wp2
                go_roundg (gk - 1)
                case measure => omega
                case rel =>
                  refine ⟨i + 1, f, by omega, by go_num, rfl, ⟨hf, fun i' h' hl => ?_⟩, H2.out⟩
                  by_cases e : i' = i
                  · subst e; exact Hso.out
                  · exact H1.out.2.1 i' h' (by omega)
            · have hfirst : IsFirst todo f := ⟨hf, fun i' h' => hmin i' h' (by omega)⟩
              obtain ⟨gt', ct', he, _, _, _, _, hcell⟩ := hst.at_ hne
              obtain ⟨rfl, rfl⟩ : gt = gt' ∧ ct = ct' := by simp only [Value.slice.injEq, Option.some.injEq, Addr.mk.injEq] at he; exact ⟨he.1.1, he.2.2⟩
              have hll : todo.length - 1 < todo.length := by omega
              obtain ⟨p, hp⟩ : ∃ p, todo[f] = p := ⟨_, rfl⟩
              obtain ⟨q, hq⟩ : ∃ q, todo[todo.length - 1] = q := ⟨_, rfl⟩
              have hpc := hcell f hf
              have hqc := hcell (todo.length - 1) hll
              rw [hp] at hpc
              rw [hq] at hqc
              have hpo := HS.out.2.ok _ (List.getElem_mem hf)
              rw [hp] at hpo
              obtain ⟨⟨xt, xd, xk, xn⟩, pa, pb, pc⟩ := p
              obtain ⟨hxt0, hxt1, hxd0, hxd1⟩ := hpo
              simp only at hxt0 hxt1 hxd0 hxd1
              obtain ⟨kx, rfl⟩ : ∃ kx : Nat, xd = kx := ⟨xd.toNat, by omega⟩
              have hkx : kx < n := by omega
              clear hxd0 hxd1
              obtain ⟨⟨q0, q1, q2, q3⟩, q4, q5, q6⟩ := q
              have p0 := (hpc 0 _ rfl).1
              have p1 := (hpc 1 _ rfl).1
              have p2 := (hpc 2 _ rfl).1
              have p3 := (hpc 3 _ rfl).1
              rw [Nat.add_zero] at p0
              simp only at p0 p1 p2 p3
              have hgz : gt < wr.heap.size := (hst.own.lt gt rfl).2
              have H1 := Lib.hid (And.intro hst (And.intro hfirst (And.intro hp hqc))); clear hst hfirst hmin hcell hpc he
              go_upto_region 23 with (fail)
              clear p0 p1 p2 p3
              have hnew := heap_alloc_new wr (.cells #[.int .i64 xt, .int .i64 kx, .int .i64 xk, .int .i64 xn] 49)
              have hst1 := H1.out.1.alloc (.cells #[.int .i64 xt, .int .i64 kx, .int .i64 xk, .int .i64 xn] 49)
              have hsz1 : (wr.alloc (.cells #[.int .i64 xt, .int .i64 kx, .int .i64 xk, .int .i64 xn] 49)).heap.size = wr.heap.size + 1 := by simp
              have hld : ∀ (j : Nat) (v : Value), (cellsS ⟨⟨q0, q1, q2, q3⟩, q4, q5, q6⟩)[j]? = some v → (wr.alloc (.cells #[.int .i64 xt, .int .i64 kx, .int .i64 xk, .int .i64 xn] 49)).cell? ⟨gt, (todo.length - 1) * 7 + j, none⟩ = some v := fun j v hv => (World.cell?_alloc_lt _ _ _ hgz).trans (H1.out.2.2.2 j v hv).1
              have hlb : ∀ b, lv.ownBlock = some b → b < wr.heap.size := fun b hb => (H1.out.1.olog.lt b hb).2
              obtain ⟨W2, hsv, hst2, hne2⟩ := hst1.outR hf
              rw [hq] at hsv
              unfold aggS cellsS at hsv
              simp only at hsv
              generalize wr.alloc (.cells #[.int .i64 xt, .int .i64 kx, .int .i64 xk, .int .i64 xn] 49) = W1 at *
              have hxb : W2.heap[wr.heap.size]? = some (.cells #[.int .i64 xt, .int .i64 kx, .int .i64 xk, .int .i64 xn] 49 (0, 0)) := (hne2 _ (by omega)).trans hnew
              obtain ⟨xb, hxbe⟩ : ∃ xb, wr.heap.size = xb := ⟨_, rfl⟩
              rw [hxbe] at hxb hsz1 hgz hlb ⊢
              obtain ⟨l1, hl1⟩ : ∃ l1, todo.length - 1 = l1 := ⟨_, rfl⟩
              have hl2 : todo.length = l1 + 1 := by omega
              rw [hl1] at hld hst2
              have hfl : f < l1 + 1 := by omega
              have hct4 : l1 + 1 ≤ ct := by omega
              have hl200 : l1 + 1 ≤ 200 := by omega
              have H3 := Lib.hid (And.intro hst2 (And.intro hxb (And.intro H1.out.2.1 (And.intro H1.out.2.2.1 (And.intro hl1 (And.intro hl2 (And.intro hgk (And.intro HS.out.2 (And.intro hp hlb))))))))); clear hst2 hst1 hnew hxb hne2 hq hqc H1 HS hxbe hp hlb
              rw [hl2]
              clear hl1 hl2 hgk hgi hi hne hct1 ht200
              have c0 := hld 0 _ rfl
              have c1 := hld 1 _ rfl
              have c2 := hld 2 _ rfl
              have c3 := hld 3 _ rfl
              have c4 := hld 4 _ rfl
              have c5 := hld 5 _ rfl
              have c6 := hld 6 _ rfl
              rw [Nat.add_zero] at c0
              clear hld
              go_upto_region 24 with (refine wpList_store_eq rfl rfl rfl rfl hsv ?_)
              clear c0 c1 c2 c3 c4 c5 c6 hsv
              have e0 := cells_at H3.out.2.1 0 _ rfl
              have e1 := cells_at H3.out.2.1 1 _ rfl
              have e2 := cells_at H3.out.2.1 2 _ rfl
              have e3 := cells_at H3.out.2.1 3 _ rfl
              by_cases hlate : E < xt
              · have hinv := H3.out.2.2.2.2.2.2.2.1.late H3.out.2.2.1 hf (by rw [H3.out.2.2.2.2.2.2.2.2.1]; exact hlate)
                have HI := Lib.hid hinv; clear hinv
                go_wp2
                go_roundg (gM - 1)
                case measure => have := H3.out.2.2.2.2.2.2.1; omega
                case rel => exact ⟨_, _, _, _, by have := H3.out.2.2.2.2.2.2.1; have := outR_len hf; omega, rfl, H3.out.1, HI.out⟩
              · have hinv := H3.out.2.2.2.2.2.2.2.1
                have hpe := H3.out.2.2.2.2.2.2.2.2.1
                have hol := H3.out.1.olog
                obtain ⟨Al, cl2, rfl, hcl1, hcl2⟩ := own_form hol
                have hl100 : log.length ≤ 100000 := hinv.ll
                have hw2z : w.heap.size ≤ W2.heap.size := H3.out.1.bel.size
                have hxl : xb < W2.heap.size := (Array.getElem?_eq_some_iff.1 H3.out.2.1).1
                have H4 := Lib.hid (And.intro hinv (And.intro hpe (And.intro (hol.alloc (.cells (cellsX ⟨xt, kx, xk, xn⟩).toArray 49)) hlate))); clear hinv hpe hol hcl1 hcl2
                go_wp2_with (at_builtin; go_loud (refine wpList_append_own_at _ rfl (.tmp 99) (.tmp 101) _ rfl w.heap.size 49 j0 (aggX le0) 4 32 Try.underlying44 Hj0.out.1 Hj0.out.2.1 Hj0.out.2.2.1 Hj0.out.2.2.2 rfl (by decide) (.slice Al log.length cl2) log.length (flatX log) rfl H4.out.2.2.1 ⟨W2.heap.size, 0, none⟩ 1 1 (cellsX ⟨xt, kx, xk, xn⟩) rfl rfl (cells_newly W2 _ _) (cellsX_one' _) ?qb ?qc ?qd ?_))
                case qb => unfold maxLen; omega
                case qc => omega
                case qd => first | omega | (rw [World.size_alloc]; omega)
                intro v1 w3 hown3 hg3 _ _
                clear e0 e1 e2 e3
                obtain ⟨A1, c1, rfl, hc1a, hc1b⟩ := own_form hown3
                have hpl := (H3.out.1.alloc (.cells (cellsX ⟨xt, kx, xk, xn⟩).toArray 49)).pushLog (x := ⟨xt, kx, xk, xn⟩) hg3 hown3
                have hx3 : w3.heap[xb]? = some (.cells #[.int .i64 xt, .int .i64 kx, .int .i64 xk, .int .i64 xn] 49 (0, 0)) := by
                  rw [hg3.block xb (by rw [World.size_alloc]; omega) (fun e => by have := H3.out.2.2.2.2.2.2.2.2.2 xb e.symm; omega), Below.heap_alloc _ _ _ hxl]
                  exact H3.out.2.1
                have H5 := Lib.hid (And.intro hpl hx3); clear hpl hx3 hown3 hg3 hc1a hc1b
                obtain ⟨LL, hLL⟩ : ∃ LL, log.length + 1 = LL := ⟨_, rfl⟩
                rw [hLL] at H5 ⊢
                have hLM : LL ≤ 1000000 := by omega
                have HLL := Lib.hid (And.intro hLL hl100); clear hLL hl100
                by_cases h100 : (100000 : Int) < (LL : Int)
                · have hend := H4.out.1.large H3.out.2.2.1 hf (by rw [H4.out.2.1]; exact H4.out.2.2.2) (by have := HLL.out.1; omega)
                  have HE := Lib.hid hend; clear hend
                  go_wp2
                  go_ret3
                  unfold PlayedPost
                  rw [Hn.out]
                  exact ⟨H5.out.1.bel, none, HE.out, .inl ⟨rfl, rfl⟩⟩
                · have hkR : kx < R.length := by rw [Hn.out]; exact hkx
                  have hRw := HR.out.1.keep (w' := w3) (fun p hp => (H5.out.1.bel.mono hB).cell hp)
                  obtain ⟨ob, oo, rfl, hob, c0⟩ := hRw.at_ hkR
                  have hrd := HR.out.1.each kx hkR
                  have hsm := HZ.out.2.1 _ (List.getElem_mem hkR)
                  have hbad := HZ.out.2.2 _ (List.getElem_mem hkR)
                  have hget : (R.map (·.rs)).getD kx [] = R[kx].rs := by rw [List.getD_eq_getElem?_getD, List.getElem?_map, List.getElem?_eq_getElem hkR]; rfl
                  obtain ⟨rw_, hrw⟩ : ∃ z, R[kx] = z := ⟨_, rfl⟩
                  rw [hrw] at c0 hrd hsm hbad hget
                  obtain ⟨jA, jc, rs⟩ := rw_
                  dsimp only at c0 hrd hsm hbad hget
                  have hro : ∀ r ∈ rs, ruleOk n r := fun r hr => Classical.byContradiction fun h => hbad (.inl ⟨r, hr, by rw [Hn.out]; exact h⟩)
                  have hnd : (rs.map (·.kind)).Nodup := Classical.byContradiction fun h => hbad (.inr h)
                  have hnl : kx < nums.length := by rw [H4.out.1.num]; exact hkx
                  have H6 := Lib.hid (And.intro hrd (And.intro hro (And.intro hnd (And.intro hget (And.intro hnl hrw))))); clear hrd hro hnd hget hbad hrw hRw
                  have hob2 : ob < w.heap.size := by omega
                  clear c0
                  go_wp2
                  obtain ⟨gR, hgR⟩ : ∃ gR : Nat, gR = gk := ⟨_, rfl⟩
                  clear hgR
                  go_loopg [12, 13, 20] rs.length (fun gk tv nv iv wr => ∃ (q : Nat) (todo' : List SentR) (nums' : List Int) (no' : Int), gk + q = rs.length ∧ iv = .int .i64 q ∧ nv = .int .i64 no' ∧ PlSt w wr g nums' tv todo' (.slice A1 LL c1) (log ++ [⟨xt, kx, xk, xn⟩]) ∧ wr.heap[xb]? = some (.cells #[.int .i64 xt, .int .i64 kx, .int .i64 xk, .int .i64 xn] 49 (0, 0)) ∧ DoneQ rs ⟨xt, kx, xk, xn⟩ kx (outR todo f hf) nums no q todo' nums' no')
                  case atStart => exact ⟨0, _, nums, no, by omega, rfl, rfl, H5.out.1, H5.out.2, doneQ_zero rs _ _ no H6.out.2.2.2.2.1⟩
                  case round =>
                    clear H5
                    obtain ⟨q, todo', nums', no', hgq, rfl, rfl, hst, hxb, hd⟩ := hrel
                    obtain ⟨tv, rfl⟩ : ∃ tv : Value, tv = u12 := ⟨_, rfl⟩
                    have hRw := HR.out.1.keep (w' := wr) (fun p hp => (hst.bel.mono hB).cell hp)
                    obtain ⟨_, _, he, _, c0⟩ := hRw.at_ hkR
                    obtain ⟨rfl, rfl⟩ : ob = _ ∧ oo = _ := by simp only [Option.some.injEq, Addr.mk.injEq] at he; exact ⟨he.1, he.2.1⟩
                    rw [H6.out.2.2.2.2.2] at c0
                    dsimp only at c0
                    have e0 := cells_at hxb 0 _ rfl
                    have e1 := cells_at hxb 1 _ rfl
                    have e2 := cells_at hxb 2 _ rfl
                    have e3 := cells_at hxb 3 _ rfl
                    have hwz : w.heap.size ≤ wr.heap.size := hst.bel.size
                    have hxz : xb < wr.heap.size := (Array.getElem?_eq_some_iff.1 hxb).1
                    have hgz : g < wr.heap.size := hst.blk.lt
                    clear he hRw
                    by_cases hq : q < rs.length
                    · have hrd2 := H6.out.1.below (hst.bel.mono hB)
                      obtain ⟨rb, ro, rfl, hrb2, hcr⟩ := rd_flat (f := cellsRu) (s := 7) (by decide) (fun _ => rfl) hrd2 hq
                      have hdne := hd.ne hq
                      have hdmt := fun h => hd.met H6.out.2.2.1 hq h H6.out.2.2.2.2.1
                      have hruo := H6.out.2.1 _ (List.getElem_mem hq)
                      obtain ⟨x, hx⟩ : ∃ x, rs[q] = x := ⟨_, rfl⟩
                      rw [hx] at hcr hdne hdmt hruo
                      obtain ⟨kd, ti, pl, md, sd, dt, af⟩ := x
                      have d0 := hcr 0 _ rfl
                      have d1 := hcr 1 _ rfl
                      have d2 := hcr 2 _ rfl
                      have d3 := hcr 3 _ rfl
                      have d4 := hcr 4 _ rfl
                      have d5 := hcr 5 _ rfl
                      have d6 := hcr 6 _ rfl
                      rw [Nat.add_zero] at d0
                      simp only at d0 d1 d2 d3 d4 d5 d6 hdne hdmt
                      by_cases hk : kd = xk
                      · obtain ⟨q1, q2, q3, hN⟩ := hdmt hk
                        rw [q1, q2] at hst
                        rw [q3]
                        clear q1 q2 q3 hdne hdmt hd
                        obtain ⟨hnc, hnf⟩ := hst.numCell H6.out.2.2.2.2.1
                        obtain ⟨nu, hnu⟩ : ∃ nu, nums.getD kx 0 = nu := ⟨_, rfl⟩
                        rw [hnu] at hnc hN
                        have hru2 : 0 ≤ md ∧ (md ≠ 0 → 0 ≤ af ∧ af ≤ 1000) := by
                          unfold ruleOk at hruo
                          simp only at hruo
                          refine ⟨hruo.2.1, fun h => ?_⟩
                          omega
                        have hxE : xt ≤ 1000 := by have := H4.out.2.2.2; omega
                        have hrb := heap_alloc_new wr (.cells #[.int .i64 xk, .int .i64 ti, .int .i64 pl, .int .i64 md, .int .i64 sd, .int .i64 dt, .int .i64 af] 54)
                        have hxba := (Below.heap_alloc wr (.cells #[.int .i64 xk, .int .i64 ti, .int .i64 pl, .int .i64 md, .int .i64 sd, .int .i64 dt, .int .i64 af] 54) xb hxz).trans hxb
                        have HD := Lib.hid (And.intro hN (And.intro (hst.alloc (.cells #[.int .i64 xk, .int .i64 ti, .int .i64 pl, .int .i64 md, .int .i64 sd, .int .i64 dt, .int .i64 af] 54)) (And.intro hxba (And.intro hrb (And.intro hru2 hxE))))); clear hN hst hxb hruo hcr hrd2 hnu hru2 hxE hrb hxba
                        go_wp2
                        go_quiet (fail)
                        go_upto_region 35 with (fail)
                        clear d0 d1 d2 d3 d4 d5 d6 e0 e1 e2 e3 hnc hnf c0
                        generalize hN0 : wrap64 (wrap64 (wrap64 (ti * nu) + pl) + xn) = N
                        have hNw : w64 (w64 (w64 (ti * nu) + pl) + xn) = N := by rw [← hN0]; rfl
                        obtain ⟨hA, hB2⟩ := HD.out.1 N hNw
                        have hst5 := HD.out.2.1.drewN nq
                        obtain ⟨hgn, hgf⟩ := hst5.numCell H6.out.2.2.2.2.1
                        have hxb5 : ((wr.alloc (.cells #[.int .i64 xk, .int .i64 ti, .int .i64 pl, .int .i64 md, .int .i64 sd, .int .i64 dt, .int .i64 af] 54)).drewN nq).heap[xb]? = some (.cells #[.int .i64 xt, .int .i64 kx, .int .i64 xk, .int .i64 xn] 49 (0, 0)) := HD.out.2.2.1
                        have hrb5 : ((wr.alloc (.cells #[.int .i64 xk, .int .i64 ti, .int .i64 pl, .int .i64 md, .int .i64 sd, .int .i64 dt, .int .i64 af] 54)).drewN nq).heap[wr.heap.size]? = some (.cells #[.int .i64 xk, .int .i64 ti, .int .i64 pl, .int .i64 md, .int .i64 sd, .int .i64 dt, .int .i64 af] 54 (0, 0)) := HD.out.2.2.2.1
                        have hdr := HD.out.2.2.2.2
                        clear HD hNw hN0
                        generalize (wr.alloc (.cells #[.int .i64 xk, .int .i64 ti, .int .i64 pl, .int .i64 md, .int .i64 sd, .int .i64 dt, .int .i64 af] 54)).drewN nq = W5 at *
                        obtain ⟨rbb, hrbb⟩ : ∃ z, wr.heap.size = z := ⟨_, rfl⟩
                        rw [hrbb] at hrb5 hgz hxz ⊢
                        have hgx : ¬ xb = g := fun e => by
                          have := hst5.blk
                          unfold Blk at this
                          rw [← e, hxb5] at this
                          injection this with this
                          injection this with _ ht _
                          exact absurd ht (by decide)
                        have hst6 := hst5.setNum kx N
                        have hxb6 : (W5.setCell ⟨g, kx, none⟩ (.int .i64 N)).heap[xb]? = _ := (setCell_ne (a := ⟨g, kx, none⟩) hgx).trans hxb5
                        have hrb6 : (W5.setCell ⟨g, kx, none⟩ (.int .i64 N)).heap[rbb]? = _ := (setCell_ne (a := ⟨g, kx, none⟩) (show rbb ≠ g by omega)).trans hrb5
                        have e0 := cells_at hxb5 0 _ rfl
                        have e1 := cells_at hxb5 1 _ rfl
                        obtain ⟨At, ctt, rfl, hct5, hct6⟩ := own_form hst6.own
                        have H7 := Lib.hid (And.intro hst6 (And.intro hxb6 (And.intro hrb6 (And.intro hA (And.intro hB2 hdr))))); clear hst5 hst6 hxb5 hrb5 hxb6 hrb6 hA hB2 hdr hct5 hct6 hrbb
                        go_upto_region 36 with (fail)
                        clear e0 e1 hgn hgf
                        generalize W5.setCell ⟨g, kx, none⟩ (.int .i64 N) = W6 at *
                        have e0 := cells_at H7.out.2.1 0 _ rfl
                        have e1 := cells_at H7.out.2.1 1 _ rfl
                        have r3 := cells_at H7.out.2.2.1 3 _ rfl
                        have r4 := cells_at H7.out.2.2.1 4 _ rfl
                        have r5 := cells_at H7.out.2.2.1 5 _ rfl
                        have r6 := cells_at H7.out.2.2.1 6 _ rfl
                        have hxz6 : xb < W6.heap.size := (Array.getElem?_eq_some_iff.1 H7.out.2.1).1
                        have hrz6 : rbb < W6.heap.size := (Array.getElem?_eq_some_iff.1 H7.out.2.2.1).1
                        have hwz6 : w.heap.size ≤ W6.heap.size := H7.out.1.bel.size
                        obtain ⟨hm0, hm1⟩ := H7.out.2.2.2.2.2.1
                        have hxE := H7.out.2.2.2.2.2.2
                        by_cases hmz : md = 0
                        · subst hmz
                          have hd7 := H7.out.2.2.2.1 (.inl rfl)
                          have H8 := Lib.hid hd7; clear hd7 hm1
                          go_wp2
                          go_roundg (gk - 1)
                          case measure => omega
                          case rel => exact ⟨q + 1, _, _, _, by omega, by go_num, rfl, H7.out.1, H7.out.2.1, H8.out⟩
                        · obtain ⟨ha0, ha1⟩ := hm1 hmz
                          have hmp : 0 < md := by omega
                          have hmq : (md == 0) = false := by simp [hmz]
                          by_cases hnm : N.tmod md = 0
                          · have hno0 := H4.out.1.no0
                            have hno1 : no ≤ 200200 := by have := H4.out.1.no1; have := HLL.out.2; omega
                            have hol2 : (outR todo f hf).length ≤ 200 := by rw [outR_len]; have := H4.out.1.len; omega
                            have hd7 := H7.out.2.2.2.2.1 (by rintro (h | h); exact hmz h; exact h hnm)
                            have H8 := Lib.hid hd7; clear hd7 hm1
                            go_wp2_with (at_builtin; go_loud (refine wpList_append_own_at _ rfl (.tmp 158) (.tmp 176) _ rfl w.heap.size 145 i0 (aggS sent0) 7 56 Try.underlying143 Hi0.out.1 Hi0.out.2.1 Hi0.out.2.2.1 Hi0.out.2.2.2 rfl (by decide) (.slice At _ ctt) _ _ rfl (H7.out.1.own.alloc (.cells (cellsS ⟨⟨xt + af, dt, sd, N⟩, xt, kx, no⟩).toArray 145)) ⟨W6.heap.size, 0, none⟩ 1 1 (cellsS ⟨⟨xt + af, dt, sd, N⟩, xt, kx, no⟩) rfl rfl (cells_newly W6 _ _) (cellsS_one' _) ?qb2 ?qc2 ?qd2 ?_))
                            case qb2 => unfold maxLen; omega
                            case qc2 => omega
                            case qd2 => first | omega | (rw [World.size_alloc]; omega)
                            intro v1 w7 hown7 hg7 _ _
                            have hst7 := (H7.out.1.alloc (.cells (cellsS ⟨⟨xt + af, dt, sd, N⟩, xt, kx, no⟩).toArray 145)).pushTodo hg7 hown7
                            have hxb7 : w7.heap[xb]? = some (.cells #[.int .i64 xt, .int .i64 kx, .int .i64 xk, .int .i64 xn] 49 (0, 0)) := by
                              rw [hg7.block xb (by rw [World.size_alloc]; omega) (fun e => ?_), Below.heap_alloc _ _ _ hxz6]
                              · exact H7.out.2.1
                              · obtain ⟨_, cur, h2⟩ := own_block_at H7.out.1.own e.symm
                                rw [H7.out.2.1] at h2; cases h2
                            have H9 := Lib.hid (And.intro hst7 hxb7); clear hst7 hxb7 hown7 hg7
                            go_wp2
                            go_roundg (gk - 1)
                            case measure => omega
                            case rel => exact ⟨q + 1, _, _, _, by omega, by go_num, by go_num, H9.out.1, H9.out.2, H8.out⟩
                          · have hnb : (N.tmod md == 0) = false := by simp [hnm]
                            have hd7 := H7.out.2.2.2.1 (.inr hnm)
                            have H8 := Lib.hid hd7; clear hd7 hm1
                            go_wp2
                            go_roundg (gk - 1)
                            case measure => omega
                            case rel => exact ⟨q + 1, _, _, _, by omega, by go_num, rfl, H7.out.1, H7.out.2.1, H8.out⟩
                      · have HD := Lib.hid (And.intro (hdne hk) (And.intro (hst.alloc (.cells #[.int .i64 kd, .int .i64 ti, .int .i64 pl, .int .i64 md, .int .i64 sd, .int .i64 dt, .int .i64 af] 54)) ((Below.heap_alloc wr (.cells #[.int .i64 kd, .int .i64 ti, .int .i64 pl, .int .i64 md, .int .i64 sd, .int .i64 dt, .int .i64 af] 54) xb hxz).trans hxb))); clear hdne hdmt hst hxb hd hruo hcr hrd2
                        go_wp2
                        go_roundg (gk - 1)
                        case measure => omega
                        case rel => exact ⟨q + 1, _, _, _, by omega, by go_num, rfl, HD.out.2.1, HD.out.2.2, HD.out.1⟩
                    · have hqe : q = rs.length := by omega
                      subst hqe
                      obtain ⟨hdone, hdl⟩ := H4.out.1.done H3.out.2.2.1 hf (by rw [H4.out.2.1]; exact H4.out.2.2.2) (by have := HLL.out.1; omega) (by rw [H4.out.2.1]) rfl H6.out.2.2.2.1 hE H6.out.2.1 hd
                      have HD := Lib.hid (And.intro hdone (And.intro hdl hst)); clear hdone hdl hst hd hxb
                      go_wp2
                      go_roundg (2 * (100001 - (log.length + 1)) + todo'.length)
                      case measure => have := HD.out.2.1; have := H3.out.2.2.2.2.2.2.1; have := HLL.out; omega
                      case rel => exact ⟨_, _, _, _, by rw [List.length_append, List.length_singleton], rfl, HD.out.2.2, HD.out.1⟩
        · have hnil : todo = [] := List.eq_nil_of_length_eq_zero (by omega)
          subst hnil
          obtain ⟨At, ct, rfl, _, _⟩ := own_form hst.own
          have hend := hinv.end_
          have HE := Lib.hid (And.intro hend hst); clear hend hst hinv
          go_wp2
          go_ret3
          unfold PlayedPost
          rw [Hn.out]
          exact ⟨HE.out.2.bel, _, HE.out.1, .inr ⟨nums, log, g, n, lv, rfl, rfl, HE.out.2.blk, HE.out.2.olog⟩⟩
end Go.Proofs.Yticdjkkcfdbdcaa

/- The reference's Played: where something is wrong; what it comes to. No conditions but that what is read is there. -/
namespace Go.Proofs.Yticdjkkcfdbdcaa
open Go.ChangeShapes Go.WideShapes Go.ChangeAt Go.RowKit Go.Conc Go.ConcN
/-- What a run says ahead of all work. -/
noncomputable def goCode (R : List RulR) (ls : List LetR) (E wk : Int) : Int := if actCode R ls ≠ 0 then actCode R ls else if (0 ≤ E ∧ E ≤ 1000) ∧ wkOk wk then 0 else 1
set_option maxRecDepth 100000 in
theorem played_bad (w : World) (B n m : Nat) (A AL : Option Addr) (c cl : Nat) (E wk : Int) (R : List RulR) (ls : List LetR) (hR : RdRules w B A R) (hX : Rd w B AL (flatX ls)) (hB : B ≤ w.heap.size) (hn : R.length = n) (hm : ls.length = m) (hfm : Fits m)
    (hc : goCode R ls E wk ≠ 0) :
    Calls Try.prog 25 #[.slice A n c, .slice AL m cl, .int .i64 E, .int .i64 wk] w fun e w' => e = .returned (.tuple #[.slice none 0 0, .slice none 0 0, .int .i64 (goCode R ls E wk)]) ∧ RowKit.Below w.heap.size w w' := by
  have hru := rules_any w B n m A AL c cl R ls hR hX hB hn hm hfm
  by_cases h0 : actCode R ls = 0
  · have hrc : goCode R ls E wk = if (0 ≤ E ∧ E ≤ 1000) ∧ wkOk wk then 0 else 1 := by unfold goCode; rw [if_neg (fun h => h h0)]
    have hno : ¬ ((0 ≤ E ∧ E ≤ 1000) ∧ wkOk wk) := fun h => hc (by rw [hrc, if_pos h])
    rw [hrc, if_neg hno]
    rw [h0] at hru
    have HRU := Lib.hid hru; clear hru h0 hrc hc hR hB hn hm hfm hX
    by_cases hE : 0 ≤ E ∧ E ≤ 1000
    · have Hwk := Lib.hid (decide_eq_false (fun h => hno ⟨hE, h⟩))
      have Hbe := Lib.hid (decide_eq_true hE)
      clear hno hE
      go_enter Try.func25, Try.ntmps25
      go_wp2_with (first | (go_at_call 28; refine HRU.out.mono ?_; rintro e w2 ⟨rfl, hb2⟩; have Hb2 := Lib.hid hb2; clear hb2) | (go_at_call 54; refine (between_b E 0 1000 _ _ Hbe.out).mono ?_; rintro e w3 ⟨rfl, rfl⟩) | (go_at_call 46; refine (workers_b wk false _ Hwk.out).mono ?_; rintro e w3 ⟨rfl, rfl⟩))
      go_ret3
      exact ⟨rfl, Hb2.out⟩
    · have Hbe := Lib.hid (decide_eq_false hE)
      clear hno hE
      go_enter Try.func25, Try.ntmps25
      go_wp2_with (first | (go_at_call 28; refine HRU.out.mono ?_; rintro e w2 ⟨rfl, hb2⟩; have Hb2 := Lib.hid hb2; clear hb2) | (go_at_call 54; refine (between_b E 0 1000 _ _ Hbe.out).mono ?_; rintro e w3 ⟨rfl, rfl⟩))
      go_ret3
      exact ⟨rfl, Hb2.out⟩
  · have hrc : goCode R ls E wk = actCode R ls := by unfold goCode; rw [if_pos h0]
    rw [hrc]
    generalize actCode R ls = dc at *
    have HRU := Lib.hid hru; clear hru hrc hc hR hB hn hm hfm hX
    go_enter Try.func25, Try.ntmps25
    go_wp2_with (first | (go_at_call 28; refine HRU.out.mono ?_; rintro e w2 ⟨rfl, hb2⟩; have Hb2 := Lib.hid hb2; clear hb2))
    go_ret3
    exact ⟨rfl, Hb2.out⟩
/-- What is to come when nothing has happened yet. -/
def comeL (ls : List LetR) : Come := ls.foldl Come.add fun _ _ => []
theorem strip_fold : ∀ (l : List SentR) (c : ComeS), strip (l.foldl ComeS.add c) = (l.map (·.x)).foldl Come.add (strip c)
  | [], c => rfl
  | y :: l, c => by
    rw [List.foldl_cons, strip_fold l, strip_add]
    rfl
theorem todo0_x (ls : List LetR) : (todo0 ls).map (·.x) = ls := by
  apply List.ext_getElem?
  intro i
  simp [todo0]
  cases ls[i]? <;> rfl
theorem todo0_come (ls : List LetR) : strip ((todo0 ls).foldl ComeS.add noCome) = comeL ls := by
  rw [strip_fold, todo0_x]
  rfl
/-- THE REFERENCE COMES TO WHAT THE PLAIN RUN COMES TO. -/
theorem played_is {R : List RulR} {ls : List LetR} {E : Int} (hc : actCode R ls = 0) (hE : 0 ≤ E) {res : Option (List Int × List LetR)} (h : RefRun (R.map (·.rs)) E (todo0 ls) (List.replicate R.length 0) ls.length [] res) :
    res = runA (R.map (·.rs)) (E.toNat + 1) 0 (List.replicate R.length 0) (comeL ls) [] := by
  obtain ⟨z1, z2, z3, z4, z5⟩ := actCode_zero hc
  have hw := start_wf ls noCome 0 noCome_wf (fun x j => ⟨x, -1, -1, j⟩) (fun _ _ => rfl)
  have he : (ls.mapIdx fun j x => (⟨x, -1, -1, 0 + (j : Int)⟩ : SentR)) = todo0 ls := by
    unfold todo0
    congr 1
    funext j x
    rw [Int.zero_add]
  rw [he] at hw
  have hw0 := hw.later (t' := 0) (b' := -1) (no' := ls.length) (.inl (by omega)) (by omega)
  have hok : ∀ p ∈ todo0 ls, 0 ≤ p.x.to ∧ p.x.to < (R.length : Int) ∧ 0 ≤ p.x.time := fun p hp => by
    obtain ⟨i, hi, rfl⟩ := List.getElem_of_mem hp
    simp only [todo0, List.length_mapIdx] at hi
    have := z3 ls[i] (List.getElem_mem hi)
    unfold letOk at this
    simp only [todo0, List.getElem_mapIdx]
    omega
  have hp := start_fold (n := R.length) (k := E.toNat) (todo0 ls) noCome hok
  rw [pendA_none, List.nil_append] at hp
  have hE2 : (0 : Int) + (E.toNat : Nat) = E := by omega
  have := RefRun.times (R := R.map (·.rs)) (nums := List.replicate R.length 0) (log := []) (fun rs hrs r hr => by
    obtain ⟨l, hl, rfl⟩ := List.mem_map.1 hrs
    rw [List.length_map]
    exact Classical.byContradiction fun hx => z5 l hl (.inl ⟨r, hr, hx⟩)) E.toNat 0 hw0 (by simp) (by rw [hE2]; exact h) (by
      rw [List.length_map, hE2]
      have h2 := hp.symm
      rw [show ((E.toNat : Nat) : Int) = E by omega] at h2
      exact h2) (by simp)
  rw [this, todo0_come]
end Go.Proofs.Yticdjkkcfdbdcaa
