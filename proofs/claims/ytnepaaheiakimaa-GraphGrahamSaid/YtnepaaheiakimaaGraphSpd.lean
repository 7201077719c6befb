/- The contract of the reference's Spanned: the work and the longest way of right jobs. -/
import Derived.Test.YtnepaaheiakimaaGraphSpan
namespace Go.Proofs.Ytnepaaheiakimaa
open Go.ChangeShapes Go.WideShapes Go.ChangeAt Go.RowKit

set_option maxRecDepth 100000 in
set_option maxHeartbeats 2000000 in
theorem spanned_any (w : World) (B : Nat) (A : Option Addr) (c n : Nat) (J : List JobR) (E : Nat → Int) (hR : RdJobs w B A J) (hB : B ≤ w.heap.size) (hn : J.length = n) (hg : Good J) (hE : IsEnd J E) :
    Calls Try.prog 13 #[.slice A n c] w fun e w' => e = .returned (.tuple #[.int .i64 (workTo J J.length), .int .i64 (spanTo E J.length)]) ∧ Below w.heap.size w w' := by
  have hfew : n ≤ 200 := hn ▸ hg.few
  obtain ⟨out, ho, hlen⟩ := exists_ord hg.inR hg.can J.length (Nat.le_refl _)
  have hmk1 := fun W => run_make_row' (P := Try.prog) 38 3 (.int .i64 0) 8 Try.underlying38 info_int rfl .i64 .i64 n (by omega) (by omega) W
  have hlg0 : Lng J E out 0 0 (fun _ => 0) := ⟨fun j hj => ⟨by omega, hE.lo j hj⟩, fun p hp h => absurd h (by omega), fun _ h => absurd h (by omega)⟩
  have Hlg0 := Lib.hid hlg0; clear hlg0
  have Hn := Lib.hid hn; clear hn
  have HR := Lib.hid hR; clear hR
  have Hg := Lib.hid hg; clear hg
  have HE := Lib.hid hE; clear hE
  have Ho := Lib.hid ho; clear ho
  have Hlen := Lib.hid hlen; clear hlen
  go_enter Try.func13, Try.ntmps13
  go_wp2
  have hb0 : Blk (w.alloc (.cells (madeCells #[.int .i64 0] n) 3)) w.heap.size 3 (ints (fnI n fun _ => 0)) := Blk.newArr w _ (by
    rw [made_one, ← ints_rep]; congr 1; apply List.ext_getElem?; intro j; simp [fnI, List.getElem?_replicate]; split <;> simp_all)
  have hbe0 : Below w.heap.size w (w.alloc (.cells (madeCells #[.int .i64 0] n) 3)) := (Below.refl _ _).alloc (Nat.le_refl _) _
  have Hb0 := Lib.hid hb0; clear hb0
  have Hbe0 := Lib.hid hbe0; clear hbe0
  go_loopg [5, 6, 7, 8] (n + 1) (fun gk r _ _ _ wr => ∃ (m : Nat) (L : Nat → Int), gk + m = n + 1 ∧ r = .int .i64 m ∧ Lng J E out m 0 L ∧ Below w.heap.size w wr ∧ Blk wr w.heap.size 3 (ints (fnI n L)))
  case atStart => exact ⟨0, _, by omega, rfl, Hlg0.out, Hbe0.out, Hb0.out⟩
  case round =>
    obtain ⟨r, L, hgr, rfl, hlng, hbel, hblk⟩ := hrel
    by_cases hr : r ≤ n
    · have Hlng := Lib.hid hlng; clear hlng
      have Hbel := Lib.hid hbel; clear hbel
      have Hblk := Lib.hid hblk; clear hblk
      go_wp2
      obtain ⟨g1, rfl⟩ : ∃ g1 : Nat, g1 = gk := ⟨_, rfl⟩
      obtain ⟨wo, rfl⟩ : ∃ wo : World, wo = wr := ⟨_, rfl⟩
      go_loopg [6, 7, 8] n (fun gk i _ _ wr => ∃ (m : Nat) (L : Nat → Int), gk + m = n ∧ i = .int .i64 m ∧ Lng J E out r m L ∧ Below w.heap.size w wr ∧ Blk wr w.heap.size 3 (ints (fnI n L)))
      case atStart => exact ⟨0, L, by omega, rfl, Hlng.out, Hbel.out, Hblk.out⟩
      case round =>
        obtain ⟨i, L, hgi, rfl, hlng, hbel, hblk⟩ := hrel
        by_cases hi : i < n
        · have hiJ : i < J.length := by have := Hn.out; omega
          have hRw := HR.out.below (hbel.mono hB)
          obtain ⟨jb, jo, rfl, hjb, c0, -, c2, -⟩ := hRw.at_ hiJ
          have hrd := hRw.after i hiJ
          have hleni := Hg.out.len i hiJ
          have haft := aft_eq hiJ
          have hlo := lenOf_eq hiJ
          have hsh := Hg.out.short i hiJ
          have hinr := Hg.out.inR i
          rw [haft, Hn.out] at hinr
          obtain ⟨j, hj⟩ : ∃ j, J[i] = j := ⟨_, rfl⟩
          rw [hj] at c0 c2 hrd haft hlo hsh hinr
          obtain ⟨jl, ju, jn, sA, sc, af⟩ := j
          dsimp only at c0 c2 hrd haft hlo hsh hinr
          rw [hlo] at hleni
          have Haft := Lib.hid haft; clear haft
          have Hlo := Lib.hid hlo; clear hlo
          have Hinr := Lib.hid hinr; clear hinr
          have Hlng := Lib.hid hlng; clear hlng
          have Hbel := Lib.hid hbel; clear hbel
          have Hblk := Lib.hid hblk; clear hblk
          have Hrd := Lib.hid hrd; clear hrd
          clear hRw hj
          go_wp2
          obtain ⟨g2, rfl⟩ : ∃ g2 : Nat, g2 = gk := ⟨_, rfl⟩
          go_loopg [7, 8] af.length (fun gk mo k wq => ∃ (m : Nat), wq = wr ∧ gk + m = af.length ∧ k = .int .i64 m ∧ mo = .int .i64 (mxTo J L i m))
          case atStart => exact ⟨0, rfl, by omega, rfl, by rw [mxTo_zero]⟩
          case round =>
            obtain ⟨m, rfl, hgm, rfl, rfl⟩ := hrel
            have hmx := mxTo_bound2 HE.out Hlng.out.bd Hg.out.inR i m
            rw [Hn.out] at hmx
            by_cases hm : m < af.length
            · obtain ⟨ab, ao, rfl, hab, ca⟩ := Hrd.out.atMap hm
              have hxi := Hinr.out _ (List.getElem_mem hm)
              have hsucc := mxTo_succ (J := J) (E := L) (i := i) (q := m) (by rw [Haft.out]; exact hm)
              rw [List.getElem_of_eq Haft.out] at hsucc
              generalize hx : af[m] = x at *
              obtain ⟨x0, x1⟩ := hxi
              obtain ⟨x, rfl⟩ := Int.eq_ofNat_of_zero_le x0
              simp only [Int.toNat_natCast] at hsucc
              have hxn : x < n := by omega
              have hcx : wr.cell? ⟨w.heap.size, x, none⟩ = some (.int .i64 (L x)) := by rw [Hblk.out.cell]; simp [ints, fnI, hxn]
              have Hsucc := Lib.hid hsucc; clear hsucc hx
              generalize hM : mxTo J L i m = M at *
              generalize hLX : L x = LX at *
              clear hM hLX
              go_wp2
              all_goals
                go_roundg (gk - 1)
                case measure => omega
                case rel => exact ⟨m + 1, rfl, by omega, by go_num, congrArg (Value.int .i64) (by rw [Hsucc.out]; omega)⟩
            · have hmm : m = af.length := by omega
              subst hmm
              have hML : mxTo J L i af.length = mxOf J L i := by rw [mxOf, Haft.out]
              have hci : (wr.cell? ⟨w.heap.size, i, none⟩).isSome = true := by rw [Hblk.out.cell]; simp [ints, fnI, hi]
              obtain ⟨old, hci⟩ := Option.isSome_iff_exists.1 hci
              have hfi := Hblk.out.frozen i
              have hset := Hblk.out.set_ i (.int .i64 (mxOf J L i + jl))
              rw [ints_set, fnI_set (g := fun j => if j = i then mxOf J L i + jl else L j) (by simp) (fun j _ hj => by simp [hj])] at hset
              have Hset := Lib.hid hset; clear hset
              have hstep := Hlng.out.step (L' := fun j => if j = i then mxOf J L i + jl else L j) HE.out Ho.out Hg.out.len Hg.out.inR hiJ (by simp [Hlo.out]) (fun j _ hj => by simp [hj])
              have Hstep := Lib.hid hstep; clear hstep
              rw [hML] at hmx ⊢
              generalize hM : mxOf J L i = M at *
              clear hM hML
              go_wp2
              go_roundg (g2 - 1)
              case measure => omega
              case rel => exact ⟨i + 1, _, by omega, by go_num, Hstep.out, Hbel.out.setCell (Nat.le_refl _) _, Hset.out⟩
        · have hnext := hlng.next Ho.out (by have := Hn.out; omega)
          have Hnext := Lib.hid hnext; clear hnext hlng
          have Hbel2 := Lib.hid hbel; clear hbel
          have Hblk2 := Lib.hid hblk; clear hblk
          go_wp2
          go_roundg (g1 - 1)
          case measure => omega
          case rel => exact ⟨r + 1, _, by omega, by go_num, Hnext.out, Hbel2.out, Hblk2.out⟩
    · have hall := hlng.all Ho.out Hlen.out (by have := Hn.out; omega)
      rw [fnI_congr (g := E) (fun j hj => hall j (by rw [Hn.out]; exact hj))] at hblk
      have Hbel := Lib.hid hbel; clear hbel
      have Hblk := Lib.hid hblk; clear hblk
      clear hlng hall
      go_wp2
      go_loopg [2, 3, 9] n (fun gk wk sp i wq => ∃ (m : Nat), wq = wr ∧ gk + m = n ∧ i = .int .i64 m ∧ wk = .int .i64 (workTo J m) ∧ sp = .int .i64 (spanTo E m))
      case atStart => exact ⟨0, rfl, by omega, rfl, rfl, rfl⟩
      case round =>
        obtain ⟨m, rfl, hgm, rfl, rfl, rfl⟩ := hrel
        have hw := workTo_bound Hg.out.len m (by have := Hn.out; omega)
        have hs := spanTo_bound HE.out m (by have := Hn.out; omega)
        rw [Hn.out] at hs
        by_cases hm : m < n
        · have hmJ : m < J.length := by have := Hn.out; omega
          obtain ⟨jb, jo, rfl, hjb, c0, -, -, -⟩ := (HR.out.below (Hbel.out.mono hB)).at_ hmJ
          rw [← lenOf_eq hmJ] at c0
          have hleni := Hg.out.len m hmJ
          have hce : wr.cell? ⟨w.heap.size, m, none⟩ = some (.int .i64 (E m)) := by rw [Hblk.out.cell]; simp [ints, fnI, hm]
          have hE0 := HE.out.lo m hmJ
          have hE1 := HE.out.hi m hmJ
          rw [Hn.out] at hE1
          have Hw1 := Lib.hid (show workTo J (m + 1) = workTo J m + lenOf J m from rfl)
          have Hs1 := Lib.hid (show spanTo E (m + 1) = max (spanTo E m) (E m) from rfl)
          generalize hW : workTo J m = W at *
          generalize hS : spanTo E m = S at *
          generalize hL : lenOf J m = LL at *
          generalize hEE : E m = EE at *
          clear hW hS hL hEE
          go_wp2
          all_goals
            go_roundg (gk - 1)
            case measure => omega
            case rel => exact ⟨m + 1, rfl, by omega, by go_num, congrArg (Value.int .i64) Hw1.out.symm, congrArg (Value.int .i64) (by rw [Hs1.out]; omega)⟩
        · have hmn : m = J.length := by have := Hn.out; omega
          rw [hmn] at hw hs ⊢
          go_wp2
          go_ret2
          exact ⟨rfl, Hbel.out⟩
end Go.Proofs.Ytnepaaheiakimaa
