/- The contract of the reference's Jobs: what is wrong with jobs. No conditions but that what is read is there. -/
import Derived.Test.YticdjkkcfdbdcaaGraphRef1
namespace Go.Proofs.Yticdjkkcfdbdcaa
open Go.ChangeShapes Go.WideShapes Go.ChangeAt Go.RowKit
theorem info_bool : (Try.prog.info? 4).map (fun i => (i.zero, i.size, i.bytes)) = some (some (.bool false), 1, 1) := by kernel_rfl
/-- What is large, among the first k. -/
def lgTo (J : List JobR) (k : Nat) : Int := if (J.take k).any (lgJob J.length) then 2 else 0
theorem lgTo_succ_t {J : List JobR} {k : Nat} (hk : k < J.length) (h : lgJob J.length J[k] = true) : lgTo J (k + 1) = 2 := by
  unfold lgTo; rw [List.take_succ_eq_append_getElem hk, List.any_append]; simp [h]
theorem lgTo_succ_f {J : List JobR} {k : Nat} (hk : k < J.length) (h : lgJob J.length J[k] = false) : lgTo J (k + 1) = lgTo J k := by
  unfold lgTo; rw [List.take_succ_eq_append_getElem hk, List.any_append]; simp [h]
/-- Whoever is done can be done; the count of those that are not. -/
structure Swept (J : List JobR) (bs : List Bool) : Prop where
  len : bs.length = J.length
  can : ∀ (i : Nat), i < J.length → bs.getD i false = true → Can J i
theorem Swept.set {J : List JobR} {bs : List Bool} (h : Swept J bs) {i : Nat} (hi : i < J.length) (ha : allIn bs (aft J i) = true) (hr : ∀ a ∈ aft J i, okIn J.length a) : Swept J (bs.set i true) where
  len := by simp [h.len]
  can := fun k hk hb => by
    by_cases e : k = i
    · subst e
      refine .mk _ hi fun a haa => ?_
      have := (List.all_eq_true.1 ha) a haa
      obtain ⟨h0, h1⟩ := hr a haa
      exact h.can _ (by omega) this
    · refine h.can k hk ?_
      simpa [List.getElem?_set, Ne.symm e] using hb
def undone (bs : List Bool) : Nat := bs.countP (· == false)
theorem undone_set {bs : List Bool} {i : Nat} (hi : i < bs.length) (h : bs[i] = false) : undone (bs.set i true) + 1 = undone bs := by
  unfold undone
  induction bs generalizing i with
  | nil => simp at hi
  | cons b bs ih =>
    cases i with
    | zero => simp at h; subst h; simp
    | succ i =>
      simp at hi h
      have := ih hi h
      simp only [List.set_cons_succ, List.countP_cons]
      omega
theorem undone_rep (n : Nat) : undone (List.replicate n false) = n := by simp [undone, List.countP_replicate]
theorem undone_zero {bs : List Bool} (h : undone bs = 0) {i : Nat} (hi : i < bs.length) : bs.getD i false = true := by
  unfold undone at h
  rw [List.countP_eq_zero] at h
  have := h _ (List.getElem_mem hi)
  simpa [hi] using this
theorem undone_pos {bs : List Bool} (h : 0 < undone bs) : ∃ (i : Nat) (hi : i < bs.length), bs[i] = false := by
  unfold undone at h
  rw [List.countP_pos_iff] at h
  obtain ⟨b, hb, he⟩ := h
  obtain ⟨i, hi, rfl⟩ := List.getElem_of_mem hb
  exact ⟨i, hi, by simpa using he⟩
/-- A sweep in which nobody was done leaves nobody who can be. -/
theorem swept_end {J : List JobR} {bs : List Bool} (h : Swept J bs) (hr : ∀ (k : Nat) (h : k < J.length), okJob J.length J[k])
    (hstop : ∀ (i : Nat), i < J.length → bs.getD i false = false → allIn bs (aft J i) = false) : ∀ i, Can J i → bs.getD i false = true := by
  intro i hc
  induction hc with
  | mk i hi _ ih =>
    cases hb : bs.getD i false with
    | true => rfl
    | false =>
      have := hstop i hi hb
      rw [allIn, List.all_eq_false] at this
      obtain ⟨a, ha, hn⟩ := this
      exact absurd (ih a ha) hn
set_option maxRecDepth 100000 in
set_option maxHeartbeats 2000000 in
theorem jobs (w : World) (B : Nat) (A : Option Addr) (c n : Nat) (J : List JobR) (hR : RdJobs w B A J) (hB : B ≤ w.heap.size) (hn : J.length = n) :
    Calls Try.prog 23 #[.slice A n c] w fun e w' => e = .returned (.int .i64 (jobsCode J)) ∧ Below w.heap.size w w' := by
  have hfit : n ≤ 140737488351232 := hn ▸ hR.fits
  have Hn := Lib.hid hn; clear hn
  have hmk := fun W => run_make_row' (P := Try.prog) 131 4 (.bool false) 1 Try.underlying131 info_bool rfl .i64 .i64 n (by omega) (by omega) W
  go_enter Try.func23, Try.ntmps23
  go_wp2
  go_loop [3, 4, 5] (fun e i _ => ∃ k : Nat, k ≤ n ∧ i = .int .i64 k ∧ e = .int .i64 (lgTo J k) ∧ ∀ (m : Nat) (h : m < J.length), m < k → okJob n J[m]) (fun _ i _ => n - (intOf i).toNat)
  case atStart => exact ⟨0, by omega, rfl, rfl, fun m _ h => absurd h (by omega)⟩
  case round =>
    obtain ⟨k, hk, rfl, rfl, hok⟩ := hrel
    by_cases hlt : k < n
    · have hkJ : k < J.length := by have := Hn.out; omega
      obtain ⟨b, o, rfl, _, c0, -, c2, -⟩ := hR.at_ hkJ
      have hafter := hR.after k hkJ
      have hsmall := hR.small k hkJ
      unfold Fits at hsmall
      have Hok := Lib.hid hok; clear hok
      have HR := Lib.hid hR; clear hR
      generalize hj : J[k] = j at *
      have Hj := Lib.hid hj; clear hj
      by_cases hl : okLen j
      · go_wp2_with (first
          | (go_at_call 54; refine (between_t _ _ _ _ hl).mono ?_; rintro e w' ⟨rfl, rfl⟩))
        go_loop [5] (fun i => ∃ m : Nat, m ≤ j.after.length ∧ i = .int .i64 m ∧ ∀ (q : Nat) (h : q < j.after.length), q < m → okIn n j.after[q]) (fun i => j.after.length - (intOf i).toNat)
        case atStart => exact ⟨0, by omega, rfl, fun m _ h => absurd h (by omega)⟩
        case round =>
          obtain ⟨m, hm, rfl, hin⟩ := hrel
          by_cases hlm : m < j.after.length
          · obtain ⟨b', o', hsA, _, ca⟩ := hafter.atMap hlm
            have Hin := Lib.hid hin; clear hin
            have c2' : w.cell? ⟨b, o + k * 4 + 2, none⟩ = some (.slice (some ⟨b', o', none⟩) j.after.length j.sc) := hsA ▸ c2
            clear c2 hafter hsA
            generalize hx : j.after[m] = x at *
            have Hx := Lib.hid hx; clear hx
            by_cases hi : okIn n x
            · have hi' : 0 ≤ x ∧ x ≤ (n : Int) - 1 := ⟨hi.1, by have := hi.2; omega⟩
              go_wp2_with (first
                | (go_at_call 54; refine (between_t _ _ _ _ hi').mono ?_; rintro e w' ⟨rfl, rfl⟩))
              go_round
              case rel => 
                refine ⟨m + 1, by omega, by go_num, fun q hq hqm => ?_⟩
                by_cases e : q = m
                · subst e; rw [Hx.out]; exact hi
                · exact Hin.out q hq (by omega)
              case measure => simp [intOf]; omega
            · have hi' : ¬ (0 ≤ x ∧ x ≤ (n : Int) - 1) := fun h => hi ⟨h.1, by have := h.2; omega⟩
              go_wp2_with (first
                | (go_at_call 54; refine (between_f _ _ _ _ hi').mono ?_; rintro e w' ⟨rfl, rfl⟩))
              go_ret
              refine ⟨retInt ?_, Below.refl _ _⟩
              refine (jobsCode_one hkJ ?_).symm
              rw [Hj.out]
              exact fun h => hi (Hn.out ▸ h.2 x (Hx.out ▸ List.getElem_mem _))
          · have hoj : okJob n j := by
              refine ⟨hl, fun a ha => ?_⟩
              obtain ⟨q, hq, rfl⟩ := List.getElem_of_mem ha
              exact hin q hq (by omega)
            have Hoj := Lib.hid hoj; clear hoj
            have Hin := Lib.hid hin; clear hin
            have hlm' : j.after.length ≤ m := by omega
            clear hafter
            by_cases hn2 : 200 < n
            · have Hlg : Hid (lgJob n j = true) := by simp [Hid, lgJob, hn2]
              go_wp2
              go_round
              case rel =>
                refine ⟨k + 1, by omega, by go_num, ?_, fun q hq hqk => ?_⟩
                · rw [lgTo_succ_t hkJ (by rw [Hj.out, Hn.out]; exact Hlg.out)]
                · by_cases e : q = k
                  · subst e; rw [Hj.out]; exact Hoj.out
                  · exact Hok.out q hq (by omega)
              case measure => simp [intOf]; omega
            · by_cases hn3 : 200 < j.after.length
              · have Hlg : Hid (lgJob n j = true) := by simp [Hid, lgJob, hn3]
                go_wp2
                go_round
                case rel =>
                  refine ⟨k + 1, by omega, by go_num, ?_, fun q hq hqk => ?_⟩
                  · rw [lgTo_succ_t hkJ (by rw [Hj.out, Hn.out]; exact Hlg.out)]
                  · by_cases e : q = k
                    · subst e; rw [Hj.out]; exact Hoj.out
                    · exact Hok.out q hq (by omega)
                case measure => simp [intOf]; omega
              · have Hlg : Hid (lgJob n j = false) := by simp [Hid, lgJob]; omega
                go_wp2
                go_round
                case rel =>
                  refine ⟨k + 1, by omega, by go_num, ?_, fun q hq hqk => ?_⟩
                  · rw [lgTo_succ_f hkJ (by rw [Hj.out, Hn.out]; exact Hlg.out)]
                  · by_cases e : q = k
                    · subst e; rw [Hj.out]; exact Hoj.out
                    · exact Hok.out q hq (by omega)
                case measure => simp [intOf]; omega
      · go_wp2_with (go_at_call 54; refine (between_f _ _ _ _ hl).mono ?_; rintro e w' ⟨rfl, rfl⟩)
        go_ret
        refine ⟨retInt ?_, Below.refl _ _⟩
        exact (jobsCode_one hkJ (by rw [Hj.out]; exact fun h => hl h.1)).symm
    · have hall : ∀ (m : Nat) (h : m < J.length), okJob J.length J[m] := fun m h => by rw [Hn.out]; exact hok m h (by have := Hn.out; omega)
      have hall' : ∀ j ∈ J, okJob J.length j := fun j hj => by obtain ⟨q, hq, rfl⟩ := List.getElem_of_mem hj; exact hall q hq
      have Hall := Lib.hid hall; clear hall
      have Hall' := Lib.hid hall'; clear hall'
      have hlgn : lgTo J k = if J.any (lgJob J.length) then 2 else 0 := by unfold lgTo; rw [List.take_of_length_le (by have := Hn.out; omega)]
      clear hok
      have HR := Lib.hid hR; clear hR
      cases hlg : J.any (lgJob J.length) with
      | true =>
        have e : lgTo J k = 2 := by rw [hlgn, hlg]; rfl
        rw [e]
        clear hlgn e
        have Hlg := Lib.hid hlg; clear hlg
        go_wp2
        refine wp_loop_once ?_
        go_wp2
        go_ret
        exact ⟨retInt (jobsCode_two Hall'.out Hlg.out).symm, (Below.refl _ _).alloc (Nat.le_refl _) _⟩
      | false =>
        have e : lgTo J k = 0 := by rw [hlgn, hlg]; rfl
        rw [e]
        clear hlgn e
        have Hlg := Lib.hid hlg; clear hlg
        go_wp2
        have hb0 : Blk (w.alloc (.cells (madeCells #[.bool false] n) 4)) w.heap.size 4 (bools (List.replicate n false)) := Blk.newArr w _ (by rw [made_one, bools_rep])
        have Hb0 := Lib.hid hb0; clear hb0
        go_loopw [7, 8, 9] (fun left more _ wr => ∃ (bs : List Bool) (b : Bool), Swept J bs ∧ left = .int .i64 (undone bs : Nat) ∧ more = .bool b ∧ Blk wr w.heap.size 4 (bools bs) ∧ Below w.heap.size w wr ∧
            (b = false → ∀ (i : Nat), i < J.length → bs.getD i false = false → allIn bs (aft J i) = false))
          (fun left more _ _ => 2 * (intOf left).toNat + boolOf more)
        case atStart =>
          exact ⟨List.replicate n false, true, ⟨by rw [Hn.out]; simp, fun i _ h => by simp [List.getElem?_replicate] at h; split at h <;> simp_all⟩, by rw [undone_rep], rfl, Hb0.out, (Below.refl _ _).alloc (Nat.le_refl _) _, by simp⟩
        case round =>
          obtain ⟨bs, b, hsw, rfl, rfl, hblk, hbel, hstop⟩ := hrel
          have Hsw := Lib.hid hsw; clear hsw
          have Hblk := Lib.hid hblk; clear hblk
          have Hbel := Lib.hid hbel; clear hbel
          have Hstop := Lib.hid hstop; clear hstop
          have hu : undone bs ≤ n := by have := List.countP_le_length (p := fun x => x == false) (l := bs); have := Hsw.out.len; have := Hn.out; unfold undone; omega
          cases b with
          | true =>
            go_wp2
            obtain ⟨wo, rfl⟩ : ∃ wo : World, wo = wr := ⟨_, rfl⟩
            go_loopw [7, 8, 9] (fun left more i wr => ∃ (bs' : List Bool) (b : Bool) (k : Nat), k ≤ n ∧ i = .int .i64 k ∧ Swept J bs' ∧ left = .int .i64 (undone bs' : Nat) ∧ more = .bool b ∧ Blk wr w.heap.size 4 (bools bs') ∧ Below w.heap.size w wr ∧
                undone bs' ≤ undone bs ∧ (b = true → undone bs' < undone bs) ∧ (b = false → bs' = bs ∧ ∀ (i : Nat), i < k → bs.getD i false = false → allIn bs (aft J i) = false))
              (fun _ _ i _ => n - (intOf i).toNat)
            case atStart => exact ⟨bs, false, 0, by omega, rfl, Hsw.out, rfl, rfl, Hblk.out, Hbel.out, Nat.le_refl _, by simp, fun _ => ⟨rfl, fun i h => absurd h (by omega)⟩⟩
            case round =>
              obtain ⟨bs', b, q, hq, rfl, hsw', rfl, rfl, hblk', hbel', hle, hlt', hst'⟩ := hrel
              by_cases hqn : q < n
              · have hqJ : q < J.length := by have := Hn.out; omega
                have hqb : q < bs'.length := by have := hsw'.len; have := Hn.out; omega
                obtain ⟨ob, oo, rfl, _, -, -, c2, -⟩ := (HR.out.below (hbel'.mono hB)).at_ hqJ
                have hcb := hblk'.atBool hqb
                have hcf := hblk'.frozen q
                have hrd := ((HR.out.below (hbel'.mono hB)).after q hqJ)
                have hsm := HR.out.small q hqJ
                have hin : ∀ a ∈ J[q].after, okIn n a := fun a ha => Hn.out ▸ (Hall.out q hqJ).2 a ha
                have haft : aft J q = J[q].after := aft_eq hqJ
                have hbl : bs'.length = n := by have := hsw'.len; have := Hn.out; omega
                have hu' : undone bs' ≤ n := by have := List.countP_le_length (p := fun x => x == false) (l := bs'); unfold undone; omega
                generalize hj : J[q] = j at *
                have Hj := Lib.hid hj; clear hj
                have Hsw' := Lib.hid hsw'; clear hsw'
                have Hblk' := Lib.hid hblk'; clear hblk'
                have Hbel' := Lib.hid hbel'; clear hbel'
                have Hst' := Lib.hid hst'; clear hst'
                have Hlt' := Lib.hid hlt'; clear hlt'
                have Hle := Lib.hid hle; clear hle
                have Hin := Lib.hid hin; clear hin
                have Haft := Lib.hid haft; clear haft
                have Hrd := Lib.hid hrd; clear hrd
                have Hbl := Lib.hid hbl; clear hbl
                cases hbq : bs'[q] with
                | true =>
                  rw [hbq] at hcb
                  have Hbq := Lib.hid hbq; clear hbq
                  go_wp2
                  go_roundw
                  case rel =>
                    refine ⟨bs', b, q + 1, by omega, by go_num, Hsw'.out, rfl, rfl, Hblk'.out, Hbel'.out, Hle.out, Hlt'.out, fun hb => ⟨(Hst'.out hb).1, fun i hi hf => ?_⟩⟩
                    by_cases e : i = q
                    · subst e
                      have := (Hst'.out hb).1
                      subst this
                      have := Hbq.out
                      simp [hqb, this] at hf
                    · exact (Hst'.out hb).2 i (by omega) hf
                  case measure => simp [intOf]; omega
                | false =>
                  rw [hbq] at hcb
                  have Hbq := Lib.hid hbq; clear hbq
                  cases hall2 : allIn bs' j.after with
                  | true =>
                    have Hall2 := Lib.hid hall2; clear hall2
                    have hus := undone_set hqb Hbq.out
                    have Hus := Lib.hid hus; clear hus
                    have hupos : 0 < undone bs' := by have := Hus.out; omega
                    go_wp2_with (first | (go_at_call 60; refine (allDone_b true _ B _ _ _ _ _ _ _ j.after bs' Hrd.out Hblk'.out.rd rfl Hbl.out hsm (by unfold Fits; omega) Hin.out Hall2.out).mono ?_; rintro e w' ⟨rfl, rfl⟩))
                    go_roundw
                    case rel =>
                      refine ⟨bs'.set q true, true, q + 1, by omega, by go_num, Hsw'.out.set hqJ (by rw [Haft.out]; exact Hall2.out) (fun a ha => by rw [Hn.out]; exact Hin.out a (Haft.out ▸ ha)), ?_, rfl, ?_, ?_, ?_, fun _ => ?_, fun h => by cases h⟩
                      · exact congrArg (Value.int .i64) (by have := Hus.out; omega)
                      · rw [← bools_set]; exact Hblk'.out.set_ q _
                      · exact Hbel'.out.setCell (Nat.le_refl _) _
                      · have := Hus.out; have := Hle.out; omega
                      · have := Hus.out; have := Hle.out; omega
                    case measure => simp [intOf]; omega
                  | false =>
                    have Hall2 := Lib.hid hall2; clear hall2
                    go_wp2_with (first | (go_at_call 60; refine (allDone_b false _ B _ _ _ _ _ _ _ j.after bs' Hrd.out Hblk'.out.rd rfl Hbl.out hsm (by unfold Fits; omega) Hin.out Hall2.out).mono ?_; rintro e w' ⟨rfl, rfl⟩))
                    go_roundw
                    case rel =>
                      refine ⟨bs', b, q + 1, by omega, by go_num, Hsw'.out, rfl, rfl, Hblk'.out, Hbel'.out, Hle.out, Hlt'.out, fun hb => ⟨(Hst'.out hb).1, fun i hi hf => ?_⟩⟩
                      by_cases e : i = q
                      · subst e
                        rw [Haft.out, ← (Hst'.out hb).1]
                        exact Hall2.out
                      · exact (Hst'.out hb).2 i (by omega) hf
                    case measure => simp [intOf]; omega
              · go_wp2
                have Hlt' := Lib.hid hlt'
                have Hst' := Lib.hid hst'
                have hend : b = false → ∀ (i : Nat), i < J.length → bs'.getD i false = false → allIn bs' (aft J i) = false := fun hb i hi hf => by
                  obtain ⟨e, h⟩ := Hst'.out hb
                  rw [e] at hf ⊢
                  exact h i (by have := Hn.out; omega) hf
                have hmeas : 2 * (intOf (.int .i64 (undone bs' : Nat))).toNat + boolOf (.bool b) < 2 * (intOf (.int .i64 (undone bs : Nat))).toNat + boolOf (.bool true) := by
                  cases b with
                  | true => have := Hlt'.out rfl; simp [intOf, boolOf]; omega
                  | false => simp [intOf, boolOf]; omega
                exact ⟨⟨bs', b, hsw', rfl, rfl, hblk', hbel', hend⟩, hmeas⟩
          | false =>
            by_cases hz : 0 < undone bs
            · go_wp2
              go_ret
              refine ⟨retInt ?_, Hbel.out⟩
              refine (jobsCode_four Hall'.out Hlg.out fun hc => ?_).symm
              obtain ⟨i, hi, he⟩ := undone_pos hz
              have := swept_end Hsw.out Hall.out (Hstop.out trivial) i (hc i (by have := Hsw.out.len; omega))
              simp [hi, he] at this
            · go_wp2
              go_ret
              refine ⟨retInt ?_, Hbel.out⟩
              exact (jobsCode_zero Hall'.out Hlg.out fun i hi => Hsw.out.can i hi (undone_zero (by omega) (by have := Hsw.out.len; omega))).symm
end Go.Proofs.Yticdjkkcfdbdcaa
