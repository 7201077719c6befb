/- The contract of the reference's Planned: the plan, time by time. No conditions but that what is read is there. -/
import Derived.Test.YtnepaaheiakimaaGraphSpd
import Derived.Test.YtnepaaheiakimaaPlanM
import Derived.BigQuiet
import Derived.BigRegion
import Derived.Deep.QuietTactic
import Derived.StillTailTactics
namespace Go.Proofs.Ytnepaaheiakimaa
open Go.ChangeShapes Go.WideShapes Go.ChangeAt Go.RowKit

theorem run_make_cells {P : Program} (t e : TypeId) (i : TypeInfo) (z : Value) (ht : P.underlying t = some (.slice e)) (hi : P.info? e = some i) (hz : i.zero = some z)
    (kl kc : IntKind) (n : Nat) (hbytes : i.bytes * n ≤ 281474976710656) (h63 : n ≤ 9223372036854775807) (w : World) :
    (Instr.makeSlice t (.int kl (n : Int)) (.int kc (n : Int))).run P w = .ok (.slice (some ⟨w.heap.size, 0, none⟩) n n) (w.alloc (.cells (madeCells z.cells (n * i.size)) e)) := by
  have hb : (i.bytes : Int) * (n : Int) ≤ 281474976710656 := by
    have h : ((i.bytes * n : Nat) : Int) ≤ 281474976710656 := by omega
    rwa [Int.natCast_mul] at h
  have hr := run_make (P := P) w t e i z ht hi hz kl kc n n (by omega) (by omega) hb (by omega)
  simp only [Int.toNat_natCast] at hr
  exact hr
theorem info_slot : (Try.prog.info? 33).map (fun i => (i.zero, i.size, i.bytes)) = some (some (.agg #[.int .i64 0, .int .i64 0]), 2, 16) := by kernel_rfl
theorem made_two (n : Nat) : (madeCells (Value.agg #[.int .i64 0, .int .i64 0]).cells (n * 2)).toList = ints (fnI (n * 2) fun _ => 0) := by
  apply List.ext_getElem?
  intro j
  by_cases h : j < n * 2
  · simp [madeCells, ints, fnI, h, Value.cells]
    have : j % 2 = 0 ∨ j % 2 = 1 := by omega
    rcases this with e | e <;> simp [e]
  · simp [madeCells, ints, fnI, h]
theorem run_make_slots (n : Nat) (hn : n ≤ 200) (w : World) : (Instr.makeSlice 26 (.int .i64 (n : Int)) (.int .i64 (n : Int))).run Try.prog w = .ok (.slice (some ⟨w.heap.size, 0, none⟩) n n) (w.alloc (.cells (madeCells (Value.agg #[.int .i64 0, .int .i64 0]).cells (n * 2)) 33)) := by
  obtain ⟨i, hi, hz⟩ := Option.map_eq_some_iff.1 info_slot
  simp only [Prod.mk.injEq] at hz
  have := run_make_cells (P := Try.prog) 26 33 i _ Try.underlying26 hi hz.1 .i64 .i64 n (by rw [hz.2.2]; omega) (by omega) w
  rwa [hz.2.1] at this

def fnB (n : Nat) (f : Nat → Bool) : List Bool := (List.range n).map f
theorem fnB_len (n : Nat) (f : Nat → Bool) : (fnB n f).length = n := by simp [fnB]
theorem fnB_set {n : Nat} {f g : Nat → Bool} {k : Nat} {x : Bool} (hx : g k = x) (hg : ∀ j, j < n → j ≠ k → g j = f j) : (fnB n f).set k x = fnB n g := by
  apply List.ext_getElem?
  intro j
  rw [List.getElem?_set]
  by_cases hj : j < n
  · by_cases e : k = j
    · subst e; simp [fnB, hj, hx]
    · simp [fnB, hj, e, hg j hj (fun e' => e e'.symm)]
  · simp [fnB, hj]; omega
theorem fnB_congr {n : Nat} {f g : Nat → Bool} (h : ∀ j, j < n → f j = g j) : fnB n f = fnB n g := List.map_congr_left fun j hj => h j (List.mem_range.1 hj)
theorem fnB_getD {n : Nat} {f : Nat → Bool} {k : Nat} (h : k < n) : (fnB n f).getD k false = f k := by simp [fnB, h]
theorem allIn_fnB {n : Nat} {f : Nat → Bool} {l : List Int} (h : ∀ a ∈ l, okIn n a) : allIn (fnB n f) l = l.all fun a => f a.toNat := by
  unfold allIn
  rw [Bool.eq_iff_iff, List.all_eq_true, List.all_eq_true]
  refine ⟨fun hh a ha => ?_, fun hh a ha => ?_⟩
  · have := hh a ha; have h1 := h a ha; simp only [okIn] at h1; rwa [fnB_getD (by omega)] at this
  · have := hh a ha; have h1 := h a ha; simp only [okIn] at h1; rwa [fnB_getD (by omega)]
def slotF (S : PS) (k : Nat) : Int := if k % 2 = 0 then S.beg (k / 2) else S.wkr (k / 2)
theorem fnB_none (n : Nat) (f : Nat → Bool) : (fnB n fun j => if j < 0 then f j else false) = List.replicate n false := by
  apply List.ext_getElem?
  intro j
  by_cases h : j < n <;> simp [fnB, h, List.getElem?_replicate]
theorem cellB {n : Nat} {f : Nat → Bool} {k : Nat} (h : k < n) : (bools (fnB n f))[k]? = some (.bool (f k)) := by simp [bools, fnB, h]
theorem cellI {n : Nat} {f : Nat → Int} {k : Nat} (h : k < n) : (ints (fnI n f))[k]? = some (.int .i64 (f k)) := by simp [ints, fnI, h]
theorem slotF_even (S : PS) (i : Nat) : slotF S (i * 2) = S.beg i := by simp [slotF]
theorem slotF_odd (S : PS) (i : Nat) : slotF S (i * 2 + 1) = S.wkr i := by simp only [slotF]; rw [if_neg (by omega), show (i * 2 + 1) / 2 = i by omega]
theorem quiet_l {P : Program} {f : FuncId} {args : Array Value} {w : World} {v : Value} (h : Calls P f args w fun e w' => e = .returned v ∧ w = w') : Calls P f args w fun e w' => e = .returned v ∧ w' = w :=
  h.mono fun _ _ ⟨a, b⟩ => ⟨a, b.symm⟩
theorem below_drewN {B : Nat} {a w : World} (h : Below B a w) (n : Nat) : Below B a (w.drewN n) := ⟨h.os, h.tape, h.output, h.size, h.block⟩
theorem Blk.drewN {w : World} {g : Nat} {t : TypeId} {vs : List Value} (h : Blk w g t vs) (n : Nat) : Blk (w.drewN n) g t vs := h
/-- A plan in memory. -/
structure PMem (w : World) (g n : Nat) (S : PS) : Prop where
  out : Blk w g 33 (ints (fnI (n * 2) (slotF S)))
  begun : Blk w (g + 1) 4 (bools (fnB n S.begun))
  til : Blk w (g + 1 + 1) 55 (ints (fnI 16 S.til))
theorem PMem.keep {w w' : World} {g n : Nat} {S : PS} {B : Nat} (h : PMem w g n S) (hb : Below B w w') (hg : g + 1 + 1 < B) : PMem w' g n S :=
  ⟨h.out.below hb (by omega), h.begun.below hb (by omega), h.til.below hb (by omega)⟩
theorem PMem.setOther {w : World} {g n : Nat} {S : PS} (h : PMem w g n S) {p : Addr} (hp : g + 1 + 1 < p.block) (u : Value) : PMem (w.setCell p u) g n S :=
  ⟨h.out.far (by omega) _, h.begun.far (by omega) _, h.til.far (by omega) _⟩
theorem PMem.drew {w : World} {g n : Nat} {S : PS} (h : PMem w g n S) : PMem w.drew g n S := ⟨h.out, h.begun, h.til⟩
theorem PMem.drewN {w : World} {g n : Nat} {S : PS} (h : PMem w g n S) (k : Nat) : PMem (w.drewN k) g n S := ⟨h.out, h.begun, h.til⟩
theorem PMem.alloc {w : World} {g n : Nat} {S : PS} (h : PMem w g n S) (o : Obj) : PMem (w.alloc o) g n S := ⟨h.out.alloc o, h.begun.alloc o, h.til.alloc o⟩
/-- A job is given to a worker: the four stores. -/
theorem PMem.asg {w : World} {g n : Nat} {S : PS} {J : List JobR} {t : Int} {v b : Nat} (h : PMem w g n S) (hb : b < n) (hv : v < 16) :
    PMem ((((w.setCell ⟨g + 1, b, none⟩ (.bool true)).setCell ⟨g, b * 2, none⟩ (.int .i64 t)).setCell ⟨g, b * 2 + 1, none⟩ (.int .i64 v)).setCell ⟨g + 1 + 1, v, none⟩ (.int .i64 (t + lenOf J b))) g n (asg J t v b S) where
  out := by
    have h1 := (((h.out.far (p := ⟨g + 1, b, none⟩) (by simp) (.bool true)).set_ (b * 2) (.int .i64 t)).set_ (b * 2 + 1) (.int .i64 v)).far (p := ⟨g + 1 + 1, v, none⟩) (by simp; omega) (.int .i64 (t + lenOf J b))
    rw [ints_set, ints_set, fnI_set (g := fun k => if k = b * 2 then t else slotF S k) (by simp) (fun j _ hj => by simp [hj]), fnI_set (g := slotF (Go.Proofs.Ytnepaaheiakimaa.asg J t v b S)) ?_ ?_] at h1
    · exact h1
    · simp only [slotF, Go.Proofs.Ytnepaaheiakimaa.asg]
      rw [if_neg (by omega), show (b * 2 + 1) / 2 = b by omega, upd_eq]
    · intro j _ hj
      simp only [slotF, Go.Proofs.Ytnepaaheiakimaa.asg]
      by_cases e : j = b * 2
      · subst e; simp [upd_eq]
      · rw [if_neg e]
        have : j / 2 ≠ b := by omega
        rw [upd_ne this, upd_ne this]
  begun := by
    have h1 := (((h.begun.set_ b (.bool true)).far (p := ⟨g, b * 2, none⟩) (by simp) (.int .i64 t)).far (p := ⟨g, b * 2 + 1, none⟩) (by simp) (.int .i64 v)).far (p := ⟨g + 1 + 1, v, none⟩) (by simp) (.int .i64 (t + lenOf J b))
    rw [bools_set, fnB_set (g := (Go.Proofs.Ytnepaaheiakimaa.asg J t v b S).begun) (upd_eq _ _ _) (fun j _ hj => upd_ne hj)] at h1
    exact h1
  til := by
    have h1 := (((h.til.far (p := ⟨g + 1, b, none⟩) (by simp) (.bool true)).far (p := ⟨g, b * 2, none⟩) (by simp; omega) (.int .i64 t)).far (p := ⟨g, b * 2 + 1, none⟩) (by simp; omega) (.int .i64 v)).set_ v (.int .i64 (t + lenOf J b))
    rw [ints_set, fnI_set (g := (Go.Proofs.Ytnepaaheiakimaa.asg J t v b S).til) (upd_eq _ _ _) (fun j _ hj => upd_ne hj)] at h1
    exact h1
theorem undone_upd {n b : Nat} {f : Nat → Bool} (hb : b < n) (h : f b = false) : undone (fnB n (upd f b true)) + 1 = undone (fnB n f) := by
  have := undone_set (bs := fnB n f) (i := b) (by rw [fnB_len]; exact hb) (by simp [fnB, h])
  rwa [fnB_set (g := upd f b true) (upd_eq _ _ _) (fun j _ hj => upd_ne hj)] at this
theorem undone_le (n : Nat) (f : Nat → Bool) : undone (fnB n f) ≤ n := by
  have := List.countP_le_length (p := fun x => x == false) (l := fnB n f)
  rw [fnB_len] at this; exact this
theorem undone_pos_iff {n : Nat} {f : Nat → Bool} : 0 < undone (fnB n f) ↔ ∃ i, i < n ∧ f i = false := by
  constructor
  · intro h
    obtain ⟨i, hi, e⟩ := undone_pos h
    rw [fnB_len] at hi
    exact ⟨i, hi, by simpa [fnB] using e⟩
  · rintro ⟨i, hi, e⟩
    rcases Nat.eq_zero_or_pos (undone (fnB n f)) with h | h
    · have := undone_zero h (i := i) (by rw [fnB_len]; exact hi)
      rw [fnB_getD hi, e] at this; cases this
    · exact h

def PlannedPost (w : World) (J : List JobR) (wk : Int) (e : Ending) (w' : World) : Prop :=
  Below w.heap.size w w' ∧ ((askedCode J wk ≠ 0 ∧ e = .returned (.tuple #[.slice none 0 0, .int .i64 0, .int .i64 (askedCode J wk)])) ∨
    (askedCode J wk = 0 ∧ ∃ (g T : Nat), AllBegun J (Rn J wk.toNat T) ∧ w.heap.size ≤ g ∧ e = .returned (.tuple #[.slice (some ⟨g, 0, none⟩) J.length J.length, .int .i64 (Rn J wk.toNat T).fin, .int .i64 0]) ∧
      Blk w' g 33 (ints (fnI (J.length * 2) (slotF (Rn J wk.toNat T))))))
theorem asked_zero {J : List JobR} {wk : Int} (h : askedCode J wk = 0) : Good J ∧ workersOk wk := by
  by_cases h0 : jobsCode J = 0
  · by_cases hw : workersOk wk
    · exact ⟨good_of_zero h0, hw⟩
    · rw [askedCode_w h0 hw] at h; cases h
  · rw [askedCode_bad h0] at h; exact absurd h h0

set_option maxRecDepth 100000 in
set_option maxHeartbeats 4000000 in
theorem planned_any (w : World) (B : Nat) (A : Option Addr) (c n : Nat) (wk : Int) (J : List JobR) (hR : RdJobs w B A J) (hB : B ≤ w.heap.size) (hn : J.length = n) :
    Calls Try.prog 9 #[.slice A n c, .int .i64 wk] w (PlannedPost w J wk) := by
  have Hn := Lib.hid hn; clear hn
  have HR := Lib.hid hR; clear hR
  obtain ⟨ac, hac⟩ : ∃ ac, askedCode J wk = ac := ⟨_, rfl⟩
  have Hac := Lib.hid hac; clear hac
  by_cases h0 : ac = 0
  · subst h0
    obtain ⟨hg, hw1, hw2⟩ := asked_zero Hac.out
    obtain ⟨W, rfl⟩ : ∃ W : Nat, wk = W := ⟨wk.toNat, by omega⟩
    have hfew : n ≤ 200 := Hn.out ▸ hg.few
    have hmk1 := fun Wx => run_make_slots n hfew Wx
    have hmk2 := fun Wx => run_make_row' (P := Try.prog) 54 4 (.bool false) 1 Try.underlying54 info_bool rfl .i64 .i64 n (by omega) (by omega) Wx
    have hlen : ∀ i, i < J.length → 1 ≤ lenOf J i := fun i hi => (hg.len i hi).1
    have Hlen := Lib.hid hlen; clear hlen
    have Hg := Lib.hid hg; clear hg
    go_enter Try.func9, Try.ntmps9
    go_wp2_with (first
      | (go_at_call 22; refine (asked_any _ B _ _ _ _ J HR.out hB Hn.out).mono ?_; rintro e w1 ⟨rfl, hb1⟩; rw [Hac.out]; have hz1 := hb1.size; have Hb1 := Lib.hid hb1; clear hb1))
    have hm0 : PMem (((w1.alloc (.cells (madeCells #[.int .i64 0, .int .i64 0] (n * 2)) 33)).alloc (.cells (madeCells #[.bool false] n) 4)).alloc (.cells #[.int .i64 0, .int .i64 0, .int .i64 0, .int .i64 0, .int .i64 0, .int .i64 0, .int .i64 0, .int .i64 0, .int .i64 0, .int .i64 0, .int .i64 0, .int .i64 0, .int .i64 0, .int .i64 0, .int .i64 0, .int .i64 0] 55)) w1.heap.size n (Rn J W 0) := by
      refine ⟨((Blk.newArr w1 _ ?_).alloc _).alloc _, ?_, ?_⟩
      · have := made_two n
        rw [show (Value.agg #[.int .i64 0, .int .i64 0]).cells = #[.int .i64 0, .int .i64 0] from rfl] at this
        rw [this]
        congr 1
        exact fnI_congr fun j _ => by simp [slotF, Rn, PS.init]
      · have := (Blk.newArr (w1.alloc (.cells (madeCells #[.int .i64 0, .int .i64 0] (n * 2)) 33)) 4 (made_one (.bool false) n)).alloc (.cells #[.int .i64 0, .int .i64 0, .int .i64 0, .int .i64 0, .int .i64 0, .int .i64 0, .int .i64 0, .int .i64 0, .int .i64 0, .int .i64 0, .int .i64 0, .int .i64 0, .int .i64 0, .int .i64 0, .int .i64 0, .int .i64 0] 55)
        rw [show bools (fnB n (Rn J W 0).begun) = List.replicate n (.bool false) by apply List.ext_getElem?; intro j; simp [fnB, bools, Rn, PS.init, List.getElem?_replicate]; split <;> simp_all]
        simpa using this
      · have := Blk.newArr ((w1.alloc (.cells (madeCells #[.int .i64 0, .int .i64 0] (n * 2)) 33)).alloc (.cells (madeCells #[.bool false] n) 4)) 55 (cs := #[.int .i64 0, .int .i64 0, .int .i64 0, .int .i64 0, .int .i64 0, .int .i64 0, .int .i64 0, .int .i64 0, .int .i64 0, .int .i64 0, .int .i64 0, .int .i64 0, .int .i64 0, .int .i64 0, .int .i64 0, .int .i64 0]) rfl
        rw [show ints (fnI 16 (Rn J W 0).til) = List.replicate 16 (.int .i64 0) from rfl]
        simpa using this
    have hbe0 : Below w1.heap.size w1 (((w1.alloc (.cells (madeCells #[.int .i64 0, .int .i64 0] (n * 2)) 33)).alloc (.cells (madeCells #[.bool false] n) 4)).alloc (.cells #[.int .i64 0, .int .i64 0, .int .i64 0, .int .i64 0, .int .i64 0, .int .i64 0, .int .i64 0, .int .i64 0, .int .i64 0, .int .i64 0, .int .i64 0, .int .i64 0, .int .i64 0, .int .i64 0, .int .i64 0, .int .i64 0] 55)) :=
      (((Below.refl _ _).alloc (Nat.le_refl _) _).alloc (by simp) _).alloc (by simp; omega) _
    have hu0 : undone (fnB n (Rn J W 0).begun) = n := by
      have : fnB n (Rn J W 0).begun = List.replicate n false := by apply List.ext_getElem?; intro j; simp [fnB, Rn, PS.init, List.getElem?_replicate]; split <;> simp_all
      rw [this, undone_rep]
    have Hm0 := Lib.hid hm0; clear hm0
    have Hbe0 := Lib.hid hbe0; clear hbe0
    have Hu0 := Lib.hid hu0; clear hu0
    have hwt := workTo_bound Hg.out.len J.length (Nat.le_refl _)
    rw [Hn.out] at hwt
    have Hwt := Lib.hid hwt; clear hwt
    go_loopg [10, 12, 13, 14, 15, 16, 17, 18] ((workTo J n).toNat + 2) (fun gk left fin time _ _ _ _ _ wr => ∃ (T : Nat), gk + T = (workTo J n).toNat + 2 ∧ time = .int .i64 T ∧ left = .int .i64 (undone (fnB n (Rn J W T).begun) : Nat) ∧ fin = .int .i64 (Rn J W T).fin ∧
      PMem wr w1.heap.size n (Rn J W T) ∧ Below w1.heap.size w1 wr)
    case atStart => exact ⟨0, by omega, rfl, by rw [Hu0.out], rfl, Hm0.out, Hbe0.out⟩
    case round =>
      obtain ⟨T, hgT, rfl, rfl, rfl, hmem, hbel⟩ := hrel
      by_cases hleft : 0 < undone (fnB n (Rn J W T).begun)
      · have hTw : (T : Int) ≤ workTo J n := by
          obtain ⟨i, hi, hb⟩ := undone_pos_iff.1 hleft
          have h1 := pot_time Hlen.out (by omega) Hg.out.inR Hg.out.can T ⟨i, by have := Hn.out; omega, hb⟩
          rw [sumN_len, Hn.out] at h1
          have := pot_nonneg (J := J) (W := W) (S := Rn J W T) (t := T) Hlen.out
          omega
        have hT2 : (T : Int) ≤ 1000 * n := by have := Hwt.out; omega
        have hinv := Rn_inv W Hlen.out T
        have hfin := Rn_fin W Hg.out.len T
        have hul := undone_le n (Rn J W T).begun
        have hbd := hmem.til.lt
        have hS : Rn J W (T + 1) = phaseTo J T (over J (Rn J W T) T) (Rn J W T) W := rfl
        generalize hRS : Rn J W T = S at *
        have HS := Lib.hid hS; clear hS
        have HRS := Lib.hid hRS; clear hRS
        have Hinv := Lib.hid hinv; clear hinv
        have Hmem := Lib.hid hmem; clear hmem
        have Hbel := Lib.hid hbel; clear hbel
        clear Hm0 Hbe0 Hu0
        go_wp2
        obtain ⟨wo, rfl⟩ : ∃ wo : World, wo = wr := ⟨_, rfl⟩
        obtain ⟨g1, rfl⟩ : ∃ g1 : Nat, g1 = gk := ⟨_, rfl⟩
        have hov0 : Blk (wo.alloc (.cells (madeCells #[.bool false] n) 4)) wo.heap.size 4 (bools (fnB n fun j => if j < 0 then over J S T j else false)) := Blk.newArr wo _ (by
          rw [made_one, ← bools_rep, fnB_none])
        have Hov0 := Lib.hid hov0; clear hov0
        have hbo0 : Below wo.heap.size wo (wo.alloc (.cells (madeCells #[.bool false] n) 4)) := (Below.refl _ _).alloc (Nat.le_refl _) _
        have Hbo0 := Lib.hid hbo0; clear hbo0
        have hRo : RdJobs wo B A J := HR.out.below (Hb1.out.mono hB) |>.below (Hbel.out.mono (Nat.le_trans hB hz1))
        have HRo := Lib.hid hRo; clear hRo
        have hBo : B ≤ wo.heap.size := by have := Hbel.out.size; omega
        go_loopg [15] n (fun gk i wq => ∃ (i' : Nat), gk + i' = n ∧ i = .int .i64 i' ∧ Below wo.heap.size wo wq ∧ Blk wq wo.heap.size 4 (bools (fnB n fun j => if j < i' then over J S T j else false)))
        case atStart => exact ⟨0, by omega, rfl, Hbo0.out, Hov0.out⟩
        case round =>
          obtain ⟨i, hgi, rfl, hbq, hov⟩ := hrel
          by_cases hi : i < n
          · have hiJ : i < J.length := by have := Hn.out; omega
            have hm := Hmem.out.keep hbq hbd
            obtain ⟨jb, jo, rfl, hjb, c0, -, -, -⟩ := (HRo.out.below (hbq.mono hBo)).at_ hiJ
            rw [← lenOf_eq hiJ] at c0
            have hlen := Hg.out.len i hiJ
            have hcb : wr.cell? ⟨w1.heap.size + 1, i, none⟩ = some (.bool (S.begun i)) := by rw [hm.begun.cell, cellB hi]
            have hco : wr.cell? ⟨w1.heap.size, i * 2, none⟩ = some (.int .i64 (S.beg i)) := by rw [hm.out.cell, cellI (by omega), slotF_even]
            have hcv : wr.cell? ⟨wo.heap.size, i, none⟩ = some (.bool false) := by rw [hov.cell, cellB hi, if_neg (by omega)]
            have hfv := hov.frozen i
            have hset := hov.set_ i (.bool (over J S T i))
            have hfs : (fnB n fun j => if j < i then over J S T j else false).set i (over J S T i) = fnB n fun j => if j < i + 1 then over J S T j else false :=
              fnB_set (if_pos (by omega)) (fun j _ hj => by
                by_cases e : j < i
                · rw [if_pos e, if_pos (by omega)]
                · rw [if_neg e, if_neg (by omega)])
            rw [bools_set, hfs] at hset
            clear hfs
            have hove : over J S T i = (S.begun i && decide (S.beg i + lenOf J i ≤ T)) := rfl
            have hbg : S.begun i = true → 0 ≤ S.beg i ∧ S.beg i < T := fun h => by have := Hinv.out.has i hiJ h; omega
            rw [hove] at hset
            have Hset := Lib.hid hset; clear hset
            have Hbq := Lib.hid hbq; clear hbq
            clear hov hm hove
            generalize hLL : lenOf J i = LL at *
            generalize hBB : S.beg i = BB at *
            generalize hGG : S.begun i = GG at *
            clear hLL hBB hGG
            cases GG with
            | true =>
              obtain ⟨hb0, hb2⟩ := hbg rfl
              clear hbg
              by_cases hle : BB + LL ≤ (T : Int)
              · go_wp2
                go_region
                all_goals go_wp2
                go_roundg (gk - 1)
                case measure => omega
                case rel =>
                  refine ⟨i + 1, by omega, by go_num, (Hbq.out.setCell (Nat.le_refl _) _).drew, ?_⟩
                  have h := Hset.out
                  rw [decide_eq_true hle] at h
                  first
                    | exact h.drew
                    | (rw [decide_eq_true hle]; exact h.drew)
              · go_wp2
                go_region
                all_goals go_wp2
                go_roundg (gk - 1)
                case measure => omega
                case rel =>
                  refine ⟨i + 1, by omega, by go_num, (Hbq.out.setCell (Nat.le_refl _) _).drew, ?_⟩
                  have h := Hset.out
                  rw [decide_eq_false (show ¬ BB + LL ≤ (T : Int) by omega)] at h
                  first
                    | exact h.drew
                    | (rw [decide_eq_false (show ¬ BB + LL ≤ (T : Int) by omega)]; exact h.drew)
            | false =>
              clear hbg
              go_wp2
              go_region
              all_goals go_wp2
              go_roundg (gk - 1)
              case measure => omega
              case rel =>
                refine ⟨i + 1, by omega, by go_num, (Hbq.out.setCell (Nat.le_refl _) _).drew, ?_⟩
                exact Hset.out.drew
          · have hov1 : Blk wr wo.heap.size 4 (bools (fnB n (over J S T))) := by
              rwa [fnB_congr (g := over J S T) (fun j hj => if_pos (by omega))] at hov
            have hm1 := Hmem.out.keep hbq hbd
            have hbq' := hbq
            have Hov1 := Lib.hid hov1; clear hov1 hov
            have Hm1 := Lib.hid hm1; clear hm1
            have Hbq := Lib.hid hbq'; clear hbq' hbq
            go_wp2
            obtain ⟨w3, rfl⟩ : ∃ w3 : World, w3 = wr := ⟨_, rfl⟩
            go_loopg [10, 12, 16, 17, 18] W (fun gk left fin v _ _ wq => ∃ (u : Nat), gk + u = W ∧ v = .int .i64 u ∧ left = .int .i64 (undone (fnB n (phaseTo J T (over J S T) S u).begun) : Nat) ∧ fin = .int .i64 (phaseTo J T (over J S T) S u).fin ∧
              PMem wq w1.heap.size n (phaseTo J T (over J S T) S u) ∧ Blk wq wo.heap.size 4 (bools (fnB n (over J S T))) ∧ Below w1.heap.size w1 wq)
            case atStart => exact ⟨0, by omega, rfl, rfl, rfl, Hm1.out, Hov1.out, Hbel.out.trans (Hbq.out.mono (by have := Hbel.out.size; omega))⟩
            case round =>
              obtain ⟨u, hgu, rfl, rfl, rfl, hm, hov, hbl⟩ := hrel
              by_cases hu : u < W
              · have hmid := PMid.upto Hinv.out (over J S T) Hlen.out (by omega) u (by omega)
                have hstep : phaseTo J T (over J S T) S (u + 1) = stepW J T (over J S T) (phaseTo J T (over J S T) S u) u := rfl
                have hfin1 := fin_phaseTo (ov := over J S T) (t := T) Hg.out.len hfin.1 (by omega) u
                have hul1 := undone_le n (phaseTo J T (over J S T) S u).begun
                generalize hSu : phaseTo J T (over J S T) S u = Su at *
                have HSu := Lib.hid hSu; clear hSu
                have hct : wr.cell? ⟨w1.heap.size + 1 + 1, u, none⟩ = some (.int .i64 (Su.til u)) := by rw [hm.til.cell, cellI (by omega)]
                have htb : Su.til u ≤ T + 1000 := by
                  rcases hmid.til u hu with h1 | ⟨i, hi, hb, _, he⟩
                  · omega
                  · have := hmid.has i hi hb
                    have := (Hg.out.len i hi).2
                    rw [he]; simp only [endOf]; omega
                have Hmid := Lib.hid hmid; clear hmid
                have Hstep := Lib.hid hstep; clear hstep
                have Hm := Lib.hid hm; clear hm
                have Hov := Lib.hid hov; clear hov
                have Hbl := Lib.hid hbl; clear hbl
                by_cases hbusy : (T : Int) < Su.til u
                · have hst : stepW J T (over J S T) Su u = Su := if_pos hbusy
                  have Hst := Lib.hid (Hstep.out.trans hst); clear hst
                  go_wp2
                  go_roundg (gk - 1)
                  case measure => omega
                  case rel => exact ⟨u + 1, by omega, by go_num, by rw [Hst.out], by rw [Hst.out], by rw [Hst.out]; exact Hm.out, Hov.out, Hbl.out⟩
                · go_wp2
                  obtain ⟨g2, rfl⟩ : ∃ g2 : Nat, g2 = gk := ⟨_, rfl⟩
                  clear hct
                  go_loopg [17, 18] n (fun gk best k wq => ∃ (q : Nat), gk + q = n ∧ k = .int .i64 q ∧ best = .int .i64 (bestTo J (rdy J Su.begun (over J S T)) q) ∧
                    PMem wq w1.heap.size n Su ∧ Blk wq wo.heap.size 4 (bools (fnB n (over J S T))) ∧ Below w1.heap.size w1 wq)
                  case atStart => exact ⟨0, by omega, rfl, rfl, Hm.out, Hov.out, Hbl.out⟩
                  case round =>
                    obtain ⟨q, hgq, rfl, rfl, hm, hov, hbl⟩ := hrel
                    by_cases hq : q < n
                    · have hqJ : q < J.length := by have := Hn.out; omega
                      have hRq := HR.out.below (Hb1.out.mono hB) |>.below (hbl.mono (Nat.le_trans hB hz1))
                      obtain ⟨jb, jo, rfl, hjb, -, c1, c2, -⟩ := hRq.at_ hqJ
                      have hrd := hRq.after q hqJ
                      have hsm := hRq.small q hqJ
                      have haft := aft_eq hqJ
                      have hinr := Hg.out.inR q
                      have hcu : ∀ (b : Nat), b < n → wr.cell? ⟨jb, jo + b * 4 + 1, none⟩ = some (.int .i64 (urgOf J b)) := fun b hb => by
                        have hbJ : b < J.length := by have := Hn.out; omega
                        obtain ⟨b', o', e', _, -, c1', -, -⟩ := hRq.at_ hbJ
                        injection e' with e'
                        injection e' with e1 e2
                        subst e1 e2
                        rw [← urgOf_eq hbJ] at c1'
                        exact c1'
                      have hcq := hcu q hq
                      rw [haft, Hn.out] at hinr
                      have hcb : wr.cell? ⟨w1.heap.size + 1, q, none⟩ = some (.bool (Su.begun q)) := by rw [hm.begun.cell, cellB hq]
                      have hrange := bestTo_range J (rdy J Su.begun (over J S T)) q
                      have hrdy : rdy J Su.begun (over J S T) q = (!Su.begun q && (aft J q).all fun a => over J S T a.toNat) := rfl
                      have hbs : bestTo J (rdy J Su.begun (over J S T)) (q + 1) = if rdy J Su.begun (over J S T) q && (decide (bestTo J (rdy J Su.begun (over J S T)) q < 0) || decide (urgOf J (bestTo J (rdy J Su.begun (over J S T)) q).toNat < urgOf J q)) then (q : Int) else bestTo J (rdy J Su.begun (over J S T)) q := rfl
                      obtain ⟨j, hj⟩ : ∃ j, J[q] = j := ⟨_, rfl⟩
                      rw [hj] at c2 hrd hsm haft hinr
                      obtain ⟨jl, ju, jn, sA, sc, af⟩ := j
                      dsimp only at c2 hrd hsm haft hinr
                      rw [haft] at hrdy
                      have hai := allIn_fnB (f := over J S T) hinr
                      have Hinr := Lib.hid hinr; clear hinr
                      have Hcu := Lib.hid hcu; clear hcu
                      have Hrd := Lib.hid hrd; clear hrd
                      have Hm2 := Lib.hid hm; clear hm
                      have Hov2 := Lib.hid hov; clear hov
                      have Hbl2 := Lib.hid hbl; clear hbl
                      have Hrdy := Lib.hid hrdy; clear hrdy
                      have Hbs := Lib.hid hbs; clear hbs
                      have Hai := Lib.hid hai; clear hai
                      have Hrange := Lib.hid hrange; clear hrange
                      clear haft hj c1 hRq
                      generalize hBT : bestTo J (rdy J Su.begun (over J S T)) q = BT at *
                      have HBT := Lib.hid hBT; clear hBT
                      cases hbq : Su.begun q with
                      | true =>
                        rw [hbq] at hcb
                        have hr0 : rdy J Su.begun (over J S T) q = false := by rw [Hrdy.out, hbq]; rfl
                        have hbs2 : bestTo J (rdy J Su.begun (over J S T)) (q + 1) = BT := by rw [Hbs.out, hr0]; rfl
                        have Hbs2 := Lib.hid hbs2; clear hbs2 hr0 hbq
                        go_wp2
                        go_quiet (fail)
                        go_wp2
                        go_roundg (gk - 1)
                        case measure => omega
                        case rel => exact ⟨q + 1, by omega, by go_num, by rw [Hbs2.out], Hm2.out.drewN _, Hov2.out.drewN _, below_drewN Hbl2.out _⟩
                      | false =>
                        rw [hbq] at hcb
                        cases hal : allIn (fnB n (over J S T)) af with
                        | false =>
                          have hr0 : rdy J Su.begun (over J S T) q = false := by rw [Hrdy.out, hbq, ← Hai.out, hal]; rfl
                          have hbs2 : bestTo J (rdy J Su.begun (over J S T)) (q + 1) = BT := by rw [Hbs.out, hr0]; rfl
                          have Hbs2 := Lib.hid hbs2; clear hbs2 hr0 hbq
                          have Hal := Lib.hid hal; clear hal
                          go_wp2
                          go_quiet ((go_at_call 23; exact Calls.quiet_of_same (quiet_l (allDone_b false _ B _ _ _ _ _ _ _ af (fnB n (over J S T)) Hrd.out Hov2.out.rd rfl (fnB_len _ _) hsm (by unfold Fits; omega) Hinr.out Hal.out))))
                          go_wp2
                          go_roundg (gk - 1)
                          case measure => omega
                          case rel => exact ⟨q + 1, by omega, by go_num, by rw [Hbs2.out], Hm2.out.drewN _, Hov2.out.drewN _, below_drewN Hbl2.out _⟩
                        | true =>
                          have hr1 : rdy J Su.begun (over J S T) q = true := by rw [Hrdy.out, hbq, ← Hai.out, hal]; rfl
                          have Hal := Lib.hid hal; clear hal
                          rcases Hrange.out with hneg | ⟨b, hb, hbq2, -⟩
                          · subst hneg
                            have hbs2 : bestTo J (rdy J Su.begun (over J S T)) (q + 1) = (q : Int) := by rw [Hbs.out, hr1]; simp
                            have Hbs2 := Lib.hid hbs2; clear hbs2 hr1 hbq
                            go_wp2
                            go_quiet ((go_at_call 23; exact Calls.quiet_of_same (quiet_l (allDone_b true _ B _ _ _ _ _ _ _ af (fnB n (over J S T)) Hrd.out Hov2.out.rd rfl (fnB_len _ _) hsm (by unfold Fits; omega) Hinr.out Hal.out))))
                            go_wp2
                            go_roundg (gk - 1)
                            case measure => omega
                            case rel => exact ⟨q + 1, by omega, by go_num, by rw [Hbs2.out], Hm2.out.drewN _, Hov2.out.drewN _, below_drewN Hbl2.out _⟩
                          · subst hb
                            have hcbb := Hcu.out b (by omega)
                            have hbf : decide ((b : Int) < 0) = false := decide_eq_false (by omega)
                            have hbn : (b : Int) < n := by omega
                            have hbs2 : bestTo J (rdy J Su.begun (over J S T)) (q + 1) = if urgOf J b < urgOf J q then (q : Int) else b := by
                              rw [Hbs.out, hr1, hbf]; simp
                            have Hbs2 := Lib.hid hbs2; clear hbs2 hr1 hbq
                            by_cases hur : urgOf J b < urgOf J q
                            · go_wp2
                              go_quiet ((go_at_call 23; exact Calls.quiet_of_same (quiet_l (allDone_b true _ B _ _ _ _ _ _ _ af (fnB n (over J S T)) Hrd.out Hov2.out.rd rfl (fnB_len _ _) hsm (by unfold Fits; omega) Hinr.out Hal.out))))
                              go_wp2
                              go_roundg (gk - 1)
                              case measure => omega
                              case rel => exact ⟨q + 1, by omega, by go_num, by rw [Hbs2.out, if_pos hur], Hm2.out.drewN _, Hov2.out.drewN _, below_drewN Hbl2.out _⟩
                            · go_wp2
                              go_quiet ((go_at_call 23; exact Calls.quiet_of_same (quiet_l (allDone_b true _ B _ _ _ _ _ _ _ af (fnB n (over J S T)) Hrd.out Hov2.out.rd rfl (fnB_len _ _) hsm (by unfold Fits; omega) Hinr.out Hal.out))))
                              go_wp2
                              go_roundg (gk - 1)
                              case measure => omega
                              case rel => exact ⟨q + 1, by omega, by go_num, by rw [Hbs2.out, if_neg (by omega)], Hm2.out.drewN _, Hov2.out.drewN _, below_drewN Hbl2.out _⟩
                    · have hqn : q = J.length := by have := Hn.out; omega
                      have hrange := bestTo_range J (rdy J Su.begun (over J S T)) J.length
                      have hstw : stepW J T (over J S T) Su u = if bestTo J (rdy J Su.begun (over J S T)) J.length < 0 then Su else asg J T u (bestTo J (rdy J Su.begun (over J S T)) J.length).toNat Su := if_neg (by omega)
                      rw [hqn]
                      generalize hBT : bestTo J (rdy J Su.begun (over J S T)) J.length = BT at *
                      have Hm2 := Lib.hid hm; clear hm
                      have Hov2 := Lib.hid hov; clear hov
                      have Hbl2 := Lib.hid hbl; clear hbl
                      rcases hrange with hneg | ⟨b, hb, hbn, hrb⟩
                      · subst hneg
                        have Hstw := Lib.hid (Hstep.out.trans (hstw.trans (if_pos (by omega)))); clear hstw
                        have hstop := phaseTo_stop (J := J) (t := T) (ov := over J S T) (S := S) (u := u) (by rw [HSu.out, hBT]; omega) (W - u)
                        rw [show u + (W - u) = W by omega, ← HS.out, HSu.out] at hstop
                        have Hstop := Lib.hid hstop; clear hstop hBT
                        go_wp2
                        go_roundg (g1 - 1)
                        case measure => omega
                        case rel => exact ⟨T + 1, by omega, by go_num, by rw [Hstop.out], by rw [Hstop.out], by rw [Hstop.out]; exact Hm2.out, Hbl2.out⟩
                      · subst hb
                        have hstw2 := Hstep.out.trans (hstw.trans (if_neg (by omega)))
                        rw [Int.toNat_natCast] at hstw2
                        have Hstw := Lib.hid hstw2; clear hstw hstw2 hBT
                        have hbn2 : b < n := by have := Hn.out; omega
                        have hnb : Su.begun b = false := by simp only [rdy, Bool.and_eq_true, Bool.not_eq_true'] at hrb; exact hrb.1
                        have hun := undone_upd (n := n) hbn2 hnb
                        have hcb : wr.cell? ⟨w1.heap.size + 1, b, none⟩ = some (.bool (Su.begun b)) := by rw [Hm2.out.begun.cell, cellB hbn2]
                        have hco0 : wr.cell? ⟨w1.heap.size, b * 2, none⟩ = some (.int .i64 (Su.beg b)) := by rw [Hm2.out.out.cell, cellI (by omega), slotF_even]
                        have hco1 : wr.cell? ⟨w1.heap.size, b * 2 + 1, none⟩ = some (.int .i64 (Su.wkr b)) := by rw [Hm2.out.out.cell, cellI (by omega), slotF_odd]
                        have hct : wr.cell? ⟨w1.heap.size + 1 + 1, u, none⟩ = some (.int .i64 (Su.til u)) := by rw [Hm2.out.til.cell, cellI (by omega)]
                        have hf0 := Hm2.out.begun.frozen b
                        have hf1 := Hm2.out.out.frozen (b * 2)
                        have hf2 := Hm2.out.out.frozen (b * 2 + 1)
                        have hf3 := Hm2.out.til.frozen u
                        obtain ⟨jb, jo, rfl, hjb, c0, -, -, -⟩ := (HR.out.below (Hb1.out.mono hB) |>.below (Hbl2.out.mono (Nat.le_trans hB hz1))).at_ hbn
                        rw [← lenOf_eq hbn] at c0
                        have hlb := Hg.out.len b hbn
                        have hasg := Hm2.out.asg (J := J) (t := T) (v := u) hbn2 (by omega)
                        have Hasg := Lib.hid hasg; clear hasg
                        have Hun := Lib.hid hun; clear hun
                        have hne1 : ¬ (jb = w1.heap.size) := by omega
                        have hne2 : ¬ (jb = w1.heap.size + 1) := by omega
                        have hne3 : ¬ (jb = w1.heap.size + 1 + 1) := by omega
                        have hne4 : ¬ (w1.heap.size = jb) := by omega
                        have hne5 : ¬ (w1.heap.size + 1 = jb) := by omega
                        have hne6 : ¬ (w1.heap.size + 1 + 1 = jb) := by omega
                        clear hnb hrb
                        go_wp2
                        all_goals
                          go_roundg (g2 - 1)
                          case measure => omega
                          case rel =>
                            refine ⟨u + 1, by omega, by go_num, ?_, ?_, ?_, ?_, ?_⟩
                            · rw [Hstw.out]
                              refine congrArg (Value.int .i64) ?_
                              have := Hun.out
                              simp only [asg]
                              omega
                            · rw [Hstw.out]
                              refine congrArg (Value.int .i64) ?_
                              simp only [asg]
                              omega
                            · rw [Hstw.out]; exact Hasg.out
                            · exact (((Hov2.out.far (by simp; omega) _).far (by simp; omega) _).far (by simp; omega) _).far (by simp; omega) _
                            · exact (((Hbl2.out.setCell (by show w1.heap.size ≤ w1.heap.size + 1; omega) _).setCell (Nat.le_refl _) _).setCell (Nat.le_refl _) _).setCell (by show w1.heap.size ≤ w1.heap.size + 1 + 1; omega) _
              · have huW : u = W := by omega
                subst huW
                have Hm2 := Lib.hid hm; clear hm
                have Hbl2 := Lib.hid hbl; clear hbl
                clear hov
                go_wp2
                go_roundg (g1 - 1)
                case measure => omega
                case rel => exact ⟨T + 1, by omega, by go_num, by rw [HS.out], by rw [HS.out], by rw [HS.out]; exact Hm2.out, Hbl2.out⟩
      · have hall : AllBegun J (Rn J W T) := fun i hi => by
          cases hb : (Rn J W T).begun i with
          | true => rfl
          | false => exact absurd (undone_pos_iff.2 ⟨i, by have := Hn.out; omega, hb⟩) hleft
        have Hall := Lib.hid hall; clear hall
        have Hmem := Lib.hid hmem; clear hmem
        have Hbel := Lib.hid hbel; clear hbel
        go_wp2
        go_ret3
        refine ⟨Hb1.out.trans (Hbel.out.mono hz1), .inr ⟨Hac.out, w1.heap.size, T, by simpa using Hall.out, hz1, ?_, ?_⟩⟩
        · rw [Hn.out]; simp
        · rw [Hn.out]; simpa using Hmem.out.out
  · have h0' : (ac == 0) = false := beq_eq_false_iff_ne.2 h0
    have h1' : (ac != 0) = true := bne_iff_ne.2 h0
    go_enter Try.func9, Try.ntmps9
    go_wp2_with (first
      | (go_at_call 22; refine (asked_any _ B _ _ _ _ J HR.out hB Hn.out).mono ?_; rintro e w1 ⟨rfl, hb1⟩; rw [Hac.out]; have Hb1 := Lib.hid hb1; clear hb1))
    go_ret3
    exact ⟨Hb1.out, .inl ⟨by rw [Hac.out]; exact h0, by rw [Hac.out]; rfl⟩⟩
end Go.Proofs.Ytnepaaheiakimaa
