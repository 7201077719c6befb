/- The contract of the reference's Scanned. No conditions but that what is read is there. -/
import Derived.Test.YtnabgoljnfaebaaScL2
import Derived.Test.YtnabgoljnfaebaaScP
import Derived.BigQuiet
import Derived.BigRegion
import Derived.Deep.QuietTactic
import Derived.StillTailTactics
import Derived.Deep.RegionLaw
namespace Go.Proofs.Ytnabgoljnfaebaa
open Go.ChangeShapes Go.WideShapes Go.ChangeAt Go.RowKit
theorem scan_step (op : Int) (xs : List Int) (i : Nat) (h0 : 0 < i) (h : i < xs.length) : scanI op (xs.take (i + 1)) = scanI op (xs.take i) ++ [two op ((scanI op (xs.take i))[i - 1]'(by rw [scanI_length, List.length_take]; omega)) xs[i]] := by
  have hne : xs.take i ≠ [] := fun e => by
    have := congrArg List.length e
    simp only [List.length_take, List.length_nil] at this
    omega
  have hs : scanI op (xs.take i) ≠ [] := fun e => by
    have := congrArg List.length e
    rw [scanI_length] at this
    simp only [List.length_take, List.length_nil] at this
    omega
  have e : xs.take (i + 1) = xs.take i ++ [xs[i]] := by rw [List.take_add_one, List.getElem?_eq_getElem h]; rfl
  have hl : (scanI op (xs.take i)).length = i := by rw [scanI_length, List.length_take]; omega
  have e2 : (scanI op (xs.take i)).getLastD 0 = (scanI op (xs.take i))[i - 1]'(by omega) := by
    rw [List.getLastD_eq_getLast?, List.getLast?_eq_some_getLast hs, List.getLast_eq_getElem]
    simp only [Option.getD_some, hl]
  rw [e, scanI_append op hne, e2]
  rfl
theorem scan_first (op : Int) (xs : List Int) (h : 0 < xs.length) : scanI op (xs.take 1) = [xs[0]] := by
  cases xs with
  | nil => simp at h
  | cons x r => simp [scanI, scanFrom]
/-- What Scan and Scanned answer. -/
def ScanOk (op : Int) (xs : List Int) (wk : Int) : Prop := (1 ≤ op ∧ op ≤ 4) ∧ (1 ≤ wk ∧ wk ≤ 16) ∧ xs.length ≤ 100000
def ScanP (op wk : Int) (xs : List Int) (w : World) (E : Ending) (w' : World) : Prop :=
  (ScanOk op xs wk → ∃ v, E = .returned (.tuple #[v, .int .i64 0]) ∧ w'.ownsRow w.heap.size 2 1 v xs.length (ints (scanI op xs)) ∧ Below w.heap.size w w') ∧
  (¬ ScanOk op xs wk → E = .returned (.tuple #[.slice none 0 0, .int .i64 (if (1 ≤ op ∧ op ≤ 4) ∧ (1 ≤ wk ∧ wk ≤ 16) then 2 else 1)]) ∧ Below w.heap.size w w')
set_option maxRecDepth 100000 in
set_option maxHeartbeats 4000000 in
theorem scanned_s (A : Option Addr) (c : Nat) (xs : List Int) (op wk : Int) (w : World) (B : Nat) (hR : Rd w B A (ints xs)) (hB : B ≤ w.heap.size) (hx : ∀ x ∈ xs, I64 x) :
    Calls Try.prog 6 #[.slice A xs.length c, .int .i64 op, .int .i64 wk] w (ScanP op wk xs w) := by
  obtain ⟨i0, hi0, hz0, hz1, hz2⟩ := info_parts info_i64
  have Hi0 := Lib.hid (And.intro hi0 (And.intro hz0 (And.intro hz1 hz2))); clear hi0 hz0 hz1 hz2
  have HR := Lib.hid hR; clear hR
  have Hx := Lib.hid hx; clear hx
  by_cases h1 : 1 ≤ op ∧ op ≤ 4
  · by_cases h2 : 1 ≤ wk ∧ wk ≤ 16
    · by_cases h3 : xs.length ≤ 100000
      · have h3' : ¬ (100000 : Int) < xs.length := by omega
        go_enter Try.func6, Try.ntmps6
        go_wp2_with (first | (go_at_call 18; refine (between_s _ _ _ _).mono ?_; rintro e w' ⟨rfl, rfl⟩; rw [decide_eq_true h1]) | (go_at_call 19; refine (workers_s _ _).mono ?_; rintro e w' ⟨rfl, rfl⟩; rw [decide_eq_true h2]))
        go_loopg [8, 9] xs.length (fun gk v i wr => ∃ m : Nat, gk + m = xs.length ∧ i = .int .i64 m ∧ wr.ownsRow w.heap.size 2 1 v m (ints (scanI op (xs.take m))) ∧ Below w.heap.size w wr)
        case atStart => exact ⟨0, by omega, rfl, ⟨rfl, .inl ⟨rfl, rfl⟩⟩, Below.refl _ _⟩
        case round =>
          obtain ⟨m, hgk, rfl, hown, hb⟩ := hrel
          obtain ⟨Ao, co, rfl, _, _⟩ := own_form hown
          by_cases hm : m < xs.length
          · obtain ⟨lb, lo, rfl, hlb, hcl⟩ := (HR.out.keep (w' := wr) fun p hp => hb.cell (by omega)).atMap hm
            have hws := hb.size
            have hc0 : (wr.cell? ⟨lb, lo + m, none⟩) = some (.int .i64 xs[m]) := hcl
            have hxm : I64 xs[m] := Hx.out _ (List.getElem_mem hm)
            by_cases hz : m = 0
            · subst hz
              rw [Nat.add_zero] at hc0
              have hsf := scan_first op xs hm
              have Hown := Lib.hid (And.intro hown (And.intro hb hsf)); clear hown hb hcl hsf
              go_wp2_with (at_builtin; go_loud (
                refine wpList_append_own_at _ rfl (.tmp 29) (.tmp 33) _ rfl w.heap.size 2 i0 (.int .i64 0) 1 8 Try.underlying22 Hi0.out.1 Hi0.out.2.1 Hi0.out.2.2.1 Hi0.out.2.2.2 rfl (by decide) (.slice Ao 0 co) 0 [] rfl (Hown.out.1.alloc _) ⟨wr.heap.size, 0, none⟩ 1 1 [.int .i64 xs[0]] rfl rfl (cell_one_new _ _ _) ?qa ?qb ?qc ?qd ?_))
              case qa => intro u hu; simp at hu; subst hu; rfl
              case qb => unfold maxLen; omega
              case qc => omega
              case qd => rw [World.size_alloc]; omega
              intro v1 w3 hown3 hg3 _ hat3
              obtain ⟨A3, c3, rfl, _, _⟩ := own_form hown3
              have H3 := Lib.hid (And.intro hown3 (And.intro hg3 hat3)); clear hown3 hg3 hat3
              go_wp2
              go_roundg (gk - 1)
              case measure => omega
              case rel =>
                refine ⟨1, by omega, rfl, ?_, ?_⟩
                · rw [Hown.out.2.2]; exact H3.out.1
                · exact (Hown.out.2.1.alloc hws _).grown H3.out.2.1 (by rw [World.size_alloc]; omega) (fun g hg => (Hown.out.1.lt g hg).1)
            · have hlen : (scanI op (xs.take m)).length = m := by rw [scanI_length, List.length_take]; omega
              have hm1 : m - 1 < (scanI op (xs.take m)).length := by omega
              obtain ⟨g, hA⟩ : ∃ g, Ao = some ⟨g, 0, none⟩ := by
                rcases hown.2 with ⟨_, h0⟩ | ⟨g, cap, cur, hv, _⟩
                · exact absurd h0 hz
                · cases hv; exact ⟨g, rfl⟩
              subst hA
              have hci := hown.cellAt (m - 1) (by omega)
              have hci2 : wr.cell? ⟨g, m - 1, none⟩ = some (.int .i64 (scanI op (xs.take m))[m - 1]) := by rw [hci]; simp [ints, hm1]
              have hla : I64 (scanI op (xs.take m))[m - 1] := scanI_i64 op _ (fun x hx => Hx.out x (List.mem_of_mem_take hx)) _ (List.getElem_mem hm1)
              have hst := scan_step op xs m (by omega) hm
              obtain ⟨la, hlae⟩ : ∃ la, (scanI op (xs.take m))[m - 1] = la := ⟨_, rfl⟩
              rw [hlae] at hci2 hla hst
              obtain ⟨xm, hxme⟩ : ∃ x, xs[m] = x := ⟨_, rfl⟩
              rw [hxme] at hc0 hst hxm
              have hcall : ∀ W, Calls Try.prog 20 #[.int .i64 op, .int .i64 la, .int .i64 xm] W fun e w' => e = .returned (.int .i64 (two op la xm)) ∧ W = w' := fun W => two_s op la xm W h1 hla hxm
              generalize two op la xm = r at hst hcall
              have hown2 : ((wr.alloc (.cells #[.int .i64 r] 2)).drew).ownsRow w.heap.size 2 1 (.slice (some ⟨g, 0, none⟩) m co) m (ints (scanI op (xs.take m))) := hown.alloc _
              have hcn : ∀ j u, [Value.int .i64 r][j]? = some u → ((wr.alloc (.cells #[.int .i64 r] 2)).drew).cell? ((⟨wr.heap.size, 0, none⟩ : Addr).add j) = some u := cell_one_new _ _ _
              have hone : ∀ u ∈ [Value.int .i64 r], u.oneCell' = true := by intro u hu; simp at hu; subst hu; rfl
              have hb1 : m + 1 ≤ maxLen := by unfold maxLen; omega
              have hb2 : (m + 1) * 8 ≤ 140737488355328 := by omega
              have hbs : w.heap.size ≤ ((wr.alloc (.cells #[.int .i64 r] 2)).drew).heap.size := by show w.heap.size ≤ (wr.alloc _).heap.size; rw [World.size_alloc]; omega
              have Hall := Lib.hid (And.intro hown2 (And.intro hcn (And.intro hone (And.intro hb1 (And.intro hb2 hbs))))); clear hown2 hcn hone hb1 hb2 hbs
              have Hcall := Lib.hid hcall; clear hcall
              have Hown := Lib.hid (And.intro hown (And.intro hb hst)); clear hown hb hcl hst hci hlae hla hxm hxme
              have hzi : ((m : Int) == 0) = false := by simp; omega
              have hwm : IntKind.i64.wrap ((m : Int) - 1) = ((m - 1 : Nat) : Int) := by rw [IntKind.wrap_i64]; omega
              have hwl : ((m - 1 : Nat) : Int) < (m : Int) := by omega
              clear hz hlen hm1
              go_wp2
              go_region_law (first
                | (refine step_append_own rfl (.tmp 35) (.tmp 47) _ rfl w.heap.size 2 i0 (.int .i64 0) 1 8 Try.underlying22 Hi0.out.1 Hi0.out.2.1 Hi0.out.2.2.1 Hi0.out.2.2.2 rfl (by decide) (.slice (some ⟨g, 0, none⟩) m co) m (ints (scanI op (xs.take m))) rfl Hall.out.1 ⟨wr.heap.size, 0, none⟩ 1 1 [.int .i64 r] rfl rfl Hall.out.2.1 Hall.out.2.2.1 Hall.out.2.2.2.1 Hall.out.2.2.2.2.1 Hall.out.2.2.2.2.2 (fun v3 w3 hown3 hg3 hat3 => ?_)
                   obtain ⟨A3, c3, rfl, _, _⟩ := own_form hown3
                   have H3 := Lib.hid (And.intro hown3 (And.intro hg3 hat3)); clear hown3 hg3 hat3)
                | (go_simp; go_at_call 20; refine (Hcall.out _).mono ?_; rintro e w' ⟨rfl, rfl⟩))
              all_goals
                go_wp2
                go_roundg (gk - 1)
                case measure => omega
                case rel =>
                  refine ⟨m + 1, by omega, by go_num, ?_, ?_⟩
                  · rw [Hown.out.2.2]
                    have h := H3.out.1
                    simp only [ints, List.map_append, List.map_cons, List.map_nil] at h ⊢
                    exact h
                  · exact (Hown.out.2.1.alloc hws _).drew.grown H3.out.2.1 (by show w.heap.size ≤ (wr.alloc _).heap.size; rw [World.size_alloc]; omega) (fun q hq => (Hown.out.1.lt q hq).1)
          · have Hown := Lib.hid (And.intro hown hb); clear hown hb
            go_wp2
            go_ret2
            obtain rfl : m = xs.length := by omega
            refine ⟨fun _ => ⟨_, rfl, ?_, Hown.out.2⟩, fun h => absurd ⟨h1, h2, h3⟩ h⟩
            have := Hown.out.1
            rw [List.take_length] at this
            exact this
      · have h3' : (100000 : Int) < xs.length := by omega
        go_enter Try.func6, Try.ntmps6
        go_wp2_with (first | (go_at_call 18; refine (between_s _ _ _ _).mono ?_; rintro e w' ⟨rfl, rfl⟩; rw [decide_eq_true h1]) | (go_at_call 19; refine (workers_s _ _).mono ?_; rintro e w' ⟨rfl, rfl⟩; rw [decide_eq_true h2]))
        go_ret2
        exact ⟨fun h => absurd h.2.2 h3, fun _ => ⟨by rw [if_pos ⟨h1, h2⟩]; rfl, Below.refl _ _⟩⟩
    · go_enter Try.func6, Try.ntmps6
      go_wp2_with (first | (go_at_call 18; refine (between_s _ _ _ _).mono ?_; rintro e w' ⟨rfl, rfl⟩; rw [decide_eq_true h1]) | (go_at_call 19; refine (workers_s _ _).mono ?_; rintro e w' ⟨rfl, rfl⟩; rw [decide_eq_false h2]))
      go_ret2
      exact ⟨fun h => absurd h.2.1 h2, fun _ => ⟨by rw [if_neg fun h => h2 h.2]; rfl, Below.refl _ _⟩⟩
  · go_enter Try.func6, Try.ntmps6
    go_wp2_with (first | (go_at_call 18; refine (between_s _ _ _ _).mono ?_; rintro e w' ⟨rfl, rfl⟩; rw [decide_eq_false h1]))
    go_ret2
    exact ⟨fun h => absurd h.1 h1, fun _ => ⟨by rw [if_neg fun h => h1 h.1]; rfl, Below.refl _ _⟩⟩
end Go.Proofs.Ytnabgoljnfaebaa
