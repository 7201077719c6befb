/- The contract of lang.Vars: a map's variables, in order of their names. No conditions but that there are not too many. -/
import Derived.Test.YtgiceeholamphaaVarsL
namespace Go.Proofs.Ytgiceeholamphaa
open Go.ChangeShapes Go.WideShapes Go.ChangeAt Go.RowKit Go.Maps

def cellsV (l : List VarR) : List Value := l.flatMap VarR.cells
theorem cellsV_length (l : List VarR) : (cellsV l).length = l.length * 2 := by
  induction l with
  | nil => rfl
  | cons x l ih => simp only [cellsV, List.flatMap_cons, List.length_append, List.length_cons] at ih ⊢; rw [ih]; simp [VarR.cells]; omega
theorem cellsV_append (a b : List VarR) : cellsV (a ++ b) = cellsV a ++ cellsV b := by simp [cellsV]
theorem cellsV_get (l : List VarR) {i j : Nat} (hi : i < l.length) (hj : j < 2) : (cellsV l)[i * 2 + j]? = (l[i]).cells[j]? := by
  induction l generalizing i with
  | nil => simp at hi
  | cons x l ih =>
    rw [cellsV, List.flatMap_cons, ← cellsV]
    cases i with
    | zero => rw [Nat.zero_mul, Nat.zero_add, List.getElem?_append_left (by simp [VarR.cells]; omega)]; rfl
    | succ i =>
      rw [List.getElem?_append_right (by simp [VarR.cells]; omega), show (i + 1) * 2 + j - x.cells.length = i * 2 + j by simp [VarR.cells]; omega]
      exact ih (by simpa using hi)
theorem cellsV_one (l : List VarR) : ∀ u ∈ cellsV l, u.oneCell' = true := by
  intro u hu
  simp only [cellsV, List.mem_flatMap, VarR.cells] at hu
  obtain ⟨x, _, hu⟩ := hu
  simp at hu
  rcases hu with rfl | rfl <;> rfl
theorem info_var : (Try.prog.info? 36).map (fun i => (i.zero, i.size, i.bytes)) = some (some (.agg #[.string ⟨#[]⟩, .int .i64 0]), 2, 24) := by kernel_rfl
theorem own_rowV {w : World} {base n : Nat} {t : TypeId} {v : Value} {l : List VarR} (h : w.ownsRow base t 2 v n (cellsV l)) : ∃ A c, v = .slice A l.length c ∧ RowV w w.heap.size A l := by
  have hn : n = l.length := by have := h.1; rw [cellsV_length] at this; omega
  subst hn
  obtain ⟨A, c, rfl, _, _⟩ := own_form h
  refine ⟨A, c, rfl, fun hne => ?_⟩
  obtain ⟨g, c', e, _, hg, _⟩ := own_top h (List.length_pos_iff.2 hne)
  injection e with e1 e2 e3
  subst e1 e3
  refine ⟨g, 0, rfl, hg, fun i hi => ?_⟩
  have h0 := (h.cellAt (i * 2) (by omega)).trans (cellsV_get l (j := 0) hi (by omega))
  have h1 := (h.cellAt (i * 2 + 1) (by omega)).trans (cellsV_get l (j := 1) hi (by omega))
  rw [Nat.zero_add]
  exact ⟨h0, h1⟩
theorem strKeys_length {w : World} {e : TypeId} {b N : Nat} {D : DataW Unit} (h : w.ownsMap Try.prog 9 (plainElem Try.prog e) b N D) : (strKeys D).length ≤ N := by
  have hle := h.size_le
  obtain ⟨es, rfl, _⟩ := h.keysOf
  rw [Maps.size_eq] at hle
  simpa [strKeys] using hle
def VarsPost (f : ByteArray → Option Int) (N : Nat) (w : World) (E : Ending) (w' : World) : Prop :=
  ∃ (A : Option Addr) (c : Nat) (L : List VarR), E = .returned (.slice A L.length c) ∧ IsVars f L ∧ L.length ≤ N ∧ RowV w' w'.heap.size A L ∧ Below w.heap.size w w'
set_option maxRecDepth 100000 in
set_option maxHeartbeats 2000000 in
theorem vars_any (w : World) (bm N : Nat) (f : ByteArray → Option Int) (h : MapAt w 2 bm N f) (hN : N ≤ 8388608) :
    Calls Try.prog 13 #[.map (some bm)] w (VarsPost f N w) := by
  obtain ⟨iV, hiV, hV⟩ := Option.map_eq_some_iff.1 info_var
  simp only [Prod.mk.injEq] at hV
  have HiV := Lib.hid (And.intro hiV (And.intro hV.1 (And.intro hV.2.1 hV.2.2))); clear hiV hV
  have hlt := h.lt
  have h0 := h
  obtain ⟨D, hD, hs⟩ := h
  have hks := keys_says hD hs
  have hle := hD.size_le
  have hsm := strKeys_le hD Try.underlying9
  have HD := Lib.hid (And.intro hD (And.intro hks (And.intro hsm h0))); clear hD hs hks hsm h0
  go_enter Try.func13, Try.ntmps13
  go_wp2_with (first
    | (go_at_call 25; refine (callsIn_wide.1 (maps_Keys_25 _ _)).mono ?_; rintro E w2 ⟨rfl, rfl⟩)
    | (go_at_call 24; go_loud (
        refine (callsIn_wide.1 (slices_Sorted_keys_24_25 bm N D _ w HD.out.1 (by unfold maxLen; omega) (by omega))).mono ?_
        rintro E w2 ⟨v, ss, rfl, hS, hrow, hnil, hb⟩
        obtain ⟨A, c, rfl, hA1, hA2⟩ := own_form hrow
        have hV := isVars_of HD.out.2.1.1 HD.out.2.1.2 hS
        have hlen : (ss.mergeSort fun x y => decide (x ≤ y)).length = ss.length := List.length_mergeSort _
        have hmem : ∀ x ∈ (ss.mergeSort fun x y => decide (x ≤ y)), x.length ≤ maxLen := fun x hx => HD.out.2.2.1 x ((hS.mem_iff).1 ((List.mergeSort_perm ss _).mem_iff.1 hx))
        have hsl : ss.length ≤ N := by rw [hS.length_eq]; exact strKeys_length HD.out.1
        generalize (ss.mergeSort fun x y => decide (x ≤ y)) = S at *
        have hbw : Below w.heap.size w w2 := ((Below.refl _ w).alloc (Nat.le_refl _) _).trans (hb.mono (by simp))
        have H2 := Lib.hid (And.intro hrow (And.intro hbw (And.intro hV hmem))); clear hS hrow hnil hb hV hbw hmem)))
  have hzw := H2.out.2.1.size
  have hSl : (S.map (varOf f)).length = ss.length := by simp [hlen]
  go_loopg [3, 10] ss.length (fun gk s3 i wr => ∃ q : Nat, gk + q = ss.length ∧ i = .int .i64 q ∧ wr.ownsRow w2.heap.size 36 2 s3 q (cellsV ((S.map (varOf f)).take q)) ∧ Below w2.heap.size w2 wr)
  case atStart => exact ⟨0, by omega, rfl, World.ownsRow_nil .., Below.refl _ _⟩
  case round =>
    obtain ⟨q, hgq, rfl, hown, hb⟩ := hrel
    have hzr := hb.size
    by_cases hq : q < ss.length
    · have hqS : q < S.length := by omega
      obtain ⟨g, c', e, _, hg, _⟩ := own_top H2.out.1 (by omega)
      injection e with e1 e2 e3
      subst e1 e3
      have hcell : wr.cell? ⟨g, q, none⟩ = some (.string (nm S[q])) := by
        rw [hb.cell (p := ⟨g, q, none⟩) hg, H2.out.1.cellAt q (by omega), List.getElem?_map, List.getElem?_eq_getElem hqS]
        rfl
      have hsz : (nm S[q]).size ≤ maxLen := by
        have h := H2.out.2.2.2 _ (List.getElem_mem hqS)
        rw [← data_nm S[q]] at h
        simpa using h
      have htk : (S.map (varOf f)).take (q + 1) = (S.map (varOf f)).take q ++ [varOf f S[q]] := by rw [take_snocA (by omega)]; simp
      have hm : MapAt wr 2 bm N f := (HD.out.2.2.2.below H2.out.2.1 hlt).below hb (by omega)
      generalize hx : S[q] = x at *
      have H4 := Lib.hid (And.intro hown (And.intro hb (And.intro htk hm))); clear hown hb htk hm hx
      have hv : varOf f x = ⟨nm x, (f (nm x)).getD 0⟩ := rfl
      have Hv := Lib.hid hv; clear hv
      generalize nm x = s at *
      go_wp2_with (first
        | (at_lookup; refine wpList_map_get rfl _ _ 40 rfl Try.underlying2 (zero_int64 _) Try.underlying40 rfl H4.out.2.2.2 s hsz rfl ?_)
        | (at_builtin; (
            refine wpList_append_src rfl (.tmp 14) (.tmp 20) _ rfl w2.heap.size 36 iV _ 2 24 Try.underlying23 HiV.out.1 HiV.out.2.1 HiV.out.2.2.1 HiV.out.2.2.2 rfl (by decide) _ _ _ rfl (H4.out.1.alloc _) (some ⟨wr.heap.size, 0, none⟩) 1 1 (cellsV [⟨s, (f s).getD 0⟩]) rfl (cellsV_length _) (fun _ => ⟨wr.heap.size, 0, rfl, fun j u hu => ((Blk.new wr _ [.string s, .int .i64 ((f s).getD 0)]).cellAdd j).trans hu⟩) (cellsV_one _) (by unfold maxLen; omega) (by omega) (by simp; omega) ?_
            intro v5 w5 hown5 hg5 hloc
            have H7 := Lib.hid (And.intro hown5 (And.intro hg5 hloc)); clear hown5 hg5 hloc)))
      go_roundg (gk - 1)
      case measure => omega
      case rel =>
        refine ⟨q + 1, by omega, by go_num, ?_, (H4.out.2.1.alloc H4.out.2.1.size _).grown H7.out.2.1 (by simp; omega) (fun k hk => (H4.out.1.lt k hk).1)⟩
        rw [H4.out.2.2.1, cellsV_append, Hv.out]
        exact H7.out.1
    · obtain rfl : q = ss.length := by omega
      have H4 := Lib.hid (And.intro hown hb); clear hown hb
      go_wp2_with fail
      go_ret
      have ho := H4.out.1
      rw [show ss.length = (S.map (varOf f)).length from hSl.symm, List.take_length] at ho
      obtain ⟨A', c', e, hrowv⟩ := own_rowV ho
      subst e
      exact ⟨A', c', _, rfl, H2.out.2.2.1, by omega, hrowv, H2.out.2.1.trans (H4.out.2.mono hzw)⟩
end Go.Proofs.Ytgiceeholamphaa
