/- The law LangMeans answers true. No conditions but that what is read is there, and of bounded bulk. -/
import Derived.Test.YtgiceeholamphaaMeant
import Derived.Test.YtgiceeholamphaaSame
namespace Go.Proofs.Ytgiceeholamphaa
open Go.ChangeShapes Go.WideShapes Go.ChangeAt Go.RowKit Go.Maps

/-- What Mean, Meant hand back. -/
def Res (L : List StatR) (V : List VarR) (mo : Int) (Vs : List VarR) (n e : Int) : Prop :=
  (wrong L ≠ 0 ∧ Vs = [] ∧ n = 0 ∧ e = wrong L) ∨ (wrong L = 0 ∧ ¬ goodV V ∧ Vs = [] ∧ n = 0 ∧ e = 7) ∨ (wrong L = 0 ∧ goodV V ∧ mo < 0 ∧ Vs = [] ∧ n = 0 ∧ e = 1) ∨
  (wrong L = 0 ∧ goodV V ∧ 0 ≤ mo ∧ runS L (beginF L V, mo.toNat) = none ∧ Vs = [] ∧ n = 0 ∧ e = 2) ∨
  (wrong L = 0 ∧ goodV V ∧ 0 ≤ mo ∧ ∃ s, runS L (beginF L V, mo.toNat) = some s ∧ IsVars s.1 Vs ∧ n = mo - s.2 ∧ e = 0)
theorem Res.unique {L : List StatR} {V Vs Vs' : List VarR} {mo n n' e e' : Int} (h : Res L V mo Vs n e) (k : Res L V mo Vs' n' e') : Vs = Vs' ∧ n = n' ∧ e = e' := by
  rcases h with ⟨h1, h2, h3, h4⟩ | ⟨h1, h2, h3, h4, h5⟩ | ⟨h1, h2, h3, h4, h5, h6⟩ | ⟨h1, h2, h3, h4, h5, h6, h7⟩ | ⟨h1, h2, h3, s, h4, h5, h6, h7⟩ <;>
    rcases k with ⟨k1, k2, k3, k4⟩ | ⟨k1, k2, k3, k4, k5⟩ | ⟨k1, k2, k3, k4, k5, k6⟩ | ⟨k1, k2, k3, k4, k5, k6, k7⟩ | ⟨k1, k2, k3, s', k4, k5, k6, k7⟩
  all_goals first
    | (exact absurd k1 h1)
    | (exact absurd h1 k1)
    | (exact absurd k2 h2)
    | (exact absurd h2 k2)
    | (exfalso; omega)
    | (rw [h4] at k4; cases k4; done)
    | (subst_vars; exact ⟨rfl, rfl, rfl⟩)
    | skip
  rw [h4] at k4
  cases k4
  exact ⟨h5.unique k5, by omega, by omega⟩
theorem IsVars.len {L : List StatR} {V Vs : List VarR} {s : St} {K : Nat} (hA : AllL L) (h : runS L (beginF L V, K) = some s) (hv : IsVars s.1 Vs) : Vs.length ≤ nodesS L + V.length := by
  have hd := AllS.down (begin_dom L V) h
  rw [hv.unique (isVars_varsF (begN_sorted L V) ((begN_has hA V).dom hd.dom)), varsF_length]
  exact begN_len L V
theorem MeanPost.form {L : List StatR} {V : List VarR} {mo : Int} {w w' : World} {E : Ending} (h : MeanPost L V mo w E w') (hn : nodesS L ≤ 1048576) (hV : V.length ≤ 1048576) :
    ∃ (A : Option Addr) (c : Nat) (Vs : List VarR) (n e : Int), E = .returned (.tuple #[.slice A Vs.length c, .int .i64 n, .int .i64 e]) ∧ RowV w' w'.heap.size A Vs ∧ Below w.heap.size w w' ∧ Res L V mo Vs n e ∧ Vs.length ≤ 8388608 := by
  have hnil : RowV w' w'.heap.size none [] := fun h => absurd rfl h
  obtain ⟨hb, ⟨h1, rfl⟩ | ⟨h1, h2, rfl⟩ | ⟨h1, h2, h3, rfl⟩ | ⟨h1, h2, h3, h4, rfl⟩ | ⟨h1, h2, h3, s, A, c, Vs, h4, rfl, h5, h6⟩⟩ := h
  · exact ⟨none, 0, [], _, _, rfl, hnil, hb, .inl ⟨h1, rfl, rfl, rfl⟩, by simp⟩
  · exact ⟨none, 0, [], _, _, rfl, hnil, hb, .inr (.inl ⟨h1, h2, rfl, rfl, rfl⟩), by simp⟩
  · exact ⟨none, 0, [], _, _, rfl, hnil, hb, .inr (.inr (.inl ⟨h1, h2, h3, rfl, rfl, rfl⟩)), by simp⟩
  · exact ⟨none, 0, [], _, _, rfl, hnil, hb, .inr (.inr (.inr (.inl ⟨h1, h2, h3, h4, rfl, rfl, rfl⟩))), by simp⟩
  · exact ⟨A, c, Vs, _, _, rfl, h6, hb, .inr (.inr (.inr (.inr ⟨h1, h2, h3, s, h4, h5, rfl, rfl⟩))), by have := IsVars.len (wrong_all h1) h4 h5; omega⟩
def TruePost (w : World) (E : Ending) (w' : World) : Prop := E = .returned (.bool true) ∧ Below w.heap.size w w'
set_option maxRecDepth 100000 in
set_option maxHeartbeats 4000000 in
theorem lawMeans_any (k : BlockR) (w : World) (A' : Option Addr) (c' : Nat) (V : List VarR) (mo : Int) (hR : RdB w w.heap.size k) (hC : CapL k.l) (hV : RdV w w.heap.size A' V) (hn : nodesS k.l ≤ 1048576) (hmo : mo ≤ 9223372036854775807) :
    Calls Try.prog 3 #[k.val, .slice A' V.length c', .int .i64 mo] w (TruePost w) := by
  have hfit := hV.fits
  unfold Fits at hfit
  have h1 := mean_any k w w.heap.size A' c' V mo hR hC hV (Nat.le_refl _) hn hmo
  have h2 := fun (W : World) (hb : Below w.heap.size w W) => meant_any k W w.heap.size A' c' V mo (hR.under hb) (hV.keep fun p hp => hb.cell hp) hb.size hn hmo
  obtain ⟨A, c, L⟩ := k
  simp only [BlockR.l] at hn h1 h2
  have HX := Lib.hid (And.intro h1 h2); clear h1 h2 hR hV hC
  show Calls Try.prog 3 #[.slice A L.length c, .slice A' V.length c', .int .i64 mo] w (TruePost w)
  go_enter Try.func3, Try.ntmps3
  go_wp2_with (first
    | (go_at_call 5; (
        refine (show Calls _ _ _ _ _ from HX.out.1).mono ?_
        rintro E w2 hp
        obtain ⟨A2, c2, Vs, n, e, rfl, hrow, hb2, hres, hlen⟩ := hp.form hn hfit
        have H2 := Lib.hid (And.intro hrow (And.intro hb2 (And.intro hres hlen))); clear hp hrow hb2 hres hlen))
    | (go_at_call 6; (
        refine (show Calls _ _ _ _ _ from HX.out.2 w2 H2.out.2.1).mono ?_
        rintro E w3 hp
        obtain ⟨A3, c3, Vs3, n3, e3, rfl, hrow, hb3, hres, hlen⟩ := hp.form hn hfit
        obtain ⟨rfl, rfl, rfl⟩ := H2.out.2.2.1.unique hres
        have H3 := Lib.hid (And.intro hrow (H2.out.1.step hb3)); have H4 := Lib.hid (H2.out.2.1.trans (hb3.mono H2.out.2.1.size)); clear hp hrow hb3 hres hlen))
    | (go_at_call 7; (
        refine (show Calls _ _ _ _ _ from sameVars_any Vs Vs w3 A2 A3 c2 c3 H3.out.2 H3.out.1 H2.out.2.2.2).mono ?_
        rintro E w4 ⟨t, rfl, ht, hb4⟩
        obtain rfl := ht.2 rfl
        have H5 := Lib.hid (H4.out.trans (hb4.mono H4.out.size)); clear hb4 ht)))
  go_ret
  exact ⟨rfl, H5.out⟩
end Go.Proofs.Ytgiceeholamphaa
