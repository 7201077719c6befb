/- A call of scan.side, told of the lone world: behind it a row is told anew. No conditions but those named. -/
import Derived.Test.YtnabgoljnfaebaaSd5
import Derived.Test.YtnabgoljnfaebaaTop
namespace Go.Proofs.Ytnabgoljnfaebaa
open Go.Conc Go.ConcN Go.RowKit
section
variable {S : FuncId → Prop} {P : Program} {ρ : Ren} {k : LK} {L W : World}
/-- A row of the lone world whose type is one: it is whole in company. -/
theorem Mir.row (h : Mir S P ρ k L W) {b c s : Nat} {x : Array Value} {e : TypeId} {fz : Nat × Nat} (hb : ρ b = some (c, s)) (hl : L.heap[b]? = some (.cells x e fz)) (he : P.info? e ≠ none) : s = 0 ∧ c < W.heap.size ∧
    ∀ (i : Nat) v, x[i]? = some v → ∃ v', W.cell? ⟨c, i, none⟩ = some v' ∧ VR S ρ v v' ∧ Lik k ⟨c, i, none⟩ ∧ (¬ (fz.1 ≤ i ∧ i < fz.2) → k.W (.cell ⟨c, i, none⟩) ∧ W.frozen? ⟨c, i, none⟩ = false) := by
  obtain ⟨x', e', fz', h1, h2⟩ := h.wr.shapes b c s x e fz hb hl
  have hs : s = 0 := by
    rcases h2 with h2 | h2
    · exact h2.2.1
    · exact absurd (h2.2 ▸ h.pr.none) he
  subst hs
  refine ⟨rfl, (h.wr.lt _ _ _ hb).2, fun i v hv => ?_⟩
  obtain ⟨x2, e2, fz2, v', g1, g2, g3, g4, g5⟩ := h.wr.cells b c 0 x e fz hb hl i v hv
  rw [Nat.zero_add] at g2 g4 g5
  refine ⟨v', by simp [World.cell?, g1, g2], g3, g4, fun hn => ⟨(g5 hn).1, ?_⟩⟩
  have := (g5 hn).2
  simp only [World.frozen?, g1]
  simpa using this
end
def OwSeg (c0 : Nat) (cuts : Nat → Nat) (j : Nat) (l : Loc) : Prop := ∃ i, cuts j ≤ i ∧ i < cuts (j + 1) ∧ l = .cell ⟨c0, i, none⟩
def ShSeg (k : LK) (c0 : Nat) (cuts : Nat → Nat) (m : Nat) (l : Loc) : Prop := (k.W l ∨ k.R l) ∧ ∀ j, j < m → ¬ OwSeg c0 cuts j l
section
variable {Post : Value → World → Prop} {n0 : Nat} {W0 : World}
/-- What is asked of the closure, at any company that the lone world mirrors. -/
def SideOk (L : World) (obL : Nat) (capL : Array Value) (x1 : Array Value) (cf : FuncId) (cuts : Nat → Nat) (m : Nat) : Prop :=
  ∀ (ρ : Ren) (k : LK) (W : World) (c0 : Nat) (cap : Array Value), Mir (InL scanL) Try.prog ρ k L W → ρ obL = some (c0, 0) → VRs (InL scanL) ρ capL cap → (∀ l, k.W l ∨ k.R l → MemLoc W.heap.size l) → ∃ Pre Pst : Nat → LK → World → Prop,
    (∀ j k w w₁, Pre j k w → Rely k w w₁ → Pre j k w₁) ∧ (∀ j k w w₁, Pst j k w → Rely k w w₁ → Pst j k w₁) ∧ Closure cf cap cuts m Pre Pst ∧
    (∀ j, j < m → ∀ k' w', (∀ l, OwSeg c0 cuts j l → k'.W l) → (∀ l, ShSeg k c0 cuts m l → k'.R l) → (∀ l, k'.W l ∨ k'.R l → MemLoc w'.heap.size l) → Rely ⟨OwSeg c0 cuts j, ShSeg k c0 cuts m, fun _ => False⟩ W w' → Pre j k' w') ∧
    ∀ j, j < m → ∀ kk w', Pst j kk w' → ∀ i, cuts j ≤ i → i < cuts (j + 1) → ∃ n, x1[i]? = some (.int .i64 n) ∧ w'.cell? ⟨c0, i, none⟩ = some (.int .i64 n)
theorem m_side {fn : FuncId} {ops : Array Oper} {i : Nat} {rest : List Nat} {o : Oper} {d p q : Tmp} {a : Act} {Q : Exit → Act → World → Prop} {L : World} (ho : ops[i]? = some o) (hg : o.guard = none) (hd : o.dst = some d)
    (hop : o.op = .call { callee := .value (.func 15), args := #[.tmp p, .tmp q], argTypes := #[36, 39] })
    {crL m cc : Nat} {cf : FuncId} {capL : Array Value} (hp : a.eval (.tmp p) = .slice (some ⟨crL, 0, none⟩) (m + 1) cc) (hq : a.eval (.tmp q) = .func (.func cf) #[] capL) (hm : m ≤ 16)
    (hcf : ∃ g, Try.prog.funcs[cf]? = some g ∧ (g.name == "runtime.NumGoroutine") = false ∧ g.body.isNone = false) {cuts : Nat → Nat} (hmono : ∀ j, j < m → cuts j ≤ cuts (j + 1)) (h00 : cuts 0 = 0)
    {crow : Array Value} {ce : TypeId} {cfz : Nat × Nat} (hcr : L.heap[crL]? = some (.cells crow ce cfz)) (hce : Try.prog.info? ce ≠ none) (hcrow : ∀ j, j ≤ m → crow[j]? = some (.int .i64 (cuts j)))
    {obL : Nat} {x : Array Value} {e : TypeId} {fz : Nat × Nat} (hob : L.heap[obL]? = some (.cells x e fz)) (he : Try.prog.info? e ≠ none) (hfz : ∀ i, i < cuts m → ¬ (fz.1 ≤ i ∧ i < fz.2)) (hlen : cuts m ≤ x.size) (hne : crL ≠ obL)
    (hρ : ∀ ρ k W a', Mir (InL scanL) Try.prog ρ k L W → ActR (InL scanL) ρ a a' → ∃ c, ρ obL = some c) {x1 : Array Value} (hx1 : x1.size = x.size) (hout : ∀ i, cuts m ≤ i → x1[i]? = x[i]?) (hcl : SideOk L obL capL x1 cf cuts m)
    (hn : MpOps (InL scanL) Try.prog (fun k g w => Win Try.prog Post n0 W0 k g w) fn ops rest false Q (a.put (some d) (.tuple #[])) (reRow L obL x1 e fz)) : MpOps (InL scanL) Try.prog (fun k g w => Win Try.prog Post n0 W0 k g w) fn ops (i :: rest) false Q a L := by
  intro b' K' base ρ k W a' h1 h2 h3 h4 h5
  have hJ : JOk Try.prog true _ _ := win_jok (P := Try.prog) (Post := Post) (n0 := n0) (W0 := W0)
  have hk : b'.kind ≠ .early := by rw [h2]; simp
  have vp := h4.eval.1 (.tmp p) trivial
  have vq := h4.eval.1 (.tmp q) trivial
  rw [hp] at vp
  rw [hq] at vq
  obtain ⟨cap, hcap, hq'⟩ : ∃ cap, VRs (InL scanL) ρ capL cap ∧ a'.eval (.tmp q) = .func (.func cf) #[] cap := by
    generalize a'.eval (.tmp q) = v at vq
    cases vq with
    | func hf sx hx sy hy =>
      rename_i x' y'
      obtain rfl : x' = #[] := Array.eq_empty_of_size_eq_zero sx.symm
      exact ⟨y', ⟨sy, hy⟩, rfl⟩
  obtain ⟨cr, hcrρ, hp'⟩ : ∃ cr, ρ crL = some (cr, 0) ∧ a'.eval (.tmp p) = .slice (some ⟨cr, 0, none⟩) (m + 1) cc := by
    generalize a'.eval (.tmp p) = v at vp
    cases vp with
    | slice hA l c =>
      obtain ⟨_, c, s, h6, rfl⟩ := hA
      obtain ⟨rfl, _⟩ := h3.row h6 hcr hce
      exact ⟨c, h6, rfl⟩
  obtain ⟨⟨c0, s0⟩, hc0⟩ := hρ ρ k W a' h3 h4
  obtain ⟨rfl, hc0lt, hrow⟩ := h3.row hc0 hob he
  have hbody : ∃ g, Try.prog.funcs[15]? = some g ∧ (g.name == "runtime.NumGoroutine") = false ∧ g.body.isNone = false := ⟨_, Try.func15, by kernel_rfl, by kernel_rfl⟩
  have hcall := op_call (P := Try.prog) (e := a'.eval) (n := 15) (first := #[]) (captured := #[]) hop rfl hbody
  have hargs : (#[] ++ #[Operand.tmp p, .tmp q].map a'.eval ++ #[] : Array Value) = #[.slice (some ⟨cr, 0, none⟩) (m + 1) cc, .func (.func cf) #[] cap] := by
    simp only [Array.empty_append, Array.append_empty, List.map_toArray, List.map_cons, List.map_nil, hp', hq']
  rw [hargs] at hcall
  refine j_ctl hJ (fun w => (stepG_enter ho (yld hg _) hk (hcall w).1).trans (by rw [listed, (hcall w).2, seen_empty])) fun w₁ hR => ?_
  have hrel : Rely k W w₁ := hJ.rel k _ _ hR
  replace h3 := h3.rely hrel
  clear hrow
  obtain ⟨_, hc0lt, hrow⟩ := h3.row hc0 hob he
  obtain ⟨_, _, hcrw⟩ := h3.row hcrρ hcr hce
  refine win_pre fun hO hmem => ?_
  obtain ⟨Pre, Pst, s1, s2, hC, hPre, hPst⟩ := hcl ρ k w₁ c0 cap h3 hc0 hcap hmem
  have hOwW : ∀ j l, j < m → OwSeg c0 cuts j l → k.W l := by
    rintro j l hj ⟨i, h6, h7, rfl⟩
    have hi : i < cuts m := Nat.lt_of_lt_of_le h7 (cuts_le hmono (by omega) (Nat.le_refl _))
    obtain ⟨v', _, _, _, h8⟩ := hrow i _ (Array.getElem?_eq_getElem (Nat.lt_of_lt_of_le hi hlen))
    exact (h8 (hfz i hi)).1
  have hcut0 : ∀ j i, j ≤ m → i < m → ¬ OwSeg c0 cuts i (.cell ⟨cr, j, none⟩) := by
    rintro j i hj hi ⟨i', h6, h7, h8⟩
    have e1 : cr = c0 := by have := congrArg (fun x : Loc => match x with | .cell a => a.block | _ => 0) h8; exact this
    have e2 : j = i' := by have := congrArg (fun x : Loc => match x with | .cell a => a.off | _ => 0) h8; exact this
    subst e1 e2
    have hjs : j < crow.size := (Array.getElem?_eq_some_iff.1 (hcrow j hj)).1
    exact hne (h3.wr.apart crL obL cr 0 0 crow x ce e cfz fz j j hcrρ hc0 hcr hob hjs (Nat.lt_of_lt_of_le (Nat.lt_of_lt_of_le h7 (cuts_le hmono (by omega) (Nat.le_refl _))) hlen) rfl)
  refine side_win (Sh := ShSeg k c0 cuts m) (cuts := cuts) s1 s2 hm hcf hC (Nat.le_trans h3.pr.base h3.wr.base.2) hOwW (fun l hl => hl.1) (fun j l hj hl hs => hs.2 j hj hl) ?_ (fun j hj => ?_) (fun j hj k' w' q1 q2 q3 q4 => hPre j hj k' w' q1 q2 q3 q4) fun k' kk w' hr hW hR hQ => ?_
  · rintro i j hi hj hij l ⟨a1, h6, h7, rfl⟩ ⟨b1, h8, h9, h10⟩
    have e2 : a1 = b1 := by have := congrArg (fun x : Loc => match x with | .cell a => a.off | _ => 0) h10; exact this
    subst e2
    rcases Nat.lt_or_ge i j with h11 | h11
    · have := cuts_le hmono (show i + 1 ≤ j by omega) (by omega); omega
    · have := cuts_le hmono (show j + 1 ≤ i by omega) (by omega); omega
  · obtain ⟨v', g1, g2, g3, _⟩ := hcrw j _ (hcrow j hj)
    cases g2
    exact ⟨g1, g3, fun i hi => hcut0 j i hj hi⟩
  · rw [show (b'.at a' (.inRegion ops (i :: rest) :: K')).finish (.tuple #[]) = b'.at (a'.put o.dst (.tuple #[])) (.inRegion ops rest :: K') by rw [Frame.finish_at, ho]; rfl, hd]
    refine hn b' K' base ρ k' w' _ h1 h2 ⟨h3.wr.join hr hW hR hc0 hob hx1 (fun b c s y e' fz' i hb hl hi hbn => ⟨(h3.wr.lt b c s hb).2, ?_⟩) (fun c hc => ⟨hmem _ (.inl hc), ?_⟩) (fun i v hv => ?_), h3.pr⟩ (h4.put _ (.tuple rfl fun i v v' h => by simp at h)) (h5.at (.refl _) fun e => by cases e)
    · rintro j hj ⟨i', h6, h7, h8⟩
      have e1 : c = c0 := by have := congrArg (fun x : Loc => match x with | .cell a => a.block | _ => 0) h8; exact this
      have e2 : s + i = i' := by have := congrArg (fun x : Loc => match x with | .cell a => a.off | _ => 0) h8; exact this
      subst e1
      exact hbn (h3.wr.apart b obL c s 0 y x e' e fz' fz i i' hb hc0 hl hob hi (Nat.lt_of_lt_of_le (Nat.lt_of_lt_of_le h7 (cuts_le hmono (by omega) (Nat.le_refl _))) hlen) (by omega))
    · rintro j hj ⟨i', _, _, h8⟩
      cases h8
    · rw [Nat.zero_add]
      by_cases hi : i < cuts m
      · obtain ⟨j, h6, h7, h8⟩ := cuts_find h00 hi
        obtain ⟨n, g1, g2⟩ := hPst j h6 _ _ (hQ j h6) i h7 h8
        rw [g1] at hv
        cases hv
        exact ⟨_, g2, .int _ _⟩
      · rw [hout i (by omega)] at hv
        obtain ⟨v', g1, g2, g3, _⟩ := hrow i v hv
        refine ⟨v', (hr.cell ⟨c0, i, none⟩ (.inr ⟨show c0 < w₁.heap.size from hc0lt, ?_⟩)).trans g1, g2⟩
        rintro j hj ⟨i', h6, h7, h8⟩
        have e2 : i = i' := by have := congrArg (fun x : Loc => match x with | .cell a => a.off | _ => 0) h8; exact this
        have := cuts_le hmono (show j + 1 ≤ m by omega) (Nat.le_refl _)
        omega
end
end Go.Proofs.Ytnabgoljnfaebaa
