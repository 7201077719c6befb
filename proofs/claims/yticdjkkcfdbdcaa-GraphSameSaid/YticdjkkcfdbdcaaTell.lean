/- Behind a join: rows and channels told anew, and blocks of the company's taken into the lone world. No program; no conditions but those named. -/
import Derived.Test.YticdjkkcfdbdcaaChan
import Derived.Test.YticdjkkcfdbdcaaDrawE
namespace Go.Proofs.Yticdjkkcfdbdcaa
open Go.Conc Go.ConcN
/-- New names, behind the old ones. -/
def Ren.adopt (ρ : Ren) (N : Nat) (pl : List (Nat × Nat)) (hN : ρ.base ≤ N) (hp : ∀ p ∈ pl, ρ.base ≤ p.1) : Ren where
  to := fun b => if b < N then ρ b else pl[b - N]?
  base := ρ.base
  own := ρ.own
  isChan := ρ.isChan
  bad := ρ.bad
  part := fun b => ρ.part b ∨ (N ≤ b ∧ b < N + pl.length)
  ok := fun b p h => by
    by_cases e : b < N
    · rw [if_pos e] at h; exact ρ.ok b p h
    · rw [if_neg e] at h; exact ⟨by omega, hp p (List.mem_of_getElem? h)⟩
/-- One object told anew: a row's cells, a channel's content. -/
def Told : Obj → Obj → Prop
  | .cells x e fz, o => ∃ x1, o = .cells x1 e fz ∧ x1.size = x.size
  | .chan _ _ _ _ _ _, o => ∃ n x cl s r t, o = .chan n x cl s r t
  | o, o' => o' = o
theorem Told.cells {o o' : Obj} (h : Told o o') {x : Array Value} {e : TypeId} {fz : Nat × Nat} (ho : o' = .cells x e fz) : ∃ x0, o = .cells x0 e fz ∧ x.size = x0.size := by
  subst ho
  cases o with
  | cells x0 e0 f0 => obtain ⟨x1, he, hs⟩ := h; cases he; exact ⟨x0, rfl, hs⟩
  | chan n x c s r t => obtain ⟨_, _, _, _, _, _, he⟩ := h; cases he
  | _ => cases h
theorem Told.not {o o' : Obj} (h : Told o o') (hn : NotCells o') : NotCells o := by
  cases o with
  | cells x e fz => obtain ⟨x1, rfl, _⟩ := h; exact absurd rfl (hn _ _ _)
  | _ => intro c e f he; cases he
section
variable {S : FnSet} {ρ : Ren} {k k' : LK} {L L' W W' : World}
theorem adopt_sub (h : WR S ρ k L W) {pl : List (Nat × Nat)} (hp : ∀ p ∈ pl, ρ.base ≤ p.1) : ρ.sub (ρ.adopt L.heap.size pl h.base.1 hp) :=
  ⟨fun b p hb => by show (if b < L.heap.size then ρ b else _) = _; rw [if_pos (h.lt b p.1 p.2 hb).1]; exact hb, rfl, fun _ _ _ => Iff.rfl, rfl⟩
theorem WR.retell (h : WR S ρ k L W) {pl : List (Nat × Nat)} {rows : List (List Value)} (hp : ∀ p ∈ pl, ρ.base ≤ p.1) (hlen : rows.length = pl.length) (hsz : L'.heap.size = L.heap.size + pl.length)
    (hk : ∀ b c s, ρ b = some (c, s) → (∀ a : Addr, a.block = c → (k.W (.cell a) → k'.W (.cell a)) ∧ (k.R (.cell a) → k'.R (.cell a))) ∧ (k.W (.obj c) → k'.W (.obj c)))
    (hnew : ∀ (j : Nat) vs, rows[j]? = some vs → L'.heap[L.heap.size + j]? = some (.cells vs.toArray ρ.bad (0, vs.length)))
    (hold : ∀ (b : Nat) o, L.heap[b]? = some o → ∃ o', L'.heap[b]? = some o' ∧ Told o o')
    (hWs : ∀ (c : Nat) o, W.heap[c]? = some o → ∃ o', W'.heap[c]? = some o' ∧ Alike o o') (hWz : W.heap.size ≤ W'.heap.size)
    (hcells : ∀ b c s x e fz, ρ b = some (c, s) → L'.heap[b]? = some (.cells x e fz) → ∀ (i : Nat) v, x[i]? = some v → ∃ v', W'.cell? ⟨c, s + i, none⟩ = some v' ∧ VR S (ρ.adopt L.heap.size pl h.base.1 hp) v v')
    (hchans : ∀ b c s n x cl sn rc t, ρ b = some (c, s) → L'.heap[b]? = some (.chan n x cl sn rc t) → ∃ x', W'.heap[c]? = some (.chan n x' cl sn rc t) ∧ VRs S (ρ.adopt L.heap.size pl h.base.1 hp) x x')
    (hobjs : ∀ b c s o, ρ b = some (c, s) → L.heap[b]? = some o → (∃ o', OR S ρ o o') → W'.heap[c]? = W.heap[c]? ∨ ∃ o', W'.heap[c]? = some o' ∧ OR S ρ o o')
    (hfar : ∀ p ∈ pl, W.heap.size ≤ p.1)
    (hadopt : ∀ (j c s : Nat) vs, pl[j]? = some (c, s) → rows[j]? = some vs → (∃ x e fz, W'.heap[c]? = some (.cells x e fz)) ∧ ∀ (i : Nat) v, vs[i]? = some v → ∃ v', W'.cell? ⟨c, s + i, none⟩ = some v' ∧ VR S (ρ.adopt L.heap.size pl h.base.1 hp) v v' ∧ (k'.W (.cell ⟨c, s + i, none⟩) ∨ k'.R (.cell ⟨c, s + i, none⟩))) :
    WR S (ρ.adopt L.heap.size pl h.base.1 hp) k' L' W' := by
  have hsub := adopt_sub h hp
  -- names
  have to : ∀ b c s, (ρ.adopt L.heap.size pl h.base.1 hp) b = some (c, s) → (b < L.heap.size ∧ ρ b = some (c, s)) ∨ ∃ j, b = L.heap.size + j ∧ pl[j]? = some (c, s) := fun b c s hb => by
    have hb' : (if b < L.heap.size then ρ b else pl[b - L.heap.size]?) = some (c, s) := hb
    by_cases e : b < L.heap.size
    · rw [if_pos e] at hb'; exact .inl ⟨e, hb'⟩
    · rw [if_neg e] at hb'; exact .inr ⟨b - L.heap.size, by omega, hb'⟩
  have hrow : ∀ (j c s : Nat), pl[j]? = some (c, s) → ∃ vs, rows[j]? = some vs := fun j c s hj => ⟨_, List.getElem?_eq_getElem (by rw [hlen]; exact (List.getElem?_eq_some_iff.1 hj).1)⟩
  have old : ∀ (b : Nat) o', L'.heap[b]? = some o' → b < L.heap.size → ∃ o, L.heap[b]? = some o ∧ Told o o' := fun b o' ho hb => by
    obtain ⟨o2, h1, h2⟩ := hold b _ (Array.getElem?_eq_getElem hb)
    rw [ho] at h1; cases h1
    exact ⟨_, Array.getElem?_eq_getElem hb, h2⟩
  have newC : ∀ (j : Nat) o', L'.heap[L.heap.size + j]? = some o' → ∃ vs, rows[j]? = some vs ∧ o' = .cells vs.toArray ρ.bad (0, vs.length) := fun j o' ho => by
    have hj : j < rows.length := by
      have := (Array.getElem?_eq_some_iff.1 ho).1
      omega
    have e := hnew j _ (List.getElem?_eq_getElem hj)
    rw [ho] at e
    exact ⟨_, List.getElem?_eq_getElem hj, Option.some.inj e⟩
  have split : ∀ (b : Nat) o', L'.heap[b]? = some o' → (b < L.heap.size ∧ ∃ o, L.heap[b]? = some o ∧ Told o o') ∨ ∃ j vs, b = L.heap.size + j ∧ rows[j]? = some vs ∧ o' = .cells vs.toArray ρ.bad (0, vs.length) := fun b o' ho => by
    rcases Nat.lt_or_ge b L.heap.size with hb | hb
    · exact .inl ⟨hb, old b o' ho hb⟩
    · obtain ⟨j, rfl⟩ := Nat.exists_eq_add_of_le hb
      obtain ⟨vs, h1, h2⟩ := newC j o' ho
      exact .inr ⟨j, vs, rfl, h1, h2⟩
  have inv : ∀ {w : World} {b i : Nat} {v : Value}, w.cell? ⟨b, i, none⟩ = some v → ∃ x e fz, w.heap[b]? = some (.cells x e fz) ∧ x[i]? = some v := fun {w b i v} hc => by
    unfold World.cell? at hc
    cases hb : w.heap[b]? with
    | none => simp [hb] at hc
    | some o => cases o with
      | cells x e fz => simp [hb] at hc; exact ⟨x, e, fz, rfl, hc⟩
      | _ => simp [hb] at hc
  -- the shape of an old row's block
  have shp : ∀ (c : Nat) x e fz, W.heap[c]? = some (.cells x e fz) → ∃ x1, W'.heap[c]? = some (.cells x1 e fz) ∧ x1.size = x.size := fun c x e fz hc => by
    obtain ⟨o', h1, h2⟩ := hWs c _ hc
    cases o' <;> simp [Alike] at h2
    · obtain ⟨h3, rfl, rfl⟩ := h2; exact ⟨_, h1, h3.symm⟩
  refine ⟨fun b o ho => ?_, ⟨by rw [hsz]; exact Nat.le_trans h.base.1 (Nat.le_add_right _ _), Nat.le_trans h.base.2 hWz⟩, fun b n x c s r t ho => ?_, fun b hb => ?_, fun b c s hb => ?_, fun b c s x e fz hb ho => ?_, fun b c s x e fz hb ho i v hv => ?_, fun b c s o hb ho hn => ?_, fun b c s o hb ho hor => ?_, fun b o hb ho hn => ?_, fun b b' c s s' x x' e e' fz fz' i i' h1 h2 h3 h4 h5 h6 h7 h8 => ?_, fun b b' c s s' o o' h1 h2 h3 h4 h5 h6 => ?_, fun b c s n x cl sn rc t hb ho => ?_⟩
  · rcases split b o ho with ⟨_, o0, ho0, ht⟩ | ⟨j, vs, _, _, rfl⟩
    · rcases h.kinds b o0 ho0 with ⟨x, e, f, rfl⟩ | ⟨o2, hor⟩ | ⟨n, x, c, s, r, t, rfl⟩
      · obtain ⟨x1, rfl, _⟩ := ht; exact .inl ⟨_, _, _, rfl⟩
      · have : o = o0 := by cases hor <;> exact ht
        subst this
        exact .inr (.inl ⟨o2, hor.sub hsub⟩)
      · obtain ⟨n1, x1, c1, s1, r1, t1, rfl⟩ := ht; exact .inr (.inr ⟨_, _, _, _, _, _, rfl⟩)
    · exact .inl ⟨_, _, _, rfl⟩
  · rcases split b _ ho with ⟨_, o0, ho0, ht⟩ | ⟨j, vs, _, _, e⟩
    · cases o0 with
      | cells x e f => obtain ⟨x1, e2, _⟩ := ht; cases e2
      | chan n x c s r t => exact h.chan b _ _ _ _ _ _ ho0
      | _ => cases ht
    · cases e
  · rw [hsz]
    rcases hb with hb | hb | hb
    · exact Nat.lt_of_lt_of_le (h.chanLt b (.inl hb)) (Nat.le_add_right _ _)
    · exact Nat.lt_of_lt_of_le (h.chanLt b (.inr hb)) (Nat.le_add_right _ _)
    · exact hb.2
  · rcases to b c s hb with ⟨h1, h2⟩ | ⟨j, rfl, hj⟩
    · exact ⟨by rw [hsz]; omega, Nat.lt_of_lt_of_le (h.lt b c s h2).2 hWz⟩
    · obtain ⟨vs, hvs⟩ := hrow j c s hj
      obtain ⟨⟨x, e, fz, hx⟩, _⟩ := hadopt j c s vs hj hvs
      exact ⟨by rw [hsz]; have := (List.getElem?_eq_some_iff.1 hj).1; omega, (Array.getElem?_eq_some_iff.1 hx).1⟩
  · rcases to b c s hb with ⟨h1, h2⟩ | ⟨j, rfl, hj⟩
    · obtain ⟨o0, ho0, ht⟩ := old b _ ho h1
      obtain ⟨x0, rfl, hx0⟩ := ht.cells rfl
      obtain ⟨x', e', fz', g1, g2⟩ := h.shapes b c s x0 e fz h2 ho0
      obtain ⟨x1, g3, g4⟩ := shp c x' e' fz' g1
      refine ⟨x1, e', fz', g3, g2.imp (fun g => ⟨fun hx => hx.elim g.1 (fun y => by omega), g.2.1, by rw [g4, g.2.2.1, hx0], g.2.2.2⟩) fun g => ⟨.inl g.1, g.2⟩⟩
    · obtain ⟨vs, hvs⟩ := hrow j c s hj
      obtain ⟨⟨x1, e1, fz1, hx⟩, _⟩ := hadopt j c s vs hj hvs
      obtain ⟨vs2, hv2, e2⟩ := newC j _ ho
      cases e2
      exact ⟨x1, e1, fz1, hx, .inr ⟨.inr ⟨Nat.le_add_right _ _, by have := (List.getElem?_eq_some_iff.1 hj).1; omega⟩, rfl⟩⟩
  · rcases to b c s hb with ⟨h1, h2⟩ | ⟨j, rfl, hj⟩
    · obtain ⟨o0, ho0, ht⟩ := old b _ ho h1
      obtain ⟨x0, rfl, hx0⟩ := ht.cells rfl
      have hi : i < x0.size := by rw [← hx0]; exact (Array.getElem?_eq_some_iff.1 hv).1
      obtain ⟨x', e', fz', v0, g1, g2, g3, g4, g5⟩ := h.cells b c s x0 e fz h2 ho0 i x0[i] (Array.getElem?_eq_getElem hi)
      obtain ⟨v', q1, q2⟩ := hcells b c s x e fz h2 ho i v hv
      obtain ⟨x1, e1, fz1, q3, q4⟩ := inv q1
      obtain ⟨x2, q5, _⟩ := shp c x' e' fz' g1
      rw [q3] at q5
      cases q5
      have hkb := (hk b c s h2).1 ⟨c, s + i, none⟩ rfl
      exact ⟨x1, _, _, v', q3, q4, q2, g4.imp hkb.1 hkb.2, fun hn => ⟨hkb.1 (g5 hn).1, (g5 hn).2⟩⟩
    · obtain ⟨vs, hvs⟩ := hrow j c s hj
      obtain ⟨⟨x1, e1, fz1, hx⟩, hc⟩ := hadopt j c s vs hj hvs
      obtain ⟨vs2, hv2, e2⟩ := newC j _ ho
      cases e2
      rw [hvs] at hv2
      cases hv2
      have hv' : vs[i]? = some v := by simpa using hv
      obtain ⟨v', q1, q2, q3⟩ := hc i v hv'
      obtain ⟨x2, e2, fz2, q4, q5⟩ := inv q1
      exact ⟨x2, e2, fz2, v', q4, q5, q2, q3, fun hn => absurd ⟨Nat.zero_le _, (List.getElem?_eq_some_iff.1 hv').1⟩ hn⟩
  · rcases to b c s hb with ⟨h1, h2⟩ | ⟨j, rfl, hj⟩
    · obtain ⟨o0, ho0, ht⟩ := old b _ ho h1
      obtain ⟨g1, o2, g2, g3⟩ := h.others b c s o0 h2 ho0 (ht.not hn)
      obtain ⟨o3, g4, g5⟩ := hWs c o2 g2
      exact ⟨g1, o3, g4, g5.not g3⟩
    · obtain ⟨vs2, _, e2⟩ := newC j _ ho
      exact absurd e2 (hn _ _ _)
  · rcases to b c s hb with ⟨h1, h2⟩ | ⟨j, rfl, hj⟩
    · obtain ⟨o0, ho0, ht⟩ := old b _ ho h1
      have hoo : o = o0 := by
        obtain ⟨o', hor⟩ := hor
        cases o0 with
        | cells x e f => obtain ⟨x1, rfl, _⟩ := ht; cases hor
        | chan n x c s r t => obtain ⟨_, _, _, _, _, _, rfl⟩ := ht; cases hor
        | _ => exact ht
      subst hoo
      have hor0 : ∃ o', OR S ρ o o' := by
        rcases h.kinds b o ho0 with ⟨x, e, f, rfl⟩ | h2 | ⟨n, x, c, s, r, t, rfl⟩
        · obtain ⟨_, hx⟩ := hor; cases hx
        · exact h2
        · obtain ⟨_, hx⟩ := hor; cases hx
      obtain ⟨g1, o2, g2, g3, g4⟩ := h.objs b c s o h2 ho0 hor0
      rcases hobjs b c s o h2 ho0 hor0 with h9 | ⟨o9, h9, h10⟩
      · exact ⟨g1, o2, h9.trans g2, g3.sub hsub, (hk b c s h2).2 g4⟩
      · exact ⟨g1, o9, h9, h10.sub hsub, (hk b c s h2).2 g4⟩
    · obtain ⟨vs2, _, e2⟩ := newC j _ ho
      obtain ⟨o', hx⟩ := hor
      subst e2
      cases hx
  · rcases split b o ho with ⟨_, o0, ho0, ht⟩ | ⟨j, vs, _, _, rfl⟩
    · obtain ⟨o2, hor⟩ := h.owns b o0 hb ho0 (ht.not hn)
      have : o = o0 := by cases hor <;> exact ht
      subst this
      exact ⟨o2, hor.sub hsub⟩
    · exact absurd rfl (hn _ _ _)
  · rcases to b c s h1 with ⟨p1, p2⟩ | ⟨j, rfl, hj⟩
    · rcases to b' c s' h2 with ⟨p3, p4⟩ | ⟨j', rfl, hj'⟩
      · obtain ⟨o0, ho0, ht⟩ := old b _ h3 p1
        obtain ⟨x0, rfl, hx0⟩ := ht.cells rfl
        obtain ⟨o1, ho1, ht1⟩ := old b' _ h4 p3
        obtain ⟨x1, rfl, hx1⟩ := ht1.cells rfl
        exact h.apart b b' c s s' x0 x1 e e' fz fz' i i' p2 p4 ho0 ho1 (by omega) (by omega) h7 h8
      · have := hfar _ (List.mem_of_getElem? hj')
        have := (h.lt b c s p2).2
        simp only at *
        omega
    · obtain ⟨vs2, _, e2⟩ := newC j _ h3
      cases e2
      exact absurd ⟨Nat.zero_le _, by simpa using h5⟩ h8
  · rcases to b c s h1 with ⟨p1, p2⟩ | ⟨j, rfl, hj⟩
    · rcases to b' c s' h2 with ⟨p3, p4⟩ | ⟨j', rfl, hj'⟩
      · obtain ⟨o0, ho0, ht⟩ := old b _ h3 p1
        obtain ⟨o1, ho1, ht1⟩ := old b' _ h4 p3
        exact h.apartO b b' c s s' o0 o1 p2 p4 ho0 ho1 (ht.not h5) (ht1.not h6)
      · obtain ⟨vs2, _, e2⟩ := newC j' _ h4
        exact absurd e2 (h6 _ _ _)
    · obtain ⟨vs2, _, e2⟩ := newC j _ h3
      exact absurd e2 (h5 _ _ _)
  · rcases to b c s hb with ⟨h1, h2⟩ | ⟨j, rfl, hj⟩
    · obtain ⟨x', q1, q2⟩ := hchans b c s n x cl sn rc t h2 ho
      obtain ⟨o0, ho0, ht⟩ := old b _ ho h1
      cases o0 with
      | cells x e f => obtain ⟨x1, e2, _⟩ := ht; cases e2
      | chan n0 x0 c0 s0 r0 t0 =>
        obtain ⟨_, _, _, g⟩ := h.chans b c s _ _ _ _ _ _ h2 ho0
        exact ⟨x', q1, q2, (hk b c s h2).2 g⟩
      | _ => cases ht
    · obtain ⟨vs2, _, e2⟩ := newC j _ ho
      cases e2
end
end Go.Proofs.Yticdjkkcfdbdcaa
