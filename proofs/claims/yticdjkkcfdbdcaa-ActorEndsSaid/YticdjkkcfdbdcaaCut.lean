/- Channels of goroutine 0's own in the mirrored world: made, sent to where there is room, closed, their length asked; and a region of drawn order, told of the lone world. No program; no conditions but those named. -/
import Derived.Test.YticdjkkcfdbdcaaDrawE
import Derived.Conc.CrowdComm
namespace Go.Proofs.Yticdjkkcfdbdcaa
open Go.Conc Go.ConcN
section
variable {S : FnSet} {ρ : Ren} {k : LK} {L W : World}
theorem OR.sub {ρ ρ' : Ren} {o o' : Obj} (h : OR S ρ o o') (hr : ρ.sub ρ') : OR S ρ' o o' := by
  cases h with
  | map clock se he => exact .map clock se fun i e e' h1 h2 => ⟨(he i e e' h1 h2).1.sub hr, (he i e e' h1 h2).2.1.sub hr, (he i e e' h1 h2).2.2⟩
  | stringIter s pos => exact .stringIter s pos
  | number h lost => exact .number (h.sub hr) lost
end
section
variable {S : FnSet} {P : Program} {J : LK → Goroutine → World → Prop} {main : Bool} {R : LK → World → World → Prop}
theorem MpOps.valH (hJ : JOk P main R J) (hb : Bodies S P) {fn : FuncId} {ops : Array Oper} {i : Nat} {rest : List Nat} {o : Oper} {up : Bool} {Q : Exit → Act → World → Prop} {a : Act} {L : World} {v : Value} (ho : ops[i]? = some o) (hw : Region.wanted o (yielded ops a.tmps) = true) (hok : okOp S P o.op)
    (hop : ∀ w : World, w.heap = L.heap → (execOp a.eval o).run P w = .ok (.value v) w) (h : MpOps S P J fn ops rest up Q (a.put o.dst v) L) : MpOps S P J fn ops (i :: rest) up Q a L :=
  MpOps.op hJ hb ho hw hok fun T => ⟨{ L with tape := T }, .inl ⟨v, hop _ rfl, MpOps.tape (L := L) (L' := { L with tape := T }) rfl h⟩⟩
theorem MpOps.val' (hJ : JOk P main R J) (hb : Bodies S P) {fn : FuncId} {ops : Array Oper} {i : Nat} {rest : List Nat} {o : Oper} {up : Bool} {Q : Exit → Act → World → Prop} {a : Act} {L : World} {v : Value} (ho : ops[i]? = some o) (hw : Region.wanted o (yielded ops a.tmps) = true) (hok : okOp S P o.op)
    (hop : ∀ w, (execOp a.eval o).run P w = .ok (.value v) w) (h : MpOps S P J fn ops rest up Q (a.put o.dst v) L) : MpOps S P J fn ops (i :: rest) up Q a L := MpOps.valH hJ hb ho hw hok (fun w _ => hop w) h
theorem MpOps.new (hJ : JOk P main R J) (hb : Bodies S P) {fn : FuncId} {ops : Array Oper} {i : Nat} {rest : List Nat} {o : Oper} {up : Bool} {Q : Exit → Act → World → Prop} {a : Act} {L : World} {v : Value} {x : Obj} (ho : ops[i]? = some o) (hw : Region.wanted o (yielded ops a.tmps) = true) (hok : okOp S P o.op)
    (hop : ∀ w : World, w.heap.size = L.heap.size → (execOp a.eval o).run P w = .ok (.value v) (w.alloc x)) (h : MpOps S P J fn ops rest up Q (a.put o.dst v) (L.alloc x)) : MpOps S P J fn ops (i :: rest) up Q a L :=
  MpOps.op hJ hb ho hw hok fun T => ⟨({ L with tape := T } : World).alloc x, .inl ⟨v, hop _ rfl, MpOps.tape (L := L.alloc x) rfl h⟩⟩
end
end Go.Proofs.Yticdjkkcfdbdcaa

/- Behind a join: rows and channels told anew, and blocks of the company's taken into the lone world. No program; no conditions but those named. -/
namespace Go.Proofs.Yticdjkkcfdbdcaa
open Go.Conc Go.ConcN
/-- New names, behind the old ones. -/
def Ren.adopt (ρ : Ren) (N : Nat) (pl : List (Nat × Nat)) (hN : ρ.base ≤ N) (hp : ∀ p ∈ pl, ρ.base ≤ p.1) : Ren where
  to := fun b => if b < N then ρ b else pl[b - N]?
  base := ρ.base
  own := ρ.own
  isChan := ρ.isChan
  bad := ρ.bad
  part := fun b => ρ.part b ∨ (N ≤ b ∧ b < N + pl.length)
  ok := fun b p h => by
    by_cases e : b < N
    · rw [if_pos e] at h; exact ρ.ok b p h
    · rw [if_neg e] at h; exact ⟨by omega, hp p (List.mem_of_getElem? h)⟩
/-- One object told anew: a row's cells, a channel's content. -/
def Told : Obj → Obj → Prop
  | .cells x e fz, o => ∃ x1, o = .cells x1 e fz ∧ x1.size = x.size
  | .chan _ _ _ _ _ _, o => ∃ n x cl s r t, o = .chan n x cl s r t
  | o, o' => o' = o
theorem Told.cells {o o' : Obj} (h : Told o o') {x : Array Value} {e : TypeId} {fz : Nat × Nat} (ho : o' = .cells x e fz) : ∃ x0, o = .cells x0 e fz ∧ x.size = x0.size := by
  subst ho
  cases o with
  | cells x0 e0 f0 => obtain ⟨x1, he, hs⟩ := h; cases he; exact ⟨x0, rfl, hs⟩
  | chan n x c s r t => obtain ⟨_, _, _, _, _, _, he⟩ := h; cases he
  | _ => cases h
theorem Told.not {o o' : Obj} (h : Told o o') (hn : NotCells o') : NotCells o := by
  cases o with
  | cells x e fz => obtain ⟨x1, rfl, _⟩ := h; exact absurd rfl (hn _ _ _)
  | _ => intro c e f he; cases he
section
variable {S : FnSet} {ρ : Ren} {k k' : LK} {L L' W W' : World}
theorem adopt_sub (h : WR S ρ k L W) {pl : List (Nat × Nat)} (hp : ∀ p ∈ pl, ρ.base ≤ p.1) : ρ.sub (ρ.adopt L.heap.size pl h.base.1 hp) :=
  ⟨fun b p hb => by show (if b < L.heap.size then ρ b else _) = _; rw [if_pos (h.lt b p.1 p.2 hb).1]; exact hb, rfl, fun _ _ _ => Iff.rfl, rfl⟩
theorem WR.retell (h : WR S ρ k L W) {pl : List (Nat × Nat)} {rows : List (List Value)} (hp : ∀ p ∈ pl, ρ.base ≤ p.1) (hlen : rows.length = pl.length) (hsz : L'.heap.size = L.heap.size + pl.length)
    (hk : ∀ b c s, ρ b = some (c, s) → (∀ a : Addr, a.block = c → (k.W (.cell a) → k'.W (.cell a)) ∧ (k.R (.cell a) → k'.R (.cell a))) ∧ (k.W (.obj c) → k'.W (.obj c)))
    (hnew : ∀ (j : Nat) vs, rows[j]? = some vs → L'.heap[L.heap.size + j]? = some (.cells vs.toArray ρ.bad (0, vs.length)))
    (hold : ∀ (b : Nat) o, L.heap[b]? = some o → ∃ o', L'.heap[b]? = some o' ∧ Told o o')
    (hWs : ∀ (c : Nat) o, W.heap[c]? = some o → ∃ o', W'.heap[c]? = some o' ∧ Alike o o') (hWz : W.heap.size ≤ W'.heap.size)
    (hcells : ∀ b c s x e fz, ρ b = some (c, s) → L'.heap[b]? = some (.cells x e fz) → ∀ (i : Nat) v, x[i]? = some v → ∃ v', W'.cell? ⟨c, s + i, none⟩ = some v' ∧ VR S (ρ.adopt L.heap.size pl h.base.1 hp) v v')
    (hchans : ∀ b c s n x cl sn rc t, ρ b = some (c, s) → L'.heap[b]? = some (.chan n x cl sn rc t) → ∃ x', W'.heap[c]? = some (.chan n x' cl sn rc t) ∧ VRs S (ρ.adopt L.heap.size pl h.base.1 hp) x x')
    (hobjs : ∀ b c s o, ρ b = some (c, s) → L.heap[b]? = some o → (∃ o', OR S ρ o o') → W'.heap[c]? = W.heap[c]? ∨ ∃ o', W'.heap[c]? = some o' ∧ OR S ρ o o')
    (hfar : ∀ p ∈ pl, W.heap.size ≤ p.1)
    (hadopt : ∀ (j c s : Nat) vs, pl[j]? = some (c, s) → rows[j]? = some vs → (∃ x e fz, W'.heap[c]? = some (.cells x e fz)) ∧ ∀ (i : Nat) v, vs[i]? = some v → ∃ v', W'.cell? ⟨c, s + i, none⟩ = some v' ∧ VR S (ρ.adopt L.heap.size pl h.base.1 hp) v v' ∧ (k'.W (.cell ⟨c, s + i, none⟩) ∨ k'.R (.cell ⟨c, s + i, none⟩))) :
    WR S (ρ.adopt L.heap.size pl h.base.1 hp) k' L' W' := by
  have hsub := adopt_sub h hp
  -- names
  have to : ∀ b c s, (ρ.adopt L.heap.size pl h.base.1 hp) b = some (c, s) → (b < L.heap.size ∧ ρ b = some (c, s)) ∨ ∃ j, b = L.heap.size + j ∧ pl[j]? = some (c, s) := fun b c s hb => by
    have hb' : (if b < L.heap.size then ρ b else pl[b - L.heap.size]?) = some (c, s) := hb
    by_cases e : b < L.heap.size
    · rw [if_pos e] at hb'; exact .inl ⟨e, hb'⟩
    · rw [if_neg e] at hb'; exact .inr ⟨b - L.heap.size, by omega, hb'⟩
  have hrow : ∀ (j c s : Nat), pl[j]? = some (c, s) → ∃ vs, rows[j]? = some vs := fun j c s hj => ⟨_, List.getElem?_eq_getElem (by rw [hlen]; exact (List.getElem?_eq_some_iff.1 hj).1)⟩
  have old : ∀ (b : Nat) o', L'.heap[b]? = some o' → b < L.heap.size → ∃ o, L.heap[b]? = some o ∧ Told o o' := fun b o' ho hb => by
    obtain ⟨o2, h1, h2⟩ := hold b _ (Array.getElem?_eq_getElem hb)
    rw [ho] at h1; cases h1
    exact ⟨_, Array.getElem?_eq_getElem hb, h2⟩
  have newC : ∀ (j : Nat) o', L'.heap[L.heap.size + j]? = some o' → ∃ vs, rows[j]? = some vs ∧ o' = .cells vs.toArray ρ.bad (0, vs.length) := fun j o' ho => by
    have hj : j < rows.length := by
      have := (Array.getElem?_eq_some_iff.1 ho).1
      omega
    have e := hnew j _ (List.getElem?_eq_getElem hj)
    rw [ho] at e
    exact ⟨_, List.getElem?_eq_getElem hj, Option.some.inj e⟩
  have split : ∀ (b : Nat) o', L'.heap[b]? = some o' → (b < L.heap.size ∧ ∃ o, L.heap[b]? = some o ∧ Told o o') ∨ ∃ j vs, b = L.heap.size + j ∧ rows[j]? = some vs ∧ o' = .cells vs.toArray ρ.bad (0, vs.length) := fun b o' ho => by
    rcases Nat.lt_or_ge b L.heap.size with hb | hb
    · exact .inl ⟨hb, old b o' ho hb⟩
    · obtain ⟨j, rfl⟩ := Nat.exists_eq_add_of_le hb
      obtain ⟨vs, h1, h2⟩ := newC j o' ho
      exact .inr ⟨j, vs, rfl, h1, h2⟩
  have inv : ∀ {w : World} {b i : Nat} {v : Value}, w.cell? ⟨b, i, none⟩ = some v → ∃ x e fz, w.heap[b]? = some (.cells x e fz) ∧ x[i]? = some v := fun {w b i v} hc => by
    unfold World.cell? at hc
    cases hb : w.heap[b]? with
    | none => simp [hb] at hc
    | some o => cases o with
      | cells x e fz => simp [hb] at hc; exact ⟨x, e, fz, rfl, hc⟩
      | _ => simp [hb] at hc
  -- the shape of an old row's block
  have shp : ∀ (c : Nat) x e fz, W.heap[c]? = some (.cells x e fz) → ∃ x1, W'.heap[c]? = some (.cells x1 e fz) ∧ x1.size = x.size := fun c x e fz hc => by
    obtain ⟨o', h1, h2⟩ := hWs c _ hc
    cases o' <;> simp [Alike] at h2
    · obtain ⟨h3, rfl, rfl⟩ := h2; exact ⟨_, h1, h3.symm⟩
  refine ⟨fun b o ho => ?_, ⟨by rw [hsz]; exact Nat.le_trans h.base.1 (Nat.le_add_right _ _), Nat.le_trans h.base.2 hWz⟩, fun b n x c s r t ho => ?_, fun b hb => ?_, fun b c s hb => ?_, fun b c s x e fz hb ho => ?_, fun b c s x e fz hb ho i v hv => ?_, fun b c s o hb ho hn => ?_, fun b c s o hb ho hor => ?_, fun b o hb ho hn => ?_, fun b b' c s s' x x' e e' fz fz' i i' h1 h2 h3 h4 h5 h6 h7 h8 => ?_, fun b b' c s s' o o' h1 h2 h3 h4 h5 h6 => ?_, fun b c s n x cl sn rc t hb ho => ?_⟩
  · rcases split b o ho with ⟨_, o0, ho0, ht⟩ | ⟨j, vs, _, _, rfl⟩
    · rcases h.kinds b o0 ho0 with ⟨x, e, f, rfl⟩ | ⟨o2, hor⟩ | ⟨n, x, c, s, r, t, rfl⟩
      · obtain ⟨x1, rfl, _⟩ := ht; exact .inl ⟨_, _, _, rfl⟩
      · have : o = o0 := by cases hor <;> exact ht
        subst this
        exact .inr (.inl ⟨o2, hor.sub hsub⟩)
      · obtain ⟨n1, x1, c1, s1, r1, t1, rfl⟩ := ht; exact .inr (.inr ⟨_, _, _, _, _, _, rfl⟩)
    · exact .inl ⟨_, _, _, rfl⟩
  · rcases split b _ ho with ⟨_, o0, ho0, ht⟩ | ⟨j, vs, _, _, e⟩
    · cases o0 with
      | cells x e f => obtain ⟨x1, e2, _⟩ := ht; cases e2
      | chan n x c s r t => exact h.chan b _ _ _ _ _ _ ho0
      | _ => cases ht
    · cases e
  · rw [hsz]
    rcases hb with hb | hb | hb
    · exact Nat.lt_of_lt_of_le (h.chanLt b (.inl hb)) (Nat.le_add_right _ _)
    · exact Nat.lt_of_lt_of_le (h.chanLt b (.inr hb)) (Nat.le_add_right _ _)
    · exact hb.2
  · rcases to b c s hb with ⟨h1, h2⟩ | ⟨j, rfl, hj⟩
    · exact ⟨by rw [hsz]; omega, Nat.lt_of_lt_of_le (h.lt b c s h2).2 hWz⟩
    · obtain ⟨vs, hvs⟩ := hrow j c s hj
      obtain ⟨⟨x, e, fz, hx⟩, _⟩ := hadopt j c s vs hj hvs
      exact ⟨by rw [hsz]; have := (List.getElem?_eq_some_iff.1 hj).1; omega, (Array.getElem?_eq_some_iff.1 hx).1⟩
  · rcases to b c s hb with ⟨h1, h2⟩ | ⟨j, rfl, hj⟩
    · obtain ⟨o0, ho0, ht⟩ := old b _ ho h1
      obtain ⟨x0, rfl, hx0⟩ := ht.cells rfl
      obtain ⟨x', e', fz', g1, g2⟩ := h.shapes b c s x0 e fz h2 ho0
      obtain ⟨x1, g3, g4⟩ := shp c x' e' fz' g1
      refine ⟨x1, e', fz', g3, g2.imp (fun g => ⟨fun hx => hx.elim g.1 (fun y => by omega), g.2.1, by rw [g4, g.2.2.1, hx0], g.2.2.2⟩) fun g => ⟨.inl g.1, g.2⟩⟩
    · obtain ⟨vs, hvs⟩ := hrow j c s hj
      obtain ⟨⟨x1, e1, fz1, hx⟩, _⟩ := hadopt j c s vs hj hvs
      obtain ⟨vs2, hv2, e2⟩ := newC j _ ho
      cases e2
      exact ⟨x1, e1, fz1, hx, .inr ⟨.inr ⟨Nat.le_add_right _ _, by have := (List.getElem?_eq_some_iff.1 hj).1; omega⟩, rfl⟩⟩
  · rcases to b c s hb with ⟨h1, h2⟩ | ⟨j, rfl, hj⟩
    · obtain ⟨o0, ho0, ht⟩ := old b _ ho h1
      obtain ⟨x0, rfl, hx0⟩ := ht.cells rfl
      have hi : i < x0.size := by rw [← hx0]; exact (Array.getElem?_eq_some_iff.1 hv).1
      obtain ⟨x', e', fz', v0, g1, g2, g3, g4, g5⟩ := h.cells b c s x0 e fz h2 ho0 i x0[i] (Array.getElem?_eq_getElem hi)
      obtain ⟨v', q1, q2⟩ := hcells b c s x e fz h2 ho i v hv
      obtain ⟨x1, e1, fz1, q3, q4⟩ := inv q1
      obtain ⟨x2, q5, _⟩ := shp c x' e' fz' g1
      rw [q3] at q5
      cases q5
      have hkb := (hk b c s h2).1 ⟨c, s + i, none⟩ rfl
      exact ⟨x1, _, _, v', q3, q4, q2, g4.imp hkb.1 hkb.2, fun hn => ⟨hkb.1 (g5 hn).1, (g5 hn).2⟩⟩
    · obtain ⟨vs, hvs⟩ := hrow j c s hj
      obtain ⟨⟨x1, e1, fz1, hx⟩, hc⟩ := hadopt j c s vs hj hvs
      obtain ⟨vs2, hv2, e2⟩ := newC j _ ho
      cases e2
      rw [hvs] at hv2
      cases hv2
      have hv' : vs[i]? = some v := by simpa using hv
      obtain ⟨v', q1, q2, q3⟩ := hc i v hv'
      obtain ⟨x2, e2, fz2, q4, q5⟩ := inv q1
      exact ⟨x2, e2, fz2, v', q4, q5, q2, q3, fun hn => absurd ⟨Nat.zero_le _, (List.getElem?_eq_some_iff.1 hv').1⟩ hn⟩
  · rcases to b c s hb with ⟨h1, h2⟩ | ⟨j, rfl, hj⟩
    · obtain ⟨o0, ho0, ht⟩ := old b _ ho h1
      obtain ⟨g1, o2, g2, g3⟩ := h.others b c s o0 h2 ho0 (ht.not hn)
      obtain ⟨o3, g4, g5⟩ := hWs c o2 g2
      exact ⟨g1, o3, g4, g5.not g3⟩
    · obtain ⟨vs2, _, e2⟩ := newC j _ ho
      exact absurd e2 (hn _ _ _)
  · rcases to b c s hb with ⟨h1, h2⟩ | ⟨j, rfl, hj⟩
    · obtain ⟨o0, ho0, ht⟩ := old b _ ho h1
      have hoo : o = o0 := by
        obtain ⟨o', hor⟩ := hor
        cases o0 with
        | cells x e f => obtain ⟨x1, rfl, _⟩ := ht; cases hor
        | chan n x c s r t => obtain ⟨_, _, _, _, _, _, rfl⟩ := ht; cases hor
        | _ => exact ht
      subst hoo
      have hor0 : ∃ o', OR S ρ o o' := by
        rcases h.kinds b o ho0 with ⟨x, e, f, rfl⟩ | h2 | ⟨n, x, c, s, r, t, rfl⟩
        · obtain ⟨_, hx⟩ := hor; cases hx
        · exact h2
        · obtain ⟨_, hx⟩ := hor; cases hx
      obtain ⟨g1, o2, g2, g3, g4⟩ := h.objs b c s o h2 ho0 hor0
      rcases hobjs b c s o h2 ho0 hor0 with h9 | ⟨o9, h9, h10⟩
      · exact ⟨g1, o2, h9.trans g2, g3.sub hsub, (hk b c s h2).2 g4⟩
      · exact ⟨g1, o9, h9, h10.sub hsub, (hk b c s h2).2 g4⟩
    · obtain ⟨vs2, _, e2⟩ := newC j _ ho
      obtain ⟨o', hx⟩ := hor
      subst e2
      cases hx
  · rcases split b o ho with ⟨_, o0, ho0, ht⟩ | ⟨j, vs, _, _, rfl⟩
    · obtain ⟨o2, hor⟩ := h.owns b o0 hb ho0 (ht.not hn)
      have : o = o0 := by cases hor <;> exact ht
      subst this
      exact ⟨o2, hor.sub hsub⟩
    · exact absurd rfl (hn _ _ _)
  · rcases to b c s h1 with ⟨p1, p2⟩ | ⟨j, rfl, hj⟩
    · rcases to b' c s' h2 with ⟨p3, p4⟩ | ⟨j', rfl, hj'⟩
      · obtain ⟨o0, ho0, ht⟩ := old b _ h3 p1
        obtain ⟨x0, rfl, hx0⟩ := ht.cells rfl
        obtain ⟨o1, ho1, ht1⟩ := old b' _ h4 p3
        obtain ⟨x1, rfl, hx1⟩ := ht1.cells rfl
        exact h.apart b b' c s s' x0 x1 e e' fz fz' i i' p2 p4 ho0 ho1 (by omega) (by omega) h7 h8
      · have := hfar _ (List.mem_of_getElem? hj')
        have := (h.lt b c s p2).2
        simp only at *
        omega
    · obtain ⟨vs2, _, e2⟩ := newC j _ h3
      cases e2
      exact absurd ⟨Nat.zero_le _, by simpa using h5⟩ h8
  · rcases to b c s h1 with ⟨p1, p2⟩ | ⟨j, rfl, hj⟩
    · rcases to b' c s' h2 with ⟨p3, p4⟩ | ⟨j', rfl, hj'⟩
      · obtain ⟨o0, ho0, ht⟩ := old b _ h3 p1
        obtain ⟨o1, ho1, ht1⟩ := old b' _ h4 p3
        exact h.apartO b b' c s s' o0 o1 p2 p4 ho0 ho1 (ht.not h5) (ht1.not h6)
      · obtain ⟨vs2, _, e2⟩ := newC j' _ h4
        exact absurd e2 (h6 _ _ _)
    · obtain ⟨vs2, _, e2⟩ := newC j _ h3
      exact absurd e2 (h5 _ _ _)
  · rcases to b c s hb with ⟨h1, h2⟩ | ⟨j, rfl, hj⟩
    · obtain ⟨x', q1, q2⟩ := hchans b c s n x cl sn rc t h2 ho
      obtain ⟨o0, ho0, ht⟩ := old b _ ho h1
      cases o0 with
      | cells x e f => obtain ⟨x1, e2, _⟩ := ht; cases e2
      | chan n0 x0 c0 s0 r0 t0 =>
        obtain ⟨_, _, _, g⟩ := h.chans b c s _ _ _ _ _ _ h2 ho0
        exact ⟨x', q1, q2, (hk b c s h2).2 g⟩
      | _ => cases ht
    · obtain ⟨vs2, _, e2⟩ := newC j _ ho
      cases e2
end
end Go.Proofs.Yticdjkkcfdbdcaa

/- A lone world cut down: of its blocks some objects and, to be read, some rows' beginnings; of one row a part, to be written. No program; no conditions but those named. -/
namespace Go.Proofs.Yticdjkkcfdbdcaa
open Go.Conc Go.ConcN
/-- The names of the blocks that are kept (K: how much of a row). -/
def Ren.only (ρ : Ren) (K : Nat → Option Nat) : Ren where
  to := fun b => if (K b).isSome = true then ρ b else none
  base := ρ.base
  own := ρ.own
  isChan := ρ.isChan
  bad := ρ.bad
  part := ρ.part
  ok := fun b p h => by
    by_cases e2 : (K b).isSome = true
    · rw [if_pos e2] at h; exact ρ.ok b p h
    · rw [if_neg e2] at h; cases h
/-- .. and of block g's row from cell sh on. -/
def Ren.cut (ρ : Ren) (K : Nat → Option Nat) (g sh : Nat) (H : Array Obj) : Ren where
  to := fun b => if b = g then (ρ b).map fun p => (p.1, p.2 + sh) else if (K b).isSome = true then ρ b else none
  base := ρ.base
  own := ρ.own
  isChan := ρ.isChan
  bad := ρ.bad
  part := fun b => (ρ.part b ∨ b = g ∨ (K b).isSome = true) ∧ b < H.size
  ok := fun b p h => by
    by_cases e : b = g
    · rw [if_pos e] at h
      obtain ⟨q, h1, rfl⟩ := Option.map_eq_some_iff.1 h
      exact ρ.ok b q h1
    · rw [if_neg e] at h
      by_cases e2 : (K b).isSome = true
      · rw [if_pos e2] at h; exact ρ.ok b p h
      · rw [if_neg e2] at h; cases h
def rowOf : Obj → Array Value
  | .cells x _ _ => x
  | _ => #[]
def cutO (K : Nat → Option Nat) (g sh n : Nat) (bad : TypeId) (b : Nat) (o : Obj) : Obj :=
  if b = g then .cells ((rowOf o).extract sh (sh + n)) bad (0, 0) else match K b, o with
    | some m, .cells x _ _ => .cells (x.extract 0 m) bad (0, m)
    | some _, o => o
    | none, _ => .cells #[] bad (0, 0)
def cutW (K : Nat → Option Nat) (g sh n : Nat) (bad : TypeId) (L : World) : World := { L with heap := L.heap.mapIdx (cutO K g sh n bad) }
section
variable {S : FnSet} {ρ : Ren} {k k' : LK} {L W : World} {K : Nat → Option Nat} {g sh n : Nat}
theorem cutW_at (K : Nat → Option Nat) (g sh n : Nat) (bad : TypeId) (L : World) (b : Nat) : (cutW K g sh n bad L).heap[b]? = (L.heap[b]?).map (cutO K g sh n bad b) := by simp [cutW]
theorem cutW_size (K : Nat → Option Nat) (g sh n : Nat) (bad : TypeId) (L : World) : (cutW K g sh n bad L).heap.size = L.heap.size := by simp [cutW]
theorem cutW_obj {bad : TypeId} {b m : Nat} {o : Obj} (hK : K b = some m) (hg : b ≠ g) (ho : L.heap[b]? = some o) (hn : NotCells o) : (cutW K g sh n bad L).heap[b]? = some o := by
  rw [cutW_at, ho]
  cases o with
  | cells x e f => exact absurd rfl (hn _ _ _)
  | _ => simp [cutO, hg, hK]
theorem cutW_row {bad : TypeId} {b m : Nat} {x : Array Value} {e : TypeId} {fz : Nat × Nat} (hK : K b = some m) (hg : b ≠ g) (ho : L.heap[b]? = some (.cells x e fz)) : (cutW K g sh n bad L).heap[b]? = some (.cells (x.extract 0 m) bad (0, m)) := by
  rw [cutW_at, ho]
  simp [cutO, hg, hK]
theorem cutW_g {bad e : TypeId} {x : Array Value} {fz : Nat × Nat} (h : L.heap[g]? = some (.cells x e fz)) : (cutW K g sh n bad L).heap[g]? = some (.cells (x.extract sh (sh + n)) bad (0, 0)) := by
  rw [cutW_at, h]
  simp [cutO, rowOf]
theorem Ren.cut_g {p : Nat × Nat} {H : Array Obj} (h : ρ g = some p) : (ρ.cut K g sh H) g = some (p.1, p.2 + sh) := by
  show (if g = g then _ else _) = _
  rw [if_pos rfl, h]; rfl
theorem Ren.cut_keep {b : Nat} {H : Array Obj} (hK : (K b).isSome = true) (hg : b ≠ g) : (ρ.cut K g sh H) b = ρ b := by
  show (if b = g then _ else _) = _
  rw [if_neg hg, if_pos hK]
theorem Ren.cut_to {b : Nat} {p : Nat × Nat} {H : Array Obj} (h : (ρ.cut K g sh H) b = some p) : (b = g ∧ ∃ q, ρ g = some q ∧ p = (q.1, q.2 + sh)) ∨ (b ≠ g ∧ (K b).isSome = true ∧ ρ b = some p) := by
  have h' : (if b = g then (ρ b).map fun p => (p.1, p.2 + sh) else if (K b).isSome = true then ρ b else none) = some p := h
  by_cases e : b = g
  · rw [if_pos e] at h'
    obtain ⟨q, h1, rfl⟩ := Option.map_eq_some_iff.1 h'
    subst e
    exact .inl ⟨rfl, q, h1, rfl⟩
  · rw [if_neg e] at h'
    by_cases e2 : (K b).isSome = true
    · rw [if_pos e2] at h'; exact .inr ⟨e, e2, h'⟩
    · rw [if_neg e2] at h'; cases h'
theorem Ren.only_to {b : Nat} {p : Nat × Nat} : (ρ.only K) b = some p ↔ (K b).isSome = true ∧ ρ b = some p := by
  show (if (K b).isSome = true then ρ b else none) = some p ↔ _
  by_cases e2 : (K b).isSome = true
  · rw [if_pos e2]; exact ⟨fun h => ⟨e2, h⟩, fun h => h.2⟩
  · rw [if_neg e2]; exact ⟨fun h => (by cases h), fun h => absurd h.1 e2⟩
theorem Ren.only_sub : (ρ.only K).sub ρ := ⟨fun _ _ h => (Ren.only_to.1 h).2, rfl, fun _ _ _ => Iff.rfl, rfl⟩
theorem Ren.only_cut {H : Array Obj} (hg : K g = none) : (ρ.only K).sub (ρ.cut K g sh H) := ⟨fun b p h => by
  obtain ⟨h1, h2⟩ := Ren.only_to.1 h
  rw [Ren.cut_keep h1 (fun e => by rw [e, hg] at h1; cases h1)]
  exact h2, rfl, fun _ _ _ => Iff.rfl, rfl⟩
theorem WR.cut (h : WR S ρ k L W) {c s : Nat} {xg : Array Value} {eg : TypeId} (hg : ρ g = some (c, s)) (hgK : K g = none) (hgl : L.heap[g]? = some (.cells xg eg (0, 0))) (hn : sh + n ≤ xg.size)
    (hkind : ∀ (b m : Nat) o, K b = some m → L.heap[b]? = some o → (∃ x e f, o = .cells x e f) ∨ ∃ o', OR S ρ o o')
    (hgv : ∀ i v, sh ≤ i → i < sh + n → xg[i]? = some v → ∀ v', VR S ρ v v' → VR S (ρ.only K) v v')
    (hDv : ∀ (b m : Nat) x e f, K b = some m → L.heap[b]? = some (.cells x e f) → ∀ (i : Nat) v, i < m → x[i]? = some v → ∀ v', VR S ρ v v' → VR S (ρ.only K) v v')
    (hDo : ∀ (b m : Nat) o, K b = some m → L.heap[b]? = some o → ∀ o', OR S ρ o o' → OR S (ρ.only K) o o')
    (hkg : ∀ i, sh ≤ i → i < sh + n → k.W (.cell ⟨c, s + i, none⟩) → k'.W (.cell ⟨c, s + i, none⟩))
    (hkD : ∀ (b c s m : Nat) x e f, K b = some m → ρ b = some (c, s) → L.heap[b]? = some (.cells x e f) → ∀ i, i < m → i < x.size → k.W (.cell ⟨c, s + i, none⟩) ∨ k.R (.cell ⟨c, s + i, none⟩) → k'.W (.cell ⟨c, s + i, none⟩) ∨ k'.R (.cell ⟨c, s + i, none⟩))
    (hkO : ∀ (b c s m : Nat) o, K b = some m → ρ b = some (c, s) → L.heap[b]? = some o → (∃ o', OR S ρ o o') → k.W (.obj c) → k'.W (.obj c)) :
    WR S (ρ.cut K g sh L.heap) k' (cutW K g sh n ρ.bad L) W := by
  have hsub : (ρ.only K).sub (ρ.cut K g sh L.heap) := Ren.only_cut hgK
  have hKg : ∀ {b m}, K b = some m → b ≠ g := fun {b m} h e => by rw [e, hgK] at h; cases h
  -- what lies in the cut world
  have at_ : ∀ (b : Nat) o, (cutW K g sh n ρ.bad L).heap[b]? = some o → (b = g ∧ o = .cells (xg.extract sh (sh + n)) ρ.bad (0, 0)) ∨ (∃ m x e f, K b = some m ∧ L.heap[b]? = some (.cells x e f) ∧ o = .cells (x.extract 0 m) ρ.bad (0, m)) ∨ (∃ m, K b = some m ∧ L.heap[b]? = some o ∧ NotCells o ∧ ∃ o', OR S ρ o o') ∨ (b ≠ g ∧ K b = none ∧ o = .cells #[] ρ.bad (0, 0)) := fun b o ho => by
    by_cases e : b = g
    · subst e
      rw [cutW_g hgl] at ho
      exact .inl ⟨rfl, (Option.some.inj ho).symm⟩
    · rw [cutW_at] at ho
      obtain ⟨o0, h0, rfl⟩ := Option.map_eq_some_iff.1 ho
      cases hK : K b with
      | none => exact .inr (.inr (.inr ⟨e, rfl, by simp [cutO, e, hK]⟩))
      | some m =>
        rcases hkind b m o0 hK h0 with ⟨x, ee, f, rfl⟩ | ⟨o', q⟩
        · exact .inr (.inl ⟨m, x, ee, f, rfl, h0, by simp [cutO, e, hK]⟩)
        · have hnc := q.notCells.1
          have he : cutO K g sh n ρ.bad b o0 = o0 := by
            cases o0 with
            | cells x e f => exact absurd rfl (hnc _ _ _)
            | _ => simp [cutO, e, hK]
          rw [he]
          exact .inr (.inr (.inl ⟨m, rfl, h0, hnc, o', q⟩))
  have nm : ∀ {b c' s' : Nat}, (ρ.cut K g sh L.heap) b = some (c', s') → (b = g ∧ c' = c ∧ s' = s + sh) ∨ (b ≠ g ∧ (∃ m, K b = some m) ∧ ρ b = some (c', s')) := fun {b c' s'} hb => by
    rcases Ren.cut_to hb with ⟨rfl, q, h1, h2⟩ | ⟨h1, h2, h3⟩
    · rw [hg] at h1; cases h1; cases h2; exact .inl ⟨rfl, rfl, rfl⟩
    · exact .inr ⟨h1, Option.isSome_iff_exists.1 h2, h3⟩
  have ext : ∀ i, (xg.extract sh (sh + n))[i]? = if i < n then xg[sh + i]? else none := fun i => by
    rw [Array.getElem?_extract]
    by_cases e : i < n
    · rw [if_pos e, if_pos (by omega)]
    · rw [if_neg e, if_neg (by omega)]
  have ext0 : ∀ (x : Array Value) m i v, (x.extract 0 m)[i]? = some v → i < m ∧ x[i]? = some v := fun x m i v hv => by
    rw [Array.getElem?_extract] at hv
    split at hv
    · rename_i hi
      rw [Nat.zero_add] at hv
      exact ⟨by omega, hv⟩
    · cases hv
  have esz : (xg.extract sh (sh + n)).size = n := by simp; omega
  refine ⟨fun b o ho => ?_, ⟨by rw [cutW_size]; exact h.base.1, h.base.2⟩, fun b n' x c' s' r t ho => ?_, fun b hb => ?_, fun b c' s' hb => ?_, fun b c' s' x e fz hb ho => ?_, fun b c' s' x e fz hb ho i v hv => ?_, fun b c' s' o hb ho hn' => ?_, fun b c' s' o hb ho hor => ?_, fun b o hb ho hn' => ?_, fun b b' c' s1 s2 x x' e e' fz fz' i i' h1 h2 h3 h4 h5 h6 h7 h8 => ?_, fun b b' c' s1 s2 o o' h1 h2 h3 h4 h5 h6 => ?_, fun b c' s' n' x cl sn rc t hb ho => ?_⟩
  · rcases at_ b o ho with ⟨_, rfl⟩ | ⟨m, x, e, f, _, _, rfl⟩ | ⟨m, hK, h0, _, o', q⟩ | ⟨_, _, rfl⟩
    · exact .inl ⟨_, _, _, rfl⟩
    · exact .inl ⟨_, _, _, rfl⟩
    · exact .inr (.inl ⟨o', (hDo b m o hK h0 o' q).sub hsub⟩)
    · exact .inl ⟨_, _, _, rfl⟩
  · rcases at_ b _ ho with ⟨_, q⟩ | ⟨m, x, e, f, _, _, q⟩ | ⟨m, hK, h0, _, o', q⟩ | ⟨_, _, q⟩
    · cases q
    · cases q
    · cases q
    · cases q
  · rw [cutW_size]
    rcases hb with hb | hb
    · exact h.chanLt b (.inl hb)
    · exact hb.2
  · rw [cutW_size]
    rcases nm hb with ⟨rfl, rfl, rfl⟩ | ⟨_, _, h1⟩
    · exact h.lt _ _ _ hg
    · exact h.lt _ _ _ h1
  · rcases nm hb with ⟨rfl, rfl, rfl⟩ | ⟨q1, ⟨m, q2⟩, h1⟩
    · rw [cutW_g hgl] at ho
      cases ho
      obtain ⟨x', e', fz', h2, _⟩ := h.shapes _ _ _ _ _ _ hg hgl
      exact ⟨x', e', fz', h2, .inr ⟨⟨.inr (.inl rfl), (h.lt _ _ _ hg).1⟩, rfl⟩⟩
    · rcases at_ b _ ho with ⟨q, _⟩ | ⟨m', x0, e0, f0, hK, h0, q⟩ | ⟨_, _, _, hnc, _⟩ | ⟨_, q, _⟩
      · exact absurd q q1
      · cases q
        obtain ⟨x', e', fz', h2, h3⟩ := h.shapes _ _ _ _ _ _ h1 h0
        exact ⟨x', e', fz', h2, .inr ⟨⟨.inr (.inr (by rw [hK]; rfl)), (h.lt _ _ _ h1).1⟩, rfl⟩⟩
      · exact absurd rfl (hnc _ _ _)
      · rw [q2] at q; cases q
  · rcases nm hb with ⟨rfl, rfl, rfl⟩ | ⟨q1, ⟨m, q2⟩, h1⟩
    · rw [cutW_g hgl] at ho
      cases ho
      rw [ext] at hv
      by_cases e : i < n
      · rw [if_pos e] at hv
        obtain ⟨x', e', fz', v', g1, g2, g3, g4, g5⟩ := h.cells _ _ _ _ _ _ hg hgl _ _ hv
        obtain ⟨g6, g7⟩ := g5 (by simp)
        rw [show s + sh + i = s + (sh + i) by omega]
        have hw := hkg (sh + i) (by omega) (by omega) g6
        exact ⟨x', e', fz', v', g1, g2, (hgv _ _ (by omega) (by omega) hv _ g3).sub hsub, .inl hw, fun _ => ⟨hw, g7⟩⟩
      · rw [if_neg e] at hv; cases hv
    · rcases at_ b _ ho with ⟨q, _⟩ | ⟨m', x0, e0, f0, hK, h0, q⟩ | ⟨_, _, _, hnc, _⟩ | ⟨_, q, _⟩
      · exact absurd q q1
      · cases q
        obtain ⟨him, hv0⟩ := ext0 _ _ _ _ hv
        obtain ⟨x', e', fz', v', g1, g2, g3, g4, g5⟩ := h.cells _ _ _ _ _ _ h1 h0 _ _ hv0
        exact ⟨x', e', fz', v', g1, g2, (hDv b m' x0 e0 f0 hK h0 i v him hv0 _ g3).sub hsub, hkD b c' s' m' x0 e0 f0 hK h1 h0 i him (Array.getElem?_eq_some_iff.1 hv0).1 g4, fun hx => absurd ⟨Nat.zero_le _, him⟩ hx⟩
      · exact absurd rfl (hnc _ _ _)
      · rw [q2] at q; cases q
  · rcases nm hb with ⟨rfl, rfl, rfl⟩ | ⟨q1, ⟨m, q2⟩, h1⟩
    · rw [cutW_g hgl] at ho
      cases ho
      exact absurd rfl (hn' _ _ _)
    · rcases at_ b _ ho with ⟨q, _⟩ | ⟨_, _, _, _, _, _, rfl⟩ | ⟨_, _, h0, _, _⟩ | ⟨_, _, rfl⟩
      · exact absurd q q1
      · exact absurd rfl (hn' _ _ _)
      · exact h.others _ _ _ _ h1 h0 hn'
      · exact absurd rfl (hn' _ _ _)
  · rcases nm hb with ⟨rfl, rfl, rfl⟩ | ⟨q1, ⟨m, q2⟩, h1⟩
    · rw [cutW_g hgl] at ho
      cases ho
      obtain ⟨o', hx⟩ := hor
      exact absurd rfl (hx.notCells.1 _ _ _)
    · obtain ⟨ox, hx⟩ := hor
      rcases at_ b _ ho with ⟨q, _⟩ | ⟨_, _, _, _, _, _, rfl⟩ | ⟨m', hK, h0, _, o1, q⟩ | ⟨_, _, rfl⟩
      · exact absurd q q1
      · exact absurd rfl (hx.notCells.1 _ _ _)
      · obtain ⟨g1, o', g2, g3, g4⟩ := h.objs _ _ _ _ h1 h0 ⟨o1, q⟩
        exact ⟨g1, o', g2, (hDo b m' o hK h0 o' g3).sub hsub, hkO b c' s' m' o hK h1 h0 ⟨o1, q⟩ g4⟩
      · exact absurd rfl (hx.notCells.1 _ _ _)
  · rcases at_ b o ho with ⟨_, rfl⟩ | ⟨_, _, _, _, _, _, rfl⟩ | ⟨m, hK, h0, _, o', q⟩ | ⟨_, _, rfl⟩
    · exact absurd rfl (hn' _ _ _)
    · exact absurd rfl (hn' _ _ _)
    · exact ⟨o', (hDo b m o hK h0 o' q).sub hsub⟩
    · exact absurd rfl (hn' _ _ _)
  · rcases at_ b _ h3 with ⟨rfl, q⟩ | ⟨m, x0, e0, f0, _, h0, q⟩ | ⟨_, _, _, hnc, _⟩ | ⟨_, _, q⟩
    · cases q
      rcases nm h1 with ⟨_, rfl, rfl⟩ | ⟨q1, _⟩
      · rcases at_ b' _ h4 with ⟨rfl, _⟩ | ⟨m', x1, e1, f1, _, h01, q'⟩ | ⟨_, _, _, hnc, _⟩ | ⟨_, _, q'⟩
        · rfl
        · cases q'
          rcases nm h2 with ⟨rfl, _⟩ | ⟨_, _, p2⟩
          · rfl
          · refine h.apart _ _ _ _ _ _ _ _ _ _ _ (sh + i) i' hg p2 hgl h01 (by omega) ?_ (by omega) (by simp)
            have : i' < (x1.extract 0 m').size := h6
            simp at this
            omega
        · exact absurd rfl (hnc _ _ _)
        · cases q'
          simp at h6
      · exact absurd rfl q1
    · cases q
      refine absurd ⟨Nat.zero_le _, ?_⟩ h8
      have : i < (x0.extract 0 m).size := h5
      simp at this
      show i < m
      omega
    · exact absurd rfl (hnc _ _ _)
    · cases q
      simp at h5
  · rcases at_ b _ h3 with ⟨rfl, rfl⟩ | ⟨_, _, _, _, _, _, rfl⟩ | ⟨m, hK, h0, _, o1, q⟩ | ⟨_, _, rfl⟩
    · exact absurd rfl (h5 _ _ _)
    · exact absurd rfl (h5 _ _ _)
    · rcases at_ b' _ h4 with ⟨rfl, rfl⟩ | ⟨_, _, _, _, _, _, rfl⟩ | ⟨m', hK', h0', _, o1', q'⟩ | ⟨_, _, rfl⟩
      · exact absurd rfl (h6 _ _ _)
      · exact absurd rfl (h6 _ _ _)
      · rcases nm h1 with ⟨rfl, _⟩ | ⟨_, _, p1⟩
        · rw [hgK] at hK; cases hK
        · rcases nm h2 with ⟨rfl, _⟩ | ⟨_, _, p2⟩
          · rw [hgK] at hK'; cases hK'
          · exact h.apartO _ _ _ _ _ _ _ p1 p2 h0 h0' h5 h6
      · exact absurd rfl (h6 _ _ _)
    · exact absurd rfl (h5 _ _ _)
  · rcases at_ b _ ho with ⟨_, q⟩ | ⟨_, _, _, _, _, _, q⟩ | ⟨_, _, _, _, o', q⟩ | ⟨_, _, q⟩
    · cases q
    · cases q
    · cases q
    · cases q
/-- What was alike under names, and is alike under more of them with another, is alike under the first ones with it. -/
theorem VR.along {ρ0 ρ1 : Ren} {v v0 v' : Value} (h : VR S ρ0 v v0) (hs : ρ0.sub ρ1) (h1 : VR S ρ1 v v') : VR S ρ0 v v' := by
  have ar : ∀ {a a0 a' : Addr}, AR ρ0 a a0 → AR ρ1 a a' → AR ρ0 a a' := fun {a a0 a'} h h1 => by
    obtain ⟨h2, c, s, h3, _⟩ := h
    obtain ⟨_, c', s', h4, rfl⟩ := h1
    rw [hs.to _ _ h3] at h4
    cases h4
    exact ⟨h2, _, _, h3, rfl⟩
  induction h generalizing v' with
  | bool b => cases h1; exact .bool b
  | int k n => cases h1; exact .int k n
  | string s => cases h1; exact .string s
  | nilPtr => cases h1; exact .nilPtr
  | ptr h => cases h1 with
    | ptr h1 => exact .ptr (ar h h1)
  | nilSlice l c => cases h1; exact .nilSlice l c
  | slice h l c => cases h1 with
    | slice h1 => exact .slice (ar h h1) l c
    | void => exact .void _ _ _ _
  | void b o s a' => cases h1 with
    | slice h1 => exact absurd h1.1.1 (by simp)
    | void => exact .void _ _ _ _
  | nilMap => cases h1; exact .nilMap
  | map h => cases h1 with
    | map h1 => rw [hs.to _ _ h] at h1; cases h1; exact .map h
  | nilChan => cases h1; exact .nilChan
  | chan h => cases h1 with
    | chan h1 => rw [hs.to _ _ h] at h1; cases h1; exact .chan h
  | nilFunc => cases h1; exact .nilFunc
  | func hf sx hx sy hy ih1 ih2 => cases h1 with
    | func _ sx1 hx1 sy1 hy1 =>
      refine .func hf sx1 (fun i v v' q1 q2 => ?_) sy1 fun i v v' q1 q2 => ?_
      · obtain ⟨v0, q3⟩ : ∃ v0, _ = some v0 := ⟨_, Array.getElem?_eq_getElem (by rw [← sx]; exact (Array.getElem?_eq_some_iff.1 q1).1)⟩
        exact ih1 i v v0 q1 q3 (hx1 i v v' q1 q2)
      · obtain ⟨v0, q3⟩ : ∃ v0, _ = some v0 := ⟨_, Array.getElem?_eq_getElem (by rw [← sy]; exact (Array.getElem?_eq_some_iff.1 q1).1)⟩
        exact ih2 i v v0 q1 q3 (hy1 i v v' q1 q2)
  | nilIface => cases h1; exact .nilIface
  | iface t _ ih => cases h1 with
    | iface _ h1 => exact .iface t (ih h1)
  | agg sx hx ih => cases h1 with
    | agg sx1 hx1 =>
      refine .agg sx1 fun i v v' q1 q2 => ?_
      obtain ⟨v0, q3⟩ : ∃ v0, _ = some v0 := ⟨_, Array.getElem?_eq_getElem (by rw [← sx]; exact (Array.getElem?_eq_some_iff.1 q1).1)⟩
      exact ih i v v0 q1 q3 (hx1 i v v' q1 q2)
  | tuple sx hx ih => cases h1 with
    | tuple sx1 hx1 =>
      refine .tuple sx1 fun i v v' q1 q2 => ?_
      obtain ⟨v0, q3⟩ : ∃ v0, _ = some v0 := ⟨_, Array.getElem?_eq_getElem (by rw [← sx]; exact (Array.getElem?_eq_some_iff.1 q1).1)⟩
      exact ih i v v0 q1 q3 (hx1 i v v' q1 q2)
theorem OR.along {ρ0 ρ1 : Ren} {o o0 o' : Obj} (h : OR S ρ0 o o0) (hs : ρ0.sub ρ1) (h1 : OR S ρ1 o o') : OR S ρ0 o o' := by
  cases h with
  | map clock se he => cases h1 with
    | map _ se1 he1 =>
      refine .map clock se1 fun i e e' q1 q2 => ?_
      obtain ⟨e0, q3⟩ : ∃ e0, _ = some e0 := ⟨_, Array.getElem?_eq_getElem (by rw [← se]; exact (Array.getElem?_eq_some_iff.1 q1).1)⟩
      obtain ⟨z1, z2, _⟩ := he i e e0 q1 q3
      obtain ⟨z4, z5, z6⟩ := he1 i e e' q1 q2
      exact ⟨z1.along hs z4, z2.along hs z5, z6⟩
  | stringIter s pos => cases h1; exact .stringIter s pos
  | number h lost => cases h1 with
    | number h1 =>
      obtain ⟨h2, c, s, h3, _⟩ := h
      obtain ⟨_, c', s', h4, rfl⟩ := h1
      rw [hs.to _ _ h3] at h4
      cases h4
      exact .number ⟨h2, _, _, h3, rfl⟩ lost
end
end Go.Proofs.Yticdjkkcfdbdcaa
