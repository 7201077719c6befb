/- The rules for a worker that does jobs. No conditions but those named. -/
import Derived.Test.YticdjkkcfdbdcaaGrU
import Derived.Test.YticdjkkcfdbdcaaDrawE
namespace Go.Proofs.Yticdjkkcfdbdcaa
open Go.Conc Go.ConcN
section
variable {Pr : Program} {ty : TypeId} {p0 tot : Nat} {Shun : Loc → Prop} {Anc : Goroutine → World → Prop}
variable {P : GPar} {M : GLoc} {m0 : Nat} {gh gh' : GGh} {s r s' r' n : Nat} {T T' : Nat → Option GSt} {K : Nat → LK} {w w' w0 : World} {t u : Trace} {X Rl : Loc → Prop} {Wg i : Nat}
theorem famG_mk {k' : LK} (h : (famG P M X Rl w0 m0).G n T K w t) (hi : i < n) (hX : Rely (keepK X) w w') (hW : ∀ l, X l → k'.W l → (K i).W l) (hu : ∀ op ∈ u, ∀ a, op.act ≠ .mark (.release a)) (gi : GI P M m0 gh' s' r' n T' (upd K i k') w' (t ++ u)) : (famG P M X Rl w0 m0).G n T' (upd K i k') w' (t ++ u) := by
  obtain ⟨⟨h1, h2, h3, h4, h5⟩, _⟩ := h
  refine ⟨⟨h1.trans hX, fun j hj l hx => ?_, h3, h4.app hu, h5⟩, gh', s', r', gi⟩
  by_cases e : j = i
  · subst e; rw [upd_same]; exact fun hw => h2 j hj l hx (hW l hx hw)
  · rw [upd_ne K _ e]; exact h2 j hj l hx
theorem recvd_chan {cap s1 r1 : Nat} {buf : Array Value} {cl tm : Bool} (h : w.heap[M.c]? = some (.chan cap buf cl s1 r1 tm)) {x : Nat} : Recvd M w x ↔ x ≤ r1 := by
  constructor
  · rintro (rfl | ⟨c1, c2, c3, c4, c5, c6, c7, c8⟩)
    · exact Nat.zero_le _
    rw [h] at c7
    cases c7
    exact c8
  · exact fun hx => .inr ⟨_, _, _, _, _, _, h, hx⟩
/-- ████ IT TAKES A JOB, or goes home. ████ -/
theorem wp_grecv (hO : GOk P M X Wg w0) (hi0 : i ≠ 0) {k : LK} {b : Frame} {Ks : List Item} {cs : List Frame} {a : Act} {ops : Array Oper} {i0 : Nat} {rest : List Nat} {o : Oper} {z : Value} (hb : b.kind ≠ .early) (ho : ops[i0]? = some o) (hw : Region.wanted o (yielded ops a.tmps) = true)
    (hrun : ∀ w, (execOp a.eval o).runT Pr w #[] = (.ok (.comm #[rcase M.c z] true (.recv true)) w, #[]))
    (htake : ∀ j w', j < P.N → Rely k w w' → (∀ x ∈ P.aft j, x < P.N ∧ w'.cell? ⟨M.nb, x, none⟩ = some (.int .i64 (M.val x))) → (∀ r0, Recvd M w r0 → r0 < P.N ∧ Recvd M w' (r0 + 1)) → WP (wgProto Pr (famG P M X Rl w0 m0) ty Wg m0 p0 tot Shun Anc) i (k.take P M j) (.work (.busy j .comp)) (G (b.at (a.put o.dst (.tuple #[.int .i64 (j : Int), .bool true])) (.inRegion ops rest :: Ks)) cs) w')
    (hnone : ∀ w', Rely k w w' → ShutW P M w' → WP (wgProto Pr (famG P M X Rl w0 m0) ty Wg m0 p0 tot Shun Anc) i k (.work .idle) (G (b.at (a.put o.dst (.tuple #[z, .bool false])) (.inRegion ops rest :: Ks)) cs) w') :
    WP (wgProto Pr (famG P M X Rl w0 m0) ty Wg m0 p0 tot Shun Anc) i k (.work .idle) (G (b.at a (.inRegion ops (i0 :: rest) :: Ks)) cs) w := by
  have hr2 : ∀ w, (execOp a.eval o).run Pr w = .ok (.comm #[rcase M.c z] true (.recv true)) w ∧ (execOp a.eval o).events Pr w #[] = #[] := fun w => by
    have := hrun w
    rw [Sem.runT_eq] at this
    exact Prod.mk.inj this
  have hstep : RecvAt Pr (G (b.at a (.inRegion ops (i0 :: rest) :: Ks)) cs) M.c z true := fun w => (stepG_comm ho hw hb (hr2 w).1).trans (by rw [listed, (hr2 w).2, seen_empty])
  have hfin : ∀ v, Go.Conc.served (G (b.at a (.inRegion ops (i0 :: rest) :: Ks)) cs) v = G (b.at (a.put o.dst v) (.inRegion ops rest :: Ks)) cs := fun v => by
    show G ((b.at a (.inRegion ops (i0 :: rest) :: Ks)).finish v) cs = _
    rw [Frame.finish_at, ho]
    rfl
  refine wp_famP (famG_ok hO) hi0 rfl rfl fun w₁ n T KK t hm0 hi hT hk hrel hgr hlic hG hA hd => ?_
  have hG' := hG
  obtain ⟨⟨h1, h2, h3, h4, h5⟩, gh, s, r, h6⟩ := hG
  have hch := h6.ch
  have hlt : M.c < w₁.heap.size := (Array.getElem?_eq_some_iff.1 hch).1
  cases hq : gh.q with
  | cons j q =>
    have hj := (h6.ga.que j).1 (by rw [hq]; exact List.mem_cons_self ..)
    have ht := h6.take hO hlic h1.size hq hi hm0 hT hd (a := { g := i, fn := (G (b.at a (.inRegion ops (i0 :: rest) :: Ks)) cs).frame.fn, pos := (G (b.at a (.inRegion ops (i0 :: rest) :: Ks)) cs).frame.place, act := .recv M.c r P.N }) (b := { g := i, fn := (G (b.at a (.inRegion ops (i0 :: rest) :: Ks)) cs).frame.fn, pos := (G (b.at a (.inRegion ops (i0 :: rest) :: Ks)) cs).frame.place, act := .recvDone M.c r }) ⟨rfl, rfl⟩ ⟨rfl, rfl⟩
    rw [hk] at ht
    have hu : ∀ op ∈ (#[{ g := i, fn := (G (b.at a (.inRegion ops (i0 :: rest) :: Ks)) cs).frame.fn, pos := (G (b.at a (.inRegion ops (i0 :: rest) :: Ks)) cs).frame.place, act := .recv M.c r P.N }, { g := i, fn := (G (b.at a (.inRegion ops (i0 :: rest) :: Ks)) cs).frame.fn, pos := (G (b.at a (.inRegion ops (i0 :: rest) :: Ks)) cs).frame.place, act := .recvDone M.c r }] : Array MemOp), op.g = i ∧ ∀ m, op.act ≠ .mark m := fun op hop => by
      rcases mem_two hop with rfl | rfl <;> exact ⟨rfl, fun m e => by cases e⟩
    have hnC := h6.noC i hi
    rw [hk] at hnC
    have hrd := ht.2.un
    have hchn := ht.2.ch
    have hrr : ∀ x, Recvd M w₁ x → Recvd M (w₁.setChan M.c P.N ((bufQ gh.q).extract 1 (bufQ gh.q).size) gh.cl s (r + 1) false) x := fun x hx => (recvd_chan hchn).2 (by have := (recvd_chan hch).1 hx; omega)
    refine .recv M.c z true _ _ _ (k.take P M j) (.busy j .comp) hstep (.inl ⟨P.N, bufQ gh.q, gh.cl, s, r, false, hch, by rw [hq]; simp [bufQ], rfl, rfl, rfl⟩) ⟨fun op hop => ⟨(hu op hop).1, (hu op hop).2 _, (hu op hop).2 _, (hu op hop).2 _⟩, ?_, ht.1, ?_, fun l hl => hA l hl, fun j' hj' hji => ⟨chan_rely hch (h6.noC j' hj'), fun hsh => ?_, hrr⟩⟩ (fun j' x c hj' hji hx hid _ hmt => ?_) ?_
    · show (w₁.heap.setIfInBounds M.c _)[Wg]? = _
      rw [Array.getElem?_setIfInBounds, if_neg hO.cW]
    · refine famG_mk hG' hi (chan_rely hch ⟨id, fun hx => (hO.Xc _ hx).1 rfl⟩) (fun l hx hw => ?_) (fun op hop a => (hu op hop).2 _) ht.2
      rw [hk]
      rcases hw with hw | hw
      · exact hw
      · exact absurd hw ((hO.Xc l hx).2.2.2 j hj.1)
    · obtain ⟨s1, r1, hx⟩ := hsh
      rw [hch, hq] at hx
      simp at hx
    · obtain ⟨_, rfl⟩ := hid
      obtain ⟨_, _, _, _, hm⟩ := hmt
      rw [hch, hq] at hm
      simp at hm
    · have hget : (bufQ gh.q).getD 0 undef = .int .i64 (j : Int) := by rw [hq]; rfl
      have hrec : recvd true ((bufQ gh.q).getD 0 undef) true = .tuple #[.int .i64 (j : Int), .bool true] := by rw [hget]; rfl
      rw [hrec, hfin]
      refine htake j _ hj.1 (hrel.trans (chan_rely hch hnC)) (fun x hx => ?_) fun r0 hr0 => ?_
      · obtain ⟨x1, x2, _⟩ := h6.ga.ready hO.wf hj.1 (by rw [hj.2]; simp) hx
        have := h6.num x x1 x2
        exact ⟨x1, (chan_cell (cell_not_chan this hch)).trans this⟩
      · have h7 := (recvd_chan hch).1 (hgr.2 r0 hr0)
        exact ⟨by omega, (recvd_chan hchn).2 (by omega)⟩
  | nil =>
    rw [hq] at hch
    have hbuf : (List.map (fun (k : Nat) => Value.int .i64 (k : Int)) []).toArray = #[] := rfl
    rw [hbuf] at hch
    cases hc : gh.cl with
    | false =>
      rw [hc] at hch
      exact .park M.c z true hstep ⟨rfl, rfl⟩ ⟨_, _, _, _, hch⟩
    | true =>
      rw [hc] at hch
      have hkk : upd KK i k = KK := by rw [← hk]; exact upd_self KK i
      have hTx : upd T i (some .idle) = T := by rw [← hT]; exact upd_self T i
      have hu : ∀ op ∈ (#[{ g := i, fn := (G (b.at a (.inRegion ops (i0 :: rest) :: Ks)) cs).frame.fn, pos := (G (b.at a (.inRegion ops (i0 :: rest) :: Ks)) cs).frame.place, act := .recvClosed M.c }] : Array MemOp), op.g = i ∧ op.act = .recvClosed M.c := fun op hop => by
        simp only [List.mem_toArray, List.mem_cons, List.not_mem_nil, or_false] at hop
        subst hop; exact ⟨rfl, rfl⟩
      have ht : ∀ op ∈ (#[{ g := i, fn := (G (b.at a (.inRegion ops (i0 :: rest) :: Ks)) cs).frame.fn, pos := (G (b.at a (.inRegion ops (i0 :: rest) :: Ks)) cs).frame.place, act := .recvClosed M.c }] : Array MemOp), op.act.touch? = none := fun op hop => by rw [(hu op hop).2]; rfl
      refine .recv M.c z true _ _ _ k .idle hstep (.inr ⟨P.N, s, r, false, hch, rfl, rfl, rfl⟩) ⟨fun op hop => ?_, rfl, ?_, ?_, hA, fun j hj hji => ⟨.refl _ _, id, fun _ => id⟩⟩ (fun j x c hj hji hx hid _ hmt => .inl hmt) ?_
      · rw [(hu op hop).2]
        exact ⟨(hu op hop).1, by simp, by simp, by simp⟩
      · rw [hkk]
        exact hlic.mute hi (Nat.le_refl _) fun op hop => ⟨(hu op hop).1, by rw [(hu op hop).2]; exact hlt, ht op hop⟩
      · refine famG_mk hG' hi (.refl _ _) (fun l _ hw => by rw [hk]; exact hw) (fun op hop a => by rw [(hu op hop).2]; simp) (gh' := gh) (s' := s) (r' := r) ?_
        rw [hTx, hkk]
        exact h6.ext hO.wf rfl (fun _ _ => rfl) rfl (fun _ _ _ => rfl) (fun _ _ _ _ h => h) (fun _ _ => rfl) (fun _ _ => rfl) fun op hop b hb => by rw [ht op hop] at hb; cases hb
      · rw [hfin]
        exact hnone w₁ hrel ⟨s, r, hch⟩
/-- Its licence behind its number's writing. -/
def LK.after (k : LK) (M : GLoc) (j : Nat) : GPh → LK
  | .comp => k.gave M j
  | _ => k
theorem LK.after_le (k : LK) (M : GLoc) (j : Nat) (ph : GPh) : (∀ l, (k.after M j ph).W l → k.W l) ∧ (k.after M j ph).A = k.A := by
  cases ph <;> exact ⟨fun l h => by first | exact h.1 | exact h, rfl⟩
theorem after_gave {k : LK} (hh : GI P M m0 gh s r n T K w t) (hi : i < n) (hK : K i = k) {j : Nat} {ph : GPh} (ht : T i = some (.busy j ph)) (hW : ph = .comp → k.W (numL M j)) : Gave (K i) (k.after M j ph) M j := by
  subst hK
  obtain ⟨h1, h2, _⟩ := hh.ga.work i j ph hi ht
  cases ph with
  | comp => exact .of _ (hW rfl)
  | put p => exact .self (hh.ownR i hi j _ ht (by simp)) (hh.free j h1 (.inr ⟨i, _, h2, ht, by simp⟩) i hi)
  | send p => exact .self (hh.ownR i hi j _ ht (by simp)) (hh.free j h1 (.inr ⟨i, _, h2, ht, by simp⟩) i hi)
/-- A goroutine about to add to a cell, atomically. -/
def AddAt (Pr : Program) (g : Goroutine) (p : Addr) (d : Int) (g' : Int → Goroutine) : Prop :=
  ∀ w v, w.cell? p = some (.int .i64 v) → w.frozen? p = false → stepG Pr false g w = .go (g' (IntKind.i64.wrap (v + d))) (w.setCell p (.int .i64 (IntKind.i64.wrap (v + d)))) #[rdE p, wrE p]
theorem two_ops (i : Nat) (fn : FuncId) (pos : String) (e f : Event) : MemOp.ofEvents i fn pos #[e, f] = #[{ g := i, fn, pos, act := .ofEvent e }, { g := i, fn, pos, act := .ofEvent f }] := by simp [ofEvents_eq]
/-- What all such steps keep. -/
theorem add_to (hO : GOk P M X Wg w0) {k k' : LK} {x' : GSt} {p : Addr} {v v' : Value} {g : Goroutine} (hG : (famG P M X Rl w0 m0).G n T K w t) (hch : ∃ N1 b1 c1 s1 r1, w.heap[M.c]? = some (.chan N1 b1 c1 s1 r1 false)) (hlic : Lic n K w t) (hi : i < n) (hk : K i = k) (hp : w.cell? p = some v) (hpA : ∀ j, j < n → ¬ (K j).W (.cell p) ∧ ¬ (K j).R (.cell p)) (hpX : ¬ X (.cell p)) (hpW : p.block ≠ Wg) (hW : ∀ l, k'.W l → k.W l) (hA : ∀ l, WgLoc Wg l → k'.A l)
    (hl : Lic n (upd K i k') (w.setCell p v') (t ++ MemOp.ofEvents i g.frame.fn g.frame.place #[rdE p, wrE p])) (gi : GI P M m0 gh' s' r' n (upd T i (some x')) (upd K i k') (w.setCell p v') (t ++ MemOp.ofEvents i g.frame.fn g.frame.place #[rdE p, wrE p])) :
    FamTo (famG P M X Rl w0 m0) Wg i n T K w (w.setCell p v') t (MemOp.ofEvents i g.frame.fn g.frame.place #[rdE p, wrE p]) k' x' ∧ ∀ wake, ChOth (famG P M X Rl w0 m0) i n T wake w (w.setCell p v') fun _ => False := by
  obtain ⟨N1, b1, c1, s1, r1, hch⟩ := hch
  have hpc := cell_not_chan hp hch
  have hchn : (w.setCell p v').heap[M.c]? = w.heap[M.c]? := setCell_ne fun e => hpc e.symm
  have hu : ∀ op ∈ MemOp.ofEvents i g.frame.fn g.frame.place #[rdE p, wrE p], op.g = i ∧ ∀ m, op.act ≠ .mark m := fun op hop => by
    rw [two_ops] at hop
    rcases mem_two hop with rfl | rfl <;> exact ⟨rfl, fun m e => by cases e⟩
  refine ⟨⟨fun op hop => ⟨(hu op hop).1, (hu op hop).2 _, (hu op hop).2 _, (hu op hop).2 _⟩, setCell_ne fun e => hpW e.symm, hl, famG_mk hG hi (rely_set hp ⟨id, hpX⟩) (fun l _ hw => by rw [hk]; exact hW l hw) (fun op hop a => (hu op hop).2 _) gi, hA, fun j hj hji => ⟨rely_set hp (hpA j hj), ?_, ?_⟩⟩, fun wake j x c hj hji hx hid _ hmt => .inl ?_⟩
  · rintro ⟨s2, r2, h2⟩
    exact ⟨s2, r2, hchn.trans h2⟩
  · exact fun r0 h0 => h0.chan hchn
  · obtain ⟨_, rfl⟩ := hid
    obtain ⟨a1, a2, a3, a4, a5⟩ := hmt
    exact ⟨a1, a2, a3, a4, hchn.trans a5⟩
/-- ████ IT TELLS ONE THAT WAITS. ████ -/
theorem wp_gtell (hO : GOk P M X Wg w0) (hi0 : i ≠ 0) {k : LK} {g : Goroutine} {g' : Int → Goroutine} (hr : g.status = .running) (ho : g.offers = none) {j p m : Nat} {ph : GPh} (hph : ph.at p) (hm : (P.nxt j)[p]? = some m) (hW : ph = .comp → k.W (numL M j)) (hval : ph = .comp → w.cell? ⟨M.nb, j, none⟩ = some (.int .i64 (M.val j)))
    (hz : w.frozen? (M.la m) = false) (hlm : (M.la m).block < w.heap.size) (hfew : (P.aft m).length ≤ 1000000) (hadd : AddAt Pr g (M.la m) (-1) g')
    (hno : ∀ w' v, Rely k w w' → v ≠ 0 → (∀ r0, Recvd M w r0 → Recvd M w' r0) → WP (wgProto Pr (famG P M X Rl w0 m0) ty Wg m0 p0 tot Shun Anc) i (k.after M j ph) (.work (.busy j (.put (p + 1)))) (g' v) w')
    (hyes : ∀ w', Rely k w w' → (∀ r0, Recvd M w r0 → Recvd M w' r0) → WP (wgProto Pr (famG P M X Rl w0 m0) ty Wg m0 p0 tot Shun Anc) i (k.after M j ph) (.work (.busy j (.send p))) (g' 0) w') :
    WP (wgProto Pr (famG P M X Rl w0 m0) ty Wg m0 p0 tot Shun Anc) i k (.work (.busy j ph)) g w := by
  refine wp_famP (famG_ok hO) hi0 hr ho fun w₁ n T KK t hm0 hi hT hk hrel hgr hlic hG hA hd => ?_
  have hG' := hG
  obtain ⟨⟨h1, h2, h3, h4, h5⟩, gh, s, r, h6⟩ := hG
  have hTn : T i ≠ none := fun e => by rw [hT] at e; cases e
  obtain ⟨hj, hsj, hdj⟩ := h6.ga.d_at hi hT hph
  obtain ⟨hmn, hm2, hm3, hct⟩ := h6.ga.told hO.wf hi hT hph hm
  have hp := h6.left m hmn
  have hgv := after_gave h6 hi hk hT hW
  have hvl : w₁.cell? ⟨M.nb, j, none⟩ = some (.int .i64 (M.val j)) := by
    by_cases e : ph = .comp
    · rw [hrel.cell _ (.inl (hW e))]; exact hval e
    · exact h6.num j hj (.inr ⟨i, ph, hsj, hT, e⟩)
  have hc1 := cnt_le (d := upd gh.d j (p + 1)) hO.wf hmn
  have hc2 := hct m
  rw [if_pos rfl] at hc2
  have hwrap : IntKind.i64.wrap (((P.aft m).length : Int) - (cnt P gh.d m : Int) + (-1)) = ((P.aft m).length : Int) - (cnt P gh.d m : Int) - 1 := by rw [IntKind.wrap_i64]; omega
  have hst := hadd w₁ _ hp ((frozen_rely hrel hlm).trans hz)
  rw [hwrap] at hst
  have hb0 : (i == 0) = false := by simpa using hi0
  let z : Bool := decide (cnt P (upd gh.d j (p + 1)) m = (P.aft m).length)
  have hzz : z = true ↔ cnt P (upd gh.d j (p + 1)) m = (P.aft m).length := decide_eq_true_iff
  have hA1 := (h6.atom i hi (.inr hTn)).1 m hmn
  have hpA : ∀ j, j < n → ¬ (KK j).W (.cell (M.la m)) ∧ ¬ (KK j).R (.cell (M.la m)) := fun j hj => ⟨fun e => hlic.wa j i hj hi _ (.inl e) hA1, fun e => hlic.wa j i hj hi _ (.inr e) hA1⟩
  have htw := two_ops i g.frame.fn g.frame.place (rdE (M.la m)) (wrE (M.la m))
  have hgi := h6.tell (z := z) hO hlic hi hT hph hm hm0 hd hgv hvl (a := { g := i, fn := g.frame.fn, pos := g.frame.place, act := .ofEvent (rdE (M.la m)) }) (b := { g := i, fn := g.frame.fn, pos := g.frame.place, act := .ofEvent (wrE (M.la m)) }) ⟨rfl, rfl⟩ ⟨rfl, rfl⟩ hzz
  have hl2 := atomic_lic hlic hi hp hA1 hgv (v := .int .i64 (((P.aft m).length : Int) - (cnt P gh.d m : Int) - 1)) (a := { g := i, fn := g.frame.fn, pos := g.frame.place, act := .ofEvent (rdE (M.la m)) }) (b := { g := i, fn := g.frame.fn, pos := g.frame.place, act := .ofEvent (wrE (M.la m)) }) ⟨rfl, rfl⟩ ⟨rfl, rfl⟩
  rw [← htw] at hgi hl2
  obtain ⟨hto, hco⟩ := add_to hO hG' ⟨_, _, _, _, _, h6.ch⟩ hlic hi hk hp hpA (fun hx => (hO.Xc _ hx).2.1 m hmn rfl) (hO.lW m hmn) (LK.after_le k M j ph).1 (fun l hl => by rw [(LK.after_le k M j ph).2]; exact hA l hl) hl2 hgi
  have hrel2 : Rely k w (w₁.setCell (M.la m) (.int .i64 (((P.aft m).length : Int) - (cnt P gh.d m : Int) - 1))) := hrel.trans (rely_set hp (by have := hpA i hi; rwa [hk] at this))
  have hpc := cell_not_chan hp h6.ch
  have hrv : ∀ r0, Recvd M w r0 → Recvd M (w₁.setCell (M.la m) (.int .i64 (((P.aft m).length : Int) - (cnt P gh.d m : Int) - 1))) r0 := fun r0 hr0 => by
    exact (hgr.2 r0 hr0).chan (setCell_ne fun e => hpc e.symm)
  refine .go _ _ _ (k.after M j ph) _ (by rw [hb0]; exact hst) hto (hco _) ?_
  cases hzv : z with
  | true =>
    have he : ((P.aft m).length : Int) - (cnt P gh.d m : Int) - 1 = 0 := by
      have := hzz.1 hzv; omega
    simp only [if_true]
    rw [he] at hrel2 hrv ⊢
    exact hyes _ hrel2 hrv
  | false =>
    have he : ((P.aft m).length : Int) - (cnt P gh.d m : Int) - 1 ≠ 0 := by
      intro e
      have : z = true := hzz.2 (by omega)
      rw [hzv] at this; cases this
    exact hno _ _ hrel2 he hrv
/-- ████ IT SAYS THAT ITS JOB IS DONE. ████ -/
theorem wp_gdone (hO : GOk P M X Wg w0) (hi0 : i ≠ 0) {k : LK} {g : Goroutine} {g' : Int → Goroutine} (hr : g.status = .running) (ho : g.offers = none) {j : Nat} {ph : GPh} (hph : ph.at (P.nxt j).length) (hW : ph = .comp → k.W (numL M j)) (hval : ph = .comp → w.cell? ⟨M.nb, j, none⟩ = some (.int .i64 (M.val j)))
    (hz : w.frozen? M.ov = false) (hlm : M.ov.block < w.heap.size) (hfew : P.N ≤ 1000000) (hadd : AddAt Pr g M.ov 1 g')
    (hno : ∀ w' v, Rely k w w' → v ≠ (P.N : Int) → (∀ r0, Recvd M w r0 → Recvd M w' r0) → WP (wgProto Pr (famG P M X Rl w0 m0) ty Wg m0 p0 tot Shun Anc) i (k.after M j ph) (.work .idle) (g' v) w')
    (hyes : ∀ w', Rely k w w' → (∀ r0, Recvd M w r0 → Recvd M w' r0) → WP (wgProto Pr (famG P M X Rl w0 m0) ty Wg m0 p0 tot Shun Anc) i (k.after M j ph) (.work .last) (g' P.N) w') :
    WP (wgProto Pr (famG P M X Rl w0 m0) ty Wg m0 p0 tot Shun Anc) i k (.work (.busy j ph)) g w := by
  refine wp_famP (famG_ok hO) hi0 hr ho fun w₁ n T KK t hm0 hi hT hk hrel hgr hlic hG hA hd => ?_
  have hG' := hG
  obtain ⟨⟨h1, h2, h3, h4, h5⟩, gh, s, r, h6⟩ := hG
  have hTn : T i ≠ none := fun e => by rw [hT] at e; cases e
  obtain ⟨hj, hsj, hdj⟩ := h6.ga.d_at hi hT hph
  have hp := h6.over
  have hgv := after_gave h6 hi hk hT hW
  have hvl : w₁.cell? ⟨M.nb, j, none⟩ = some (.int .i64 (M.val j)) := by
    by_cases e : ph = .comp
    · rw [hrel.cell _ (.inl (hW e))]; exact hval e
    · exact h6.num j hj (.inr ⟨i, ph, hsj, hT, e⟩)
  have hnf : nFin P gh ≤ P.N := by
    have := List.length_filter_le (fun k => decide (gh.st k = .fin)) (List.range P.N)
    rw [List.length_range] at this
    exact this
  have hwrap : IntKind.i64.wrap ((nFin P gh : Int) + 1) = (nFin P gh : Int) + 1 := by rw [IntKind.wrap_i64]; omega
  have hst := hadd w₁ _ hp ((frozen_rely hrel hlm).trans hz)
  rw [hwrap] at hst
  have hb0 : (i == 0) = false := by simpa using hi0
  have hA1 := (h6.atom i hi (.inr hTn)).2.1
  have hpA : ∀ j, j < n → ¬ (KK j).W (.cell M.ov) ∧ ¬ (KK j).R (.cell M.ov) := fun j hj => ⟨fun e => hlic.wa j i hj hi _ (.inl e) hA1, fun e => hlic.wa j i hj hi _ (.inr e) hA1⟩
  have htw := two_ops i g.frame.fn g.frame.place (rdE M.ov) (wrE M.ov)
  have hl2 := atomic_lic hlic hi hp hA1 hgv (v := .int .i64 ((nFin P gh : Int) + 1)) (a := { g := i, fn := g.frame.fn, pos := g.frame.place, act := .ofEvent (rdE M.ov) }) (b := { g := i, fn := g.frame.fn, pos := g.frame.place, act := .ofEvent (wrE M.ov) }) ⟨rfl, rfl⟩ ⟨rfl, rfl⟩
  rw [← htw] at hl2
  have hpc := cell_not_chan hp h6.ch
  have hrel2 : Rely k w (w₁.setCell M.ov (.int .i64 ((nFin P gh : Int) + 1))) := hrel.trans (rely_set hp (by have := hpA i hi; rwa [hk] at this))
  have hrv : ∀ r0, Recvd M w r0 → Recvd M (w₁.setCell M.ov (.int .i64 ((nFin P gh : Int) + 1))) r0 := fun r0 hr0 => by
    exact (hgr.2 r0 hr0).chan (setCell_ne fun e => hpc e.symm)
  by_cases hlast : nFin P gh + 1 = P.N
  · have hgi := h6.done hO hlic hi hT hph hgv hvl (a := { g := i, fn := g.frame.fn, pos := g.frame.place, act := .ofEvent (rdE M.ov) }) (b := { g := i, fn := g.frame.fn, pos := g.frame.place, act := .ofEvent (wrE M.ov) }) ⟨rfl, rfl⟩ ⟨rfl, rfl⟩ (x := .last) (.inr ⟨rfl, hlast⟩)
    rw [← htw] at hgi
    obtain ⟨hto, hco⟩ := add_to hO hG' ⟨_, _, _, _, _, h6.ch⟩ hlic hi hk hp hpA (fun hx => (hO.Xc _ hx).2.2.1 rfl) hO.oW (LK.after_le k M j ph).1 (fun l hl => by rw [(LK.after_le k M j ph).2]; exact hA l hl) hl2 hgi
    refine .go _ _ _ (k.after M j ph) _ (by rw [hb0]; exact hst) hto (hco _) ?_
    have he : (nFin P gh : Int) + 1 = (P.N : Int) := by omega
    rw [he] at hrel2 hrv ⊢
    exact hyes _ hrel2 hrv
  · have hgi := h6.done hO hlic hi hT hph hgv hvl (a := { g := i, fn := g.frame.fn, pos := g.frame.place, act := .ofEvent (rdE M.ov) }) (b := { g := i, fn := g.frame.fn, pos := g.frame.place, act := .ofEvent (wrE M.ov) }) ⟨rfl, rfl⟩ ⟨rfl, rfl⟩ (x := .idle) (.inl ⟨rfl, hlast⟩)
    rw [← htw] at hgi
    obtain ⟨hto, hco⟩ := add_to hO hG' ⟨_, _, _, _, _, h6.ch⟩ hlic hi hk hp hpA (fun hx => (hO.Xc _ hx).2.2.1 rfl) hO.oW (LK.after_le k M j ph).1 (fun l hl => by rw [(LK.after_le k M j ph).2]; exact hA l hl) hl2 hgi
    refine .go _ _ _ (k.after M j ph) _ (by rw [hb0]; exact hst) hto (hco _) ?_
    exact hno _ _ hrel2 (by omega) hrv
/-- ████ IT SENDS ON WHO CAN BEGIN. ████ -/
theorem wp_ggive (hO : GOk P M X Wg w0) (hi0 : i ≠ 0) {k : LK} {g : Goroutine} (hr : g.status = .running) (ho : g.offers = none) {j p m : Nat} (hm : (P.nxt j)[p]? = some m) {z : Value} (hs : SendAt Pr i g M.c (.int .i64 (m : Int)) z)
    (hc : ∀ w', Rely k w w' → (∀ r0, Recvd M w r0 → Recvd M w' r0) → WP (wgProto Pr (famG P M X Rl w0 m0) ty Wg m0 p0 tot Shun Anc) i k (.work (.busy j (.put (p + 1)))) (Go.Conc.served g undef) w') :
    WP (wgProto Pr (famG P M X Rl w0 m0) ty Wg m0 p0 tot Shun Anc) i k (.work (.busy j (.send p))) g w := by
  refine wp_famP (famG_ok hO) hi0 hr ho fun w₁ n T KK t hm0 hi hT hk hrel hgr hlic hG hA hd => ?_
  have hG' := hG
  obtain ⟨⟨h1, h2, h3, h4, h5⟩, gh, s, r, h6⟩ := hG
  obtain ⟨hopen, hroom, hl2, hgi⟩ := h6.give hO hlic hi hT hm hd (a := { g := i, fn := g.frame.fn, pos := g.frame.place, act := .send M.c s }) (b := { g := i, fn := g.frame.fn, pos := g.frame.place, act := .sendDone M.c s }) ⟨rfl, rfl⟩ ⟨rfl, rfl⟩
  have hch := h6.ch
  rw [hopen] at hch
  have hkk : upd KK i k = KK := by rw [← hk]; exact upd_self KK i
  have hnC := h6.noC i hi
  rw [hk] at hnC
  have hu : ∀ op ∈ (#[{ g := i, fn := g.frame.fn, pos := g.frame.place, act := .send M.c s }, { g := i, fn := g.frame.fn, pos := g.frame.place, act := .sendDone M.c s }] : Array MemOp), op.g = i ∧ ∀ m, op.act ≠ .mark m := fun op hop => by
    rcases mem_two hop with rfl | rfl <;> exact ⟨rfl, fun m e => by cases e⟩
  refine .send M.c (.int .i64 (m : Int)) z P.N (bufQ gh.q) s r false k (.busy j (.put (p + 1))) hs hch hroom ⟨fun op hop => ⟨(hu op hop).1, (hu op hop).2 _, (hu op hop).2 _, (hu op hop).2 _⟩, ?_, by rw [hkk]; exact hl2, famG_mk hG' hi (chan_rely hch ⟨id, fun hx => (hO.Xc _ hx).1 rfl⟩) (fun l _ hw => by rw [hk]; exact hw) (fun op hop a => (hu op hop).2 _) (by rw [hkk]; exact hgi), hA, fun j' hj' hji => ⟨chan_rely hch (h6.noC j' hj'), ?_, ?_⟩⟩ (fun j' x c hj' hji hx hid hex _ => ?_) (hc _ (hrel.trans (chan_rely hch hnC)) fun r0 hr0 => (recvd_chan (chan_self (Array.getElem?_eq_some_iff.1 hch).1)).2 ((recvd_chan hch).1 (hgr.2 r0 hr0)))
  · show (w₁.heap.setIfInBounds M.c _)[Wg]? = _
    rw [Array.getElem?_setIfInBounds, if_neg hO.cW]
  · rintro ⟨s1, r1, hx⟩
    rw [hch] at hx
    simp at hx
  · intro x hx
    exact (recvd_chan (chan_self (Array.getElem?_eq_some_iff.1 hch).1)).2 ((recvd_chan hch).1 hx)
  · exact absurd hid.2 hex
/-- A goroutine about to close the channel. -/
def CloseAt (Pr : Program) (g : Goroutine) (c : Nat) (g' : Goroutine) : Prop := mayWake Pr g = true ∧
  ∀ (w : World) cap buf s r, w.heap[c]? = some (.chan cap buf false s r false) → stepG Pr false g w = .go g' (w.setChan c cap buf true s r false) #[⟨.obj c, false, true⟩, ⟨.obj c, true, true⟩]
/-- ████ IT CLOSES THE QUEUE. ████ -/
theorem wp_gclose (hO : GOk P M X Wg w0) (hi0 : i ≠ 0) {k : LK} {g g' : Goroutine} (hr : g.status = .running) (ho : g.offers = none) (hs : CloseAt Pr g M.c g')
    (hc : ∀ w', Rely k w w' → (∀ r0, Recvd M w r0 → Recvd M w' r0) → WP (wgProto Pr (famG P M X Rl w0 m0) ty Wg m0 p0 tot Shun Anc) i k (.work .idle) g' w') :
    WP (wgProto Pr (famG P M X Rl w0 m0) ty Wg m0 p0 tot Shun Anc) i k (.work .last) g w := by
  refine wp_famP (famG_ok hO) hi0 hr ho fun w₁ n T KK t hm0 hi hT hk hrel hgr hlic hG hA hd => ?_
  have hG' := hG
  obtain ⟨⟨h1, h2, h3, h4, h5⟩, gh, s, r, h6⟩ := hG
  obtain ⟨hopen, hl2, hgi⟩ := h6.close hlic hi hT (a := { g := i, fn := g.frame.fn, pos := g.frame.place, act := .ofEvent ⟨.obj M.c, false, true⟩ }) (b := { g := i, fn := g.frame.fn, pos := g.frame.place, act := .ofEvent ⟨.obj M.c, true, true⟩ }) ⟨rfl, rfl⟩ ⟨rfl, rfl⟩
  have hch := h6.ch
  rw [hopen] at hch
  have hkk : upd KK i k = KK := by rw [← hk]; exact upd_self KK i
  have hnC := h6.noC i hi
  rw [hk] at hnC
  have htw := two_ops i g.frame.fn g.frame.place ⟨.obj M.c, false, true⟩ ⟨.obj M.c, true, true⟩
  rw [← htw] at hgi hl2
  have hu : ∀ op ∈ MemOp.ofEvents i g.frame.fn g.frame.place #[⟨.obj M.c, false, true⟩, ⟨.obj M.c, true, true⟩], op.g = i ∧ ∀ m, op.act ≠ .mark m := fun op hop => by
    rw [htw] at hop
    rcases mem_two hop with rfl | rfl <;> exact ⟨rfl, fun m e => by cases e⟩
  have hb0 : (i == 0) = false := by simpa using hi0
  have hlt := (Array.getElem?_eq_some_iff.1 hch).1
  have hrr : ∀ x, Recvd M w₁ x → Recvd M (w₁.setChan M.c P.N (bufQ gh.q) true s r false) x := fun x hx => (recvd_chan (chan_self hlt)).2 ((recvd_chan hch).1 hx)
  refine .go g' _ _ k .idle (by rw [hb0]; exact hs.2 w₁ _ _ _ _ hch) ⟨fun op hop => ⟨(hu op hop).1, (hu op hop).2 _, (hu op hop).2 _, (hu op hop).2 _⟩, ?_, by rw [hkk]; exact hl2, famG_mk hG' hi (chan_rely hch ⟨id, fun hx => (hO.Xc _ hx).1 rfl⟩) (fun l _ hw => by rw [hk]; exact hw) (fun op hop a => (hu op hop).2 _) (by rw [hkk]; exact hgi), hA, fun j' hj' hji => ⟨chan_rely hch (h6.noC j' hj'), ?_, hrr⟩⟩ (fun j' x c hj' hji hx hid _ hmt => ?_) (hc _ (hrel.trans (chan_rely hch hnC)) fun r0 hr0 => hrr r0 (hgr.2 r0 hr0))
  · show (w₁.heap.setIfInBounds M.c _)[Wg]? = _
    rw [Array.getElem?_setIfInBounds, if_neg hO.cW]
  · rintro ⟨s1, r1, hx⟩
    rw [hch] at hx
    simp at hx
  · obtain ⟨_, rfl⟩ := hid
    exact .inr ⟨hs.1, _, _, _, _, _, chan_self hlt⟩
end
end Go.Proofs.Yticdjkkcfdbdcaa
