/- What actor.Run keeps from time to time. No conditions. -/
import Derived.Test.YticdjkkcfdbdcaaAcPw
import Derived.Test.YticdjkkcfdbdcaaAcPe
import Derived.Test.YticdjkkcfdbdcaaAcSu
import Derived.Test.YticdjkkcfdbdcaaPhZ
namespace Go.Proofs.Yticdjkkcfdbdcaa
open Go.Conc Go.ConcN Go.RowKit Go.ChangeShapes Go.WideShapes Go.ChangeAt
/-- The frame between two times. -/
structure TimeA (A AX : Option Addr) (c cl n m : Nat) (E wk tt : Int) (N0 g : Nat) (lv : Value) (a : Act) : Prop where
  size : a.tmps.size = 178
  d : a.defers = []
  t0 : a.eval (.tmp 0) = .slice A n c
  t1 : a.eval (.tmp 1) = .slice AX m cl
  t2 : a.eval (.tmp 2) = .int .i64 E
  t3 : a.eval (.tmp 3) = .int .i64 wk
  t7 : a.eval (.tmp 7) = .pointer (some ⟨N0, 0, none⟩)
  t8 : a.eval (.tmp 8) = .slice none 0 0
  t9 : a.eval (.tmp 9) = lv
  t10 : a.eval (.tmp 10) = .int .i64 0
  t12 : a.eval (.tmp 12) = .slice (some ⟨g, 0, none⟩) n n
  t76 : a.eval (.tmp 76) = .int .i64 (E + 1)
  t77 : a.eval (.tmp 77) = .int .i64 tt
/-- What lies between two times. -/
structure TimeL (R : List (List RuleR)) (L L' : World) (E wk tt : Int) (N0 g : Nat) (c0 c : Come) (l : List AL) (lv : Value) (log : List LetR) : Prop where
  lies : LiesA L' g (g + 1) g R (cutD c tt []) l
  nil : ∀ x ∈ l, x.sv = .slice none 0 0 ∧ x.sent = []
  olog : ownX L' L.heap.size lv log
  far : ∀ (j : Nat) (z : AL) (s : Int), l[j]? = some z → (cvA z s).ownBlock = none ∨ (cvA z s).ownBlock ≠ lv.ownBlock
  few : log.length ≤ 100000
  sum : ∀ s, ((List.range R.length).map fun i => (c i s).length).sum ≤ 200 + log.length
  times : ∀ i s, ∀ y ∈ c i s, y.time = s ∧ y.to = (i : Int) ∧ 0 ≤ s ∧ s ≤ 100000 ∧ i < R.length
  runs : 0 ≤ tt ∧ tt ≤ E + 1 ∧ runA R (E + 1 - tt).toNat tt (l.map (·.num)) c log = runA R (E.toNat + 1) 0 (List.replicate R.length 0) c0 []
  kp : Kp L.heap.size L L'
  box : L'.heap[N0]? = some (.cells #[.int .i64 wk] 3 (0, 0))
theorem TimeL.same {R : List (List RuleR)} {L L' L2 : World} {E wk tt : Int} {N0 g : Nat} {c0 c : Come} {l : List AL} {lv : Value} {log : List LetR} (h : TimeL R L L' E wk tt N0 g c0 c l lv log) (e : L2.heap = L'.heap) : TimeL R L L2 E wk tt N0 g c0 c l lv log :=
  ⟨h.lies.same e, h.nil, own_of_block h.olog fun b _ => by rw [e], h.far, h.few, h.sum, h.times, h.runs, h.kp.same e, by rw [e]; exact h.box⟩
theorem TimeL.alloc {R : List (List RuleR)} {L L' : World} {E wk tt : Int} {N0 g : Nat} {c0 c : Come} {l : List AL} {lv : Value} {log : List LetR} (h : TimeL R L L' E wk tt N0 g c0 c l lv log) (o : Obj) : TimeL R L (L'.alloc o) E wk tt N0 g c0 c l lv log :=
  ⟨h.lies.alloc o, h.nil, h.olog.alloc o, h.far, h.few, h.sum, h.times, h.runs, h.kp.alloc o, (Below.heap_alloc L' o N0 (Array.getElem?_eq_some_iff.1 h.box).1).trans h.box⟩
/-- The loop's state. -/
def TimeI (A AX : Option Addr) (c cl n m : Nat) (E wk : Int) (N0 g : Nat) (R : List (List RuleR)) (c0 : Come) (L : World) (a : Act) (L' : World) : Prop :=
  ∃ (tt : Int) (lv : Value) (cc : Come) (l : List AL) (log : List LetR), TimeA A AX c cl n m E wk tt N0 g lv a ∧ TimeL R L L' E wk tt N0 g c0 cc l lv log
/-- The measure of the loop over time. -/
def tiMeas (E : Int) (a : Act) : Nat := match a.eval (.tmp 77) with
  | .int _ t => (E + 1 - t).toNat
  | _ => 0
theorem comeL_times : ∀ (ls : List LetR) (c : Come), (∀ i s, ∀ y ∈ c i s, y.time = s ∧ y.to = (i : Int)) → ∀ i s, ∀ y ∈ ls.foldl Come.add c i s, y.time = s ∧ y.to = (i : Int)
  | [], _, h => h
  | x :: ls, c, h => comeL_times ls (c.add x) fun i s y hy => by
    unfold Come.add at hy
    split at hy
    · rename_i e
      rcases List.mem_append.1 hy with hy | hy
      · exact h i s y hy
      · rw [List.mem_singleton] at hy
        subst hy
        exact ⟨e.2.symm, e.1.symm⟩
    · exact h i s y hy
theorem comeL_mem : ∀ (ls : List LetR) (c : Come) (i : Nat) (s : Int), ∀ y ∈ ls.foldl Come.add c i s, y ∈ c i s ∨ y ∈ ls
  | [], _, _, _, _, h => .inl h
  | x :: ls, c, i, s, y, h => by
    rcases comeL_mem ls (c.add x) i s y h with h | h
    · unfold Come.add at h
      split at h
      · rcases List.mem_append.1 h with h | h
        · exact .inl h
        · rw [List.mem_singleton] at h
          exact .inr (h ▸ List.mem_cons_self ..)
      · exact .inl h
    · exact .inr (List.mem_cons_of_mem _ h)
theorem foldl_addAll : ∀ (ls : List LetR) (c : Come), ls.foldl Come.add c = c.addAll ls
  | [], _ => rfl
  | x :: ls, c => foldl_addAll ls (c.add x)
theorem timeL_start {R : List (List RuleR)} {L L' : World} {E wk : Int} {N0 g : Nat} {ls : List LetR} {l : List AL} (hL : LiesA L' g (g + 1) g R (comeL ls) l) (hnil : ∀ x ∈ l, x.num = 0 ∧ x.sent = [] ∧ x.sv = .slice none 0 0) (kp : Kp L.heap.size L L') (box : L'.heap[N0]? = some (.cells #[.int .i64 wk] 3 (0, 0)))
    (hls : ∀ x ∈ ls, 0 ≤ x.time ∧ x.time ≤ 100000 ∧ x.to < R.length) (hm : ls.length ≤ 200) (hE : 0 ≤ E) : TimeL R L L' E wk 0 N0 g (comeL ls) (comeL ls) l (.slice none 0 0) [] where
  lies := by
    rw [cutD_start]
    · exact hL
    · intro i s hs
      refine List.eq_nil_iff_forall_not_mem.2 fun y hy => ?_
      have h1 := comeL_times ls (fun _ _ => []) (fun _ _ _ h => by cases h) i s y hy
      rcases comeL_mem ls (fun _ _ => []) i s y hy with h | h
      · cases h
      · have := hls y h; omega
  nil := fun x hx => ⟨(hnil x hx).2.2, (hnil x hx).2.1⟩
  olog := World.ownsRow_nil ..
  far := fun j z s _ => by
    cases h : (cvA z s).ownBlock with
    | none => exact .inl rfl
    | some b => exact .inr (by simp [Value.ownBlock])
  few := by simp
  sum := fun s => by
    unfold comeL
    rw [foldl_addAll]
    have := sum_addAll ls (fun _ _ => []) R.length s
    have h0 : ((List.range R.length).map fun _ => ([] : List LetR).length).sum = 0 := by
      generalize List.range R.length = r
      induction r with
      | nil => rfl
      | cons a r ih => simpa using ih
    rw [h0] at this
    simp only [List.length_nil]
    omega
  times := fun i s y hy => by
    have h1 := comeL_times ls (fun _ _ => []) (fun _ _ _ h => by cases h) i s y hy
    rcases comeL_mem ls (fun _ _ => []) i s y hy with h | h
    · cases h
    · have := hls y h
      exact ⟨h1.1, h1.2, by omega, by omega, by omega⟩
  runs := by
    refine ⟨Int.le_refl _, by omega, ?_⟩
    rw [show (E + 1 - 0).toNat = E.toNat + 1 by omega, show l.map (·.num) = List.replicate R.length 0 from ?_]
    refine List.eq_replicate_iff.2 ⟨by rw [List.length_map, hL.len], fun b hb => ?_⟩
    obtain ⟨x, hx, rfl⟩ := List.mem_map.1 hb
    exact (hnil x hx).1
  kp := kp
  box := box
/-- The numbers are told one behind the other. -/
structure OutA (L : World) (g : Nat) (l : List AL) (lv : Value) (log : List LetR) (q : Nat) (v : Value) (w : World) : Prop where
  blk : Blk w g 140 (cellsA l)
  olog : ownX w L.heap.size lv log
  own : w.ownsRow L.heap.size 2 1 v q (ints ((l.map (·.num)).take q))
  kp : Kp L.heap.size L w
section
variable {L w w' : World} {g q : Nat} {l : List AL} {lv v : Value} {log : List LetR}
theorem OutA.same (h : OutA L g l lv log q v w) (e : w'.heap = w.heap) : OutA L g l lv log q v w' :=
  ⟨by have := h.blk; unfold Blk at this ⊢; rw [e]; exact this, own_of_block h.olog fun b _ => by rw [e], own_of_block h.own fun b _ => by rw [e], h.kp.same e⟩
theorem OutA.push (h : OutA L g l lv log q v w) {o : Obj} {v' : Value} (hq : q < l.length) (hg : (w.alloc o).grownBy w' v.ownBlock) (ho : w'.ownsRow L.heap.size 2 1 v' (q + 1) (ints ((l.map (·.num)).take q) ++ [.int .i64 l[q].num])) : OutA L g l lv log (q + 1) v' w' := by
  have hb := h.blk
  unfold Blk at hb
  have hne : ∀ (b : Nat) (cur : Array Value) (ty : TypeId) (fz : Nat × Nat), ty ≠ 2 → w.heap[b]? = some (.cells cur ty fz) → w'.heap[b]? = w.heap[b]? := fun b cur ty fz ht hbb => by
    have hlt := (Array.getElem?_eq_some_iff.1 hbb).1
    rw [hg.block b (by rw [World.size_alloc]; omega) (fun e => ?_), Below.heap_alloc _ _ _ hlt]
    obtain ⟨_, cur2, h2⟩ := own_block_at h.own e.symm
    rw [hbb] at h2; cases h2; exact ht rfl
  refine ⟨(hne g _ _ _ (by decide) hb).trans h.blk, own_of_block h.olog fun b hbb => ?_, ?_, (h.kp.alloc o).grown hg fun b hbb => (h.own.lt _ hbb).1⟩
  · obtain ⟨_, cur, h2⟩ := own_block_at h.olog hbb
    exact hne b _ _ _ (by decide) h2
  · rw [List.take_succ_eq_append_getElem (by simpa using hq)]
    simpa [ints] using ho
end
/-- A time of runA. -/
theorem runA_step {R : List (List RuleR)} {E tt : Int} {nums : List Int} {c : Come} {log : List LetR} (h : tt < E + 1) :
    runA R (E + 1 - tt).toNat tt nums c log = if 100000 < (log ++ logR R.length c tt).length then none else runA R (E + 1 - (tt + 1)).toNat (tt + 1) (timeR R c tt nums).1 (c.addAll (timeR R c tt nums).2) (log ++ logR R.length c tt) := by
  obtain ⟨k, hk⟩ : ∃ k, (E + 1 - tt).toNat = k + 1 := ⟨(E + 1 - tt).toNat - 1, by omega⟩
  rw [hk, show (E + 1 - (tt + 1)).toNat = k by omega]
  rfl
/-- What a time makes of the actors is what runA says. -/
theorem after_nums {R : List (List RuleR)} {c : Come} {t : Int} {l l' : List AL} (h : AfterT R c t l l') : l'.map (·.num) = (timeR R c t (l.map (·.num))).1 := by
  apply List.ext_getElem?
  intro j
  simp only [timeR, List.getElem?_map, List.getElem?_mapIdx]
  cases hj : l[j]? with
  | none =>
    have : l'[j]? = none := List.getElem?_eq_none (by rw [h.1]; exact List.getElem?_eq_none_iff.1 hj)
    simp [this]
  | some x =>
    obtain ⟨x', h1, h2, _⟩ := h.2 j x hj
    simp [h1, h2]
theorem after_sent {R : List (List RuleR)} {c : Come} {t : Int} {l l' : List AL} (h : AfterT R c t l l') : l'.flatMap (·.sent) = (timeR R c t (l.map (·.num))).2 := by
  simp only [timeR, List.flatMap_def]
  congr 1
  apply List.ext_getElem?
  intro j
  simp only [List.getElem?_map, List.getElem?_mapIdx]
  cases hj : l[j]? with
  | none =>
    have : l'[j]? = none := List.getElem?_eq_none (by rw [h.1]; exact List.getElem?_eq_none_iff.1 hj)
    simp [this]
  | some x =>
    obtain ⟨x', h1, _, h3, _⟩ := h.2 j x hj
    simp [h1, h3]
theorem timeR_cut (R : List (List RuleR)) (c : Come) (t : Int) (nums : List Int) : timeR R (cutD c t []) t nums = timeR R c t nums := by
  have h : ∀ i, cutD c t [] i t = c i t := cutD_now c t
  simp only [timeR, h]
end Go.Proofs.Yticdjkkcfdbdcaa

/- The actors whose time has come, one behind the other: what lies. No conditions. -/
namespace Go.Proofs.Yticdjkkcfdbdcaa
open Go.Conc Go.ConcN Go.RowKit Go.ChangeShapes Go.WideShapes Go.ChangeAt
/-- Those of the first q to whom something comes. -/
def nowB (c : Come) (t : Int) (q : Nat) : List Nat := (List.range q).filter fun i => !(c i t).isEmpty
theorem nowB_succ (c : Come) (t : Int) (q : Nat) : nowB c t (q + 1) = nowB c t q ++ if (c q t).isEmpty then [] else [q] := by
  unfold nowB
  rw [List.range_succ, List.filter_append]
  congr 1
  cases h : (c q t).isEmpty <;> simp [h]
theorem nowB_nodup (c : Come) (t : Int) (q : Nat) : (nowB c t q).Nodup := List.nodup_range.filter _
theorem nowB_lt {c : Come} {t : Int} {q i : Nat} (h : i ∈ nowB c t q) : i < q ∧ c i t ≠ [] := by
  unfold nowB at h
  rw [List.mem_filter, List.mem_range] at h
  refine ⟨h.1, fun e => ?_⟩
  rw [e] at h
  simp at h
theorem nowB_not {c : Come} {t : Int} {q i : Nat} (hi : i < q) (h : i ∉ nowB c t q) : c i t = [] := by
  unfold nowB at h
  rw [List.mem_filter, List.mem_range] at h
  cases hc : c i t with
  | nil => rfl
  | cons a l => exact absurd ⟨hi, by simp [hc]⟩ h
theorem nowB_len (c : Come) (t : Int) (q : Nat) : (nowB c t q).length ≤ q := by
  have := List.length_filter_le (fun i => !(c i t).isEmpty) (List.range q)
  simpa [nowB] using this
/-- What lies while actors whose time has come are listed; the log grows. -/
structure NowL (R : List (List RuleR)) (L L' : World) (wk tt : Int) (N0 g bT bN : Nat) (cc : Come) (l : List AL) (lv : Value) (log : List LetR) (bs : List Nat) (nv : Value) : Prop where
  lies : LiesA L' g (g + 1) g R cc l
  olog : ownX L' L.heap.size lv log
  far : ∀ (j : Nat) (z : AL) (s : Int), l[j]? = some z → (cvA z s).ownBlock = none ∨ (cvA z s).ownBlock ≠ lv.ownBlock
  kp : Kp L.heap.size L L'
  low : L.heap.size ≤ g
  box : L'.heap[N0]? = some (.cells #[.int .i64 wk] 3 (0, 0))
  boxT : L'.heap[bT]? = some (.cells #[.int .i64 tt] 3 (0, 0))
  boxN : L'.heap[bN]? = some (.cells #[nv] 141 (0, 0))
  own : ownP L' L.heap.size nv g bs
  lowN : L.heap.size ≤ bN
section
variable {R : List (List RuleR)} {L L' L2 : World} {E wk tt : Int} {N0 g bT bN : Nat} {c0 c cc : Come} {l : List AL} {lv nv : Value} {log : List LetR} {bs : List Nat}
theorem NowL.start (h : TimeL R L L' E wk tt N0 g c0 c l lv log) (hg : L.heap.size ≤ g) (hb : L.heap.size ≤ bN) (hT : L'.heap[bT]? = some (.cells #[.int .i64 tt] 3 (0, 0))) (hN : L'.heap[bN]? = some (.cells #[.slice none 0 0] 141 (0, 0))) :
    NowL R L L' wk tt N0 g bT bN (cutD c tt []) l lv (log ++ logTo c tt 0) (nowB c tt 0) (.slice none 0 0) :=
  ⟨h.lies, by simpa [logTo] using h.olog, h.far, h.kp, hg, h.box, hT, hN, World.ownsRow_nil .., hb⟩
theorem NowL.same (h : NowL R L L' wk tt N0 g bT bN cc l lv log bs nv) (e : L2.heap = L'.heap) : NowL R L L2 wk tt N0 g bT bN cc l lv log bs nv :=
  ⟨h.lies.same e, own_of_block h.olog fun b _ => by rw [e], h.far, h.kp.same e, h.low, by rw [e]; exact h.box, by rw [e]; exact h.boxT, by rw [e]; exact h.boxN, own_of_block h.own fun b _ => by rw [e], h.lowN⟩
/-- An actor is listed. -/
theorem NowL.list (h : NowL R L L' wk tt N0 g bT bN cc l lv log bs nv) {v2 : Value} {i : Nat} (hN : L2.heap[bN]? = some (.cells #[v2] 141 (0, 0))) (ho : ownP L2 L.heap.size v2 g (bs ++ [i])) (hf : ∀ b, b < L'.heap.size → some b ≠ nv.ownBlock → b ≠ bN → L2.heap[b]? = L'.heap[b]?) (hz : L'.heap.size ≤ L2.heap.size) :
    NowL R L L2 wk tt N0 g bT bN cc l lv log (bs ++ [i]) v2 := by
  have hk : ∀ {b : Nat} {o : Obj}, L'.heap[b]? = some o → (∀ x, o ≠ .cells x 142 (0, 0)) → (∀ x, o ≠ .cells x 141 (0, 0)) → L2.heap[b]? = L'.heap[b]? := fun {b o} hb h1 h2 => by
    refine hf b (Array.getElem?_eq_some_iff.1 hb).1 (fun e => ?_) fun e => ?_
    · obtain ⟨_, cur, h3⟩ := own_block_at h.own e.symm
      rw [hb] at h3
      exact h1 _ (Option.some.inj h3)
    · subst e
      have := h.boxN
      rw [hb] at this
      exact h2 _ (Option.some.inj this)
  have hkt : ∀ {b : Nat} {x : Array Value} {ty : TypeId} {fz : Nat × Nat}, L'.heap[b]? = some (.cells x ty fz) → ty ≠ 142 → ty ≠ 141 → L2.heap[b]? = L'.heap[b]? := fun {b x ty fz} hb h1 h2 =>
    hk hb (fun x' e => by injection e with _ e _; exact h1 e) fun x' e => by injection e with _ e _; exact h2 e
  have hgl := h.lies.blk
  unfold Blk at hgl
  refine ⟨h.lies.keep hz (hkt hgl (by decide) (by decide)) (fun b es k hb => hk hb (fun x e => by cases e) fun x e => by cases e) (fun b cur _ hb _ => hkt hb (by decide) (by decide)) fun b x ty fz hty hb => hkt hb (fun e => by subst e; exact info_ptrA hty) fun e => by subst e; exact info_nowT hty,
    own_of_block h.olog fun b hb => ?_, h.far, h.kp.keep hz fun b hb => ?_, h.low, (hkt h.box (by decide) (by decide)).trans h.box, (hkt h.boxT (by decide) (by decide)).trans h.boxT, hN, ho, h.lowN⟩
  · obtain ⟨_, cur, h2⟩ := own_block_at h.olog hb
    exact hkt h2 (by decide) (by decide)
  · refine hf b (by have := h.kp.size; omega) (fun e => ?_) (by have := h.lowN; omega)
    have := (own_block_at h.own e.symm).1
    omega
/-- Letters come to the log. -/
theorem NowL.news (h : NowL R L L' wk tt N0 g bT bN cc l lv log bs nv) {lv2 : Value} {ys : List LetR} (ho : ownX L2 L.heap.size lv2 (log ++ ys)) (hg : L'.grownBy L2 lv.ownBlock) (hb2 : lv2.ownBlock = lv.ownBlock ∨ lv2.ownBlock = some L'.heap.size) :
    NowL R L L2 wk tt N0 g bT bN cc l lv2 (log ++ ys) bs nv := by
  have hk : ∀ {b : Nat} {o : Obj}, L'.heap[b]? = some o → (∀ x, o ≠ .cells x 49 (0, 0)) → L2.heap[b]? = L'.heap[b]? := fun {b o} hb h1 => by
    refine hg.block b (Array.getElem?_eq_some_iff.1 hb).1 fun e => ?_
    obtain ⟨_, cur, h3⟩ := own_block_at h.olog e.symm
    rw [hb] at h3
    exact h1 _ (Option.some.inj h3)
  have hkt : ∀ {b : Nat} {x : Array Value} {ty : TypeId} {fz : Nat × Nat}, L'.heap[b]? = some (.cells x ty fz) → ty ≠ 49 → L2.heap[b]? = L'.heap[b]? := fun {b x ty fz} hb h1 => hk hb fun x' e => by injection e with _ e _; exact h1 e
  have hgl := h.lies.blk
  unfold Blk at hgl
  refine ⟨h.lies.keep hg.size (hkt hgl (by decide)) (fun b es k hb => hk hb fun x e => by cases e) (fun b cur _ hb hx => ?_) fun b x ty fz hty hb => hkt hb fun e => by subst e; exact info_letter_n hty,
    ho, fun j z s hj => ?_, h.kp.grown hg fun b hb => (own_block_at h.olog hb).1, h.low, (hkt h.box (by decide)).trans h.box, (hkt h.boxT (by decide)).trans h.boxT, (hkt h.boxN (by decide)).trans h.boxN, own_of_block h.own fun b hb => ?_, h.lowN⟩
  · obtain ⟨x, t, hx, hbx⟩ := hx
    obtain ⟨j, hj⟩ := List.mem_iff_getElem?.1 hx
    refine hg.block b (Array.getElem?_eq_some_iff.1 hb).1 fun e => ?_
    rcases h.far j x t hj with h3 | h3
    · rw [h3] at hbx; cases hbx
    · exact h3 (hbx.trans e)
  · rcases hb2 with e | e
    · rw [e]; exact h.far j z s hj
    · rw [e]
      cases hq : (cvA z s).ownBlock with
      | none => exact .inl rfl
      | some b =>
        have := (h.lies.row hj hq).2.1
        exact .inr (by simp; omega)
  · obtain ⟨_, cur, h2⟩ := own_block_at h.own hb
    exact hkt h2 (by decide)
/-- The cells of what comes to an actor. -/
theorem own_cellsX {w : World} {base b m cap : Nat} {ys : List LetR} (h : ownX w base (.slice (some ⟨b, 0, none⟩) m cap) ys) : ∀ j u, (flatX ys)[j]? = some u → w.cell? ((⟨b, 0, none⟩ : Addr).add j) = some u := by
  intro j u hj
  rcases h.2 with ⟨e, _⟩ | ⟨g, cap, cur, e, h1, h2, _, _, _, h6⟩
  · cases e
  · cases e
    rw [show ((⟨b, 0, none⟩ : Addr).add j) = ⟨b, j, none⟩ by simp [Addr.add_lit'], cell_of_row _ _ _ _ _ _ h2]
    rw [← h6, List.getElem?_take] at hj
    split at hj
    · simpa using hj
    · cases hj
theorem own_some {w : World} {base : Nat} {v : Value} {ys : List LetR} {m : Nat} (h : ownX w base v ys) (hn : ys.length = m + 1) : ∃ b cap, v = .slice (some ⟨b, 0, none⟩) (m + 1) cap := by
  have hf := flatX_len ys
  rcases h.2 with ⟨_, e⟩ | ⟨g, cap, cur, e, _⟩
  · omega
  · exact ⟨g, cap, by rw [e, hn]⟩
theorem own_nil {w : World} {base : Nat} {v : Value} {ys : List LetR} (h : ownX w base v ys) (hn : ys.length = 0) : ∃ A c, v = .slice A 0 c := by
  obtain ⟨A, c, e, _⟩ := own_form h
  exact ⟨A, c, by rw [e, hn]⟩
theorem logTo_le (c : Come) (t : Int) {q n : Nat} (h : q ≤ n) : (logTo c t q).length ≤ (logTo c t n).length := by
  induction h with
  | refl => exact Nat.le_refl _
  | step _ ih =>
    rw [logTo_succ, List.length_append]
    omega
/-- The log's length while a time's letters are told. -/
theorem log_room {R : List (List RuleR)} {c : Come} {t : Int} {log : List LetR} {q : Nat} (hs : ((List.range R.length).map fun i => (c i t).length).sum ≤ 200 + log.length) (hf : log.length ≤ 100000) (hq : q < R.length) : (log ++ logTo c t q).length + (c q t).length ≤ 200200 := by
  have h1 := logTo_le c t (show q + 1 ≤ R.length from hq)
  rw [logTo_succ, List.length_append] at h1
  have h2 : (logTo c t R.length).length = _ := logR_len R.length c t
  rw [List.length_append]
  omega
end
end Go.Proofs.Yticdjkkcfdbdcaa

/- What was sent is put where it comes, one actor behind the other: what lies. No conditions. -/
namespace Go.Proofs.Yticdjkkcfdbdcaa
open Go.Conc Go.ConcN Go.RowKit Go.ChangeShapes Go.WideShapes Go.ChangeAt
/-- What an actor of these sent. -/
def sentO (l : List AL) (j : Nat) : List LetR := (l[j]?.map (·.sent)).getD []
theorem sentO_all (l : List AL) : (List.range l.length).flatMap (sentO l) = l.flatMap (·.sent) := by
  rw [List.flatMap_def, List.flatMap_def]
  congr 1
  apply List.ext_getElem?
  intro j
  simp only [List.getElem?_map]
  by_cases h : j < l.length
  · rw [List.getElem?_range h, List.getElem?_eq_getElem h]
    simp [sentO, List.getElem?_eq_getElem h]
  · rw [List.getElem?_eq_none (by simpa using h), List.getElem?_eq_none (by omega)]
    rfl
theorem flatMap_filter {f : Nat → List LetR} {p : Nat → Bool} : ∀ (l : List Nat), (∀ j ∈ l, p j = false → f j = []) → (l.filter p).flatMap f = l.flatMap f
  | [], _ => rfl
  | j :: l, h => by
    have ih := flatMap_filter l fun k hk => h k (List.mem_cons_of_mem _ hk)
    cases hp : p j with
    | true => rw [List.filter_cons_of_pos (by simpa using hp), List.flatMap_cons, List.flatMap_cons, ih]
    | false => rw [List.filter_cons_of_neg (by simp [hp]), List.flatMap_cons, ih, h j (List.mem_cons_self ..) hp, List.nil_append]
/-- All that was sent is what those in the list sent. -/
theorem sent_now {R : List (List RuleR)} {c : Come} {t : Int} {l l' : List AL} (h : AfterT R c t l l') {n : Nat} (hn : l.length = n) : (nowB c t n).flatMap (sentO l') = l'.flatMap (·.sent) := by
  rw [← sentO_all, h.1, hn]
  refine flatMap_filter _ fun j hj hp => ?_
  rw [List.mem_range] at hj
  have hjl : j < l.length := by omega
  obtain ⟨x', h1, _, h3, _⟩ := h.2 j _ (List.getElem?_eq_getElem hjl)
  have hc : c j t = [] := by
    cases hc : c j t with
    | nil => rfl
    | cons a b => rw [hc] at hp; simp at hp
  simp [sentO, h1, h3, hc, atR]
/-- What lies while what was sent is put. td: those whose letters are still to be put. -/
structure PutL (R : List (List RuleR)) (L L' : World) (wk tt : Int) (N0 g bT : Nat) (cc : Come) (l1 l : List AL) (lv : Value) (log : List LetR) (bs : List Nat) (nv : Value) (td : List Nat) : Prop where
  lies : LiesA L' g (g + 1) g R cc l
  olog : ownX L' L.heap.size lv log
  far : ∀ (j : Nat) (z : AL) (s : Int), l[j]? = some z → (cvA z s).ownBlock = none ∨ (cvA z s).ownBlock ≠ lv.ownBlock
  kp : Kp L.heap.size L L'
  low : L.heap.size ≤ g
  box : L'.heap[N0]? = some (.cells #[.int .i64 wk] 3 (0, 0))
  boxT : L'.heap[bT]? = some (.cells #[.int .i64 tt] 3 (0, 0))
  own : ownP L' L.heap.size nv g bs
  nums : l.map (·.num) = l1.map (·.num)
  todo : ∀ (j : Nat) x, l[j]? = some x → if j ∈ td then x.sent = sentO l1 j else x.sv = .slice none 0 0 ∧ x.sent = []
section
variable {R : List (List RuleR)} {L L' L2 : World} {E wk tt : Int} {N0 g bT bN : Nat} {c0 c cc : Come} {l1 l : List AL} {lv nv : Value} {log : List LetR} {bs td : List Nat}
theorem PutL.same (h : PutL R L L' wk tt N0 g bT cc l1 l lv log bs nv td) (e : L2.heap = L'.heap) : PutL R L L2 wk tt N0 g bT cc l1 l lv log bs nv td :=
  ⟨h.lies.same e, own_of_block h.olog fun b _ => by rw [e], h.far, h.kp.same e, h.low, by rw [e]; exact h.box, by rw [e]; exact h.boxT, own_of_block h.own fun b _ => by rw [e], h.nums, h.todo⟩
theorem PutL.alloc (h : PutL R L L' wk tt N0 g bT cc l1 l lv log bs nv td) (o : Obj) : PutL R L (L'.alloc o) wk tt N0 g bT cc l1 l lv log bs nv td :=
  ⟨h.lies.alloc o, h.olog.alloc o, h.far, h.kp.alloc o, h.low, (Below.heap_alloc L' o _ (Array.getElem?_eq_some_iff.1 h.box).1).trans h.box, (Below.heap_alloc L' o _ (Array.getElem?_eq_some_iff.1 h.boxT).1).trans h.boxT, h.own.alloc o, h.nums, h.todo⟩
/-- When the actors have worked. -/
theorem PutL.start {l0 : List AL} (h : NowL R L L' wk tt N0 g bT bN (cutD c tt []) l0 lv log bs nv) (hn : l0.length = R.length) (hbs : bs = nowB c tt l0.length) (hl : LiesA L2 g (g + 1) g R (cutD c tt []) l) (ha : AfterT R (cutD c tt []) tt l0 l) (hnil : ∀ x ∈ l0, x.sv = .slice none 0 0 ∧ x.sent = []) (hz : L'.heap.size ≤ L2.heap.size) (hf : ∀ b, b < L'.heap.size → b ≠ g → L2.heap[b]? = L'.heap[b]?) :
    PutL R L L2 wk tt N0 g bT (cutD (c.addAll []) tt []) l l lv log bs nv bs := by
  have hgl := h.lies.blk
  unfold Blk at hgl
  have hkt : ∀ {b : Nat} {x : Array Value} {ty : TypeId} {fz : Nat × Nat}, L'.heap[b]? = some (.cells x ty fz) → ty ≠ 140 → L2.heap[b]? = L'.heap[b]? := fun {b x ty fz} hb h1 => hf b (Array.getElem?_eq_some_iff.1 hb).1 fun e => by
    subst e
    rw [hgl] at hb
    injection hb with hb
    injection hb with _ e _
    exact h1 e.symm
  refine ⟨hl, own_of_block h.olog fun b hb => ?_, fun j z s hj => ?_, h.kp.keep hz fun b hb => hf b (by have := h.kp.size; omega) (by have := h.low; omega), h.low, (hkt h.box (by decide)).trans h.box, (hkt h.boxT (by decide)).trans h.boxT, own_of_block h.own fun b hb => ?_, rfl, fun j x hj => ?_⟩
  · obtain ⟨_, cur, h2⟩ := own_block_at h.olog hb
    exact hkt h2 (by decide)
  · have hjl : j < l0.length := by rw [← ha.1]; exact (List.getElem?_eq_some_iff.1 hj).1
    obtain ⟨x', h1, _, _, _, _, _, h7⟩ := ha.2 j _ (List.getElem?_eq_getElem hjl)
    rw [hj] at h1
    cases h1
    have := h.far j _ s (List.getElem?_eq_getElem hjl)
    unfold cvA at this ⊢
    rw [h7]
    exact this
  · obtain ⟨_, cur, h2⟩ := own_block_at h.own hb
    exact hkt h2 (by decide)
  · split
    · simp [sentO, hj]
    · rename_i hnb
      have hjl : j < l0.length := by rw [← ha.1]; exact (List.getElem?_eq_some_iff.1 hj).1
      obtain ⟨x', h1, _, h3, _⟩ := ha.2 j _ (List.getElem?_eq_getElem hjl)
      rw [hj] at h1
      cases h1
      have hc : c j tt = [] := nowB_not hjl (by rw [← hbs]; exact hnb)
      rw [cutD_now, hc] at h3
      rcases hl.sents _ (List.mem_of_getElem? hj) with h4 | ⟨_, _, _, _, _, _, _, h4⟩
      · exact ⟨h4.2, h4.1⟩
      · exact absurd h3 h4
/-- A letter is put. -/
theorem PutL.put (h : PutL R L L' wk tt N0 g bT cc l1 l lv log bs nv td) {i : Nat} {x : AL} {y : LetR} {v2 : Value} (hx : l[i]? = some x) (hl : LiesA L2 g (g + 1) g R (cc.add y) (l.set i { x with ca := putI x.ca y.time v2 }))
    (hf : ∀ b, b < L'.heap.size → some b ≠ (cvA x y.time).ownBlock → b ≠ x.cb → L2.heap[b]? = L'.heap[b]?) (hz : L'.heap.size ≤ L2.heap.size) (hb2 : v2.ownBlock = (cvA x y.time).ownBlock ∨ ∃ b, v2.ownBlock = some b ∧ L'.heap.size ≤ b) :
    PutL R L L2 wk tt N0 g bT (cc.add y) l1 (l.set i { x with ca := putI x.ca y.time v2 }) lv log bs nv td := by
  have hm := (h.lies.comes i x hx).1
  have hk : ∀ {b : Nat} {cs : Array Value} {ty : TypeId} {fz : Nat × Nat}, L'.heap[b]? = some (.cells cs ty fz) → some b ≠ (cvA x y.time).ownBlock → L2.heap[b]? = L'.heap[b]? := fun {b cs ty fz} hb h1 => hf b (Array.getElem?_eq_some_iff.1 hb).1 h1 (hm.not_cells hb)
  have hkt : ∀ {b : Nat} {cs : Array Value} {ty : TypeId} {fz : Nat × Nat}, L'.heap[b]? = some (.cells cs ty fz) → ty ≠ 49 → L2.heap[b]? = L'.heap[b]? := fun {b cs ty fz} hb h1 => hk hb fun e => by
    obtain ⟨_, _, cur, h2⟩ := h.lies.row hx e.symm
    rw [hb] at h2
    injection h2 with h2
    injection h2 with _ e2 _
    exact h1 e2
  have hcv : ∀ t, cvA { x with ca := putI x.ca y.time v2 } t = if t = y.time then v2 else cvA x t := fun t => by
    unfold cvA
    by_cases e : t = y.time
    · subst e; rw [if_pos rfl, getI_put_same]; rfl
    · rw [if_neg e, getI_put_other _ _ e]
  refine ⟨hl, own_of_block h.olog fun b hb => ?_, fun j z s hj => ?_, h.kp.keep hz fun b hb => ?_, h.low, (hkt h.box (by decide)).trans h.box, (hkt h.boxT (by decide)).trans h.boxT, own_of_block h.own fun b hb => ?_, ?_, fun j z hj => ?_⟩
  · obtain ⟨_, cur, h2⟩ := own_block_at h.olog hb
    refine hk h2 fun e => ?_
    rcases h.far i x y.time hx with h3 | h3
    · rw [h3] at e; cases e
    · exact h3 (e.symm.trans hb.symm)
  · rcases set_cases hj with ⟨rfl, rfl, _⟩ | ⟨_, hj⟩
    · rw [hcv]
      split
      · rcases hb2 with e | ⟨b, e, hb⟩
        · rw [e]; exact h.far _ x y.time hx
        · rw [e]
          refine .inr fun e2 => ?_
          obtain ⟨_, cur, h2⟩ := own_block_at h.olog e2.symm
          have := (Array.getElem?_eq_some_iff.1 h2).1
          omega
      · exact h.far _ x s hx
    · exact h.far j z s hj
  · have := h.low
    refine hf b (by have := h.kp.size; omega) (fun e => ?_) ?_
    · have := (h.lies.row hx e.symm).1; omega
    · have := (h.lies.high x (List.mem_of_getElem? hx)).2; omega
  · obtain ⟨_, cur, h2⟩ := own_block_at h.own hb
    exact hkt h2 (by decide)
  · rw [← h.nums]
    apply List.ext_getElem?
    intro j
    simp only [List.getElem?_map]
    by_cases e : j = i
    · subst e
      rw [List.getElem?_set_self (List.getElem?_eq_some_iff.1 hx).1, hx]
      rfl
    · rw [List.getElem?_set_ne (fun h => e h.symm)]
  · rcases set_cases hj with ⟨rfl, rfl, _⟩ | ⟨_, hj⟩
    · exact h.todo _ x hx
    · exact h.todo j z hj
/-- An actor's letters are put. -/
theorem PutL.clear (h : PutL R L L' wk tt N0 g bT cc l1 l lv log bs nv td) {i : Nat} {x : AL} {td' : List Nat} (hx : l[i]? = some x) (htd : ∀ j, j ∈ td' → j ∈ td) (hti : ∀ j, j ∈ td → j ∉ td' → j = i) (hni : i ∉ td') :
    PutL R L (L'.setCell ⟨g, i * 4 + 3, none⟩ (.slice none 0 0)) wk tt N0 g bT cc l1 (l.set i { x with sv := .slice none 0 0, sent := [] }) lv log bs nv td' := by
  have hgl := h.lies.blk
  unfold Blk at hgl
  have hkt : ∀ {b : Nat} {cs : Array Value} {ty : TypeId} {fz : Nat × Nat}, L'.heap[b]? = some (.cells cs ty fz) → ty ≠ 140 → (L'.setCell ⟨g, i * 4 + 3, none⟩ (.slice none 0 0)).heap[b]? = L'.heap[b]? := fun {b cs ty fz} hb h1 => setCell_ne fun e => by
    subst e
    rw [hgl] at hb
    injection hb with hb
    injection hb with _ e _
    exact h1 e.symm
  refine ⟨h.lies.clear hx, own_of_block h.olog fun b hb => ?_, fun j z s hj => ?_, h.kp.set_ (p := ⟨g, i * 4 + 3, none⟩) h.low _, h.low, (hkt h.box (by decide)).trans h.box, (hkt h.boxT (by decide)).trans h.boxT, own_of_block h.own fun b hb => ?_, ?_, fun j z hj => ?_⟩
  · obtain ⟨_, cur, h2⟩ := own_block_at h.olog hb
    exact hkt h2 (by decide)
  · rcases set_cases hj with ⟨rfl, rfl, _⟩ | ⟨_, hj⟩
    · exact h.far _ x s hx
    · exact h.far j z s hj
  · obtain ⟨_, cur, h2⟩ := own_block_at h.own hb
    exact hkt h2 (by decide)
  · rw [← h.nums]
    apply List.ext_getElem?
    intro j
    simp only [List.getElem?_map]
    by_cases e : j = i
    · subst e
      rw [List.getElem?_set_self (List.getElem?_eq_some_iff.1 hx).1, hx]
      rfl
    · rw [List.getElem?_set_ne (fun h => e h.symm)]
  · rcases set_cases hj with ⟨rfl, rfl, _⟩ | ⟨hne, hj⟩
    · rw [if_neg hni]
      exact ⟨rfl, rfl⟩
    · have h3 := h.todo j z hj
      by_cases e : j ∈ td'
      · rw [if_pos e]
        rwa [if_pos (htd j e)] at h3
      · rw [if_neg e]
        rwa [if_neg fun h4 => hne (hti j h4 e)] at h3
/-- A time's letters are taken out. -/
theorem PutL.del (h : PutL R L L' wk tt N0 g bT cc l1 l lv log bs nv td) {i : Nat} {x : AL} {t : Int} (hx : l[i]? = some x) (hl : LiesA L2 g (g + 1) g R (fun j s => if j = i ∧ s = t then [] else cc j s) (l.set i { x with ca := delI x.ca t })) (hf : ∀ b, b ≠ x.cb → L2.heap[b]? = L'.heap[b]?) (hz : L2.heap.size = L'.heap.size) :
    PutL R L L2 wk tt N0 g bT (fun j s => if j = i ∧ s = t then [] else cc j s) l1 (l.set i { x with ca := delI x.ca t }) lv log bs nv td := by
  have hm := (h.lies.comes i x hx).1
  have hnd := (h.lies.comes i x hx).2
  have hk : ∀ {b : Nat} {cs : Array Value} {ty : TypeId} {fz : Nat × Nat}, L'.heap[b]? = some (.cells cs ty fz) → L2.heap[b]? = L'.heap[b]? := fun hb => hf _ (hm.not_cells hb)
  refine ⟨hl, own_of_block h.olog fun b hb => ?_, fun j z s hj => ?_, h.kp.keep (by omega) fun b hb => ?_, h.low, (hk h.box).trans h.box, (hk h.boxT).trans h.boxT, own_of_block h.own fun b hb => ?_, ?_, fun j z hj => ?_⟩
  · obtain ⟨_, cur, h2⟩ := own_block_at h.olog hb
    exact hk h2
  · rcases set_cases hj with ⟨rfl, rfl, _⟩ | ⟨_, hj⟩
    · unfold cvA
      by_cases e : s = t
      · subst e; rw [getI_del_same hnd]; exact .inl rfl
      · rw [getI_del_other _ e]; exact h.far _ x s hx
    · exact h.far j z s hj
  · have := (h.lies.high x (List.mem_of_getElem? hx)).2
    have := h.low
    exact hf b (by omega)
  · obtain ⟨_, cur, h2⟩ := own_block_at h.own hb
    exact hk h2
  · rw [← h.nums]
    apply List.ext_getElem?
    intro j
    simp only [List.getElem?_map]
    by_cases e : j = i
    · subst e
      rw [List.getElem?_set_self (List.getElem?_eq_some_iff.1 hx).1, hx]
      rfl
    · rw [List.getElem?_set_ne (fun h => e h.symm)]
  · rcases set_cases hj with ⟨rfl, rfl, _⟩ | ⟨_, hj⟩
    · exact h.todo _ x hx
    · exact h.todo j z hj
end
theorem LiesA.come {L : World} {B base gl : Nat} {R : List (List RuleR)} {c c' : Come} {l : List AL} (h : LiesA L B base gl R c l) (e : ∀ i t, i < R.length → c i t = c' i t) : LiesA L B base gl R c' l :=
  ⟨h.blk, h.len, h.rules, h.comes, fun i x t hx => by
    rw [← e i t (by have := (List.getElem?_eq_some_iff.1 hx).1; have := h.len; omega)]
    exact h.own i x t hx, h.apart, h.maps, h.high, h.sents, h.low, h.below, h.bound⟩
theorem addAll_now {t : Int} : ∀ (ys : List LetR) (c : Come) (i : Nat), (∀ y ∈ ys, t < y.time) → (c.addAll ys) i t = c i t
  | [], _, _, _ => rfl
  | y :: ys, c, i, h => by
    show ((c.add y).addAll ys) i t = c i t
    rw [addAll_now ys _ i fun z hz => h z (List.mem_cons_of_mem _ hz)]
    have := h y (List.mem_cons_self ..)
    unfold Come.add
    rw [if_neg (fun e => by omega)]
theorem addAll_len : ∀ (ys : List LetR) (c : Come) (i : Nat) (s : Int), ((c.addAll ys) i s).length ≤ (c i s).length + ys.length
  | [], c, i, s => Nat.le_refl _
  | y :: ys, c, i, s => by
    have h := addAll_len ys (c.add y) i s
    have h2 : (c.add y i s).length ≤ (c i s).length + 1 := by
      unfold Come.add
      split <;> simp
    show (((c.add y).addAll ys) i s).length ≤ _
    simp only [List.length_cons]
    omega
theorem addAll_app (c : Come) (xs ys : List LetR) : c.addAll (xs ++ ys) = (c.addAll xs).addAll ys := by
  rw [← foldl_addAll, ← foldl_addAll, ← foldl_addAll, List.foldl_append]
theorem flat_take {f : Nat → List LetR} (bs : List Nat) (q : Nat) (hq : q < bs.length) (k : Nat) : ((bs.take q).flatMap f).length + ((f bs[q]).take k).length ≤ (bs.flatMap f).length := by
  have h : bs = bs.take q ++ bs[q] :: bs.drop (q + 1) := by
    rw [← List.drop_eq_getElem_cons hq, List.take_append_drop]
  have h2 : (bs.flatMap f).length = ((bs.take q).flatMap f).length + ((f bs[q]).length + ((bs.drop (q + 1)).flatMap f).length) := by
    conv => lhs; rw [h]
    rw [List.flatMap_append, List.flatMap_cons, List.length_append, List.length_append]
  have h3 : ((f bs[q]).take k).length ≤ (f bs[q]).length := by rw [List.length_take]; omega
  omega
/-- How many letters come to an actor at a time, those put so far with them. -/
theorem come_room {R : List (List RuleR)} {c : Come} {t : Int} {log : List LetR} {nums : List Int} {ys : List LetR} {D : List Nat} (hs : ∀ s, ((List.range R.length).map fun i => (c i s).length).sum ≤ 200 + log.length) (hf : log.length ≤ 100000) (hn : nums.length = R.length) (hy : ys.length ≤ (timeR R c t nums).2.length) {i : Nat} (hi : i < R.length) (s : Int) : (cutD (c.addAll ys) t D i s).length < 900000 := by
  have h1 := addAll_len ys c i s
  have h2 := one_le_sum c R.length s hi
  have h3 := timeR_len R c t nums
  rw [hn, logR_len] at h3
  have h4 := hs s
  have h5 := hs t
  unfold cutD
  split
  · simp
  · omega
theorem sent_later {R : List (List RuleR)} {c : Come} {t : Int} {l l' : List AL} (hR : ∀ rs ∈ R, ∀ r ∈ rs, ruleOk R.length r) (ht : ∀ i s, ∀ y ∈ c i s, y.time = s) (h : AfterT R c t l l') (hn : l.length = R.length) (j : Nat) : ∀ y ∈ sentO l' j, t < y.time ∧ y.time ≤ t + 1000 ∧ 0 ≤ y.to ∧ y.to < R.length := by
  intro y hy
  by_cases hj : j < l.length
  · obtain ⟨x', h1, _, h3, _⟩ := h.2 j _ (List.getElem?_eq_getElem hj)
    have hy2 : y ∈ (atR (R.getD j []) l[j].num (c j t)).2 := by
      have : sentO l' j = x'.sent := by simp [sentO, h1]
      rw [this, h3] at hy
      exact hy
    have hj2 : j < R.length := by omega
    have hr : ∀ r ∈ R.getD j [], ruleOk R.length r := by
      rw [List.getD_eq_getElem?_getD, List.getElem?_eq_getElem hj2]
      exact hR _ (List.getElem_mem hj2)
    obtain ⟨a1, a2, a3, a4, _⟩ := atR_later hr (c j t) l[j].num t (fun x hx => ht j t x hx) y hy2
    exact ⟨a1, a2, a3, a4⟩
  · have : sentO l' j = [] := by
      unfold sentO
      rw [List.getElem?_eq_none (by rw [h.1]; omega)]
      rfl
    rw [this] at hy
    cases hy
theorem nowB_cut (c : Come) (t : Int) (n : Nat) : nowB (cutD c t []) t n = nowB c t n := by
  unfold nowB
  simp only [cutD_now]
/-- What all of them sent. -/
theorem sent_all {R : List (List RuleR)} {c : Come} {t : Int} {l l' : List AL} (h : AfterT R (cutD c t []) t l l') {n : Nat} (hn : l.length = n) : (nowB c t n).flatMap (sentO l') = (timeR R c t (l.map (·.num))).2 := by
  rw [← nowB_cut, sent_now h hn, after_sent h, timeR_cut]
/-- From a time to the next. -/
theorem timeL_next {R : List (List RuleR)} {L L0 L2 : World} {E wk tt : Int} {N0 g bT : Nat} {c0 cc : Come} {l l1 l2 : List AL} {lv0 lv nv : Value} {log : List LetR} {bs : List Nat} (hT : TimeL R L L0 E wk tt N0 g c0 cc l lv0 log) (hR : ∀ rs ∈ R, ∀ r ∈ rs, ruleOk R.length r) (htt : tt < E + 1) (hE : E ≤ 1000)
    (hA : AfterT R (cutD cc tt []) tt l l1) (hbs : bs = nowB cc tt R.length) (hlg : ¬ 100000 < (log ++ logTo cc tt R.length).length)
    (hP : PutL R L L2 wk tt N0 g bT (cutD (cc.addAll (bs.flatMap (sentO l1))) tt bs.reverse) l1 l2 lv (log ++ logTo cc tt R.length) bs nv []) :
    TimeL R L L2 E wk (tt + 1) N0 g c0 (cc.addAll (timeR R cc tt (l.map (·.num))).2) l2 lv (log ++ logTo cc tt R.length) := by
  have hll : l.length = R.length := hT.lies.len
  have hsa : bs.flatMap (sentO l1) = (timeR R cc tt (l.map (·.num))).2 := by rw [hbs]; exact sent_all hA hll
  have hct : ∀ i s, ∀ y ∈ cutD cc tt [] i s, y.time = s := fun i s y hy => by
    unfold cutD at hy
    split at hy
    · cases hy
    · exact (hT.times i s y hy).1
  have hlat : ∀ y ∈ (timeR R cc tt (l.map (·.num))).2, tt < y.time ∧ y.time ≤ tt + 1000 ∧ 0 ≤ y.to ∧ y.to < R.length := fun y hy => by
    rw [← hsa] at hy
    obtain ⟨j, _, hj⟩ := List.mem_flatMap.1 hy
    exact sent_later hR hct hA hll j y hj
  rw [hsa] at hP
  have hnn : (l.map (·.num)).length = R.length := by rw [List.length_map]; exact hll
  refine ⟨hP.lies.come fun i s hi => ?_, fun x hx => ?_, hP.olog, hP.far, by omega, ?_, fun i s y hy => ?_, ⟨by have := hT.runs.1; omega, by omega, ?_⟩, hP.kp, hP.box⟩
  · have hend : s = tt → i ∉ bs.reverse → (cc.addAll (timeR R cc tt (l.map (·.num))).2) i s = [] := fun e hib => by
      rw [e, addAll_now _ _ _ fun y hy => (hlat y hy).1]
      exact nowB_not hi (by rw [← hbs]; rwa [List.mem_reverse] at hib)
    unfold cutD
    by_cases e : s < tt ∨ (s = tt ∧ i ∈ bs.reverse)
    · rw [if_pos e, if_pos (.inl (by omega))]
    · rw [if_neg e]
      by_cases e2 : s < tt + 1
      · rw [if_pos (.inl e2)]
        exact hend (by omega) fun h => e (.inr ⟨by omega, h⟩)
      · rw [if_neg]
        rintro (h | ⟨_, h⟩)
        · exact e2 h
        · cases h
  · obtain ⟨j, hj⟩ := List.mem_iff_getElem?.1 hx
    have := hP.todo j x hj
    rwa [if_neg (by simp)] at this
  · exact sum_time hnn hT.sum
  · have h1 := comeL_times (timeR R cc tt (l.map (·.num))).2 cc (fun i s y hy => ⟨(hT.times i s y hy).1, (hT.times i s y hy).2.1⟩) i s y (by rw [foldl_addAll]; exact hy)
    rcases comeL_mem (timeR R cc tt (l.map (·.num))).2 cc i s y (by rw [foldl_addAll]; exact hy) with h | h
    · exact hT.times i s y h
    · have h2 := hlat y h
      have h3 := hT.runs.1
      exact ⟨h1.1, h1.2, by omega, by omega, by omega⟩
  · rw [← hT.runs.2.2, runA_step htt, show logR R.length cc tt = logTo cc tt R.length from rfl, if_neg hlg, hP.nums, after_nums hA, timeR_cut]
/-- What an actor sent, as it lies. -/
theorem sent_form {L : World} {x : AL} (h : SentAt L x) : ∃ A sc, x.sv = .slice A x.sent.length sc := by
  rcases h with ⟨h1, h2⟩ | ⟨b, sc, _, _, h1, _⟩
  · exact ⟨none, 0, by rw [h2, h1]; rfl⟩
  · exact ⟨_, sc, h1⟩
theorem sent_read {L : World} {x : AL} {A : Option Addr} {m sc k : Nat} (h : SentAt L x) (e : x.sv = .slice A m sc) (hk : k < x.sent.length) : ∃ b, A = some ⟨b, 0, none⟩ ∧ ∀ i v, (cellsX x.sent[k])[i]? = some v → L.cell? ⟨b, k * 4 + i, none⟩ = some v := by
  rcases h with ⟨h1, h2⟩ | ⟨b, sc', ty, fz, h1, _, h3, _⟩
  · rw [h1] at hk; cases hk
  · rw [h1] at e
    cases e
    refine ⟨b, rfl, fun i v hv => ?_⟩
    have hi : i < 4 := (List.getElem?_eq_some_iff.1 hv).1
    rw [cell_of_row _ _ _ _ _ _ h3]
    have := flat_at (f := cellsX) (s := 4) (fun _ => rfl) x.sent k i hk hi
    simp only [List.getElem?_toArray]
    exact this.trans hv
theorem own_ptr {w : World} {base g m c : Nat} {A : Option Addr} {bs : List Nat} (h : ownP w base (.slice A m c) g bs) {k : Nat} (hk : k < bs.length) : ∃ b, A = some ⟨b, 0, none⟩ ∧ w.cell? ⟨b, k, none⟩ = some (.pointer (some ⟨g, bs[k] * 4, none⟩)) := by
  rcases h.2 with ⟨e, e0⟩ | ⟨b, cap, cur, e, h1, h2, _, _, _, h6⟩
  · cases e
    omega
  · cases e
    refine ⟨b, rfl, ?_⟩
    rw [cell_of_row _ _ _ _ _ _ h2]
    have h7 : (ptrsA g bs)[k]? = some (.pointer (some ⟨g, bs[k] * 4, none⟩)) := by
      unfold ptrsA
      rw [List.getElem?_map, List.getElem?_eq_getElem hk]
      rfl
    rw [← h6, List.getElem?_take] at h7
    split at h7
    · simpa using h7
    · cases h7
theorem set_keeps {l : List AL} {i j : Nat} {x y : AL} {ca : Assoc} (hi : l[i]? = some y) (hj : l[j]? = some x) : ∃ x', (l.set i { y with ca := ca })[j]? = some x' ∧ x'.sv = x.sv ∧ x'.sent = x.sent := by
  by_cases e : i = j
  · subst e
    rw [hi] at hj
    cases hj
    exact ⟨_, List.getElem?_set_self (List.getElem?_eq_some_iff.1 hi).1, rfl, rfl⟩
  · exact ⟨x, by rw [List.getElem?_set_ne e]; exact hj, rfl, rfl⟩
theorem getD_rules {R : List (List RuleR)} {j : Nat} {r : RuleR} (h : r ∈ R.getD j []) : ∃ rs ∈ R, r ∈ rs := by
  rw [List.getD_eq_getElem?_getD] at h
  cases hj : R[j]? with
  | none => rw [hj] at h; cases h
  | some rs => rw [hj] at h; exact ⟨rs, List.mem_of_getElem? hj, h⟩
theorem TimeL.come {R : List (List RuleR)} {L L' : World} {E wk tt : Int} {N0 g : Nat} {c0 c : Come} {l : List AL} {lv : Value} {log : List LetR} (h : TimeL R L L' E wk tt N0 g c0 c l lv log) (j : Nat) (s : Int) : (c j s).length ≤ 100200 := by
  by_cases hj : j < R.length
  · have h1 := one_le_sum c R.length s hj
    have := h.sum s
    have := h.few
    omega
  · have : c j s = [] := List.eq_nil_iff_forall_not_mem.2 fun y hy => hj (h.times j s y hy).2.2.2.2
    rw [this]
    exact Nat.zero_le _
theorem TimeL.sent_len {R : List (List RuleR)} {L L' : World} {E wk tt : Int} {N0 g : Nat} {c0 c : Come} {l : List AL} {lv : Value} {log : List LetR} (h : TimeL R L L' E wk tt N0 g c0 c l lv log) : (timeR R c tt (l.map (·.num))).2.length ≤ 100200 := by
  have h1 := timeR_len R c tt (l.map (·.num))
  rw [List.length_map, h.lies.len, logR_len] at h1
  have := h.sum tt
  have := h.few
  omega
theorem TimeL.cut_time {R : List (List RuleR)} {L L' : World} {E wk tt : Int} {N0 g : Nat} {c0 c : Come} {l : List AL} {lv : Value} {log : List LetR} (h : TimeL R L L' E wk tt N0 g c0 c l lv log) : ∀ i s, ∀ y ∈ cutD c tt [] i s, y.time = s := fun i s y hy => by
  unfold cutD at hy
  split at hy
  · cases hy
  · exact (h.times i s y hy).1
theorem tneA {L : World} {gl b : Nat} {cs : List Value} {x : Array Value} {e : TypeId} (h : Blk L gl 140 cs) (hb : L.heap[b]? = some (.cells x e (0, 0))) (he : e ≠ 140) : b ≠ gl := fun e2 => by
  subst e2
  unfold Blk at h
  rw [h] at hb
  injection hb with hb
  injection hb with _ ht _
  exact he ht.symm
end Go.Proofs.Yticdjkkcfdbdcaa
