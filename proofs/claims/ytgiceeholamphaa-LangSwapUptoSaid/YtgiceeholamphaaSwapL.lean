/- A program whose Pars begin from another place; programs without races: plain. No conditions. -/
import Derived.Test.YtgiceeholamphaaComm
import Derived.Test.YtgiceeholamphaaBegin
namespace Go.Proofs.Ytgiceeholamphaa
open Go.ChangeShapes Go.WideShapes Go.ChangeAt Go.RowKit Go.Maps

/-- Without races. -/
inductive CalmS : StatR → Prop
  | mk (x : StatR) (ok : x.kind = 5 → x.blocks.Pairwise aptB) (each : ∀ b ∈ x.blocks, ∀ y ∈ b.l, CalmS y) : CalmS x
def CalmL (l : List StatR) : Prop := ∀ x ∈ l, CalmS x
theorem CalmS.ok {x : StatR} (h : CalmS x) : x.kind = 5 → x.blocks.Pairwise aptB := by cases h with | mk _ r _ => exact r
theorem CalmS.in_ {x : StatR} (h : CalmS x) {b : BlockR} (hb : b ∈ x.blocks) : CalmL b.l := by cases h with | mk _ _ r => exact r b hb
/-- Begun from another place. -/
def turnL {α : Type} (t : Int) (l : List α) : List α := l.drop (t % l.length).toNat ++ l.take (t % l.length).toNat
theorem turnL_perm {α : Type} (t : Int) (l : List α) : (turnL t l).Perm l := (List.perm_append_comm).trans (by rw [List.take_append_drop])
inductive SwS (t : Int) : StatR → StatR → Prop
  | mk (x y : StatR) (bs : List BlockR) (hk : y.kind = x.kind) (hn : y.name = x.name) (he : y.e = x.e) (hN : y.n = x.n) (hl : bs.length = x.blocks.length) (hb : y.blocks = if x.kind = 5 then turnL t bs else bs)
      (hli : ∀ i (h : i < x.blocks.length) (h' : i < bs.length), bs[i].l.length = x.blocks[i].l.length)
      (each : ∀ i (h : i < x.blocks.length) (h' : i < bs.length) j (hj : j < x.blocks[i].l.length) (hj' : j < bs[i].l.length), SwS t x.blocks[i].l[j] bs[i].l[j]) : SwS t x y
def SwL (t : Int) (l m : List StatR) : Prop := m.length = l.length ∧ ∀ i (h : i < l.length) (h' : i < m.length), SwS t l[i] m[i]
/-- What is the same of two statements, whatever the order within. -/
structure Alike (x y : StatR) : Prop where
  kind : y.kind = x.kind
  assigns : ∀ s, s ∈ y.assigns ↔ s ∈ x.assigns
  adds : ∀ s, s ∈ y.adds ↔ s ∈ x.adds
  reads : ∀ s, s ∈ y.reads ↔ s ∈ x.reads
  cnt : y.cnt = x.cnt
  nodes : y.nodes = x.nodes
  depth : y.depth = x.depth
  all : AllS x → AllS y
structure AlikeL (l m : List StatR) : Prop where
  assigns : ∀ s, s ∈ assignsS m ↔ s ∈ assignsS l
  adds : ∀ s, s ∈ addsS m ↔ s ∈ addsS l
  reads : ∀ s, s ∈ readsS m ↔ s ∈ readsS l
  cnt : cntS m = cntS l
  nodes : nodesS m = nodesS l
  depth : depthS m = depthS l
  all : AllL l → AllL m
theorem alikeL : ∀ {l m : List StatR}, m.length = l.length → (∀ i (h : i < l.length) (h' : i < m.length), Alike l[i] m[i]) → AlikeL l m
  | [], [], _, _ => ⟨fun _ => Iff.rfl, fun _ => Iff.rfl, fun _ => Iff.rfl, rfl, rfl, rfl, id⟩
  | [], _ :: _, h, _ => by simp at h
  | _ :: _, [], h, _ => by simp at h
  | a :: l, b :: m, hl, h => by
    have h0 := h 0 (by simp) (by simp)
    simp only [List.getElem_cons_zero] at h0
    have hi := alikeL (l := l) (m := m) (by simpa using hl) fun i h1 h2 => by
      have := h (i + 1) (by simpa using h1) (by simpa using h2)
      simpa using this
    refine ⟨fun s => ?_, fun s => ?_, fun s => ?_, ?_, ?_, ?_, fun hA x hx => ?_⟩
    · simp only [assignsS, List.mem_append, h0.assigns s, hi.assigns s]
    · simp only [addsS, List.mem_append, h0.adds s, hi.adds s]
    · simp only [readsS, List.mem_append, h0.reads s, hi.reads s]
    · simp only [cntS, h0.cnt, hi.cnt]
    · simp only [nodesS, h0.nodes, hi.nodes]
    · simp only [depthS, h0.depth, hi.depth]
    · rcases List.mem_cons.1 hx with rfl | hx
      · exact h0.all (hA _ (by simp))
      · exact hi.all (fun y hy => hA y (List.mem_cons_of_mem _ hy)) x hx
structure AlikeB (l m : List BlockR) : Prop where
  assigns : ∀ s, s ∈ assignsB m ↔ s ∈ assignsB l
  adds : ∀ s, s ∈ addsB m ↔ s ∈ addsB l
  reads : ∀ s, s ∈ readsB m ↔ s ∈ readsB l
  cnt : cntB m = cntB l
  nodes : nodesB m = nodesB l
  depth : depthB m = depthB l
  all : (∀ b ∈ l, AllL b.l) → ∀ b ∈ m, AllL b.l
theorem alikeB : ∀ {l m : List BlockR}, m.length = l.length → (∀ i (h : i < l.length) (h' : i < m.length), AlikeL l[i].l m[i].l) → AlikeB l m
  | [], [], _, _ => ⟨fun _ => Iff.rfl, fun _ => Iff.rfl, fun _ => Iff.rfl, rfl, rfl, rfl, fun _ b hb => by cases hb⟩
  | [], _ :: _, h, _ => by simp at h
  | _ :: _, [], h, _ => by simp at h
  | a :: l, b :: m, hl, h => by
    have h0 := h 0 (by simp) (by simp)
    simp only [List.getElem_cons_zero] at h0
    have hi := alikeB (l := l) (m := m) (by simpa using hl) fun i h1 h2 => by
      have := h (i + 1) (by simpa using h1) (by simpa using h2)
      simpa using this
    refine ⟨fun s => ?_, fun s => ?_, fun s => ?_, ?_, ?_, ?_, fun hA x hx => ?_⟩
    · simp only [assignsB, List.mem_append, BlockR.assigns_eq, h0.assigns s, hi.assigns s]
    · simp only [addsB, List.mem_append, BlockR.adds_eq, h0.adds s, hi.adds s]
    · simp only [readsB, List.mem_append, BlockR.reads_eq, h0.reads s, hi.reads s]
    · simp only [cntB, BlockR.cnt_eq, h0.cnt, hi.cnt]
    · simp only [nodesB, BlockR.nodes_eq, h0.nodes, hi.nodes]
    · simp only [depthB, BlockR.depth_eq, h0.depth, hi.depth]
    · rcases List.mem_cons.1 hx with rfl | hx
      · exact h0.all (hA _ (by simp))
      · exact hi.all (fun y hy => hA y (List.mem_cons_of_mem _ hy)) x hx
theorem nodesB_append' (a b : List BlockR) : nodesB (a ++ b) = nodesB a + nodesB b := by
  induction a with
  | nil => simp [nodesB]
  | cons x a ih => simp [nodesB, ih]; omega
theorem alikeB_turn (t : Int) (l : List BlockR) : AlikeB l (turnL t l) := by
  have e := List.take_append_drop (t % l.length).toNat l
  unfold turnL
  generalize l.take (t % l.length).toNat = a at *
  generalize l.drop (t % l.length).toNat = b at *
  subst e
  refine ⟨fun s => ?_, fun s => ?_, fun s => ?_, ?_, ?_, ?_, fun hA x hx => ?_⟩
  · simp only [assignsB_append, List.mem_append, or_comm]
  · simp only [addsB_append, List.mem_append, or_comm]
  · simp only [readsB_append, List.mem_append, or_comm]
  · simp only [cntB_append]; omega
  · simp only [nodesB_append']; omega
  · simp only [depthB_append]; omega
  · exact hA x (by simp only [List.mem_append] at hx ⊢; exact hx.symm)
theorem AlikeB.trans {l m k : List BlockR} (h : AlikeB l m) (h' : AlikeB m k) : AlikeB l k :=
  ⟨fun s => (h'.assigns s).trans (h.assigns s), fun s => (h'.adds s).trans (h.adds s), fun s => (h'.reads s).trans (h.reads s), h'.cnt.trans h.cnt, h'.nodes.trans h.nodes, h'.depth.trans h.depth, fun a => h'.all (h.all a)⟩
theorem turnL_length {α : Type} (t : Int) (l : List α) : (turnL t l).length = l.length := (turnL_perm t l).length_eq
theorem SwS.alike {t : Int} {x y : StatR} (h : SwS t x y) : Alike x y := by
  induction h with
  | mk x y bs hk hn he hN hl hb hli each ih =>
    have h1 : AlikeB x.blocks bs := alikeB hl fun i h h' => alikeL (hli i h h') fun j hj hj' => ih i h h' j hj hj'
    have h2 : AlikeB x.blocks y.blocks := by
      rw [hb]
      split
      · exact h1.trans (alikeB_turn t bs)
      · exact h1
    have hbl : y.blocks.length = x.blocks.length := by
      rw [hb]
      split
      · rw [turnL_length, hl]
      · exact hl
    refine ⟨hk, fun s => ?_, fun s => ?_, fun s => ?_, ?_, ?_, ?_, fun hA => ?_⟩
    · rw [y.assigns_eq, x.assigns_eq, hk, hn]; simp only [List.mem_append, h2.assigns s]
    · rw [y.adds_eq, x.adds_eq, hk, hn]; simp only [List.mem_append, h2.adds s]
    · rw [y.reads_eq, x.reads_eq, he]; simp only [List.mem_append, h2.reads s]
    · rw [y.cnt_eq, x.cnt_eq, hk, he, h2.cnt]
    · rw [y.nodes_eq, x.nodes_eq, he, h2.nodes]
    · rw [y.depth_eq, x.depth_eq, hk, he, h2.depth]
    · refine ⟨y, ?_, fun h3 => by rw [he]; exact hA.e (by omega), fun b hb' => h2.all (fun b hb z hz => hA.in_ hb hz) b hb'⟩
      have h0 := hA.ok
      unfold okS at h0 ⊢
      rw [hk, hn, hN, he, hbl]
      exact h0
theorem SwL.alike {t : Int} {l m : List StatR} (h : SwL t l m) : AlikeL l m := alikeL h.1 fun i h1 h2 => (h.2 i h1 h2).alike
theorem aptB_alike {a b a' b' : BlockR} (ha : AlikeL a.l a'.l) (hb : AlikeL b.l b'.l) (h : aptB a b) : aptB a' b' :=
  ⟨fun s p q => h.aa s ((ha.assigns s).1 p) ((hb.assigns s).1 q), fun s p q => h.ad s ((ha.assigns s).1 p) ((hb.adds s).1 q), fun s p q => h.ar s ((ha.assigns s).1 p) ((hb.reads s).1 q), fun s p q => h.da s ((ha.adds s).1 p) ((hb.assigns s).1 q),
    fun s p q => h.dr s ((ha.adds s).1 p) ((hb.reads s).1 q), fun s p q => h.ra s ((ha.reads s).1 p) ((hb.assigns s).1 q), fun s p q => h.rd s ((ha.reads s).1 p) ((hb.adds s).1 q)⟩
theorem pairwise_alike {l m : List BlockR} (hl : m.length = l.length) (h : ∀ i (h : i < l.length) (h' : i < m.length), AlikeL l[i].l m[i].l) (hp : l.Pairwise aptB) : m.Pairwise aptB := by
  rw [List.pairwise_iff_getElem] at hp ⊢
  intro i j hi hj hij
  exact aptB_alike (h i (by omega) hi) (h j (by omega) hj) (hp i j (by omega) (by omega) hij)
theorem headRun_same : ∀ {l m : List BlockR}, l.length = m.length → (∀ i (h : i < l.length) (h' : i < m.length), runS l[i].l = runS m[i].l) → headRun l = headRun m
  | [], [], _, _ => rfl
  | [], _ :: _, h, _ => by simp at h
  | _ :: _, [], h, _ => by simp at h
  | a :: l, b :: m, _, h => by
    rw [headRun_cons, headRun_cons]
    exact h 0 (by simp) (by simp)
theorem tailRun_same : ∀ {l m : List BlockR}, l.length = m.length → (∀ i (h : i < l.length) (h' : i < m.length), runS l[i].l = runS m[i].l) → tailRun l = tailRun m
  | [], [], _, _ => rfl
  | [], _ :: _, h, _ => by simp at h
  | _ :: _, [], h, _ => by simp at h
  | a :: l, b :: m, hl, h => by
    rw [tailRun_cons, tailRun_cons]
    refine runB_same (by simpa using hl) fun i h1 h2 => ?_
    have := h (i + 1) (by simpa using h1) (by simpa using h2)
    simpa using this
/-- Without races, with the Pars begun from another place: without races, and the same is meant. -/
theorem SwS.calm {t : Int} {x y : StatR} (h : SwS t x y) : CalmS x → CalmS y ∧ y.run = x.run := by
  induction h with
  | mk x y bs hk hn he hN hl hb hli each ih =>
    intro hC
    have hal : ∀ i (h : i < x.blocks.length) (h' : i < bs.length), AlikeL x.blocks[i].l bs[i].l := fun i h h' => alikeL (hli i h h') fun j hj hj' => (each i h h' j hj hj').alike
    have hin : ∀ i (h : i < x.blocks.length) (h' : i < bs.length), CalmL bs[i].l ∧ runS bs[i].l = runS x.blocks[i].l := fun i h h' => by
      have hci : CalmL x.blocks[i].l := hC.in_ (List.getElem_mem h)
      refine ⟨fun z hz => ?_, runS_same (hli i h h') fun j hj hj' => (ih i h h' j hj' hj (hci _ (List.getElem_mem hj'))).2⟩
      obtain ⟨j, hj, rfl⟩ := List.getElem_of_mem hz
      exact (ih i h h' j (by have := hli i h h'; omega) hj (hci _ (List.getElem_mem _))).1
    have hcb : ∀ b ∈ bs, CalmL b.l := fun b hb' => by
      obtain ⟨i, hi, rfl⟩ := List.getElem_of_mem hb'
      exact (hin i (by omega) hi).1
    have hrb : runB bs = runB x.blocks := runB_same hl fun i h h' => (hin i h' h).2
    by_cases k5 : x.kind = 5
    · rw [if_pos k5] at hb
      have hp := pairwise_alike hl hal (hC.ok k5)
      have hpt : y.blocks.Pairwise aptB := by rw [hb]; exact ((turnL_perm t bs).pairwise_iff fun h => aptB_symm h).2 hp
      refine ⟨⟨y, fun _ => hpt, fun b hb' z hz => hcb b ((turnL_perm t bs).mem_iff.1 (by rw [← hb]; exact hb')) z hz⟩, funext fun st => ?_⟩
      have e1 : y.kind = 5 := hk.trans k5
      rw [y.run_eq, x.run_eq, if_neg (by omega), if_neg (by omega), if_neg (by omega), if_neg (by omega), hb, runB_perm (turnL_perm t bs) (by rw [← hb]; exact hpt), hrb]
    · rw [if_neg k5] at hb
      refine ⟨⟨y, fun h => absurd (hk.symm.trans h) k5, fun b hb' z hz => hcb b (by rw [← hb]; exact hb') z hz⟩, funext fun st => ?_⟩
      have hh : headRun y.blocks = headRun x.blocks := by
        rw [hb]
        exact headRun_same hl fun i h h' => (hin i h' h).2
      have ht : tailRun y.blocks = tailRun x.blocks := by
        rw [hb]
        exact tailRun_same hl fun i h h' => (hin i h' h).2
      rw [y.run_eq, x.run_eq, hk, hn, he, hN, hh, ht, hb, hrb]
theorem SwL.calm {t : Int} {l m : List StatR} (h : SwL t l m) (hC : CalmL l) : CalmL m ∧ runS m = runS l := by
  refine ⟨fun z hz => ?_, runS_same h.1 fun i h1 h2 => ((h.2 i h2 h1).calm (hC _ (List.getElem_mem h2))).2⟩
  obtain ⟨j, hj, rfl⟩ := List.getElem_of_mem hz
  exact ((h.2 j (by have := h.1; omega) hj).calm (hC _ (List.getElem_mem _))).1
theorem SwL.wrong {t : Int} {l m : List StatR} (h : SwL t l m) (hw : wrong l = 0) : wrong m = 0 := by
  have ha := h.alike
  unfold Go.Proofs.Ytgiceeholamphaa.wrong at hw ⊢
  split at hw
  · rename_i hA
    rw [if_pos (ha.all hA), ha.cnt, ha.depth]
    exact hw
  · cases hw
theorem SwL.begin {t : Int} {l m : List StatR} (h : SwL t l m) (V : List VarR) : beginF m V = beginF l V := by
  have ha := h.alike
  have e : ∀ s, s ∈ allNames m ↔ s ∈ allNames l := fun s => by simp only [allNames, List.mem_append, ha.assigns s, ha.adds s, ha.reads s]
  funext s
  have e1 := e s
  unfold beginF fillF
  by_cases h1 : (startF V s).isSome = true
  · rw [if_pos h1, if_pos h1]
  · rw [if_neg h1, if_neg h1]
    by_cases h2 : s ∈ allNames l
    · rw [if_pos h2, if_pos (e1.2 h2)]
    · rw [if_neg h2, if_neg fun h => h2 (e1.1 h)]
end Go.Proofs.Ytgiceeholamphaa
