/- The contract of stepref.put: a name set into a sorted list. No conditions but that what is read is there, and that there are not too many. -/
import Derived.Test.YtgiceeholamphaaDoorPutL
import Derived.Test.YtgiceeholamphaaDoorNamesW
import Derived.Deep.RegionHeld3
import Derived.Sort.Walk0
import Derived.BigRegion
import Derived.Deep.RegionLaw
import Derived.Deep.DeepCutAuto
import Derived.Deep.CutBlock
namespace Go.Proofs.YtgiceeholamphaaDoor
open Go.ChangeShapes Go.WideShapes Go.ChangeAt Go.RowKit Go.Maps

theorem less_ltN (a b : ByteArray) : Op.bytesLess a.toList b.toList = decide (ltN a b) := by
  rw [bytesLess_eq, ByteArray.toList_eq, ByteArray.toList_eq]; rfl
theorem same_name (a b : ByteArray) : (a.toList == b.toList) = decide (a = b) := by
  by_cases h : a = b
  · subst h; simp
  · rw [decide_eq_false h]
    exact beq_eq_false_iff_ne.2 fun e => h (bytes_ext e)
/-- append, in a region that draws its order. -/
theorem step_append_src {P : Program} {ops : Array Oper} {o : Oper} {a : Act} {w : World} {K : Act → World → Prop} {Q : Exit → Act → World → Prop} {E : Prop}
    (hgd : o.guard = none) (s x : Operand) (t : TypeId) (ho : o.op = Op.call { callee := Callee.builtin Builtin.append, args := #[s, x], argTypes := #[t, t] })
    (base : Nat) (e : TypeId) (i : TypeInfo) (z : Value) (size bytes : Nat) (ht : P.underlying t = some (.slice e)) (hi : P.info? e = some i) (hz : i.zero = some z) (hsize : i.size = size) (hby : i.bytes = bytes) (hzs : z.cells.size = size) (hsz : 0 < size)
    (v : Value) (n : Nat) (xs : List Value) (hs : a.eval s = v) (hown : w.ownsRow base e size v n xs)
    (A : Option Addr) (m c : Nat) (news : List Value) (hx : a.eval x = .slice A m c) (hl : news.length = m * size) (hnews : SrcAt w A news) (h1 : ∀ u ∈ news, u.oneCell' = true)
    (h63 : n + m ≤ maxLen) (hbytes : (n + m) * bytes ≤ 140737488355328) (hbase : base ≤ w.heap.size)
    (h : ∀ v' w', w'.ownsRow base e size v' (n + m) (xs ++ news) → w.grownBy w' v.ownBlock → (v'.ownBlock = v.ownBlock ∨ v'.ownBlock = some w.heap.size) → K (a.put o.dst v') w') :
    if Region.wanted o (yielded ops a.tmps) = true then Oper.wp P o a w K Q else E := by
  have hw : Region.wanted o (yielded ops a.tmps) = true := by simp [Region.wanted, hgd]
  rw [if_pos hw]
  obtain ⟨v', w', hr, h2, h3, h5⟩ := run_append_src (P := P) w base t o.type e i z size bytes ht hi hz hsize hby hzs hsz v n xs hown A m c news hl hnews h1 h63 hbytes hbase
  unfold Oper.wp execOp
  simp only [ho, resolve, invoke, builtin, Sem.run_bind, Sem.run_pure, Result.andThen_ok, List.map_toArray, List.map_cons, List.map_nil, hs, hx, hr]
  exact h v' w' h2 h3 h5
theorem info_str : (Tryd.prog.info? 9).map (fun i => (i.zero, i.size, i.bytes)) = some (some (.string ⟨#[]⟩), 1, 16) := by kernel_rfl
def strs (l : List ByteArray) : List Value := l.map Value.string
theorem strs_one (l : List ByteArray) : ∀ u ∈ strs l, u.oneCell' = true := by
  intro u hu
  obtain ⟨x, _, rfl⟩ := List.mem_map.1 hu
  rfl
theorem src_rd {w : World} {B : Nat} {A : Option Addr} {vs : List Value} (h : Rd w B A vs) : SrcAt w A vs := fun hne => by
  obtain ⟨b, o, e, _, hc⟩ := h hne
  exact ⟨b, o, e, fun j u hu => by rw [Addr.add_lit']; exact hc j u hu⟩
theorem src_take {w : World} {B : Nat} {A : Option Addr} {l : List ByteArray} (h : Rd w B A (strs l)) (q : Nat) : SrcAt w A (strs (l.take q)) := by
  have := src_rd (h.take q)
  rwa [strs, ← List.map_take] at this
theorem src_drop {w : World} {B b o c q : Nat} {l : List ByteArray} (h : Rd w B (some ⟨b, o, none⟩) (strs l)) (hc : l.length ≤ c) : SrcAt w (if c = q then some ⟨b, o, none⟩ else some ⟨b, o + q, none⟩) (strs (l.drop q)) := by
  by_cases e : c = q
  · intro hne
    exact absurd (by rw [List.drop_eq_nil_of_le (by omega)]; rfl) hne
  · rw [if_neg e]
    have := src_rd (h.drop q (A' := some ⟨b, o + q, none⟩) (fun _ => by simp [Addr.add_lit']))
    rwa [strs, ← List.map_drop] at this
theorem own_strs {w : World} {base : Nat} {t : TypeId} {v : Value} {L : List ByteArray} (h : w.ownsRow base t 1 v L.length (strs L)) : ∃ A c, v = .slice A L.length c ∧ L.length ≤ c ∧ ((A = none ∧ c = 0) ∨ ∃ b o, A = some ⟨b, o, none⟩) ∧ Rd w w.heap.size A (strs L) := by
  rcases h.2 with ⟨rfl, h0⟩ | ⟨g, cap, cur, rfl, hb, hg, hnc, hcm, _⟩
  · have : L = [] := List.length_eq_zero_iff.1 h0
    subst this
    exact ⟨none, 0, rfl, Nat.le_refl _, .inl ⟨rfl, rfl⟩, Rd.nil _ _ _⟩
  · refine ⟨_, cap, rfl, hnc, .inr ⟨g, 0, rfl⟩, fun _ => ⟨g, 0, rfl, (Array.getElem?_eq_some_iff.1 hg).1, fun i v hv => ?_⟩⟩
    have hi := (List.getElem?_eq_some_iff.1 hv).1
    rw [Nat.zero_add, h.cellAt i (by simpa [strs] using hi)]
    exact hv
def PutPost (l : List ByteArray) (w : World) (E : Ending) (w' : World) : Prop :=
  ∃ (A : Option Addr) (c : Nat), E = .returned (.slice A l.length c) ∧ l.length ≤ c ∧ ((A = none ∧ c = 0) ∨ ∃ b o, A = some ⟨b, o, none⟩) ∧ Rd w' w'.heap.size A (strs l) ∧ Below w.heap.size w w'
set_option maxRecDepth 100000 in
set_option maxHeartbeats 2000000 in
theorem put_any (l : List ByteArray) (s : ByteArray) (w : World) (A : Option Addr) (c : Nat) (hR : Rd w w.heap.size A (strs l)) (hA : (A = none ∧ c = 0) ∨ ∃ b o, A = some ⟨b, o, none⟩) (hc : l.length ≤ c) (hn : l.length ≤ 8388608) :
    Calls Tryd.prog 61 #[.slice A l.length c, .string s] w (PutPost (putL s l) w) := by
  obtain ⟨i0, hi0, hV⟩ := Option.map_eq_some_iff.1 info_str
  simp only [Prod.mk.injEq] at hV
  have Hi0 := Lib.hid (And.intro hi0 (And.intro hV.1 (And.intro hV.2.1 hV.2.2))); clear hi0 hV
  have HR := Lib.hid hR; clear hR
  go_enter Tryd.func61, Tryd.ntmps61
  go_wp2_with fail
  go_loopg [5] (l.length + 1) (fun gk i wr => ∃ q : Nat, gk + q = l.length + 1 ∧ q ≤ l.length ∧ i = .int .i64 q ∧ (∀ j (h : j < l.length), j < q → ltN l[j] s) ∧ wr = w)
  case atStart => exact ⟨0, by omega, by omega, rfl, fun j _ h => by omega, rfl⟩
  case round =>
    obtain ⟨q, hgq, hql, rfl, hlt, rfl⟩ := hrel
    have HL := Lib.hid hlt; clear hlt
    by_cases hq : q < l.length
    · obtain ⟨b, o, rfl, hbB, hx⟩ := HR.out.atMap (f := Value.string) (l := l) hq
      have hless := less_ltN l[q] s
      have hsame := same_name l[q] s
      have hpl := putL_at s l q hql
      obtain ⟨x, hxe⟩ : ∃ x, l[q] = x := ⟨_, rfl⟩
      rw [hxe] at hx hless hsame
      have hq2 : (q : Int) < (l.length : Int) := by omega
      have Hx := Lib.hid (And.intro hxe hpl); clear hxe hpl
      by_cases h1 : ltN x s
      · rw [decide_eq_true h1] at hless
        have H1 := Lib.hid h1; clear h1 hsame
        go_wp2_with fail
        go_roundg (gk - 1)
        case measure => omega
        case rel => exact ⟨q + 1, by omega, by omega, by go_num, fun j hj hjq => by
          by_cases e : j = q
          · subst e; rw [Hx.out.1]; exact H1.out
          · exact HL.out j hj (by omega), rfl⟩
      rw [decide_eq_false h1] at hless
      have H1 := Lib.hid h1; clear h1
      by_cases h2 : x = s
      · rw [decide_eq_true h2] at hsame
        have H2 := Lib.hid h2; clear h2
        go_wp2_with fail
        go_ret
        have he := (Hx.out.2 HL.out (fun _ => by rw [Hx.out.1]; exact H1.out)).1 hq (by rw [Hx.out.1]; exact H2.out)
        exact ⟨some ⟨b, o, none⟩, c, by rw [he]; rfl, by rw [he]; exact hc, .inr ⟨b, o, rfl⟩, by rw [he]; exact HR.out, Below.refl _ _⟩
      · rw [decide_eq_false h2] at hsame
        have H2 := Lib.hid h2; clear h2
        have he := (Hx.out.2 HL.out (fun _ => by rw [Hx.out.1]; exact H1.out)).2 (fun _ => by rw [Hx.out.1]; exact H2.out)
        have He := Lib.hid he; clear he
        have hqc : q ≤ c := by omega
        go_upto_region 6 with (fail)
        have hsrc : ∀ W, Below wr.heap.size wr W → SrcAt W (some ⟨b, o, none⟩) (strs (l.take q)) := fun W hb => src_take (HR.out.below hb) q
        have hsrd : ∀ W, Below wr.heap.size wr W → SrcAt W (if c = q then some ⟨b, o, none⟩ else some ⟨b, o + q, none⟩) (strs (l.drop q)) := fun W hb => src_drop (HR.out.below hb) hc
        have hl1 : (strs (l.take q)).length = q * 1 := by simp [strs]; omega
        have hl2 : (strs (l.drop q)).length = (l.length - q) * 1 := by simp [strs]
        have HS := Lib.hid (And.intro hsrc (And.intro hsrd (And.intro hl1 hl2))); clear hsrc hsrd hl1 hl2
        go_region_held3 (fun _ => True) (exact trivial) (first
          | (refine step_append_src rfl (.const (.slice none 0 0)) (.tmp 35) _ rfl wr.heap.size 9 i0 _ 1 16 Tryd.underlying86 Hi0.out.1 Hi0.out.2.1 Hi0.out.2.2.1 Hi0.out.2.2.2 rfl (by decide) (.slice none 0 0) 0 [] rfl (World.ownsRow_nil _ _ _ _) (some ⟨b, o, none⟩) q c (strs (l.take q)) rfl HS.out.2.2.1 (HS.out.1 _ (by first | exact (Below.refl _ _).drew | exact ((Below.refl _ _).alloc (Nat.le_refl _) _).drew | exact (Below.refl _ _).drew.alloc (Nat.le_refl _) _)) (strs_one _) (by unfold maxLen; omega) (by omega) (by first | exact Nat.le_refl _ | simp) (fun v1 w1 hown1 hg1 _ => ?_)
             rw [Nat.zero_add, List.nil_append] at hown1
             obtain ⟨A1, d1, rfl, _, _⟩ := own_form hown1
             have hb1 : Below wr.heap.size wr w1 := (by first | exact (Below.refl _ _).drew.grown hg1 (Nat.le_refl _) (fun k hk => by cases hk) | exact ((Below.refl _ _).alloc (Nat.le_refl _) _).drew.grown hg1 (by simp) (fun k hk => by cases hk) | exact ((Below.refl _ _).drew.alloc (Nat.le_refl _) _).grown hg1 (by simp) (fun k hk => by cases hk))
             have HB1 := Lib.hid (And.intro hown1 (And.intro hg1 hb1)); clear hown1 hg1 hb1)
          | (refine step_append_src rfl (.tmp 39) (.tmp 42) _ rfl wr.heap.size 9 i0 _ 1 16 Tryd.underlying86 Hi0.out.1 Hi0.out.2.1 Hi0.out.2.2.1 Hi0.out.2.2.2 rfl (by decide) (.slice A2 (q + 1) d2) (q + 1) (strs (l.take q) ++ strs [s]) rfl HB2.out.1 (if c = q then some ⟨b, o, none⟩ else some ⟨b, o + q, none⟩) (l.length - q) (c - q) (strs (l.drop q)) rfl HS.out.2.2.2 (HS.out.2.1 _ HB2.out.2) (strs_one _) (by unfold maxLen; omega) (by omega) HB2.out.2.size (fun v3 w3 hown3 hg3 hl3 => ?_)
             obtain ⟨A3, d3, rfl, _, _⟩ := own_form hown3
             have hb3 : Below wr.heap.size wr w3 := HB2.out.2.grown hg3 HB2.out.2.size (fun k hk => (HB2.out.1.lt k hk).1)
             have HB3 := Lib.hid (And.intro hown3 hb3); clear hown3 hg3 hl3 hb3)
          | (refine step_append_src rfl (.tmp 36) (.tmp 38) _ rfl wr.heap.size 9 i0 _ 1 16 Tryd.underlying86 Hi0.out.1 Hi0.out.2.1 Hi0.out.2.2.1 Hi0.out.2.2.2 rfl (by decide) (.slice A1 q d1) q (strs (l.take q)) rfl (by first | exact HB1.out.1 | exact HB1.out.1.alloc _) (some ⟨_, 0, none⟩) 1 1 (strs [s]) rfl rfl (by first
                 | exact fun _ => ⟨_, 0, rfl, fun j u hu => ((Blk.new _ _ (strs [s])).cellAdd j).trans hu⟩
                 | exact fun _ => ⟨_, 0, rfl, fun j u hu => ((((Blk.new wr _ (strs [s])).drew).grown HB1.out.2.1 (by simp [Value.ownBlock])).cellAdd j).trans hu⟩) (strs_one _) (by unfold maxLen; omega) (by omega) (by have := HB1.out.2.2.size; first | exact this | (simp at this ⊢; omega)) (fun v2 w2 hown2 hg2 hl2 => ?_)
             obtain ⟨A2, d2, rfl, _, _⟩ := own_form hown2
             have hb2 : Below wr.heap.size wr w2 := (by first | exact HB1.out.2.2.grown hg2 HB1.out.2.2.size (fun k hk => (HB1.out.1.lt k hk).1) | exact (HB1.out.2.2.alloc HB1.out.2.2.size _).grown hg2 (by have := HB1.out.2.2.size; simp; omega) (fun k hk => (HB1.out.1.lt k hk).1))
             have HB2 := Lib.hid (And.intro hown2 hb2); clear hown2 hg2 hl2 hb2))
        all_goals go_wp2_with fail
        all_goals
          go_ret
          have ho := HB3.out.1
          rw [List.append_assoc, show strs (l.take q) ++ (strs [s] ++ strs (l.drop q)) = strs (putL s l) by rw [He.out]; simp [strs]] at ho
          have hlen : q + 1 + (l.length - q) = (putL s l).length := by rw [He.out]; simp; omega
          rw [hlen] at ho ⊢
          obtain ⟨A', c', e, h1, h2, h3⟩ := own_strs ho
          injection e with e1 _ e3
          subst e1 e3
          exact ⟨A3, d3, rfl, h1, h2, h3, HB3.out.2⟩
    · obtain rfl : q = l.length := by omega
      have hpl := putL_at s l l.length (Nat.le_refl _)
      have He := Lib.hid ((hpl HL.out (fun h => by omega)).2 (fun h => by omega)); clear hpl
      rcases hA with ⟨rfl, rfl⟩ | ⟨b, o, rfl⟩
      · obtain rfl : l = [] := List.length_eq_zero_iff.1 (by omega)
        go_upto_region 6 with (fail)
        have hsrc : ∀ W, Below wr.heap.size wr W → SrcAt W none (strs (([] : List ByteArray))) := fun W hb h => absurd rfl h
        have hsrd : ∀ W, Below wr.heap.size wr W → SrcAt W none (strs (([] : List ByteArray))) := fun W hb => fun h => absurd rfl h
        have hl1 : (strs (([] : List ByteArray))).length = 0 * 1 := by simp [strs]
        have hl2 : (strs (([] : List ByteArray))).length = 0 * 1 := by simp [strs]
        have HS := Lib.hid (And.intro hsrc (And.intro hsrd (And.intro hl1 hl2))); clear hsrc hsrd hl1 hl2
        go_region_held3 (fun _ => True) (exact trivial) (first
          | (refine step_append_src rfl (.const (.slice none 0 0)) (.tmp 35) _ rfl wr.heap.size 9 i0 _ 1 16 Tryd.underlying86 Hi0.out.1 Hi0.out.2.1 Hi0.out.2.2.1 Hi0.out.2.2.2 rfl (by decide) (.slice none 0 0) 0 [] rfl (World.ownsRow_nil _ _ _ _) none 0 0 (strs (([] : List ByteArray))) rfl HS.out.2.2.1 (HS.out.1 _ (by first | exact (Below.refl _ _).drew | exact ((Below.refl _ _).alloc (Nat.le_refl _) _).drew | exact (Below.refl _ _).drew.alloc (Nat.le_refl _) _)) (strs_one _) (by unfold maxLen; omega) (by omega) (by first | exact Nat.le_refl _ | simp) (fun v1 w1 hown1 hg1 _ => ?_)
             rw [Nat.zero_add, List.nil_append] at hown1
             obtain ⟨A1, d1, rfl, _, _⟩ := own_form hown1
             have hb1 : Below wr.heap.size wr w1 := (by first | exact (Below.refl _ _).drew.grown hg1 (Nat.le_refl _) (fun k hk => by cases hk) | exact ((Below.refl _ _).alloc (Nat.le_refl _) _).drew.grown hg1 (by simp) (fun k hk => by cases hk) | exact ((Below.refl _ _).drew.alloc (Nat.le_refl _) _).grown hg1 (by simp) (fun k hk => by cases hk))
             have HB1 := Lib.hid (And.intro hown1 (And.intro hg1 hb1)); clear hown1 hg1 hb1)
          | (refine step_append_src rfl (.tmp 39) (.tmp 42) _ rfl wr.heap.size 9 i0 _ 1 16 Tryd.underlying86 Hi0.out.1 Hi0.out.2.1 Hi0.out.2.2.1 Hi0.out.2.2.2 rfl (by decide) (.slice A2 (0 + 1) d2) (0 + 1) (strs (([] : List ByteArray)) ++ strs [s]) rfl HB2.out.1 none 0 0 (strs (([] : List ByteArray))) rfl HS.out.2.2.2 (HS.out.2.1 _ HB2.out.2) (strs_one _) (by unfold maxLen; omega) (by omega) HB2.out.2.size (fun v3 w3 hown3 hg3 hl3 => ?_)
             obtain ⟨A3, d3, rfl, _, _⟩ := own_form hown3
             have hb3 : Below wr.heap.size wr w3 := HB2.out.2.grown hg3 HB2.out.2.size (fun k hk => (HB2.out.1.lt k hk).1)
             have HB3 := Lib.hid (And.intro hown3 hb3); clear hown3 hg3 hl3 hb3)
          | (refine step_append_src rfl (.tmp 36) (.tmp 38) _ rfl wr.heap.size 9 i0 _ 1 16 Tryd.underlying86 Hi0.out.1 Hi0.out.2.1 Hi0.out.2.2.1 Hi0.out.2.2.2 rfl (by decide) (.slice A1 0 d1) 0 (strs (([] : List ByteArray))) rfl (by first | exact HB1.out.1 | exact HB1.out.1.alloc _) (some ⟨_, 0, none⟩) 1 1 (strs [s]) rfl rfl (by first
                 | exact fun _ => ⟨_, 0, rfl, fun j u hu => ((Blk.new _ _ (strs [s])).cellAdd j).trans hu⟩
                 | exact fun _ => ⟨_, 0, rfl, fun j u hu => ((((Blk.new wr _ (strs [s])).drew).grown HB1.out.2.1 (by simp [Value.ownBlock])).cellAdd j).trans hu⟩) (strs_one _) (by unfold maxLen; omega) (by omega) (by have := HB1.out.2.2.size; first | exact this | (simp at this ⊢; omega)) (fun v2 w2 hown2 hg2 hl2 => ?_)
             obtain ⟨A2, d2, rfl, _, _⟩ := own_form hown2
             have hb2 : Below wr.heap.size wr w2 := (by first | exact HB1.out.2.2.grown hg2 HB1.out.2.2.size (fun k hk => (HB1.out.1.lt k hk).1) | exact (HB1.out.2.2.alloc HB1.out.2.2.size _).grown hg2 (by have := HB1.out.2.2.size; simp; omega) (fun k hk => (HB1.out.1.lt k hk).1))
             have HB2 := Lib.hid (And.intro hown2 hb2); clear hown2 hg2 hl2 hb2))
        all_goals go_wp2_with fail
        all_goals
          go_ret
          have ho := HB3.out.1
          rw [List.append_assoc, show strs (([] : List ByteArray)) ++ (strs [s] ++ strs (([] : List ByteArray))) = strs (putL s []) by rw [He.out]; simp [strs]] at ho
          have hlen : 0 + 1 + 0 = (putL s []).length := by rw [He.out]; simp
          rw [hlen] at ho ⊢
          obtain ⟨A', c', e, h1, h2, h3⟩ := own_strs ho
          injection e with e1 _ e3
          subst e1 e3
          exact ⟨A3, d3, rfl, h1, h2, h3, HB3.out.2⟩
      · go_upto_region 6 with (fail)
        have hsrc : ∀ W, Below wr.heap.size wr W → SrcAt W (some ⟨b, o, none⟩) (strs (l.take l.length)) := fun W hb => src_take (HR.out.below hb) l.length
        have hsrd : ∀ W, Below wr.heap.size wr W → SrcAt W (if c = l.length then some ⟨b, o, none⟩ else some ⟨b, o + l.length, none⟩) (strs (l.drop l.length)) := fun W hb => src_drop (HR.out.below hb) hc
        have hl1 : (strs (l.take l.length)).length = l.length * 1 := by simp [strs]
        have hl2 : (strs (l.drop l.length)).length = 0 * 1 := by simp [strs]
        have HS := Lib.hid (And.intro hsrc (And.intro hsrd (And.intro hl1 hl2))); clear hsrc hsrd hl1 hl2
        go_region_held3 (fun _ => True) (exact trivial) (first
          | (refine step_append_src rfl (.const (.slice none 0 0)) (.tmp 35) _ rfl wr.heap.size 9 i0 _ 1 16 Tryd.underlying86 Hi0.out.1 Hi0.out.2.1 Hi0.out.2.2.1 Hi0.out.2.2.2 rfl (by decide) (.slice none 0 0) 0 [] rfl (World.ownsRow_nil _ _ _ _) (some ⟨b, o, none⟩) l.length c (strs (l.take l.length)) rfl HS.out.2.2.1 (HS.out.1 _ (by first | exact (Below.refl _ _).drew | exact ((Below.refl _ _).alloc (Nat.le_refl _) _).drew | exact (Below.refl _ _).drew.alloc (Nat.le_refl _) _)) (strs_one _) (by unfold maxLen; omega) (by omega) (by first | exact Nat.le_refl _ | simp) (fun v1 w1 hown1 hg1 _ => ?_)
             rw [Nat.zero_add, List.nil_append] at hown1
             obtain ⟨A1, d1, rfl, _, _⟩ := own_form hown1
             have hb1 : Below wr.heap.size wr w1 := (by first | exact (Below.refl _ _).drew.grown hg1 (Nat.le_refl _) (fun k hk => by cases hk) | exact ((Below.refl _ _).alloc (Nat.le_refl _) _).drew.grown hg1 (by simp) (fun k hk => by cases hk) | exact ((Below.refl _ _).drew.alloc (Nat.le_refl _) _).grown hg1 (by simp) (fun k hk => by cases hk))
             have HB1 := Lib.hid (And.intro hown1 (And.intro hg1 hb1)); clear hown1 hg1 hb1)
          | (refine step_append_src rfl (.tmp 39) (.tmp 42) _ rfl wr.heap.size 9 i0 _ 1 16 Tryd.underlying86 Hi0.out.1 Hi0.out.2.1 Hi0.out.2.2.1 Hi0.out.2.2.2 rfl (by decide) (.slice A2 (l.length + 1) d2) (l.length + 1) (strs (l.take l.length) ++ strs [s]) rfl HB2.out.1 (if c = l.length then some ⟨b, o, none⟩ else some ⟨b, o + l.length, none⟩) 0 (c - l.length) (strs (l.drop l.length)) rfl HS.out.2.2.2 (HS.out.2.1 _ HB2.out.2) (strs_one _) (by unfold maxLen; omega) (by omega) HB2.out.2.size (fun v3 w3 hown3 hg3 hl3 => ?_)
             obtain ⟨A3, d3, rfl, _, _⟩ := own_form hown3
             have hb3 : Below wr.heap.size wr w3 := HB2.out.2.grown hg3 HB2.out.2.size (fun k hk => (HB2.out.1.lt k hk).1)
             have HB3 := Lib.hid (And.intro hown3 hb3); clear hown3 hg3 hl3 hb3)
          | (refine step_append_src rfl (.tmp 36) (.tmp 38) _ rfl wr.heap.size 9 i0 _ 1 16 Tryd.underlying86 Hi0.out.1 Hi0.out.2.1 Hi0.out.2.2.1 Hi0.out.2.2.2 rfl (by decide) (.slice A1 l.length d1) l.length (strs (l.take l.length)) rfl (by first | exact HB1.out.1 | exact HB1.out.1.alloc _) (some ⟨_, 0, none⟩) 1 1 (strs [s]) rfl rfl (by first
                 | exact fun _ => ⟨_, 0, rfl, fun j u hu => ((Blk.new _ _ (strs [s])).cellAdd j).trans hu⟩
                 | exact fun _ => ⟨_, 0, rfl, fun j u hu => ((((Blk.new wr _ (strs [s])).drew).grown HB1.out.2.1 (by simp [Value.ownBlock])).cellAdd j).trans hu⟩) (strs_one _) (by unfold maxLen; omega) (by omega) (by have := HB1.out.2.2.size; first | exact this | (simp at this ⊢; omega)) (fun v2 w2 hown2 hg2 hl2 => ?_)
             obtain ⟨A2, d2, rfl, _, _⟩ := own_form hown2
             have hb2 : Below wr.heap.size wr w2 := (by first | exact HB1.out.2.2.grown hg2 HB1.out.2.2.size (fun k hk => (HB1.out.1.lt k hk).1) | exact (HB1.out.2.2.alloc HB1.out.2.2.size _).grown hg2 (by have := HB1.out.2.2.size; simp; omega) (fun k hk => (HB1.out.1.lt k hk).1))
             have HB2 := Lib.hid (And.intro hown2 hb2); clear hown2 hg2 hl2 hb2))
        all_goals go_wp2_with fail
        all_goals
          go_ret
          have ho := HB3.out.1
          rw [List.append_assoc, show strs (l.take l.length) ++ (strs [s] ++ strs (l.drop l.length)) = strs (putL s l) by rw [He.out]; simp [strs]] at ho
          have hlen : l.length + 1 = (putL s l).length := by rw [He.out]; simp
          rw [hlen] at ho ⊢
          obtain ⟨A', c', e, h1, h2, h3⟩ := own_strs ho
          injection e with e1 _ e3
          subst e1 e3
          exact ⟨A3, d3, rfl, h1, h2, h3, HB3.out.2⟩
end Go.Proofs.YtgiceeholamphaaDoor
