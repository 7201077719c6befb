/- The variables of a map, in order of their names: plain. No conditions. -/
import Derived.Test.YtgiceeholamphaaBeginW
import Derived.Test.YtgiceeholamphaaIter
namespace Go.Proofs.Ytgiceeholamphaa
open Go.ChangeShapes Go.WideShapes Go.ChangeAt Go.RowKit Go.Maps

def nm (x : List UInt8) : ByteArray := ⟨x.toArray⟩
theorem nm_data (s : ByteArray) : nm s.data.toList = s := bytes_data (by simp [nm])
theorem data_nm (x : List UInt8) : (nm x).data.toList = x := by simp [nm]
theorem nm_inj {x y : List UInt8} (h : nm x = nm y) : x = y := by rw [← data_nm x, h, data_nm]
theorem keyL_nm (x : List UInt8) : keyL (nm x) = .string x := by rw [keyL, data_nm]
/-- L: what f says, in order of the names. -/
structure IsVars (f : ByteArray → Option Int) (L : List VarR) : Prop where
  sorted : L.Pairwise fun a b => a.name.data.toList < b.name.data.toList
  mem : ∀ v : VarR, v ∈ L ↔ f v.name = some v.n
def varOf (f : ByteArray → Option Int) (x : List UInt8) : VarR := ⟨nm x, (f (nm x)).getD 0⟩
theorem keys_says {w : World} {e : TypeId} {b N : Nat} {D : DataW Unit} {f : ByteArray → Option Int} (h : w.ownsMap Try.prog 9 (plainElem Try.prog e) b N D) (hs : Says D f) :
    (strKeys D).Nodup ∧ ∀ x, x ∈ strKeys D ↔ (f (nm x)).isSome = true := by
  obtain ⟨es, hD, hpw, _⟩ := h.entries kS
  obtain ⟨es', hD', hko⟩ := h.keysOf
  obtain rfl : es = es' := by rw [hD] at hD'; simpa using hD'
  subst hD
  have hk : ∀ p ∈ es, ∃ x, p.1 = .string x := fun p hp => by
    obtain ⟨v, hv⟩ := hko p hp
    obtain ⟨x, _, hx, _⟩ := Maps.keyOf_str Try.underlying9 hv
    exact ⟨x, hx⟩
  refine ⟨?_, fun x => ?_⟩
  · refine List.pairwise_map.2 (hpw.imp_of_mem fun {p q} hp hq hne e => hne ?_)
    obtain ⟨a, ha⟩ := hk p hp
    obtain ⟨c, hc⟩ := hk q hq
    rw [ha, hc] at e ⊢
    exact congrArg _ e
  · have hx := hs.has (nm x)
    rw [keyL_nm, has_eq] at hx
    rw [← hx, List.any_eq_true]
    constructor
    · intro hm
      obtain ⟨p, hp, rfl⟩ := List.mem_map.1 hm
      obtain ⟨a, ha⟩ := hk p hp
      exact ⟨p, hp, by rw [ha]; simp [Lit.sameKey, strOf]⟩
    · rintro ⟨p, hp, he⟩
      obtain ⟨a, ha⟩ := hk p hp
      refine List.mem_map.2 ⟨p, hp, ?_⟩
      rw [ha] at he ⊢
      simpa [Lit.sameKey, strOf] using he
theorem isVars_of {f : ByteArray → Option Int} {K ss : List (List UInt8)} (hn : K.Nodup) (hm : ∀ x, x ∈ K ↔ (f (nm x)).isSome = true) (hp : ss.Perm K) : IsVars f ((ss.mergeSort fun x y => decide (x ≤ y)).map (varOf f)) := by
  have hpm := List.mergeSort_perm ss leB
  have hnd : (ss.mergeSort leB).Nodup := (hpm.trans hp).nodup_iff.2 hn
  have hpw : (ss.mergeSort leB).Pairwise fun a b => leB a b = true :=
    List.pairwise_mergeSort (fun a b c h1 h2 => by simp only [leB, decide_eq_true_eq] at *; exact List.le_trans h1 h2) (fun a b => by simp only [leB, Bool.or_eq_true, decide_eq_true_eq]; exact List.le_total a b) ss
  refine ⟨List.pairwise_map.2 ((hpw.and hnd).imp fun {a b} h => ?_), fun v => ?_⟩
  · obtain ⟨h1, h2⟩ := h
    simp only [leB, decide_eq_true_eq] at h1
    show (nm a).data.toList < (nm b).data.toList
    rw [data_nm, data_nm]
    exact Std.lt_of_le_of_ne h1 h2
  · rw [List.mem_map]
    constructor
    · rintro ⟨x, hx, rfl⟩
      have hx2 := (hm x).1 ((hpm.trans hp).mem_iff.1 hx)
      obtain ⟨c, hc⟩ := Option.isSome_iff_exists.1 hx2
      show f (nm x) = some ((f (nm x)).getD 0)
      rw [hc]; rfl
    · intro hv
      refine ⟨v.name.data.toList, (hpm.trans hp).mem_iff.2 ((hm _).2 (by rw [nm_data, hv]; rfl)), ?_⟩
      obtain ⟨s, c⟩ := v
      simp only [varOf, nm_data] at hv ⊢
      rw [hv]; rfl
theorem IsVars.unique {f : ByteArray → Option Int} {A B : List VarR} (h : IsVars f A) (k : IsVars f B) : A = B := by
  have hne : ∀ {L : List VarR}, IsVars f L → L.Nodup := fun h => h.sorted.imp fun {a b} h e => by subst e; exact List.lt_irrefl _ h
  have hp : A.Perm B := (List.perm_ext_iff_of_nodup (hne h) (hne k)).2 fun v => (h.mem v).trans (k.mem v).symm
  refine List.Perm.eq_of_pairwise (le := fun a b : VarR => a.name.data.toList < b.name.data.toList) (fun a b _ _ h1 h2 => ?_) h.sorted k.sorted hp
  exact absurd (List.lt_trans h1 h2) (List.lt_irrefl _)
end Go.Proofs.Ytgiceeholamphaa
