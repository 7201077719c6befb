/- slices.Sorted(maps.Keys(m)): the library's contracts, laid at this program (made by program: lay-iter.mjs, shelflog, mkiter.py). No conditions. -/
import Derived.Shelf.SlIter.Nil
import Derived.Shelf.SortM.Plain
import Derived.Shelf.SortM.SortNone
import Derived.Ground.GgzProg
import Derived.Ground.SlgmProg
import Derived.Test.YtgiceeholamphaaNamed
namespace Go.Proofs.Ytgiceeholamphaa
open Go.ChangeShapes Go.WideShapes Go.ChangeAt Go.RowKit Go.Maps Go.Sort Go.Shelf

def keys25_ren : Go.Shelf.Ren := ⟨fun | 7 => 25 | 10 => 43 | n => n, fun | 23 => 40 | 26 => 9 | 3 => 2 | 28 => 67 | 0 => 0 | 27 => 66 | 33 => 56 | 4 => 4 | n => n, fun | n => n⟩
theorem keys25 : Go.Proofs.SlLaysZ.n7 Try.prog keys25_ren := {
  mixed := by kernel_rfl,
  f7 := ⟨Try.f25.name, by decide, Try.func25.trans (congrArg some (by kernel_rfl))⟩,
  f10 := ⟨Try.f43.name, by decide, Try.func43.trans (congrArg some (by kernel_rfl))⟩,
  t0 := Try.underlying0,
  a0 := Try.isAgg0,
  z0 := Try.sizeOf0,
  v0 := Try.zeroValue0,
  t4 := Try.underlying4,
  a4 := Try.isAgg4,
  z4 := Try.sizeOf4,
  v4 := Try.zeroValue4,
  t23 := Try.underlying40,
  a23 := Try.isAgg40,
  z23 := Try.sizeOf40,
  v23 := Try.zeroValue40,
  t26 := Try.underlying9,
  a26 := Try.isAgg9,
  z26 := Try.sizeOf9,
  v26 := Try.zeroValue9,
  t27 := Try.underlying66,
  a27 := Try.isAgg66,
  z27 := Try.sizeOf66,
  v27 := Try.zeroValue66,
  t28 := Try.underlying67,
  a28 := Try.isAgg67,
  z28 := Try.sizeOf67,
  v28 := Try.zeroValue67,
  t33 := Try.underlying56,
  a33 := Try.isAgg56,
  z33 := Try.sizeOf56,
  v33 := Try.zeroValue56 }
def sorted24_ren : Go.Shelf.Ren := ⟨fun | 6 => 24 | 8 => 41 | 9 => 42 | 11 => 50 | 13 => 52 | 12 => 51 | 23 => 62 | 24 => 63 | 14 => 53 | 15 => 54 | 16 => 55 | 17 => 56 | 18 => 57 | 19 => 58 | 20 => 59 | 21 => 60 | 22 => 61 | 25 => 64 | 26 => 65 | 27 => 66 | 28 => 67 | 29 => 68 | 30 => 69 | 31 => 70 | n => n, fun | 26 => 9 | 28 => 67 | 24 => 64 | 0 => 0 | 3 => 3 | 37 => 90 | 48 => 101 | 50 => 103 | 4 => 4 | 40 => 93 | 39 => 92 | 45 => 98 | 5 => 5 | 9 => 9 | 51 => 104 | 55 => 108 | 57 => 110 | 58 => 111 | 33 => 56 | n => n, fun | n => n⟩
theorem sorted24 : Go.Proofs.SlLaysZ.n6 Try.prog sorted24_ren := {
  mixed := by kernel_rfl,
  f6 := ⟨Try.f24.name, by decide, Try.func24.trans (congrArg some (by kernel_rfl))⟩,
  f8 := ⟨Try.f41.name, by decide, Try.func41.trans (congrArg some (by kernel_rfl))⟩,
  f11 := ⟨Try.f50.name, by decide, Try.func50.trans (congrArg some (by kernel_rfl))⟩,
  t0 := Try.underlying0,
  a0 := Try.isAgg0,
  z0 := Try.sizeOf0,
  v0 := Try.zeroValue0,
  t24 := Try.underlying64,
  a24 := Try.isAgg64,
  z24 := Try.sizeOf64,
  v24 := Try.zeroValue64,
  t26 := Try.underlying9,
  a26 := Try.isAgg9,
  z26 := Try.sizeOf9,
  v26 := Try.zeroValue9,
  t28 := Try.underlying67,
  a28 := Try.isAgg67,
  z28 := Try.sizeOf67,
  v28 := Try.zeroValue67,
  i26 := by kernel_rfl }
def sort42_ren : Go.Shelf.Ren := ⟨fun | 6 => 42 | 8 => 52 | 9 => 51 | 19 => 62 | 20 => 63 | 21 => 53 | 22 => 54 | 23 => 55 | 24 => 56 | 25 => 57 | 26 => 58 | 27 => 59 | 28 => 60 | 29 => 61 | 36 => 64 | 31 => 65 | 32 => 66 | 37 => 67 | 38 => 68 | 39 => 69 | 41 => 70 | n => n, fun | 27 => 64 | 29 => 9 | 3 => 3 | 32 => 90 | 26 => 64 | 0 => 0 | 44 => 101 | 46 => 103 | 4 => 4 | 36 => 93 | 35 => 92 | 41 => 98 | 5 => 5 | 9 => 9 | 53 => 104 | 57 => 108 | 63 => 110 | 64 => 111 | n => n, fun | n => n⟩
theorem sort42 : Go.Proofs.SlLaysM.n6 Try.prog sort42_ren := {
  mixed := by kernel_rfl,
  f6 := ⟨Try.f42.name, by decide, Try.func42.trans (congrArg some (by kernel_rfl))⟩,
  f8 := Try.func52.trans (congrArg some (by kernel_rfl)),
  f9 := ⟨Try.f51.name, by decide, Try.func51.trans (congrArg some (by kernel_rfl))⟩,
  f19 := Try.func62.trans (congrArg some (by kernel_rfl)),
  f20 := Try.func63.trans (congrArg some (by kernel_rfl)),
  f21 := ⟨Try.f53.name, by decide, Try.func53.trans (congrArg some (by kernel_rfl))⟩,
  f22 := ⟨Try.f54.name, by decide, Try.func54.trans (congrArg some (by kernel_rfl))⟩,
  f23 := ⟨Try.f55.name, by decide, Try.func55.trans (congrArg some (by kernel_rfl))⟩,
  f24 := ⟨Try.f56.name, by decide, Try.func56.trans (congrArg some (by kernel_rfl))⟩,
  f25 := ⟨Try.f57.name, by decide, Try.func57.trans (congrArg some (by kernel_rfl))⟩,
  f26 := ⟨Try.f58.name, by decide, Try.func58.trans (congrArg some (by kernel_rfl))⟩,
  f27 := ⟨Try.f59.name, by decide, Try.func59.trans (congrArg some (by kernel_rfl))⟩,
  f28 := ⟨Try.f60.name, by decide, Try.func60.trans (congrArg some (by kernel_rfl))⟩,
  f29 := ⟨Try.f61.name, by decide, Try.func61.trans (congrArg some (by kernel_rfl))⟩,
  f31 := Try.func65.trans (congrArg some (by kernel_rfl)),
  f32 := Try.func66.trans (congrArg some (by kernel_rfl)),
  f36 := ⟨Try.f64.name, by decide, Try.func64.trans (congrArg some (by kernel_rfl))⟩,
  f37 := ⟨Try.f67.name, by decide, Try.func67.trans (congrArg some (by kernel_rfl))⟩,
  f38 := ⟨Try.f68.name, by decide, Try.func68.trans (congrArg some (by kernel_rfl))⟩,
  f39 := ⟨Try.f69.name, by decide, Try.func69.trans (congrArg some (by kernel_rfl))⟩,
  f41 := ⟨Try.f70.name, by decide, Try.func70.trans (congrArg some (by kernel_rfl))⟩,
  t0 := Try.underlying0,
  a0 := Try.isAgg0,
  z0 := Try.sizeOf0,
  v0 := Try.zeroValue0,
  t3 := Try.underlying3,
  a3 := Try.isAgg3,
  z3 := Try.sizeOf3,
  v3 := Try.zeroValue3,
  t4 := Try.underlying4,
  a4 := Try.isAgg4,
  z4 := Try.sizeOf4,
  v4 := Try.zeroValue4,
  t5 := Try.underlying5,
  a5 := Try.isAgg5,
  z5 := Try.sizeOf5,
  v5 := Try.zeroValue5,
  t9 := Try.underlying9,
  a9 := Try.isAgg9,
  z9 := Try.sizeOf9,
  v9 := Try.zeroValue9,
  t26 := Try.underlying64,
  a26 := Try.isAgg64,
  z26 := Try.sizeOf64,
  v26 := Try.zeroValue64,
  t27 := Try.underlying64,
  a27 := Try.isAgg64,
  z27 := Try.sizeOf64,
  v27 := Try.zeroValue64,
  t29 := Try.underlying9,
  a29 := Try.isAgg9,
  z29 := Try.sizeOf9,
  v29 := Try.zeroValue9,
  t32 := Try.underlying90,
  a32 := Try.isAgg90,
  z32 := Try.sizeOf90,
  v32 := Try.zeroValue90,
  t35 := Try.underlying92,
  a35 := Try.isAgg92,
  z35 := Try.sizeOf92,
  v35 := Try.zeroValue92,
  t36 := Try.underlying93,
  a36 := Try.isAgg93,
  z36 := Try.sizeOf93,
  v36 := Try.zeroValue93,
  t41 := Try.underlying98,
  a41 := Try.isAgg98,
  z41 := Try.sizeOf98,
  v41 := Try.zeroValue98,
  t44 := Try.underlying101,
  a44 := Try.isAgg101,
  z44 := Try.sizeOf101,
  v44 := Try.zeroValue101,
  t46 := Try.underlying103,
  a46 := Try.isAgg103,
  z46 := Try.sizeOf103,
  v46 := Try.zeroValue103,
  t53 := Try.underlying104,
  a53 := Try.isAgg104,
  z53 := Try.sizeOf104,
  v53 := Try.zeroValue104,
  t57 := Try.underlying108,
  a57 := Try.isAgg108,
  z57 := Try.sizeOf108,
  v57 := Try.zeroValue108,
  t63 := Try.underlying110,
  a63 := Try.isAgg110,
  z63 := Try.sizeOf110,
  v63 := Try.zeroValue110,
  t64 := Try.underlying111,
  a64 := Try.isAgg111,
  z64 := Try.sizeOf111,
  v64 := Try.zeroValue111 }
/-- slices.Sort's two contracts at this dump, at the fence that asks nothing. -/
theorem sorts24 (m : Nat) : AnyZ.SortsIn Try.prog sorted24_ren Fence.wide m :=
  ⟨fun blk off cap ss W hH hblk hsz => callsIn_wide.2 (AnyM.slices_Sort_string sort42 blk off cap ss W hH hblk hsz),
   fun p cap W => callsIn_wide.2 (AnyM.slices_Sort_string_none sort42 p cap W)⟩

/-- **maps.Keys[map[string]int64,string,int64], at whatever map, the nil one too:** a function value over ONE NEW BLOCK, which holds the map. -/
theorem maps_Keys_25 (mb : Option Nat) (W : World) : CallsIn Fence.wide 5 Try.prog 25 #[.map mb] W fun e w' => e = .returned (.func (.func 43) #[] #[.pointer (some ⟨W.heap.size, 0, none⟩)]) ∧ w' = W.alloc (.cells #[.map mb] 40) :=
  AnyZ.keys_in keys25 Fence.wide 5 trivial rfl mb W

set_option maxHeartbeats 1000000 in
/-- **slices.Sorted[string] AT WHAT maps.Keys[map[string]int64,string,int64] HANDED BACK FOR A MAP THAT IS NOT nil** ('w': the world AHEAD of maps.Keys' call): A NEW SLICE THAT HOLDS THE MAP's KEYS, SORTED; nil just where it has none; nothing that lay before has turned. -/
theorem slices_Sorted_keys_24_25 {H : Type} (b nn : Nat) (D0 : DataW H) (R : Value → Option (DataW H × List MemPlace)) (w : World) (hown : w.ownsMap Try.prog 9 R b nn D0) (hmax : Maps.size D0 ≤ maxLen) (hbytes : Maps.size D0 * 16 ≤ 140737488355328) :
    CallsIn Fence.wide 5 Try.prog 24 #[.func (.func 43) #[] #[.pointer (some ⟨w.heap.size, 0, none⟩)]] (w.alloc (.cells #[.map (some b)] 40)) fun e w' => ∃ (v : Value) (ss : List (List UInt8)), e = .returned v ∧ ss.Perm (strKeys D0) ∧
      w'.ownsRow (w.alloc (.cells #[.map (some b)] 40)).heap.size 9 1 v ss.length ((ss.mergeSort (fun x y => decide (x ≤ y))).map encStr) ∧ (v = .slice none 0 0 ↔ ss = []) ∧ Below (w.alloc (.cells #[.map (some b)] 40)).heap.size (w.alloc (.cells #[.map (some b)] 40)) w' := by
  have hbl := hown.lt
  have hseq : SeqGives Fence.wide 2 Try.prog 43 #[.pointer (some ⟨w.heap.size, 0, none⟩)] encStr (fun ss => ss.Perm (strKeys D0)) (Maps.size D0) (w.alloc (.cells #[.map (some b)] 40)) :=
    AnyZ.keys_gives (ρ := keys25_ren) { keys25 with } Fence.wide _ trivial rfl (by omega) w.heap.size b nn D0 _ (by simp) (by simp) (by
      obtain ⟨es, clock, hb, Ft, hs, hD⟩ := hown
      exact ⟨es, clock, (Below.heap_alloc _ _ b hbl).trans hb, Ft, hs, hD⟩)
  exact AnyZ.sorted_in sorted24 Fence.wide 5 trivial trivial trivial trivial rfl (by omega) (sorts24 _) (enters_of Try.func42 (by kernel_rfl) rfl) 43 #[.pointer (some ⟨w.heap.size, 0, none⟩)] trivial (enters_of Try.func43 (by kernel_rfl) rfl) _ _ hmax hbytes _ hseq

set_option maxHeartbeats 1000000 in
/-- **.. AND FOR THE nil MAP: nil.** -/
theorem slices_Sorted_keys_nil_24_25 (w : World) :
    CallsIn Fence.wide 5 Try.prog 24 #[.func (.func 43) #[] #[.pointer (some ⟨w.heap.size, 0, none⟩)]] (w.alloc (.cells #[.map none] 40)) fun e w' => ∃ (v : Value) (ss : List (List UInt8)), e = .returned v ∧ ss = [] ∧
      w'.ownsRow (w.alloc (.cells #[.map none] 40)).heap.size 9 1 v ss.length ((ss.mergeSort (fun x y => decide (x ≤ y))).map encStr) ∧ (v = .slice none 0 0 ↔ ss = []) ∧ Below (w.alloc (.cells #[.map none] 40)).heap.size (w.alloc (.cells #[.map none] 40)) w' := by
  have hseq : SeqGives Fence.wide 2 Try.prog 43 #[.pointer (some ⟨w.heap.size, 0, none⟩)] encStr (fun ss : List (List UInt8) => ss = []) 0 (w.alloc (.cells #[.map none] 40)) :=
    AnyZ.keys_gives_nil (ρ := keys25_ren) { keys25 with } Fence.wide _ trivial rfl w.heap.size _ (by simp) (by simp)
  exact AnyZ.sorted_in sorted24 Fence.wide 5 trivial trivial trivial trivial rfl (by omega) (sorts24 _) (enters_of Try.func42 (by kernel_rfl) rfl) 43 #[.pointer (some ⟨w.heap.size, 0, none⟩)] trivial (enters_of Try.func43 (by kernel_rfl) rfl) _ 0 (Nat.zero_le _) (by omega) _ hseq
end Go.Proofs.Ytgiceeholamphaa
