/- The sort's contract, out of the library's: what SortSays says holds. No conditions. -/
import Derived.Test.YtokjchcmjglbhaaSortF
import Derived.Shelf.SlSortCmp.Whole1
namespace Go.Proofs.Ytokjchcmjglbhaa
open Go.ChangeShapes Go.WideShapes Go.ChangeAt Go.RowKit Go.Sort Go.Shelf

def sortF_ren : Go.Shelf.Ren := ⟨fun | 6 => 12 | 15 => 20 | 14 => 19 | 28 => 30 | 29 => 31 | 20 => 22 | 21 => 23 | 22 => 24 | 23 => 25 | 24 => 26 | 25 => 27 | 26 => 28 | 27 => 29 | 46 => 32 | 47 => 33 | 48 => 34 | 49 => 35 | 50 => 36 | 57 => 37 | n => n, fun | 22 => 25 | 24 => 3 | 25 => 44 | 3 => 3 | 39 => 50 | 0 => 0 | 53 => 60 | 55 => 62 | 4 => 4 | 46 => 53 | 45 => 52 | 50 => 57 | 5 => 5 | 9 => 9 | 66 => 63 | 70 => 67 | 76 => 69 | 77 => 70 | n => n, fun | n => n⟩
theorem sortF : Go.Proofs.SlLaysF.n6 Try.prog sortF_ren := {
  mixed := by kernel_rfl,
  f6 := ⟨Try.f12.name, by decide, Try.func12.trans (congrArg some (by kernel_rfl))⟩,
  f14 := ⟨Try.f19.name, by decide, Try.func19.trans (congrArg some (by kernel_rfl))⟩,
  f15 := Try.func20.trans (congrArg some (by kernel_rfl)),
  f20 := ⟨Try.f22.name, by decide, Try.func22.trans (congrArg some (by kernel_rfl))⟩,
  f21 := ⟨Try.f23.name, by decide, Try.func23.trans (congrArg some (by kernel_rfl))⟩,
  f22 := ⟨Try.f24.name, by decide, Try.func24.trans (congrArg some (by kernel_rfl))⟩,
  f23 := ⟨Try.f25.name, by decide, Try.func25.trans (congrArg some (by kernel_rfl))⟩,
  f24 := ⟨Try.f26.name, by decide, Try.func26.trans (congrArg some (by kernel_rfl))⟩,
  f25 := ⟨Try.f27.name, by decide, Try.func27.trans (congrArg some (by kernel_rfl))⟩,
  f26 := ⟨Try.f28.name, by decide, Try.func28.trans (congrArg some (by kernel_rfl))⟩,
  f27 := ⟨Try.f29.name, by decide, Try.func29.trans (congrArg some (by kernel_rfl))⟩,
  f28 := Try.func30.trans (congrArg some (by kernel_rfl)),
  f29 := Try.func31.trans (congrArg some (by kernel_rfl)),
  f46 := ⟨Try.f32.name, by decide, Try.func32.trans (congrArg some (by kernel_rfl))⟩,
  f47 := Try.func33.trans (congrArg some (by kernel_rfl)),
  f48 := Try.func34.trans (congrArg some (by kernel_rfl)),
  f49 := ⟨Try.f35.name, by decide, Try.func35.trans (congrArg some (by kernel_rfl))⟩,
  f50 := ⟨Try.f36.name, by decide, Try.func36.trans (congrArg some (by kernel_rfl))⟩,
  f57 := ⟨Try.f37.name, by decide, Try.func37.trans (congrArg some (by kernel_rfl))⟩,
  t0 := Try.underlying0,
  a0 := Try.isAgg0,
  z0 := Try.sizeOf0,
  v0 := Try.zeroValue0,
  t3 := Try.underlying3,
  a3 := Try.isAgg3,
  z3 := Try.sizeOf3,
  v3 := Try.zeroValue3,
  t4 := Try.underlying4,
  a4 := Try.isAgg4,
  z4 := Try.sizeOf4,
  v4 := Try.zeroValue4,
  t5 := Try.underlying5,
  a5 := Try.isAgg5,
  z5 := Try.sizeOf5,
  v5 := Try.zeroValue5,
  t9 := Try.underlying9,
  a9 := Try.isAgg9,
  z9 := Try.sizeOf9,
  v9 := Try.zeroValue9,
  t22 := Try.underlying25,
  a22 := Try.isAgg25,
  z22 := Try.sizeOf25,
  v22 := Try.zeroValue25,
  a24 := Try.isAgg3,
  z24 := Try.sizeOf3,
  t25 := Try.underlying44,
  a25 := Try.isAgg44,
  z25 := Try.sizeOf44,
  v25 := Try.zeroValue44,
  t39 := Try.underlying50,
  a39 := Try.isAgg50,
  z39 := Try.sizeOf50,
  v39 := Try.zeroValue50,
  t45 := Try.underlying52,
  a45 := Try.isAgg52,
  z45 := Try.sizeOf52,
  v45 := Try.zeroValue52,
  t46 := Try.underlying53,
  a46 := Try.isAgg53,
  z46 := Try.sizeOf53,
  v46 := Try.zeroValue53,
  t50 := Try.underlying57,
  a50 := Try.isAgg57,
  z50 := Try.sizeOf57,
  v50 := Try.zeroValue57,
  t53 := Try.underlying60,
  a53 := Try.isAgg60,
  z53 := Try.sizeOf60,
  v53 := Try.zeroValue60,
  t55 := Try.underlying62,
  a55 := Try.isAgg62,
  z55 := Try.sizeOf62,
  v55 := Try.zeroValue62,
  t66 := Try.underlying63,
  a66 := Try.isAgg63,
  z66 := Try.sizeOf63,
  v66 := Try.zeroValue63,
  t70 := Try.underlying67,
  a70 := Try.isAgg67,
  z70 := Try.sizeOf67,
  v70 := Try.zeroValue67,
  t76 := Try.underlying69,
  a76 := Try.isAgg69,
  z76 := Try.sizeOf69,
  v76 := Try.zeroValue69,
  t77 := Try.underlying70,
  a77 := Try.isAgg70,
  z77 := Try.sizeOf70,
  v77 := Try.zeroValue70 }
set_option maxHeartbeats 1000000 in
theorem sort_any : SortSays := by
  intro w base bx lb cc N dep A c l hrow h0 hl hlt hb1 hb2 hbb hlb hbox hd
  obtain ⟨g, o, cap, hv, _⟩ := hrow.cells 0 (by simpa using h0)
  simp only [Value.slice.injEq, length_nats, true_and] at hv
  obtain ⟨rfl, rfl⟩ := hv
  have hg := hrow.lt g rfl
  have eg : ∀ args w, (callFunc 13 args).run Try.prog w = .ok (.enter 13 args) w := enters_of Try.func13 (by kernel_rfl) rfl
  have hsz : (finsOf N l).size = l.length := by simp [finsOf]
  have hd0 : nats l = intsF (finsOf N l) := (intsF_finsOf hlt).symm
  have hrow' : OffR w base (.slice (some ⟨g, o, none⟩) (nats l).length c) (nats l) := by rw [length_nats]; exact hrow
  have hcon := Any.slices_SortFunc sortF (encF (N := N)) (fun _ => rfl) (fun x y => cmpDepth dep x.val y.val) (swo_depth dep N) 13 #[.pointer (some ⟨bx, 0, none⟩)] g o c (finsOf N l) w eg
    (cmpLays_depth hb1 hb2 (by omega) (by omega) hbox hd _) (hrow'.holds hd0) hg.2 (by rw [hsz]; omega)
  rw [hsz] at hcon
  refine Calls.mono hcon ?_
  rintro e w' ⟨rfl, d', n, os, hp, hs, rfl⟩
  have hp' : PermIn 0 (finsOf N l).size (finsOf N l) d' := by rw [hsz]; exact hp
  have hperm := natsF_perm hp'
  rw [natsF_finsOf hlt] at hperm
  have hso := hrow'.sorted hd0 hp'.1 n os
  rw [length_nats] at hso
  refine ⟨rfl, natsF d', hperm, natsF_sorted (by rw [hp'.1, hsz]) hs, ?_, hso.2⟩
  rw [← intsF_nats]
  exact hso.1
end Go.Proofs.Ytokjchcmjglbhaa
