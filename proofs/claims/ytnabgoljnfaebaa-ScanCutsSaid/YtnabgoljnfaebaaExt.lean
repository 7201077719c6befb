/- This program's functions without a body that a group's functions come to. No conditions. -/
import Derived.Test.YtnabgoljnfaebaaQuiet
import Derived.Test.YtnabgoljnfaebaaProg
import Derived.KernelRfl
namespace Go.Proofs.Ytnabgoljnfaebaa
open Go.Conc
def wgExt : Exts := fun f =>
  match f with
  | 32 => some (Extern.Race.marked .releaseMerge)
  | 33 => some (fun _ => do mark .disable; pure Extern.Race.none_)
  | 34 => some (fun _ => do mark .enable; pure Extern.Race.none_)
  | 40 => some (Extern.Race.marked .read)
  | 48 => some (Extern.Race.marked .write)
  | 45 => some (Extern.Race.marked .acquire)
  | 35 => some (fun _ => pure (.bool false))
  | 51 => some (Extern.Atomic.update (Op.intArith .add) .u64 true)
  | 52 => some (Extern.Atomic.loadT (.int .u64))
  | 53 => some Extern.Atomic.storeT
  | 54 => some (Extern.Atomic.casT (.int .u64))
  | 44 => some Extern.Sync.semrelease
  | 49 => some Extern.Sync.semacquire
  | _ => none
theorem wgExt_ok : ExtOk Try.prog wgExt := by
  intro f e h
  unfold wgExt at h
  split at h <;> simp only [Option.some.injEq, reduceCtorEq] at h <;> subst h
  · exact ⟨_, Try.func32, by kernel_rfl, by kernel_rfl, by kernel_rfl, by kernel_rfl⟩
  · exact ⟨_, Try.func33, by kernel_rfl, by kernel_rfl, by kernel_rfl, by kernel_rfl⟩
  · exact ⟨_, Try.func34, by kernel_rfl, by kernel_rfl, by kernel_rfl, by kernel_rfl⟩
  · exact ⟨_, Try.func40, by kernel_rfl, by kernel_rfl, by kernel_rfl, by kernel_rfl⟩
  · exact ⟨_, Try.func48, by kernel_rfl, by kernel_rfl, by kernel_rfl, by kernel_rfl⟩
  · exact ⟨_, Try.func45, by kernel_rfl, by kernel_rfl, by kernel_rfl, by kernel_rfl⟩
  · exact ⟨_, Try.func35, by kernel_rfl, by kernel_rfl, by kernel_rfl, by kernel_rfl⟩
  · exact ⟨_, Try.func51, by kernel_rfl, by kernel_rfl, by kernel_rfl, by kernel_rfl⟩
  · exact ⟨_, Try.func52, by kernel_rfl, by kernel_rfl, by kernel_rfl, by kernel_rfl⟩
  · exact ⟨_, Try.func53, by kernel_rfl, by kernel_rfl, by kernel_rfl, by kernel_rfl⟩
  · exact ⟨_, Try.func54, by kernel_rfl, by kernel_rfl, by kernel_rfl, by kernel_rfl⟩
  · exact ⟨_, Try.func44, by kernel_rfl, by kernel_rfl, by kernel_rfl, by kernel_rfl⟩
  · exact ⟨_, Try.func49, by kernel_rfl, by kernel_rfl, by kernel_rfl, by kernel_rfl⟩
end Go.Proofs.Ytnabgoljnfaebaa
