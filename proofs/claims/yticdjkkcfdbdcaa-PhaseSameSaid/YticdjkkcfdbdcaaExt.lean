/- This program's functions without a body that a group's functions come to. No conditions. -/
import Derived.Test.YticdjkkcfdbdcaaQuiet
import Derived.Test.YticdjkkcfdbdcaaProg
import Derived.KernelRfl
namespace Go.Proofs.Yticdjkkcfdbdcaa
open Go.Conc
def wgExt : Exts := fun f =>
  match f with
  | 86 => some (Extern.Race.marked .releaseMerge)
  | 87 => some (fun _ => do mark .disable; pure Extern.Race.none_)
  | 88 => some (fun _ => do mark .enable; pure Extern.Race.none_)
  | 94 => some (Extern.Race.marked .read)
  | 102 => some (Extern.Race.marked .write)
  | 99 => some (Extern.Race.marked .acquire)
  | 89 => some (fun _ => pure (.bool false))
  | 120 => some (Extern.Atomic.update (Op.intArith .add) .u64 true)
  | 121 => some (Extern.Atomic.loadT (.int .u64))
  | 122 => some Extern.Atomic.storeT
  | 123 => some (Extern.Atomic.casT (.int .u64))
  | 98 => some Extern.Sync.semrelease
  | 103 => some Extern.Sync.semacquire
  | _ => none
theorem wgExt_ok : ExtOk Try.prog wgExt := by
  intro f e h
  unfold wgExt at h
  split at h <;> simp only [Option.some.injEq, reduceCtorEq] at h <;> subst h
  · exact ⟨_, Try.func86, by kernel_rfl, by kernel_rfl, by kernel_rfl, by kernel_rfl⟩
  · exact ⟨_, Try.func87, by kernel_rfl, by kernel_rfl, by kernel_rfl, by kernel_rfl⟩
  · exact ⟨_, Try.func88, by kernel_rfl, by kernel_rfl, by kernel_rfl, by kernel_rfl⟩
  · exact ⟨_, Try.func94, by kernel_rfl, by kernel_rfl, by kernel_rfl, by kernel_rfl⟩
  · exact ⟨_, Try.func102, by kernel_rfl, by kernel_rfl, by kernel_rfl, by kernel_rfl⟩
  · exact ⟨_, Try.func99, by kernel_rfl, by kernel_rfl, by kernel_rfl, by kernel_rfl⟩
  · exact ⟨_, Try.func89, by kernel_rfl, by kernel_rfl, by kernel_rfl, by kernel_rfl⟩
  · exact ⟨_, Try.func120, by kernel_rfl, by kernel_rfl, by kernel_rfl, by kernel_rfl⟩
  · exact ⟨_, Try.func121, by kernel_rfl, by kernel_rfl, by kernel_rfl, by kernel_rfl⟩
  · exact ⟨_, Try.func122, by kernel_rfl, by kernel_rfl, by kernel_rfl, by kernel_rfl⟩
  · exact ⟨_, Try.func123, by kernel_rfl, by kernel_rfl, by kernel_rfl, by kernel_rfl⟩
  · exact ⟨_, Try.func98, by kernel_rfl, by kernel_rfl, by kernel_rfl, by kernel_rfl⟩
  · exact ⟨_, Try.func103, by kernel_rfl, by kernel_rfl, by kernel_rfl, by kernel_rfl⟩
end Go.Proofs.Yticdjkkcfdbdcaa
