/- The scripts of (*atomic.Int64).Add and Store, and of Done at the end of this closure, reckoned by the kernel from this program's forms. No conditions. -/
import Derived.Test.YticdjkkcfdbdcaaGrV
import Derived.Test.YticdjkkcfdbdcaaWgD
namespace Go.Proofs.Yticdjkkcfdbdcaa
open Go.Conc Go.ConcN
def grExt : Exts := fun f =>
  match f with
  | 105 => some (Extern.Atomic.update (Op.intArith .add) .i64 true)
  | 104 => some Extern.Atomic.storeT
  | _ => none
theorem grExt_ok : ExtOk Try.prog grExt := by
  intro f e h
  unfold grExt at h
  split at h <;> simp only [Option.some.injEq, reduceCtorEq] at h <;> subst h
  · exact ⟨_, Try.func105, by kernel_rfl, by kernel_rfl, by kernel_rfl, by kernel_rfl⟩
  · exact ⟨_, Try.func104, by kernel_rfl, by kernel_rfl, by kernel_rfl, by kernel_rfl⟩
section
variable (ty : TypeId) (Wg : Nat) (x : Addr) (d : Int) (c : Frame) (cs : List Frame)
noncomputable def at0 : Goroutine := G (Frame.enter Try.prog 58 #[.pointer (some x), .int .i64 d] .normal) (c :: cs)
noncomputable def at1 := wgo Try.prog grExt false (ty, 2) 100 (at0 x d c cs)
end
set_option maxRecDepth 100000 in
theorem add_script64 (ty : TypeId) (Wg b o : Nat) (d : Int) (c : Frame) (cs : List Frame) : ∃ (g0 : Goroutine) (g1 : Int → Goroutine), QR Try.prog ty Wg false (at0 ⟨b, o, none⟩ d c cs) g0 ∧ AddAt Try.prog g0 ⟨b, o, none⟩ d g1 ∧ (g0.status = .running ∧ g0.offers = none) ∧ ∀ v, (g1 v).offers = none ∧ QR Try.prog ty Wg false (g1 v) (G (c.finish (.int .i64 v)) cs) := by
  let g0 := (at1 ty ⟨b, o, none⟩ d c cs).1
  let fr : Goroutine := g0
  have h1 : (at1 ty ⟨b, o, none⟩ d c cs).2 = [] := by kernel_rfl
  have q1 : QR Try.prog ty Wg false (at0 ⟨b, o, none⟩ d c cs) g0 := qr_of grExt_ok h1 (nil_ok (Wg := Wg))
  have h2 : ∀ v, alook Try.prog grExt g0 (.int .i64 v) none = (true, [⟨b, o, none⟩], [], [], some (⟨b, o, none⟩, .int .i64 (IntKind.i64.wrap (v + d))), #[rdE ⟨b, o, none⟩, wrE ⟨b, o, none⟩], true) := fun v => by kernel_rfl
  have hr := alook_running (h2 0)
  have ho : g0.offers = none := q1.offers rfl
  refine ⟨g0, fun r => G (g0.frame.finish (.int .i64 r)) g0.callers, q1, fun w v hc hz => ?_, ⟨hr.1, ho⟩, fun v => ⟨rfl, ?_⟩⟩
  · obtain ⟨a, e1, e2, e3, e4, e5, e6, e7⟩ := anext_some (h2 v)
    have hnext : anext Try.prog grExt g0 (.int .i64 v) none = G (g0.frame.finish (.int .i64 (IntKind.i64.wrap (v + d)))) g0.callers := by kernel_rfl
    obtain ⟨_, hst⟩ := astep_step grExt_ok e1 ho false w ⟨fun y hy => by rw [e3] at hy; simp at hy; rw [hy]; exact hc, fun y hy => by rw [e4] at hy; simp at hy, fun y hy => by rw [e5] at hy; simp at hy, fun y z hy => by rw [e6] at hy; cases hy; exact ⟨⟨_, hc⟩, hz⟩⟩
    rw [e2] at hst
    simp only at hst
    rw [e7, hnext] at hst
    rw [hst]
    simp only [ARun.world, e6]
  · have h3 : wgo Try.prog grExt false (ty, 2) 4 (G (g0.frame.finish (.int .i64 v)) g0.callers) = (G (c.finish (.int .i64 v)) cs, []) := by kernel_rfl
    have := qr_of (P := Try.prog) grExt_ok (main := false) (ty := ty) (n := 4) (g := G (g0.frame.finish (.int .i64 v)) g0.callers) (l := []) (by rw [h3]) (nil_ok (Wg := Wg))
    rw [h3] at this
    exact this
set_option maxRecDepth 100000 in
theorem done_graph (Wg : Nat) (T : Array Value) (td : List Item) : ∃ g0, QR Try.prog 114 Wg false (dnIn Try.prog 57 50 Wg T td) g0 ∧ DoneS Try.prog 114 Wg g0 :=
  done_of wgExt_ok (by kernel_rfl) (by kernel_rfl) (by kernel_rfl) (by kernel_rfl) (by kernel_rfl) (by kernel_rfl) (by kernel_rfl) (by kernel_rfl) (by kernel_rfl) (by kernel_rfl) (by kernel_rfl) (by kernel_rfl) (by kernel_rfl) (by kernel_rfl)
end Go.Proofs.Yticdjkkcfdbdcaa
