/- The region of graph.Run that stores how many a job waits for, in company. No conditions but that what is read is there. -/
import Derived.Test.YticdjkkcfdbdcaaGrRg
import Derived.Test.YticdjkkcfdbdcaaGrSe
namespace Go.Proofs.Yticdjkkcfdbdcaa
open Go.Conc Go.ConcN Go.RowKit
def V12r (g n k jb : Nat) (sA : Option Addr) (ln sc : Nat) : Nat → Value := fun j => match j with
  | 0 => .slice (some ⟨g + 2, 0, none⟩) n n
  | 1 => .int .i64 (k : Int)
  | 2 => .pointer (some ⟨g + 2, k, none⟩)
  | 3 => .pointer (some ⟨jb, 2, none⟩)
  | 4 => .slice sA ln sc
  | 5 => .int .i64 (ln : Int)
  | _ => undef
set_option maxRecDepth 100000 in
theorem rs_r12 : drawOk (opsOf Try.f20 12) 6 = true := by kernel_rfl
theorem field_job0 (g : Nat) (w : World) : (Instr.fieldAt 41 (.pointer (some ⟨g, 0, none⟩)) 2).runT Try.prog w #[] = (.ok (.pointer (some ⟨g, 2, none⟩)) w, #[]) := by kernel_rfl
section
variable {Post : Value → World → Prop} {n0 : Nat} {W0 : World}
set_option maxRecDepth 100000 in
theorem m_r12 {ops : Array Oper} (hops : ops = opsOf Try.f20 12) {a : Act} {L0 L : World} {g bJ : Nat} {A : Option Addr} {c n k jb ln sc : Nat} {sA : Option Addr} {left : Nat → Int} {nxf : Nat → List Int} {vs : List Value} {q : List Nat} {cl : Bool} (hz : a.tmps.size = 86) (t8 : a.eval (.tmp 8) = .pointer (some ⟨g + 3, 0, none⟩)) (t12 : a.eval (.tmp 12) = .int .i64 (k : Int)) (t13 : a.eval (.tmp 13) = .pointer (some ⟨jb, 0, none⟩))
    (hR : RunSt L0 L g bJ A c n left nxf vs q cl) (hk : k < n) (hj : L.cell? ⟨jb, 2, none⟩ = some (.slice sA ln sc)) {fn : FuncId} {id : Nat} {up : Bool} {Q : Exit → Act → World → Prop}
    (h : Q .normal ((putsV ops (V12r g n k jb sA ln sc) (List.range 6) a).put (some 48) (.tuple #[])) (L.setCell ⟨g + 2, k, none⟩ (.int .i64 (ln : Int)))) :
    Mp (InV grL grV) Try.prog (fun k g w => Win Try.prog Post n0 W0 k g w) fn (.region id ops true) up Q a L := by
  subst hops
  have hJ : JOk Try.prog true _ (fun k g w => Win Try.prog Post n0 W0 k g w) := win_jok (P := Try.prog) (Post := Post) (n0 := n0) (W0 := W0)
  have hdd := drawOk_d rs_r12
  have nw : ∀ t j, prodOf (opsOf Try.f20 12) t = some j → j < 6 → t < 86 → (putsV (opsOf Try.f20 12) (V12r g n k jb sA ln sc) (List.range 6) a).eval (.tmp t) = V12r g n k jb sA ln sc j := fun t j h1 h2 h3 => puts_new hdd h1 h2 (by rw [hz]; exact h3)
  have od : ∀ t, prodOf (opsOf Try.f20 12) t = none → (putsV (opsOf Try.f20 12) (V12r g n k jb sA ln sc) (List.range 6) a).eval (.tmp t) = a.eval (.tmp t) := fun t h => puts_old hdd h
  have hsz : (opsOf Try.f20 12).size = 7 := by kernel_rfl
  have hok : ∀ (i : Nat) o, (opsOf Try.f20 12)[i]? = some o → i ≠ 6 → okOp (InV grL grV) Try.prog o.op := by
    have hall : ((opsOf Try.f20 12).toList.take 6).all (fun o => okOpB grL grV Try.prog o.op) = true := by kernel_rfl
    rw [List.all_eq_true] at hall
    intro i o hio him
    have hi := (Array.getElem?_eq_some_iff.1 hio).1
    refine okOpB_ok (hall o (List.mem_of_getElem? (i := i) ?_))
    rw [List.getElem?_take, if_pos (by omega)]
    simpa using hio
  have cof : ∀ {w : World} {p : Addr} {v : Value}, w.heap = L.heap → L.cell? p = some v → w.cell? p = some v := fun e h => by rw [← h]; simp only [World.cell?, e]
  have hbl := hR.bl.cell 0
  simp only [List.getElem?_cons_zero] at hbl
  refine Mp.drawn hJ gr_ok.bodies (show Try.prog.follows .mixedOrders = true by kernel_rfl) rs_r12 (V12r g n k jb sA ln sc) (fun i o hio him => ⟨hok i o hio him, fun w hw => ?_⟩) ?_
  · have hi7 := (Array.getElem?_eq_some_iff.1 hio).1
    obtain rfl | rfl | rfl | rfl | rfl | rfl : i = 0 ∨ i = 1 ∨ i = 2 ∨ i = 3 ∨ i = 4 ∨ i = 5 := by omega
    · exact ri_load (op_of (p := .load 124 (.tmp 8)) (by kernel_rfl) hio) ((od 8 (by kernel_rfl)).trans t8) (fun w => Try.isAgg124 w) (cof hw hbl)
    · exact ri_move (op_of (p := .move (.tmp 12)) (by kernel_rfl) hio) ((od 12 (by kernel_rfl)).trans t12)
    · exact ri_index (op_of (p := .indexAddr 124 (.tmp 42) (.tmp 43)) (by kernel_rfl) hio) (nw 42 0 (by kernel_rfl) (by decide) (by decide)) (nw 43 1 (by kernel_rfl) (by decide) (by decide)) hk Try.underlying124 (fun w => Try.sizeOf128 w) (by omega)
    · exact ri_of (run_field (op_of (p := .fieldAddr 41 (.tmp 13) 2) (by kernel_rfl) hio) ((od 13 (by kernel_rfl)).trans t13) (fun w => field_job0 jb w) w)
    · exact ri_load (op_of (p := .load 39 (.tmp 45)) (by kernel_rfl) hio) (nw 45 3 (by kernel_rfl) (by decide) (by decide)) (fun w => Try.isAgg39 w) (cof hw hj)
    · exact ri_of (run_lenI (op_of (p := .call { callee := .builtin .len, args := #[.tmp 46], argTypes := #[39] }) (by kernel_rfl) hio) (nw 46 4 (by kernel_rfl) (by decide) (by decide)) w)
  · obtain ⟨o, ho, hop, hgd, hdst⟩ := op_ex (ops := opsOf Try.f20 12) (i := 6) (p := .call { callee := .value (.func 56), args := #[.tmp 44, .tmp 47], argTypes := #[128, 2] }) (d := some 48) (by kernel_rfl)
    have e44 : (putsV (opsOf Try.f20 12) (V12r g n k jb sA ln sc) (List.range 6) a).eval (.tmp 44) = .pointer (some ⟨g + 2, k, none⟩) := nw 44 2 (by kernel_rfl) (by decide) (by decide)
    have e47 : (putsV (opsOf Try.f20 12) (V12r g n k jb sA ln sc) (List.range 6) a).eval (.tmp 47) = .int .i64 (ln : Int) := nw 47 5 (by kernel_rfl) (by decide) (by decide)
    have hcl : L.cell? ⟨g + 2, k, none⟩ = some (.int .i64 (left k)) := by rw [hR.left.cell k]; simp [ints, fnI, hk]
    refine MpOps.call' hJ ho (yld hgd _) hop (fun x hx => by simp at hx; rcases hx with rfl | rfl <;> trivial) ⟨_, Try.func56, by kernel_rfl, by kernel_rfl⟩ (args0 := #[.pointer (some ⟨g + 2, k, none⟩), .int .i64 (ln : Int)]) (by simp [e44, e47]) ?_
    refine (m_store hcl (hR.left.frozen k)).mono fun v L1 hv => ?_
    obtain ⟨rfl, rfl⟩ := hv
    rw [hdst]
    exact MpOps.nil hJ h
end
end Go.Proofs.Yticdjkkcfdbdcaa
