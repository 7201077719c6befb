/- stepkeep.ScanCuts in company: the whole body. No conditions but those named. -/
import Derived.Test.YtnabgoljnfaebaaMCuts
namespace Go.Proofs.Ytnabgoljnfaebaa
open Go.Conc Go.ConcN Go.RowKit Go.ChangeShapes Go.WideShapes Go.ChangeAt
section
variable {Post : Value → World → Prop} {n0 : Nat} {W0 : World}
set_option maxRecDepth 100000 in
set_option maxHeartbeats 1000000 in
theorem cuts_m {A : Option Addr} {c : Nat} {xs : List Int} {op cut one two : Int} {L : World} {B : Nat} (hR : Rd L B A (ints xs)) (hB : B ≤ L.heap.size) (hx : ∀ x ∈ xs, I64 x) (hlc : xs.length ≤ c) (hcut : I64 cut) {code : Code} (hcode : Try.f4.body = some code) :
    Mp (InL scanL) Try.prog (fun k g w => Win Try.prog Post n0 W0 k g w) 4 code false EndC ⟨#[.slice A xs.length c, .int .i64 op, .int .i64 cut, .int .i64 one, .int .i64 two] ++ Array.replicate (Try.f4.ntmps - #[Value.slice A xs.length c, .int .i64 op, .int .i64 cut, .int .i64 one, .int .i64 two].size) undef, []⟩ L := by
  have hJ : JOk Try.prog true _ (fun k g w => Win Try.prog Post n0 W0 k g w) := win_jok (P := Try.prog) (Post := Post) (n0 := n0) (W0 := W0)
  have hcode' := (show Try.f4.body = some (.seq _ (.seq _ _)) from rfl).symm.trans hcode
  obtain rfl := Option.some.inj hcode'
  clear hcode hcode'
  simp only [Try.ntmps4, List.size_toArray, List.length_cons, List.length_nil, Nat.reduceAdd, Nat.reduceSub, Array.replicate_succ, Array.replicate_zero, List.push_toArray, List.append_toArray, List.nil_append, List.cons_append]
  have HR := Lib.hid hR; clear hR
  have Hx := Lib.hid hx; clear hx
  have HB := Lib.hid hB; clear hB
  refine Mp.piece' hJ scan_ok res_4 (by kernel_rfl) (fun L' => Hid (L'.heap = L.heap)) (fun L' e => Lib.hid e) fun L2 Hs => ?_
  go_wp2
  refine MpPost.normal ?_
  have Hk : Hid (Keeps L L2) := Lib.hid (keeps_of fun b _ => by rw [Hs.out])
  clear Hs
  refine Mp.piece' hJ scan_ok res_4 (by kernel_rfl) (fun L' => Hid (L'.heap = L2.heap)) (fun L' e => Lib.hid e) fun L3 H3 => ?_
  by_cases hbig : 1000 < xs.length
  · have hb' : (1000 : Int) < (xs.length : Int) := by omega
    have hc' : (1000 : Int) ≤ (c : Int) := by omega
    go_wp2
    refine MpPost.normal ?_
    have k3 : Keeps L L3 := Hk.out.trans (keeps_of fun b _ => by rw [H3.out])
    have htl : (xs.take 1000).length = 1000 := by simp; omega
    have key : ∀ u20 u21 u22 u23 u24, _ := fun u20 u21 u22 u23 u24 => cuts_tail (Post := Post) (n0 := n0) (W0 := W0) (A := A) (c := 1000) (xs := xs.take 1000) (op := op) (cut := cut) (one := one) (two := two) (L := L3) (B := B) ((HR.out.kept HB.out k3).takeI 1000) (Nat.le_trans HB.out k3.1) (fun x hx => Hx.out x (List.mem_of_mem_take hx)) (by omega) (by omega) hcut (show Try.f4.body = some (.seq _ (.seq _ _)) from rfl) (u20 := u20) (u21 := u21) (u22 := u22) (u23 := u23) (u24 := u24)
    simp only [htl, Array.replicate_succ, Array.replicate_zero, List.push_toArray, List.append_toArray, List.nil_append, List.cons_append] at key
    exact key _ _ _ _ _
  · have hb' : ¬ (1000 : Int) < (xs.length : Int) := by omega
    go_wp2
    refine MpPost.normal ?_
    have k3 : Keeps L L3 := Hk.out.trans (keeps_of fun b _ => by rw [H3.out])
    have key : ∀ u20 u21 u22 u23 u24, _ := fun u20 u21 u22 u23 u24 => cuts_tail (Post := Post) (n0 := n0) (W0 := W0) (A := A) (c := c) (xs := xs) (op := op) (cut := cut) (one := one) (two := two) (L := L3) (B := B) (HR.out.kept HB.out k3) (Nat.le_trans HB.out k3.1) Hx.out (by omega) hlc hcut (show Try.f4.body = some (.seq _ (.seq _ _)) from rfl) (u20 := u20) (u21 := u21) (u22 := u22) (u23 := u23) (u24 := u24)
    simp only [Array.replicate_succ, Array.replicate_zero, List.push_toArray, List.append_toArray, List.nil_append, List.cons_append] at key
    exact key _ _ _ _ _
end
end Go.Proofs.Ytnabgoljnfaebaa
