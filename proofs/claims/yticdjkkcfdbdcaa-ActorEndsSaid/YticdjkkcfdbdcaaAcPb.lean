/- The reference's Played, plain: what its loops keep. No program. -/
import Derived.Test.YticdjkkcfdbdcaaAcA
import Derived.Test.YticdjkkcfdbdcaaAcF
import Derived.Test.YticdjkkcfdbdcaaAcR
import Derived.Test.YticdjkkcfdbdcaaAcH
import Derived.Test.YticdjkkcfdbdcaaAcSu
import Derived.Test.YticdjkkcfdbdcaaAcC
import Derived.Test.YticdjkkcfdbdcaaPhN
import Derived.Test.YticdjkkcfdbdcaaPhZ
import Derived.Laws.Tables
import Derived.Conc.Own4
import Derived.Maps.AppendAt
namespace Go.Proofs.Yticdjkkcfdbdcaa
open Go.ChangeShapes Go.WideShapes Go.ChangeAt Go.RowKit Go.Conc Go.ConcN
theorem actCode_zero {R : List RulR} {ls : List LetR} (h : actCode R ls = 0) : R.length ≤ 200 ∧ ls.length ≤ 200 ∧ (∀ x ∈ ls, letOk R.length x) ∧ (∀ r ∈ R, r.rs.length ≤ 200) ∧ ∀ r ∈ R, ¬ rulesBad R.length r.rs := by
  unfold actCode at h
  split at h
  · cases h
  · rename_i h1
    split at h
    · cases h
    · rename_i h2
      split at h
      · cases h
      · rename_i h3
        refine ⟨Classical.byContradiction fun hx => h3 (.inl (by omega)), Classical.byContradiction fun hx => h3 (.inr (.inl (by omega))), fun x hx => Classical.byContradiction fun hn => h1 ⟨x, hx, hn⟩, fun r hr => Classical.byContradiction fun hn => h3 (.inr (.inr ⟨r, hr, by omega⟩)), fun r hr hb => h2 ⟨r, hr, hb⟩⟩
end Go.Proofs.Yticdjkkcfdbdcaa
