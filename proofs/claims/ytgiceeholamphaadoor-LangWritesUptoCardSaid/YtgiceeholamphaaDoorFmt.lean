/- strconv.FormatInt at base 10, laid at this program. -/
import Derived.Test.YtgiceeholamphaaDoorOwn
import Derived.Shelf.Strconv.Itoa4
import Derived.Shelf.Lay
import Derived.Ground.NamesProg
namespace Go.Proofs.YtgiceeholamphaaDoor
open Go.Shelf

shelf_lay LaysM.n173 Nm 173 at Tryd as Tryd.lays173
theorem fmt_any (n : Int) (h0 : -9223372036854775808 ≤ n) (h1 : n ≤ 9223372036854775807) (w : World) (htab : Lib.TabIs Tryd.prog w "internal/strconv.uint64pow10" .u64 Lib.pow10Tab) :
    Calls Tryd.prog 23 #[.int .i64 n, .int .i64 10] w fun e w' => e = .returned (.string ⟨(Lib.itoa n).toArray⟩) ∧ ∃ k os, w' = Sort.grow (w.drewN k) os := Any.strconv_FormatInt_10 Tryd.lays173 n h0 h1 w htab
end Go.Proofs.YtgiceeholamphaaDoor
