/- ElectAlone's walk as the row wants it. Conditions: none. -/
import Derived.Test.YtiamfdnllpiikaaElLawA
import Derived.Test.YtiamfdnllpiikaaOpenEl
namespace Go.Proofs.Ytiamfdnllpiikaa
open Go.RowKit
theorem electAlone_row (p : Int × Int) (id pat : Int) (W : World) (_ : (Lit.int .i64 p.1).wf = true) (_ : (Lit.int .i64 id).wf = true) (hp : (Lit.int .i64 pat).wf = true) :
    Calls Try.prog 3 #[.agg #[.int .i64 p.1, .int .i64 p.2], .int .i64 id, .int .i64 pat] W fun e w' => e = .returned (.bool true) ∧ Below W.heap.size W w' :=
  electAlone_at p.1 p.2 id pat W (by
    have hp := (by simpa [Lit.wf, IntKind.min, IntKind.max, IntKind.signed, IntKind.bits] using hp : -9223372036854775808 ≤ pat ∧ pat ≤ 9223372036854775807)
    omega)
end Go.Proofs.Ytiamfdnllpiikaa
