/- The walk of RlogNewer, as the row calls it. Conditions: none. -/
import Derived.Test.YteflgempjecnpaaLogNewer
import Derived.Test.YteflgempjecnpaaOpenPair
namespace Go.Proofs.Yteflgempjecnpaa
theorem newer_row (a b c : Int × Int) (w : World) (_ : (Lit.int .i64 a.1).wf = true ∧ (Lit.int .i64 a.2).wf = true) (_ : (Lit.int .i64 b.1).wf = true ∧ (Lit.int .i64 b.2).wf = true) (_ : (Lit.int .i64 c.1).wf = true ∧ (Lit.int .i64 c.2).wf = true) :
    Calls Try.prog 3 #[.agg #[.int .i64 a.1, .int .i64 a.2], .agg #[.int .i64 b.1, .int .i64 b.2], .agg #[.int .i64 c.1, .int .i64 c.2]] w fun e w' => e = .returned (.bool true) ∧ RowKit.Below w.heap.size w w' :=
  newer_walk a.1 a.2 b.1 b.2 c.1 c.2 w
end Go.Proofs.Yteflgempjecnpaa
