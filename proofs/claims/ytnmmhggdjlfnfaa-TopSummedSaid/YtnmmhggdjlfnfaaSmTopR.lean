/- TopSummed's walk as the row wants it. Conditions: none. -/
import Derived.Test.YtnmmhggdjlfnfaaSmTop
namespace Go.Proofs.Ytnmmhggdjlfnfaa
open Go.RowKit
theorem topSummed_row (p : BSV) (W : World) (h : SAt W p.a p.l ∧ p.l.length ≤ maxLen) :
    Calls Try.prog 3 #[.slice p.a p.l.length p.c] W fun e w' => e = .returned (.bool true) ∧ Below W.heap.size W w' :=
  topSummed_at p W h.1 h.2
#print axioms topSummed_row
end Go.Proofs.Ytnmmhggdjlfnfaa
