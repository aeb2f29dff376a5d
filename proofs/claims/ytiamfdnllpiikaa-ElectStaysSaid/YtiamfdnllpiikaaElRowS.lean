/- ElectStays's walk as the row wants it. Conditions: none. -/
import Derived.Test.YtiamfdnllpiikaaElLawS
namespace Go.Proofs.Ytiamfdnllpiikaa
open Go.RowKit
theorem electStays_row (p : WhoV) (d : StepsV) (W : World) (hg : p.g.At W) (hd : d.At W) :
    Calls Try.prog 5 #[.agg p.c.toArray, .slice d.ad d.l.length d.cap] W fun e w' => e = .returned (.bool true) ∧ Below W.heap.size W w' :=
  electStays_at p d.ad d.l d.cap W hg hd.at_ hd.max
end Go.Proofs.Ytiamfdnllpiikaa
