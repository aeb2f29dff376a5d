/- ElectScripts's walk as the row wants it. Conditions: none. -/
import Derived.Test.YtiamfdnllpiikaaElLawC
namespace Go.Proofs.Ytiamfdnllpiikaa
open Go.RowKit
theorem electScripts_row (p : WhoV) (d : StepsV) (W : World) (hg : p.g.At W) (hd : d.At W) :
    Calls Try.prog 8 #[.agg p.c.toArray, .slice d.ad d.l.length d.cap] W fun e w' => e = .returned (.bool true) ∧ Below W.heap.size W w' :=
  electScripts_at p d.ad d.l d.cap W hg hd.at_ hd.gs hd.max
end Go.Proofs.Ytiamfdnllpiikaa
