/- ElectQuiet's walk as the row wants it. Conditions: none. -/
import Derived.Test.YtiamfdnllpiikaaElLawQ
namespace Go.Proofs.Ytiamfdnllpiikaa
open Go.RowKit
theorem electQuiet_row (p : WhoV) (src : Int) (d : IntsV) (W : World) (hg : p.g.At W) (_ : (Lit.int .i64 src).wf = true) (hd : GsAt W d.ad d.gs ∧ d.gs.length ≤ maxLen) :
    Calls Try.prog 4 #[.agg p.c.toArray, .int .i64 src, .slice d.ad d.gs.length d.cap] W fun e w' => e = .returned (.bool true) ∧ Below W.heap.size W w' :=
  electQuiet_at p src d.ad d.gs d.cap W hg hd.1 hd.2
end Go.Proofs.Ytiamfdnllpiikaa
