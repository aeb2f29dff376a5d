/- ElectWins's walk as the row wants it. Conditions: none. -/
import Derived.Test.YtiamfdnllpiikaaElWinsX
namespace Go.Proofs.Ytiamfdnllpiikaa
open Go.RowKit
theorem electWins_row (many who : Int) (d : LogsV) (W : World) (_ : (Lit.int .i64 many).wf = true) (_ : (Lit.int .i64 who).wf = true) (hd : d.At W) :
    Calls Try.prog 7 #[.int .i64 many, .int .i64 who, .slice d.ad d.l.length d.cap] W fun e w' => e = .returned (.bool true) ∧ Below W.heap.size W w' :=
  electWins_at many who d.ad d.l d.cap W hd.at_ hd.max
end Go.Proofs.Ytiamfdnllpiikaa
