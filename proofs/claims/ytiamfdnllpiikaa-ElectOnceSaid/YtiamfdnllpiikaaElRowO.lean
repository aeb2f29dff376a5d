/- ElectOnce's walk as the row wants it. Conditions: none. -/
import Derived.Test.YtiamfdnllpiikaaElOnceW
namespace Go.Proofs.Ytiamfdnllpiikaa
open Go.RowKit
theorem electOnce_row (many : Int) (d : LogsV) (v : EvsV) (W : World) (_ : (Lit.int .i64 many).wf = true) (hd : d.At W) (hv : v.At W) :
    Calls Try.prog 6 #[.int .i64 many, .slice d.ad d.l.length d.cap, .slice v.ad v.l.length v.cap] W fun e w' => e = .returned (.bool true) ∧ Below W.heap.size W w' :=
  electOnce_at many d.ad d.l d.cap v.ad v.l v.cap W hd.at_ hd.max hv.at_ hv.max
end Go.Proofs.Ytiamfdnllpiikaa
