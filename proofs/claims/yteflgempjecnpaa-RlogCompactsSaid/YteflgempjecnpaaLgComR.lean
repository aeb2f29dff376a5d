/- RlogCompacts' walk as the row wants it. Conditions: none. -/
import Derived.Test.YteflgempjecnpaaLgCom
namespace Go.Proofs.Yteflgempjecnpaa
open Go.RowKit
theorem rlogCompacts_row {X Y : Prop} (p : StsV) (i : Int) (W : World) (hp : p.At W ∧ X) (_ : Y) :
    Calls Try.prog 6 #[.slice p.a p.l.length p.c, .int .i64 i] W fun e w' => e = .returned (.bool true) ∧ Below W.heap.size W w' :=
  rlogCompacts_at p i W hp.1
end Go.Proofs.Yteflgempjecnpaa
