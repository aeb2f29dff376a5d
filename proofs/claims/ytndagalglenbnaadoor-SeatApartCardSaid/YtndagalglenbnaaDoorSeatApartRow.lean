/- The walk of SeatApart, at an opened Layout. Conditions: none. -/
import Derived.Test.YtndagalglenbnaaDoorOpenLay
import Derived.Test.YtndagalglenbnaaDoorSeatApart
namespace Go.Proofs.YtndagalglenbnaaDoor
open Go.RowKit
theorem apart_row (p : Lay) (a b : Int) (w : World) (h : GsAt w p.ad p.gs ∧ p.gs.length ≤ maxLen) (_ : (Lit.int .i64 a).wf = true) (_ : (Lit.int .i64 b).wf = true) :
    Calls Tryd.prog 3 #[.agg #[.int .i64 p.rows, .slice p.ad p.gs.length p.cap], .int .i64 a, .int .i64 b] w fun e w' => e = .returned (.bool true) ∧ Below w.heap.size w w' :=
  apart_s p.rows p.ad p.gs p.cap a b w h.1 h.2
end Go.Proofs.YtndagalglenbnaaDoor
