/- The walk of SeatCounts: it returns true. Conditions: none. -/
import Derived.Test.YtmnoacjmdnmddaaDoorTcSeatBesW
import Derived.Test.YtmnoacjmdnmddaaDoorTcSeatApart
import Derived.Test.YtmnoacjmdnmddaaDoorOpenLay
namespace Go.Proofs.YtmnoacjmdnmddaaDoor
open Go.RowKit

theorem right_any (rows : Int) (a : Option Addr) (gs : List Int) (cap : Nat) (w : World) (hg : GsAt w a gs) (hlm : gs.length ≤ maxLen) :
    Calls Tryd.prog 18 #[.agg #[.int .i64 rows, .slice a gs.length cap]] w fun e w' => e = .returned (.bool (rightB rows gs)) ∧ Below w.heap.size w w' := by
  by_cases h : RightL rows gs
  · rw [rightB_yes h]; exact right_yes rows a gs cap w hg h
  · rw [rightB_no h]; exact right_no rows a gs cap w hg hlm h

end Go.Proofs.YtmnoacjmdnmddaaDoor
