/- Who sits beside a seat: the reference's Beside walked. Conditions: none. -/
import Derived.Test.YtmnoacjmdnmddaaDoorTcSeatBesR
import Derived.Test.YtmnoacjmdnmddaaDoorStaged
namespace Go.Proofs.YtmnoacjmdnmddaaDoor
open Go.RowKit

end Go.Proofs.YtmnoacjmdnmddaaDoor
