/- The walk of SeatNames: it returns true. Conditions: none. -/
import Derived.Test.YtmnoacjmdnmddaaDoorTcSeatFind
import Derived.Test.YtmnoacjmdnmddaaDoorTcSeatApart
import Derived.Test.YtmnoacjmdnmddaaDoorOpenLay
namespace Go.Proofs.YtmnoacjmdnmddaaDoor
open Go.RowKit

/-- The name of a seat; nothing: there is none. -/
noncomputable def nameL (rows : Int) (gs : List Int) (n : Int) : ByteArray × Int := open Classical in if hasL rows gs n then (labS (total gs) n, 0) else (⟨#[]⟩, 1)
theorem label_any (rows : Int) (a : Option Addr) (gs : List Int) (cap : Nat) (n : Int) (w : World) (hg : GsAt w a gs) (hlm : gs.length ≤ maxLen) :
    Calls Tryd.prog 47 #[.agg #[.int .i64 rows, .slice a gs.length cap], .int .i64 n] w fun e w' => e = .returned (.tuple #[.string (nameL rows gs n).1, .int .i64 (nameL rows gs n).2]) ∧ Below w.heap.size w w' := by
  unfold nameL
  by_cases h : hasL rows gs n
  · rw [if_pos h]; exact label_yes rows a gs cap n w hg hlm h
  · rw [if_neg h]; exact label_bad rows a gs cap n w hg hlm h
end Go.Proofs.YtmnoacjmdnmddaaDoor
