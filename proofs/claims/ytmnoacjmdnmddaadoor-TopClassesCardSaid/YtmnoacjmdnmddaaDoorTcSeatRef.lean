/- What the reference's across, Right, Count come to. Conditions: none. -/
import Derived.Test.YtmnoacjmdnmddaaDoorSeatCount
namespace Go.Proofs.YtmnoacjmdnmddaaDoor
open Go.RowKit

open Classical in
/-- May the layout be? -/
noncomputable def rightB (rows : Int) (gs : List Int) : Bool := decide (RightL rows gs)
theorem rightB_yes {rows : Int} {gs : List Int} (h : RightL rows gs) : rightB rows gs = true := by simp [rightB, h]
theorem rightB_no {rows : Int} {gs : List Int} (h : ¬ RightL rows gs) : rightB rows gs = false := by simp [rightB, h]

end Go.Proofs.YtmnoacjmdnmddaaDoor
