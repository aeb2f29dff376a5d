/- The walk of SeatApart: it returns true. Conditions: none. -/
import Derived.Lib.Strings
import Derived.Test.YtmnoacjmdnmddaaDoorSeatLabel
namespace Go.Proofs.YtmnoacjmdnmddaaDoor
open Go.RowKit

theorem gs33 (w : World) : GsAt (w.alloc (.cells #[.int .i64 3, .int .i64 3] 3)) (some ⟨w.heap.size, 0, none⟩) [3, 3] := by
  intro j hj
  have hb : (w.alloc (.cells #[.int .i64 3, .int .i64 3] 3)).heap[w.heap.size]? = some (.cells #[.int .i64 3, .int .i64 3] 3 (0, 0)) := blk_new _ _ rfl
  refine ⟨_, _, rfl, ?_⟩
  rw [blk_cell hb]
  have hj' : j = 0 ∨ j = 1 := by simp at hj; omega
  rcases hj' with rfl | rfl <;> rfl
theorem right33 : RightL 2 [3, 3] := by
  refine ⟨by decide, by decide, by decide, by decide, ?_, by decide⟩
  intro j hj
  have hj' : j = 0 ∨ j = 1 := by simp at hj; omega
  rcases hj' with rfl | rfl <;> (unfold okG; decide)
theorem count33 : countL 2 [3, 3] = 12 := by rw [countL_yes right33]; decide

end Go.Proofs.YtmnoacjmdnmddaaDoor
