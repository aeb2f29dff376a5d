/- The reference's Find. Conditions: none. -/
import Derived.Lib.Strings
import Derived.Test.YtmnoacjmdnmddaaDoorTcSeatRLab
namespace Go.Proofs.YtmnoacjmdnmddaaDoor
open Go.RowKit

open Classical in
/-- The seat of a name, by definition. -/
noncomputable def findL (rows : Int) (gs : List Int) (s : ByteArray) : Int × Int :=
  if RightL rows gs then (if h : ∃ n, hasL rows gs n ∧ labS (total gs) n = s then (h.choose, 0) else (0, 2)) else (0, 1)
theorem findL_yes {rows : Int} {gs : List Int} {s : ByteArray} {n : Int} (h : hasL rows gs n) (hs : labS (total gs) n = s) : findL rows gs s = (n, 0) := by
  have hex : ∃ n, hasL rows gs n ∧ labS (total gs) n = s := ⟨n, h, hs⟩
  unfold findL
  rw [if_pos h.right, dif_pos hex]
  have := labS_inj hex.choose_spec.1 h (hex.choose_spec.2.trans hs.symm)
  rw [this]
theorem findL_none {rows : Int} {gs : List Int} {s : ByteArray} (hR : RightL rows gs) (h : ∀ n, hasL rows gs n → labS (total gs) n ≠ s) : findL rows gs s = (0, 2) := by
  unfold findL
  rw [if_pos hR, dif_neg]
  rintro ⟨n, h1, h2⟩
  exact h n h1 h2
theorem findL_bad {rows : Int} {gs : List Int} {s : ByteArray} (hR : ¬ RightL rows gs) : findL rows gs s = (0, 1) := by
  unfold findL
  rw [if_neg hR]
theorem str_ne {s t : ByteArray} (h : ¬ s = t) : (s.toList == t.toList) = false := by
  rw [beq_eq_false_iff_ne]
  intro e
  exact h (ByteArray.ext (Array.toList_inj.1 ((Lib.toList_data _).symm.trans (e.trans (Lib.toList_data _)))))
theorem ret_find {a b : Int} {p : Int × Int} (h : p = (a, b)) : Ending.returned (.tuple #[.int .i64 a, .int .i64 b]) = .returned (.tuple #[.int .i64 p.1, .int .i64 p.2]) := by rw [h]

end Go.Proofs.YtmnoacjmdnmddaaDoor
