/- The walk of LocatorMakes: it returns true. Conditions: none. -/
import Derived.Test.YthljeclddlcidaaLocRef
namespace Go.Proofs.Ythljeclddlcidaa
open Go.RowKit _root_.Go.Proofs.Ythljeclddlcidaa.Loc

theorem awake_any (w : World) : Calls Try.prog 9 #[] w fun e w' => e = .returned (.bool true) ∧ Below w.heap.size w w' := by
  have h : ((locS 1).toList == [65, 65, 65, 65, 66, 52]) = true := by decide +kernel
  have H := Lib.hid h
  clear h
  go_enter Try.func9, Try.ntmps9
  go_wp2_with (go_at_call 10; refine (of_ok 1 _ (by omega) (by omega)).mono ?_; rintro e w1 ⟨rfl, hb⟩)
  go_ret
  exact ⟨ret_bool H.out, hb⟩

theorem makes_walk (n : Int) (w : World) (_ : (Lit.int .i64 n).wf = true) : Calls Try.prog 3 #[.int .i64 n] w fun e w' => e = .returned (.bool true) ∧ Below w.heap.size w w' := by
  by_cases h : 0 ≤ n ∧ n < 28629151
  · go_enter Try.func3, Try.ntmps3
    go_wp2_with (first
      | (go_at_call 9; refine (awake_any _).mono ?_; rintro e w1 ⟨rfl, hb1⟩)
      | (go_at_call 10; refine (of_ok n _ h.1 h.2).mono ?_; rintro e w2 ⟨rfl, hb2⟩)
      | (go_at_call 11; refine (refof_ok n _ h.1 h.2).mono ?_; rintro e w3 ⟨rfl, hb3⟩))
    go_ret
    exact ⟨rfl, bl_trans (bl_trans hb1 hb2) hb3⟩
  · have h' : n < 0 ∨ 28629151 ≤ n := by omega
    have H := Lib.hid h'
    clear h h'
    go_enter Try.func3, Try.ntmps3
    go_wp2_with (first
      | (go_at_call 9; refine (awake_any _).mono ?_; rintro e w1 ⟨rfl, hb1⟩)
      | (go_at_call 10; refine (of_bad n _ H.out).mono ?_; rintro e w2 ⟨rfl, rfl⟩)
      | (go_at_call 11; refine (refof_bad n _ H.out).mono ?_; rintro e w3 ⟨rfl, rfl⟩))
    go_ret
    exact ⟨rfl, hb1⟩
end Go.Proofs.Ythljeclddlcidaa
