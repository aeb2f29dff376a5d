/- The walk of SeatApart: it returns true. Conditions: none. -/
import Derived.Lib.Strings
import Derived.Test.YtndagalglenbnaaDoorSeatLabel
namespace Go.Proofs.YtndagalglenbnaaDoor
open Go.RowKit

theorem gs33 (w : World) : GsAt (w.alloc (.cells #[.int .i64 3, .int .i64 3] 3)) (some ⟨w.heap.size, 0, none⟩) [3, 3] := by
  intro j hj
  have hb : (w.alloc (.cells #[.int .i64 3, .int .i64 3] 3)).heap[w.heap.size]? = some (.cells #[.int .i64 3, .int .i64 3] 3 (0, 0)) := blk_new _ _ rfl
  refine ⟨_, _, rfl, ?_⟩
  rw [blk_cell hb]
  have hj' : j = 0 ∨ j = 1 := by simp at hj; omega
  rcases hj' with rfl | rfl <;> rfl
theorem right33 : RightL 2 [3, 3] := by
  refine ⟨by decide, by decide, by decide, by decide, ?_, by decide⟩
  intro j hj
  have hj' : j = 0 ∨ j = 1 := by simp at hj; omega
  rcases hj' with rfl | rfl <;> (unfold okG; decide)
theorem count33 : countL 2 [3, 3] = 12 := by rw [countL_yes right33]; decide

theorem awake_s (w : World) : Calls Tryd.prog 10 #[] w fun e w' => e = .returned (.bool true) ∧ Below w.heap.size w w' := by
  have hh : hasL 2 [3, 3] 8 := ⟨by decide, by rw [count33]; decide⟩
  have hn : ((nameS 1 2).toList == [50, 67]) = true := by decide +kernel
  have hc := count33
  have H := Lib.hid hh
  have HN := Lib.hid hn
  have HC := Lib.hid hc
  clear hh hn hc
  have gs := gs33 w
  have GS := Lib.hid gs
  clear gs
  go_enter Tryd.func10, Tryd.ntmps10
  go_wp2_with fail
  refine (label_yes 2 _ [3, 3] 2 8 _ (GS.out.keep (bl_alloc (Below.refl _ _) _)) (by decide) H.out).mono ?_
  rintro e w1 ⟨rfl, hb1⟩
  have hblk := blk_below (blk_new (w.alloc (.cells #[.int .i64 3, .int .i64 3] 3)) (.cells #[.int .i64 2, .slice (some ⟨w.heap.size, 0, none⟩) 2 2] 24) rfl) hb1 (by simp)
  have q0 : w1.cell? ⟨w.heap.size + 1, 0, none⟩ = some (.int .i64 2) := by have := blk_cell hblk 0; simpa using this
  have q1 : w1.cell? ⟨w.heap.size + 1, 1, none⟩ = some (.slice (some ⟨w.heap.size, 0, none⟩) 2 2) := by have := blk_cell hblk 1; simpa using this
  have GS1 := Lib.hid ((GS.out.keep (bl_alloc (Below.refl _ _) (.cells #[.int .i64 2, .slice (some ⟨w.heap.size, 0, none⟩) 2 2] 24))).keep hb1)
  have HB1 := Lib.hid (bl_trans (bl_alloc (bl_alloc (Below.refl w.heap.size w) _) _) hb1)
  have ht : ((labS (total [3, 3]) 8).toList == [50, 67]) = true := HN.out
  clear hblk hb1
  have hcc : ∀ w', GsAt w' (some ⟨w.heap.size, 0, none⟩) [3, 3] → Calls Tryd.prog 17 #[.agg #[.int .i64 2, .slice (some ⟨w.heap.size, 0, none⟩) 2 2]] w' fun e w'' => e = .returned (.int .i64 12) ∧ Below w'.heap.size w' w'' := by
    intro w' hg
    have := count_any 2 (some ⟨w.heap.size, 0, none⟩) [3, 3] 2 w' hg (by decide)
    rw [HC.out] at this
    exact this
  have HCC := Lib.hid hcc
  clear hcc
  go_wp2_with (go_at_call 17; refine (HCC.out _ GS1.out).mono ?_; rintro e w2 ⟨rfl, hb2⟩)
  go_ret
  exact ⟨rfl, bl_trans HB1.out hb2⟩

theorem apart_s (rows : Int) (ad : Option Addr) (gs : List Int) (cap : Nat) (a b : Int) (w : World) (hg : GsAt w ad gs) (hlm : gs.length ≤ maxLen) :
    Calls Tryd.prog 3 #[.agg #[.int .i64 rows, .slice ad gs.length cap], .int .i64 a, .int .i64 b] w fun e w' => e = .returned (.bool true) ∧ Below w.heap.size w w' := by
  have hlm' : (gs.length : Int) ≤ 9223372036854775807 := by unfold maxLen at hlm; omega
  have hb0 := bl_alloc (Below.refl w.heap.size w) (.cells #[.int .i64 rows, .slice ad gs.length cap] 24)
  have HB0 := Lib.hid hb0
  have HG := Lib.hid (hg.keep hb0)
  have HLM := Lib.hid hlm
  clear hb0 hg hlm
  go_enter Tryd.func3, Tryd.ntmps3
  go_wp2_with fail
  refine (awake_s _).mono ?_
  rintro e w1 ⟨rfl, hb1⟩
  have hblk := blk_below (blk_new w (.cells #[.int .i64 rows, .slice ad gs.length cap] 24) rfl) hb1 (by simp)
  have q0 : w1.cell? ⟨w.heap.size, 0, none⟩ = some (.int .i64 rows) := blk_cell hblk 0
  have q1 : w1.cell? ⟨w.heap.size, 1, none⟩ = some (.slice ad gs.length cap) := blk_cell hblk 1
  have HG1 := Lib.hid (HG.out.keep hb1)
  have HB1 := Lib.hid (bl_trans HB0.out hb1)
  have HBLK := Lib.hid hblk
  clear hb1 hblk
  by_cases hl : (1000 : Int) < gs.length
  · go_wp2
    go_ret
    exact ⟨rfl, HB1.out⟩
  have hl' : (gs.length : Int) ≤ 1000 := by omega
  by_cases ha : hasL rows gs a
  · have HA := Lib.hid ha
    clear ha
    go_wp2_with fail
    refine (label_yes rows ad gs cap a _ HG1.out HLM.out HA.out).mono ?_
    rintro e w2 ⟨rfl, hb2⟩
    have hblk := blk_below HBLK.out hb2 (blk_lt HBLK.out)
    have r0 : w2.cell? ⟨w.heap.size, 0, none⟩ = some (.int .i64 rows) := blk_cell hblk 0
    have r1 : w2.cell? ⟨w.heap.size, 1, none⟩ = some (.slice ad gs.length cap) := blk_cell hblk 1
    have HG2 := Lib.hid (HG1.out.keep hb2)
    have HB2 := Lib.hid (bl_trans HB1.out hb2)
    clear hb2 hblk q0 q1
    by_cases hb : hasL rows gs b
    · have HBb := Lib.hid hb
      clear hb
      by_cases hab : a = b
      · subst hab
        go_wp2_with fail
        refine (label_yes rows ad gs cap a _ HG2.out HLM.out HA.out).mono ?_
        rintro e w3 ⟨rfl, hb3⟩
        go_wp2
        go_ret
        exact ⟨ret_bool (by simp), bl_trans HB2.out hb3⟩
      · have e1 : (a == b) = false := by rw [beq_eq_false_iff_ne]; exact hab
        have e2 : ((labS (total gs) a).toList == (labS (total gs) b).toList) = false := by
          rw [beq_eq_false_iff_ne]
          intro h
          exact hab (labS_inj HA.out HBb.out (ByteArray.ext (Array.toList_inj.1 ((Lib.toList_data _).symm.trans (h.trans (Lib.toList_data _))))))
        clear hab
        go_wp2_with fail
        refine (label_yes rows ad gs cap b _ HG2.out HLM.out HBb.out).mono ?_
        rintro e w3 ⟨rfl, hb3⟩
        go_wp2
        go_ret
        exact ⟨ret_bool (by simp), bl_trans HB2.out hb3⟩
    · have HBb := Lib.hid hb
      clear hb
      go_wp2_with fail
      refine (label_bad rows ad gs cap b _ HG2.out HLM.out HBb.out).mono ?_
      rintro e w3 ⟨rfl, hb3⟩
      go_wp2
      go_ret
      exact ⟨rfl, bl_trans HB2.out hb3⟩
  · have HA := Lib.hid ha
    clear ha
    go_wp2_with fail
    refine (label_bad rows ad gs cap a _ HG1.out HLM.out HA.out).mono ?_
    rintro e w2 ⟨rfl, hb2⟩
    have hblk := blk_below HBLK.out hb2 (blk_lt HBLK.out)
    have r0 : w2.cell? ⟨w.heap.size, 0, none⟩ = some (.int .i64 rows) := blk_cell hblk 0
    have r1 : w2.cell? ⟨w.heap.size, 1, none⟩ = some (.slice ad gs.length cap) := blk_cell hblk 1
    have HG2 := Lib.hid (HG1.out.keep hb2)
    have HB2 := Lib.hid (bl_trans HB1.out hb2)
    clear hb2 hblk q0 q1
    by_cases hb : hasL rows gs b
    · have HBb := Lib.hid hb
      clear hb
      go_wp2_with fail
      refine (label_yes rows ad gs cap b _ HG2.out HLM.out HBb.out).mono ?_
      rintro e w3 ⟨rfl, hb3⟩
      go_wp2
      go_ret
      exact ⟨rfl, bl_trans HB2.out hb3⟩
    · have HBb := Lib.hid hb
      clear hb
      go_wp2_with fail
      refine (label_bad rows ad gs cap b _ HG2.out HLM.out HBb.out).mono ?_
      rintro e w3 ⟨rfl, hb3⟩
      go_wp2
      go_ret
      exact ⟨rfl, bl_trans HB2.out hb3⟩
end Go.Proofs.YtndagalglenbnaaDoor
