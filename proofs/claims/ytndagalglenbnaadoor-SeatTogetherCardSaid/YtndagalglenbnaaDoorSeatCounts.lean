/- The walk of SeatCounts: it returns true. Conditions: none. -/
import Derived.Test.YtndagalglenbnaaDoorSeatBesW
import Derived.Test.YtndagalglenbnaaDoorSeatApart
import Derived.Test.YtndagalglenbnaaDoorOpenLay
namespace Go.Proofs.YtndagalglenbnaaDoor
open Go.RowKit

theorem right_any (rows : Int) (a : Option Addr) (gs : List Int) (cap : Nat) (w : World) (hg : GsAt w a gs) (hlm : gs.length ≤ maxLen) :
    Calls Tryd.prog 15 #[.agg #[.int .i64 rows, .slice a gs.length cap]] w fun e w' => e = .returned (.bool (rightB rows gs)) ∧ Below w.heap.size w w' := by
  by_cases h : RightL rows gs
  · rw [rightB_yes h]; exact right_yes rows a gs cap w hg h
  · rw [rightB_no h]; exact right_no rows a gs cap w hg hlm h

set_option maxRecDepth 100000 in
set_option maxHeartbeats 4000000 in
theorem counts_s (rows : Int) (a : Option Addr) (gs : List Int) (cap : Nat) (n : Int) (w : World) (hg : GsAt w a gs) (hlm : gs.length ≤ maxLen) :
    Calls Tryd.prog 4 #[.agg #[.int .i64 rows, .slice a gs.length cap], .int .i64 n] w fun e w' => e = .returned (.bool true) ∧ Below w.heap.size w w' := by
  have hlm' : (gs.length : Int) ≤ 9223372036854775807 := by unfold maxLen at hlm; omega
  have hb1 := bl_alloc (Below.refl w.heap.size w) (.cells #[.int .i64 rows, .slice a gs.length cap] 24)
  have HB := Lib.hid hb1
  have HG := Lib.hid (hg.keep hb1)
  obtain ⟨w0, hw0⟩ : ∃ w0, w0 = w.alloc (.cells #[.int .i64 rows, .slice a gs.length cap] 24) := ⟨_, rfl⟩
  have hblk : w0.heap[w.heap.size]? = some (.cells #[.int .i64 rows, .slice a gs.length cap] 24) := by rw [hw0]; exact blk_new w _ rfl
  have q0 : ∀ w', Below w0.heap.size w0 w' → w'.cell? ⟨w.heap.size, 0, none⟩ = some (.int .i64 rows) := fun w' h => blk_cell (blk_below hblk h (blk_lt hblk)) 0
  have q1 : ∀ w', Below w0.heap.size w0 w' → w'.cell? ⟨w.heap.size, 1, none⟩ = some (.slice a gs.length cap) := fun w' h => blk_cell (blk_below hblk h (blk_lt hblk)) 1
  rw [← hw0] at HB HG
  have HW0 := Lib.hid hw0
  clear hg hb1 hblk hw0
  obtain ⟨b, hbe⟩ : ∃ b, b = rightB rows gs := ⟨_, rfl⟩
  obtain ⟨N, hN⟩ : ∃ N, N = countL rows gs := ⟨_, rfl⟩
  have HR := Lib.hid (fun (W : World) (h : Below w0.heap.size w0 W) => right_any rows a gs cap W (HG.out.keep h) hlm)
  have HRR := Lib.hid (fun (W : World) (h : Below w0.heap.size w0 W) => rright_any rows a gs cap W (HG.out.keep h) hlm)
  have HC := Lib.hid (fun (W : World) (h : Below w0.heap.size w0 W) => count_any rows a gs cap W (HG.out.keep h) hlm)
  have HRC := Lib.hid (fun (W : World) (h : Below w0.heap.size w0 W) => rcount_any rows a gs cap W (HG.out.keep h) hlm)
  rw [← hbe] at HR HRR
  rw [← hN] at HC HRC
  have HBS := Lib.hid (fun (W : World) (h : Below w0.heap.size w0 W) => beside_any rows a gs cap n W (HG.out.keep h) hlm)
  have HRB := Lib.hid (fun (W : World) (h : Below w0.heap.size w0 W) => rbeside_any rows a gs cap n W (HG.out.keep h) hlm)
  obtain ⟨xs, hxs⟩ : ∃ xs, xs = besL rows gs n := ⟨_, rfl⟩
  have hxl : xs.length ≤ 2 := by rw [hxs]; unfold besL; split <;> simp <;> (split <;> split <;> simp)
  rw [← hxs] at HBS HRB
  clear hbe hN hxs
  have hb := Below.refl w0.heap.size w0
  go_enter Tryd.func4, Tryd.ntmps4
  go_wp2_with fail
  rw [← HW0.out]
  refine (awake_s _).mono ?_; rintro e w1 ⟨rfl, hb2⟩
  replace hb := bl_trans hb hb2; clear hb2
  by_cases hl : (1000 : Int) < gs.length
  · go_wp2_with fail
    go_ret
    exact ⟨rfl, bl_trans HB.out hb⟩
  go_wp2_with fail
  refine (HBS.out _ hb).mono ?_; rintro e w2 ⟨ad1, c1, rfl, hg1, hb2⟩
  replace hb := bl_trans hb hb2; clear hb2
  have HG1 := Lib.hid hg1; clear hg1
  go_wp2_with fail
  refine (HRB.out _ hb).mono ?_; rintro e w3 ⟨ad2, c2, rfl, hg2, hb2⟩
  have HG1' := Lib.hid (HG1.out.keep hb2)
  replace hb := bl_trans hb hb2; clear hb2
  have HG2 := Lib.hid hg2; clear hg2
  go_wp2_with fail
  refine (same_any ad1 ad2 xs xs c1 c2 _ HG1'.out HG2.out (by unfold maxLen; omega) (by unfold maxLen; omega)).mono ?_; rintro e w4 ⟨rfl, hb2⟩
  replace hb := bl_trans hb hb2; clear hb2
  go_wp2_with fail
  refine wp_region_in (Below w0.heap.size w0) (fun i => i == 6 || i == 8 || i == 13 || i == 15) (by kernel_rfl) (by kernel_rfl) (by exact hb.drew) ?_
  intro hne hx
  replace hb := hb.drew
  refine stg_seg 6 (by dsimp only [List.take]) (by dsimp only [List.drop]) (by rfl) ?_
  repeat (go_big_quiet_step (fail))
  refine wpQuiet_nil ?_
  refine stg_loud (by rfl) ?_
  go_wp2_with fail
  refine (HR.out _ hb).mono ?_; rintro e w5 ⟨rfl, hb2⟩
  replace hb := bl_trans hb hb2; clear hb2
  go_wp2_with fail
  refine lq_in rfl (hb) ?_
  refine stg_seg 1 (by dsimp only [List.take]) (by dsimp only [List.drop]) (by rfl) ?_
  repeat (go_big_quiet_step (fail))
  refine wpQuiet_nil ?_
  refine stg_loud (by rfl) ?_
  go_wp2_with fail
  refine (HRR.out _ hb).mono ?_; rintro e w6 ⟨rfl, hb2⟩
  replace hb := bl_trans hb hb2; clear hb2
  go_wp2_with fail
  refine lq_in rfl (hb) ?_
  refine stg_seg 4 (by dsimp only [List.take]) (by dsimp only [List.drop]) (by rfl) ?_
  repeat (go_big_quiet_step (fail))
  refine wpQuiet_nil ?_
  refine stg_loud (by rfl) ?_
  go_wp2_with fail
  refine (HC.out _ hb).mono ?_; rintro e w7 ⟨rfl, hb2⟩
  replace hb := bl_trans hb hb2; clear hb2
  go_wp2_with fail
  refine lq_in rfl (hb) ?_
  refine stg_seg 1 (by dsimp only [List.take]) (by dsimp only [List.drop]) (by rfl) ?_
  repeat (go_big_quiet_step (fail))
  refine wpQuiet_nil ?_
  refine stg_loud (by rfl) ?_
  go_wp2_with fail
  refine (HRC.out _ hb).mono ?_; rintro e w8 ⟨rfl, hb2⟩
  replace hb := bl_trans hb hb2; clear hb2
  go_wp2_with fail
  refine lq_in rfl (hb) ?_
  refine stg_seg 3 (by dsimp only [List.take]) (by dsimp only [List.drop]) (by rfl) ?_
  repeat (go_big_quiet_step (fail))
  refine wpQuiet_nil ?_
  refine stg_nil ?_
  clear hne hx
  go_wp2_with fail
  go_ret
  exact ⟨rfl, bl_trans HB.out hb⟩

theorem counts_row (p : Lay) (n : Int) (w : World) (h : GsAt w p.ad p.gs ∧ p.gs.length ≤ maxLen) (_ : (Lit.int .i64 n).wf = true) :
    Calls Tryd.prog 4 #[.agg #[.int .i64 p.rows, .slice p.ad p.gs.length p.cap], .int .i64 n] w fun e w' => e = .returned (.bool true) ∧ Below w.heap.size w w' :=
  counts_s p.rows p.ad p.gs p.cap n w h.1 h.2
end Go.Proofs.YtndagalglenbnaaDoor
