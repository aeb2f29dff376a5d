/- Who sits beside a seat: the reference's Beside walked. Conditions: none. -/
import Derived.Test.YtndagalglenbnaaDoorSeatBesR
import Derived.Test.YtndagalglenbnaaDoorStaged
namespace Go.Proofs.YtndagalglenbnaaDoor
open Go.RowKit

set_option maxRecDepth 100000 in
set_option maxHeartbeats 400000 in
theorem rbeside_any (rows : Int) (a : Option Addr) (gs : List Int) (cap : Nat) (n : Int) (w : World) (hg : GsAt w a gs) (hlm : gs.length ≤ maxLen) :
    Calls Tryd.prog 14 #[.agg #[.int .i64 rows, .slice a gs.length cap], .int .i64 n] w (Tells w (besL rows gs n)) := by
  have hb1 := bl_alloc (Below.refl w.heap.size w) (.cells #[.int .i64 rows, .slice a gs.length cap] 24)
  have HB := Lib.hid hb1
  have HG := Lib.hid (hg.keep hb1)
  obtain ⟨w0, hw0⟩ : ∃ w0, w0 = w.alloc (.cells #[.int .i64 rows, .slice a gs.length cap] 24) := ⟨_, rfl⟩
  have hblk : w0.heap[w.heap.size]? = some (.cells #[.int .i64 rows, .slice a gs.length cap] 24) := by rw [hw0]; exact blk_new w _ rfl
  have hq : ∀ w', Below w0.heap.size w0 w' → w'.cell? ⟨w.heap.size, 0, none⟩ = some (.int .i64 rows) ∧ w'.cell? ⟨w.heap.size, 1, none⟩ = some (.slice a gs.length cap) := fun w' h =>
    ⟨blk_cell (blk_below hblk h (blk_lt hblk)) 0, blk_cell (blk_below hblk h (blk_lt hblk)) 1⟩
  have q0 := fun w' h => (hq w' h).1
  have q1 := fun w' h => (hq w' h).2
  rw [← hw0] at HB HG
  by_cases h : hasL rows gs n
  · have hR := h.right
    have h0 := h.1
    have hlt2 := h.2
    have hcr := countL_rng rows gs
    have hbl : besL rows gs n = (open Classical in (if lefty gs (n % total gs) (grpK gs (n % total gs)) then [n - 1] else []) ++ (if righty gs (n % total gs) (grpK gs (n % total gs)) then [n + 1] else [])) := by
      unfold besL; rw [if_pos h]
    have HGR := Lib.hid (fun (m : Int) (h0 : 0 ≤ m) (h9 : m ≤ 600) (W : World) (hgW : GsAt W a gs) => group_of (rows := rows) (cap := cap) (n := m) hR h0 h9 W hgW)
    have HSL := Lib.hid (same_left (n := n) hR)
    have HSR := Lib.hid (same_right (n := n) hR)
    have HRL := Lib.hid (fun hr => right_lt h hr)
    obtain ⟨xs, hxs⟩ : ∃ xs, xs = besL rows gs n := ⟨_, rfl⟩
    rw [← hxs]
    rw [← hxs] at hbl
    have HBE := Lib.hid hbl
    have HC := Lib.hid (fun (W : World) (hgW : GsAt W a gs) => rcount_any rows a gs cap W hgW hlm)
    have hl0 : n = 0 → ¬ lefty gs (n % total gs) (grpK gs (n % total gs)) := by
      intro hn0 hl
      have hc := mod_rng (n := n) hR.tot.1
      have hk := grpK_at hR hc.1 hc.2
      have hz := sumK_rng hR.2.2.2.2.1 (grpK gs (n % total gs)) (by have := hk.1; omega)
      have hz0 : n % total gs = 0 := by rw [hn0, Int.zero_emod]
      unfold lefty at hl
      omega
    have HL0 := Lib.hid hl0
    obtain ⟨N, hN⟩ : ∃ N, N = countL rows gs := ⟨_, rfl⟩
    have HN := Lib.hid hN
    rw [← hN] at hlt2 hcr
    obtain ⟨G0, hG0⟩ : ∃ G0, G0 = grpOf gs n := ⟨_, rfl⟩
    obtain ⟨G1, hG1⟩ : ∃ G1, G1 = grpOf gs (n - 1) := ⟨_, rfl⟩
    obtain ⟨G2, hG2⟩ : ∃ G2, G2 = grpOf gs (n + 1) := ⟨_, rfl⟩
    have HG0 := Lib.hid hG0
    have HG1 := Lib.hid hG1
    have HG2 := Lib.hid hG2
    have hw2 : IntKind.i64.wrap (n + 1) = n + 1 := IntWalk.i64_in _ (by omega)
    have f1 : ¬ n < 0 := by omega
    have f2 : ¬ N ≤ n := by omega
    have HW0 := Lib.hid hw0
    clear hg hb1 h hR hbl hxs hl0 hN hG0 hG1 hG2 hblk hq hw0
    go_enter Tryd.func14, Tryd.ntmps14
    go_wp2_with fail
    rw [← HW0.out]
    refine (HC.out _ HG.out).mono ?_; rintro e w1 ⟨rfl, hb⟩; rw [← HN.out]
    go_wp2_with fail
    have HGB := Lib.hid (fun (W : World) (h : Below w0.heap.size w0 W) => HGR.out n (by omega) (by omega) W (HG.out.keep h))
    by_cases hn : 0 < n
    · have hw1 : IntKind.i64.wrap (n - 1) = n - 1 := IntWalk.i64_in _ (by omega)
      have HGA := Lib.hid (fun (W : World) (h : Below w0.heap.size w0 W) => HGR.out (n - 1) (by omega) (by omega) W (HG.out.keep h))
      refine wp_region_in (Below w0.heap.size w0) (fun i => i == 6 || i == 9) (by kernel_rfl) (by kernel_rfl) (by exact hb.drew) ?_
      intro hne hx
      replace hb := hb.drew
      refine stg_seg 6 (by dsimp only [List.take]) (by dsimp only [List.drop]) (by rfl) ?_
      repeat (go_big_quiet_step (fail))
      refine wpQuiet_nil ?_
      refine stg_loud (by rfl) ?_
      go_wp2_with fail
      refine (HGA.out _ hb).mono ?_; rintro e w2 ⟨rfl, hb2⟩; rw [← HG1.out]
      replace hb := bl_trans hb hb2; clear hb2
      go_wp2_with fail
      refine lq_in rfl (hb) ?_
      refine stg_seg 2 (by dsimp only [List.take]) (by dsimp only [List.drop]) (by rfl) ?_
      repeat (go_big_quiet_step (fail))
      refine wpQuiet_nil ?_
      refine stg_loud (by rfl) ?_
      go_wp2_with fail
      refine (HGB.out _ hb).mono ?_; rintro e w3 ⟨rfl, hb2⟩; rw [← HG0.out]
      replace hb := bl_trans hb hb2; clear hb2
      go_wp2_with fail
      refine lq_in rfl (hb) ?_
      by_cases hl : G1 = G0
      · have e1 : (G1 == G0) = true := by simp [hl]
        have HE1 := Lib.hid (show xs = [n - 1] ++ _ by rw [HBE.out, if_pos (HSL.out.1 (by rw [← HG1.out, ← HG0.out]; exact hl))])
        refine stg_seg 2 (by dsimp only [List.take]) (by dsimp only [List.drop]) (by rfl) ?_
        repeat (go_big_quiet_step (fail))
        refine wpQuiet_nil ?_
        refine stg_nil ?_
        clear hne hx
        go_wp2_with (at_builtin; refine wpList_app rfl _ _ 22 rfl w0.heap.size 3 Tryd.underlying22 Tryd.infoInt rfl (by decide) rfl (World.ownsRow_nil _ _ _ _) rfl [.int .i64 (n - 1)] rfl (by simp [Value.oneCell']) (by unfold maxLen; omega) (by omega) hb.size ?_; intro v1 w4 hown1 hgrow)
        replace hb := bl_trans' hb (own_below (World.ownsRow_nil _ w0.heap.size 3 1) hgrow hb.size) (Nat.le_refl _)
        have hbw : Below w0.heap.size w0 w4 := hb
        replace q0 := fun w' (h : Below w4.heap.size w4 w') => q0 w' (bl_trans hbw h)
        replace q1 := fun w' (h : Below w4.heap.size w4 w') => q1 w' (bl_trans hbw h)
        have HG4 := Lib.hid (HG.out.keep hbw)
        have HW := Lib.hid hbw
        clear hgrow HGA HGB hbw HG
        have HG := HG4
        replace hb := Below.refl w4.heap.size w4
        have HO := Lib.hid (fun (W : World) (h : Below w4.heap.size w4 W) => own_keep hown1 h)
        clear hown1
        go_wp2_with fail
        have HGB := Lib.hid (fun (W : World) (h : Below w4.heap.size w4 W) => HGR.out n (by omega) (by omega) W (HG.out.keep h))
        by_cases hm : n + 1 < N
        · have HGC := Lib.hid (fun (W : World) (h : Below w4.heap.size w4 W) => HGR.out (n + 1) (by omega) (by omega) W (HG.out.keep h))
          refine wp_region_in (Below w4.heap.size w4) (fun i => i == 3 || i == 9 || i == 12) (by kernel_rfl) (by kernel_rfl) (by exact hb.drew) ?_
          intro hne hx
          replace hb := hb.drew
          refine stg_seg 3 (by dsimp only [List.take]) (by dsimp only [List.drop]) (by rfl) ?_
          repeat (go_big_quiet_step (fail))
          refine wpQuiet_nil ?_
          refine stg_loud (by rfl) ?_
          go_wp2_with fail
          refine (HC.out _ (HG.out.keep hb)).mono ?_; rintro e w5 ⟨rfl, hb2⟩; rw [← HN.out]
          replace hb := bl_trans hb hb2; clear hb2
          go_wp2_with fail
          refine lq_in rfl (hb) ?_
          refine stg_seg 5 (by dsimp only [List.take]) (by dsimp only [List.drop]) (by rfl) ?_
          repeat (go_big_quiet_step (fail))
          refine wpQuiet_nil ?_
          refine stg_loud (by rfl) ?_
          go_wp2_with fail
          refine (HGC.out _ hb).mono ?_; rintro e w6 ⟨rfl, hb2⟩; rw [← HG2.out]
          replace hb := bl_trans hb hb2; clear hb2
          go_wp2_with fail
          refine lq_in rfl (hb) ?_
          refine stg_seg 2 (by dsimp only [List.take]) (by dsimp only [List.drop]) (by rfl) ?_
          repeat (go_big_quiet_step (fail))
          refine wpQuiet_nil ?_
          refine stg_loud (by rfl) ?_
          go_wp2_with fail
          refine (HGB.out _ hb).mono ?_; rintro e w7 ⟨rfl, hb2⟩; rw [← HG0.out]
          replace hb := bl_trans hb hb2; clear hb2
          go_wp2_with fail
          refine lq_in rfl (hb) ?_
          by_cases hr : G2 = G0
          · have e2 : (G2 == G0) = true := by simp [hr]
            have HE := Lib.hid (show xs = [n - 1] ++ [n + 1] by rw [HE1.out, if_pos (HSR.out.1 (by rw [← HG2.out, ← HG0.out]; exact hr))])
            refine stg_seg 2 (by dsimp only [List.take]) (by dsimp only [List.drop]) (by rfl) ?_
            repeat (go_big_quiet_step (fail))
            refine wpQuiet_nil ?_
            refine stg_nil ?_
            clear hne hx
            go_wp2_with (at_builtin; refine wpList_app rfl _ _ 22 rfl w0.heap.size 3 Tryd.underlying22 Tryd.infoInt rfl (by decide) rfl (HO.out _ hb) rfl [.int .i64 (n + 1)] rfl (by simp [Value.oneCell']) (by unfold maxLen; omega) (by omega) (bl_trans HW.out hb).size ?_; intro v' w9 hown' hgrow)
            have hb9 := bl_trans' (bl_trans HW.out hb) (own_below (HO.out _ hb) hgrow (bl_trans HW.out hb).size) (Nat.le_refl _)
            go_ret
            rw [HE.out]
            exact tells_own (xs := [n - 1] ++ [n + 1]) hown' rfl (bl_trans HB.out hb9)
          · have e2 : (G2 == G0) = false := by simp [hr]
            have HE := Lib.hid (show xs = [n - 1] ++ [] by rw [HE1.out, if_neg (fun k => hr (by rw [HG2.out, HG0.out]; exact HSR.out.2 k))])
            refine stg_seg 2 (by dsimp only [List.take]) (by dsimp only [List.drop]) (by rfl) ?_
            repeat (go_big_quiet_step (fail))
            refine wpQuiet_nil ?_
            refine stg_nil ?_
            clear hne hx
            go_wp2_with fail
            go_ret
            rw [HE.out]
            exact tells_own (xs := [n - 1] ++ []) ((HO.out _ hb)) rfl (bl_trans HB.out (bl_trans HW.out hb))
        · have HE := Lib.hid (show xs = [n - 1] ++ [] by rw [HE1.out, if_neg (fun k => hm (by rw [HN.out]; exact HRL.out k))])
          have hm' : ¬ n + 1 < N := hm
          refine wp_region_in (Below w4.heap.size w4) (fun i => i == 3 || i == 9 || i == 12) (by kernel_rfl) (by kernel_rfl) (by exact hb.drew) ?_
          intro hne hx
          replace hb := hb.drew
          refine stg_seg 3 (by dsimp only [List.take]) (by dsimp only [List.drop]) (by rfl) ?_
          repeat (go_big_quiet_step (fail))
          refine wpQuiet_nil ?_
          refine stg_loud (by rfl) ?_
          go_wp2_with fail
          refine (HC.out _ (HG.out.keep hb)).mono ?_; rintro e w5 ⟨rfl, hb2⟩; rw [← HN.out]
          replace hb := bl_trans hb hb2; clear hb2
          go_wp2_with fail
          refine lq_in rfl (hb) ?_
          have hd : decide (n + 1 < N) = false := by simpa using hm
          refine stg_seg 5 (by dsimp only [List.take]) (by dsimp only [List.drop]) (by rfl) ?_
          repeat (go_big_quiet_step (fail))
          refine wpQuiet_nil ?_
          refine stg_loud (by rfl) ?_
          go_wp2_with fail
          refine lq_in rfl (hb) ?_
          refine stg_seg 2 (by dsimp only [List.take]) (by dsimp only [List.drop]) (by rfl) ?_
          repeat (go_big_quiet_step (fail))
          refine wpQuiet_nil ?_
          refine stg_loud (by rfl) ?_
          go_wp2_with fail
          refine lq_in rfl (hb) ?_
          refine stg_seg 2 (by dsimp only [List.take]) (by dsimp only [List.drop]) (by rfl) ?_
          repeat (go_big_quiet_step (fail))
          refine wpQuiet_nil ?_
          refine stg_nil ?_
          clear hne hx
          go_wp2_with fail
          go_ret
          rw [HE.out]
          exact tells_own (xs := [n - 1] ++ []) ((HO.out _ hb)) rfl (bl_trans HB.out (bl_trans HW.out hb))
      · have e1 : (G1 == G0) = false := by simp [hl]
        have HE1 := Lib.hid (show xs = [] ++ _ by rw [HBE.out, if_neg (fun k => hl (by rw [HG1.out, HG0.out]; exact HSL.out.2 k))])
        refine stg_seg 2 (by dsimp only [List.take]) (by dsimp only [List.drop]) (by rfl) ?_
        repeat (go_big_quiet_step (fail))
        refine wpQuiet_nil ?_
        refine stg_nil ?_
        clear hne hx
        go_wp2_with fail
        have HW := Lib.hid (Below.refl w0.heap.size w0)
        have HGB := Lib.hid (fun (W : World) (h : Below w0.heap.size w0 W) => HGR.out n (by omega) (by omega) W (HG.out.keep h))
        by_cases hm : n + 1 < N
        · have HGC := Lib.hid (fun (W : World) (h : Below w0.heap.size w0 W) => HGR.out (n + 1) (by omega) (by omega) W (HG.out.keep h))
          refine wp_region_in (Below w0.heap.size w0) (fun i => i == 3 || i == 9 || i == 12) (by kernel_rfl) (by kernel_rfl) (by exact hb.drew) ?_
          intro hne hx
          replace hb := hb.drew
          refine stg_seg 3 (by dsimp only [List.take]) (by dsimp only [List.drop]) (by rfl) ?_
          repeat (go_big_quiet_step (fail))
          refine wpQuiet_nil ?_
          refine stg_loud (by rfl) ?_
          go_wp2_with fail
          refine (HC.out _ (HG.out.keep hb)).mono ?_; rintro e w5 ⟨rfl, hb2⟩; rw [← HN.out]
          replace hb := bl_trans hb hb2; clear hb2
          go_wp2_with fail
          refine lq_in rfl (hb) ?_
          refine stg_seg 5 (by dsimp only [List.take]) (by dsimp only [List.drop]) (by rfl) ?_
          repeat (go_big_quiet_step (fail))
          refine wpQuiet_nil ?_
          refine stg_loud (by rfl) ?_
          go_wp2_with fail
          refine (HGC.out _ hb).mono ?_; rintro e w6 ⟨rfl, hb2⟩; rw [← HG2.out]
          replace hb := bl_trans hb hb2; clear hb2
          go_wp2_with fail
          refine lq_in rfl (hb) ?_
          refine stg_seg 2 (by dsimp only [List.take]) (by dsimp only [List.drop]) (by rfl) ?_
          repeat (go_big_quiet_step (fail))
          refine wpQuiet_nil ?_
          refine stg_loud (by rfl) ?_
          go_wp2_with fail
          refine (HGB.out _ hb).mono ?_; rintro e w7 ⟨rfl, hb2⟩; rw [← HG0.out]
          replace hb := bl_trans hb hb2; clear hb2
          go_wp2_with fail
          refine lq_in rfl (hb) ?_
          by_cases hr : G2 = G0
          · have e2 : (G2 == G0) = true := by simp [hr]
            have HE := Lib.hid (show xs = [] ++ [n + 1] by rw [HE1.out, if_pos (HSR.out.1 (by rw [← HG2.out, ← HG0.out]; exact hr))])
            refine stg_seg 2 (by dsimp only [List.take]) (by dsimp only [List.drop]) (by rfl) ?_
            repeat (go_big_quiet_step (fail))
            refine wpQuiet_nil ?_
            refine stg_nil ?_
            clear hne hx
            go_wp2_with (at_builtin; refine wpList_app rfl _ _ 22 rfl w0.heap.size 3 Tryd.underlying22 Tryd.infoInt rfl (by decide) rfl (World.ownsRow_nil _ w0.heap.size 3 1) rfl [.int .i64 (n + 1)] rfl (by simp [Value.oneCell']) (by unfold maxLen; omega) (by omega) (bl_trans HW.out hb).size ?_; intro v' w9 hown' hgrow)
            have hb9 := bl_trans' (bl_trans HW.out hb) (own_below (World.ownsRow_nil _ w0.heap.size 3 1) hgrow (bl_trans HW.out hb).size) (Nat.le_refl _)
            go_ret
            rw [HE.out]
            exact tells_own (xs := [] ++ [n + 1]) hown' rfl (bl_trans HB.out hb9)
          · have e2 : (G2 == G0) = false := by simp [hr]
            have HE := Lib.hid (show xs = [] ++ [] by rw [HE1.out, if_neg (fun k => hr (by rw [HG2.out, HG0.out]; exact HSR.out.2 k))])
            refine stg_seg 2 (by dsimp only [List.take]) (by dsimp only [List.drop]) (by rfl) ?_
            repeat (go_big_quiet_step (fail))
            refine wpQuiet_nil ?_
            refine stg_nil ?_
            clear hne hx
            go_wp2_with fail
            go_ret
            rw [HE.out]
            exact tells_own (xs := [] ++ []) ((World.ownsRow_nil _ w0.heap.size 3 1)) rfl (bl_trans HB.out (bl_trans HW.out hb))
        · have HE := Lib.hid (show xs = [] ++ [] by rw [HE1.out, if_neg (fun k => hm (by rw [HN.out]; exact HRL.out k))])
          have hm' : ¬ n + 1 < N := hm
          refine wp_region_in (Below w0.heap.size w0) (fun i => i == 3 || i == 9 || i == 12) (by kernel_rfl) (by kernel_rfl) (by exact hb.drew) ?_
          intro hne hx
          replace hb := hb.drew
          refine stg_seg 3 (by dsimp only [List.take]) (by dsimp only [List.drop]) (by rfl) ?_
          repeat (go_big_quiet_step (fail))
          refine wpQuiet_nil ?_
          refine stg_loud (by rfl) ?_
          go_wp2_with fail
          refine (HC.out _ (HG.out.keep hb)).mono ?_; rintro e w5 ⟨rfl, hb2⟩; rw [← HN.out]
          replace hb := bl_trans hb hb2; clear hb2
          go_wp2_with fail
          refine lq_in rfl (hb) ?_
          have hd : decide (n + 1 < N) = false := by simpa using hm
          refine stg_seg 5 (by dsimp only [List.take]) (by dsimp only [List.drop]) (by rfl) ?_
          repeat (go_big_quiet_step (fail))
          refine wpQuiet_nil ?_
          refine stg_loud (by rfl) ?_
          go_wp2_with fail
          refine lq_in rfl (hb) ?_
          refine stg_seg 2 (by dsimp only [List.take]) (by dsimp only [List.drop]) (by rfl) ?_
          repeat (go_big_quiet_step (fail))
          refine wpQuiet_nil ?_
          refine stg_loud (by rfl) ?_
          go_wp2_with fail
          refine lq_in rfl (hb) ?_
          refine stg_seg 2 (by dsimp only [List.take]) (by dsimp only [List.drop]) (by rfl) ?_
          repeat (go_big_quiet_step (fail))
          refine wpQuiet_nil ?_
          refine stg_nil ?_
          clear hne hx
          go_wp2_with fail
          go_ret
          rw [HE.out]
          exact tells_own (xs := [] ++ []) ((World.ownsRow_nil _ w0.heap.size 3 1)) rfl (bl_trans HB.out (bl_trans HW.out hb))
    · have HE1 := Lib.hid (show xs = [] ++ _ by rw [HBE.out, if_neg (HL0.out (by omega))])
      have hd : decide (0 < n) = false := by simpa using hn
      refine wp_region_in (Below w0.heap.size w0) (fun i => i == 6 || i == 9) (by kernel_rfl) (by kernel_rfl) (by exact hb.drew) ?_
      intro hne hx
      replace hb := hb.drew
      refine stg_seg 6 (by dsimp only [List.take]) (by dsimp only [List.drop]) (by rfl) ?_
      repeat (go_big_quiet_step (fail))
      refine wpQuiet_nil ?_
      refine stg_loud (by rfl) ?_
      go_wp2_with fail
      refine lq_in rfl (hb) ?_
      refine stg_seg 2 (by dsimp only [List.take]) (by dsimp only [List.drop]) (by rfl) ?_
      repeat (go_big_quiet_step (fail))
      refine wpQuiet_nil ?_
      refine stg_loud (by rfl) ?_
      go_wp2_with fail
      refine lq_in rfl (hb) ?_
      refine stg_seg 2 (by dsimp only [List.take]) (by dsimp only [List.drop]) (by rfl) ?_
      repeat (go_big_quiet_step (fail))
      refine wpQuiet_nil ?_
      refine stg_nil ?_
      clear hne hx
      go_wp2_with fail
      have HW := Lib.hid (Below.refl w0.heap.size w0)
      have HGB := Lib.hid (fun (W : World) (h : Below w0.heap.size w0 W) => HGR.out n (by omega) (by omega) W (HG.out.keep h))
      by_cases hm : n + 1 < N
      · have HGC := Lib.hid (fun (W : World) (h : Below w0.heap.size w0 W) => HGR.out (n + 1) (by omega) (by omega) W (HG.out.keep h))
        refine wp_region_in (Below w0.heap.size w0) (fun i => i == 3 || i == 9 || i == 12) (by kernel_rfl) (by kernel_rfl) (by exact hb.drew) ?_
        intro hne hx
        replace hb := hb.drew
        refine stg_seg 3 (by dsimp only [List.take]) (by dsimp only [List.drop]) (by rfl) ?_
        repeat (go_big_quiet_step (fail))
        refine wpQuiet_nil ?_
        refine stg_loud (by rfl) ?_
        go_wp2_with fail
        refine (HC.out _ (HG.out.keep hb)).mono ?_; rintro e w5 ⟨rfl, hb2⟩; rw [← HN.out]
        replace hb := bl_trans hb hb2; clear hb2
        go_wp2_with fail
        refine lq_in rfl (hb) ?_
        refine stg_seg 5 (by dsimp only [List.take]) (by dsimp only [List.drop]) (by rfl) ?_
        repeat (go_big_quiet_step (fail))
        refine wpQuiet_nil ?_
        refine stg_loud (by rfl) ?_
        go_wp2_with fail
        refine (HGC.out _ hb).mono ?_; rintro e w6 ⟨rfl, hb2⟩; rw [← HG2.out]
        replace hb := bl_trans hb hb2; clear hb2
        go_wp2_with fail
        refine lq_in rfl (hb) ?_
        refine stg_seg 2 (by dsimp only [List.take]) (by dsimp only [List.drop]) (by rfl) ?_
        repeat (go_big_quiet_step (fail))
        refine wpQuiet_nil ?_
        refine stg_loud (by rfl) ?_
        go_wp2_with fail
        refine (HGB.out _ hb).mono ?_; rintro e w7 ⟨rfl, hb2⟩; rw [← HG0.out]
        replace hb := bl_trans hb hb2; clear hb2
        go_wp2_with fail
        refine lq_in rfl (hb) ?_
        by_cases hr : G2 = G0
        · have e2 : (G2 == G0) = true := by simp [hr]
          have HE := Lib.hid (show xs = [] ++ [n + 1] by rw [HE1.out, if_pos (HSR.out.1 (by rw [← HG2.out, ← HG0.out]; exact hr))])
          refine stg_seg 2 (by dsimp only [List.take]) (by dsimp only [List.drop]) (by rfl) ?_
          repeat (go_big_quiet_step (fail))
          refine wpQuiet_nil ?_
          refine stg_nil ?_
          clear hne hx
          go_wp2_with (at_builtin; refine wpList_app rfl _ _ 22 rfl w0.heap.size 3 Tryd.underlying22 Tryd.infoInt rfl (by decide) rfl (World.ownsRow_nil _ w0.heap.size 3 1) rfl [.int .i64 (n + 1)] rfl (by simp [Value.oneCell']) (by unfold maxLen; omega) (by omega) (bl_trans HW.out hb).size ?_; intro v' w9 hown' hgrow)
          have hb9 := bl_trans' (bl_trans HW.out hb) (own_below (World.ownsRow_nil _ w0.heap.size 3 1) hgrow (bl_trans HW.out hb).size) (Nat.le_refl _)
          go_ret
          rw [HE.out]
          exact tells_own (xs := [] ++ [n + 1]) hown' rfl (bl_trans HB.out hb9)
        · have e2 : (G2 == G0) = false := by simp [hr]
          have HE := Lib.hid (show xs = [] ++ [] by rw [HE1.out, if_neg (fun k => hr (by rw [HG2.out, HG0.out]; exact HSR.out.2 k))])
          refine stg_seg 2 (by dsimp only [List.take]) (by dsimp only [List.drop]) (by rfl) ?_
          repeat (go_big_quiet_step (fail))
          refine wpQuiet_nil ?_
          refine stg_nil ?_
          clear hne hx
          go_wp2_with fail
          go_ret
          rw [HE.out]
          exact tells_own (xs := [] ++ []) ((World.ownsRow_nil _ w0.heap.size 3 1)) rfl (bl_trans HB.out (bl_trans HW.out hb))
      · have HE := Lib.hid (show xs = [] ++ [] by rw [HE1.out, if_neg (fun k => hm (by rw [HN.out]; exact HRL.out k))])
        have hm' : ¬ n + 1 < N := hm
        refine wp_region_in (Below w0.heap.size w0) (fun i => i == 3 || i == 9 || i == 12) (by kernel_rfl) (by kernel_rfl) (by exact hb.drew) ?_
        intro hne hx
        replace hb := hb.drew
        refine stg_seg 3 (by dsimp only [List.take]) (by dsimp only [List.drop]) (by rfl) ?_
        repeat (go_big_quiet_step (fail))
        refine wpQuiet_nil ?_
        refine stg_loud (by rfl) ?_
        go_wp2_with fail
        refine (HC.out _ (HG.out.keep hb)).mono ?_; rintro e w5 ⟨rfl, hb2⟩; rw [← HN.out]
        replace hb := bl_trans hb hb2; clear hb2
        go_wp2_with fail
        refine lq_in rfl (hb) ?_
        have hd : decide (n + 1 < N) = false := by simpa using hm
        refine stg_seg 5 (by dsimp only [List.take]) (by dsimp only [List.drop]) (by rfl) ?_
        repeat (go_big_quiet_step (fail))
        refine wpQuiet_nil ?_
        refine stg_loud (by rfl) ?_
        go_wp2_with fail
        refine lq_in rfl (hb) ?_
        refine stg_seg 2 (by dsimp only [List.take]) (by dsimp only [List.drop]) (by rfl) ?_
        repeat (go_big_quiet_step (fail))
        refine wpQuiet_nil ?_
        refine stg_loud (by rfl) ?_
        go_wp2_with fail
        refine lq_in rfl (hb) ?_
        refine stg_seg 2 (by dsimp only [List.take]) (by dsimp only [List.drop]) (by rfl) ?_
        repeat (go_big_quiet_step (fail))
        refine wpQuiet_nil ?_
        refine stg_nil ?_
        clear hne hx
        go_wp2_with fail
        go_ret
        rw [HE.out]
        exact tells_own (xs := [] ++ []) ((World.ownsRow_nil _ w0.heap.size 3 1)) rfl (bl_trans HB.out (bl_trans HW.out hb))
  · have hbl : besL rows gs n = [] := by unfold besL; rw [if_neg h]
    rw [hbl]
    have HW0 := Lib.hid hw0
    by_cases h0 : n < 0
    · clear hg hb1 h hbl hblk hq q0 q1 hw0
      go_enter Tryd.func14, Tryd.ntmps14
      go_wp2
      go_ret
      rw [← HW0.out]
      exact tells_own (xs := []) (World.ownsRow_nil _ w.heap.size 3 1) rfl HB.out
    · have h1 : countL rows gs ≤ n := by
        by_cases k : n < countL rows gs
        · exact absurd ⟨by omega, k⟩ h
        · omega
      have HC := Lib.hid (rcount_any rows a gs cap _ HG.out hlm)
      obtain ⟨N, hN⟩ : ∃ N, N = countL rows gs := ⟨_, rfl⟩
      rw [← hN] at h1 HC
      clear hg hb1 h hbl hN hblk hq q0 q1 hw0
      go_enter Tryd.func14, Tryd.ntmps14
      go_wp2_with fail
      rw [← HW0.out]
      refine HC.out.mono ?_; rintro e w1 ⟨rfl, hb2⟩
      go_wp2
      go_ret
      exact tells_own (xs := []) (World.ownsRow_nil _ w.heap.size 3 1) rfl (bl_trans HB.out hb2)
end Go.Proofs.YtndagalglenbnaaDoor
