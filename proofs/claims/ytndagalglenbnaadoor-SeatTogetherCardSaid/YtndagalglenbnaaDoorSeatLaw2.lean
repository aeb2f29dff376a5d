/- The walk of SeatFree: it returns true. Conditions: none. -/
import Derived.Test.YtndagalglenbnaaDoorSeatLaw1
namespace Go.Proofs.YtndagalglenbnaaDoor
open Go.RowKit

set_option maxRecDepth 100000 in
set_option maxHeartbeats 6000000 in
theorem sfree_s (rows : Int) (a : Option Addr) (gs : List Int) (cap : Nat) (ta : Option Addr) (tk : List Int) (tc : Nat) (m : Int) (w : World) (hg : GsAt w a gs) (hlm : gs.length ≤ maxLen) (ht : GsAt w ta tk) (htm : tk.length ≤ maxLen) :
    Calls Tryd.prog 7 #[.agg #[.int .i64 rows, .slice a gs.length cap], .slice ta tk.length tc, .int .i64 m] w fun e w' => e = .returned (.bool true) ∧ Below w.heap.size w w' := by
  have hlm' : (gs.length : Int) ≤ 9223372036854775807 := by unfold maxLen at hlm; omega
  have htm' : (tk.length : Int) ≤ 9223372036854775807 := by unfold maxLen at htm; omega
  have HT := Lib.hid (ht.keep (bl_alloc (Below.refl w.heap.size w) (.cells #[.int .i64 rows, .slice a gs.length cap] 24)))
  clear ht
  have hb1 := bl_alloc (Below.refl w.heap.size w) (.cells #[.int .i64 rows, .slice a gs.length cap] 24)
  have HB := Lib.hid hb1
  have HG := Lib.hid (hg.keep hb1)
  obtain ⟨w0, hw0⟩ : ∃ w0, w0 = w.alloc (.cells #[.int .i64 rows, .slice a gs.length cap] 24) := ⟨_, rfl⟩
  have hblk : w0.heap[w.heap.size]? = some (.cells #[.int .i64 rows, .slice a gs.length cap] 24) := by rw [hw0]; exact blk_new w _ rfl
  have q0 : ∀ w', Below w0.heap.size w0 w' → w'.cell? ⟨w.heap.size, 0, none⟩ = some (.int .i64 rows) := fun w' h => blk_cell (blk_below hblk h (blk_lt hblk)) 0
  have q1 : ∀ w', Below w0.heap.size w0 w' → w'.cell? ⟨w.heap.size, 1, none⟩ = some (.slice a gs.length cap) := fun w' h => blk_cell (blk_below hblk h (blk_lt hblk)) 1
  rw [← hw0] at HB HG
  have HW0 := Lib.hid hw0
  clear hg hb1 hblk hw0
  rw [← HW0.out] at HT
  have hb := Below.refl w0.heap.size w0
  have HBA := Lib.hid (fun (W : World) (h : Below w0.heap.size w0 W) => best_any rows a gs cap ta tk tc m W (HG.out.keep h) hlm (HT.out.keep h) htm)
  have HC := Lib.hid (fun (W : World) (h : Below w0.heap.size w0 W) => count_any rows a gs cap W (HG.out.keep h) hlm)
  have hcr := countL_rng rows gs
  have HCS := Lib.hid (bestL_cases rows gs tk m)
  obtain ⟨F, hF⟩ : ∃ F, F = bestL rows gs tk m := ⟨_, rfl⟩
  obtain ⟨N, hN⟩ : ∃ N, N = countL rows gs := ⟨_, rfl⟩
  rw [← hF, ← hN] at HCS
  rw [← hF] at HBA
  rw [← hN] at HC hcr
  clear hF hN
  obtain ⟨xs, ec⟩ := F
  by_cases hl : (1000 : Int) < gs.length
  · go_enter Tryd.func7, Tryd.ntmps7
    go_wp2_with fail
    rw [← HW0.out]
    refine (awake_s _).mono ?_; rintro e w1 ⟨rfl, hb2⟩
    replace hb := bl_trans hb hb2; clear hb2
    go_wp2_with fail
    go_ret
    exact ⟨rfl, bl_trans HB.out hb⟩
  by_cases hl2 : (2000 : Int) < tk.length
  · go_enter Tryd.func7, Tryd.ntmps7
    go_wp2_with fail
    rw [← HW0.out]
    refine (awake_s _).mono ?_; rintro e w1 ⟨rfl, hb2⟩
    replace hb := bl_trans hb hb2; clear hb2
    go_wp2_with fail
    go_ret
    exact ⟨rfl, bl_trans HB.out hb⟩
  rcases HCS.out with ⟨h1, h2, hm1, hm2, h3⟩ | ⟨h1, h2⟩
  · simp only at h1 h2 h3
    subst h1
    obtain ⟨M, rfl⟩ : ∃ M : Nat, m = M := ⟨m.toNat, by omega⟩
    rw [Int.toNat_natCast] at h2
    have HX := Lib.hid h3
    have HL2 := Lib.hid h2
    clear h2 h3 HCS
    go_enter Tryd.func7, Tryd.ntmps7
    go_wp2_with fail
    rw [← HW0.out]
    refine (awake_s _).mono ?_; rintro e w1 ⟨rfl, hb2⟩
    replace hb := bl_trans hb hb2; clear hb2
    go_wp2_with fail
    refine (HBA.out _ hb).mono ?_; rintro e w2 ⟨ad1, c1, rfl, hg1, hb2⟩
    have HG1 := Lib.hid hg1
    replace hb := bl_trans hb hb2; clear hb2 hg1
    have HB2 := Lib.hid hb
    have q0' := fun w' (h : Below w2.heap.size w2 w') => q0 w' (bl_trans HB2.out h)
    have q1' := fun w' (h : Below w2.heap.size w2 w') => q1 w' (bl_trans HB2.out h)
    clear q0 q1 hb
    go_wp2_with fail
    go_loopg [10] xs.length (fun g i wr => Below w2.heap.size w2 wr ∧ ∃ k : Nat, k ≤ xs.length ∧ g = xs.length - k ∧ i = .int .i64 k)
    case atStart => exact ⟨Below.refl _ _, 0, by omega, rfl, rfl⟩
    case round =>
      obtain ⟨hb, k, k0, hgk, rfl⟩ := hrel
      have HGK := Lib.hid hgk
      clear hgk
      have hML : xs.length = M := HL2.out
      have hxm : M ≤ 600 := by omega
      have HML := Lib.hid hML
      clear hML
      by_cases hk : k < xs.length
      · have hk6 : k < 600 := by have := HML.out; omega
        obtain ⟨b1, o1, rfl, hc⟩ := HG1.out k hk
        have q9 : ∀ w', Below w2.heap.size w2 w' → w'.cell? ⟨b1, o1 + k, none⟩ = some (.int .i64 (xs.getD k 0)) := fun w' h => cell_keep h hc
        obtain ⟨⟨f1, f2, f3⟩, f4⟩ := HX.out k hk
        have HH := Lib.hid (fun (W : World) (h : Below w2.heap.size w2 W) => has_any ta tk tc (xs.getD k 0) W (HT.out.keep (bl_trans HB2.out h)) htm)
        rw [decide_eq_false f3] at HH
        obtain ⟨x, hx⟩ : ∃ x, x = xs.getD k 0 := ⟨_, rfl⟩
        rw [← hx] at q9 HH f1 f2 f4
        have g1 : decide (x < 0) = false := by simpa using f1
        have g2 : decide (N ≤ x) = false := by simpa using f2
        have hk1 : (k : Int) < xs.length := by omega
        have hk2 : (0 : Int) ≤ (k : Int) := by omega
        have HF4 := Lib.hid f4
        clear hc hx f3 f4
        go_wp2_with fail
        refine (HH.out _ hb).mono ?_; rintro e w3 ⟨rfl, rfl⟩
        go_wp2_with fail
        refine wp_region_in (Below w2.heap.size w2) (fun i => i == 14) (by kernel_rfl) (by kernel_rfl) (by exact hb.drew) ?_
        intro hne hx
        replace hb := hb.drew
        refine stg_seg 14 (by dsimp only [List.take]) (by dsimp only [List.drop]) (by rfl) ?_
        repeat (go_big_quiet_step (fail))
        refine wpQuiet_nil ?_
        refine stg_loud (by rfl) ?_
        go_wp2_with fail
        refine (HC.out _ (bl_trans HB2.out hb)).mono ?_; rintro e w4 ⟨rfl, hb2⟩
        replace hb := bl_trans hb hb2; clear hb2
        go_wp2_with fail
        refine lq_in rfl (hb) ?_
        rcases Nat.eq_zero_or_pos k with hz | hz
        · have hz0 : ¬ (0 : Int) < (k : Int) := by omega
          have hzd : decide ((0 : Int) < (k : Int)) = false := by simpa using hz0
          have hzn : decide (0 < k) = false := by simp [hz]
          have hzm : ¬ 0 < k := by omega
          clear hz
          refine stg_seg 18 (by dsimp only [List.take]) (by dsimp only [List.drop]) (by rfl) ?_
          repeat (go_big_quiet_step (fail))
          refine wpQuiet_nil ?_
          refine stg_nil ?_
          clear hne hx
          go_wp2_with fail
          go_roundg (xs.length - (k + 1))
          case measure => have := HGK.out; omega
          case rel => exact ⟨hb, k + 1, by omega, rfl, by go_num⟩
        · have h4 := HF4.out hz
          obtain ⟨b2, o2, e2, hc2⟩ := HG1.out (k - 1) (by omega)
          obtain ⟨rfl, rfl⟩ : b1 = b2 ∧ o1 = o2 := by simpa using e2
          have q8 : ∀ w', Below w2.heap.size w2 w' → w'.cell? ⟨b1, o1 + (k - 1), none⟩ = some (.int .i64 (xs.getD (k - 1) 0)) := fun w' h => cell_keep h hc2
          obtain ⟨y, hy⟩ : ∃ y, y = xs.getD (k - 1) 0 := ⟨_, rfl⟩
          rw [← hy] at q8 h4
          have hwr : IntKind.i64.wrap ((k : Int) - 1) = (k : Int) - 1 := IntWalk.i64_in _ (by omega)
          have hwn : ((k : Int) - 1).toNat = k - 1 := by omega
          have hk2' : (0 : Int) ≤ (k : Int) - 1 := by omega
          have hk3 : (k : Int) - 1 < xs.length := by omega
          have hk4 : (0 : Int) < (k : Int) := by omega
          have g3 : decide (x ≤ y) = false := by simpa using h4
          clear hy hc2 e2
          refine stg_seg 18 (by dsimp only [List.take]) (by dsimp only [List.drop]) (by rfl) ?_
          repeat (go_big_quiet_step (fail))
          refine wpQuiet_nil ?_
          refine stg_nil ?_
          clear hne hx
          go_wp2_with fail
          go_roundg (xs.length - (k + 1))
          case measure => have := HGK.out; omega
          case rel => exact ⟨hb, k + 1, by omega, rfl, by go_num⟩
      · obtain rfl : k = xs.length := by omega
        have e1 : ((xs.length : Int) == (M : Int)) = true := by rw [beq_iff_eq, HML.out]
        have e2 : (xs.length == M) = true := by rw [beq_iff_eq, HML.out]
        go_wp2_with fail
        go_ret
        exact ⟨by simp, bl_trans HB.out (bl_trans HB2.out hb)⟩
  · simp only at h1 h2
    subst h2
    clear HCS
    rcases h1 with rfl | rfl
    all_goals
      go_enter Tryd.func7, Tryd.ntmps7
      go_wp2_with fail
      rw [← HW0.out]
      refine (awake_s _).mono ?_; rintro e w1 ⟨rfl, hb2⟩
      replace hb := bl_trans hb hb2; clear hb2
      go_wp2_with fail
      refine (HBA.out _ hb).mono ?_; rintro e w2 ⟨ad1, c1, rfl, hg1, hb2⟩
      replace hb := bl_trans hb hb2; clear hb2 hg1
      go_wp2_with fail
      go_ret
      exact ⟨rfl, bl_trans HB.out hb⟩

theorem sfree_row (p : Lay) (q : Ints) (m : Int) (w : World) (h : GsAt w p.ad p.gs ∧ p.gs.length ≤ maxLen) (h2 : GsAt w q.ad q.xs ∧ q.xs.length ≤ maxLen) (_ : (Lit.int .i64 m).wf = true) :
    Calls Tryd.prog 7 #[.agg #[.int .i64 p.rows, .slice p.ad p.gs.length p.cap], .slice q.ad q.xs.length q.cap, .int .i64 m] w fun e w' => e = .returned (.bool true) ∧ Below w.heap.size w w' :=
  sfree_s p.rows p.ad p.gs p.cap q.ad q.xs q.cap m w h.1 h.2 h2.1 h2.2
end Go.Proofs.YtndagalglenbnaaDoor
