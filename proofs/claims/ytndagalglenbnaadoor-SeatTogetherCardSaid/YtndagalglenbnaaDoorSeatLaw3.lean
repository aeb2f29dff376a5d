/- The walk of SeatTogether: it returns true. Conditions: none. -/
import Derived.Test.YtndagalglenbnaaDoorSeatLaw2
import Derived.Test.YtndagalglenbnaaDoorOpenPair2
namespace Go.Proofs.YtndagalglenbnaaDoor
open Go.RowKit

theorem win_first {gs tk : List Int} {N m : Nat} : ∀ {s : Nat}, Win gs tk N m s → ∃ s0, s0 ≤ s ∧ FirstWin gs tk N m s0 := by
  intro s
  induction s using Nat.strongRecOn with
  | _ s ih =>
    intro hw
    by_cases h : ∃ s', s' < s ∧ Win gs tk N m s'
    · obtain ⟨s', h1, h2⟩ := h
      obtain ⟨s0, h3, h4⟩ := ih s' h1 h2
      exact ⟨s0, by omega, h4⟩
    · exact ⟨s, Nat.le_refl _, hw, fun s' hs' hw' => h ⟨s', hs', hw'⟩⟩
/-- What the law asks of seats side by side. -/
theorem together {rows : Int} {gs tk : List Int} {f M : Nat} (hM : 1 ≤ M) (h : ∀ j, j < M → ¬ ((f + j : Nat) : Int) ∈ tk ∧ ((f + j : Nat) : Int) < countL rows gs ∧ (j + 1 < M → ((f + j + 1 : Nat) : Int) ∈ besL rows gs ((f + j : Nat) : Int))) :
    ∃ s, s ≤ f ∧ bestL rows gs tk M = (seatsOf s M, 0) ∧ ∀ i, 0 < i → i < M → ((s + i : Nat) : Int) ∈ besL rows gs ((s + (i - 1) : Nat) : Int) := by
  have hcr := countL_rng rows gs
  have hf := (h (M - 1) (by omega)).2.1
  have hw : Win gs tk (countL rows gs).toNat M f := by
    refine ⟨by omega, fun j hj hj' => ?_⟩
    obtain ⟨a1, a2, _⟩ := h (j - f) (by omega)
    rw [show f + (j - f) = j by omega] at a1
    refine ⟨a1, fun hlt => ?_⟩
    have a3 := (h (j - 1 - f) (by omega)).2.2 (by omega)
    rw [show f + (j - 1 - f) + 1 = j by omega, show f + (j - 1 - f) = j - 1 by omega] at a3
    obtain ⟨_, _, ⟨e, _⟩ | ⟨e, e2⟩⟩ := mem_besL.1 a3
    · omega
    · rw [show ((j - 1 : Nat) : Int) + 1 = j by omega] at e2
      rw [show (j : Int) - 1 = ((j - 1 : Nat) : Int) by omega]
      exact e2.symm
  obtain ⟨s, h1, h2⟩ := win_first hw
  have hbad : ¬ ((M : Int) < 1 ∨ countL rows gs < M) := by
    have := hw.1
    omega
  refine ⟨s, h1, ?_, fun i hi hi' => ?_⟩
  · have := bestL_win (rows := rows) (gs := gs) (tk := tk) (m := (M : Int)) hbad (s := s) (by rw [Int.toNat_natCast]; exact h2)
    rw [Int.toNat_natCast] at this
    exact this
  · have h3 := h2.1.1
    obtain ⟨_, h4⟩ := h2.1.2 (s + i) (by omega) (by omega)
    have h5 := h4 (by omega)
    refine mem_besL.2 ⟨⟨by omega, by omega⟩, ⟨by omega, by omega⟩, .inr ⟨by omega, ?_⟩⟩
    rw [show (((s + (i - 1) : Nat) : Int)) = ((s + i : Nat) : Int) - 1 by omega, show ((s + i : Nat) : Int) - 1 + 1 = ((s + i : Nat) : Int) by omega]
    exact h5.symm

set_option maxRecDepth 100000 in
set_option maxHeartbeats 8000000 in
theorem stog_s (rows : Int) (a : Option Addr) (gs : List Int) (cap : Nat) (ta : Option Addr) (tk : List Int) (tc : Nat) (x0 x1 : Int) (w : World) (hg : GsAt w a gs) (hlm : gs.length ≤ maxLen) (ht : GsAt w ta tk) (htm : tk.length ≤ maxLen) :
    Calls Tryd.prog 8 #[.agg #[.int .i64 rows, .slice a gs.length cap], .slice ta tk.length tc, .agg #[.int .i64 x0, .int .i64 x1]] w fun e w' => e = .returned (.bool true) ∧ Below w.heap.size w w' := by
  have hlm' : (gs.length : Int) ≤ 9223372036854775807 := by unfold maxLen at hlm; omega
  have htm' : (tk.length : Int) ≤ 9223372036854775807 := by unfold maxLen at htm; omega
  have hb1 := bl_alloc (bl_alloc (Below.refl w.heap.size w) (.cells #[.int .i64 rows, .slice a gs.length cap] 24)) (.cells #[.int .i64 x0, .int .i64 x1] 42)
  have HB := Lib.hid hb1
  have HG := Lib.hid (hg.keep hb1)
  have HT := Lib.hid (ht.keep hb1)
  have hblk : ((w.alloc (.cells #[.int .i64 rows, .slice a gs.length cap] 24)).alloc (.cells #[.int .i64 x0, .int .i64 x1] 42)).heap[w.heap.size]? = some (.cells #[.int .i64 rows, .slice a gs.length cap] 24) := blk_alloc (blk_new w _ rfl) _
  obtain ⟨w0, hw0⟩ : ∃ w0, w0 = (w.alloc (.cells #[.int .i64 rows, .slice a gs.length cap] 24)).alloc (.cells #[.int .i64 x0, .int .i64 x1] 42) := ⟨_, rfl⟩
  have HW0 := Lib.hid hw0
  rw [← hw0] at HB HG HT hblk
  have q0 : ∀ w', Below w0.heap.size w0 w' → w'.cell? ⟨w.heap.size, 0, none⟩ = some (.int .i64 rows) := fun w' h => blk_cell (blk_below hblk h (blk_lt hblk)) 0
  have q1 : ∀ w', Below w0.heap.size w0 w' → w'.cell? ⟨w.heap.size, 1, none⟩ = some (.slice a gs.length cap) := fun w' h => blk_cell (blk_below hblk h (blk_lt hblk)) 1
  have hb := Below.refl w0.heap.size w0
  clear hg ht hb1 hw0 hblk
  by_cases hl : (1000 : Int) < gs.length
  · go_enter Tryd.func8, Tryd.ntmps8
    go_wp2_with fail
    rw [← HW0.out]
    refine (awake_s _).mono ?_; rintro e w1 ⟨rfl, hb2⟩
    replace hb := bl_trans hb hb2; clear hb2
    go_wp2_with fail
    go_ret
    exact ⟨rfl, bl_trans HB.out hb⟩
  by_cases hl2 : (2000 : Int) < tk.length
  · go_enter Tryd.func8, Tryd.ntmps8
    go_wp2_with fail
    rw [← HW0.out]
    refine (awake_s _).mono ?_; rintro e w1 ⟨rfl, hb2⟩
    replace hb := bl_trans hb hb2; clear hb2
    go_wp2_with fail
    go_ret
    exact ⟨rfl, bl_trans HB.out hb⟩
  by_cases h3 : x0 < 0
  · go_enter Tryd.func8, Tryd.ntmps8
    go_wp2_with fail
    rw [← HW0.out]
    refine (awake_s _).mono ?_; rintro e w1 ⟨rfl, hb2⟩
    replace hb := bl_trans hb hb2; clear hb2
    go_wp2_with fail
    go_ret
    exact ⟨rfl, bl_trans HB.out hb⟩
  by_cases h4 : 600 < x0
  · go_enter Tryd.func8, Tryd.ntmps8
    go_wp2_with fail
    rw [← HW0.out]
    refine (awake_s _).mono ?_; rintro e w1 ⟨rfl, hb2⟩
    replace hb := bl_trans hb hb2; clear hb2
    go_wp2_with fail
    go_ret
    exact ⟨rfl, bl_trans HB.out hb⟩
  by_cases h5 : x1 < 1
  · go_enter Tryd.func8, Tryd.ntmps8
    go_wp2_with fail
    rw [← HW0.out]
    refine (awake_s _).mono ?_; rintro e w1 ⟨rfl, hb2⟩
    replace hb := bl_trans hb hb2; clear hb2
    go_wp2_with fail
    go_ret
    exact ⟨rfl, bl_trans HB.out hb⟩
  by_cases h6 : 10 < x1
  · go_enter Tryd.func8, Tryd.ntmps8
    go_wp2_with fail
    rw [← HW0.out]
    refine (awake_s _).mono ?_; rintro e w1 ⟨rfl, hb2⟩
    replace hb := bl_trans hb hb2; clear hb2
    go_wp2_with fail
    go_ret
    exact ⟨rfl, bl_trans HB.out hb⟩
  obtain ⟨f, rfl⟩ : ∃ f : Nat, x0 = f := ⟨x0.toNat, by omega⟩
  obtain ⟨M, rfl⟩ : ∃ M : Nat, x1 = M := ⟨x1.toNat, by omega⟩
  have g1 : decide ((f : Int) < 0) = false := by simp
  have g2 : decide (600 < f) = false := by simp; omega
  have g3 : decide ((600 : Int) < (f : Int)) = false := by simp; omega
  have g4 : decide ((M : Int) < 1) = false := by simp; omega
  have g5 : decide (M < 1) = false := by simp; omega
  have g6 : decide ((10 : Int) < (M : Int)) = false := by simp; omega
  have g7 : decide (10 < M) = false := by simp; omega
  have hf : f ≤ 600 := by omega
  have hM1 : 1 ≤ M := by omega
  have hM2 : M ≤ 10 := by omega
  have HHA := Lib.hid (fun (x : Int) (W : World) (h : Below w0.heap.size w0 W) => has_any ta tk tc x W (HT.out.keep h) htm)
  have HC := Lib.hid (fun (W : World) (h : Below w0.heap.size w0 W) => count_any rows a gs cap W (HG.out.keep h) hlm)
  have HBS := Lib.hid (fun (x : Int) (W : World) (h : Below w0.heap.size w0 W) => beside_any rows a gs cap x W (HG.out.keep h) hlm)
  have HBA := Lib.hid (fun (W : World) (h : Below w0.heap.size w0 W) => best_any rows a gs cap ta tk tc M W (HG.out.keep h) hlm (HT.out.keep h) htm)
  have HTG := Lib.hid (fun h => together (rows := rows) (gs := gs) (tk := tk) (f := f) hM1 h)
  obtain ⟨N, hN⟩ : ∃ N, N = countL rows gs := ⟨_, rfl⟩
  rw [← hN] at HC HTG
  clear hN
  go_enter Tryd.func8, Tryd.ntmps8
  go_wp2_with fail
  rw [← HW0.out]
  refine (awake_s _).mono ?_; rintro e w1 ⟨rfl, hb2⟩
  replace hb := bl_trans hb hb2; clear hb2
  go_wp2_with fail
  go_loopg [10] M (fun g i wr => Below w0.heap.size w0 wr ∧ ∃ k : Nat, k ≤ M ∧ g = M - k ∧ i = .int .i64 k ∧ ∀ j, j < k → ¬ ((f + j : Nat) : Int) ∈ tk ∧ ((f + j : Nat) : Int) < N ∧ (j + 1 < M → ((f + j + 1 : Nat) : Int) ∈ besL rows gs ((f + j : Nat) : Int)))
  case atStart => exact ⟨hb, 0, by omega, by omega, rfl, fun j hj => by omega⟩
  case round =>
    clear hb
    obtain ⟨hb, k, k0, hgk, rfl, hsf⟩ := hrel
    have HGK := Lib.hid hgk
    have HSF := Lib.hid hsf
    clear hgk hsf
    by_cases hk : k < M
    · have hw1 : IntKind.i64.wrap ((f : Int) + k) = ((f + k : Nat) : Int) := by rw [Int.natCast_add]; exact IntWalk.i64_in _ (by omega)
      have hw2 : IntKind.i64.wrap (((f + k : Nat) : Int) + 1) = ((f + k + 1 : Nat) : Int) := by rw [show ((f + k + 1 : Nat) : Int) = ((f + k : Nat) : Int) + 1 by omega]; exact IntWalk.i64_in _ (by omega)
      have hw3 : IntKind.i64.wrap ((M : Int) - 1) = (M : Int) - 1 := IntWalk.i64_in _ (by omega)
      have HH := Lib.hid (HHA.out ((f + k : Nat) : Int))
      have hk1 : (k : Int) < M := by omega
      have hk2 : (0 : Int) ≤ (k : Int) := by omega
      have HK := Lib.hid hk
      obtain ⟨z, hz⟩ : ∃ z : Nat, z = f + k := ⟨_, rfl⟩
      rw [← hz] at hw1 hw2 HH
      have hz0 : (f : Int) + k = (z : Int) := by omega
      obtain ⟨Z1, hZ1⟩ : ∃ Z1 : Int, Z1 = ((z + 1 : Nat) : Int) := ⟨_, rfl⟩
      have hz1 : (z : Int) + 1 = Z1 := by omega
      rw [← hZ1] at hw2
      have HZ1 := Lib.hid hZ1
      clear hZ1
      have hzb : z ≤ 700 := by omega
      have hzc : (z : Int) ≤ 700 := by omega
      have HZ := Lib.hid hz
      clear hz
      by_cases hA : (z : Int) ∈ tk
      · rw [decide_eq_true hA] at HH
        go_wp2_with fail
        refine (HH.out _ hb).mono ?_; rintro e w3 ⟨rfl, rfl⟩
        go_wp2_with fail
        go_ret
        exact ⟨by simp, bl_trans HB.out hb⟩
      rw [decide_eq_false hA] at HH
      by_cases hN1 : N ≤ (z : Int)
      · have hN1d : decide (N ≤ (z : Int)) = true := by simpa using hN1
        go_wp2_with fail
        refine (HH.out _ hb).mono ?_; rintro e w3 ⟨rfl, rfl⟩
        go_wp2_with fail
        refine (HC.out _ hb).mono ?_; rintro e w4 ⟨rfl, hb2⟩
        replace hb := bl_trans hb hb2; clear hb2
        go_wp2_with fail
        go_wp2_with fail
        go_ret
        exact ⟨by simp, bl_trans HB.out hb⟩
      have hN1d : decide (N ≤ (z : Int)) = false := by simpa using hN1
      obtain ⟨bs, hbs⟩ : ∃ bs, bs = besL rows gs (z : Int) := ⟨_, rfl⟩
      have HBZ := Lib.hid (fun (W : World) (h : Below w0.heap.size w0 W) => HBS.out (z : Int) W h)
      rw [← hbs] at HBZ
      have hml : bs.length ≤ maxLen := by rw [hbs]; have := besL_len rows gs z; unfold maxLen; omega
      have HEB := Lib.hid hbs
      clear hbs
      go_wp2_with fail
      refine (HH.out _ hb).mono ?_; rintro e w3 ⟨rfl, rfl⟩
      go_wp2_with fail
      refine (HC.out _ hb).mono ?_; rintro e w4 ⟨rfl, hb2⟩
      replace hb := bl_trans hb hb2; clear hb2
      go_wp2_with fail
      go_wp2_with fail
      refine (HBZ.out _ hb).mono ?_; rintro e w5 ⟨ad1, c1, rfl, hg1, hb2⟩
      replace hb := bl_trans hb hb2; clear hb2
      have hg0 := hg1
      go_wp2_with fail
      refine (has_any ad1 bs c1 Z1 _ hg0 hml).mono ?_; rintro e w6 ⟨rfl, rfl⟩
      clear hg0 hg1
      by_cases hk3 : k + 1 < M
      · have hk4 : (k : Int) < (M : Int) - 1 := by omega
        by_cases hm : Z1 ∈ bs
        · rw [decide_eq_true hm]
          go_wp2_with fail
          go_roundg (M - (k + 1))
          case measure => have := HGK.out; omega
          case rel =>
            refine ⟨hb, k + 1, by omega, rfl, by go_num, fun j hj => ?_⟩
            rcases Nat.lt_or_ge j k with h | h
            · exact HSF.out j h
            · obtain rfl : j = k := by omega
              rw [← HZ.out, ← HEB.out]
              exact ⟨hA, by omega, fun _ => by rw [← HZ1.out]; exact hm⟩
        · rw [decide_eq_false hm]
          go_wp2_with fail
          go_ret
          exact ⟨by simp, bl_trans HB.out hb⟩
      · have hk4 : ¬ (k : Int) < (M : Int) - 1 := by omega
        obtain ⟨bb, hbb⟩ : ∃ bb, bb = decide (Z1 ∈ bs) := ⟨_, rfl⟩
        rw [← hbb]
        clear hbb
        go_wp2_with fail
        go_roundg (M - (k + 1))
        case measure => have := HGK.out; omega
        case rel =>
          refine ⟨hb, k + 1, by omega, rfl, by go_num, fun j hj => ?_⟩
          rcases Nat.lt_or_ge j k with h | h
          · exact HSF.out j h
          · obtain rfl : j = k := by omega
            rw [← HZ.out]
            exact ⟨hA, by omega, fun h => absurd h hk3⟩
    · obtain rfl : k = M := by omega
      obtain ⟨s, hs1, hs2, hs3⟩ := HTG.out HSF.out
      have HS3 := Lib.hid hs3
      rw [hs2] at HBA
      have hsl : (seatsOf s k).length = k := by simp [seatsOf]
      obtain ⟨X, hX⟩ : ∃ X, X = seatsOf s k := ⟨_, rfl⟩
      rw [← hX] at HBA hsl
      have HSX := Lib.hid hX
      have HSL := Lib.hid hsl
      clear hX hs2 hs3 HTG HSF
      have e1 : ((X.length : Int) != (k : Int)) = false := by simp [hsl]
      have e2 : (X.length != k) = false := by simp [hsl]
      go_wp2_with fail
      refine (HBA.out _ hb).mono ?_; rintro e w2 ⟨ad1, c1, rfl, hg1, hb2⟩
      have HG1 := Lib.hid hg1
      replace hb := bl_trans hb hb2; clear hb2 hg1
      have HB2 := Lib.hid hb
      have q0' := fun w' (h : Below w2.heap.size w2 w') => q0 w' (bl_trans HB2.out h)
      have q1' := fun w' (h : Below w2.heap.size w2 w') => q1 w' (bl_trans HB2.out h)
      clear q0 q1 hb
      go_wp2_with fail
      go_loopg [15] (k - 1) (fun g i wr => Below w2.heap.size w2 wr ∧ ∃ j : Nat, 1 ≤ j ∧ j ≤ k ∧ g = k - j ∧ i = .int .i64 j)
      case atStart => exact ⟨Below.refl _ _, 1, by omega, by omega, rfl, rfl⟩
      case round =>
        obtain ⟨hb, j, hj1, hj2, hgj, rfl⟩ := hrel
        have HGJ := Lib.hid hgj
        clear hgj
        by_cases hj : j < k
        · obtain ⟨b1, o1, rfl, hc⟩ := HG1.out j (by have := HSL.out; omega)
          obtain ⟨b2, o2, e2', hc2⟩ := HG1.out (j - 1) (by have := HSL.out; omega)
          obtain ⟨rfl, rfl⟩ : b1 = b2 ∧ o1 = o2 := by simpa using e2'
          rw [HSX.out, seatsOf_get hj] at hc
          rw [HSX.out, seatsOf_get (show j - 1 < k by omega)] at hc2
          have q8 : ∀ w', Below w2.heap.size w2 w' → w'.cell? ⟨b1, o1 + j, none⟩ = some (.int .i64 ((s + j : Nat) : Int)) := fun w' h => cell_keep h hc
          have q9 : ∀ w', Below w2.heap.size w2 w' → w'.cell? ⟨b1, o1 + (j - 1), none⟩ = some (.int .i64 ((s + (j - 1) : Nat) : Int)) := fun w' h => cell_keep h hc2
          have hin := HS3.out j (by omega) hj
          obtain ⟨y, hy⟩ : ∃ y, y = ((s + j : Nat) : Int) := ⟨_, rfl⟩
          obtain ⟨z, hz⟩ : ∃ z, z = ((s + (j - 1) : Nat) : Int) := ⟨_, rfl⟩
          rw [← hy] at q8 hin
          rw [← hz] at q9 hin
          obtain ⟨bs, hbs⟩ : ∃ bs, bs = besL rows gs z := ⟨_, rfl⟩
          have HBZ := Lib.hid (fun (W : World) (h : Below w0.heap.size w0 W) => HBS.out z W h)
          have hml : bs.length ≤ maxLen := by rw [hbs]; have := besL_len rows gs z; unfold maxLen; omega
          rw [← hbs] at HBZ hin
          clear hc hc2 e2' hy hz hbs
          have hj3 : (j : Int) < (k : Int) := by omega
          have hj4 : (0 : Int) ≤ (j : Int) - 1 := by omega
          have hj5 : (0 : Int) ≤ (j : Int) := by omega
          have hj6 : (j : Int) - 1 < X.length := by have := HSL.out; omega
          have hj7 : (j : Int) < X.length := by have := HSL.out; omega
          have hwr : IntKind.i64.wrap ((j : Int) - 1) = (j : Int) - 1 := IntWalk.i64_in _ (by omega)
          have hwn : ((j : Int) - 1).toNat = j - 1 := by omega
          have HH := Lib.hid (fun (W : World) (ad : Option Addr) (cc : Nat) (h : GsAt W ad bs) => has_any ad bs cc y W h hml)
          rw [decide_eq_true hin] at HH
          clear hin hml e1 e2
          go_wp2_with fail
          refine wp_region_in (Below w2.heap.size w2) (fun i => i == 6 || i == 11) (by kernel_rfl) (by kernel_rfl) (by exact hb.drew) ?_
          intro hne hx
          replace hb := hb.drew
          refine stg_seg 6 (by dsimp only [List.take]) (by dsimp only [List.drop]) (by rfl) ?_
          repeat (go_big_quiet_step (fail))
          refine wpQuiet_nil ?_
          refine stg_loud (by rfl) ?_
          go_wp2_with fail
          refine (HBZ.out _ (bl_trans HB2.out hb)).mono ?_; rintro e w5 ⟨ad2, c2, rfl, hg2, hb2⟩
          replace hb := bl_trans hb hb2; clear hb2
          have HG2 := Lib.hid hg2
          clear hg2
          go_wp2_with fail
          refine lq_in rfl (hb) ?_
          refine stg_seg 4 (by dsimp only [List.take]) (by dsimp only [List.drop]) (by rfl) ?_
          repeat (go_big_quiet_step (fail))
          refine wpQuiet_nil ?_
          refine stg_loud (by rfl) ?_
          go_wp2_with fail
          refine (HH.out _ _ _ HG2.out).mono ?_; rintro e w6 ⟨rfl, rfl⟩
          go_wp2_with fail
          refine lq_in rfl (hb) ?_
          refine stg_seg 1 (by dsimp only [List.take]) (by dsimp only [List.drop]) (by rfl) ?_
          repeat (go_big_quiet_step (fail))
          refine wpQuiet_nil ?_
          refine stg_nil ?_
          clear hne hx
          go_wp2_with fail
          go_roundg (k - (j + 1))
          case measure => have := HGJ.out; omega
          case rel => exact ⟨hb, j + 1, by omega, by omega, rfl, by go_num⟩
        · obtain rfl : j = k := by omega
          obtain ⟨b1, o1, rfl, hc⟩ := HG1.out 0 (by have := HSL.out; omega)
          rw [HSX.out, seatsOf_get (show 0 < j by omega)] at hc
          have q8 : ∀ w', Below w2.heap.size w2 w' → w'.cell? ⟨b1, o1 + 0, none⟩ = some (.int .i64 ((s + 0 : Nat) : Int)) := fun w' h => cell_keep h hc
          simp only [Nat.add_zero] at q8
          have hs1' : (s : Int) ≤ (f : Int) := by omega
          have hl0 : 0 < X.length := by have := HSL.out; omega
          have hl0' : (0 : Int) < X.length := by omega
          clear hc e1 e2
          go_wp2_with fail
          go_ret
          exact ⟨by simp [hs1], bl_trans HB.out (bl_trans HB2.out hb)⟩

theorem stog_row (p : Lay) (q : Ints) (r : Int × Int) (w : World) (h : GsAt w p.ad p.gs ∧ p.gs.length ≤ maxLen) (h2 : GsAt w q.ad q.xs ∧ q.xs.length ≤ maxLen) (_ : (Lit.int .i64 r.1).wf = true ∧ (Lit.int .i64 r.2).wf = true) :
    Calls Tryd.prog 8 #[.agg #[.int .i64 p.rows, .slice p.ad p.gs.length p.cap], .slice q.ad q.xs.length q.cap, .agg #[.int .i64 r.1, .int .i64 r.2]] w fun e w' => e = .returned (.bool true) ∧ Below w.heap.size w w' :=
  stog_s p.rows p.ad p.gs p.cap q.ad q.xs q.cap r.1 r.2 w h.1 h.2 h2.1 h2.2
end Go.Proofs.YtndagalglenbnaaDoor
