/- What jetwayref16.Read comes to: the same as locator.Read. Conditions: none. -/
import Derived.Test.YthljeclddlcidaaLocRef
import Derived.Test.YthljeclddlcidaaLocRead
namespace Go.Proofs.Ythljeclddlcidaa
open Go.RowKit _root_.Go.Proofs.Ythljeclddlcidaa.Loc

set_option maxRecDepth 100000 in
set_option maxHeartbeats 1000000 in
theorem worth_any (b : UInt8) (w : World) : Calls Try.prog 17 #[.int .u8 b.toNat] w fun e w' => e = .returned (.int .i64 (wvB b)) ∧ w = w' := by
  go_enter Try.func17, Try.ntmps17
  go_wp2
  go_loopg [3] 31 (fun g i wr => w = wr ∧ ∃ k : Nat, k ≤ 31 ∧ g = 31 - k ∧ i = .int .i64 k ∧ ∀ j : Nat, j < k → sgB (j : Int) ≠ b)
  case atStart => exact ⟨rfl, 0, by omega, rfl, rfl, fun j hj => by omega⟩
  case round =>
    obtain ⟨rfl, k, k0, hg, rfl, hno⟩ := hrel
    have HG := Lib.hid hg
    have HN := Lib.hid hno
    clear hg hno
    by_cases hk : k < 31
    · by_cases hb : sgB (k : Int) = b
      · have he : (sg (k : Int) == (b.toNat : Int)) = true := by rw [beq_iff_eq]; unfold sg; rw [hb]
        have hw : wvB b = k := by rw [← hb]; exact wvB_sgB k hk
        have HW := Lib.hid hw
        clear hb hw
        go_wp2_with (first | (refine wpList_index rfl 9 _ _ rfl _ (idx_sign _ (by omega) (by omega) _) ?_) | fail)
        go_ret
        exact ⟨ret_int HW.out.symm, rfl⟩
      · have he : (sg (k : Int) == (b.toNat : Int)) = false := by
          rw [beq_eq_false_iff_ne]; unfold sg; intro h
          exact hb (UInt8.toNat_inj.1 (by omega))
        have HB := Lib.hid hb
        clear hb
        go_wp2_with (first | (refine wpList_index rfl 9 _ _ rfl _ (idx_sign _ (by omega) (by omega) _) ?_) | fail)
        go_roundg (31 - (k + 1))
        case measure => have := HG.out; omega
        case rel =>
          refine ⟨rfl, k + 1, by omega, rfl, by go_num, fun j hj => ?_⟩
          by_cases e : j = k
          · rw [e]; exact HB.out
          · exact HN.out j (by omega)
    · have hw : wvB b = -1 := by
        have h := wvB_all b
        by_cases e : 0 ≤ wvB b
        · have h3 := (h.2.2 e).1
          obtain ⟨m, hm⟩ := Int.eq_ofNat_of_zero_le e
          rw [hm] at h3
          exact absurd h3 (HN.out m (by omega))
        · omega
      have HW := Lib.hid hw
      clear hw
      go_wp2
      go_ret
      exact ⟨ret_int HW.out.symm, rfl⟩

set_option maxRecDepth 100000 in
theorem refread_short (s : ByteArray) (w : World) (h : s.size ≠ 6) (hs : s.size ≤ maxLen) :
    Calls Try.prog 13 #[.string s] w fun e w' => e = .returned (.tuple #[.int .i64 0, .int .i64 6]) ∧ w = w' := by
  unfold maxLen at hs
  have hb : ((s.size : Int) == 6) = false := by rw [beq_eq_false_iff_ne]; omega
  have hb' : ((s.size : Int) != 6) = true := by simp [bne, hb]
  go_enter Try.func13, Try.ntmps13
  go_wp2
  go_ret2
  exact ⟨rfl, rfl⟩

/-- The array of worths after k rounds. -/
def wcell (s : ByteArray) (k j : Nat) : Value := .int .i64 (if j < k then wk s j else 0)

set_option maxRecDepth 100000 in
set_option maxHeartbeats 2000000 in
theorem refread_long (s : ByteArray) (w : World) (h6 : s.size = 6) :
    Calls Try.prog 13 #[.string s] w fun e w' => e = .returned (.tuple #[.int .i64 (rdN s), .int .i64 (rdE s)]) ∧ Below w.heap.size w w' := by
  have H6 := Lib.hid h6
  have hb : ((s.size : Int) == 6) = true := by rw [beq_iff_eq]; omega
  have hb' : ((s.size : Int) != 6) = false := by simp [bne, hb]
  clear h6
  go_enter Try.func13, Try.ntmps13
  go_wp2
  clear hb hb'
  go_loopg [5, 6] 6 (fun g n i wr => ∃ k : Nat, k ≤ 6 ∧ g = 6 - k ∧ okTo s k ∧ i = .int .i64 k ∧ n = .int .i64 (valTo s (min k 5)) ∧
    wr.heap[w.heap.size]? = some (.cells #[wcell s k 0, wcell s k 1, wcell s k 2, wcell s k 3, wcell s k 4, wcell s k 5] 38 (0, 0)) ∧ Below w.heap.size w wr)
  case atStart => exact ⟨0, by omega, rfl, fun j hj => by omega, rfl, rfl, by simpa [wcell] using blk_new w _ rfl, bl_alloc (Below.refl _ _) _⟩
  case round =>
    obtain ⟨k, k0, hg, hok, rfl, rfl, hblk, hbel⟩ := hrel
    have HG := Lib.hid hg
    have HB := Lib.hid hblk
    have HK := Lib.hid hok
    clear hg hblk hok
    by_cases hk : k < 6
    · have hks : k < s.size := by rw [H6.out]; exact hk
      have hbt := bt_get s k hks
      have HT := Lib.hid hbt
      have hlt := blk_lt HB.out
      have hcell : wr.cell? ⟨w.heap.size, k, none⟩ = some (.int .i64 0) := by
        rw [blk_cell HB.out]
        have hk' : k = 0 ∨ k = 1 ∨ k = 2 ∨ k = 3 ∨ k = 4 ∨ k = 5 := by omega
        rcases hk' with rfl | rfl | rfl | rfl | rfl | rfl <;> simp [wcell]
      have hfr := blk_frozen HB.out k
      obtain ⟨d, hd⟩ : ∃ d, d = wk s k := ⟨_, rfl⟩
      have hdr : -1 ≤ d ∧ d < 31 := by rw [hd]; exact wk_rng s k
      have hix : ∀ w, Calls Try.prog 17 #[.int .u8 (bt s k).toNat] w fun e w' => e = .returned (.int .i64 d) ∧ w = w' := by intro w; rw [hd]; exact worth_any _ _
      have HX := Lib.hid hix
      have HD := Lib.hid hd
      clear hd hix
      by_cases hneg : d < 0
      · have hbad : ¬ good s := bad_at (k := k) (by omega) (by rw [← HD.out]; exact hneg)
        go_wp2_with (go_at_call 17; refine (HX.out _).mono ?_; rintro e w' ⟨rfl, rfl⟩)
        go_ret2
        exact ⟨ret2_int (rd_bad hbad).2.symm (rd_bad hbad).1.symm, bl_set hbel (Nat.le_refl _) _⟩
      · have hd0 : 0 ≤ d := by omega
        clear hneg
        have hset : (#[wcell s k 0, wcell s k 1, wcell s k 2, wcell s k 3, wcell s k 4, wcell s k 5] : Array Value).setIfInBounds k (.int .i64 d) = #[wcell s (k + 1) 0, wcell s (k + 1) 1, wcell s (k + 1) 2, wcell s (k + 1) 3, wcell s (k + 1) 4, wcell s (k + 1) 5] := by
          rw [HD.out]
          have hk' : k = 0 ∨ k = 1 ∨ k = 2 ∨ k = 3 ∨ k = 4 ∨ k = 5 := by omega
          rcases hk' with rfl | rfl | rfl | rfl | rfl | rfl <;> simp [wcell]
        have HSET := Lib.hid hset
        clear hset
        by_cases hk5 : k = 5
        · subst hk5
          have hmin : min 5 5 = 5 := rfl
          rw [hmin]
          clear hmin
          go_wp2_with (go_at_call 17; refine (HX.out _).mono ?_; rintro e w' ⟨rfl, rfl⟩)
          go_roundg 0
          case measure => have := HG.out; omega
          case rel =>
            exact ⟨6, by omega, rfl, okTo_succ HK.out (by rw [← HD.out]; exact hd0), rfl, rfl, by rw [← HSET.out]; exact blk_set HB.out 5 _, bl_set hbel (Nat.le_refl _) _⟩
        · have hmin : min k 5 = k := by omega
          rw [hmin]
          clear hmin
          have hvr := valTo_rng HK.out
          have hp : (31 : Int) ^ k ≤ 31 ^ 4 := by
            have hk4 : k = 0 ∨ k = 1 ∨ k = 2 ∨ k = 3 ∨ k = 4 := by omega
            rcases hk4 with h | h | h | h | h <;> rw [h] <;> decide
          have hv1 : valTo s k < 923521 := by have := hvr.2; omega
          have hv0 := hvr.1
          clear hvr hp
          go_wp2_with (go_at_call 17; refine (HX.out _).mono ?_; rintro e w' ⟨rfl, rfl⟩)
          go_roundg (6 - (k + 1))
          case measure => have := HG.out; omega
          case rel =>
            have hm1 : min (k + 1) 5 = k + 1 := by omega
            have e1 : valTo s (k + 1) = valTo s k * 31 + d := by rw [HD.out]; rfl
            exact ⟨k + 1, by omega, rfl, okTo_succ HK.out (by rw [← HD.out]; exact hd0), by go_num, by rw [hm1, e1], by rw [← HSET.out]; exact blk_set HB.out k _, bl_set hbel (Nat.le_refl _) _⟩
    · obtain rfl : k = 6 := by omega
      have hmin : min 6 5 = 5 := rfl
      rw [hmin]
      clear hmin
      have q : ∀ j, j < 6 → 0 ≤ wk s j ∧ wk s j < 31 := fun j hj => ⟨HK.out j hj, (wk_rng s j).2⟩
      have hbk : wr.heap[w.heap.size]? = some (.cells #[.int .i64 (wk s 0), .int .i64 (wk s 1), .int .i64 (wk s 2), .int .i64 (wk s 3), .int .i64 (wk s 4), .int .i64 (wk s 5)] 38 (0, 0)) := HB.out
      have q0 : wr.cell? ⟨w.heap.size, 0, none⟩ = some (.int .i64 (wk s 0)) := blk_cell hbk 0
      have q1 : wr.cell? ⟨w.heap.size, 1, none⟩ = some (.int .i64 (wk s 1)) := blk_cell hbk 1
      have q2 : wr.cell? ⟨w.heap.size, 2, none⟩ = some (.int .i64 (wk s 2)) := blk_cell hbk 2
      have q3 : wr.cell? ⟨w.heap.size, 3, none⟩ = some (.int .i64 (wk s 3)) := blk_cell hbk 3
      have q4 : wr.cell? ⟨w.heap.size, 4, none⟩ = some (.int .i64 (wk s 4)) := blk_cell hbk 4
      have q5 : wr.cell? ⟨w.heap.size, 5, none⟩ = some (.int .i64 (wk s 5)) := blk_cell hbk 5
      have b0 := q 0 (by omega)
      have b1 := q 1 (by omega)
      have b2 := q 2 (by omega)
      have b3 := q 3 (by omega)
      have b4 := q 4 (by omega)
      have b5 := q 5 (by omega)
      have hsum := sum_mod s
      have HSUM := Lib.hid hsum
      clear hbk q hsum
      by_cases hz : (2 * wk s 0 + 3 * wk s 1 + 4 * wk s 2 + 5 * wk s 3 + 6 * wk s 4 + wk s 5) % 31 = 0
      · have hg : good s := good_at H6.out HK.out (by rw [← HSUM.out]; exact hz)
        have hz1 : ((2 * wk s 0 + 3 * wk s 1 + 4 * wk s 2 + 5 * wk s 3 + 6 * wk s 4 + wk s 5) % 31 == 0) = true := by rw [beq_iff_eq]; exact hz
        have hz2 : ((2 * wk s 0 + 3 * wk s 1 + 4 * wk s 2 + 5 * wk s 3 + 6 * wk s 4 + wk s 5) % 31 != 0) = false := by simp [bne, hz1]
        clear hz
        go_wp2_with (go_at_call 15; refine (refsum_any _ _ _ _ _ _ _ b0 b1 b2 b3 b4 b5).mono ?_; rintro e w' ⟨rfl, rfl⟩)
        go_ret2
        exact ⟨ret2_int (rd_good hg).2.symm (rd_good hg).1.symm, bl_alloc hbel _⟩
      · have hbad : ¬ good s := fun g => hz (by rw [HSUM.out]; exact g.2.2)
        have hz1 : ((2 * wk s 0 + 3 * wk s 1 + 4 * wk s 2 + 5 * wk s 3 + 6 * wk s 4 + wk s 5) % 31 == 0) = false := by rw [beq_eq_false_iff_ne]; exact hz
        have hz2 : ((2 * wk s 0 + 3 * wk s 1 + 4 * wk s 2 + 5 * wk s 3 + 6 * wk s 4 + wk s 5) % 31 != 0) = true := by simp [bne, hz1]
        clear hz
        go_wp2_with (go_at_call 15; refine (refsum_any _ _ _ _ _ _ _ b0 b1 b2 b3 b4 b5).mono ?_; rintro e w' ⟨rfl, rfl⟩)
        go_ret2
        exact ⟨ret2_int (rd_bad hbad).2.symm (rd_bad hbad).1.symm, bl_alloc hbel _⟩
end Go.Proofs.Ythljeclddlcidaa
