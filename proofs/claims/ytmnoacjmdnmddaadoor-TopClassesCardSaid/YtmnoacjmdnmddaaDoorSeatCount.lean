/- What seat.Count and seat.has come to. Conditions: none. -/
import Derived.Test.YtmnoacjmdnmddaaDoorSeatBase
namespace Go.Proofs.YtmnoacjmdnmddaaDoor
open Go.RowKit

theorem bl_undrew {B : Nat} {w w' : World} (h : Below B w.drew w') : Below B w w' := ⟨h.os, h.tape, h.output, h.size, h.block⟩

open Classical in
/-- How many seats. -/
noncomputable def countL (rows : Int) (gs : List Int) : Int := if RightL rows gs then rows * total gs else 0
theorem countL_yes {rows : Int} {gs : List Int} (h : RightL rows gs) : countL rows gs = rows * total gs := by simp [countL, h]
theorem countL_no {rows : Int} {gs : List Int} (h : ¬ RightL rows gs) : countL rows gs = 0 := by simp [countL, h]
theorem countL_rng (rows : Int) (gs : List Int) : 0 ≤ countL rows gs ∧ countL rows gs ≤ 600 := by
  by_cases h : RightL rows gs
  · rw [countL_yes h]
    have ht := h.tot
    have h1 := h.1
    have h2 := h.2.1
    exact ⟨Int.mul_nonneg (by omega) (by omega), Int.le_trans (Int.mul_le_mul h2 ht.2 (by omega) (by omega)) (by decide)⟩
  · rw [countL_no h]; decide

set_option maxHeartbeats 1000000 in
theorem count_any (rows : Int) (a : Option Addr) (gs : List Int) (cap : Nat) (w : World) (hg : GsAt w a gs) (hlm : gs.length ≤ maxLen) :
    Calls Tryd.prog 7 #[.agg #[.int .i64 rows, .slice a gs.length cap]] w fun e w' => e = .returned (.int .i64 (countL rows gs)) ∧ Below w.heap.size w w' := by
  have hb1 := bl_alloc (Below.refl w.heap.size w) (.cells #[.int .i64 rows, .slice a gs.length cap] 24)
  have HB := Lib.hid hb1
  by_cases h : RightL rows gs
  · have HR := Lib.hid (right_yes rows a gs cap _ (hg.keep hb1) h)
    obtain ⟨r1, r2, l1, l2, hok, ht⟩ := id h
    have htt := h.tot
    obtain ⟨T, hT⟩ : ∃ T, T = total gs := ⟨_, rfl⟩
    rw [← hT] at htt
    have hm0 : 0 ≤ rows * T := Int.mul_nonneg (by omega) (by omega)
    have hm1 : rows * T ≤ 600 := Int.le_trans (Int.mul_le_mul r2 htt.2 (by omega) (by omega)) (by decide)
    have hcv : countL rows gs = rows * T := by rw [hT]; exact countL_yes h
    have HV := Lib.hid hcv
    have HG := Lib.hid (hg.keep hb1)
    have HK := Lib.hid hok
    have HT := Lib.hid hT
    clear hg hok hb1 h hcv hT ht
    go_enter Tryd.func7, Tryd.ntmps7
    go_wp2_with fail
    refine HR.out.mono ?_; rintro e w1 ⟨rfl, hb2⟩
    have hblk := blk_below (blk_new w (.cells #[.int .i64 rows, .slice a gs.length cap] 24) rfl) hb2 (by simp)
    have q0 : w1.cell? ⟨w.heap.size, 0, none⟩ = some (.int .i64 rows) := blk_cell hblk 0
    have q1 : w1.cell? ⟨w.heap.size, 1, none⟩ = some (.slice a gs.length cap) := blk_cell hblk 1
    have hlt : w.heap.size < w1.heap.size := blk_lt hblk
    have HG1 := Lib.hid (HG.out.keep hb2)
    have HB2 := Lib.hid (bl_trans HB.out hb2)
    have hwr : IntKind.i64.wrap (rows * T) = rows * T := by exact IntWalk.i64_in _ (by omega)
    clear hblk hb2
    go_wp2
    go_region_held3 (fun w' => w'.cell? ⟨w.heap.size, 0, none⟩ = some (.int .i64 rows) ∧ w'.cell? ⟨w.heap.size, 1, none⟩ = some (.slice a gs.length cap)) (simp [go_sem, *])
      ((go_at_call 23; refine (across_any rows a gs cap _ (by exact HG1.out) l2 HK.out).mono ?_; rw [← HT.out]; rintro e w2 ⟨rfl, hb3⟩; have hcv : ∀ o, w2.cell? ⟨w.heap.size, o, none⟩ = w1.cell? ⟨w.heap.size, o, none⟩ := (fun o => (bl_undrew hb3).cell (p := ⟨w.heap.size, o, none⟩) hlt)))
    go_wp2
    go_ret
    exact ⟨ret_int HV.out.symm, bl_trans HB2.out (bl_undrew hb3)⟩
  · have HR := Lib.hid (right_no rows a gs cap _ (hg.keep hb1) hlm h)
    have HV := Lib.hid (countL_no h)
    clear hg hb1 h
    go_enter Tryd.func7, Tryd.ntmps7
    go_wp2_with (go_at_call 18; refine HR.out.mono ?_; rintro e w1 ⟨rfl, hb2⟩)
    go_ret
    exact ⟨ret_int HV.out.symm, bl_trans HB.out hb2⟩

/-- Is there the seat n? -/
def hasL (rows : Int) (gs : List Int) (n : Int) : Prop := 0 ≤ n ∧ n < countL rows gs
theorem hasL.right {rows : Int} {gs : List Int} {n : Int} (h : hasL rows gs n) : RightL rows gs := by
  by_cases k : RightL rows gs
  · exact k
  · have := h.2; rw [countL_no k] at this; have := h.1; omega

theorem has_y (rows : Int) (a : Option Addr) (gs : List Int) (cap : Nat) (n : Int) (w : World) (hg : GsAt w a gs) (hlm : gs.length ≤ maxLen) (h : hasL rows gs n) :
    Calls Tryd.prog 41 #[.agg #[.int .i64 rows, .slice a gs.length cap], .int .i64 n] w fun e w' => e = .returned (.bool true) ∧ Below w.heap.size w w' := by
  obtain ⟨h1, h2⟩ := h
  have hb1 := bl_alloc (Below.refl w.heap.size w) (.cells #[.int .i64 rows, .slice a gs.length cap] 24)
  have HB := Lib.hid hb1
  have HC := Lib.hid (count_any rows a gs cap _ (hg.keep hb1) hlm)
  clear hg hb1
  go_enter Tryd.func41, Tryd.ntmps41
  go_wp2_with (go_at_call 7; refine HC.out.mono ?_; rintro e w1 ⟨rfl, hb2⟩)
  go_ret
  exact ⟨ret_bool (by first | (simp; done) | (simp; omega)), bl_trans HB.out hb2⟩
theorem has_n (rows : Int) (a : Option Addr) (gs : List Int) (cap : Nat) (n : Int) (w : World) (hg : GsAt w a gs) (hlm : gs.length ≤ maxLen) (h : ¬ hasL rows gs n) :
    Calls Tryd.prog 41 #[.agg #[.int .i64 rows, .slice a gs.length cap], .int .i64 n] w fun e w' => e = .returned (.bool false) ∧ Below w.heap.size w w' := by
  have hb1 := bl_alloc (Below.refl w.heap.size w) (.cells #[.int .i64 rows, .slice a gs.length cap] 24)
  have HB := Lib.hid hb1
  have HC := Lib.hid (count_any rows a gs cap _ (hg.keep hb1) hlm)
  by_cases h0 : 0 ≤ n
  · have h2 : ¬ n < countL rows gs := fun k => h ⟨h0, k⟩
    clear hg hb1 h
    go_enter Tryd.func41, Tryd.ntmps41
    go_wp2_with (go_at_call 7; refine HC.out.mono ?_; rintro e w1 ⟨rfl, hb2⟩)
    go_ret
    exact ⟨ret_bool (by first | (simp; done) | (simp; omega)), bl_trans HB.out hb2⟩
  · clear hg hb1 h
    go_enter Tryd.func41, Tryd.ntmps41
    go_wp2
    go_ret
    exact ⟨ret_bool (by first | (simp; done) | (simp; omega)), HB.out⟩
end Go.Proofs.YtmnoacjmdnmddaaDoor
