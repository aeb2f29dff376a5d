/- What the reference's across, Right, Count come to. Conditions: none. -/
import Derived.Test.YtndagalglenbnaaDoorSeatCount
namespace Go.Proofs.YtndagalglenbnaaDoor
open Go.RowKit

set_option maxRecDepth 100000 in
theorem racross_any (rows : Int) (a : Option Addr) (gs : List Int) (cap : Nat) (w : World) (hg : GsAt w a gs) (hl : gs.length ≤ 4) (hok : ∀ j, j < gs.length → okG (gs.getD j 0)) :
    Calls Tryd.prog 32 #[.agg #[.int .i64 rows, .slice a gs.length cap]] w fun e w' => e = .returned (.int .i64 (total gs)) ∧ Below w.heap.size w w' := by
  have HK := Lib.hid hok
  have HG := Lib.hid (hg.keep (bl_alloc (Below.refl _ _) (.cells #[.int .i64 rows, .slice a gs.length cap] 24)))
  clear hok hg
  go_enter Tryd.func32, Tryd.ntmps32
  go_wp2
  go_loopg [3, 4] gs.length (fun g s i wr => (w.alloc (.cells #[.int .i64 rows, .slice a gs.length cap] 24)) = wr ∧ ∃ k : Nat, k ≤ gs.length ∧ g = gs.length - k ∧ i = .int .i64 k ∧ s = .int .i64 (sumK gs k))
  case atStart => exact ⟨rfl, 0, by omega, rfl, rfl, rfl⟩
  case round =>
    obtain ⟨rfl, k, k0, hgk, rfl, rfl⟩ := hrel
    have HGK := Lib.hid hgk
    clear hgk
    have hr := sumK_rng HK.out k k0
    by_cases hk : k < gs.length
    · obtain ⟨b, off, ha, hc⟩ := HG.out k hk
      have hx := HK.out k hk
      unfold okG at hx
      have HS := Lib.hid (show sumK gs (k + 1) = sumK gs k + gs.getD k 0 from rfl)
      obtain ⟨x, hxe⟩ : ∃ x, x = gs.getD k 0 := ⟨_, rfl⟩
      rw [← hxe] at hc hx
      have HX := Lib.hid hxe
      clear hxe
      subst ha
      go_wp2
      go_roundg (gs.length - (k + 1))
      case measure => have := HGK.out; omega
      case rel => exact ⟨rfl, k + 1, by omega, rfl, by go_num, by rw [HS.out, HX.out]⟩
    · obtain rfl : k = gs.length := by omega
      go_wp2
      go_ret
      exact ⟨rfl, bl_alloc (Below.refl _ _) _⟩

open Classical in
/-- May the layout be? -/
noncomputable def rightB (rows : Int) (gs : List Int) : Bool := decide (RightL rows gs)
theorem rightB_yes {rows : Int} {gs : List Int} (h : RightL rows gs) : rightB rows gs = true := by simp [rightB, h]
theorem rightB_no {rows : Int} {gs : List Int} (h : ¬ RightL rows gs) : rightB rows gs = false := by simp [rightB, h]

set_option maxHeartbeats 1000000 in
theorem rright_any (rows : Int) (a : Option Addr) (gs : List Int) (cap : Nat) (w : World) (hg : GsAt w a gs) (hlm : gs.length ≤ maxLen) :
    Calls Tryd.prog 16 #[.agg #[.int .i64 rows, .slice a gs.length cap]] w fun e w' => e = .returned (.bool (rightB rows gs)) ∧ Below w.heap.size w w' := by
  unfold maxLen at hlm
  have hb1 := bl_alloc (Below.refl w.heap.size w) (.cells #[.int .i64 rows, .slice a gs.length cap] 24)
  have HB := Lib.hid hb1
  by_cases r1 : rows < 1
  · clear hg hb1
    go_enter Tryd.func16, Tryd.ntmps16
    go_wp2
    go_ret
    exact ⟨ret_bool (Eq.symm (rightB_no (by intro h; have := h.1; omega))), HB.out⟩
  by_cases r2 : 60 < rows
  · clear hg hb1
    go_enter Tryd.func16, Tryd.ntmps16
    go_wp2
    go_ret
    exact ⟨ret_bool (Eq.symm (rightB_no (by intro h; have := h.2.1; omega))), HB.out⟩
  by_cases l1 : (gs.length : Int) < 1
  · clear hg hb1
    go_enter Tryd.func16, Tryd.ntmps16
    go_wp2
    go_ret
    exact ⟨ret_bool (Eq.symm (rightB_no (by intro h; have := h.2.2.1; omega))), HB.out⟩
  by_cases l2 : (4 : Int) < (gs.length : Int)
  · clear hg hb1
    go_enter Tryd.func16, Tryd.ntmps16
    go_wp2
    go_ret
    exact ⟨ret_bool (Eq.symm (rightB_no (by intro h; have := h.2.2.2.1; omega))), HB.out⟩
  have l4 : gs.length ≤ 4 := by omega
  have HG := Lib.hid (hg.keep hb1)
  clear hg hb1
  go_enter Tryd.func16, Tryd.ntmps16
  go_wp2
  go_loopg [3] gs.length (fun g i wr => (w.alloc (.cells #[.int .i64 rows, .slice a gs.length cap] 24)) = wr ∧ ∃ k : Nat, k ≤ gs.length ∧ g = gs.length - k ∧ i = .int .i64 k ∧ ∀ j, j < k → okG (gs.getD j 0))
  case atStart => exact ⟨rfl, 0, by omega, rfl, rfl, fun j hj => by omega⟩
  case round =>
    obtain ⟨rfl, k, k0, hgk, rfl, hsofar⟩ := hrel
    have HGK := Lib.hid hgk
    have HSF := Lib.hid hsofar
    clear hgk hsofar
    by_cases hk : k < gs.length
    · obtain ⟨b, off, ha, hc⟩ := HG.out k hk
      obtain ⟨x, hxe⟩ : ∃ x, x = gs.getD k 0 := ⟨_, rfl⟩
      rw [← hxe] at hc
      have HX := Lib.hid hxe
      clear hxe
      subst ha
      by_cases x1 : x < 1
      · go_wp2
        go_ret
        exact ⟨ret_bool (Eq.symm (rightB_no (by intro h; have := h.2.2.2.2.1 k hk; rw [← HX.out] at this; unfold okG at this; omega))), HB.out⟩
      by_cases x2 : 10 < x
      · go_wp2
        go_ret
        exact ⟨ret_bool (Eq.symm (rightB_no (by intro h; have := h.2.2.2.2.1 k hk; rw [← HX.out] at this; unfold okG at this; omega))), HB.out⟩
      go_wp2
      go_roundg (gs.length - (k + 1))
      case measure => have := HGK.out; omega
      case rel =>
        refine ⟨rfl, k + 1, by omega, rfl, by go_num, fun j hj => ?_⟩
        by_cases hjk : j < k
        · exact HSF.out j hjk
        · obtain rfl : j = k := by omega
          rw [← HX.out]
          unfold okG
          omega
    · obtain rfl : k = gs.length := by omega
      have HA := Lib.hid (racross_any rows a gs cap _ HG.out l4 HSF.out)
      go_wp2_with (go_at_call 32; refine HA.out.mono ?_; rintro e w' ⟨rfl, hb⟩)
      go_ret
      refine ⟨ret_bool ?_, bl_trans HB.out hb⟩
      by_cases ht : total gs ≤ 10
      · rw [rightB_yes ⟨by omega, by omega, by omega, l4, HSF.out, ht⟩]; simpa using ht
      · rw [rightB_no (fun h => ht h.2.2.2.2.2)]; simpa using ht

set_option maxHeartbeats 1000000 in
theorem rcount_any (rows : Int) (a : Option Addr) (gs : List Int) (cap : Nat) (w : World) (hg : GsAt w a gs) (hlm : gs.length ≤ maxLen) :
    Calls Tryd.prog 18 #[.agg #[.int .i64 rows, .slice a gs.length cap]] w fun e w' => e = .returned (.int .i64 (countL rows gs)) ∧ Below w.heap.size w w' := by
  have hb1 := bl_alloc (Below.refl w.heap.size w) (.cells #[.int .i64 rows, .slice a gs.length cap] 24)
  have HB := Lib.hid hb1
  have HR := Lib.hid (rright_any rows a gs cap _ (hg.keep hb1) hlm)
  have HG := Lib.hid (hg.keep hb1)
  clear hg hb1
  go_enter Tryd.func18, Tryd.ntmps18
  go_wp2_with fail
  refine HR.out.mono ?_; rintro e w1 ⟨rfl, hb2⟩
  have hblk := blk_below (blk_new w (.cells #[.int .i64 rows, .slice a gs.length cap] 24) rfl) hb2 (by simp)
  have q0 : w1.cell? ⟨w.heap.size, 0, none⟩ = some (.int .i64 rows) := blk_cell hblk 0
  have q1 : w1.cell? ⟨w.heap.size, 1, none⟩ = some (.slice a gs.length cap) := blk_cell hblk 1
  have hlt : w.heap.size < w1.heap.size := blk_lt hblk
  have HG1 := Lib.hid (HG.out.keep hb2)
  have HB2 := Lib.hid (bl_trans HB.out hb2)
  by_cases h : RightL rows gs
  · have hv := rightB_yes h
    obtain ⟨r1, r2, l1, l2, hok, ht⟩ := id h
    have htt := h.tot
    obtain ⟨T, hT⟩ : ∃ T, T = total gs := ⟨_, rfl⟩
    rw [← hT] at htt
    have hm0 : 0 ≤ rows * T := Int.mul_nonneg (by omega) (by omega)
    have hm1 : rows * T ≤ 600 := Int.le_trans (Int.mul_le_mul r2 htt.2 (by omega) (by omega)) (by decide)
    have hcv : countL rows gs = rows * T := by rw [hT]; exact countL_yes h
    have HV := Lib.hid hcv
    have HK := Lib.hid hok
    have HT := Lib.hid hT
    clear hok h hcv hT ht
    have hwr : IntKind.i64.wrap (rows * T) = rows * T := by exact IntWalk.i64_in _ (by omega)
    clear hblk hb2
    go_wp2
    go_region_held3 (fun w' => w'.cell? ⟨w.heap.size, 0, none⟩ = some (.int .i64 rows) ∧ w'.cell? ⟨w.heap.size, 1, none⟩ = some (.slice a gs.length cap)) (simp [go_sem, *])
      ((go_at_call 32; refine (racross_any rows a gs cap _ (by exact HG1.out) l2 HK.out).mono ?_; rw [← HT.out]; rintro e w2 ⟨rfl, hb3⟩; have hcv : ∀ o, w2.cell? ⟨w.heap.size, o, none⟩ = w1.cell? ⟨w.heap.size, o, none⟩ := (fun o => (bl_undrew hb3).cell (p := ⟨w.heap.size, o, none⟩) hlt)))
    go_wp2
    go_ret
    exact ⟨ret_int HV.out.symm, bl_trans HB2.out (bl_undrew hb3)⟩
  · have hv := rightB_no h
    have HV := Lib.hid (countL_no h)
    clear h hblk hb2
    go_wp2
    go_ret
    exact ⟨ret_int HV.out.symm, HB2.out⟩
end Go.Proofs.YtndagalglenbnaaDoor
