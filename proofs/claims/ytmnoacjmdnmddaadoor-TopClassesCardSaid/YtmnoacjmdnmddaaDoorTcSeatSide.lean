/- Where in its group a seat stands: seat.sides, the reference's group. Conditions: none. -/
import Derived.Test.YtmnoacjmdnmddaaDoorTcSeatSame
namespace Go.Proofs.YtmnoacjmdnmddaaDoor
open Go.RowKit

/-- The place at of a row lies in group k. -/
def GrpAt (gs : List Int) (c : Int) (k : Nat) : Prop := k < gs.length ∧ sumK gs k ≤ c ∧ c < sumK gs (k + 1)
theorem sumK_mono {gs : List Int} (h : ∀ j, j < gs.length → okG (gs.getD j 0)) {i : Nat} : ∀ k, i ≤ k → k ≤ gs.length → sumK gs i ≤ sumK gs k
  | 0, hi, _ => by obtain rfl : i = 0 := by omega
                   exact Int.le_refl _
  | k + 1, hi, hk => by
    by_cases e : i = k + 1
    · rw [e]; exact Int.le_refl _
    · have := sumK_mono (gs := gs) (i := i) h k (by omega) (by omega)
      have hx := h k (by omega)
      unfold okG at hx
      have : sumK gs (k + 1) = sumK gs k + gs.getD k 0 := rfl
      omega
theorem grp_ex {gs : List Int} {c : Int} (h0 : 0 ≤ c) : ∀ m, m ≤ gs.length → c < sumK gs m → ∃ k, GrpAt gs c k
  | 0, _, h => by unfold sumK at h; omega
  | m + 1, hm, h => by
    by_cases e : c < sumK gs m
    · exact grp_ex h0 m (by omega) e
    · exact ⟨m, by omega, by omega, h⟩
theorem grp_un {gs : List Int} (hok : ∀ j, j < gs.length → okG (gs.getD j 0)) {c : Int} {i k : Nat} (hi : GrpAt gs c i) (hk : GrpAt gs c k) : i = k := by
  obtain ⟨i1, i2, i3⟩ := hi
  obtain ⟨k1, k2, k3⟩ := hk
  rcases Nat.lt_trichotomy i k with h | h | h
  · have := sumK_mono hok k (show i + 1 ≤ k by omega) (by omega); omega
  · exact h
  · have := sumK_mono hok i (show k + 1 ≤ i by omega) (by omega); omega
theorem mod_rng {n T : Int} (hT : 1 ≤ T) : 0 ≤ n % T ∧ n % T < T := ⟨Int.emod_nonneg _ (by omega), Int.emod_lt_of_pos _ (by omega)⟩
theorem ret2 {k l : IntKind} {a b c d : Int} (h : a = b) (h2 : c = d) : Ending.returned (.tuple #[.int k a, .int l c]) = .returned (.tuple #[.int k b, .int l d]) := by rw [h, h2]

set_option maxRecDepth 100000 in
set_option maxHeartbeats 1000000 in
theorem sides_any (rows : Int) (a : Option Addr) (gs : List Int) (cap : Nat) (n : Int) (w : World) (hg : GsAt w a gs) (hR : RightL rows gs) (h0 : 0 ≤ n) (h9 : n ≤ 600) (k : Nat) (hk : GrpAt gs (n % total gs) k) :
    Calls Tryd.prog 42 #[.agg #[.int .i64 rows, .slice a gs.length cap], .int .i64 n] w
      fun e w' => e = .returned (.tuple #[.int .i64 (n % total gs - sumK gs k), .int .i64 (sumK gs (k + 1) - 1 - n % total gs)]) ∧ Below w.heap.size w w' := by
  have hb1 := bl_alloc (Below.refl w.heap.size w) (.cells #[.int .i64 rows, .slice a gs.length cap] 24)
  have HB := Lib.hid hb1
  have HG := Lib.hid (hg.keep hb1)
  have HA := Lib.hid (across_any rows a gs cap _ (hg.keep hb1) hR.2.2.2.1 hR.2.2.2.2.1)
  have ht := hR.tot
  have l4 := hR.2.2.2.1
  obtain ⟨T, hT⟩ : ∃ T, T = total gs := ⟨_, rfl⟩
  rw [← hT] at ht hk
  have hc := mod_rng (n := n) ht.1
  have f1 : n.tmod T = n % T := Int.tmod_eq_emod_of_nonneg h0
  obtain ⟨c, hce⟩ : ∃ c, c = n % T := ⟨_, rfl⟩
  rw [← hce] at hc hk f1
  rw [← hT, ← hce]
  have HT := Lib.hid hT
  have HK := Lib.hid hk
  have HOK := Lib.hid hR.2.2.2.2.1
  have hkl := hk.1
  have g1 : (T == 0) = false := by rw [beq_eq_false_iff_ne]; omega
  have g2 : ¬ T = 0 := by omega
  have f5 : IntKind.i64.wrap c = c := by exact IntWalk.i64_in _ (by omega)
  clear hg hb1 hR hT hk hce
  go_enter Tryd.func42, Tryd.ntmps42
  go_wp2_with fail
  refine HA.out.mono ?_; rw [← HT.out]; rintro e w1 ⟨rfl, hb2⟩
  have hblk := blk_below (blk_new w (.cells #[.int .i64 rows, .slice a gs.length cap] 24) rfl) hb2 (by simp)
  have q0 : w1.cell? ⟨w.heap.size, 0, none⟩ = some (.int .i64 rows) := blk_cell hblk 0
  have q1 : w1.cell? ⟨w.heap.size, 1, none⟩ = some (.slice a gs.length cap) := blk_cell hblk 1
  have HG1 := Lib.hid (HG.out.keep hb2)
  have HB2 := Lib.hid (bl_trans HB.out hb2)
  clear hblk hb2
  go_wp2
  go_loopg [6, 16] k (fun g s i wr => w1 = wr ∧ ∃ j : Nat, j ≤ k ∧ g = k - j ∧ i = .int .i64 j ∧ s = .int .i64 (c - sumK gs j))
  case atStart => exact ⟨rfl, 0, by omega, rfl, rfl, by simp [sumK]⟩
  case round =>
    obtain ⟨rfl, j, j0, hgk, rfl, rfl⟩ := hrel
    have HGK := Lib.hid hgk
    clear hgk
    have hr := sumK_rng HOK.out j (by omega)
    have hx := HOK.out j (by omega)
    unfold okG at hx
    have hS : sumK gs (j + 1) = sumK gs j + gs.getD j 0 := rfl
    obtain ⟨b, off, ha, hcc⟩ := HG1.out j (by omega)
    obtain ⟨x, hxe⟩ : ∃ x, x = gs.getD j 0 := ⟨_, rfl⟩
    obtain ⟨y, hye⟩ : ∃ y, y = sumK gs j := ⟨_, rfl⟩
    rw [← hxe] at hcc hx hS
    rw [← hye] at hr hS
    have HX := Lib.hid hxe
    have HY := Lib.hid hye
    have HS := Lib.hid hS
    clear hxe hS hye
    subst ha
    have hjl : j < gs.length := by omega
    rw [← HY.out]
    by_cases hjk : j = k
    · subst hjk
      have hlt : c - y < x := by have := HK.out.2.2; rw [HS.out] at this; omega
      have hge : y ≤ c := by have := HK.out.2.1; rw [← HY.out] at this; omega
      go_wp2
      go_ret2
      exact ⟨ret2 (by rw [HY.out]) (by rw [HS.out]; omega), HB2.out⟩
    · have hm := sumK_mono HOK.out k (show j + 1 ≤ k by omega) (by omega)
      rw [HS.out] at hm
      have hnl : ¬ c - y < x := by have := HK.out.2.1; omega
      clear hm
      go_wp2
      go_roundg (k - (j + 1))
      case measure => have := HGK.out; omega
      case rel => exact ⟨rfl, j + 1, by omega, rfl, by go_num, by rw [HS.out]; congr 1; omega⟩

end Go.Proofs.YtmnoacjmdnmddaaDoor
