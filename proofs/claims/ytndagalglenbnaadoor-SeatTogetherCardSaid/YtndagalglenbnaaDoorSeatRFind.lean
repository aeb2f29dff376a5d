/- The reference's Find. Conditions: none. -/
import Derived.Lib.Strings
import Derived.Test.YtndagalglenbnaaDoorSeatRLab
namespace Go.Proofs.YtndagalglenbnaaDoor
open Go.RowKit

open Classical in
/-- The seat of a name, by definition. -/
noncomputable def findL (rows : Int) (gs : List Int) (s : ByteArray) : Int × Int :=
  if RightL rows gs then (if h : ∃ n, hasL rows gs n ∧ labS (total gs) n = s then (h.choose, 0) else (0, 2)) else (0, 1)
theorem findL_yes {rows : Int} {gs : List Int} {s : ByteArray} {n : Int} (h : hasL rows gs n) (hs : labS (total gs) n = s) : findL rows gs s = (n, 0) := by
  have hex : ∃ n, hasL rows gs n ∧ labS (total gs) n = s := ⟨n, h, hs⟩
  unfold findL
  rw [if_pos h.right, dif_pos hex]
  have := labS_inj hex.choose_spec.1 h (hex.choose_spec.2.trans hs.symm)
  rw [this]
theorem findL_none {rows : Int} {gs : List Int} {s : ByteArray} (hR : RightL rows gs) (h : ∀ n, hasL rows gs n → labS (total gs) n ≠ s) : findL rows gs s = (0, 2) := by
  unfold findL
  rw [if_pos hR, dif_neg]
  rintro ⟨n, h1, h2⟩
  exact h n h1 h2
theorem findL_bad {rows : Int} {gs : List Int} {s : ByteArray} (hR : ¬ RightL rows gs) : findL rows gs s = (0, 1) := by
  unfold findL
  rw [if_neg hR]
theorem str_ne {s t : ByteArray} (h : ¬ s = t) : (s.toList == t.toList) = false := by
  rw [beq_eq_false_iff_ne]
  intro e
  exact h (ByteArray.ext (Array.toList_inj.1 ((Lib.toList_data _).symm.trans (e.trans (Lib.toList_data _)))))
theorem ret_find {a b : Int} {p : Int × Int} (h : p = (a, b)) : Ending.returned (.tuple #[.int .i64 a, .int .i64 b]) = .returned (.tuple #[.int .i64 p.1, .int .i64 p.2]) := by rw [h]

set_option maxRecDepth 100000 in
set_option maxHeartbeats 1000000 in
theorem rfind_any (rows : Int) (a : Option Addr) (gs : List Int) (cap : Nat) (s : ByteArray) (w : World) (hg : GsAt w a gs) (hlm : gs.length ≤ maxLen) :
    Calls Tryd.prog 21 #[.agg #[.int .i64 rows, .slice a gs.length cap], .string s] w fun e w' => e = .returned (.tuple #[.int .i64 (findL rows gs s).1, .int .i64 (findL rows gs s).2]) ∧ Below w.heap.size w w' := by
  have hb1 := bl_alloc (Below.refl w.heap.size w) (.cells #[.int .i64 rows, .slice a gs.length cap] 24)
  have HB := Lib.hid hb1
  have HG := Lib.hid (hg.keep hb1)
  obtain ⟨w0, hw0⟩ : ∃ w0, w0 = w.alloc (.cells #[.int .i64 rows, .slice a gs.length cap] 24) := ⟨_, rfl⟩
  have hblk : w0.heap[w.heap.size]? = some (.cells #[.int .i64 rows, .slice a gs.length cap] 24) := by rw [hw0]; exact blk_new w _ rfl
  have q0 : ∀ w', Below w0.heap.size w0 w' → w'.cell? ⟨w.heap.size, 0, none⟩ = some (.int .i64 rows) := fun w' h => blk_cell (blk_below hblk h (blk_lt hblk)) 0
  have q1 : ∀ w', Below w0.heap.size w0 w' → w'.cell? ⟨w.heap.size, 1, none⟩ = some (.slice a gs.length cap) := fun w' h => blk_cell (blk_below hblk h (blk_lt hblk)) 1
  rw [← hw0] at HB HG
  have HW0 := Lib.hid hw0
  clear hg hb1 hblk hw0
  have hb := Below.refl w0.heap.size w0
  have HRR := Lib.hid (fun (W : World) (h : Below w0.heap.size w0 W) => rright_any rows a gs cap W (HG.out.keep h) hlm)
  have HC := Lib.hid (fun (W : World) (h : Below w0.heap.size w0 W) => rcount_any rows a gs cap W (HG.out.keep h) hlm)
  by_cases hR : RightL rows gs
  · have HL := Lib.hid (fun (n : Int) (hn : hasL rows gs n) (W : World) (h : Below w0.heap.size w0 W) => rlabel_yes rows a gs cap n W (HG.out.keep h) hlm hn)
    rw [rightB_yes hR] at HRR
    have hcr := countL_rng rows gs
    have HHL := Lib.hid (fun (n : Int) => (show hasL rows gs n ↔ 0 ≤ n ∧ n < countL rows gs from Iff.rfl))
    obtain ⟨N, hN⟩ : ∃ N, N = countL rows gs := ⟨_, rfl⟩
    rw [← hN] at HC hcr HHL
    have HR := Lib.hid hR
    clear hN hR
    go_enter Tryd.func21, Tryd.ntmps21
    go_wp2_with fail
    rw [← HW0.out]
    refine (HRR.out _ hb).mono ?_; rintro e w1 ⟨rfl, hb2⟩
    replace hb := bl_trans hb hb2; clear hb2
    go_wp2_with fail
    go_loopg [7] N.toNat (fun g i wr => Below w0.heap.size w0 wr ∧ ∃ k : Nat, (k : Int) ≤ N ∧ g = N.toNat - k ∧ i = .int .i64 k ∧ ∀ j : Int, 0 ≤ j → j < k → labS (total gs) j ≠ s)
    case atStart => exact ⟨hb, 0, by omega, by omega, rfl, fun j h0 h1 => by omega⟩
    case round =>
      clear hb
      obtain ⟨hb, k, k0, hgk, rfl, hsf⟩ := hrel
      have HGK := Lib.hid hgk
      have HSF := Lib.hid hsf
      clear hgk hsf
      go_wp2_with fail
      refine (HC.out _ hb).mono ?_; rintro e w2 ⟨rfl, hb2⟩
      replace hb := bl_trans hb hb2; clear hb2
      by_cases hk : (k : Int) < N
      · go_wp2_with fail
        refine (HL.out k ((HHL.out k).2 ⟨by omega, hk⟩) _ hb).mono ?_; rintro e w3 ⟨rfl, hb2⟩
        replace hb := bl_trans hb hb2; clear hb2
        obtain ⟨t, ht⟩ : ∃ t, t = labS (total gs) (k : Int) := ⟨_, rfl⟩
        rw [← ht]
        have HTT := Lib.hid ht
        clear ht
        by_cases hts : t = s
        · go_wp2_with fail
          go_ret2
          exact ⟨ret_find (findL_yes ((HHL.out k).2 ⟨by omega, hk⟩) (by rw [← HTT.out]; exact hts)), bl_trans HB.out hb⟩
        · have e1 := str_ne hts
          go_wp2_with fail
          go_roundg (N.toNat - (k + 1))
          case measure => have := HGK.out; omega
          case rel =>
            refine ⟨hb, k + 1, by omega, rfl, by go_num, fun j h0 h1 => ?_⟩
            by_cases hjk : j = k
            · rw [hjk, ← HTT.out]; exact hts
            · exact HSF.out j h0 (by omega)
      · go_wp2_with fail
        go_ret2
        refine ⟨ret_find (findL_none HR.out fun n hn => HSF.out n hn.1 ?_), bl_trans HB.out hb⟩
        have := ((HHL.out n).1 hn).2
        omega
  · rw [rightB_no hR] at HRR
    rw [findL_bad hR]
    clear hR
    go_enter Tryd.func21, Tryd.ntmps21
    go_wp2_with fail
    rw [← HW0.out]
    refine (HRR.out _ hb).mono ?_; rintro e w1 ⟨rfl, hb2⟩
    replace hb := bl_trans hb hb2; clear hb2
    go_wp2_with fail
    go_ret2
    exact ⟨rfl, bl_trans HB.out hb⟩
end Go.Proofs.YtndagalglenbnaaDoor
