/- The walk of SeatNames: it returns true. Conditions: none. -/
import Derived.Test.YtndagalglenbnaaDoorSeatFind
import Derived.Test.YtndagalglenbnaaDoorSeatApart
import Derived.Test.YtndagalglenbnaaDoorOpenLay
namespace Go.Proofs.YtndagalglenbnaaDoor
open Go.RowKit

/-- The name of a seat; nothing: there is none. -/
noncomputable def nameL (rows : Int) (gs : List Int) (n : Int) : ByteArray × Int := open Classical in if hasL rows gs n then (labS (total gs) n, 0) else (⟨#[]⟩, 1)
theorem label_any (rows : Int) (a : Option Addr) (gs : List Int) (cap : Nat) (n : Int) (w : World) (hg : GsAt w a gs) (hlm : gs.length ≤ maxLen) :
    Calls Tryd.prog 11 #[.agg #[.int .i64 rows, .slice a gs.length cap], .int .i64 n] w fun e w' => e = .returned (.tuple #[.string (nameL rows gs n).1, .int .i64 (nameL rows gs n).2]) ∧ Below w.heap.size w w' := by
  unfold nameL
  by_cases h : hasL rows gs n
  · rw [if_pos h]; exact label_yes rows a gs cap n w hg hlm h
  · rw [if_neg h]; exact label_bad rows a gs cap n w hg hlm h
theorem rlabel_any (rows : Int) (a : Option Addr) (gs : List Int) (cap : Nat) (n : Int) (w : World) (hg : GsAt w a gs) (hlm : gs.length ≤ maxLen) :
    Calls Tryd.prog 19 #[.agg #[.int .i64 rows, .slice a gs.length cap], .int .i64 n] w fun e w' => e = .returned (.tuple #[.string (nameL rows gs n).1, .int .i64 (nameL rows gs n).2]) ∧ Below w.heap.size w w' := by
  unfold nameL
  by_cases h : hasL rows gs n
  · rw [if_pos h]; exact rlabel_yes rows a gs cap n w hg hlm h
  · rw [if_neg h]; exact rlabel_no rows a gs cap n w hg hlm h

set_option maxRecDepth 100000 in
set_option maxHeartbeats 2000000 in
theorem names_s (rows : Int) (a : Option Addr) (gs : List Int) (cap : Nat) (n : Int) (s : ByteArray) (w : World) (hg : GsAt w a gs) (hlm : gs.length ≤ maxLen) (hsl : s.size ≤ maxLen) :
    Calls Tryd.prog 5 #[.agg #[.int .i64 rows, .slice a gs.length cap], .int .i64 n, .string s] w fun e w' => e = .returned (.bool true) ∧ Below w.heap.size w w' := by
  have hlm' : (gs.length : Int) ≤ 9223372036854775807 := by unfold maxLen at hlm; omega
  have hb1 := bl_alloc (Below.refl w.heap.size w) (.cells #[.int .i64 rows, .slice a gs.length cap] 24)
  have HB := Lib.hid hb1
  have HG := Lib.hid (hg.keep hb1)
  obtain ⟨w0, hw0⟩ : ∃ w0, w0 = w.alloc (.cells #[.int .i64 rows, .slice a gs.length cap] 24) := ⟨_, rfl⟩
  have hblk : w0.heap[w.heap.size]? = some (.cells #[.int .i64 rows, .slice a gs.length cap] 24) := by rw [hw0]; exact blk_new w _ rfl
  have q0 : ∀ w', Below w0.heap.size w0 w' → w'.cell? ⟨w.heap.size, 0, none⟩ = some (.int .i64 rows) := fun w' h => blk_cell (blk_below hblk h (blk_lt hblk)) 0
  have q1 : ∀ w', Below w0.heap.size w0 w' → w'.cell? ⟨w.heap.size, 1, none⟩ = some (.slice a gs.length cap) := fun w' h => blk_cell (blk_below hblk h (blk_lt hblk)) 1
  rw [← hw0] at HB HG
  have HW0 := Lib.hid hw0
  clear hg hb1 hblk hw0
  have hb := Below.refl w0.heap.size w0
  have HL := Lib.hid (fun (W : World) (h : Below w0.heap.size w0 W) => label_any rows a gs cap n W (HG.out.keep h) hlm)
  have HRL := Lib.hid (fun (W : World) (h : Below w0.heap.size w0 W) => rlabel_any rows a gs cap n W (HG.out.keep h) hlm)
  have HF := Lib.hid (fun (W : World) (h : Below w0.heap.size w0 W) => find_any rows a gs cap s W (HG.out.keep h) hlm hsl)
  have HRF := Lib.hid (fun (W : World) (h : Below w0.heap.size w0 W) => rfind_any rows a gs cap s W (HG.out.keep h) hlm)
  obtain ⟨t, ht⟩ : ∃ t, t = (nameL rows gs n).1 := ⟨_, rfl⟩
  obtain ⟨e0, he0⟩ : ∃ t, t = (nameL rows gs n).2 := ⟨_, rfl⟩
  obtain ⟨k, hk⟩ : ∃ t, t = (findL rows gs s).1 := ⟨_, rfl⟩
  obtain ⟨g, hgg⟩ : ∃ t, t = (findL rows gs s).2 := ⟨_, rfl⟩
  rw [← ht, ← he0] at HL HRL
  rw [← hk, ← hgg] at HF HRF
  clear ht he0 hk hgg
  go_enter Tryd.func5, Tryd.ntmps5
  go_wp2_with fail
  rw [← HW0.out]
  refine (awake_s _).mono ?_; rintro e w1 ⟨rfl, hb2⟩
  replace hb := bl_trans hb hb2; clear hb2
  by_cases hl : (1000 : Int) < gs.length
  · go_wp2_with fail
    go_ret
    exact ⟨rfl, bl_trans HB.out hb⟩
  go_wp2_with fail
  refine (HL.out _ hb).mono ?_; rintro e w2 ⟨rfl, hb2⟩
  replace hb := bl_trans hb hb2; clear hb2
  go_wp2_with fail
  refine (HRL.out _ hb).mono ?_; rintro e w3 ⟨rfl, hb2⟩
  replace hb := bl_trans hb hb2; clear hb2
  go_wp2_with fail
  refine (HF.out _ hb).mono ?_; rintro e w4 ⟨rfl, hb2⟩
  replace hb := bl_trans hb hb2; clear hb2
  go_wp2_with fail
  refine (HRF.out _ hb).mono ?_; rintro e w5 ⟨rfl, hb2⟩
  replace hb := bl_trans hb hb2; clear hb2
  go_wp2_with fail
  go_ret
  exact ⟨rfl, bl_trans HB.out hb⟩

theorem names_row (p : Lay) (n : Int) (s : ByteArray) (w : World) (h : GsAt w p.ad p.gs ∧ p.gs.length ≤ maxLen) (_ : (Lit.int .i64 n).wf = true) (hs : s.size ≤ maxLen) :
    Calls Tryd.prog 5 #[.agg #[.int .i64 p.rows, .slice p.ad p.gs.length p.cap], .int .i64 n, .string s] w fun e w' => e = .returned (.bool true) ∧ Below w.heap.size w w' :=
  names_s p.rows p.ad p.gs p.cap n s w h.1 h.2 hs
end Go.Proofs.YtndagalglenbnaaDoor
