/- Who sits beside, plain; the walk of SeatBack: it returns true. Conditions: none. -/
import Derived.Test.YtndagalglenbnaaDoorSeatNames
import Derived.Test.YtndagalglenbnaaDoorSeatCounts
namespace Go.Proofs.YtndagalglenbnaaDoor
open Go.RowKit

theorem left_pos {rows : Int} {gs : List Int} {n : Int} (hR : RightL rows gs) (hl : lefty gs (n % total gs) (grpK gs (n % total gs))) : 1 ≤ n % total gs := by
  have hc := mod_rng (n := n) hR.tot.1
  have hk := grpK_at hR hc.1 hc.2
  have hz := sumK_rng hR.2.2.2.2.1 (grpK gs (n % total gs)) (by have := hk.1; omega)
  unfold lefty at hl
  omega
theorem left_ge {rows : Int} {gs : List Int} {n : Int} (hR : RightL rows gs) (h0 : 0 ≤ n) (hl : lefty gs (n % total gs) (grpK gs (n % total gs))) : 1 ≤ n := by
  have h1 := left_pos hR hl
  by_cases h : n = 0
  · rw [h, Int.zero_emod] at h1; omega
  · omega

theorem mem_besL {rows : Int} {gs : List Int} {n m : Int} : m ∈ besL rows gs n ↔ hasL rows gs n ∧ hasL rows gs m ∧ ((m = n - 1 ∧ grpOf gs (n - 1) = grpOf gs n) ∨ (m = n + 1 ∧ grpOf gs (n + 1) = grpOf gs n)) := by
  by_cases h : hasL rows gs n
  · have hR := h.right
    have hl := same_left (n := n) hR
    have hr := same_right (n := n) hR
    unfold besL
    rw [if_pos h, hl, hr]
    constructor
    · intro hm
      rw [List.mem_append] at hm
      rcases hm with hm | hm
      · split at hm
        · rename_i h1
          have hme : m = n - 1 := by simpa using hm
          have h2 := left_ge hR h.1 h1
          exact ⟨h, ⟨by omega, by have := h.2; omega⟩, .inl ⟨hme, h1⟩⟩
        · cases hm
      · split at hm
        · rename_i h1
          have hme : m = n + 1 := by simpa using hm
          have h2 := right_lt h h1
          exact ⟨h, ⟨by have := h.1; omega, by omega⟩, .inr ⟨hme, h1⟩⟩
        · cases hm
    · rintro ⟨_, _, ⟨rfl, h1⟩ | ⟨rfl, h1⟩⟩
      · rw [if_pos h1]; simp
      · rw [if_pos h1]; simp
  · unfold besL
    rw [if_neg h]
    constructor
    · intro hm; cases hm
    · rintro ⟨h1, _⟩; exact absurd h1 h
theorem besL_sym {rows : Int} {gs : List Int} {n m : Int} (h : m ∈ besL rows gs n) : n ∈ besL rows gs m := by
  obtain ⟨h1, h2, h3⟩ := mem_besL.1 h
  refine mem_besL.2 ⟨h2, h1, ?_⟩
  rcases h3 with ⟨rfl, e⟩ | ⟨rfl, e⟩
  · right; rw [show n - 1 + 1 = n by omega]; exact ⟨rfl, e.symm⟩
  · left; rw [show n + 1 - 1 = n by omega]; exact ⟨rfl, e.symm⟩
theorem besL_ne {rows : Int} {gs : List Int} {n m : Int} (h : m ∈ besL rows gs n) : m ≠ n := by
  obtain ⟨_, _, ⟨rfl, _⟩ | ⟨rfl, _⟩⟩ := mem_besL.1 h <;> omega
theorem besL_len (rows : Int) (gs : List Int) (n : Int) : (besL rows gs n).length ≤ 2 := by
  unfold besL; split <;> simp <;> (split <;> split <;> simp)
theorem labS_size {rows : Int} {gs : List Int} {n : Int} (h : hasL rows gs n) : (labS (total gs) n).size ≤ maxLen := by
  unfold labS nameS
  have := itoaS_size ((n / total gs).toNat + 1)
  have e : (itoaS ((n / total gs).toNat + 1) ++ ⟨#[letter (n % total gs).toNat]⟩).size = (itoaS ((n / total gs).toNat + 1)).size + 1 := by
    rw [ByteArray.size_append]; rfl
  rw [e]
  unfold maxLen
  omega

set_option maxRecDepth 100000 in
set_option maxHeartbeats 4000000 in
theorem back_s (rows : Int) (a : Option Addr) (gs : List Int) (cap : Nat) (n : Int) (w : World) (hg : GsAt w a gs) (hlm : gs.length ≤ maxLen) :
    Calls Tryd.prog 9 #[.agg #[.int .i64 rows, .slice a gs.length cap], .int .i64 n] w fun e w' => e = .returned (.bool true) ∧ Below w.heap.size w w' := by
  have hlm' : (gs.length : Int) ≤ 9223372036854775807 := by unfold maxLen at hlm; omega
  have hb1 := bl_alloc (Below.refl w.heap.size w) (.cells #[.int .i64 rows, .slice a gs.length cap] 24)
  have HB := Lib.hid hb1
  have HG := Lib.hid (hg.keep hb1)
  obtain ⟨w0, hw0⟩ : ∃ w0, w0 = w.alloc (.cells #[.int .i64 rows, .slice a gs.length cap] 24) := ⟨_, rfl⟩
  have hblk : w0.heap[w.heap.size]? = some (.cells #[.int .i64 rows, .slice a gs.length cap] 24) := by rw [hw0]; exact blk_new w _ rfl
  have q0 : ∀ w', Below w0.heap.size w0 w' → w'.cell? ⟨w.heap.size, 0, none⟩ = some (.int .i64 rows) := fun w' h => blk_cell (blk_below hblk h (blk_lt hblk)) 0
  have q1 : ∀ w', Below w0.heap.size w0 w' → w'.cell? ⟨w.heap.size, 1, none⟩ = some (.slice a gs.length cap) := fun w' h => blk_cell (blk_below hblk h (blk_lt hblk)) 1
  rw [← hw0] at HB HG
  have HW0 := Lib.hid hw0
  clear hg hb1 hblk hw0
  have hb := Below.refl w0.heap.size w0
  have HL := Lib.hid (fun (W : World) (h : Below w0.heap.size w0 W) => label_any rows a gs cap n W (HG.out.keep h) hlm)
  have HBS := Lib.hid (fun (m : Int) (W : World) (h : Below w0.heap.size w0 W) => beside_any rows a gs cap m W (HG.out.keep h) hlm)
  by_cases hl : (1000 : Int) < gs.length
  · go_enter Tryd.func9, Tryd.ntmps9
    go_wp2_with fail
    rw [← HW0.out]
    refine (awake_s _).mono ?_; rintro e w1 ⟨rfl, hb2⟩
    replace hb := bl_trans hb hb2; clear hb2
    go_wp2_with fail
    go_ret
    exact ⟨rfl, bl_trans HB.out hb⟩
  by_cases h : hasL rows gs n
  · have hnl : nameL rows gs n = (labS (total gs) n, 0) := by unfold nameL; rw [if_pos h]
    have hsz := labS_size h
    have hfl := findL_yes h rfl
    have HF := Lib.hid (fun (W : World) (h' : Below w0.heap.size w0 W) => find_any rows a gs cap (labS (total gs) n) W (HG.out.keep h') hlm hsz)
    rw [hnl] at HL
    rw [hfl] at HF
    obtain ⟨t, ht⟩ : ∃ t, t = labS (total gs) n := ⟨_, rfl⟩
    rw [← ht] at HL HF
    have HM := Lib.hid (fun m (hm : m ∈ besL rows gs n) => And.intro (besL_sym hm) (besL_ne hm))
    have HBN := Lib.hid (HBS.out n)
    have hxl := besL_len rows gs n
    obtain ⟨xs, hxs⟩ : ∃ xs, xs = besL rows gs n := ⟨_, rfl⟩
    rw [← hxs] at HBN HM hxl
    clear hnl hsz hfl ht hxs h
    go_enter Tryd.func9, Tryd.ntmps9
    go_wp2_with fail
    rw [← HW0.out]
    refine (awake_s _).mono ?_; rintro e w1 ⟨rfl, hb2⟩
    replace hb := bl_trans hb hb2; clear hb2
    go_wp2_with fail
    refine (HL.out _ hb).mono ?_; rintro e w2 ⟨rfl, hb2⟩
    replace hb := bl_trans hb hb2; clear hb2
    go_wp2_with fail
    refine (HF.out _ hb).mono ?_; rintro e w3 ⟨rfl, hb2⟩
    replace hb := bl_trans hb hb2; clear hb2
    go_wp2_with fail
    refine (HBN.out _ hb).mono ?_; rintro e w4 ⟨ad1, c1, rfl, hg1, hb2⟩
    replace hb := bl_trans hb hb2; clear hb2
    have HG1 := Lib.hid hg1; clear hg1
    go_wp2_with fail
    go_loopg [11] xs.length (fun g i wr => Below w4.heap.size w4 wr ∧ ∃ k : Nat, k ≤ xs.length ∧ g = xs.length - k ∧ i = .int .i64 k)
    case atStart => exact ⟨Below.refl _ _, 0, by omega, rfl, rfl⟩
    case round =>
      obtain ⟨hb4, k, k0, hgk, rfl⟩ := hrel
      have HGK := Lib.hid hgk
      clear hgk
      have hbb := bl_trans hb hb4
      by_cases hk : k < xs.length
      · obtain ⟨b1, o1, rfl, hc⟩ := HG1.out k hk
        have q9 : ∀ w', Below w4.heap.size w4 w' → w'.cell? ⟨b1, o1 + k, none⟩ = some (.int .i64 (xs.getD k 0)) := fun w' h => cell_keep h hc
        have HX := Lib.hid (HM.out (xs.getD k 0) (by rw [List.getD_eq_getElem?_getD, List.getElem?_eq_getElem hk]; exact List.getElem_mem hk))
        obtain ⟨x, hx⟩ : ∃ x, x = xs.getD k 0 := ⟨_, rfl⟩
        rw [← hx] at q9 HX
        clear hc hx
        have hnx := HX.out.2
        have e1 : (x == n) = false := by rw [beq_eq_false_iff_ne]; exact hnx
        clear hnx
        have q0' := fun w' (h : Below w4.heap.size w4 w') => q0 w' (bl_trans hb h)
        have q1' := fun w' (h : Below w4.heap.size w4 w') => q1 w' (bl_trans hb h)
        clear hbb
        go_wp2_with fail
        refine wp_region_in (Below w4.heap.size w4) (fun i => i == 5 || i == 7) (by kernel_rfl) (by kernel_rfl) (by exact hb4.drew) ?_
        intro hne hx
        replace hb4 := hb4.drew
        have hk0 : (0 : Int) ≤ (k : Int) := by omega
        have hk1 : (k : Int) < xs.length := by omega
        refine stg_seg 5 (by dsimp only [List.take]) (by dsimp only [List.drop]) (by rfl) ?_
        repeat (go_big_quiet_step (fail))
        refine wpQuiet_nil ?_
        refine stg_loud (by rfl) ?_
        go_wp2_with fail
        refine (HBS.out x _ (bl_trans hb hb4)).mono ?_; rintro e w5 ⟨ad2, c2, rfl, hg2, hb2⟩
        replace hb4 := bl_trans hb4 hb2; clear hb2
        go_wp2_with fail
        refine lq_in rfl (hb4) ?_
        have HHas := Lib.hid (has_any ad2 _ c2 n w5 hg2 (by have := besL_len rows gs x; unfold maxLen; omega))
        have hdec : decide (n ∈ besL rows gs x) = true := by simpa using HX.out.1
        rw [hdec] at HHas
        clear hg2 hdec
        refine stg_seg 1 (by dsimp only [List.take]) (by dsimp only [List.drop]) (by rfl) ?_
        repeat (go_big_quiet_step (fail))
        refine wpQuiet_nil ?_
        refine stg_loud (by rfl) ?_
        go_wp2_with fail
        refine HHas.out.mono ?_; rintro e w6 ⟨rfl, rfl⟩
        go_wp2_with fail
        refine lq_in rfl (hb4) ?_
        refine stg_seg 1 (by dsimp only [List.take]) (by dsimp only [List.drop]) (by rfl) ?_
        repeat (go_big_quiet_step (fail))
        refine wpQuiet_nil ?_
        refine stg_nil ?_
        clear hne hx
        go_wp2_with fail
        go_roundg (xs.length - (k + 1))
        case measure => have := HGK.out; omega
        case rel => exact ⟨hb4, k + 1, by omega, rfl, by go_num⟩
      · obtain rfl : k = xs.length := by omega
        have hxl' : (xs.length : Int) ≤ 2 := by omega
        go_wp2_with fail
        go_ret
        exact ⟨by simp, bl_trans HB.out hbb⟩
  · have hnl : nameL rows gs n = (⟨#[]⟩, 1) := by unfold nameL; rw [if_neg h]
    rw [hnl] at HL
    have hbl : besL rows gs n = [] := by unfold besL; rw [if_neg h]
    have HBN := Lib.hid (HBS.out n)
    rw [hbl] at HBN
    clear hnl hbl h
    go_enter Tryd.func9, Tryd.ntmps9
    go_wp2_with fail
    rw [← HW0.out]
    refine (awake_s _).mono ?_; rintro e w1 ⟨rfl, hb2⟩
    replace hb := bl_trans hb hb2; clear hb2
    go_wp2_with fail
    refine (HL.out _ hb).mono ?_; rintro e w2 ⟨rfl, hb2⟩
    replace hb := bl_trans hb hb2; clear hb2
    go_wp2_with fail
    refine (HBN.out _ hb).mono ?_; rintro e w4 ⟨ad1, c1, rfl, hg1, hb2⟩
    replace hb := bl_trans hb hb2; clear hb2
    go_wp2_with fail
    go_ret
    exact ⟨rfl, bl_trans HB.out hb⟩

theorem back_row (p : Lay) (n : Int) (w : World) (h : GsAt w p.ad p.gs ∧ p.gs.length ≤ maxLen) (_ : (Lit.int .i64 n).wf = true) :
    Calls Tryd.prog 9 #[.agg #[.int .i64 p.rows, .slice p.ad p.gs.length p.cap], .int .i64 n] w fun e w' => e = .returned (.bool true) ∧ Below w.heap.size w w' :=
  back_s p.rows p.ad p.gs p.cap n w h.1 h.2
end Go.Proofs.YtndagalglenbnaaDoor
