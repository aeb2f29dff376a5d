/- seat.column and seat.Find. Conditions: none. -/
import Derived.Test.YtmnoacjmdnmddaaDoorTcSeatParse
namespace Go.Proofs.YtmnoacjmdnmddaaDoor
open Go.RowKit

theorem colI_of : ∀ k : Nat, k < 10 → colI (letter k).toNat = k := by decide +kernel
theorem colI_none {x : Int} (h : ∀ j, j < 10 → ((letter j).toNat : Int) ≠ x) : colI x = -1 := by
  have h0 := h 0 (by omega); have h1 := h 1 (by omega); have h2 := h 2 (by omega); have h3 := h 3 (by omega); have h4 := h 4 (by omega)
  have h5 := h 5 (by omega); have h6 := h 6 (by omega); have h7 := h 7 (by omega); have h8 := h 8 (by omega); have h9 := h 9 (by omega)
  have e0 : ((letter 0).toNat : Int) = 65 := by decide
  have e1 : ((letter 1).toNat : Int) = 66 := by decide
  have e2 : ((letter 2).toNat : Int) = 67 := by decide
  have e3 : ((letter 3).toNat : Int) = 68 := by decide
  have e4 : ((letter 4).toNat : Int) = 69 := by decide
  have e5 : ((letter 5).toNat : Int) = 70 := by decide
  have e6 : ((letter 6).toNat : Int) = 71 := by decide
  have e7 : ((letter 7).toNat : Int) = 72 := by decide
  have e8 : ((letter 8).toNat : Int) = 74 := by decide
  have e9 : ((letter 9).toNat : Int) = 75 := by decide
  unfold colI
  rw [if_neg (by omega), if_neg (by omega), if_neg (by omega)]

set_option maxRecDepth 100000 in
theorem column_any (x : Int) (w : World) : Calls Tryd.prog 34 #[.int .i32 x] w fun e w' => e = .returned (.int .i64 (colI x)) ∧ w = w' := by
  go_enter Tryd.func34, Tryd.ntmps34
  go_wp2_with fail
  go_loopg [4] 10 (fun g i wr => w = wr ∧ ∃ k : Nat, k ≤ 10 ∧ g = 10 - k ∧ i = .int .i64 k ∧ ∀ j, j < k → ((letter j).toNat : Int) ≠ x)
  case atStart => exact ⟨rfl, 0, by omega, rfl, rfl, fun j hj => by omega⟩
  case round =>
    obtain ⟨rfl, k, k0, hgk, rfl, hsf⟩ := hrel
    have HGK := Lib.hid hgk
    have HSF := Lib.hid hsf
    clear hgk hsf
    by_cases hk : k < 10
    · have hix := run_index_letter k hk
      have hl := (letter k).toNat_lt
      obtain ⟨L, hL⟩ : ∃ L : Int, L = ((letter k).toNat : Int) := ⟨_, rfl⟩
      have hL0 : 0 ≤ L ∧ L < 256 := by omega
      rw [← hL] at hix
      have HL := Lib.hid hL
      clear hL hl
      by_cases hx : L = x
      · have e1 : (L == x) = true := by simp [hx]
        go_wp2_with fail
        go_ret
        exact ⟨ret_int (by rw [← hx, HL.out]; exact (colI_of k hk).symm), rfl⟩
      · have e1 : (L == x) = false := by simp [hx]
        go_wp2_with fail
        go_roundg (10 - (k + 1))
        case measure => have := HGK.out; omega
        case rel =>
          refine ⟨rfl, k + 1, by omega, rfl, by go_num, fun j hj => ?_⟩
          by_cases hjk : j = k
          · rw [hjk, ← HL.out]; exact hx
          · exact HSF.out j (by omega)
    · obtain rfl : k = 10 := by omega
      go_wp2_with fail
      go_ret
      exact ⟨ret_int (colI_none HSF.out).symm, rfl⟩

theorem parse_stop {b : UInt8} {l : List UInt8} {i : Nat} {row last : Int} (h : 0 ≤ last ∨ (i = 0 ∧ (b.toNat : Int) = 48) ∨ 60 < row) : parse (b :: l) i row last = none := by
  unfold parse; rw [if_pos h]
theorem parse_dig {b : UInt8} {l : List UInt8} {i : Nat} {row last : Int} (h : ¬ (0 ≤ last ∨ (i = 0 ∧ (b.toNat : Int) = 48) ∨ 60 < row)) (hd : 48 ≤ (b.toNat : Int) ∧ (b.toNat : Int) ≤ 57) :
    parse (b :: l) i row last = parse l (i + 1) (10 * row + ((b.toNat : Int) - 48)) last := by
  rw [parse, if_neg h, if_pos (show isD _ from hd)]
theorem parse_col {b : UInt8} {l : List UInt8} {i : Nat} {row last : Int} (h : ¬ (0 ≤ last ∨ (i = 0 ∧ (b.toNat : Int) = 48) ∨ 60 < row)) (hd : ¬ (48 ≤ (b.toNat : Int) ∧ (b.toNat : Int) ≤ 57)) (hc : ¬ colI b.toNat < 0) :
    parse (b :: l) i row last = parse l (i + 1) row (colI b.toNat) := by
  rw [parse, if_neg h, if_neg (show ¬ isD _ from hd), if_neg hc]
theorem parse_bad {b : UInt8} {l : List UInt8} {i : Nat} {row last : Int} (hd : ¬ (48 ≤ (b.toNat : Int) ∧ (b.toNat : Int) ≤ 57)) (hc : colI b.toNat < 0) : parse (b :: l) i row last = none := by
  unfold parse
  split
  · rfl
  · simp [show ¬ isD _ from hd, hc]
theorem colI_high {x : Int} (h : 128 ≤ x) : colI x = -1 := by
  unfold colI; rw [if_neg (by omega), if_neg (by omega), if_neg (by omega)]
def bt (s : ByteArray) (k : Nat) : UInt8 := s.data.toList.getD k 0
theorem bt_get (s : ByteArray) (k : Nat) (h : k < s.size) : s[k] = bt s k := by
  unfold bt
  rw [List.getD_eq_getElem?_getD, List.getElem?_eq_getElem (by simpa using h)]
  rfl
theorem drop_cons (s : ByteArray) (k : Nat) (h : k < s.size) : s.data.toList.drop k = bt s k :: s.data.toList.drop (k + 1) := by
  have hl : k < s.data.toList.length := by simpa using h
  rw [List.drop_eq_getElem_cons hl]
  unfold bt
  rw [List.getD_eq_getElem?_getD, List.getElem?_eq_getElem hl]
  rfl
theorem ret_none : Ending.returned (.tuple #[.int .i64 (((0, 2) : Int × Int).1), .int .i64 (((0, 2) : Int × Int).2)]) = .returned (.tuple #[.int .i64 0, .int .i64 2]) := rfl

set_option maxRecDepth 100000 in
set_option maxHeartbeats 6000000 in
theorem find_any (rows : Int) (a : Option Addr) (gs : List Int) (cap : Nat) (s : ByteArray) (w : World) (hg : GsAt w a gs) (hlm : gs.length ≤ maxLen) (hsl : s.size ≤ maxLen) :
    Calls Tryd.prog 15 #[.agg #[.int .i64 rows, .slice a gs.length cap], .string s] w fun e w' => e = .returned (.tuple #[.int .i64 (findL rows gs s).1, .int .i64 (findL rows gs s).2]) ∧ Below w.heap.size w w' := by
  have hsl' : (s.size : Int) ≤ 9223372036854775807 := by unfold maxLen at hsl; omega
  have hb1 := bl_alloc (Below.refl w.heap.size w) (.cells #[.int .i64 rows, .slice a gs.length cap] 24)
  have HB := Lib.hid hb1
  have HG := Lib.hid (hg.keep hb1)
  obtain ⟨w0, hw0⟩ : ∃ w0, w0 = w.alloc (.cells #[.int .i64 rows, .slice a gs.length cap] 24) := ⟨_, rfl⟩
  have hblk : w0.heap[w.heap.size]? = some (.cells #[.int .i64 rows, .slice a gs.length cap] 24) := by rw [hw0]; exact blk_new w _ rfl
  have q0 : ∀ w', Below w0.heap.size w0 w' → w'.cell? ⟨w.heap.size, 0, none⟩ = some (.int .i64 rows) := fun w' h => blk_cell (blk_below hblk h (blk_lt hblk)) 0
  have q1 : ∀ w', Below w0.heap.size w0 w' → w'.cell? ⟨w.heap.size, 1, none⟩ = some (.slice a gs.length cap) := fun w' h => blk_cell (blk_below hblk h (blk_lt hblk)) 1
  rw [← hw0] at HB HG
  have HW0 := Lib.hid hw0
  clear hg hb1 hblk hw0
  have hb := Below.refl w0.heap.size w0
  by_cases hR : RightL rows gs
  · have HRR := Lib.hid (right_yes rows a gs cap w0 HG.out hR)
    have HA := Lib.hid (fun (W : World) (h : Below w0.heap.size w0 W) => across_any rows a gs cap W (HG.out.keep h) hR.2.2.2.1 hR.2.2.2.2.1)
    have HP := Lib.hid (parse_find hR s)
    have ht := hR.tot
    have hr1 := hR.1
    have hr2 := hR.2.1
    obtain ⟨T, hT⟩ : ∃ T, T = total gs := ⟨_, rfl⟩
    rw [← hT] at HA HP ht
    obtain ⟨F, hF⟩ : ∃ F, F = findL rows gs s := ⟨_, rfl⟩
    rw [← hF] at HP ⊢
    clear hT hR hF
    go_enter Tryd.func15, Tryd.ntmps15
    go_wp2_with fail
    rw [← HW0.out]
    refine (HRR.out).mono ?_; rintro e w1 ⟨rfl, hb2⟩
    replace hb := bl_trans hb hb2; clear hb2
    go_wp2_with fail
    obtain ⟨p0, hp0⟩ : ∃ p0, p0 = parse s.data.toList 0 0 (-1) := ⟨_, rfl⟩
    rw [← hp0] at HP
    have HP0 := Lib.hid hp0
    clear hp0
    go_loopg [6, 7] s.size (fun g r l wr => ∃ k : Nat, k ≤ s.size ∧ g = s.size - k ∧ ∃ row last : Int, r = .int .i64 row ∧ l = .int .i64 last ∧ 0 ≤ row ∧ row ≤ 1000 ∧ -1 ≤ last ∧ last ≤ 9 ∧ p0 = parse (s.data.toList.drop k) k row last ∧
      wr.heap[w1.heap.size]? = some (.stringIter s k) ∧ Below w1.heap.size w1 wr)
    case atStart =>
      refine ⟨0, by omega, by omega, 0, -1, rfl, rfl, by omega, by omega, by omega, by omega, ?_, ?_, ?_⟩
      · rw [HP0.out]; simp
      · exact blk_new _ _ rfl
      · exact bl_alloc (Below.refl _ _) _
    case round =>
      obtain ⟨k, k0, hgk, row, last, rfl, rfl, r0, r1, l0, l1, hpp, hit, hbel⟩ := hrel
      have hszw : w1.heap.size < wr.heap.size := blk_lt hit
      have HGK := Lib.hid hgk
      have HPP := Lib.hid hpp
      have HI := Lib.hid hit
      clear hgk hpp hit
      by_cases hk : k < s.size
      · have HDC := Lib.hid (drop_cons s k hk)
        obtain ⟨b, hbe⟩ : ∃ b, b = bt s k := ⟨_, rfl⟩
        have HBT := Lib.hid hbe
        rw [← hbe] at HDC
        rw [HDC.out] at HPP
        have hbl := b.toNat_lt
        obtain ⟨x, hx⟩ : ∃ x : Int, x = (b.toNat : Int) := ⟨_, rfl⟩
        have hx0 : 0 ≤ x ∧ x < 256 := by omega
        obtain ⟨c, c2, hrun, hc0, hc1, hc2⟩ : ∃ (c : Int) (c2 : Nat), (∀ ty, (Instr.next (.pointer (some ⟨w1.heap.size, 0, none⟩)) true ty).run Tryd.prog wr = .ok (.tuple #[.bool true, .int .i64 k, .int .i32 c]) (putObj wr (w1.heap.size) (.stringIter s (k + c2)))) ∧
            (x < 128 → c = x ∧ c2 = 1) ∧ (128 ≤ x → 128 ≤ c) ∧ 0 ≤ c := by
          by_cases hasc : x < 128
          · refine ⟨x, 1, fun ty => ?_, fun _ => ⟨rfl, rfl⟩, fun h => by omega, by omega⟩
            have hd := decode_ascii s k hk (by rw [bt_get s k hk, ← hbe]; omega)
            rw [run_next_put HI.out ty hk, hd, bt_get s k hk, ← hbe, hx]
          · refine ⟨(Utf8.decode s k).1, (Utf8.decode s k).2, fun ty => run_next_put HI.out ty hk, fun h => by omega, fun h => ?_, by omega⟩
            have := (decode_high s k hk (by rw [bt_get s k hk, ← hbe]; omega)).1
            omega
        have HR := Lib.hid hrun
        have hcr := colI_rng c
        obtain ⟨d, hd⟩ : ∃ d, d = colI c := ⟨_, rfl⟩
        have HCol := Lib.hid (fun w => column_any c w)
        rw [← hd] at HCol hcr
        have HD := Lib.hid hd
        have HX := Lib.hid hx
        have hkp := hk
        have hc00 : 128 ≤ x ∨ c = x := by omega
        have HC2 := Lib.hid (show x < 128 → c2 = 1 from fun h => (hc0 h).2)
        have hbp : Below w1.heap.size w1 (putObj wr (w1.heap.size) (.stringIter s (k + c2))) := bl_put hbel (by omega) _
        have HIT2 := Lib.hid (show (putObj wr (w1.heap.size) (.stringIter s (k + c2))).heap[w1.heap.size]? = some (.stringIter s (k + c2)) from put_same hszw)
        obtain ⟨w2, hw2⟩ : ∃ w2, w2 = putObj wr (w1.heap.size) (.stringIter s (k + c2)) := ⟨_, rfl⟩
        rw [← hw2] at HR hbp HIT2
        have HBE := Lib.hid (bl_trans HB.out (bl_trans hb hbp))
        clear hrun hd hx hc0 hbe hw2 hbl
        by_cases hstop : 0 ≤ last ∨ (k = 0 ∧ x = 48) ∨ 60 < row
        · have HN := Lib.hid (show F = (0, 2) by rw [HP.out, HPP.out, parse_stop (by rw [← HX.out]; exact hstop)]; rfl)
          rcases hstop with h1 | ⟨h1, h2⟩ | h1
          · go_wp2_with (first | (refine wpList_next rfl _ rfl _ (HR.out _) ?_) | fail)
            go_ret2
            exact ⟨ret_find HN.out, HBE.out⟩
          · subst h1
            have hcx : c = 48 := by omega
            have e1 : (c == 48) = true := by simp [hcx]
            subst hcx
            by_cases h3 : 0 ≤ last
            all_goals
              go_wp2_with (first | (refine wpList_next rfl _ rfl _ (HR.out _) ?_) | fail)
              go_ret2
              exact ⟨ret_find HN.out, HBE.out⟩
          · by_cases h3 : 0 ≤ last
            · go_wp2_with (first | (refine wpList_next rfl _ rfl _ (HR.out _) ?_) | fail)
              go_ret2
              exact ⟨ret_find HN.out, HBE.out⟩
            · by_cases h0 : k = 0
              · by_cases h48 : c = 48
                · have e0 : ((k : Int) == 0) = true := by simp [h0]
                  have e1 : (c == 48) = true := by simp [h48]
                  go_wp2_with (first | (refine wpList_next rfl _ rfl _ (HR.out _) ?_) | fail)
                  go_ret2
                  exact ⟨ret_find HN.out, HBE.out⟩
                · have e0 : ((k : Int) == 0) = true := by simp [h0]
                  have e1 : (c == 48) = false := by simp [h48]
                  go_wp2_with (first | (refine wpList_next rfl _ rfl _ (HR.out _) ?_) | fail)
                  go_ret2
                  exact ⟨ret_find HN.out, HBE.out⟩
              · have e0 : ((k : Int) == 0) = false := by rw [beq_eq_false_iff_ne]; omega
                go_wp2_with (first | (refine wpList_next rfl _ rfl _ (HR.out _) ?_) | fail)
                go_ret2
                exact ⟨ret_find HN.out, HBE.out⟩
        · have HST := Lib.hid hstop
          have hl0 : ¬ 0 ≤ last := by omega
          have hr0 : ¬ 60 < row := by omega
          obtain rfl : last = -1 := by omega
          have h48 : k = 0 → ¬ c = 48 := fun h0 hc => hstop (Or.inr (Or.inl ⟨h0, by omega⟩))
          clear hstop hl0
          by_cases hdg : 48 ≤ c ∧ c ≤ 57
          · obtain ⟨hd1, hd2⟩ := hdg
            have hxc : c = x := by omega
            obtain rfl : c2 = 1 := HC2.out (by omega)
            have HN := Lib.hid (show p0 = parse (s.data.toList.drop (k + 1)) (k + 1) (10 * row + (c - 48)) (-1) by rw [HPP.out, parse_dig (by rw [← HX.out]; exact HST.out) (by rw [← HX.out]; omega), ← HX.out, hxc])
            clear hxc hc00 hc1
            rcases Nat.eq_zero_or_pos k with hk0 | hk0
            · subst hk0
              have e1 : (c == 48) = false := by simp [h48 rfl]
              clear h48
              go_wp2_with (first | (refine wpList_next rfl _ rfl _ (HR.out _) ?_) | fail)
              go_roundg (s.size - (0 + 1))
              case measure => have := HGK.out; omega
              case rel => exact ⟨0 + 1, by omega, rfl, 10 * row + (c - 48), -1, rfl, rfl, by omega, by omega, by omega, by omega, HN.out, HIT2.out, hbp⟩
            · have e0 : ((k : Int) == 0) = false := by rw [beq_eq_false_iff_ne]; omega
              have e2 : (k == 0) = false := by rw [beq_eq_false_iff_ne]; omega
              have e3 : ¬ k = 0 := by omega
              clear h48
              go_wp2_with (first | (refine wpList_next rfl _ rfl _ (HR.out _) ?_) | fail)
              go_roundg (s.size - (k + 1))
              case measure => have := HGK.out; omega
              case rel => exact ⟨k + 1, by omega, rfl, 10 * row + (c - 48), -1, rfl, rfl, by omega, by omega, by omega, by omega, HN.out, HIT2.out, hbp⟩
          · have hdg' : c < 48 ∨ 57 < c := by omega
            clear hdg
            by_cases hdn : d < 0
            · have hcx : colI x < 0 := by
                by_cases h128 : 128 ≤ x
                · rw [colI_high h128]; omega
                · rw [show x = c by omega, ← HD.out]; exact hdn
              have HN := Lib.hid (show F = (0, 2) by rw [HP.out, HPP.out, parse_bad (by rw [← HX.out]; omega) (by rw [← HX.out]; exact hcx)]; rfl)
              clear hcx hc00 hc1
              rcases hdg' with hd1 | hd1
              all_goals
                rcases Nat.eq_zero_or_pos k with hk0 | hk0
                · subst hk0
                  have e1 : (c == 48) = false := by simp [h48 rfl]
                  clear h48
                  go_wp2_with (first | (refine wpList_next rfl _ rfl _ (HR.out _) ?_) | (go_at_call 34; refine (HCol.out _).mono ?_; rintro e w' ⟨rfl, rfl⟩))
                  go_ret2
                  exact ⟨ret_find HN.out, HBE.out⟩
                · have e0 : ((k : Int) == 0) = false := by rw [beq_eq_false_iff_ne]; omega
                  have e2 : (k == 0) = false := by rw [beq_eq_false_iff_ne]; omega
                  have e3 : ¬ k = 0 := by omega
                  clear h48
                  go_wp2_with (first | (refine wpList_next rfl _ rfl _ (HR.out _) ?_) | (go_at_call 34; refine (HCol.out _).mono ?_; rintro e w' ⟨rfl, rfl⟩))
                  go_ret2
                  exact ⟨ret_find HN.out, HBE.out⟩
            · have hxc : c = x := by
                have hnh : ¬ 128 ≤ c := fun h => by have := colI_high h; rw [← HD.out] at this; omega
                rcases hc00 with h | h
                · exact absurd (hc1 h) hnh
                · exact h
              obtain rfl : c2 = 1 := HC2.out (by have hnh : ¬ 128 ≤ c := fun h => by { have := colI_high h; rw [← HD.out] at this; omega }
                                                 omega)
              have HN := Lib.hid (show p0 = parse (s.data.toList.drop (k + 1)) (k + 1) row d by rw [HPP.out, parse_col (by rw [← HX.out]; exact HST.out) (by rw [← HX.out]; omega) (by rw [← HX.out, ← hxc, ← HD.out]; exact hdn), ← HX.out, HD.out, hxc])
              clear hxc hc00 hc1
              have hd0 : 0 ≤ d := by omega
              rcases hdg' with hd1 | hd1
              all_goals
                rcases Nat.eq_zero_or_pos k with hk0 | hk0
                · subst hk0
                  have e1 : (c == 48) = false := by simp [h48 rfl]
                  clear h48
                  go_wp2_with (first | (refine wpList_next rfl _ rfl _ (HR.out _) ?_) | (go_at_call 34; refine (HCol.out _).mono ?_; rintro e w' ⟨rfl, rfl⟩))
                  go_roundg (s.size - (0 + 1))
                  case measure => have := HGK.out; omega
                  case rel => exact ⟨0 + 1, by omega, rfl, row, d, rfl, rfl, by omega, by omega, by omega, by omega, HN.out, HIT2.out, hbp⟩
                · have e0 : ((k : Int) == 0) = false := by rw [beq_eq_false_iff_ne]; omega
                  have e2 : (k == 0) = false := by rw [beq_eq_false_iff_ne]; omega
                  have e3 : ¬ k = 0 := by omega
                  clear h48
                  go_wp2_with (first | (refine wpList_next rfl _ rfl _ (HR.out _) ?_) | (go_at_call 34; refine (HCol.out _).mono ?_; rintro e w' ⟨rfl, rfl⟩))
                  go_roundg (s.size - (k + 1))
                  case measure => have := HGK.out; omega
                  case rel => exact ⟨k + 1, by omega, rfl, row, d, rfl, rfl, by omega, by omega, by omega, by omega, HN.out, HIT2.out, hbp⟩
      · obtain rfl : k = s.size := by omega
        have HPE := Lib.hid (show p0 = some (row, last) by rw [HPP.out, List.drop_of_length_le (by simp)]; rfl)
        have hbw := bl_trans hb hbel
        have HBE := Lib.hid (bl_trans HB.out hbw)
        have HAC := Lib.hid (HA.out _ hbw)
        by_cases hbad : row < 1 ∨ rows < row ∨ last < 0 ∨ T ≤ last
        · have HN := Lib.hid (show F = (0, 2) by rw [HP.out, HPE.out]; simp only [seatOf]; rw [if_pos hbad])
          by_cases b1 : row < 1
          · go_wp2_with (first | (refine wpList_next rfl _ rfl _ (run_next_stop HI.out _ (by omega)) ?_) | fail)
            go_ret2
            exact ⟨ret_find HN.out, HBE.out⟩
          by_cases b2 : rows < row
          · go_wp2_with (first | (refine wpList_next rfl _ rfl _ (run_next_stop HI.out _ (by omega)) ?_) | fail)
            go_ret2
            exact ⟨ret_find HN.out, HBE.out⟩
          by_cases b3 : last < 0
          · go_wp2_with (first | (refine wpList_next rfl _ rfl _ (run_next_stop HI.out _ (by omega)) ?_) | fail)
            go_ret2
            exact ⟨ret_find HN.out, HBE.out⟩
          have b4 : T ≤ last := by omega
          go_wp2_with (first | (refine wpList_next rfl _ rfl _ (run_next_stop HI.out _ (by omega)) ?_) | (go_at_call 23; refine HAC.out.mono ?_; rintro e w2 ⟨rfl, hb2⟩; have hbb := bl_trans HBE.out hb2; clear hb2))
          go_ret2
          exact ⟨ret_find HN.out, hbb⟩
        · have HN := Lib.hid (show F = ((row - 1) * T + last, 0) by rw [HP.out, HPE.out]; simp only [seatOf]; rw [if_neg hbad])
          have b1 : ¬ row < 1 := by omega
          have b2 : ¬ rows < row := by omega
          have b3 : ¬ last < 0 := by omega
          have b4 : ¬ T ≤ last := by omega
          have hm0 : 0 ≤ (row - 1) * T := Int.mul_nonneg (by omega) (by omega)
          have hm1 : (row - 1) * T ≤ 60 * 10 := Int.mul_le_mul (by omega) ht.2 (by omega) (by omega)
          have hw1 : IntKind.i64.wrap ((row - 1) * T) = (row - 1) * T := by exact IntWalk.i64_in _ (by omega)
          have hw2 : IntKind.i64.wrap ((row - 1) * T + last) = (row - 1) * T + last := by exact IntWalk.i64_in _ (by omega)
          clear hbad
          go_wp2_with (first | (refine wpList_next rfl _ rfl _ (run_next_stop HI.out _ (by omega)) ?_) | fail)
          refine HAC.out.mono ?_; rintro e w2 ⟨rfl, hb2⟩
          have hbw2 := bl_trans hbw hb2
          clear hb2
          go_wp2_with fail
          refine (HA.out _ hbw2).mono ?_; rintro e w3 ⟨rfl, hb2⟩
          have hbw3 := bl_trans hbw2 hb2
          go_wp2_with fail
          go_ret2
          exact ⟨ret_find HN.out, bl_trans HB.out hbw3⟩
  · have HRR := Lib.hid (right_no rows a gs cap w0 HG.out hlm hR)
    have HF := Lib.hid (findL_bad (s := s) hR)
    rw [HF.out]
    clear hR
    go_enter Tryd.func15, Tryd.ntmps15
    go_wp2_with fail
    rw [← HW0.out]
    refine (HRR.out).mono ?_; rintro e w1 ⟨rfl, hb2⟩
    replace hb := bl_trans hb hb2; clear hb2
    go_wp2_with fail
    go_ret2
    exact ⟨rfl, bl_trans HB.out hb⟩
end Go.Proofs.YtmnoacjmdnmddaaDoor
