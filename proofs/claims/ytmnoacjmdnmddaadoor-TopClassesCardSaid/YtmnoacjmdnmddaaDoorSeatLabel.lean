/- What strconv.Itoa comes to at 0 to 99, and seat.Label. Conditions: none. -/
import Derived.Test.YtmnoacjmdnmddaaDoorSeatCount
namespace Go.Proofs.YtmnoacjmdnmddaaDoor
open Go.RowKit

/-- A number below 100, in digits. -/
def itoaS (k : Nat) : ByteArray := if k < 10 then ⟨#[UInt8.ofNat (48 + k)]⟩ else ⟨#[UInt8.ofNat (48 + k / 10), UInt8.ofNat (48 + k % 10)]⟩
theorem ret_str {a b : ByteArray} (h : a = b) : Ending.returned (.string a) = .returned (.string b) := by rw [h]

set_option maxRecDepth 100000 in
theorem small10 : ∀ k : Nat, k < 10 → (⟨#[48, 49, 50, 51, 52, 53, 54, 55, 56, 57, 97, 98, 99, 100, 101, 102, 103, 104, 105, 106, 107, 108, 109, 110, 111, 112, 113, 114, 115, 116, 117, 118, 119, 120, 121, 122]⟩ : ByteArray).extract k (k + 1) = itoaS k := by decide +kernel
set_option maxRecDepth 100000 in
theorem small100 : ∀ k : Nat, k < 100 → 10 ≤ k → (⟨#[48, 48, 48, 49, 48, 50, 48, 51, 48, 52, 48, 53, 48, 54, 48, 55, 48, 56, 48, 57, 49, 48, 49, 49, 49, 50, 49, 51, 49, 52, 49, 53, 49, 54, 49, 55, 49, 56, 49, 57, 50, 48, 50, 49, 50, 50, 50, 51, 50, 52, 50, 53, 50, 54, 50, 55, 50, 56, 50, 57, 51, 48, 51, 49, 51, 50, 51, 51, 51, 52, 51, 53, 51, 54, 51, 55, 51, 56, 51, 57, 52, 48, 52, 49, 52, 50, 52, 51, 52, 52, 52, 53, 52, 54, 52, 55, 52, 56, 52, 57, 53, 48, 53, 49, 53, 50, 53, 51, 53, 52, 53, 53, 53, 54, 53, 55, 53, 56, 53, 57, 54, 48, 54, 49, 54, 50, 54, 51, 54, 52, 54, 53, 54, 54, 54, 55, 54, 56, 54, 57, 55, 48, 55, 49, 55, 50, 55, 51, 55, 52, 55, 53, 55, 54, 55, 55, 55, 56, 55, 57, 56, 48, 56, 49, 56, 50, 56, 51, 56, 52, 56, 53, 56, 54, 56, 55, 56, 56, 56, 57, 57, 48, 57, 49, 57, 50, 57, 51, 57, 52, 57, 53, 57, 54, 57, 55, 57, 56, 57, 57]⟩ : ByteArray).extract (k * 2) (k * 2 + 2) = itoaS k := by decide +kernel
set_option maxRecDepth 100000 in
theorem small_any (k : Nat) (w : World) (h1 : k < 100) :
    Calls Tryd.prog 90 #[.int .i64 k] w fun e w' => e = .returned (.string (itoaS k)) ∧ w = w' := by
  by_cases h : k < 10
  · go_enter Tryd.func90, Tryd.ntmps90
    go_wp2
    go_ret
    exact ⟨ret_str (small10 k h), rfl⟩
  · go_enter Tryd.func90, Tryd.ntmps90
    go_wp2
    go_ret
    exact ⟨ret_str (small100 k h1 (by omega)), rfl⟩

theorem formatInt_any (k : Nat) (w : World) (h1 : k < 100) :
    Calls Tryd.prog 80 #[.int .i64 k, .int .i64 10] w fun e w' => e = .returned (.string (itoaS k)) ∧ w = w' := by
  go_enter Tryd.func80, Tryd.ntmps80
  go_wp2_with (go_at_call 90; refine (small_any k _ h1).mono ?_; rintro e w' ⟨rfl, rfl⟩)
  go_ret
  exact ⟨rfl, rfl⟩
theorem itoa_any (k : Nat) (w : World) (h1 : k < 100) :
    Calls Tryd.prog 57 #[.int .i64 k] w fun e w' => e = .returned (.string (itoaS k)) ∧ w = w' := by
  have HI : ∀ w, Calls Tryd.prog 65 #[.int .i64 k] w fun e w' => e = .returned (.string (itoaS k)) ∧ w = w' := by
    intro w
    go_enter Tryd.func65, Tryd.ntmps65
    go_wp2_with (go_at_call 80; refine (formatInt_any k _ h1).mono ?_; rintro e w' ⟨rfl, rfl⟩)
    go_ret
    exact ⟨rfl, rfl⟩
  have H := Lib.hid HI
  clear HI
  go_enter Tryd.func57, Tryd.ntmps57
  go_wp2_with (go_at_call 65; refine (H.out _).mono ?_; rintro e w' ⟨rfl, rfl⟩)
  go_ret
  exact ⟨rfl, rfl⟩

/-- The letter of a column. -/
def letter (c : Nat) : UInt8 := (#[65, 66, 67, 68, 69, 70, 71, 72, 74, 75] : Array UInt8).getD c 0
/-- The name of the seat in row r (from 0 on) and column c. -/
def nameS (r c : Nat) : ByteArray := itoaS (r + 1) ++ ⟨#[letter c]⟩
theorem itoaS_size (k : Nat) : (itoaS k).size ≤ 2 := by unfold itoaS; split <;> simp [ByteArray.size]

set_option maxRecDepth 100000 in
theorem run_letter (c : Nat) (h : c < 10) (w : World) :
    (Instr.slice 9 (.string { data := #[65, 66, 67, 68, 69, 70, 71, 72, 74, 75] }) (some (.int .i64 (c : Int))) (some (.int .i64 ((c : Int) + 1))) none).run Tryd.prog w = .ok (.string ⟨#[letter c]⟩) w := by
  have h' : c = 0 ∨ c = 1 ∨ c = 2 ∨ c = 3 ∨ c = 4 ∨ c = 5 ∨ c = 6 ∨ c = 7 ∨ c = 8 ∨ c = 9 := by omega
  rcases h' with h' | h' | h' | h' | h' | h' | h' | h' | h' | h' <;> (subst h'; clear h; exact (by kernel_rfl : _ = _))

theorem label_bad (rows : Int) (a : Option Addr) (gs : List Int) (cap : Nat) (n : Int) (w : World) (hg : GsAt w a gs) (hlm : gs.length ≤ maxLen) (h : ¬ hasL rows gs n) :
    Calls Tryd.prog 47 #[.agg #[.int .i64 rows, .slice a gs.length cap], .int .i64 n] w fun e w' => e = .returned (.tuple #[.string ⟨#[]⟩, .int .i64 1]) ∧ Below w.heap.size w w' := by
  have hb1 := bl_alloc (Below.refl w.heap.size w) (.cells #[.int .i64 rows, .slice a gs.length cap] 24)
  have HB := Lib.hid hb1
  have HH := Lib.hid (has_n rows a gs cap n _ (hg.keep hb1) hlm h)
  clear hg hb1 h
  go_enter Tryd.func47, Tryd.ntmps47
  go_wp2_with (go_at_call 41; refine HH.out.mono ?_; rintro e w1 ⟨rfl, hb2⟩)
  go_ret2
  exact ⟨rfl, bl_trans HB.out hb2⟩

/-- Row and column of a seat. -/
theorem seat_rc {rows : Int} {gs : List Int} {n : Int} (h : hasL rows gs n) : ∃ r c W : Nat, total gs = W ∧ n = r * W + c ∧ c < W ∧ W ≤ 10 ∧ (r : Int) < rows ∧ r < 60 ∧ 1 ≤ W := by
  have hr := h.right
  have ht := hr.tot
  have hc := countL_yes hr
  obtain ⟨h1, h2⟩ := h
  rw [hc] at h2
  refine ⟨(n / total gs).toNat, (n % total gs).toNat, (total gs).toNat, by omega, ?_, ?_, by omega, ?_, ?_, by omega⟩
  · have e1 : ((n / total gs).toNat : Int) = n / total gs := Int.toNat_of_nonneg (Int.ediv_nonneg h1 (by omega))
    have e2 : ((n % total gs).toNat : Int) = n % total gs := Int.toNat_of_nonneg (Int.emod_nonneg _ (by omega))
    have e3 : ((total gs).toNat : Int) = total gs := by omega
    rw [e1, e2, e3, Int.mul_comm]
    exact (Int.mul_ediv_add_emod n (total gs)).symm
  · have := Int.emod_lt_of_pos n (show 0 < total gs by omega)
    have := Int.emod_nonneg n (show total gs ≠ 0 by omega)
    omega
  · have e1 : ((n / total gs).toNat : Int) = n / total gs := Int.toNat_of_nonneg (Int.ediv_nonneg h1 (by omega))
    rw [e1]
    exact Int.ediv_lt_of_lt_mul (by omega) h2
  · have e1 : ((n / total gs).toNat : Int) = n / total gs := Int.toNat_of_nonneg (Int.ediv_nonneg h1 (by omega))
    have := Int.ediv_lt_of_lt_mul (show 0 < total gs by omega) h2
    have := hr.2.1
    omega

set_option maxHeartbeats 1000000 in
theorem label_ok (rows : Int) (a : Option Addr) (gs : List Int) (cap : Nat) (n : Int) (w : World) (hg : GsAt w a gs) (hlm : gs.length ≤ maxLen) (h : hasL rows gs n) (r c W : Nat)
    (hW : total gs = W) (hn : n = r * W + c) (hc : c < W) (hW10 : W ≤ 10) (hr : r < 60) :
    Calls Tryd.prog 47 #[.agg #[.int .i64 rows, .slice a gs.length cap], .int .i64 n] w fun e w' => e = .returned (.tuple #[.string (nameS r c), .int .i64 0]) ∧ Below w.heap.size w w' := by
  have hb1 := bl_alloc (Below.refl w.heap.size w) (.cells #[.int .i64 rows, .slice a gs.length cap] 24)
  have HB := Lib.hid hb1
  have HG := Lib.hid (hg.keep hb1)
  have HH := Lib.hid (has_y rows a gs cap n _ (hg.keep hb1) hlm h)
  have hR := h.right
  have HR := Lib.hid hR
  have HW := Lib.hid hW
  have hn0 := h.1
  have hn1 : n ≤ 600 := by have := h.2; have := (countL_rng rows gs).2; omega
  have hd : n / (W : Int) = r := by
    rw [hn, Int.add_comm, Int.add_mul_ediv_right _ _ (by omega), Int.ediv_eq_zero_of_lt (by omega) (by omega)]; omega
  have hm : n % (W : Int) = c := by
    rw [hn, Int.add_comm, Int.add_mul_emod_self_right, Int.emod_eq_of_lt (by omega) (by omega)]
  have HD := Lib.hid hd
  have HM := Lib.hid hm
  have HN := Lib.hid hn
  clear hg hb1 h hR hW hn hd hm
  go_enter Tryd.func47, Tryd.ntmps47
  go_wp2_with fail
  refine HH.out.mono ?_; rintro e w1 ⟨rfl, hb2⟩
  have hblk := blk_below (blk_new w (.cells #[.int .i64 rows, .slice a gs.length cap] 24) rfl) hb2 (by simp)
  have q0 : w1.cell? ⟨w.heap.size, 0, none⟩ = some (.int .i64 rows) := blk_cell hblk 0
  have q1 : w1.cell? ⟨w.heap.size, 1, none⟩ = some (.slice a gs.length cap) := blk_cell hblk 1
  have HG1 := Lib.hid (HG.out.keep hb2)
  have HB2 := Lib.hid (bl_trans HB.out hb2)
  clear hblk hb2
  go_wp2_with (go_at_call 23; refine (across_any rows a gs cap _ HG1.out HR.out.2.2.2.1 HR.out.2.2.2.2.1).mono ?_; rw [HW.out]; rintro e w2 ⟨rfl, hb3⟩)
  have HB3 := Lib.hid (bl_trans HB2.out hb3)
  clear hb3 q0 q1
  have f1 : n.tdiv (W : Int) = r := by rw [Int.tdiv_eq_ediv_of_nonneg hn0]; exact HD.out
  have f2 : n.tmod (W : Int) = c := by rw [Int.tmod_eq_emod_of_nonneg hn0]; exact HM.out
  have f3 := HD.out
  have f4 := HM.out
  have f5 : IntKind.i64.wrap (r : Int) = r := by exact IntWalk.i64_in _ (by omega)
  have f6 : IntKind.i64.wrap ((r : Int) + 1) = (r : Int) + 1 := by exact IntWalk.i64_in _ (by omega)
  have f7 : IntKind.i64.wrap ((c : Int) + 1) = (c : Int) + 1 := by exact IntWalk.i64_in _ (by omega)
  have f8 : ((W : Int) == 0) = false := by rw [beq_eq_false_iff_ne]; omega
  have g1 : ¬ W = 0 := by omega
  have g2 : (W == 0) = false := by rw [beq_eq_false_iff_ne]; omega
  have g3 : ¬ (W : Int) = 0 := by omega
  have f9 : IntKind.i64.wrap (c : Int) = c := by exact IntWalk.i64_in _ (by omega)
  have hit : ∀ w, Calls Tryd.prog 57 #[.int .i64 ((r : Int) + 1)] w fun e w' => e = .returned (.string (itoaS (r + 1))) ∧ w = w' := fun w => by
    have := itoa_any (r + 1) w (by omega)
    simpa using this
  have HIT := Lib.hid hit
  have hl := run_letter c (by omega)
  have hadd : ∀ w : World, (Op.stringOp .add (itoaS (r + 1)) ⟨#[letter c]⟩).run Tryd.prog w = .ok (.string (nameS r c)) w := fun w => by
    have hz := itoaS_size (r + 1)
    have h1 : (⟨#[letter c]⟩ : ByteArray).size = 1 := rfl
    exact run_string_add_sum w _ _ (by omega)
  clear hit
  go_wp2
  go_quiet ((go_at_call 57; exact quiet_left (HIT.out _)))
  go_wp2
  go_ret2
  exact ⟨rfl, bl_drewN HB3.out _⟩

/-- The name of the n-th seat where a row has W. -/
def labS (W n : Int) : ByteArray := nameS (n / W).toNat (n % W).toNat
theorem label_yes (rows : Int) (a : Option Addr) (gs : List Int) (cap : Nat) (n : Int) (w : World) (hg : GsAt w a gs) (hlm : gs.length ≤ maxLen) (h : hasL rows gs n) :
    Calls Tryd.prog 47 #[.agg #[.int .i64 rows, .slice a gs.length cap], .int .i64 n] w fun e w' => e = .returned (.tuple #[.string (labS (total gs) n), .int .i64 0]) ∧ Below w.heap.size w w' := by
  obtain ⟨r, c, W, hW, hn, hc, hW10, _, hr, hW1⟩ := seat_rc h
  have e1 : (n / total gs).toNat = r := by
    rw [hW, hn, Int.add_comm, Int.add_mul_ediv_right _ _ (by omega), Int.ediv_eq_zero_of_lt (by omega) (by omega)]; omega
  have e2 : (n % total gs).toNat = c := by
    rw [hW, hn, Int.add_comm, Int.add_mul_emod_self_right, Int.emod_eq_of_lt (by omega) (by omega)]; omega
  unfold labS
  rw [e1, e2]
  exact label_ok rows a gs cap n w hg hlm h r c W hW hn hc hW10 hr

/-! Unlike seats have unlike names. -/
theorem letter_inj : ∀ a b : Nat, a < 10 → b < 10 → letter a = letter b → a = b := by
  have h : ∀ a : Nat, a < 10 → ∀ b : Nat, b < 10 → letter a = letter b → a = b := by decide +kernel
  exact fun a b ha hb => h a ha b hb
theorem itoaS_inj : ∀ a b : Nat, a < 61 → b < 61 → (itoaS a).data.toList = (itoaS b).data.toList → a = b := by
  have h : ∀ a : Nat, a < 61 → ∀ b : Nat, b < 61 → (itoaS a).data.toList = (itoaS b).data.toList → a = b := by decide +kernel
  exact fun a b ha hb => h a ha b hb
theorem nameS_inj {r c r' c' : Nat} (hr : r < 60) (hr' : r' < 60) (hc : c < 10) (hc' : c' < 10) (h : nameS r c = nameS r' c') : r = r' ∧ c = c' := by
  have hl : (itoaS (r + 1)).data.toList ++ [letter c] = (itoaS (r' + 1)).data.toList ++ [letter c'] := by
    have := congrArg (fun s : ByteArray => s.data.toList) h
    simpa [nameS] using this
  have h1 := (List.append_inj' hl rfl).1
  have h2 := (List.append_inj' hl rfl).2
  have h3 := itoaS_inj _ _ (by omega) (by omega) h1
  have h4 := letter_inj c c' hc hc' (by simpa using h2)
  exact ⟨by omega, h4⟩
theorem labS_inj {rows : Int} {gs : List Int} {a b : Int} (ha : hasL rows gs a) (hb : hasL rows gs b) (h : labS (total gs) a = labS (total gs) b) : a = b := by
  obtain ⟨r, c, W, hW, hn, hc, hW10, _, hr, hW1⟩ := seat_rc ha
  obtain ⟨r', c', W', hW', hn', hc', _, _, hr', _⟩ := seat_rc hb
  have hWW : W = W' := by omega
  subst hWW
  have e1 : (a / total gs).toNat = r := by
    rw [hW, hn, Int.add_comm, Int.add_mul_ediv_right _ _ (by omega), Int.ediv_eq_zero_of_lt (by omega) (by omega)]; omega
  have e2 : (a % total gs).toNat = c := by
    rw [hW, hn, Int.add_comm, Int.add_mul_emod_self_right, Int.emod_eq_of_lt (by omega) (by omega)]; omega
  have e1' : (b / total gs).toNat = r' := by
    rw [hW, hn', Int.add_comm, Int.add_mul_ediv_right _ _ (by omega), Int.ediv_eq_zero_of_lt (by omega) (by omega)]; omega
  have e2' : (b % total gs).toNat = c' := by
    rw [hW, hn', Int.add_comm, Int.add_mul_emod_self_right, Int.emod_eq_of_lt (by omega) (by omega)]; omega
  unfold labS at h
  rw [e1, e2, e1', e2'] at h
  obtain ⟨q1, q2⟩ := nameS_inj hr hr' (by omega) (by omega) h
  rw [hn, hn', q1, q2]
end Go.Proofs.YtmnoacjmdnmddaaDoor
