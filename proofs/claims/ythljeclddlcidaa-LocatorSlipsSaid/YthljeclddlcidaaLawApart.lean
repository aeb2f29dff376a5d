/- The walks of LocatorApart and LocatorSlips: each returns true. Conditions: none. -/
import Derived.Test.YthljeclddlcidaaLawRest
namespace Go.Proofs.Ythljeclddlcidaa
open Go.RowKit _root_.Go.Proofs.Ythljeclddlcidaa.Loc

theorem run_index_bt {P : Program} (t : TypeId) (ht : P.underlying t = some .string) (s : ByteArray) (k : Nat) (h : k < s.size) (hm : s.size ≤ 1000) (w : World) :
    (Instr.index t (.string s) (.int .i64 k)).run P w = .ok (.int .u8 (bt s k).toNat) w := by
  have hb := bt_get s k h
  have h1 : ((k : Int) < s.size) := by omega
  have h2 : k < s.size := h
  rw [← hb]
  simp [run_index_string w t s .i64 k ht, h]

theorem of_any (n : Int) (w : World) :
    Calls Try.prog 10 #[.int .i64 n] w fun e w' => (e = .returned (.tuple #[.string (if 0 ≤ n ∧ n < 28629151 then locS n else ⟨#[]⟩), .int .i64 (if 0 ≤ n ∧ n < 28629151 then 0 else 1)])) ∧ Below w.heap.size w w' := by
  by_cases h : 0 ≤ n ∧ n < 28629151
  · rw [if_pos h, if_pos h]; exact of_ok n w h.1 h.2
  · rw [if_neg h, if_neg h]
    refine (of_bad n w (by omega)).mono ?_
    rintro e w' ⟨rfl, rfl⟩
    exact ⟨rfl, Below.refl _ _⟩

set_option maxHeartbeats 1000000 in
/-- Where one of the two numbers has no locator, or they are the same one. -/
theorem apart_early (a b : Int) (w : World) (s t : ByteArray) (x y : Int)
    (ha : ∀ w, Calls Try.prog 10 #[.int .i64 a] w fun e w' => e = .returned (.tuple #[.string s, .int .i64 x]) ∧ Below w.heap.size w w')
    (hb : ∀ w, Calls Try.prog 10 #[.int .i64 b] w fun e w' => e = .returned (.tuple #[.string t, .int .i64 y]) ∧ Below w.heap.size w w')
    (h : (a ≠ b ∧ (x ≠ 0 ∨ y ≠ 0)) ∨ (a = b ∧ s = t ∧ x = y)) :
    Calls Try.prog 4 #[.int .i64 a, .int .i64 b] w fun e w' => e = .returned (.bool true) ∧ Below w.heap.size w w' := by
  have HA := Lib.hid ha
  have HB := Lib.hid hb
  clear ha hb
  rcases h with ⟨hne, h⟩ | ⟨rfl, rfl, rfl⟩
  · have e1 : (a == b) = false := by rw [beq_eq_false_iff_ne]; exact hne
    have e2 : (a != b) = true := by simp [bne, e1]
    by_cases hx : x = 0
    · have hy : y ≠ 0 := by omega
      have f1 : (x == 0) = true := by rw [beq_iff_eq]; exact hx
      have f2 : (x != 0) = false := by simp [bne, f1]
      have g1 : (y == 0) = false := by rw [beq_eq_false_iff_ne]; exact hy
      have g2 : (y != 0) = true := by simp [bne, g1]
      clear hx hy h hne
      go_enter Try.func4, Try.ntmps4
      go_wp2_with fail
      refine (awake_any _).mono ?_; rintro e w1 ⟨rfl, hb1⟩
      go_wp2_with fail
      refine (HA.out _).mono ?_; rintro e w2 ⟨rfl, hb2⟩
      go_wp2_with fail
      refine (HB.out _).mono ?_; rintro e w3 ⟨rfl, hb3⟩
      go_wp2
      go_ret
      exact ⟨rfl, bl_trans (bl_trans hb1 hb2) hb3⟩
    · have f1 : (x == 0) = false := by rw [beq_eq_false_iff_ne]; exact hx
      have f2 : (x != 0) = true := by simp [bne, f1]
      clear hx h hne
      go_enter Try.func4, Try.ntmps4
      go_wp2_with fail
      refine (awake_any _).mono ?_; rintro e w1 ⟨rfl, hb1⟩
      go_wp2_with fail
      refine (HA.out _).mono ?_; rintro e w2 ⟨rfl, hb2⟩
      go_wp2_with fail
      refine (HB.out _).mono ?_; rintro e w3 ⟨rfl, hb3⟩
      go_wp2
      go_ret
      exact ⟨rfl, bl_trans (bl_trans hb1 hb2) hb3⟩
  · by_cases hx : x = 0
    · have f1 : (x == 0) = true := by rw [beq_iff_eq]; exact hx
      have f2 : (x != 0) = false := by simp [bne, f1]
      clear hx
      go_enter Try.func4, Try.ntmps4
      go_wp2_with fail
      refine (awake_any _).mono ?_; rintro e w1 ⟨rfl, hb1⟩
      go_wp2_with fail
      refine (HA.out _).mono ?_; rintro e w2 ⟨rfl, hb2⟩
      go_wp2_with fail
      refine (HB.out _).mono ?_; rintro e w3 ⟨rfl, hb3⟩
      go_wp2
      go_ret
      exact ⟨rfl, bl_trans (bl_trans hb1 hb2) hb3⟩
    · have f1 : (x == 0) = false := by rw [beq_eq_false_iff_ne]; exact hx
      have f2 : (x != 0) = true := by simp [bne, f1]
      clear hx
      go_enter Try.func4, Try.ntmps4
      go_wp2_with fail
      refine (awake_any _).mono ?_; rintro e w1 ⟨rfl, hb1⟩
      go_wp2_with fail
      refine (HA.out _).mono ?_; rintro e w2 ⟨rfl, hb2⟩
      go_wp2_with fail
      refine (HB.out _).mono ?_; rintro e w3 ⟨rfl, hb3⟩
      go_wp2
      go_ret
      exact ⟨rfl, bl_trans (bl_trans hb1 hb2) hb3⟩

set_option maxRecDepth 100000 in
set_option maxHeartbeats 2000000 in
theorem apart_late (a b : Int) (w : World) (s t : ByteArray) (hs : s.size = 6) (ht : t.size = 6) (hne : a ≠ b) (hc : 2 ≤ cnt s t 6)
    (ha : ∀ w, Calls Try.prog 10 #[.int .i64 a] w fun e w' => e = .returned (.tuple #[.string s, .int .i64 0]) ∧ Below w.heap.size w w')
    (hb : ∀ w, Calls Try.prog 10 #[.int .i64 b] w fun e w' => e = .returned (.tuple #[.string t, .int .i64 0]) ∧ Below w.heap.size w w') :
    Calls Try.prog 4 #[.int .i64 a, .int .i64 b] w fun e w' => e = .returned (.bool true) ∧ Below w.heap.size w w' := by
  have HA := Lib.hid ha
  have HB := Lib.hid hb
  have HS := Lib.hid hs
  have HT := Lib.hid ht
  have e1 : (a == b) = false := by rw [beq_eq_false_iff_ne]; exact hne
  have e2 : (a != b) = true := by simp [bne, e1]
  have f1 : ((s.size : Int) == 6) = true := by rw [beq_iff_eq]; omega
  have f2 : ((s.size : Int) != 6) = false := by simp [bne, f1]
  have g1 : ((t.size : Int) == 6) = true := by rw [beq_iff_eq]; omega
  have g2 : ((t.size : Int) != 6) = false := by simp [bne, g1]
  clear ha hb hne hs ht
  go_enter Try.func4, Try.ntmps4
  go_wp2_with fail
  refine (awake_any _).mono ?_; rintro e w1 ⟨rfl, hb1⟩
  go_wp2_with fail
  refine (HA.out _).mono ?_; rintro e w2 ⟨rfl, hb2⟩
  go_wp2_with fail
  refine (HB.out _).mono ?_; rintro e w3 ⟨rfl, hb3⟩
  go_wp2
  have hbw : Below w.heap.size w w3 := bl_trans (bl_trans hb1 hb2) hb3
  clear e1 e2 f1 f2 g1 g2 hb1 hb2 hb3
  go_loopg [10, 11] 6 (fun g n i wr => ∃ k : Nat, k ≤ 6 ∧ g = 6 - k ∧ i = .int .i64 k ∧ n = .int .i64 (cnt s t k) ∧ Below w.heap.size w wr)
  case atStart => exact ⟨0, by omega, rfl, rfl, rfl, hbw⟩
  case round =>
    obtain ⟨k, k0, hg, rfl, rfl, hbel⟩ := hrel
    have HG := Lib.hid hg
    clear hg
    have hle := cnt_le s t k
    by_cases hk : k < 6
    · have is := run_index_bt (P := Try.prog) 9 Try.underlying9 s k (by rw [HS.out]; exact hk) (by rw [HS.out]; omega)
      have it := run_index_bt (P := Try.prog) 9 Try.underlying9 t k (by rw [HT.out]; exact hk) (by rw [HT.out]; omega)
      by_cases hbb : bt s k = bt t k
      · have q1 : (((bt s k).toNat : Int) == (bt t k).toNat) = true := by rw [hbb]; simp
        have q2 : (((bt s k).toNat : Int) != (bt t k).toNat) = false := by simp [bne, q1]
        have HBB := Lib.hid hbb
        clear hbb
        go_wp2
        go_quiet (fail)
        go_wp2
        go_roundg (6 - (k + 1))
        case measure => have := HG.out; omega
        case rel => exact ⟨k + 1, by omega, rfl, by go_num, by rw [cnt, if_pos HBB.out]; rfl, bl_drewN hbel _⟩
      · have q1 : (((bt s k).toNat : Int) == (bt t k).toNat) = false := by
          rw [beq_eq_false_iff_ne]; intro h; exact hbb (UInt8.toNat_inj.1 (by omega))
        have q2 : (((bt s k).toNat : Int) != (bt t k).toNat) = true := by simp [bne, q1]
        have HBB := Lib.hid hbb
        clear hbb
        go_wp2
        go_quiet (fail)
        go_wp2
        go_roundg (6 - (k + 1))
        case measure => have := HG.out; omega
        case rel => exact ⟨k + 1, by omega, rfl, by go_num, by rw [cnt, if_neg HBB.out]; go_num, bl_drewN hbel _⟩
    · obtain rfl : k = 6 := by omega
      have hc' : (2 : Int) ≤ (cnt s t 6 : Nat) := by omega
      go_wp2
      go_ret
      exact ⟨ret_bool (by simp), hbel⟩

theorem apart_walk (a b : Int) (w : World) (_ : (Lit.int .i64 a).wf = true) (_ : (Lit.int .i64 b).wf = true) :
    Calls Try.prog 4 #[.int .i64 a, .int .i64 b] w fun e w' => e = .returned (.bool true) ∧ Below w.heap.size w w' := by
  by_cases ha : 0 ≤ a ∧ a < 28629151
  · by_cases hb : 0 ≤ b ∧ b < 28629151
    · by_cases hne : a = b
      · subst hne
        exact apart_early a a w _ _ _ _ (fun w => of_ok a w ha.1 ha.2) (fun w => of_ok a w ha.1 ha.2) (.inr ⟨rfl, rfl, rfl⟩)
      · exact apart_late a b w (locS a) (locS b) rfl rfl hne (apart ha.1 ha.2 hb.1 hb.2 hne) (fun w => of_ok a w ha.1 ha.2) (fun w => of_ok b w hb.1 hb.2)
    · exact apart_early a b w _ _ _ _ (fun w => of_any a w) (fun w => of_any b w) (.inl ⟨fun e => hb (e ▸ ha), .inr (by rw [if_neg hb]; decide)⟩)
  · by_cases hne : a = b
    · subst hne
      exact apart_early a a w _ _ _ _ (fun w => of_any a w) (fun w => of_any a w) (.inr ⟨rfl, rfl, rfl⟩)
    · exact apart_early a b w _ _ _ _ (fun w => of_any a w) (fun w => of_any b w) (.inl ⟨hne, .inl (by rw [if_neg ha]; decide)⟩)
end Go.Proofs.Ythljeclddlcidaa
