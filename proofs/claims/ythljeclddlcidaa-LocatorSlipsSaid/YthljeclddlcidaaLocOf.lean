/- What jetway/locator.Of comes to: of a number from 0 to 28629150 its locator, of any other one the error. Conditions: none. -/
import Derived.Test.YthljeclddlcidaaAid
import Derived.Test.YthljeclddlcidaaLocPlain
namespace Go.Proofs.Ythljeclddlcidaa
open Go.RowKit _root_.Go.Proofs.Ythljeclddlcidaa.Loc

set_option maxRecDepth 100000 in
set_option maxHeartbeats 1000000 in
theorem of_bad (n : Int) (w : World) (h : n < 0 ∨ 28629151 ≤ n) :
    Calls Try.prog 10 #[.int .i64 n] w fun e w' => e = .returned (.tuple #[.string ⟨#[]⟩, .int .i64 1]) ∧ w = w' := by
  rcases h with h | h
  · go_enter Try.func10, Try.ntmps10
    go_wp2
    go_ret2
    exact ⟨rfl, rfl⟩
  · have h' : ¬ n < 0 := by omega
    go_enter Try.func10, Try.ntmps10
    go_wp2
    go_ret2
    exact ⟨rfl, rfl⟩

theorem weighed_any (w : World) :
    Calls Try.prog 14 #[] w fun e w' => e = .returned (.func (.func 18) #[] #[.pointer (some ⟨w.heap.size, 0, none⟩), .pointer (some ⟨w.heap.size + 1, 0, none⟩)]) ∧
      (w.alloc (.cells #[.int .i64 0] 3)).alloc (.cells #[.int .i64 2] 3) = w' := by
  go_enter Try.func14, Try.ntmps14
  go_wp2
  go_ret
  exact ⟨rfl, rfl⟩

theorem idx_sign (d : Int) (h0 : 0 ≤ d) (h1 : d < 31) (w : World) : (Instr.index 9 (.string { data := #[65, 66, 67, 68, 69, 70, 71, 72, 74, 75, 76, 77, 78, 80, 81, 82, 84, 85, 86, 87, 88, 89, 90, 50, 51, 52, 53, 54, 55, 56, 57] }) (.int .i64 d)).run Try.prog w = .ok (.int .u8 (sg d)) w := by
  have h : d = 0 ∨ d = 1 ∨ d = 2 ∨ d = 3 ∨ d = 4 ∨ d = 5 ∨ d = 6 ∨ d = 7 ∨ d = 8 ∨ d = 9 ∨ d = 10 ∨ d = 11 ∨ d = 12 ∨ d = 13 ∨ d = 14 ∨ d = 15 ∨ d = 16 ∨ d = 17 ∨ d = 18 ∨ d = 19 ∨ d = 20 ∨ d = 21 ∨ d = 22 ∨ d = 23 ∨ d = 24 ∨ d = 25 ∨ d = 26 ∨ d = 27 ∨ d = 28 ∨ d = 29 ∨ d = 30 := by omega
  rcases h with h | h | h | h | h | h | h | h | h | h | h | h | h | h | h | h | h | h | h | h | h | h | h | h | h | h | h | h | h | h | h <;> (subst h; clear h0 h1; exact (by kernel_rfl : _ = _))

theorem closure_any (s wt d : Int) (bs bw : Nat) (w : World) (hs : w.cell? ⟨bs, 0, none⟩ = some (.int .i64 s)) (hw : w.cell? ⟨bw, 0, none⟩ = some (.int .i64 wt))
    (fs : w.frozen? ⟨bs, 0, none⟩ = false) (fw : w.frozen? ⟨bw, 0, none⟩ = false) (hne : bs ≠ bw) (h0 : 0 ≤ s) (h1 : s < 31) (h2 : 2 ≤ wt) (h3 : wt ≤ 10) (h4 : 0 ≤ d) (h5 : d < 31) :
    Calls Try.prog 18 #[.int .i64 d, .pointer (some ⟨bs, 0, none⟩), .pointer (some ⟨bw, 0, none⟩)] w fun e w' => ∃ s' : Int, 0 ≤ s' ∧ s' < 31 ∧ Hid (s' = (s + wt * d) % 31) ∧
      e = .returned (.int .i64 s') ∧ (w.setCell ⟨bs, 0, none⟩ (.int .i64 s')).setCell ⟨bw, 0, none⟩ (.int .i64 (wt + 1)) = w' := by
  have p0 : 0 ≤ wt * d := Int.mul_nonneg (by omega) h4
  have p1 : wt * d ≤ 10 * 30 := Int.mul_le_mul h3 (by omega) h4 (by omega)
  have hne' : bw ≠ bs := Ne.symm hne
  go_enter Try.func18, Try.ntmps18
  go_wp2
  go_ret
  exact ⟨_, by omega, by omega, rfl, rfl, rfl⟩

theorem idx5_0 (x0 x1 x2 x3 x4 : Value) (w : World) : (Instr.index 35 (.agg #[x0, x1, x2, x3, x4]) (.int .i64 0)).run Try.prog w = .ok x0 w := by kernel_rfl
theorem idx5_1 (x0 x1 x2 x3 x4 : Value) (w : World) : (Instr.index 35 (.agg #[x0, x1, x2, x3, x4]) (.int .i64 1)).run Try.prog w = .ok x1 w := by kernel_rfl
theorem idx5_2 (x0 x1 x2 x3 x4 : Value) (w : World) : (Instr.index 35 (.agg #[x0, x1, x2, x3, x4]) (.int .i64 2)).run Try.prog w = .ok x2 w := by kernel_rfl
theorem idx5_3 (x0 x1 x2 x3 x4 : Value) (w : World) : (Instr.index 35 (.agg #[x0, x1, x2, x3, x4]) (.int .i64 3)).run Try.prog w = .ok x3 w := by kernel_rfl
theorem idx5_4 (x0 x1 x2 x3 x4 : Value) (w : World) : (Instr.index 35 (.agg #[x0, x1, x2, x3, x4]) (.int .i64 4)).run Try.prog w = .ok x4 w := by kernel_rfl

set_option maxRecDepth 100000 in
set_option maxHeartbeats 2000000 in
theorem of_ok (n : Int) (w : World) (h0 : 0 ≤ n) (h1 : n < 28629151) :
    Calls Try.prog 10 #[.int .i64 n] w fun e w' => e = .returned (.tuple #[.string (locS n), .int .i64 0]) ∧ Below w.heap.size w w' := by
  have i0 := idx5_0
  have i1 := idx5_1
  have i2 := idx5_2
  have i3 := idx5_3
  have i4 := idx5_4
  go_enter Try.func10, Try.ntmps10
  go_wp2
  refine wp_loop_rounds 6 ?_
  iterate 5 (rw [rounds_succ]; go_wp2)
  rw [rounds_succ]
  go_wp2_with (go_at_call 14; refine (weighed_any _).mono ?_; rintro e w' ⟨rfl, rfl⟩)
  generalize e0 : n / 31 / 31 / 31 / 31 % 31 = d0
  generalize e1 : n / 31 / 31 / 31 % 31 = d1
  generalize e2 : n / 31 / 31 % 31 = d2
  generalize e3 : n / 31 % 31 = d3
  generalize e4 : n % 31 = d4
  generalize n / 31 / 31 / 31 / 31 / 31 = y0
  generalize n / 31 / 31 / 31 / 31 = y1
  have b0 : 0 ≤ d0 ∧ d0 < 31 := by omega
  have b1 : 0 ≤ d1 ∧ d1 < 31 := by omega
  have b2 : 0 ≤ d2 ∧ d2 < 31 := by omega
  have b3 : 0 ≤ d3 ∧ d3 < 31 := by omega
  have b4 : 0 ≤ d4 ∧ d4 < 31 := by omega
  have E0 := Lib.hid e0
  have E1 := Lib.hid e1
  have E2 := Lib.hid e2
  have E3 := Lib.hid e3
  have E4 := Lib.hid e4
  clear e0 e1 e2 e3 e4
  refine wp_loop_rounds 6 ?_
  rw [rounds_succ]
  go_wp2_with (first | (refine wpList_index rfl 9 _ _ rfl _ (idx_sign _ (by omega) (by omega) _) ?_) | fail)
  refine (closure_any 0 2 _ _ _ _ (by simp [go_sem]) (by simp [go_sem]) (by simp [go_sem]) (by simp [go_sem]) (by omega) (by omega) (by omega) (by omega) (by omega) (by omega) (by omega)).mono ?_
  rintro e w' ⟨s1, q1, r1, H1, rfl, rfl⟩
  go_wp2
  rw [rounds_succ]
  go_wp2_with (first | (refine wpList_index rfl 9 _ _ rfl _ (idx_sign _ (by omega) (by omega) _) ?_) | fail)
  refine (closure_any s1 3 _ _ _ _ (by simp [go_sem]) (by simp [go_sem]) (by simp [go_sem]) (by simp [go_sem]) (by omega) (by omega) (by omega) (by omega) (by omega) (by omega) (by omega)).mono ?_
  rintro e w' ⟨s2, q2, r2, H2, rfl, rfl⟩
  go_wp2
  rw [rounds_succ]
  go_wp2_with (first | (refine wpList_index rfl 9 _ _ rfl _ (idx_sign _ (by omega) (by omega) _) ?_) | fail)
  refine (closure_any s2 4 _ _ _ _ (by simp [go_sem]) (by simp [go_sem]) (by simp [go_sem]) (by simp [go_sem]) (by omega) (by omega) (by omega) (by omega) (by omega) (by omega) (by omega)).mono ?_
  rintro e w' ⟨s3, q3, r3, H3, rfl, rfl⟩
  go_wp2
  rw [rounds_succ]
  go_wp2_with (first | (refine wpList_index rfl 9 _ _ rfl _ (idx_sign _ (by omega) (by omega) _) ?_) | fail)
  refine (closure_any s3 5 _ _ _ _ (by simp [go_sem]) (by simp [go_sem]) (by simp [go_sem]) (by simp [go_sem]) (by omega) (by omega) (by omega) (by omega) (by omega) (by omega) (by omega)).mono ?_
  rintro e w' ⟨s4, q4, r4, H4, rfl, rfl⟩
  go_wp2
  rw [rounds_succ]
  go_wp2_with (first | (refine wpList_index rfl 9 _ _ rfl _ (idx_sign _ (by omega) (by omega) _) ?_) | fail)
  refine (closure_any s4 6 _ _ _ _ (by simp [go_sem]) (by simp [go_sem]) (by simp [go_sem]) (by simp [go_sem]) (by omega) (by omega) (by omega) (by omega) (by omega) (by omega) (by omega)).mono ?_
  rintro e w' ⟨s5, q5, r5, H5, rfl, rfl⟩
  go_wp2
  clear i0 i1 i2 i3 i4
  rw [rounds_succ]
  have hc0 : 0 ≤ (31 - s5) % 31 := by omega
  have hc1 : (31 - s5) % 31 < 31 := by omega
  go_wp2_with (first
    | (refine wpList_index rfl 9 _ _ rfl _ (idx_sign _ (by omega) (by omega) _) ?_)
    | (refine wpList_convert rfl 32 9 _ rfl _ (run_convert_bytes_back _ _ _ 5 ⟨w.heap.size, 0, none⟩ 6 [sgB d0, sgB d1, sgB d2, sgB d3, sgB d4, sgB (-s5 % 31)] Try.underlying32 Try.underlying5 Try.underlying9 ?_) ?_))
  · intro j hj
    have hj' : j = 0 ∨ j = 1 ∨ j = 2 ∨ j = 3 ∨ j = 4 ∨ j = 5 := by simp at hj; omega
    rcases hj' with rfl | rfl | rfl | rfl | rfl | rfl <;> simp [go_sem, Addr.add, sg]
  · go_wp2
    go_ret2
    refine ⟨?_, ?_⟩
    · have e := locS_mk E0.out E1.out E2.out E3.out E4.out H1.out H2.out H3.out H4.out H5.out
      rw [e]; rfl
    · repeat (first | exact Below.refl _ _ | apply bl_alloc)
end Go.Proofs.Ythljeclddlcidaa
