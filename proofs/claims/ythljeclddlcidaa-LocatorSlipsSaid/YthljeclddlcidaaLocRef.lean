/- What jetwayref16.Of comes to: the same as locator.Of. Conditions: none. -/
import Derived.Test.YthljeclddlcidaaAid
import Derived.Test.YthljeclddlcidaaLocPlain
import Derived.Test.YthljeclddlcidaaLocOf
namespace Go.Proofs.Ythljeclddlcidaa
open Go.RowKit _root_.Go.Proofs.Ythljeclddlcidaa.Loc

set_option maxRecDepth 100000 in
theorem refof_bad (n : Int) (w : World) (h : n < 0 ∨ 28629151 ≤ n) :
    Calls Try.prog 11 #[.int .i64 n] w fun e w' => e = .returned (.tuple #[.string ⟨#[]⟩, .int .i64 1]) ∧ w = w' := by
  rcases h with h | h
  · go_enter Try.func11, Try.ntmps11
    go_wp2
    go_ret2
    exact ⟨rfl, rfl⟩
  · have h' : ¬ n < 0 := by omega
    go_enter Try.func11, Try.ntmps11
    go_wp2
    go_ret2
    exact ⟨rfl, rfl⟩

set_option maxHeartbeats 1000000 in
theorem refsum_any (a b c d e f : Int) (w : World) (h0 : 0 ≤ a ∧ a < 31) (h1 : 0 ≤ b ∧ b < 31) (h2 : 0 ≤ c ∧ c < 31) (h3 : 0 ≤ d ∧ d < 31) (h4 : 0 ≤ e ∧ e < 31) (h5 : 0 ≤ f ∧ f < 31) :
    Calls Try.prog 15 #[.agg #[.int .i64 a, .int .i64 b, .int .i64 c, .int .i64 d, .int .i64 e, .int .i64 f]] w fun en w' => en = .returned (.int .i64 (2 * a + 3 * b + 4 * c + 5 * d + 6 * e + f)) ∧
      w.alloc (.cells #[.int .i64 a, .int .i64 b, .int .i64 c, .int .i64 d, .int .i64 e, .int .i64 f] 38) = w' := by
  go_enter Try.func15, Try.ntmps15
  go_wp2
  go_ret
  exact ⟨rfl, rfl⟩

theorem Try.info8 : (Try.prog.info? 5).map (fun i => (i.zero, i.size, i.bytes)) = some (some (.int .u8 0), 1, 1) := by kernel_rfl

/-- The six worths, by place. -/
def dig (d0 d1 d2 d3 d4 d5 : Int) : Nat → Int
  | 0 => d0 | 1 => d1 | 2 => d2 | 3 => d3 | 4 => d4 | _ => d5

set_option maxRecDepth 100000 in
set_option maxHeartbeats 2000000 in
theorem refof_ok (n : Int) (w : World) (h0 : 0 ≤ n) (h1 : n < 28629151) :
    Calls Try.prog 11 #[.int .i64 n] w fun e w' => e = .returned (.tuple #[.string (locS n), .int .i64 0]) ∧ Below w.heap.size w w' := by
  go_enter Try.func11, Try.ntmps11
  go_wp2
  refine wp_loop_rounds 6 ?_
  iterate 6 (rw [rounds_succ]; go_wp2)
  generalize e0 : n / 31 / 31 / 31 / 31 % 31 = d0
  generalize e1 : n / 31 / 31 / 31 % 31 = d1
  generalize e2 : n / 31 / 31 % 31 = d2
  generalize e3 : n / 31 % 31 = d3
  generalize e4 : n % 31 = d4
  generalize n / 31 / 31 / 31 / 31 / 31 = y0
  generalize n / 31 / 31 / 31 / 31 = y1
  have b0 : 0 ≤ d0 ∧ d0 < 31 := by omega
  have b1 : 0 ≤ d1 ∧ d1 < 31 := by omega
  have b2 : 0 ≤ d2 ∧ d2 < 31 := by omega
  have b3 : 0 ≤ d3 ∧ d3 < 31 := by omega
  have b4 : 0 ≤ d4 ∧ d4 < 31 := by omega
  have E0 := Lib.hid e0
  have E1 := Lib.hid e1
  have E2 := Lib.hid e2
  have E3 := Lib.hid e3
  have E4 := Lib.hid e4
  clear e0 e1 e2 e3 e4
  obtain ⟨c, hc⟩ : ∃ c, c = chk d0 d1 d2 d3 d4 := ⟨_, rfl⟩
  have bc : 0 ≤ c ∧ c < 31 := by rw [hc]; unfold chk; omega
  have HC := Lib.hid hc
  clear hc
  go_loopg [] c.toNat (fun g wr => ∃ k : Int, 0 ≤ k ∧ k ≤ c ∧ g = (c - k).toNat ∧ w.heap.size < wr.heap.size ∧ wr.heap[w.heap.size]? = some (.cells #[.int .i64 d0, .int .i64 d1, .int .i64 d2, .int .i64 d3, .int .i64 d4, .int .i64 k] 38 (0, 0)) ∧ Below w.heap.size w wr)
  case atStart => exact ⟨0, by omega, by omega, by omega, by simp, heap_alloc_new _ _, bl_alloc (Below.refl _ _) _⟩
  case round =>
    obtain ⟨k, k0, k1, hg, hsz, hblk, hbel⟩ := hrel
    have HG := Lib.hid hg
    have HB := Lib.hid hblk
    clear hg hblk
    have q0 : wr.cell? ⟨w.heap.size, 0, none⟩ = some (.int .i64 d0) := cell_of_row wr _ 0 _ _ _ HB.out
    have q1 : wr.cell? ⟨w.heap.size, 1, none⟩ = some (.int .i64 d1) := cell_of_row wr _ 1 _ _ _ HB.out
    have q2 : wr.cell? ⟨w.heap.size, 2, none⟩ = some (.int .i64 d2) := cell_of_row wr _ 2 _ _ _ HB.out
    have q3 : wr.cell? ⟨w.heap.size, 3, none⟩ = some (.int .i64 d3) := cell_of_row wr _ 3 _ _ _ HB.out
    have q4 : wr.cell? ⟨w.heap.size, 4, none⟩ = some (.int .i64 d4) := cell_of_row wr _ 4 _ _ _ HB.out
    have q5 : wr.cell? ⟨w.heap.size, 5, none⟩ = some (.int .i64 k) := cell_of_row wr _ 5 _ _ _ HB.out
    have qf : wr.frozen? ⟨w.heap.size, 5, none⟩ = false := by simp [World.frozen?, HB.out]
    by_cases hk : k = c
    · subst hk
      have ht : ((2 * d0 + 3 * d1 + 4 * d2 + 5 * d3 + 6 * d4 + k) % 31 == 0) = true := by
        have := HC.out; unfold chk at this; rw [beq_iff_eq]; omega
      have ht' : ((2 * d0 + 3 * d1 + 4 * d2 + 5 * d3 + 6 * d4 + k) % 31 != 0) = false := by simpa [bne] using ht
      go_wp2_with (go_at_call 15; refine (refsum_any d0 d1 d2 d3 d4 k _ b0 b1 b2 b3 b4 bc).mono ?_; rintro e w' ⟨rfl, rfl⟩)
      generalize hW : wr.alloc _ = W1
      have hsz1 : w.heap.size < W1.heap.size := by rw [← hW]; simp; omega
      have HB1 : Hid (W1.heap[w.heap.size]? = some (.cells #[.int .i64 d0, .int .i64 d1, .int .i64 d2, .int .i64 d3, .int .i64 d4, .int .i64 k] 38 (0, 0))) := by rw [← hW]; exact blk_alloc HB.out _
      have hbel1 : Below w.heap.size w W1 := by rw [← hW]; exact bl_alloc hbel _
      clear hW HB q0 q1 q2 q3 q4 q5 qf hbel hsz HG ht ht'
      obtain ⟨L, hL⟩ : ∃ L : List Int, L = [d0, d1, d2, d3, d4, k] := ⟨_, rfl⟩
      have HL := Lib.hid hL
      clear hL
      go_loopg [6, 7] 6 (fun g v i wr => ∃ j : Nat, j ≤ 6 ∧ g = 6 - j ∧ i = .int .i64 j ∧ wr.ownsRow (w.heap.size + 1) 5 1 v j ((L.take j).map (fun d => Value.int .u8 (sg d))) ∧ w.heap.size < wr.heap.size ∧
        wr.heap[w.heap.size]? = some (.cells #[.int .i64 d0, .int .i64 d1, .int .i64 d2, .int .i64 d3, .int .i64 d4, .int .i64 k] 38 (0, 0)) ∧ Below w.heap.size w wr)
      case atStart => exact ⟨0, by omega, rfl, rfl, World.ownsRow_nil _ _ _ _, hsz1, HB1.out, hbel1⟩
      case round =>
        obtain ⟨j, j0, hg, rfl, hown, hsz, hblk, hbel⟩ := hrel
        have HG := Lib.hid hg
        have HB := Lib.hid hblk
        have HO := Lib.hid hown
        clear hg hblk hown
        by_cases hj : j < 6
        · obtain ⟨x, hx, hx0, hx1⟩ : ∃ x, L[j]? = some x ∧ 0 ≤ x ∧ x < 31 := by
            have hj' : j = 0 ∨ j = 1 ∨ j = 2 ∨ j = 3 ∨ j = 4 ∨ j = 5 := by omega
            rw [HL.out]
            rcases hj' with rfl | rfl | rfl | rfl | rfl | rfl <;> exact ⟨_, rfl, by omega, by omega⟩
          have hc : wr.cell? ⟨w.heap.size, j, none⟩ = some (.int .i64 x) := by
            rw [blk_cell HB.out]
            rw [HL.out] at hx
            have hj' : j = 0 ∨ j = 1 ∨ j = 2 ∨ j = 3 ∨ j = 4 ∨ j = 5 := by omega
            rcases hj' with rfl | rfl | rfl | rfl | rfl | rfl <;> (simp at hx; simp [hx])
          have HX := Lib.hid hx
          clear hx
          go_wp2_with (first
            | (refine wpList_index rfl 9 _ _ rfl _ (idx_sign _ (by omega) (by omega) _) ?_)
            | (at_builtin; refine wpList_app rfl _ _ 32 rfl (w.heap.size + 1) 5 Try.underlying32 Try.info8 rfl (by decide) rfl HO.out rfl [.int .u8 (sg x)] rfl (by simp [Value.oneCell']) (by unfold maxLen; omega) (by omega) (by omega) ?_; intro v' w' hown' hgrow))
          have hbl := own_below HO.out hgrow (by omega)
          go_roundg (6 - (j + 1))
          case measure => have := HG.out; omega
          case rel =>
            refine ⟨j + 1, by omega, rfl, by go_num, ?_, Nat.lt_of_lt_of_le hsz hgrow.size, blk_below HB.out hbl (by omega), bl_trans' hbel hbl (by omega)⟩
            have e : (L.take (j + 1)).map (fun d => Value.int .u8 (sg d)) = (L.take j).map (fun d => Value.int .u8 (sg d)) ++ [.int .u8 (sg x)] := by
              rw [List.take_add_one, HX.out]; simp
            rw [e]
            exact hown'
        · obtain rfl : j = 6 := by omega
          have hLt : L.take 6 = L := by rw [HL.out]; rfl
          have hO := HO.out
          rw [hLt] at hO
          obtain ⟨gg, cap, hv⟩ : ∃ gg cap, u6 = Value.slice (some ⟨gg, 0, none⟩) 6 cap := by
            rcases hO.2 with ⟨_, h⟩ | ⟨gg, cap, cur, h, _⟩
            · simp at h
            · exact ⟨gg, cap, h⟩
          subst hv
          have HO' := Lib.hid hO
          clear hO hLt
          go_wp2_with (first
            | (refine wpList_convert rfl 32 9 _ rfl _ (run_convert_bytes_back _ _ _ 5 ⟨gg, 0, none⟩ cap [sgB d0, sgB d1, sgB d2, sgB d3, sgB d4, sgB k] Try.underlying32 Try.underlying5 Try.underlying9 ?_) ?_))
          · intro i hi
            have hi' : i = 0 ∨ i = 1 ∨ i = 2 ∨ i = 3 ∨ i = 4 ∨ i = 5 := by simp at hi; omega
            have hc := HO'.out.cells (g := gg) rfl i
            rw [HL.out] at hc
            rcases hi' with rfl | rfl | rfl | rfl | rfl | rfl <;> exact hc _ rfl
          · go_wp2
            go_ret2
            refine ⟨?_, hbel⟩
            have e := locS_of E0.out E1.out E2.out E3.out E4.out HC.out
            rw [e]; rfl
    · have ht : ((2 * d0 + 3 * d1 + 4 * d2 + 5 * d3 + 6 * d4 + k) % 31 == 0) = false := by
        have := HC.out; unfold chk at this; rw [beq_eq_false_iff_ne]; omega
      have ht' : ((2 * d0 + 3 * d1 + 4 * d2 + 5 * d3 + 6 * d4 + k) % 31 != 0) = true := by simpa [bne] using ht
      go_wp2_with (go_at_call 15; refine (refsum_any d0 d1 d2 d3 d4 k _ b0 b1 b2 b3 b4 (by omega)).mono ?_; rintro e w' ⟨rfl, rfl⟩)
      go_roundg (c - (k + 1)).toNat
      case measure => have := HG.out; omega
      case rel => exact ⟨k + 1, by omega, by omega, rfl, by simp; omega, by simpa using blk_alloc (blk_set HB.out 5 (.int .i64 (k + 1))) _, bl_alloc (bl_set hbel (p := ⟨w.heap.size, 5, none⟩) (Nat.le_refl _) _) _⟩
end Go.Proofs.Ythljeclddlcidaa
