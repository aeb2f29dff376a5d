/- What jetway/locator.Read comes to. Conditions: none. -/
import Derived.Test.YthljeclddlcidaaLocOf
namespace Go.Proofs.Ythljeclddlcidaa
open Go.RowKit _root_.Go.Proofs.Ythljeclddlcidaa.Loc

theorem indexByte_any (x : Int) (w : World) : Calls Try.prog 16 #[.string { data := #[65, 66, 67, 68, 69, 70, 71, 72, 74, 75, 76, 77, 78, 80, 81, 82, 84, 85, 86, 87, 88, 89, 90, 50, 51, 52, 53, 54, 55, 56, 57] }, .int .u8 x] w fun e w' =>
    e = .returned (.int .i64 (wv x)) ∧ w = w' := by
  have hc : ∀ w, (callFunc 20 #[.string { data := #[65, 66, 67, 68, 69, 70, 71, 72, 74, 75, 76, 77, 78, 80, 81, 82, 84, 85, 86, 87, 88, 89, 90, 50, 51, 52, 53, 54, 55, 56, 57] }, .int .u8 x]).run Try.prog w = .ok (.value (.int .i64 (wv x))) w := by
    intro w
    rw [run_callFunc_extern Try.func20 (by kernel_rfl) (by kernel_rfl) (by kernel_rfl) (e := Extern.BytealgIndexByte.indexByte) (by kernel_rfl), Lib.run_indexByteString]
    rfl
  go_enter Try.func16, Try.ntmps16
  go_wp2
  go_ret
  exact ⟨rfl, rfl⟩

set_option maxRecDepth 100000 in
theorem read_short (s : ByteArray) (w : World) (h : s.size ≠ 6) (hs : s.size ≤ maxLen) :
    Calls Try.prog 12 #[.string s] w fun e w' => e = .returned (.tuple #[.int .i64 0, .int .i64 6]) ∧ w = w' := by
  unfold maxLen at hs
  have hb : ((s.size : Int) == 6) = false := by rw [beq_eq_false_iff_ne]; omega
  have hb' : ((s.size : Int) != 6) = true := by simp [bne, hb]
  go_enter Try.func12, Try.ntmps12
  go_wp2
  go_ret2
  exact ⟨rfl, rfl⟩

set_option maxRecDepth 100000 in
set_option maxHeartbeats 2000000 in
theorem read_long (s : ByteArray) (w : World) (h6 : s.size = 6) :
    Calls Try.prog 12 #[.string s] w fun e w' => e = .returned (.tuple #[.int .i64 (rdN s), .int .i64 (rdE s)]) ∧ Below w.heap.size w w' := by
  have H6 := Lib.hid h6
  have hb : ((s.size : Int) == 6) = true := by rw [beq_iff_eq]; omega
  have hb' : ((s.size : Int) != 6) = false := by simp [bne, hb]
  clear h6
  go_enter Try.func12, Try.ntmps12
  go_wp2_with (go_at_call 14; refine (weighed_any _).mono ?_; rintro e w' ⟨rfl, rfl⟩)
  clear hb hb'
  go_loopg [5, 6] 6 (fun g n sm wr => ∃ k : Nat, k ≤ 6 ∧ g = 6 - k ∧ okTo s k ∧ n = .int .i64 (valTo s (min k 5)) ∧ sm = .int .i64 (sumTo s (min k 5)) ∧ (k = 6 → (sumTo s 5 + wk s 5) % 31 = 0) ∧
    w.heap.size + 2 < wr.heap.size ∧ wr.heap[w.heap.size + 2]? = some (.stringIter s k) ∧ wr.heap[w.heap.size]? = some (.cells #[.int .i64 (sumTo s (min k 5))] 3 (0, 0)) ∧
    wr.heap[w.heap.size + 1]? = some (.cells #[.int .i64 (2 + (min k 5 : Nat))] 3 (0, 0)) ∧ Below w.heap.size w wr)
  case atStart =>
    refine ⟨0, by omega, rfl, (fun j hj => by omega), rfl, rfl, (fun h => by omega), ?_, ?_, ?_, ?_, ?_⟩
    · simp [World.iter]
    · exact blk_new _ _ (by simp)
    · exact blk_alloc (blk_alloc (heap_alloc_new w _) _) _
    · exact blk_alloc (blk_new (w.alloc _) _ (by simp)) _
    · exact bl_alloc (bl_alloc (bl_alloc (Below.refl _ _) _) _) _
  case round =>
    obtain ⟨k, k0, hg, hok, rfl, rfl, hfin, hsz, hit, hbs, hbw, hbel⟩ := hrel
    have HG := Lib.hid hg
    have HI := Lib.hid hit
    have HS := Lib.hid hbs
    have HW := Lib.hid hbw
    have HK := Lib.hid hok
    clear hg hit hbs hbw hok
    by_cases hk6 : k = 6
    · subst hk6
      have hf := hfin rfl
      have HF := Lib.hid hf
      clear hf hfin
      go_wp2_with (first | (refine wpList_next rfl _ rfl _ (run_next_stop HI.out _ (by rw [H6.out]; omega)) ?_) | fail)
      go_ret2
      have hg : good s := good_at H6.out HK.out HF.out
      exact ⟨ret2_int (rd_good hg).2.symm (rd_good hg).1.symm, hbel⟩
    · clear hfin
      have hk : k < s.size := by rw [H6.out]; omega
      by_cases hasc : 128 ≤ (bt s k).toNat
      · have hbad : ¬ good s := high_bad (k := k) (by omega) (by omega)
        obtain ⟨c, hc⟩ : ∃ c, c = (Utf8.decode s k).1 := ⟨_, rfl⟩
        have hc1 : 128 ≤ (c : Int) := by
          have := (decode_high s k hk (by rw [bt_get s k hk]; exact hasc)).1
          rw [hc]; omega
        obtain ⟨c2, hc2⟩ : ∃ c2, c2 = (Utf8.decode s k).2 := ⟨_, rfl⟩
        have hrun : ∀ ty, (Instr.next (.pointer (some ⟨w.heap.size + 2, 0, none⟩)) true ty).run Try.prog wr = .ok (.tuple #[.bool true, .int .i64 k, .int .i32 c]) (putObj wr (w.heap.size + 2) (.stringIter s (k + c2))) := by
          intro ty; rw [hc, hc2]; exact run_next_put HI.out ty hk
        have HR := Lib.hid hrun
        clear hc hc2 hrun hasc
        have hbp : Below w.heap.size w (putObj wr (w.heap.size + 2) (.stringIter s (k + c2))) := bl_put hbel (by omega) _
        go_wp2_with (first
          | (refine wpList_next rfl _ rfl _ (HR.out _) ?_)
          | (go_at_call 16; refine (indexByte_any _ _).mono ?_; rintro e w' ⟨rfl, rfl⟩))
        all_goals
          go_ret2
          exact ⟨ret2_int (rd_bad hbad).2.symm (rd_bad hbad).1.symm, hbp⟩
      · have hrun : ∀ ty, (Instr.next (.pointer (some ⟨w.heap.size + 2, 0, none⟩)) true ty).run Try.prog wr = .ok (.tuple #[.bool true, .int .i64 k, .int .i32 (bt s k).toNat]) (putObj wr (w.heap.size + 2) (.stringIter s (k + 1))) := by
          intro ty
          have hd := decode_ascii s k hk (by rw [bt_get s k hk]; omega)
          rw [run_next_put HI.out ty hk, hd, bt_get s k hk]
        obtain ⟨c, hc⟩ : ∃ c, c = (bt s k).toNat := ⟨_, rfl⟩
        rw [← hc] at hrun hasc
        have hc1 : (c : Int) < 128 := by omega
        have hc0 : (0 : Int) ≤ c := by omega
        have hwv : wv (c : Int) = wk s k := by rw [hc]; exact wv_nat _
        obtain ⟨d, hd⟩ : ∃ d, d = wk s k := ⟨_, rfl⟩
        rw [← hd] at hwv
        have hdr : -1 ≤ d ∧ d < 31 := by rw [hd]; exact wk_rng s k
        have hix : ∀ w, Calls Try.prog 16 #[.string { data := #[65, 66, 67, 68, 69, 70, 71, 72, 74, 75, 76, 77, 78, 80, 81, 82, 84, 85, 86, 87, 88, 89, 90, 50, 51, 52, 53, 54, 55, 56, 57] }, .int .u8 c] w fun e w' =>
            e = .returned (.int .i64 d) ∧ w = w' := by intro w; rw [← hwv]; exact indexByte_any _ _
        have HX := Lib.hid hix
        have HR := Lib.hid hrun
        have HD := Lib.hid hd
        have HC := Lib.hid hc
        clear hrun hasc hc hwv hd hix
        have hbp : Below w.heap.size w (putObj wr (w.heap.size + 2) (.stringIter s (k + 1))) := bl_put hbel (by omega) _
        by_cases hneg : d < 0
        · have hbad : ¬ good s := bad_at (k := k) (by omega) (by rw [← HD.out]; exact hneg)
          go_wp2_with (first
            | (refine wpList_next rfl _ rfl _ (HR.out _) ?_)
            | (go_at_call 16; refine (HX.out _).mono ?_; rintro e w' ⟨rfl, rfl⟩))
          all_goals
            go_ret2
            exact ⟨ret2_int (rd_bad hbad).2.symm (rd_bad hbad).1.symm, hbp⟩
        · have hc90 : (c : Int) ≤ 90 := by
            have := ((wvB_all (bt s k)).2.2 (by show 0 ≤ wk s k; rw [← HD.out]; omega)).2
            rw [HC.out]; omega
          by_cases hk5 : k = 5
          · subst hk5
            have hmin : min 5 5 = 5 := rfl
            rw [hmin] at HS HW
            rw [hmin]
            clear hmin
            have hsr := sumTo_rng s 5
            by_cases hz : (sumTo s 5 + d) % 31 = 0
            · have hz1 : ((sumTo s 5 + d) % 31 == 0) = true := by rw [beq_iff_eq]; exact hz
              have hz2 : ((sumTo s 5 + d) % 31 != 0) = false := by simp [bne, hz1]
              have HZ := Lib.hid hz
              clear hz
              go_wp2_with (first
                | (refine wpList_next rfl _ rfl _ (HR.out _) ?_)
                | (go_at_call 16; refine (HX.out _).mono ?_; rintro e w' ⟨rfl, rfl⟩))
              go_roundg 0
              case measure => have := HG.out; omega
              case rel =>
                exact ⟨6, by omega, rfl, okTo_succ HK.out (by rw [← HD.out]; omega), rfl, rfl, fun _ => by rw [← HD.out]; exact HZ.out, by rw [put_size]; omega, put_same (by omega), (put_far (by omega)).trans HS.out, (put_far (by omega)).trans HW.out, hbp⟩
            · have hbad : ¬ good s := fun g => hz (by rw [HD.out]; exact g.2.2)
              have hz1 : ((sumTo s 5 + d) % 31 == 0) = false := by rw [beq_eq_false_iff_ne]; exact hz
              have hz2 : ((sumTo s 5 + d) % 31 != 0) = true := by simp [bne, hz1]
              clear hz
              go_wp2_with (first
                | (refine wpList_next rfl _ rfl _ (HR.out _) ?_)
                | (go_at_call 16; refine (HX.out _).mono ?_; rintro e w' ⟨rfl, rfl⟩))
              go_ret2
              exact ⟨ret2_int (rd_bad hbad).2.symm (rd_bad hbad).1.symm, hbp⟩
          · have hmin : min k 5 = k := by omega
            rw [hmin] at HS HW
            rw [hmin]
            clear hmin
            have hvr := valTo_rng HK.out
            have hp : (31 : Int) ^ k ≤ 31 ^ 4 := by
              have hk4 : k = 0 ∨ k = 1 ∨ k = 2 ∨ k = 3 ∨ k = 4 := by omega
              rcases hk4 with h | h | h | h | h <;> rw [h] <;> decide
            have hv1 : valTo s k < 923521 := by have := hvr.2; omega
            have hv0 := hvr.1
            clear hvr hp
            go_wp2_with (first
              | (refine wpList_next rfl _ rfl _ (HR.out _) ?_)
              | (go_at_call 16; refine (HX.out _).mono ?_; rintro e w' ⟨rfl, rfl⟩))
            have B1 : (putObj wr (w.heap.size + 2) (.stringIter s (k + 1))).heap[w.heap.size]? = some (.cells #[.int .i64 (sumTo s k)] 3 (0, 0)) := (put_far (by omega)).trans HS.out
            have B2 : (putObj wr (w.heap.size + 2) (.stringIter s (k + 1))).heap[w.heap.size + 1]? = some (.cells #[.int .i64 (2 + (k : Nat))] 3 (0, 0)) := (put_far (by omega)).trans HW.out
            have B3 : (putObj wr (w.heap.size + 2) (.stringIter s (k + 1))).heap[w.heap.size + 2]? = some (.stringIter s (k + 1)) := put_same (by omega)
            have hsr := sumTo_rng s k
            refine (closure_any (sumTo s k) (2 + (k : Nat)) d _ _ _ (blk_cell B1 0) (blk_cell B2 0) (blk_frozen B1 0) (blk_frozen B2 0) (by omega) hsr.1 hsr.2 (by omega) (by omega) (by omega) (by omega)).mono ?_
            rintro e w' ⟨s1, q1, r1, H1, rfl, rfl⟩
            have HB1 := Lib.hid B1
            have HB2 := Lib.hid B2
            have HB3 := Lib.hid B3
            clear B1 B2 B3
            go_wp2
            go_roundg (6 - (k + 1))
            case measure => have := HG.out; omega
            case rel =>
              have hm1 : min (k + 1) 5 = k + 1 := by omega
              have e1 : valTo s (k + 1) = valTo s k * 31 + d := by rw [HD.out]; rfl
              have e2 : sumTo s (k + 1) = s1 := by rw [H1.out, HD.out, Int.add_comm 2 (k : Int)]; rfl
              refine ⟨k + 1, by omega, rfl, okTo_succ HK.out (by rw [← HD.out]; omega), ?_, ?_, by omega, ?_, ?_, ?_, ?_, ?_⟩
              all_goals try rw [hm1]
              · rw [e1]
              · rw [e2]
              · simp [put_size]; omega
              · exact blk_far (blk_far HB3.out (by simp) _) (by simp) _
              · rw [e2]; exact blk_far (blk_set HB1.out 0 _) (by simp) _
              · have := blk_set (blk_far HB2.out (p := ⟨w.heap.size, 0, none⟩) (by simp) (.int .i64 s1)) 0 (.int .i64 (2 + (k : Nat) + 1))
                have e3 : (2 : Int) + ((k + 1 : Nat) : Int) = 2 + (k : Nat) + 1 := by omega
                rw [e3]
                simpa using this
              · exact bl_set (bl_set hbp (Nat.le_refl _) _) (by simp) _
end Go.Proofs.Ythljeclddlcidaa
