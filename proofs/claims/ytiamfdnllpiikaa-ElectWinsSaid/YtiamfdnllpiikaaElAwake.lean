/- awake of the law: one that is alone in its group leads at once. Conditions: none. -/
import Derived.Test.YtiamfdnllpiikaaElNew
import Derived.Test.YtiamfdnllpiikaaElLone
namespace Go.Proofs.Ytiamfdnllpiikaa
open Go.RowKit

theorem awake_new (va : Option Addr) (vc : Nat) (la : Option Addr) (lc : Nat) : ((newNd 1 0 0 1 [1] [] va vc la lc).tick 0 0 0).1.role = 3 ∧ ((newNd 1 0 0 1 [1] [] va vc la lc).tick 0 0 0).1.term = 1 := by
  rw [lone_tick (by rfl) (by rfl) (by rfl) (show (1 : Int) ≤ 1 by omega) (show (1 : Int) ≤ 15 by omega), if_neg (by exact (show ¬ (0 + 1 : Int) < 1 by omega)), if_neg (by exact (show ¬ maxIx ≤ 0 by decide))]
  exact ⟨rfl, rfl⟩
set_option maxRecDepth 100000 in
set_option maxHeartbeats 1000000 in
theorem awake_at (w : World) : Calls Try.prog 9 #[] w fun e w' => e = .returned (.bool true) ∧ Below w.heap.size w w' := by
  have hb0 := bl_alloc (Below.refl w.heap.size w) (.cells #[.int .i64 1] 3)
  have hg : GsAt (w.alloc (.cells #[.int .i64 1] 3)) (some ⟨w.heap.size, 0, none⟩) [1] := fun j hj => ⟨w.heap.size, 0, rfl, by
    have hj0 : j = 0 := by simpa using hj
    subst hj0
    exact blk_cell (blk_new w _ rfl) 0⟩
  have HN := Lib.hid (new_at 1 0 0 1 [1] [] (some ⟨w.heap.size, 0, none⟩) 1 none 0 _ hg (fun j hj => by simp at hj) (by simp [maxLen]) (by simp))
  have HB := Lib.hid hb0
  clear hb0 hg
  go_enter Try.func9, Try.ntmps9
  go_wp2_with fail
  refine HN.out.mono ?_; rintro e w2 (⟨h, _, _⟩ | ⟨_, b, L, rfl, hN, hb, hL⟩)
  · exact absurd h (by decide)
  go_wp2_with fail
  refine (tick_at hN (show (0 : Int) ≤ 0 by omega) (show (0 : Int) ≤ maxIx by decide) (show (1 : Nat) ≤ 1000 by omega) (show (0 : Int) ≤ 0 by omega) (show (0 : Int) ≤ 1000000000 by omega) (show (1 : Int) ≤ 1 by omega) (show (1 : Int) ≤ 1000 by omega) 0 0 0).mono ?_; rintro e w3 ⟨v, rfl, L3, hN3, k3, hL3, _, _⟩
  obtain ⟨hr, ht⟩ := awake_new (some ⟨w.heap.size, 0, none⟩) 1 none 0
  obtain ⟨S3, hS3⟩ : ∃ S3, S3 = ((newNd 1 0 0 1 [1] [] (some ⟨w.heap.size, 0, none⟩) 1 none 0).tick 0 0 0).1 := ⟨_, rfl⟩
  rw [← hS3] at hN3 hr ht
  have hb3 := k3.to_below (B := w.heap.size) (bl_trans HB.out hb).size (fun x hx => Nat.le_trans HB.out.size (hL x hx))
  have HB3 := Lib.hid ((bl_trans HB.out hb).trans hb3)
  have HR := role_at hN3
  rw [hr] at HR
  have HH := hard_at hN3
  rw [ht] at HH
  have hfd : ∀ w : World, (Instr.field 23 (.agg #[.int .i64 1, .int .i64 S3.vote]) 0).run Try.prog w = .ok (.int .i64 1) w := fun _ => by kernel_rfl
  clear hS3 hb hN hL k3 hL3 hb3 HN HB
  go_wp2_with fail
  refine HR.mono ?_; rintro e w4 ⟨rfl, rfl⟩
  go_wp2_with fail
  refine HH.mono ?_; rintro e w5 ⟨rfl, hb5⟩
  go_wp2_with fail
  go_ret
  exact ⟨rfl, bl_trans HB3.out hb5⟩
end Go.Proofs.Ytiamfdnllpiikaa
