/- elect: New. Conditions: none. -/
import Derived.Test.YtiamfdnllpiikaaElTake
namespace Go.Proofs.Ytiamfdnllpiikaa
open Go.RowKit

theorem within_at (n lo hi : Int) (w : World) :
    Calls Try.prog 29 #[.int .i64 n, .int .i64 lo, .int .i64 hi] w fun e w' => e = .returned (.bool (decide (lo ≤ n) && decide (n ≤ hi))) ∧ w = w' := by
  by_cases h1 : lo ≤ n
  · have HN := Lib.hid (show (decide (lo ≤ n) && decide (n ≤ hi)) = decide (n ≤ hi) by simp [h1])
    go_enter Try.func29, Try.ntmps29
    go_wp2_with fail
    go_ret
    exact ⟨ret_bool HN.out.symm, rfl⟩
  · have HN := Lib.hid (show (decide (lo ≤ n) && decide (n ≤ hi)) = false by simp [h1])
    go_enter Try.func29, Try.ntmps29
    go_wp2_with fail
    go_ret
    exact ⟨ret_bool HN.out.symm, rfl⟩

def NewEnd (w : World) (id term vote pat : Int) (vs ls : List Int) (va : Option Addr) (vc : Nat) (la : Option Addr) (lc : Nat) (e : Ending) (w' : World) : Prop :=
  (newOk id term vote pat vs ls = false ∧ e = .returned (.tuple #[.pointer none, .int .i64 1]) ∧ Below w.heap.size w w') ∨
  (newOk id term vote pat vs ls = true ∧ ∃ b L, e = .returned (.tuple #[.pointer (some ⟨b, 0, none⟩), .int .i64 0]) ∧ NodeAt w' b (newNd id term vote pat vs ls va vc la lc) L ∧ Below w.heap.size w w' ∧ ∀ x, x ∈ L → w.heap.size ≤ x)
theorem GsAt.out {w w' : World} {a : Option Addr} {gs : List Int} {L : List Nat} (h : GsAt w a gs) (k : Below w.heap.size w w') (hL : ∀ x, x ∈ L → w.heap.size ≤ x) : GsOut w' a gs L := fun j hj => by
  obtain ⟨b, off, e, hc⟩ := h j hj
  refine ⟨b, off, e, fun hm => ?_, cell_keep k hc⟩
  have h1 := hL b hm
  have h2 := World.block_lt_of_cell? w _ hc
  simp at h2
  omega
set_option maxRecDepth 100000 in
set_option maxHeartbeats 2000000 in
theorem new_at (id term vote pat : Int) (vs ls : List Int) (va : Option Addr) (vc : Nat) (la : Option Addr) (lc : Nat) (w : World) (hv : GsAt w va vs) (hl : GsAt w la ls) (hvm : vs.length ≤ maxLen) (hlm : ls.length ≤ maxLen) :
    Calls Try.prog 10 #[.int .i64 id, .agg #[.int .i64 term, .int .i64 vote], .agg #[.slice va vs.length vc, .slice la ls.length lc], .int .i64 pat] w fun e w' => NewEnd w id term vote pat vs ls va vc la lc e w' := by
  have C1 := within_at id 1 15
  have C2 := within_at term 0 1099511627776
  have C3 := within_at vote 0 15
  have C4 := within_at pat 1 1000
  have HB := Lib.hid (bl_alloc (bl_alloc (Below.refl w.heap.size w) (.cells #[.int .i64 term, .int .i64 vote] 23)) (.cells #[.slice va vs.length vc, .slice la ls.length lc] 31))
  have HE := Lib.hid (show newOk id term vote pat vs ls = ((decide (1 ≤ id) && decide (id ≤ 15)) && (decide (0 ≤ term) && decide (term ≤ 1099511627776)) && (decide (0 ≤ vote) && decide (vote ≤ 15)) && (decide (1 ≤ pat) && decide (pat ≤ 1000)) && rightG vs ls) by unfold newOk maxIx; simp only [Bool.and_assoc])
  by_cases h1 : (decide (1 ≤ id) && decide (id ≤ 15)) = true
  case neg =>
    have h1' := eq_false_of_ne_true h1
    rw [h1'] at C1
    have HF := Lib.hid (show newOk id term vote pat vs ls = false by rw [HE.out, h1']; rfl)
    clear h1 h1'
    go_enter Try.func10, Try.ntmps10
    go_wp2_with fail
    refine (C1 _).mono ?_; rintro e w1 ⟨rfl, rfl⟩
    go_wp2_with fail
    go_ret2
    exact .inl ⟨HF.out, rfl, HB.out⟩
  rw [h1] at C1
  by_cases h2 : (decide (0 ≤ term) && decide (term ≤ 1099511627776)) = true
  case neg =>
    have h2' := eq_false_of_ne_true h2
    rw [h2'] at C2
    have HF := Lib.hid (show newOk id term vote pat vs ls = false by rw [HE.out, h1, h2']; rfl)
    clear h1 h2 h2'
    go_enter Try.func10, Try.ntmps10
    go_wp2_with fail
    refine (C1 _).mono ?_; rintro e w1 ⟨rfl, rfl⟩
    go_wp2_with fail
    refine (C2 _).mono ?_; rintro e w1 ⟨rfl, rfl⟩
    go_wp2_with fail
    go_ret2
    exact .inl ⟨HF.out, rfl, HB.out⟩
  rw [h2] at C2
  by_cases h3 : (decide (0 ≤ vote) && decide (vote ≤ 15)) = true
  case neg =>
    have h3' := eq_false_of_ne_true h3
    rw [h3'] at C3
    have HF := Lib.hid (show newOk id term vote pat vs ls = false by rw [HE.out, h1, h2, h3']; rfl)
    clear h1 h2 h3 h3'
    go_enter Try.func10, Try.ntmps10
    go_wp2_with fail
    refine (C1 _).mono ?_; rintro e w1 ⟨rfl, rfl⟩
    go_wp2_with fail
    refine (C2 _).mono ?_; rintro e w1 ⟨rfl, rfl⟩
    go_wp2_with fail
    refine (C3 _).mono ?_; rintro e w1 ⟨rfl, rfl⟩
    go_wp2_with fail
    go_ret2
    exact .inl ⟨HF.out, rfl, HB.out⟩
  rw [h3] at C3
  by_cases h4 : (decide (1 ≤ pat) && decide (pat ≤ 1000)) = true
  case neg =>
    have h4' := eq_false_of_ne_true h4
    rw [h4'] at C4
    have HF := Lib.hid (show newOk id term vote pat vs ls = false by rw [HE.out, h1, h2, h3, h4']; rfl)
    clear h1 h2 h3 h4 h4'
    go_enter Try.func10, Try.ntmps10
    go_wp2_with fail
    refine (C1 _).mono ?_; rintro e w1 ⟨rfl, rfl⟩
    go_wp2_with fail
    refine (C2 _).mono ?_; rintro e w1 ⟨rfl, rfl⟩
    go_wp2_with fail
    refine (C3 _).mono ?_; rintro e w1 ⟨rfl, rfl⟩
    go_wp2_with fail
    refine (C4 _).mono ?_; rintro e w1 ⟨rfl, rfl⟩
    go_wp2_with fail
    go_ret2
    exact .inl ⟨HF.out, rfl, HB.out⟩
  rw [h4] at C4
  have hmm := @run_makeMap Try.prog
  have HR := Lib.hid (qright_at va la vs ls vc lc _ (hv.keep HB.out) (hl.keep HB.out) hvm hlm)
  by_cases h5 : rightG vs ls = true
  case neg =>
    have h5' := eq_false_of_ne_true h5
    rw [h5'] at HR
    have HF := Lib.hid (show newOk id term vote pat vs ls = false by rw [HE.out, h1, h2, h3, h4, h5']; rfl)
    clear h1 h2 h3 h4 h5 h5'
    go_enter Try.func10, Try.ntmps10
    go_wp2_with fail
    refine (C1 _).mono ?_; rintro e w1 ⟨rfl, rfl⟩
    go_wp2_with fail
    refine (C2 _).mono ?_; rintro e w1 ⟨rfl, rfl⟩
    go_wp2_with fail
    refine (C3 _).mono ?_; rintro e w1 ⟨rfl, rfl⟩
    go_wp2_with fail
    refine (C4 _).mono ?_; rintro e w1 ⟨rfl, rfl⟩
    go_wp2_with fail
    refine HR.out.mono ?_; rintro e w5 ⟨rfl, hb5⟩
    go_wp2_with fail
    go_ret2
    exact .inl ⟨HF.out, rfl, bl_trans HB.out hb5⟩
  rw [h5] at HR
  have HF := Lib.hid (show newOk id term vote pat vs ls = true by rw [HE.out, h1, h2, h3, h4, h5]; rfl)
  clear h1 h2 h3 h4 h5
  go_enter Try.func10, Try.ntmps10
  go_wp2_with fail
  refine (C1 _).mono ?_; rintro e w1 ⟨rfl, rfl⟩
  go_wp2_with fail
  refine (C2 _).mono ?_; rintro e w1 ⟨rfl, rfl⟩
  go_wp2_with fail
  refine (C3 _).mono ?_; rintro e w1 ⟨rfl, rfl⟩
  go_wp2_with fail
  refine (C4 _).mono ?_; rintro e w1 ⟨rfl, rfl⟩
  go_wp2_with fail
  have hB1 : ((w.alloc (.cells #[.int .i64 term, .int .i64 vote] 23)).alloc (.cells #[.slice va vs.length vc, .slice la ls.length lc] 31)).heap[w.heap.size]? = some (.cells #[.int .i64 term, .int .i64 vote] 23) := blk_alloc (blk_new w _ rfl) _
  have hB2 : ((w.alloc (.cells #[.int .i64 term, .int .i64 vote] 23)).alloc (.cells #[.slice va vs.length vc, .slice la ls.length lc] 31)).heap[w.heap.size + 1]? = some (.cells #[.slice va vs.length vc, .slice la ls.length lc] 31) := blk_new _ _ (by simp)
  refine HR.out.mono ?_; rintro e w5 ⟨rfl, hb5⟩
  have d0 := blk_cell (blk_below hB1 hb5 (blk_lt hB1)) 0
  have d1 := blk_cell (blk_below hB1 hb5 (blk_lt hB1)) 1
  have d2 := blk_cell (blk_below hB2 hb5 (blk_lt hB2)) 0
  have d3 := blk_cell (blk_below hB2 hb5 (blk_lt hB2)) 1
  simp only [List.getElem?_toArray, List.getElem?_cons_zero, List.getElem?_cons_succ] at d0 d1 d2 d3
  clear hB1 hB2 C1 C2 C3 C4
  have HV := Lib.hid hv
  have HL := Lib.hid hl
  have HB5 := Lib.hid (bl_trans HB.out hb5)
  have HVM := Lib.hid hvm
  have HLM := Lib.hid hlm
  clear hv hl hb5 hvm hlm HE HR HB
  go_wp2_with fail
  go_ret2
  have hb7 := bl_alloc (bl_alloc HB5.out (.map #[] 0)) (.cells (nodeC (newNd id term vote pat vs ls va vc la lc) w5.heap.size) 74)
  have hL : ∀ x, x ∈ [w5.heap.size + 1, w5.heap.size] → w.heap.size ≤ x := by
    have := HB5.out.size
    intro x hx
    simp only [List.mem_cons, List.not_mem_nil, or_false] at hx
    rcases hx with rfl | rfl <;> omega
  refine .inr ⟨HF.out, w5.heap.size + 1, [w5.heap.size + 1, w5.heap.size], rfl, ⟨w5.heap.size, #[], 0, .slice none 0 0, .slice none 0 0, ?_⟩, hb7, hL⟩
  exact ⟨blk_new _ _ (by simp), HV.out.out hb7 hL, HL.out.out hb7 hL, HVM.out, HLM.out, blk_alloc (blk_new w5 _ rfl) _, (by intro e he; simp at he), rfl, rfl, own_nil _ _, own_nil _ _, apart_nil _, by simp, by simp, (show (0 : Nat) ≤ 1000 by omega), (show (0 : Nat) ≤ 1000 by omega), fun x hx => by
    simp only [List.mem_cons, List.not_mem_nil, or_false] at hx
    rcases hx with rfl | rfl <;> simp <;> omega⟩
end Go.Proofs.Ytiamfdnllpiikaa
