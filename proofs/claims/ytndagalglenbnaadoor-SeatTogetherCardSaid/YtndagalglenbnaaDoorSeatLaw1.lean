/- The walks of SeatBest and SeatFree: they return true. Conditions: none. -/
import Derived.Test.YtndagalglenbnaaDoorSeatBest
namespace Go.Proofs.YtndagalglenbnaaDoor
open Go.RowKit Go.ChangeShapes Go.WideShapes Go.ChangeAt

/-! A slice of ints that came in, opened. -/
structure Ints where
  ad : Option Addr
  xs : List Int
  cap : Nat
theorem openInts {H : Type} {enc : TypeId × Value → H} {W : World} {r : Reach} {base b0 : Nat} {sp : Nat → Bool} {hd : Bool} {v : Value} {d : DataW H} {ps : List MemPlace}
    (hv : Value.okWide Tryd.prog W r b0 22 v) (h : DataW.Trod enc Tryd.prog W base sp hd 22 v d ps) :
    ∃ p : Ints, v = .slice p.ad p.xs.length p.cap ∧ GsAt W p.ad p.xs ∧ p.xs.length ≤ maxLen := by
  obtain ⟨fuel, hf⟩ := h
  obtain ⟨ad, gs, cap, e, hg, hl⟩ := trod_gs hf
  have : v = .slice ad gs.length cap := by
    cases v <;> simp [Value.cells] at e
    · exact by rw [e.1, e.2.1, e.2.2]
    all_goals (simp [Value.okWide, Tryd.underlying22, Cell.okWide, Cell.ok] at hv)
  exact ⟨⟨ad, gs, cap⟩, this, hg, hl⟩

theorem bestL_cases (rows : Int) (gs tk : List Int) (m : Int) :
    (bestL rows gs tk m).2 = 0 ∧ (bestL rows gs tk m).1.length = m.toNat ∧ 1 ≤ m ∧ m ≤ countL rows gs ∧ (∀ i, i < (bestL rows gs tk m).1.length → (0 ≤ (bestL rows gs tk m).1.getD i 0 ∧ (bestL rows gs tk m).1.getD i 0 < countL rows gs ∧ ¬ (bestL rows gs tk m).1.getD i 0 ∈ tk) ∧ (0 < i → (bestL rows gs tk m).1.getD (i - 1) 0 < (bestL rows gs tk m).1.getD i 0)) ∨
    ((bestL rows gs tk m).2 = 1 ∨ (bestL rows gs tk m).2 = 3) ∧ (bestL rows gs tk m).1 = [] := by
  have hcr := countL_rng rows gs
  by_cases h1 : m < 1 ∨ countL rows gs < m
  · rw [bestL_bad h1]; exact .inr ⟨.inl rfl, rfl⟩
  by_cases h2 : ((freeTo tk (countL rows gs).toNat).length : Int) < m
  · rw [bestL_full h1 h2]; exact .inr ⟨.inr rfl, rfl⟩
  left
  by_cases h3 : ∃ s, FirstWin gs tk (countL rows gs).toNat m.toNat s
  · obtain ⟨s, hs⟩ := h3
    rw [bestL_win h1 hs]
    refine ⟨rfl, seatsOf_len _ _, by omega, by omega, fun i hi => ?_⟩
    rw [seatsOf_len] at hi
    have hw := hs.1
    have h4 := hw.2 (s + i) (by omega) (by omega)
    have h5 := hw.1
    refine ⟨⟨?_, ?_, ?_⟩, fun hp => ?_⟩
    · rw [seatsOf_get hi]; omega
    · rw [seatsOf_get hi]; omega
    · rw [seatsOf_get hi]; exact h4.1
    · rw [seatsOf_get hi, seatsOf_get (by omega)]; omega
  · have hno : ∀ s, ¬ Win gs tk (countL rows gs).toNat m.toNat s := by
      intro s
      induction s using Nat.strongRecOn with
      | _ s ih => intro hw; exact h3 ⟨s, hw, fun s' hs' => ih s' hs'⟩
    rw [bestL_any h1 h2 hno]
    have hl : ((freeTo tk (countL rows gs).toNat).take m.toNat).length = m.toNat := by simp; omega
    refine ⟨rfl, hl, by omega, by omega, fun i hi => ?_⟩
    simp only [hl] at hi
    have get : ∀ j, j < m.toNat → ((freeTo tk (countL rows gs).toNat).take m.toNat).getD j 0 = (freeTo tk (countL rows gs).toNat).getD j 0 := by
      intro j hj
      simp [List.getD, List.getElem?_take, hj]
    obtain ⟨s, a1, a2, a3, a4⟩ := freeTo_ix (tk := tk) (n := (countL rows gs).toNat) (i := i) (by omega)
    simp only [get i hi, a4]
    refine ⟨⟨by omega, by omega, a2⟩, fun hp => ?_⟩
    obtain ⟨t, b1, b2, b3, b4⟩ := freeTo_ix (tk := tk) (n := (countL rows gs).toNat) (i := i - 1) (by omega)
    rw [get (i - 1) (by omega), b4]
    have : ¬ s ≤ t := fun h => by have := freeTo_mono (tk := tk) h; omega
    omega
theorem bestL_len (rows : Int) (gs tk : List Int) (m : Int) : (bestL rows gs tk m).1.length ≤ maxLen := by
  have hcr := countL_rng rows gs
  rcases bestL_cases rows gs tk m with h | h
  · rw [h.2.1]; unfold maxLen; omega
  · rw [h.2]; simp

set_option maxRecDepth 100000 in
set_option maxHeartbeats 2000000 in
theorem sbest_s (rows : Int) (a : Option Addr) (gs : List Int) (cap : Nat) (ta : Option Addr) (tk : List Int) (tc : Nat) (m : Int) (w : World) (hg : GsAt w a gs) (hlm : gs.length ≤ maxLen) (ht : GsAt w ta tk) (htm : tk.length ≤ maxLen) :
    Calls Tryd.prog 6 #[.agg #[.int .i64 rows, .slice a gs.length cap], .slice ta tk.length tc, .int .i64 m] w fun e w' => e = .returned (.bool true) ∧ Below w.heap.size w w' := by
  have hlm' : (gs.length : Int) ≤ 9223372036854775807 := by unfold maxLen at hlm; omega
  have htm' : (tk.length : Int) ≤ 9223372036854775807 := by unfold maxLen at htm; omega
  have HT := Lib.hid (ht.keep (bl_alloc (Below.refl w.heap.size w) (.cells #[.int .i64 rows, .slice a gs.length cap] 24)))
  clear ht
  have hb1 := bl_alloc (Below.refl w.heap.size w) (.cells #[.int .i64 rows, .slice a gs.length cap] 24)
  have HB := Lib.hid hb1
  have HG := Lib.hid (hg.keep hb1)
  obtain ⟨w0, hw0⟩ : ∃ w0, w0 = w.alloc (.cells #[.int .i64 rows, .slice a gs.length cap] 24) := ⟨_, rfl⟩
  have hblk : w0.heap[w.heap.size]? = some (.cells #[.int .i64 rows, .slice a gs.length cap] 24) := by rw [hw0]; exact blk_new w _ rfl
  have q0 : ∀ w', Below w0.heap.size w0 w' → w'.cell? ⟨w.heap.size, 0, none⟩ = some (.int .i64 rows) := fun w' h => blk_cell (blk_below hblk h (blk_lt hblk)) 0
  have q1 : ∀ w', Below w0.heap.size w0 w' → w'.cell? ⟨w.heap.size, 1, none⟩ = some (.slice a gs.length cap) := fun w' h => blk_cell (blk_below hblk h (blk_lt hblk)) 1
  rw [← hw0] at HB HG
  have HW0 := Lib.hid hw0
  clear hg hb1 hblk hw0
  rw [← HW0.out] at HT
  have hb := Below.refl w0.heap.size w0
  have HBA := Lib.hid (fun (W : World) (h : Below w0.heap.size w0 W) => best_any rows a gs cap ta tk tc m W (HG.out.keep h) hlm (HT.out.keep h) htm)
  have HRB := Lib.hid (fun (W : World) (h : Below w0.heap.size w0 W) => rbest_any rows a gs cap ta tk tc m W (HG.out.keep h) hlm (HT.out.keep h) htm)
  have hlen := bestL_len rows gs tk m
  obtain ⟨F, hF⟩ : ∃ F, F = bestL rows gs tk m := ⟨_, rfl⟩
  rw [← hF] at HBA HRB hlen
  clear hF
  obtain ⟨xs, ec⟩ := F
  go_enter Tryd.func6, Tryd.ntmps6
  go_wp2_with fail
  rw [← HW0.out]
  refine (awake_s _).mono ?_; rintro e w1 ⟨rfl, hb2⟩
  replace hb := bl_trans hb hb2; clear hb2
  by_cases hl : (1000 : Int) < gs.length
  · go_wp2_with fail
    go_ret
    exact ⟨rfl, bl_trans HB.out hb⟩
  by_cases hl2 : (2000 : Int) < tk.length
  · go_wp2_with fail
    go_ret
    exact ⟨rfl, bl_trans HB.out hb⟩
  go_wp2_with fail
  refine (HBA.out _ hb).mono ?_; rintro e w2 ⟨ad1, c1, rfl, hg1, hb2⟩
  have HG1 := Lib.hid hg1
  replace hb := bl_trans hb hb2; clear hb2 hg1
  go_wp2_with fail
  refine (HRB.out _ hb).mono ?_; rintro e w3 ⟨ad2, c2, rfl, hg2, hb2⟩
  have HG1' := Lib.hid (HG1.out.keep hb2)
  have HG2 := Lib.hid hg2
  replace hb := bl_trans hb hb2; clear hb2 hg2
  go_wp2_with fail
  refine (same_any ad1 ad2 xs xs c1 c2 _ HG1'.out HG2.out hlen hlen).mono ?_; rintro e w4 ⟨rfl, hb2⟩
  replace hb := bl_trans hb hb2; clear hb2
  go_wp2_with fail
  go_ret
  exact ⟨rfl, bl_trans HB.out hb⟩

theorem sbest_row (p : Lay) (q : Ints) (m : Int) (w : World) (h : GsAt w p.ad p.gs ∧ p.gs.length ≤ maxLen) (h2 : GsAt w q.ad q.xs ∧ q.xs.length ≤ maxLen) (_ : (Lit.int .i64 m).wf = true) :
    Calls Tryd.prog 6 #[.agg #[.int .i64 p.rows, .slice p.ad p.gs.length p.cap], .slice q.ad q.xs.length q.cap, .int .i64 m] w fun e w' => e = .returned (.bool true) ∧ Below w.heap.size w w' :=
  sbest_s p.rows p.ad p.gs p.cap q.ad q.xs q.cap m w h.1 h.2 h2.1 h2.2
end Go.Proofs.YtndagalglenbnaaDoor
