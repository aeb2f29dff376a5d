/- The reference's node: New; two lists of ballots compared. Conditions: none. -/
import Derived.Test.YtiamfdnllpiikaaElRefE
namespace Go.Proofs.Ytiamfdnllpiikaa
open Go.RowKit

def hardB (term vote : Int) : Bool := decide (0 ≤ term) && decide (term ≤ 1099511627776) && decide (0 ≤ vote) && decide (vote ≤ 15)
theorem rrh_at (term vote : Int) (w : World) :
    Calls Try.prog 43 #[.agg #[.int .i64 term, .int .i64 vote]] w fun e w' => e = .returned (.bool (hardB term vote)) ∧ Below w.heap.size w w' := by
  have HB := Lib.hid (bl_alloc (Below.refl w.heap.size w) (.cells #[.int .i64 term, .int .i64 vote] 23))
  by_cases h1 : 0 ≤ term
  · by_cases h2 : term ≤ 1099511627776
    · by_cases h3 : 0 ≤ vote
      · have HN := Lib.hid (show hardB term vote = decide (vote ≤ 15) by simp [hardB, h1, h2, h3])
        have d1 : decide (0 ≤ term) = true := decide_eq_true h1
        have d2 : decide (term ≤ 1099511627776) = true := decide_eq_true h2
        have d3 : decide (0 ≤ vote) = true := decide_eq_true h3
        go_enter Try.func43, Try.ntmps43
        go_wp2_with fail
        go_ret
        exact ⟨ret_bool HN.out.symm, HB.out⟩
      · have HN := Lib.hid (show hardB term vote = false by simp [hardB, h3])
        have d1 : decide (0 ≤ term) = true := decide_eq_true h1
        have d2 : decide (term ≤ 1099511627776) = true := decide_eq_true h2
        have d3 : decide (0 ≤ vote) = false := decide_eq_false h3
        go_enter Try.func43, Try.ntmps43
        go_wp2_with fail
        go_ret
        exact ⟨ret_bool HN.out.symm, HB.out⟩
    · have HN := Lib.hid (show hardB term vote = false by simp [hardB, h2])
      have d1 : decide (0 ≤ term) = true := decide_eq_true h1
      have d2 : decide (term ≤ 1099511627776) = false := decide_eq_false h2
      go_enter Try.func43, Try.ntmps43
      go_wp2_with fail
      go_ret
      exact ⟨ret_bool HN.out.symm, HB.out⟩
  · have HN := Lib.hid (show hardB term vote = false by simp [hardB, h1])
    have d1 : decide (0 ≤ term) = false := decide_eq_false h1
    go_enter Try.func43, Try.ntmps43
    go_wp2_with fail
    go_ret
    exact ⟨ret_bool HN.out.symm, HB.out⟩
def NewEndR (w : World) (id term vote pat : Int) (vs ls : List Int) (va : Option Addr) (vc : Nat) (la : Option Addr) (lc : Nat) (e : Ending) (w' : World) : Prop :=
  (newOk id term vote pat vs ls = false ∧ e = .returned (.tuple #[.pointer none, .int .i64 1]) ∧ Below w.heap.size w w') ∨
  (newOk id term vote pat vs ls = true ∧ ∃ b L, e = .returned (.tuple #[.pointer (some ⟨b, 0, none⟩), .int .i64 0]) ∧ RefAt w' b (newNd id term vote pat vs ls va vc la lc) L ∧ Below w.heap.size w w' ∧ ∀ x, x ∈ L → w.heap.size ≤ x)
set_option maxRecDepth 100000 in
set_option maxHeartbeats 4000000 in
theorem rnew_at (id term vote pat : Int) (vs ls : List Int) (va : Option Addr) (vc : Nat) (la : Option Addr) (lc : Nat) (w : World) (hv : GsAt w va vs) (hl : GsAt w la ls) (hvm : vs.length ≤ maxLen) (hlm : ls.length ≤ maxLen) :
    Calls Try.prog 22 #[.int .i64 id, .agg #[.int .i64 term, .int .i64 vote], .agg #[.slice va vs.length vc, .slice la ls.length lc], .int .i64 pat] w fun e w' => NewEndR w id term vote pat vs ls va vc la lc e w' := by
  have HB := Lib.hid (bl_alloc (bl_alloc (Below.refl w.heap.size w) (.cells #[.int .i64 term, .int .i64 vote] 23)) (.cells #[.slice va vs.length vc, .slice la ls.length lc] 31))
  have HE := Lib.hid (show newOk id term vote pat vs ls = (decide (1 ≤ id) && decide (id ≤ 15) && hardB term vote && decide (1 ≤ pat) && decide (pat ≤ 1000) && rightG vs ls) by unfold newOk maxIx hardB; simp only [Bool.and_assoc])
  have HB1 := Lib.hid (show ((w.alloc (.cells #[.int .i64 term, .int .i64 vote] 23)).alloc (.cells #[.slice va vs.length vc, .slice la ls.length lc] 31)).heap[w.heap.size]? = some (.cells #[.int .i64 term, .int .i64 vote] 23) from blk_alloc (blk_new w _ rfl) _)
  have HB2 := Lib.hid (show ((w.alloc (.cells #[.int .i64 term, .int .i64 vote] 23)).alloc (.cells #[.slice va vs.length vc, .slice la ls.length lc] 31)).heap[w.heap.size + 1]? = some (.cells #[.slice va vs.length vc, .slice la ls.length lc] 31) from blk_new _ _ (by simp))
  have HH := Lib.hid (rrh_at term vote ((w.alloc (.cells #[.int .i64 term, .int .i64 vote] 23)).alloc (.cells #[.slice va vs.length vc, .slice la ls.length lc] 31)))
  have HV := Lib.hid hv
  have HL := Lib.hid hl
  have HVM := Lib.hid hvm
  have HLM := Lib.hid hlm
  clear hv hl hvm hlm
  by_cases h1 : 1 ≤ id
  case neg =>
    have HF := Lib.hid (show newOk id term vote pat vs ls = false by rw [HE.out, decide_eq_false h1]; rfl)
    have e1 : decide (id < 1) = true := decide_eq_true (by omega)
    clear h1
    clear HB1
    go_enter Try.func22, Try.ntmps22
    go_wp2_with fail
    refine HH.out.mono ?_; rintro e w5 ⟨rfl, hb5⟩
    have HR := Lib.hid (rright_at va la vs ls vc lc w5 ((HV.out.keep HB.out).keep hb5) ((HL.out.keep HB.out).keep hb5) HVM.out HLM.out)
    have d2 := blk_cell (blk_below HB2.out hb5 (blk_lt HB2.out)) 0
    have d3 := blk_cell (blk_below HB2.out hb5 (blk_lt HB2.out)) 1
    simp only [List.getElem?_toArray, List.getElem?_cons_zero, List.getElem?_cons_succ] at d2 d3
    have HB5 := Lib.hid (bl_trans HB.out hb5)
    clear hb5
    go_wp2_with fail
    refine HR.out.mono ?_; rintro e w6 ⟨rfl, hb6⟩
    have HB6 := Lib.hid (bl_trans HB5.out hb6)
    clear hb6 d2 d3
    go_wp2_with fail
    go_ret2
    exact .inl ⟨HF.out, rfl, HB6.out⟩
  have e1 : decide (id < 1) = false := decide_eq_false (by omega)
  by_cases h2 : id ≤ 15
  case neg =>
    have HF := Lib.hid (show newOk id term vote pat vs ls = false by rw [HE.out, decide_eq_false h2]; simp)
    have e2 : decide (15 < id) = true := decide_eq_true (by omega)
    clear h1 h2
    clear HB1
    go_enter Try.func22, Try.ntmps22
    go_wp2_with fail
    refine HH.out.mono ?_; rintro e w5 ⟨rfl, hb5⟩
    have HR := Lib.hid (rright_at va la vs ls vc lc w5 ((HV.out.keep HB.out).keep hb5) ((HL.out.keep HB.out).keep hb5) HVM.out HLM.out)
    have d2 := blk_cell (blk_below HB2.out hb5 (blk_lt HB2.out)) 0
    have d3 := blk_cell (blk_below HB2.out hb5 (blk_lt HB2.out)) 1
    simp only [List.getElem?_toArray, List.getElem?_cons_zero, List.getElem?_cons_succ] at d2 d3
    have HB5 := Lib.hid (bl_trans HB.out hb5)
    clear hb5
    go_wp2_with fail
    refine HR.out.mono ?_; rintro e w6 ⟨rfl, hb6⟩
    have HB6 := Lib.hid (bl_trans HB5.out hb6)
    clear hb6 d2 d3
    go_wp2_with fail
    go_ret2
    exact .inl ⟨HF.out, rfl, HB6.out⟩
  have e2 : decide (15 < id) = false := decide_eq_false (by omega)
  by_cases h3 : hardB term vote = true
  case neg =>
    have h3' := eq_false_of_ne_true h3
    have HF := Lib.hid (show newOk id term vote pat vs ls = false by rw [HE.out, h3']; simp)
    rw [h3'] at HH
    clear h1 h2 h3 h3'
    clear HB1
    go_enter Try.func22, Try.ntmps22
    go_wp2_with fail
    refine HH.out.mono ?_; rintro e w5 ⟨rfl, hb5⟩
    have HR := Lib.hid (rright_at va la vs ls vc lc w5 ((HV.out.keep HB.out).keep hb5) ((HL.out.keep HB.out).keep hb5) HVM.out HLM.out)
    have d2 := blk_cell (blk_below HB2.out hb5 (blk_lt HB2.out)) 0
    have d3 := blk_cell (blk_below HB2.out hb5 (blk_lt HB2.out)) 1
    simp only [List.getElem?_toArray, List.getElem?_cons_zero, List.getElem?_cons_succ] at d2 d3
    have HB5 := Lib.hid (bl_trans HB.out hb5)
    clear hb5
    go_wp2_with fail
    refine HR.out.mono ?_; rintro e w6 ⟨rfl, hb6⟩
    have HB6 := Lib.hid (bl_trans HB5.out hb6)
    clear hb6 d2 d3
    go_wp2_with fail
    go_ret2
    exact .inl ⟨HF.out, rfl, HB6.out⟩
  rw [h3] at HH
  by_cases h4 : rightG vs ls = true
  case neg =>
    have h4' := eq_false_of_ne_true h4
    have HF := Lib.hid (show newOk id term vote pat vs ls = false by rw [HE.out, h4']; simp)
    clear h1 h2 h3 h4 HB1
    go_enter Try.func22, Try.ntmps22
    go_wp2_with fail
    refine HH.out.mono ?_; rintro e w5 ⟨rfl, hb5⟩
    have HR := Lib.hid (rright_at va la vs ls vc lc w5 ((HV.out.keep HB.out).keep hb5) ((HL.out.keep HB.out).keep hb5) HVM.out HLM.out)
    have d2 := blk_cell (blk_below HB2.out hb5 (blk_lt HB2.out)) 0
    have d3 := blk_cell (blk_below HB2.out hb5 (blk_lt HB2.out)) 1
    simp only [List.getElem?_toArray, List.getElem?_cons_zero, List.getElem?_cons_succ] at d2 d3
    have HB5 := Lib.hid (bl_trans HB.out hb5)
    clear hb5
    go_wp2_with fail
    refine HR.out.mono ?_; rintro e w6 ⟨rfl, hb6⟩
    have HB6 := Lib.hid (bl_trans HB5.out hb6)
    rw [h4']
    clear hb6 d2 d3 h4'
    go_wp2_with fail
    go_ret2
    exact .inl ⟨HF.out, rfl, HB6.out⟩
  by_cases h5 : 1 ≤ pat
  case neg =>
    have HF := Lib.hid (show newOk id term vote pat vs ls = false by rw [HE.out, decide_eq_false h5]; simp)
    have e5 : decide (pat < 1) = true := decide_eq_true (by omega)
    clear h1 h2 h3 h5 HB1
    go_enter Try.func22, Try.ntmps22
    go_wp2_with fail
    refine HH.out.mono ?_; rintro e w5 ⟨rfl, hb5⟩
    have HR := Lib.hid (rright_at va la vs ls vc lc w5 ((HV.out.keep HB.out).keep hb5) ((HL.out.keep HB.out).keep hb5) HVM.out HLM.out)
    have d2 := blk_cell (blk_below HB2.out hb5 (blk_lt HB2.out)) 0
    have d3 := blk_cell (blk_below HB2.out hb5 (blk_lt HB2.out)) 1
    simp only [List.getElem?_toArray, List.getElem?_cons_zero, List.getElem?_cons_succ] at d2 d3
    have HB5 := Lib.hid (bl_trans HB.out hb5)
    clear hb5
    go_wp2_with fail
    refine HR.out.mono ?_; rintro e w6 ⟨rfl, hb6⟩
    have HB6 := Lib.hid (bl_trans HB5.out hb6)
    rw [h4]
    clear hb6 d2 d3 h4
    go_wp2_with fail
    go_ret2
    exact .inl ⟨HF.out, rfl, HB6.out⟩
  have e5 : decide (pat < 1) = false := decide_eq_false (by omega)
  by_cases h6 : pat ≤ 1000
  case neg =>
    have HF := Lib.hid (show newOk id term vote pat vs ls = false by rw [HE.out, decide_eq_false h6]; simp)
    have e6 : decide (1000 < pat) = true := decide_eq_true (by omega)
    clear h1 h2 h3 h5 h6 HB1
    go_enter Try.func22, Try.ntmps22
    go_wp2_with fail
    refine HH.out.mono ?_; rintro e w5 ⟨rfl, hb5⟩
    have HR := Lib.hid (rright_at va la vs ls vc lc w5 ((HV.out.keep HB.out).keep hb5) ((HL.out.keep HB.out).keep hb5) HVM.out HLM.out)
    have d2 := blk_cell (blk_below HB2.out hb5 (blk_lt HB2.out)) 0
    have d3 := blk_cell (blk_below HB2.out hb5 (blk_lt HB2.out)) 1
    simp only [List.getElem?_toArray, List.getElem?_cons_zero, List.getElem?_cons_succ] at d2 d3
    have HB5 := Lib.hid (bl_trans HB.out hb5)
    clear hb5
    go_wp2_with fail
    refine HR.out.mono ?_; rintro e w6 ⟨rfl, hb6⟩
    have HB6 := Lib.hid (bl_trans HB5.out hb6)
    rw [h4]
    clear hb6 d2 d3 h4
    go_wp2_with fail
    go_ret2
    exact .inl ⟨HF.out, rfl, HB6.out⟩
  have e6 : decide (1000 < pat) = false := decide_eq_false (by omega)
  have HF := Lib.hid (show newOk id term vote pat vs ls = true by rw [HE.out, h3, h4, decide_eq_true h1, decide_eq_true h2, decide_eq_true h5, decide_eq_true h6]; rfl)
  clear h1 h2 h3 h5 h6
  go_enter Try.func22, Try.ntmps22
  go_wp2_with fail
  refine HH.out.mono ?_; rintro e w5 ⟨rfl, hb5⟩
  have HR := Lib.hid (rright_at va la vs ls vc lc w5 ((HV.out.keep HB.out).keep hb5) ((HL.out.keep HB.out).keep hb5) HVM.out HLM.out)
  have hB1 := blk_below HB1.out hb5 (blk_lt HB1.out)
  have hB2 := blk_below HB2.out hb5 (blk_lt HB2.out)
  have d2 := blk_cell hB2 0
  have d3 := blk_cell hB2 1
  simp only [List.getElem?_toArray, List.getElem?_cons_zero, List.getElem?_cons_succ] at d2 d3
  have HB5 := Lib.hid (bl_trans HB.out hb5)
  have HB1' := Lib.hid hB1
  have HB2' := Lib.hid hB2
  clear hb5 hB1 hB2
  go_wp2_with fail
  refine HR.out.mono ?_; rintro e w6 ⟨rfl, hb6⟩
  rw [h4]
  have hB1 := blk_below HB1'.out hb6 (blk_lt HB1'.out)
  have hB2 := blk_below HB2'.out hb6 (blk_lt HB2'.out)
  have u0 := blk_cell hB1 0
  have u1 := blk_cell hB1 1
  have u2 := blk_cell hB2 0
  have u3 := blk_cell hB2 1
  simp only [List.getElem?_toArray, List.getElem?_cons_zero, List.getElem?_cons_succ] at u0 u1 u2 u3
  have HB6 := Lib.hid (bl_trans HB5.out hb6)
  clear hb6 hB1 hB2 d2 d3 h4 HR HH HB1' HB2' HB1 HB2 HB5 HB HE
  go_wp2_with fail
  go_ret2
  have hb7 := bl_alloc HB6.out (.cells (refC (newNd id term vote pat vs ls va vc la lc) (.slice none 0 0) (.slice none 0 0)) 70)
  have hL : ∀ x, x ∈ [w6.heap.size] → w.heap.size ≤ x := by
    have := HB6.out.size
    intro x hx
    simp only [List.mem_cons, List.not_mem_nil, or_false] at hx
    omega
  refine .inr ⟨HF.out, w6.heap.size, [w6.heap.size], rfl, ⟨.slice none 0 0, .slice none 0 0, ?_⟩, hb7, hL⟩
  exact ⟨blk_new _ _ rfl, HV.out.out hb7 hL, HL.out.out hb7 hL, HVM.out, HLM.out, own_nil _ _, own_nil _ _, apart_nil _, by simp, (show (0 : Nat) ≤ 1000 by omega), (show (0 : Nat) ≤ 1000 by omega), fun x hx => by
    simp only [List.mem_cons, List.not_mem_nil, or_false] at hx
    subst hx
    simp⟩
end Go.Proofs.Ytiamfdnllpiikaa
