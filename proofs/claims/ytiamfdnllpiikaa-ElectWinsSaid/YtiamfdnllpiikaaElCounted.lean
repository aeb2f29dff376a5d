/- elect: counted. Conditions: none. -/
import Derived.Test.YtiamfdnllpiikaaElVote
namespace Go.Proofs.Ytiamfdnllpiikaa
open Go.RowKit

set_option maxRecDepth 100000 in
set_option maxHeartbeats 2000000 in
theorem counted_at {b : Nat} {S : Nd} {L : List Nat} {w : World} (h : NodeAt w b S L) (h0 : 0 ≤ S.term) (hv : S.vs.length ≤ 1000) (last lt : Int) :
    Calls Try.prog 39 #[.pointer (some ⟨b, 0, none⟩), .int .i64 S.outc, .int .i64 last, .int .i64 lt] w fun e w' => Sends w b (S.counted last lt).1 L (S.counted last lt).2 e w' := by
  have HH := Lib.hid h
  obtain ⟨m, es, clock, yv, nv, hx⟩ := h
  have c0 := hx.cell 0
  have c1 := hx.cell 1
  have c2 := hx.cell 2
  have c3 := hx.cell 3
  have c4 := hx.cell 4
  have c5 := hx.cell 5
  have c6 := hx.cell 6
  have c7 := hx.cell 7
  have c8 := hx.cell 8
  have c9 := hx.cell 9
  have c10 := hx.cell 10
  have fz := hx.frozen
  simp only [nodeC, List.getElem?_toArray, List.getElem?_cons_zero, List.getElem?_cons_succ] at c0 c1 c2 c3 c4 c5 c6 c7 c8 c9 c10
  clear hx
  have HRN := Lib.hid (run_at HH.out h0 hv last lt)
  by_cases hw : S.win = true
  · have ho : S.outc = 1 := by unfold Nd.outc; rw [if_pos hw]
    rw [ho]
    clear ho
    by_cases hr : S.role = 1
    · have e1 : (S.role == 1) = true := by simp [hr]
      have HS := Lib.hid (show S.counted last lt = S.run last lt by unfold Nd.counted; rw [if_pos hw, if_pos hr])
      clear hw hr
      go_enter Try.func39, Try.ntmps39
      go_wp2_with fail
      refine HRN.out.mono ?_; rintro e w4 ⟨v, rfl, L4, h4, k4, hL4, hb4, ho4⟩
      go_wp2_with fail
      go_ret
      rw [HS.out]
      exact ⟨v, rfl, L4, h4, k4, hL4, hb4, ho4⟩
    · have e1 : (S.role == 1) = false := by simp [hr]
      have HS := Lib.hid (show S.counted last lt = (S.lead, []) by unfold Nd.counted; rw [if_pos hw, if_neg hr])
      clear hw hr
      go_enter Try.func39, Try.ntmps39
      go_wp2_with fail
      go_ret
      rw [HS.out]
      obtain ⟨h1, k1⟩ := HH.out.scal (S' := S.lead) (((Chg.refl _ w).set (p := ⟨b, 6, none⟩) (by simp) (.int .i64 3)).set (p := ⟨b, 7, none⟩) (by simp) (.int .i64 S.id)) (fun m h => blk_set (blk_set h 6 _) 7 _) ⟨rfl, rfl⟩ ⟨rfl, rfl⟩ rfl rfl
      exact Sends.none h1 k1 (fun x hx => .inl hx)
  · by_cases hl : S.lost = true
    · have ho : S.outc = 2 := by unfold Nd.outc; rw [if_neg hw, if_pos hl]
      rw [ho]
      have HS := Lib.hid (show S.counted last lt = ({ S with role := 0 }, []) by unfold Nd.counted; rw [if_neg hw, if_pos hl])
      clear hw hl ho
      go_enter Try.func39, Try.ntmps39
      go_wp2_with fail
      go_ret
      rw [HS.out]
      obtain ⟨h1, k1⟩ := HH.out.scal (S' := { S with role := 0 }) ((Chg.refl _ w).set (p := ⟨b, 6, none⟩) (by simp) (.int .i64 0)) (fun m h => blk_set h 6 _) ⟨rfl, rfl⟩ ⟨rfl, rfl⟩ rfl rfl
      exact Sends.none h1 k1 (fun x hx => .inl hx)
    · have ho : S.outc = 0 := by unfold Nd.outc; rw [if_neg hw, if_neg hl]
      rw [ho]
      have HS := Lib.hid (show S.counted last lt = (S, []) by unfold Nd.counted; rw [if_neg hw, if_neg hl])
      clear hw hl ho
      go_enter Try.func39, Try.ntmps39
      go_wp2_with fail
      go_ret
      rw [HS.out]
      exact Sends.none HH.out (Chg.refl _ _) (fun x hx => .inl hx)
end Go.Proofs.Ytiamfdnllpiikaa
