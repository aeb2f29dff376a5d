/- elect: Heard. Conditions: none. -/
import Derived.Test.YtiamfdnllpiikaaElCounted
namespace Go.Proofs.Ytiamfdnllpiikaa
open Go.RowKit

def HeardEnd (w : World) (b : Nat) (S : Nd) (L : List Nat) (src term : Int) (e : Ending) (w' : World) : Prop :=
  e = .returned (.bool (S.heard src term).2) ∧ Moves w b (S.heard src term).1 L w'
theorem heard_no {S : Nd} {src term : Int} (h : S.other src = false ∨ term < S.term ∨ maxIx < term ∨ (term = S.term ∧ S.role = 3)) : S.heard src term = (S, false) := by unfold Nd.heard; rw [if_pos h]
theorem heard_up {S : Nd} {src term : Int} (h : ¬ (S.other src = false ∨ term < S.term ∨ maxIx < term ∨ (term = S.term ∧ S.role = 3))) (h2 : S.term < term) : S.heard src term = ({ S.down term with role := 0, leader := src, waited := 0 }, true) := by unfold Nd.heard; rw [if_neg h, if_pos h2]
theorem heard_at_ {S : Nd} {src term : Int} (h : ¬ (S.other src = false ∨ term < S.term ∨ maxIx < term ∨ (term = S.term ∧ S.role = 3))) (h2 : ¬ S.term < term) : S.heard src term = ({ S with role := 0, leader := src, waited := 0 }, true) := by unfold Nd.heard; rw [if_neg h, if_neg h2]

set_option maxRecDepth 100000 in
set_option maxHeartbeats 2000000 in
theorem heard_at {b : Nat} {S : Nd} {L : List Nat} {w : World} (h : NodeAt w b S L) (src term : Int) :
    Calls Try.prog 15 #[.pointer (some ⟨b, 0, none⟩), .int .i64 src, .int .i64 term] w fun e w' => HeardEnd w b S L src term e w' := by
  have HH := Lib.hid h
  have HO := other_at h src
  obtain ⟨m, es, clock, yv, nv, hx⟩ := h
  have c0 := hx.cell 0
  have c1 := hx.cell 1
  have c2 := hx.cell 2
  have c3 := hx.cell 3
  have c4 := hx.cell 4
  have c5 := hx.cell 5
  have c6 := hx.cell 6
  have c7 := hx.cell 7
  have c8 := hx.cell 8
  have c9 := hx.cell 9
  have c10 := hx.cell 10
  have fz := hx.frozen
  simp only [nodeC, List.getElem?_toArray, List.getElem?_cons_zero, List.getElem?_cons_succ] at c0 c1 c2 c3 c4 c5 c6 c7 c8 c9 c10
  clear hx
  by_cases ho : S.other src = false
  · rw [ho] at HO
    have HS := Lib.hid (heard_no (S := S) (src := src) (term := term) (.inl ho))
    clear ho
    go_enter Try.func15, Try.ntmps15
    go_wp2_with fail
    refine HO.mono ?_; rintro e w1 ⟨rfl, rfl⟩
    go_wp2_with fail
    go_ret
    refine ⟨by rw [HS.out]; rfl, ?_⟩
    rw [HS.out]
    exact ⟨L, HH.out, Chg.refl _ _, fun x hx => .inl hx⟩
  rw [eq_true_of_ne_false ho] at HO
  by_cases h1 : term < S.term
  · have HS := Lib.hid (heard_no (S := S) (src := src) (term := term) (.inr (.inl h1)))
    clear ho
    go_enter Try.func15, Try.ntmps15
    go_wp2_with fail
    refine HO.mono ?_; rintro e w1 ⟨rfl, rfl⟩
    go_wp2_with fail
    go_ret
    refine ⟨by rw [HS.out]; rfl, ?_⟩
    rw [HS.out]
    exact ⟨L, HH.out, Chg.refl _ _, fun x hx => .inl hx⟩
  by_cases h2 : maxIx < term
  · have HS := Lib.hid (heard_no (S := S) (src := src) (term := term) (.inr (.inr (.inl h2))))
    clear ho
    unfold maxIx at h2
    have g1 : decide (term < S.term) = false := decide_eq_false h1
    go_enter Try.func15, Try.ntmps15
    go_wp2_with fail
    refine HO.mono ?_; rintro e w1 ⟨rfl, rfl⟩
    go_wp2_with fail
    go_ret
    refine ⟨by rw [HS.out]; rfl, ?_⟩
    rw [HS.out]
    exact ⟨L, HH.out, Chg.refl _ _, fun x hx => .inl hx⟩
  have g1 : decide (term < S.term) = false := decide_eq_false h1
  have g2 : decide (1099511627776 < term) = false := decide_eq_false h2
  by_cases h3 : term = S.term
  · have e1 : (term == S.term) = true := by simp [h3]
    have e2 : decide (S.term < term) = false := by simp [h3]
    by_cases h4 : S.role = 3
    · have e3 : (S.role == 3) = true := by simp [h4]
      have HS := Lib.hid (heard_no (S := S) (src := src) (term := term) (.inr (.inr (.inr ⟨h3, h4⟩))))
      clear ho h1 h2 h3 h4
      go_enter Try.func15, Try.ntmps15
      go_wp2_with fail
      refine HO.mono ?_; rintro e w1 ⟨rfl, rfl⟩
      go_wp2_with fail
      go_ret
      refine ⟨by rw [HS.out]; rfl, ?_⟩
      rw [HS.out]
      exact ⟨L, HH.out, Chg.refl _ _, fun x hx => .inl hx⟩
    · have e3 : (S.role == 3) = false := by simp [h4]
      have HS := Lib.hid (heard_at_ (S := S) (src := src) (term := term) (by rintro (h | h | h | h); exact ho h; exact h1 h; exact h2 h; exact h4 h.2) (by omega))
      have h5 : ¬ S.term < term := by omega
      clear ho h1 h2 h3 h4
      go_enter Try.func15, Try.ntmps15
      go_wp2_with fail
      refine HO.mono ?_; rintro e w1 ⟨rfl, rfl⟩
      go_wp2_with fail
      go_ret
      refine ⟨by rw [HS.out]; rfl, ?_⟩
      rw [HS.out]
      obtain ⟨h1, k1⟩ := HH.out.scal (S' := { S with role := 0, leader := src, waited := 0 }) ((((Chg.refl _ w).set (p := ⟨b, 6, none⟩) (by simp) (.int .i64 0)).set (p := ⟨b, 7, none⟩) (by simp) (.int .i64 src)).set (p := ⟨b, 8, none⟩) (by simp) (.int .i64 0)) (fun m h => blk_set (blk_set (blk_set h 6 _) 7 _) 8 _) ⟨rfl, rfl⟩ ⟨rfl, rfl⟩ rfl rfl
      exact ⟨L, h1, k1, fun x hx => .inl hx⟩
  · have e1 : (term == S.term) = false := by simp [h3]
    have h5 : S.term < term := by omega
    have e2 : decide (S.term < term) = true := by simp [h5]
    have HS := Lib.hid (heard_up (S := S) (src := src) (term := term) (by rintro (h | h | h | h); exact ho h; exact h1 h; exact h2 h; exact h3 h.1) h5)
    clear ho h1 h2 h3
    go_enter Try.func15, Try.ntmps15
    go_wp2_with fail
    refine HO.mono ?_; rintro e w1 ⟨rfl, rfl⟩
    go_wp2_with fail
    refine (down_at HH.out term).mono ?_; rintro e w2 ⟨rfl, L2, h2, k2, hL2⟩
    have HN := Lib.hid h2
    obtain ⟨m, es, clock, yv, nv, hx⟩ := h2
    clear c0 c1 c2 c3 c4 c5 c6 c7 c8 c9 c10 fz
    have c0 := hx.cell 0
    have c1 := hx.cell 1
    have c2 := hx.cell 2
    have c3 := hx.cell 3
    have c4 := hx.cell 4
    have c5 := hx.cell 5
    have c6 := hx.cell 6
    have c7 := hx.cell 7
    have c8 := hx.cell 8
    have c9 := hx.cell 9
    have c10 := hx.cell 10
    have fz := hx.frozen
    simp only [nodeC, List.getElem?_toArray, List.getElem?_cons_zero, List.getElem?_cons_succ] at c0 c1 c2 c3 c4 c5 c6 c7 c8 c9 c10
    clear hx
    go_wp2_with fail
    go_ret
    refine ⟨by rw [HS.out]; rfl, ?_⟩
    rw [HS.out]
    obtain ⟨h1, k1⟩ := HN.out.scal (S' := { S.down term with role := 0, leader := src, waited := 0 }) ((((Chg.refl _ w2).set (p := ⟨b, 6, none⟩) (by simp) (.int .i64 0)).set (p := ⟨b, 7, none⟩) (by simp) (.int .i64 src)).set (p := ⟨b, 8, none⟩) (by simp) (.int .i64 0)) (fun m h => blk_set (blk_set (blk_set h 6 _) 7 _) 8 _) ⟨rfl, rfl⟩ ⟨rfl, rfl⟩ rfl rfl
    obtain ⟨k3, hL3⟩ := Moves.trans k2 hL2 k1 (fun x hx => .inl hx)
    exact ⟨L2, h1, k3, hL3⟩
end Go.Proofs.Ytiamfdnllpiikaa
