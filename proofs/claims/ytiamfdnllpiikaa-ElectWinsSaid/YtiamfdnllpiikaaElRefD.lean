/- The reference's node: Heard, Join, New. Conditions: none. -/
import Derived.Test.YtiamfdnllpiikaaElRefC
import Derived.Test.YtiamfdnllpiikaaElNew
import Derived.Test.YtiamfdnllpiikaaElHeard
import Derived.Test.YtiamfdnllpiikaaElJoin
namespace Go.Proofs.Ytiamfdnllpiikaa
open Go.RowKit

def HeardEndR (w : World) (b : Nat) (S : Nd) (L : List Nat) (src term : Int) (e : Ending) (w' : World) : Prop :=
  e = .returned (.bool (S.heard src term).2) ∧ MovesR w b (S.heard src term).1 L w'
set_option maxRecDepth 100000 in
set_option maxHeartbeats 4000000 in
theorem rheard_at {b : Nat} {S : Nd} {L : List Nat} {w : World} (h : RefAt w b S L) (src term : Int) :
    Calls Try.prog 26 #[.pointer (some ⟨b, 0, none⟩), .int .i64 src, .int .i64 term] w fun e w' => HeardEndR w b S L src term e w' := by
  obtain ⟨yv, nv, hx⟩ := h
  have HX := Lib.hid hx
  have c0 := hx.cell 0
  have c1 := hx.cell 1
  have c2 := hx.cell 2
  have c3 := hx.cell 3
  have c4 := hx.cell 4
  have c5 := hx.cell 5
  have c6 := hx.cell 6
  have c7 := hx.cell 7
  have c8 := hx.cell 8
  have c9 := hx.cell 9
  have c10 := hx.cell 10
  have c11 := hx.cell 11
  have fz := hx.frozen
  simp only [refC, List.getElem?_toArray, List.getElem?_cons_zero, List.getElem?_cons_succ] at c0 c1 c2 c3 c4 c5 c6 c7 c8 c9 c10 c11
  clear hx
  by_cases a1 : src < 1
  · have HS := Lib.hid (heard_no (S := S) (src := src) (term := term) (.inl (by unfold Nd.other; simp; omega)))
    have d1 : decide (src < 1) = true := decide_eq_true a1
    clear a1
    go_enter Try.func26, Try.ntmps26
    go_wp2_with fail
    go_ret
    refine ⟨by rw [HS.out]; rfl, ?_⟩
    rw [HS.out]
    exact ⟨L, ⟨_, _, HX.out⟩, Chg.refl _ _, fun x hx => .inl hx⟩
  have d1 : decide (src < 1) = false := decide_eq_false a1
  by_cases a2 : 15 < src
  · have HS := Lib.hid (heard_no (S := S) (src := src) (term := term) (.inl (by unfold Nd.other; simp; omega)))
    have d2 : decide (15 < src) = true := decide_eq_true a2
    clear a1 a2
    go_enter Try.func26, Try.ntmps26
    go_wp2_with fail
    go_ret
    refine ⟨by rw [HS.out]; rfl, ?_⟩
    rw [HS.out]
    exact ⟨L, ⟨_, _, HX.out⟩, Chg.refl _ _, fun x hx => .inl hx⟩
  have d2 : decide (15 < src) = false := decide_eq_false a2
  by_cases a3 : src = S.id
  · have HS := Lib.hid (heard_no (S := S) (src := src) (term := term) (.inl (by unfold Nd.other; simp; omega)))
    have d3 : (src == S.id) = true := by simp [a3]
    clear a1 a2 a3
    go_enter Try.func26, Try.ntmps26
    go_wp2_with fail
    go_ret
    refine ⟨by rw [HS.out]; rfl, ?_⟩
    rw [HS.out]
    exact ⟨L, ⟨_, _, HX.out⟩, Chg.refl _ _, fun x hx => .inl hx⟩
  have d3 : (src == S.id) = false := by simp [a3]
  have ho : ¬ S.other src = false := by
    have : S.other src = true := by
      unfold Nd.other
      rw [decide_eq_true (show 1 ≤ src by omega), decide_eq_true (show src ≤ 15 by omega), decide_eq_true (show src ≠ S.id from a3)]
      rfl
    rw [this]; decide
  by_cases h1 : term < S.term
  · have HS := Lib.hid (heard_no (S := S) (src := src) (term := term) (.inr (.inl h1)))
    clear a1 a2 a3 ho
    go_enter Try.func26, Try.ntmps26
    go_wp2_with fail
    go_ret
    refine ⟨by rw [HS.out]; rfl, ?_⟩
    rw [HS.out]
    exact ⟨L, ⟨_, _, HX.out⟩, Chg.refl _ _, fun x hx => .inl hx⟩
  by_cases h2 : maxIx < term
  · have HS := Lib.hid (heard_no (S := S) (src := src) (term := term) (.inr (.inr (.inl h2))))
    unfold maxIx at h2
    have g1 : decide (term < S.term) = false := decide_eq_false h1
    clear a1 a2 a3 ho
    go_enter Try.func26, Try.ntmps26
    go_wp2_with fail
    go_ret
    refine ⟨by rw [HS.out]; rfl, ?_⟩
    rw [HS.out]
    exact ⟨L, ⟨_, _, HX.out⟩, Chg.refl _ _, fun x hx => .inl hx⟩
  have g1 : decide (term < S.term) = false := decide_eq_false h1
  have g2 : decide (1099511627776 < term) = false := decide_eq_false h2
  by_cases h3 : term = S.term
  · have e1 : (term == S.term) = true := by simp [h3]
    have e2 : decide (S.term < term) = false := by simp [h3]
    by_cases h4 : S.role = 3
    · have e3 : (S.role == 3) = true := by simp [h4]
      have HS := Lib.hid (heard_no (S := S) (src := src) (term := term) (.inr (.inr (.inr ⟨h3, h4⟩))))
      clear a1 a2 a3 ho h1 h2 h3 h4
      go_enter Try.func26, Try.ntmps26
      go_wp2_with fail
      go_ret
      refine ⟨by rw [HS.out]; rfl, ?_⟩
      rw [HS.out]
      exact ⟨L, ⟨_, _, HX.out⟩, Chg.refl _ _, fun x hx => .inl hx⟩
    · have e3 : (S.role == 3) = false := by simp [h4]
      have HS := Lib.hid (heard_at_ (S := S) (src := src) (term := term) (by rintro (h | h | h | h); exact ho h; exact h1 h; exact h2 h; exact h4 h.2) (by omega))
      have h5 : ¬ S.term < term := by omega
      clear a1 a2 a3 ho h1 h2 h3 h4
      go_enter Try.func26, Try.ntmps26
      go_wp2_with fail
      go_ret
      refine ⟨by rw [HS.out]; rfl, ?_⟩
      rw [HS.out]
      have k : Chg [b] w (((w.setCell ⟨b, 6, none⟩ (.int .i64 0)).setCell ⟨b, 7, none⟩ (.int .i64 src)).setCell ⟨b, 8, none⟩ (.int .i64 0)) := (((Chg.refl _ w).set (by simp) _).set (by simp) _).set (by simp) _
      exact ⟨L, ⟨_, _, HX.out.scal (S' := { S with role := 0, leader := src, waited := 0 }) k (blk_set (blk_set (blk_set HX.out.blk 6 _) 7 _) 8 _) ⟨rfl, rfl⟩ ⟨rfl, rfl⟩ rfl rfl⟩, k.up1 HX.out.inb, fun x hx => .inl hx⟩
  · have e1 : (term == S.term) = false := by simp [h3]
    have h5 : S.term < term := by omega
    have e2 : decide (S.term < term) = true := by simp [h5]
    have HS := Lib.hid (heard_up (S := S) (src := src) (term := term) (by rintro (h | h | h | h); exact ho h; exact h1 h; exact h2 h; exact h3 h.1) h5)
    clear a1 a2 a3 ho h1 h2 h3
    go_enter Try.func26, Try.ntmps26
    go_wp2_with fail
    refine (rdown_at ⟨_, _, HX.out⟩ term).mono ?_; rintro e w2 ⟨rfl, L2, ⟨yv2, nv2, hx⟩, k2, hL2⟩
    clear c0 c1 c2 c3 c4 c5 c6 c7 c8 c9 c10 c11 fz
    have HN := Lib.hid hx
    have c0 := hx.cell 0
    have c1 := hx.cell 1
    have c2 := hx.cell 2
    have c3 := hx.cell 3
    have c4 := hx.cell 4
    have c5 := hx.cell 5
    have c6 := hx.cell 6
    have c7 := hx.cell 7
    have c8 := hx.cell 8
    have c9 := hx.cell 9
    have c10 := hx.cell 10
    have c11 := hx.cell 11
    have fz := hx.frozen
    simp only [refC, List.getElem?_toArray, List.getElem?_cons_zero, List.getElem?_cons_succ] at c0 c1 c2 c3 c4 c5 c6 c7 c8 c9 c10 c11
    clear hx
    go_wp2_with fail
    go_ret
    refine ⟨by rw [HS.out]; rfl, ?_⟩
    rw [HS.out]
    have k : Chg [b] w2 (((w2.setCell ⟨b, 6, none⟩ (.int .i64 0)).setCell ⟨b, 7, none⟩ (.int .i64 src)).setCell ⟨b, 8, none⟩ (.int .i64 0)) := (((Chg.refl _ w2).set (by simp) _).set (by simp) _).set (by simp) _
    obtain ⟨k3, hL3⟩ := Moves.trans k2 hL2 (k.up1 HN.out.inb) (fun x hx => .inl hx)
    exact ⟨L2, ⟨_, _, HN.out.scal (S' := { S.down term with role := 0, leader := src, waited := 0 }) k (blk_set (blk_set (blk_set HN.out.blk 6 _) 7 _) 8 _) ⟨rfl, rfl⟩ ⟨rfl, rfl⟩ rfl rfl⟩, k3, hL3⟩
end Go.Proofs.Ytiamfdnllpiikaa
