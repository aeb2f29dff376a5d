/- Who is alone in its group, plain. Conditions: none. -/
import Derived.Test.YtiamfdnllpiikaaElPure
namespace Go.Proofs.Ytiamfdnllpiikaa
open Go.RowKit

theorem lone_win {id : Int} (h1 : 1 ≤ id) (h9 : id ≤ 15) : winsB [id] [] [id] = true := by
  have e1 : decide (0 < id) = true := decide_eq_true (by omega)
  have e2 : decide (id ≤ 15) = true := decide_eq_true h9
  simp [winsB, rightG, risesB, cntV, e1, e2]
theorem lone_tick {S : Nd} (hr : S.role = 0) (hv : S.vs = [S.id]) (hl : S.ls = []) (h1 : 1 ≤ S.id) (h9 : S.id ≤ 15) (draw last lt : Int) :
    S.tick draw last lt = if S.waited + 1 < S.limit then (S.wait, []) else if maxIx ≤ S.term then ({ S.hope draw with role := 0 }, []) else ((S.hope draw).stand.lead, []) := by
  have w1 : (S.hope draw).win = true := by
    show winsB S.vs S.ls [S.id] = true
    rw [hv, hl]; exact lone_win h1 h9
  have w2 : (S.hope draw).stand.win = true := by
    show winsB S.vs S.ls [S.id] = true
    rw [hv, hl]; exact lone_win h1 h9
  unfold Nd.tick
  rw [if_neg (by omega)]
  by_cases hq : S.waited + 1 < S.limit
  · rw [if_pos (.inl hq), if_pos hq]
  · rw [if_neg (by rw [hv]; simp; omega), if_neg hq, if_pos w1]
    unfold Nd.run
    by_cases ht : maxIx ≤ S.term
    · rw [if_pos (by exact ht), if_pos ht]
    · rw [if_neg (by exact ht), if_neg ht, if_pos w2]
/-- After k ticks. -/
def Alone (S0 : Nd) (k : Nat) (S : Nd) : Prop :=
  ((k : Int) < S0.pat ∧ S = { S0 with waited := k }) ∨ ((k : Int) = S0.pat ∧ ((maxIx ≤ S0.term ∧ S.role = 0) ∨ (S0.term < maxIx ∧ S.role = 3 ∧ S.term = S0.term + 1 ∧ S.vote = S0.id ∧ S.leader = S0.id)))
theorem alone_step {id term vote pat : Int} {va : Option Addr} {vc : Nat} {la : Option Addr} {lc : Nat} (h1 : 1 ≤ id) (h9 : id ≤ 15) {k : Nat} {S : Nd} (hk : (k : Int) < pat) (h : Alone (newNd id term vote pat [id] [] va vc la lc) k S) :
    (S.tick 0 0 0).2 = [] ∧ Alone (newNd id term vote pat [id] [] va vc la lc) (k + 1) (S.tick 0 0 0).1 := by
  rcases h with ⟨_, rfl⟩ | ⟨he, _⟩
  · rw [lone_tick (by rfl) (by rfl) (by rfl) (by exact h1) (by exact h9)]
    by_cases hq : (k : Int) + 1 < pat
    · rw [if_pos (by exact hq)]
      exact ⟨rfl, .inl ⟨by simp [newNd]; omega, by simp [Nd.wait, newNd]⟩⟩
    · rw [if_neg (by exact hq)]
      by_cases ht : maxIx ≤ term
      · rw [if_pos (by exact ht)]
        exact ⟨rfl, .inr ⟨by simp [newNd]; omega, .inl ⟨ht, rfl⟩⟩⟩
      · rw [if_neg (by exact ht)]
        exact ⟨rfl, .inr ⟨by simp [newNd]; omega, .inr ⟨by simp [newNd]; omega, rfl, rfl, rfl, rfl⟩⟩⟩
  · exfalso
    simp only [newNd] at he
    omega
theorem alone_role {S0 S : Nd} {k : Nat} (h0 : S0.role = 0) (h : Alone S0 k S) : (S.role = 3 ↔ (k : Int) = S0.pat ∧ S0.term < maxIx) := by
  rcases h with ⟨h1, rfl⟩ | ⟨h1, ⟨h2, h3⟩ | ⟨h2, h3, _⟩⟩
  · simp only; omega
  · omega
  · omega
theorem alone_sane {S0 S : Nd} {k : Nat} (h : Alone S0 k S) (hk : (k : Int) < S0.pat) : S = { S0 with waited := k } := by
  rcases h with ⟨_, e⟩ | ⟨h1, _⟩
  · exact e
  · omega
end Go.Proofs.Ytiamfdnllpiikaa
