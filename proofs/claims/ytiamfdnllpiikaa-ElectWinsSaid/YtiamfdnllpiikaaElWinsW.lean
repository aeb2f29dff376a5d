/- ElectWins: of a fresh group who ticks alone is leader just if most have logs that are not newer. Conditions: none. -/
import Derived.Test.YtiamfdnllpiikaaElWinsR
import Derived.Test.YtiamfdnllpiikaaElAwake
import Derived.Test.YtiamfdnllpiikaaOpenEv
import Derived.Test.YtiamfdnllpiikaaElRefF
namespace Go.Proofs.Ytiamfdnllpiikaa
open Go.RowKit

def PW.ticks (P : PW) (k : Nat) : Nat → PW
  | 0 => P
  | m + 1 => (P.ticks k m).tick k 0
theorem turn_self {k N : Nat} (hk : k < N) : (⟨0, (k : Int), 0, 0⟩ : EvV).turn N = k := by
  unfold EvV.turn
  have : Int.tmod (k : Int) (N : Int) = k := by
    rw [Int.tmod_eq_emod_of_nonneg (by omega)]
    exact Int.emod_eq_of_lt (by omega) (by omega)
  simp only [this]
  rw [if_neg (by omega)]
  rfl
theorem begun_log {N : Nat} (l : List (Int × Int)) (va : Option Addr) (vc : Nat) {j : Nat} (hj : j < N) : (begun N l va vc).log j = l.getD j (0, 0) := by
  unfold begun PW.log logsL
  rw [List.getD_eq_getElem?_getD, List.getElem?_map, List.getElem?_range hj]
  rfl
theorem Stage.begin {N k : Nat} (h1 : 1 ≤ N) (h7 : N ≤ 7) (hk : k < N) (l : List (Int × Int)) (va : Option Addr) (vc : Nat) : Stage N k (fun j => l.getD j (0, 0)) ((begun N l va vc).ticks k 3) 0 := by
  obtain ⟨P0, hP0⟩ : ∃ P0, P0 = begun N l va vc := ⟨_, rfl⟩
  have hn0 : P0.ns.length = N := by rw [hP0]; simp [begun, begunNs]
  have hl0 : ∀ j, j < N → P0.log j = l.getD j (0, 0) := fun j hj => by rw [hP0]; exact begun_log l va vc hj
  have hs0 : P0.sent = [] := by rw [hP0]; rfl
  have ha0 : ∀ j, j < N → P0.at j = newNd ((j : Int) + 1) 0 0 3 (vsL N) [] va vc none 0 := fun j hj => by rw [hP0]; exact begun_at l va vc hj
  rw [← hP0]
  obtain ⟨S0, hS0⟩ : ∃ S0, S0 = newNd ((k : Int) + 1) 0 0 3 (vsL N) [] va vc none 0 := ⟨_, rfl⟩
  have hk0 := ha0 k hk
  rw [← hS0] at hk0
  have e1 : P0.tick k 0 = P0.gone k (S0.wait, []) := by
    unfold PW.tick
    rw [hk0, tick_wait (by rw [hS0]; show ¬ (0 : Int) = 3; decide) (.inl (by rw [hS0]; show (0 : Int) + 1 < 3; decide))]
  have n1 : (P0.gone k (S0.wait, [])).ns.length = N := by show (P0.ns.set k _).length = N; rw [List.length_set]; exact hn0
  have a1 : ∀ i, (P0.gone k (S0.wait, [])).at i = if i = k then S0.wait else P0.at i := fun i => gone_at hn0 hk _
  have e2 : (P0.gone k (S0.wait, [])).tick k 0 = (P0.gone k (S0.wait, [])).gone k (S0.wait.wait, []) := by
    unfold PW.tick
    rw [a1 k, if_pos rfl, tick_wait (by rw [hS0]; show (0 : Int) ≠ 3; decide) (.inl (by rw [hS0]; show (0 : Int) + 1 + 1 < 3; decide))]
  obtain ⟨P2, hP2⟩ : ∃ P2, P2 = (P0.gone k (S0.wait, [])).gone k (S0.wait.wait, []) := ⟨_, rfl⟩
  have n2 : P2.ns.length = N := by rw [hP2]; show (List.set _ k _).length = N; rw [List.length_set]; exact n1
  have a2 : ∀ i, P2.at i = if i = k then S0.wait.wait else P0.at i := fun i => by
    rw [hP2, gone_at n1 hk, a1]
    split
    · rfl
    · rfl
  have s2 : P2.sent = [] := by rw [hP2]; show (P0.sent ++ []) ++ [] = []; rw [hs0]; rfl
  have l2 : ∀ j, j < N → P2.log j = l.getD j (0, 0) := fun j hj => by rw [hP2]; exact hl0 j hj
  have e3 : P0.ticks k 3 = P2.tick k 0 := by
    show ((P0.tick k 0).tick k 0).tick k 0 = _
    rw [e1, e2, hP2]
  rw [e3]
  unfold PW.tick
  rw [a2 k, if_pos rfl, l2 k hk]
  obtain ⟨S2, hS2⟩ : ∃ S2, S2 = S0.wait.wait := ⟨_, rfl⟩
  rw [← hS2]
  have hme : Me N k (fun j => upB (l.getD k (0, 0)) (l.getD j (0, 0))) (S2.hope 0) := by
    rw [hS2, hS0]
    refine ⟨rfl, rfl, rfl, fun y hy => ⟨k, hk, ?_, up_self _⟩, fun y hy => (by cases hy), ?_⟩
    · exact List.mem_singleton.1 hy
    · exact List.mem_singleton.2 rfl
  have hro : (S2.hope 0).role = 1 := rfl
  have hte : (S2.hope 0).term = 0 := by rw [hS2, hS0]; rfl
  have ht : S2.tick 0 (l.getD k (0, 0)).1 (l.getD k (0, 0)).2 = if (S2.hope 0).win = true then (S2.hope 0).run (l.getD k (0, 0)).1 (l.getD k (0, 0)).2 else (S2.hope 0, (S2.hope 0).all 1 1 (l.getD k (0, 0)).1 (l.getD k (0, 0)).2) := by
    unfold Nd.tick
    rw [if_neg (by rw [hS2, hS0]; show ¬ (0 : Int) = 3; decide), if_neg]
    · rw [hS2, hS0]; rfl
    · rw [hS2, hS0]
      rintro (h | h)
      · revert h; show ¬ (0 : Int) + 1 + 1 + 1 < 3; decide
      · exact h (by show (k : Int) + 1 ∈ vsL N; unfold vsL; exact List.mem_map.2 ⟨k, by simpa using hk, rfl⟩)
  rw [ht]
  have stat : ∀ r, (P2.gone k r).ns.length = N ∧ (∀ i, i < N → (P2.gone k r).log i = l.getD i (0, 0)) := fun r => ⟨by show (P2.ns.set k r.1).length = N; rw [List.length_set]; exact n2, fun i hi => l2 i hi⟩
  have sent : ∀ r, (P2.gone k r).sent = [] ++ r.2 := fun r => by show P2.sent ++ r.2 = _; rw [s2]
  have oth : ∀ r j, j < N → j ≠ k → Oth k j ((P2.gone k r).at j) ∧ ((P2.gone k r).at j).term = 0 := fun r j hj hjk => by
    rw [gone_at n2 hk, if_neg hjk, a2, if_neg hjk, ha0 j hj]
    exact ⟨⟨rfl, rfl, rfl, .inl ⟨rfl, rfl⟩⟩, rfl⟩
  by_cases hw : (S2.hope 0).win = true
  · rw [if_pos hw]
    have hst := hme.stand hk (up_self _)
    unfold Nd.run
    rw [if_neg (by rw [hte]; unfold maxIx; decide), if_pos (show (S2.hope 0).stand.win = true from hw)]
    refine ⟨(stat _).1, (stat _).2, [], [], sent _, rfl, .inr ⟨fun b hb => (by cases hb), fun j hj hjk => (oth _ j hj hjk).1, ?_, ?_, ?_, ?_⟩⟩
    · rw [gone_at n2 hk, if_pos rfl]; exact hst.id
    · rw [gone_at n2 hk, if_pos rfl]; exact fun _ => ⟨hst.id, hst.vs, hst.ls, hst.yes, hst.no, hst.own⟩
    · rw [gone_at n2 hk, if_pos rfl]
      exact .inr (.inr (.inl ⟨rfl, by show (S2.hope 0).term + 1 = 1; rw [hte]; rfl, me_win hme hw⟩))
    · rw [gone_at n2 hk, if_pos rfl]
      show 0 + 0 + 0 + (if (3 : Int) = 1 then 2 * (N - 1) else 0) ≤ 4 * (N - 1)
      rw [if_neg (by decide)]
      omega
  · rw [if_neg hw]
    obtain ⟨q1, q2⟩ := all_ask (lg := fun j => l.getD j (0, 0)) hme (kind := 1)
    refine ⟨(stat _).1, (stat _).2, [], _, sent _, rfl, .inl ⟨⟨_, [], (List.append_nil _).symm, q1, fun b hb => (by cases hb), fun j hj hjk => .inl (q2 j hj hjk), ?_, by simp⟩, fun j hj hjk => oth _ j hj hjk, ?_, ?_, ?_, ?_⟩⟩
    · have := all_len hme hk (kind := 1) (term := 1) (l := (l.getD k (0, 0)).1) (t := (l.getD k (0, 0)).2)
      simpa using this
    · rw [gone_at n2 hk, if_pos rfl]; exact hme
    · rw [gone_at n2 hk, if_pos rfl]; exact hro
    · rw [gone_at n2 hk, if_pos rfl]; exact hte
    · rw [gone_at n2 hk, if_pos rfl]; simpa using hw
end Go.Proofs.Ytiamfdnllpiikaa
