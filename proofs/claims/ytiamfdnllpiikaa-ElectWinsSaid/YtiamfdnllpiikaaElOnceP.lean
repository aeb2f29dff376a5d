/- One leader to a term: the law, without memory. Conditions: none. -/
import Derived.Test.YtiamfdnllpiikaaElWP
namespace Go.Proofs.Ytiamfdnllpiikaa
open Go.RowKit

/-- What a node may do at its tick. -/
structure Ticks (S S' : Nd) (out : List Bal) : Prop where
  id : S'.id = S.id
  g : SameG S S'
  up : S'.role = 2 ∨ S'.role = 3 → ((S.role = 2 ∨ S.role = 3) ∧ S'.term = S.term ∧ S'.yes = S.yes) ∨ (S'.vote = S.id ∧ S'.yes = [S.id])
  top : S'.role = 3 → (S.role = 3 ∧ S'.yes = S.yes) ∨ S'.win = true
  out : ∀ b, b ∈ out → b.kind ≠ 4
theorem all_kind {S : Nd} {kind term last lt : Int} {b : Bal} (h : b ∈ S.all kind term last lt) : b.kind = kind := by
  unfold Nd.all at h
  obtain ⟨v, _, rfl⟩ := List.mem_map.1 h
  rfl
theorem run_ticks (S : Nd) (last lt : Int) (h : S.role ≠ 2 ∧ S.role ≠ 3) : Ticks S (S.run last lt).1 (S.run last lt).2 := by
  have hg := run_g S last lt
  revert hg
  unfold Nd.run
  split
  · exact fun hg => ⟨rfl, hg, fun k => by rcases k with k | k <;> simp at k, fun k => by simp at k, fun b hb => by simp at hb⟩
  · split
    · next hw => exact fun hg => ⟨rfl, hg, fun _ => .inr ⟨rfl, rfl⟩, fun _ => .inr hw, fun b hb => by simp at hb⟩
    · exact fun hg => ⟨rfl, hg, fun _ => .inr ⟨rfl, rfl⟩, fun k => by simp [Nd.stand, Nd.alone] at k, fun b hb => by rw [all_kind hb]; decide⟩
theorem tick_ticks (S : Nd) (draw last lt : Int) : Ticks S (S.tick draw last lt).1 (S.tick draw last lt).2 := by
  have hg := tick_g S draw last lt
  revert hg
  unfold Nd.tick
  split
  · next h3 => exact fun hg => ⟨rfl, hg, fun k => .inl ⟨k, rfl, rfl⟩, fun k => .inl ⟨k, rfl⟩, fun b hb => by simp at hb⟩
  · split
    · next h3 _ => exact fun hg => ⟨rfl, hg, fun k => .inl ⟨k, rfl, rfl⟩, fun k => .inl ⟨k, rfl⟩, fun b hb => by simp at hb⟩
    · split
      · intro hg
        have h := run_ticks (S.hope draw) last lt ⟨by simp [Nd.hope, Nd.alone], by simp [Nd.hope, Nd.alone]⟩
        refine ⟨h.id, hg, fun k => ?_, fun k => ?_, h.out⟩
        · rcases h.up k with ⟨k2, _⟩ | k2
          · rcases k2 with k2 | k2 <;> simp [Nd.hope, Nd.alone] at k2
          · exact .inr k2
        · rcases h.top k with ⟨k2, _⟩ | k2
          · simp [Nd.hope, Nd.alone] at k2
          · exact .inr k2
      · exact fun hg => ⟨rfl, hg, fun k => by rcases k with k | k <;> simp [Nd.hope, Nd.alone] at k, fun k => by simp [Nd.hope, Nd.alone] at k, fun b hb => by rw [all_kind hb]; decide⟩
/-- What a node may do with a ballot. -/
structure Takes (S S' : Nd) (x : Bal) (out : List Bal) : Prop where
  id : S'.id = S.id
  g : SameG S S'
  up : S'.role = 2 ∨ S'.role = 3 → ((S.role = 2 ∨ S.role = 3) ∧ S'.term = S.term ∧ ∀ y, y ∈ S'.yes → y ∈ S.yes ∨ (y = x.src ∧ x.kind = 4 ∧ x.yes = true ∧ x.term = S.term ∧ x.dst = S.id)) ∨ (S'.vote = S.id ∧ S'.yes = [S.id])
  top : S'.role = 3 → (S.role = 3 ∧ S'.yes = S.yes) ∨ S'.win = true
  out : ∀ b, b ∈ out → b.kind = 4 → b.yes = true → b.src = S.id ∧ b.term = S'.term ∧ b.dst = S'.vote ∧ S'.vote ≠ 0
theorem Takes.same {S : Nd} {x : Bal} {out : List Bal} (h : ∀ b, b ∈ out → b.kind ≠ 4 ∨ b.yes = false) : Takes S S x out :=
  ⟨rfl, .refl S, fun k => .inl ⟨k, rfl, fun y hy => .inl hy⟩, fun k => .inl ⟨k, rfl⟩, fun b hb h4 hy => by
    rcases h b hb with h | h
    · exact absurd h4 h
    · rw [h] at hy; cases hy⟩
theorem Takes.low {S S' : Nd} {x : Bal} {out : List Bal} (hi : S'.id = S.id) (hg : SameG S S') (h2 : S'.role ≠ 2) (h3 : S'.role ≠ 3) (h : ∀ b, b ∈ out → b.kind ≠ 4) : Takes S S' x out :=
  ⟨hi, hg, fun k => by rcases k with k | k; exact absurd k h2; exact absurd k h3, fun k => absurd k h3, fun b hb h4 => absurd h4 (h b hb)⟩
theorem says_ro (S : Nd) (src : Int) (y : Bool) : (S.says src y).role = S.role := by unfold Nd.says; split; exact rfl; split <;> exact rfl
theorem says_id (S : Nd) (src : Int) (y : Bool) : (S.says src y).id = S.id ∧ (S.says src y).term = S.term := by
  unfold Nd.says
  split
  · exact ⟨rfl, rfl⟩
  · split <;> exact ⟨rfl, rfl⟩
theorem says_yes {S : Nd} {src : Int} {b : Bool} {y : Int} (h : y ∈ (S.says src b).yes) : y ∈ S.yes ∨ (y = src ∧ b = true) := by
  unfold Nd.says at h
  split at h
  · exact .inl h
  · split at h
    · next hb =>
      rcases List.mem_append.1 h with h | h
      · exact .inl h
      · exact .inr ⟨List.mem_singleton.1 h, hb⟩
    · exact .inl h
theorem other_ne {S : Nd} {src : Int} (h : S.other src = true) : 1 ≤ src := by
  unfold Nd.other at h
  simp only [Bool.and_eq_true, decide_eq_true_eq] at h
  exact h.1.1
theorem take_takes (S : Nd) (x : Bal) (last lt : Int) : Takes S (S.take x last lt).1 x (S.take x last lt).2 := by
  have hg := take_g S x last lt
  revert hg
  unfold Nd.take
  split
  · exact fun _ => .same (fun b hb => by simp at hb)
  next hno =>
  have ho : S.other x.src = true := by
    cases h : S.other x.src with
    | true => rfl
    | false => exact absurd (.inr (.inl h)) hno
  have hdst : x.dst = S.id := Decidable.byContradiction fun k => hno (.inl k)
  split
  · split
    · exact fun _ => .same (fun b hb => .inl (by rw [List.mem_singleton.1 hb]; show (2 : Int) ≠ 4; decide))
    · exact fun _ => .same (fun b hb => .inl (by rw [List.mem_singleton.1 hb]; show (2 : Int) ≠ 4; decide))
  split
  · split
    · exact fun hg => .low rfl hg (by simp [Nd.down]) (by simp [Nd.down]) (fun b hb => by simp at hb)
    · split
      · next hr =>
        intro hg
        have hr1 : (S.says x.src x.yes).role = 1 := by rw [says_ro]; exact hr.1
        have hsi := says_id S x.src x.yes
        revert hg
        unfold Nd.counted
        split
        · try rw [if_pos hr1]
          intro hg
          have h := run_ticks (S.says x.src x.yes) last lt ⟨by rw [hr1]; decide, by rw [hr1]; decide⟩
          refine ⟨h.id.trans hsi.1, hg, fun k => ?_, fun k => ?_, fun b hb h4 => absurd h4 (h.out b hb)⟩
          · rcases h.up k with ⟨k2, _⟩ | k2
            · rw [hr1] at k2; rcases k2 with k2 | k2 <;> cases k2
            · rw [hsi.1] at k2; exact .inr k2
          · rcases h.top k with ⟨k2, _⟩ | k2
            · rw [hr1] at k2; cases k2
            · exact .inr k2
        · split
          · exact fun hg => .low hsi.1 hg (by simp) (by simp) (fun b hb => by simp at hb)
          · exact fun hg => .low hsi.1 hg (by rw [hr1]; decide) (by rw [hr1]; decide) (fun b hb => by simp at hb)
      · exact fun _ => .same (fun b hb => by simp at hb)
  split
  · have hout : ∀ (T : Nd), T.id = S.id → ∀ b, b ∈ [(⟨4, S.id, x.src, T.term, 0, 0, true⟩ : Bal)] → b.kind = 4 → b.yes = true → b.src = S.id ∧ b.term = (T.voteFor x.src).term ∧ b.dst = (T.voteFor x.src).vote ∧ (T.voteFor x.src).vote ≠ 0 := fun T hi b hb _ _ => by
      rw [List.mem_singleton.1 hb]
      exact ⟨rfl, rfl, rfl, by have := other_ne ho; show x.src ≠ 0; omega⟩
    by_cases hlt : S.term < x.term
    · simp only [if_pos hlt]
      split
      · exact fun hg => ⟨rfl, hg, fun k => by simp [Nd.voteFor, Nd.down] at k, fun k => by simp [Nd.voteFor, Nd.down] at k, hout (S.down x.term) rfl⟩
      · exact fun hg => ⟨rfl, hg, fun k => by simp [Nd.down] at k, fun k => by simp [Nd.down] at k, fun b hb _ hy => by rw [List.mem_singleton.1 hb] at hy; cases hy⟩
    · simp only [if_neg hlt]
      split
      · intro hg
        have hro : ∀ r, r ≠ 0 → (S.voteFor x.src).role = r → S.role = r := fun r h0 k => by
          unfold Nd.voteFor at k
          simp only at k
          split at k
          · exact absurd k.symm h0
          · exact k
        exact ⟨rfl, hg, fun k => .inl ⟨by rcases k with k | k; exact .inl (hro 2 (by decide) k); exact .inr (hro 3 (by decide) k), rfl, fun y hy => .inl hy⟩, fun k => .inl ⟨hro 3 (by decide) k, rfl⟩, hout S rfl⟩
      · exact fun hg => ⟨rfl, hg, fun k => .inl ⟨k, rfl, fun y hy => .inl hy⟩, fun k => .inl ⟨k, rfl⟩, fun b hb _ hy => by rw [List.mem_singleton.1 hb] at hy; cases hy⟩
  split
  · split
    · exact fun hg => .low rfl hg (by simp [Nd.down]) (by simp [Nd.down]) (fun b hb => by simp at hb)
    · split
      · next h4 hlt hr =>
        intro hg
        have hsi := says_id S x.src x.yes
        have hr2 : (S.says x.src x.yes).role = 2 := by rw [says_ro]; exact hr.1
        have hy : ∀ y, y ∈ (S.says x.src x.yes).yes → y ∈ S.yes ∨ (y = x.src ∧ x.kind = 4 ∧ x.yes = true ∧ x.term = S.term ∧ x.dst = S.id) := fun y hy => by
          rcases says_yes hy with h | h
          · exact .inl h
          · exact .inr ⟨h.1, h4, h.2, hr.2, hdst⟩
        revert hg
        unfold Nd.counted
        split
        · next hw =>
          try rw [if_neg (show ¬ (S.says x.src x.yes).role = 1 by rw [hr2]; decide)]
          exact fun hg => ⟨hsi.1, hg, fun _ => .inl ⟨.inl hr.1, hsi.2, hy⟩, fun _ => .inr hw, fun b hb => by simp at hb⟩
        · split
          · exact fun hg => .low hsi.1 hg (by simp) (by simp) (fun b hb => by simp at hb)
          · exact fun hg => ⟨hsi.1, hg, fun _ => .inl ⟨.inl hr.1, hsi.2, hy⟩, fun k => (by rw [hr2] at k; cases k), fun b hb => by simp at hb⟩
      · exact fun _ => .same (fun b hb => by simp at hb)
  · exact fun _ => .same (fun b hb => by simp at hb)
end Go.Proofs.Ytiamfdnllpiikaa
