/- Who stands in a fresh group: each ballot's step. Conditions: none. -/
import Derived.Test.YtiamfdnllpiikaaElWinsP
namespace Go.Proofs.Ytiamfdnllpiikaa
open Go.RowKit

section
variable {N k : Nat} {lg : Nat → Int × Int} {S : Nd} {b : Bal} {last lt : Int}
def Bad (S : Nd) (b : Bal) : Prop := b.dst ≠ S.id ∨ S.other b.src = false ∨ b.term < 0 ∨ maxIx < b.term
theorem t1 (hg : ¬ Bad S b) (hk : b.kind = 1) : S.take b last lt = if S.term < b.term ∧ Nd.oldB b last lt = true ∧ (S.leader = 0 ∨ S.pat ≤ S.waited) then (S, [⟨2, S.id, b.src, b.term, 0, 0, true⟩]) else (S, [⟨2, S.id, b.src, S.term, 0, 0, false⟩]) := by
  unfold Bad at hg
  unfold Nd.take
  rw [if_neg hg, if_pos hk]
theorem t2 (hg : ¬ Bad S b) (hk : b.kind = 2) : S.take b last lt = if S.term < b.term ∧ b.yes = false then (S.down b.term, []) else if S.role = 1 ∧ (b.yes = false ∨ b.term = S.term + 1) then (S.says b.src b.yes).counted last lt else (S, []) := by
  unfold Bad at hg
  unfold Nd.take
  rw [if_neg hg, if_neg (by omega), if_pos hk]
theorem t3 (hg : ¬ Bad S b) (hk : b.kind = 3) {T : Nd} (hT : T = if S.term < b.term then S.down b.term else S) : S.take b last lt = if b.term = T.term ∧ (T.vote = 0 ∨ T.vote = b.src) ∧ Nd.oldB b last lt = true then (T.voteFor b.src, [⟨4, S.id, b.src, T.term, 0, 0, true⟩]) else (T, [⟨4, S.id, b.src, T.term, 0, 0, false⟩]) := by
  unfold Bad at hg
  unfold Nd.take
  rw [if_neg hg, if_neg (by omega), if_neg (by omega), if_pos hk, hT]
theorem t4 (hg : ¬ Bad S b) (hk : b.kind = 4) : S.take b last lt = if S.term < b.term then (S.down b.term, []) else if S.role = 2 ∧ b.term = S.term then (((S.says b.src b.yes).counted last lt).1, []) else (S, []) := by
  unfold Bad at hg
  unfold Nd.take
  rw [if_neg hg, if_neg (by omega), if_neg (by omega), if_neg (by omega), if_pos hk]
theorem not_bad {i j : Nat} (h7 : N ≤ 7) (hj : j < N) (hij : j ≠ i) (hi : S.id = (i : Int) + 1) (hd : b.dst = (i : Int) + 1) (hs : b.src = (j : Int) + 1) (h0 : 0 ≤ b.term) (h1 : b.term ≤ 1) : ¬ Bad S b := by
  have ho : S.other b.src = true := by
    unfold Nd.other
    simp only [Bool.and_eq_true, decide_eq_true_eq]
    omega
  unfold Bad maxIx
  rw [ho]
  rintro (h | h | h | h)
  · exact h (by omega)
  · cases h
  · omega
  · omega
theorem old_ask {kind : Int} (h : Ask N k lg kind b) (j : Nat) : Nd.oldB b (lg j).1 (lg j).2 = upB (lg k) (lg j) := by
  unfold Nd.oldB upB
  rw [h.index, h.lt]
theorem up_self (x : Int × Int) : upB x x = true := by
  unfold upB
  simp
variable {up : Nat → Bool}
theorem Me.says (h : Me N k up S) {j : Nat} (hj : j < N) : Me N k up (S.says ((j : Int) + 1) (up j)) ∧ (up j = true → ((j : Int) + 1) ∈ (S.says ((j : Int) + 1) (up j)).yes) ∧ ∀ y, y ∈ S.yes → y ∈ (S.says ((j : Int) + 1) (up j)).yes := by
  unfold Nd.says
  split
  · next hh =>
    refine ⟨h, fun hu => ?_, fun y hy => hy⟩
    rcases hh with hh | hh
    · exact hh
    · obtain ⟨i, _, e, hf⟩ := h.no _ hh
      have e' : j = i := by omega
      subst e'
      rw [hu] at hf
      cases hf
  · split
    · next hu =>
      refine ⟨⟨h.id, h.vs, h.ls, fun y hy => ?_, h.no, List.mem_append_left _ h.own⟩, fun _ => List.mem_append_right _ (List.mem_singleton.2 rfl), fun y hy => List.mem_append_left _ hy⟩
      rcases List.mem_append.1 hy with hy | hy
      · exact h.yes y hy
      · exact ⟨j, hj, List.mem_singleton.1 hy, hu⟩
    · next hu =>
      refine ⟨⟨h.id, h.vs, h.ls, h.yes, fun y hy => ?_, h.own⟩, fun h => absurd h hu, fun y hy => hy⟩
      rcases List.mem_append.1 hy with hy | hy
      · exact h.no y hy
      · exact ⟨j, hj, List.mem_singleton.1 hy, by simpa using hu⟩
theorem Me.stand (h : Me N k up S) (hk : k < N) (hu : up k = true) : Me N k up S.stand := by
  refine ⟨h.id, h.vs, h.ls, fun y hy => ?_, fun y hy => ?_, ?_⟩
  · have : y = S.id := by simpa [Nd.stand, Nd.alone] using hy
    exact ⟨k, hk, this.trans h.id, hu⟩
  · simp [Nd.stand, Nd.alone] at hy
  · simp [Nd.stand, Nd.alone, h.id]
theorem all_ask (h : Me N k up S) {kind : Int} : (∀ b, b ∈ S.all kind 1 (lg k).1 (lg k).2 → Ask N k lg kind b) ∧ (∀ j : Nat, j < N → j ≠ k → ∃ b, b ∈ S.all kind 1 (lg k).1 (lg k).2 ∧ b.dst = (j : Int) + 1) := by
  unfold Nd.all
  rw [h.vs]
  constructor
  · intro b hb
    obtain ⟨v, hv, rfl⟩ := List.mem_map.1 hb
    obtain ⟨hv1, hv2⟩ := List.mem_filter.1 hv
    obtain ⟨j, hj, e⟩ := vsL_mem hv1
    have hne : v ≠ S.id := by simpa using hv2
    rw [h.id] at hne
    exact ⟨rfl, h.id, ⟨j, hj, by omega, e⟩, rfl, rfl, rfl⟩
  · intro j hj hjk
    refine ⟨⟨kind, S.id, (j : Int) + 1, 1, (lg k).1, (lg k).2, false⟩, List.mem_map.2 ⟨(j : Int) + 1, List.mem_filter.2 ⟨?_, ?_⟩, rfl⟩, rfl⟩
    · unfold vsL
      exact List.mem_map.2 ⟨j, by simpa using hj, rfl⟩
    · rw [h.id]
      simp
      omega
theorem all_len (h : Me N k up S) (hk : k < N) {kind term l t : Int} : (S.all kind term l t).length ≤ N - 1 := by
  unfold Nd.all
  rw [h.vs, List.length_map]
  have h1 := List.length_eq_countP_add_countP (p := fun v => decide (v ≠ S.id)) (l := vsL N)
  rw [vsL_len, List.countP_eq_length_filter] at h1
  have h2 : 0 < (vsL N).countP (fun a => decide (¬ decide (a ≠ S.id) = true)) := by
    rw [List.countP_pos_iff]
    refine ⟨(k : Int) + 1, ?_, ?_⟩
    · unfold vsL
      exact List.mem_map.2 ⟨k, by simpa using hk, rfl⟩
    · rw [h.id]; simp
  omega
theorem all_cnt {term l t : Int} : (S.all 3 term l t).countP is3 = (S.all 3 term l t).length := by
  rw [List.countP_eq_length]
  intro b hb
  unfold is3
  rw [all_kind hb]
  rfl
/-- What one who asks gets at first. -/
theorem oth_ask1 (h1 : 1 ≤ N) (h7 : N ≤ 7) (hk : k < N) {j : Nat} (hj : j < N) (hjk : j ≠ k) (hS : Oth k j S) (ht : S.term = 0) (hb : Ask N k lg 1 b) (hd : b.dst = (j : Int) + 1) :
    S.take b (lg j).1 (lg j).2 = (S, [⟨2, S.id, b.src, if upB (lg k) (lg j) then 1 else 0, 0, 0, upB (lg k) (lg j)⟩]) := by
  rw [t1 (not_bad h7 hk (fun e => hjk e.symm) hS.id hd hb.src (by rw [hb.term]; decide) (by rw [hb.term]; decide)) hb.kind, old_ask hb, hb.term, ht, hS.leader]
  cases hu : upB (lg k) (lg j) <;> simp
theorem oth_ask3 (h1 : 1 ≤ N) (h7 : N ≤ 7) (hk : k < N) {j : Nat} (hj : j < N) (hjk : j ≠ k) (hS : Oth k j S) (hb : Ask N k lg 3 b) (hd : b.dst = (j : Int) + 1) :
    Oth k j (S.take b (lg j).1 (lg j).2).1 ∧ (S.take b (lg j).1 (lg j).2).2 = [⟨4, S.id, b.src, 1, 0, 0, upB (lg k) (lg j)⟩] := by
  have hT : ∃ T, T = (if S.term < b.term then S.down b.term else S) ∧ T.id = S.id ∧ T.role = 0 ∧ T.leader = 0 ∧ T.term = 1 ∧ (T.vote = 0 ∨ T.vote = (k : Int) + 1) := by
    rcases hS.tv with ⟨a, c⟩ | ⟨a, c⟩
    · exact ⟨S.down b.term, by rw [if_pos (by rw [a, hb.term]; decide)], rfl, rfl, rfl, hb.term, .inl rfl⟩
    · exact ⟨S, by rw [if_neg (by rw [a, hb.term]; decide)], rfl, hS.role, hS.leader, a, c⟩
  obtain ⟨T, hTe, e1, e2, e3, e4, e5⟩ := hT
  rw [t3 (not_bad h7 hk (fun e => hjk e.symm) hS.id hd hb.src (by rw [hb.term]; decide) (by rw [hb.term]; decide)) hb.kind hTe, old_ask hb, hb.term, e4, hb.src]
  cases hu : upB (lg k) (lg j) with
  | true =>
    rw [if_pos ⟨rfl, e5, rfl⟩]
    refine ⟨⟨e1.trans hS.id, ?_, e3, .inr ⟨e4, .inr rfl⟩⟩, rfl⟩
    show (if T.role = 1 then 0 else T.role) = 0
    rw [e2]
    rfl
  | false =>
    rw [if_neg (fun h => by cases h.2.2)]
    exact ⟨⟨e1.trans hS.id, e2, e3, .inr ⟨e4, e5⟩⟩, rfl⟩
end
end Go.Proofs.Ytiamfdnllpiikaa
