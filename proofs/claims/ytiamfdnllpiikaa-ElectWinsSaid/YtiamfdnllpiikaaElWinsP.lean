/- Who stands in a fresh group wins just if most logs are not newer: the law, without memory. Conditions: none. -/
import Derived.Test.YtiamfdnllpiikaaElOnceQ
namespace Go.Proofs.Ytiamfdnllpiikaa
open Go.RowKit

/-- The log lj ends no newer than lk. -/
def upB (lk lj : Int × Int) : Bool := decide (lj.2 < lk.2) || (decide (lk.2 = lj.2) && decide (lj.1 ≤ lk.1))
def votes (N : Nat) (up : Nat → Bool) : Nat := (List.range N).countP up
structure Ask (N k : Nat) (lg : Nat → Int × Int) (kind : Int) (b : Bal) : Prop where
  kind : b.kind = kind
  src : b.src = (k : Int) + 1
  dst : ∃ j, j < N ∧ j ≠ k ∧ b.dst = (j : Int) + 1
  term : b.term = 1
  index : b.index = (lg k).1
  lt : b.logTerm = (lg k).2
structure Ans (N k : Nat) (up : Nat → Bool) (kind : Int) (t0 : Int) (b : Bal) : Prop where
  kind : b.kind = kind
  dst : b.dst = (k : Int) + 1
  src : ∃ j, j < N ∧ j ≠ k ∧ b.src = (j : Int) + 1 ∧ b.yes = up j ∧ b.term = if up j then 1 else t0
/-- The others. -/
structure Oth (k j : Nat) (S : Nd) : Prop where
  id : S.id = (j : Int) + 1
  role : S.role = 0
  leader : S.leader = 0
  tv : (S.term = 0 ∧ S.vote = 0) ∨ (S.term = 1 ∧ (S.vote = 0 ∨ S.vote = (k : Int) + 1))
/-- Who stands. -/
structure Me (N k : Nat) (up : Nat → Bool) (S : Nd) : Prop where
  id : S.id = (k : Int) + 1
  vs : S.vs = vsL N
  ls : S.ls = []
  yes : ∀ y, y ∈ S.yes → ∃ j, j < N ∧ y = (j : Int) + 1 ∧ up j = true
  no : ∀ y, y ∈ S.no → ∃ j, j < N ∧ y = (j : Int) + 1 ∧ up j = false
  own : (k : Int) + 1 ∈ S.yes
theorem cntV_vsL (N : Nat) (xs : List Int) : cntV (vsL N) xs = (List.range N).countP fun (j : Nat) => decide (((j : Int) + 1) ∈ xs) := by
  unfold cntV vsL
  rw [List.filter_map, List.length_map, List.countP_eq_length_filter]
  rfl
theorem cnt_le {N : Nat} {p q : Nat → Bool} (h : ∀ j, j < N → p j = true → q j = true) : (List.range N).countP p ≤ (List.range N).countP q :=
  List.countP_mono_left fun j hj hp => h j (by simpa using hj) hp
theorem me_win {N k : Nat} {up : Nat → Bool} {S : Nd} (h : Me N k up S) (hw : S.win = true) : N / 2 < votes N up := by
  unfold Nd.win winsB at hw
  rw [h.vs, h.ls, vsL_len, cntV_vsL] at hw
  simp only [Bool.and_eq_true, decide_eq_true_eq] at hw
  have := cnt_le (N := N) (p := fun (j : Nat) => decide (((j : Int) + 1) ∈ S.yes)) (q := up) (fun j _ hp => by
    obtain ⟨i, _, e, hu⟩ := h.yes _ (by simpa using hp)
    rw [show j = i by omega]
    exact hu)
  unfold votes
  omega
theorem votes_not (N : Nat) (up : Nat → Bool) : votes N up + (List.range N).countP (fun j => !up j) = N := by
  have := List.length_eq_countP_add_countP (p := up) (l := List.range N)
  unfold votes
  rw [List.length_range] at this
  have e : (List.range N).countP (fun j => !up j) = (List.range N).countP (fun a => decide (¬ up a = true)) := by
    congr 1
    funext j
    cases up j <;> rfl
  rw [e]
  omega
theorem me_lost {N k : Nat} {up : Nat → Bool} {S : Nd} (h : Me N k up S) (hw : S.lost = true) : ¬ N / 2 < votes N up := by
  unfold Nd.lost lostB at hw
  rw [h.vs, h.ls, vsL_len, cntV_vsL] at hw
  simp only [Bool.and_eq_true, decide_eq_true_eq] at hw
  have h1 := cnt_le (N := N) (p := fun (j : Nat) => decide (((j : Int) + 1) ∈ S.no)) (q := fun j => !up j) (fun j _ hp => by
    obtain ⟨i, _, e, hu⟩ := h.no _ (by simpa using hp)
    rw [show j = i by omega, hu]
    rfl)
  have h2 := votes_not N up
  omega
theorem me_all {N k : Nat} {up : Nat → Bool} {S : Nd} (h : Me N k up S) (h1 : 1 ≤ N) (h7 : N ≤ 7) (hw : S.win = false) (ha : ∀ j, j < N → j ≠ k → up j = true → ((j : Int) + 1) ∈ S.yes) : ¬ N / 2 < votes N up := by
  unfold Nd.win winsB at hw
  rw [h.vs, h.ls, vsL_len, cntV_vsL, right_fresh N h1 h7] at hw
  simp only [Bool.true_and, decide_eq_false_iff_not] at hw
  have := cnt_le (N := N) (p := up) (q := fun (j : Nat) => decide (((j : Int) + 1) ∈ S.yes)) (fun j hj hp => by
    by_cases e : j = k
    · subst e; simpa using h.own
    · simpa using ha j hj e hp)
  unfold votes
  omega
def is3 (b : Bal) : Bool := decide (b.kind = 3)
/-- First the questions are answered. -/
structure PB (N k : Nat) (lg : Nat → Int × Int) (P : PW) (D T : List Bal) : Prop where
  ac : ∃ A C, T = A ++ C ∧ (∀ b, b ∈ A → Ask N k lg 1 b) ∧ (∀ b, b ∈ C → Ans N k (fun j => upB (lg k) (lg j)) 2 0 b) ∧
    (∀ j, j < N → j ≠ k → (∃ b, b ∈ A ∧ b.dst = (j : Int) + 1) ∨ (∃ b, b ∈ C ∧ b.src = (j : Int) + 1)) ∧ D.length + A.length ≤ N - 1 ∧ C.length ≤ D.length
  oth : ∀ j, j < N → j ≠ k → Oth k j (P.at j) ∧ (P.at j).term = 0
  me : Me N k (fun j => upB (lg k) (lg j)) (P.at k)
  role : (P.at k).role = 1
  term : (P.at k).term = 0
  win : (P.at k).win = false
/-- What is still to come. -/
def Goes (N k : Nat) (up : Nat → Bool) (S : Nd) (T : List Bal) : Prop :=
  (S.role = 1 ∧ S.term = 0 ∧ S.win = false ∧ (∀ b, b ∈ T → b.kind = 2) ∧ ∀ j, j < N → j ≠ k → up j = true → (∃ b, b ∈ T ∧ b.src = (j : Int) + 1) ∨ ((j : Int) + 1) ∈ S.yes) ∨
  (S.role = 2 ∧ S.term = 1 ∧ S.win = false ∧ ∀ j, j < N → j ≠ k → up j = true → (∃ b, b ∈ T ∧ b.kind = 3 ∧ b.dst = (j : Int) + 1) ∨ (∃ b, b ∈ T ∧ b.kind = 4 ∧ b.src = (j : Int) + 1) ∨ ((j : Int) + 1) ∈ S.yes) ∨
  (S.role = 3 ∧ S.term = 1 ∧ N / 2 < votes N up) ∨
  (S.role = 0 ∧ (S.term = 0 ∨ S.term = 1) ∧ ¬ N / 2 < votes N up)
structure P2 (N k : Nat) (lg : Nat → Int × Int) (P : PW) (D T : List Bal) : Prop where
  msg : ∀ b, b ∈ T → Ans N k (fun j => upB (lg k) (lg j)) 2 0 b ∨ Ask N k lg 3 b ∨ Ans N k (fun j => upB (lg k) (lg j)) 4 1 b
  oth : ∀ j, j < N → j ≠ k → Oth k j (P.at j)
  id : (P.at k).id = (k : Int) + 1
  me : (P.at k).role ≠ 0 → Me N k (fun j => upB (lg k) (lg j)) (P.at k)
  goes : Goes N k (fun j => upB (lg k) (lg j)) (P.at k) T
  size : D.length + T.length + T.countP is3 + (if (P.at k).role = 1 then 2 * (N - 1) else 0) ≤ 4 * (N - 1)
def Stage (N k : Nat) (lg : Nat → Int × Int) (P : PW) (i : Nat) : Prop :=
  P.ns.length = N ∧ (∀ j, j < N → P.log j = lg j) ∧ ∃ D T, P.sent = D ++ T ∧ D.length = i ∧ (PB N k lg P D T ∨ P2 N k lg P D T)
theorem PB.two {N k : Nat} {lg : Nat → Int × Int} {P : PW} {D T : List Bal} (h : PB N k lg P D T) (hA : ∀ b, b ∈ T → b.kind ≠ 1) : P2 N k lg P D T := by
  obtain ⟨A, C, rfl, h1, h2, h3, h4, h5⟩ := h.ac
  have hA0 : A = [] := by
    cases A with
    | nil => rfl
    | cons a r => exact absurd (h1 a List.mem_cons_self).kind (hA a (by simp))
  subst hA0
  simp only [List.nil_append] at *
  have hc : C.countP is3 = 0 := List.countP_eq_zero.2 fun b hb => by unfold is3; rw [(h2 b hb).kind]; decide
  refine ⟨fun b hb => .inl (h2 b hb), fun j hj hk => (h.oth j hj hk).1, h.me.id, fun _ => h.me, .inl ⟨h.role, h.term, h.win, fun b hb => (h2 b hb).kind, fun j hj hk _ => .inl ?_⟩, ?_⟩
  · rcases h3 j hj hk with ⟨b, hb, _⟩ | h3
    · cases hb
    · exact h3
  · rw [hc, if_pos h.role]
    simp at h4
    omega
/-- At the end. -/
theorem Stage.done {N k : Nat} {lg : Nat → Int × Int} {P : PW} (h1 : 1 ≤ N) (h7 : N ≤ 7) (h : Stage N k lg P P.sent.length) : (P.at k).role = 3 ↔ N / 2 < votes N (fun j => upB (lg k) (lg j)) := by
  obtain ⟨hn, hl, D, T, hs, hD, hh⟩ := h
  have hT : T = [] := by
    rw [hs, List.length_append] at hD
    exact List.length_eq_zero_iff.1 (by omega)
  subst hT
  have h2 : P2 N k lg P D [] := by
    rcases hh with hh | hh
    · exact hh.two (fun b hb => by cases hb)
    · exact hh
  rcases h2.goes with ⟨r, t, w, _, hp⟩ | ⟨r, t, w, hp⟩ | ⟨r, t, hv⟩ | ⟨r, t, hv⟩
  · have := me_all (h2.me (by rw [r]; decide)) h1 h7 w (fun j hj hk hu => by
      rcases hp j hj hk hu with ⟨b, hb, _⟩ | h
      · cases hb
      · exact h)
    rw [r]
    exact ⟨fun h => (by cases h), fun h => absurd h this⟩
  · have := me_all (h2.me (by rw [r]; decide)) h1 h7 w (fun j hj hk hu => by
      rcases hp j hj hk hu with ⟨b, hb, _⟩ | ⟨b, hb, _⟩ | h
      · cases hb
      · cases hb
      · exact h)
    rw [r]
    exact ⟨fun h => (by cases h), fun h => absurd h this⟩
  · exact ⟨fun _ => hv, fun _ => r⟩
  · rw [r]
    exact ⟨fun h => (by cases h), fun h => absurd h hv⟩
theorem Stage.short {N k : Nat} {lg : Nat → Int × Int} {P : PW} {i : Nat} (h7 : N ≤ 7) (h : Stage N k lg P i) : P.sent.length ≤ 24 := by
  obtain ⟨hn, hl, D, T, hs, hD, hh⟩ := h
  rw [hs, List.length_append]
  rcases hh with hh | hh
  · obtain ⟨A, C, rfl, _, _, _, h4, h5⟩ := hh.ac
    rw [List.length_append]
    omega
  · have := hh.size
    omega
end Go.Proofs.Ytiamfdnllpiikaa
