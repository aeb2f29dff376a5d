/- The best of many free seats: plain. Conditions: none. -/
import Derived.Test.YtmnoacjmdnmddaaDoorTcSeatBack
namespace Go.Proofs.YtmnoacjmdnmddaaDoor
open Go.RowKit

/-- The free ones of the first k seats. -/
def freeTo (tk : List Int) : Nat → List Int
  | 0 => []
  | k + 1 => freeTo tk k ++ if (k : Int) ∈ tk then [] else [(k : Int)]
theorem freeTo_succ (tk : List Int) (k : Nat) : freeTo tk (k + 1) = freeTo tk k ++ if (k : Int) ∈ tk then [] else [(k : Int)] := rfl
theorem freeTo_len (tk : List Int) : ∀ k, (freeTo tk k).length ≤ k
  | 0 => by simp [freeTo]
  | k + 1 => by
    have := freeTo_len tk k
    unfold freeTo
    split <;> simp <;> omega
theorem freeTo_pre (tk : List Int) {k : Nat} : ∀ {n : Nat}, k ≤ n → freeTo tk k <+: freeTo tk n
  | 0, h => by obtain rfl : k = 0 := by omega
               exact List.prefix_refl _
  | n + 1, h => by
    by_cases e : k = n + 1
    · rw [e]; exact List.prefix_refl _
    · exact (freeTo_pre tk (show k ≤ n by omega)).trans (by rw [freeTo_succ]; exact List.prefix_append _ _)
theorem freeTo_mem {tk : List Int} {x : Int} : ∀ {k : Nat}, x ∈ freeTo tk k ↔ 0 ≤ x ∧ x < k ∧ ¬ x ∈ tk
  | 0 => by simp [freeTo]; omega
  | k + 1 => by
    unfold freeTo
    rw [List.mem_append, freeTo_mem]
    split
    · rename_i h
      constructor
      · rintro (⟨h1, h2, h3⟩ | h1)
        · exact ⟨h1, by omega, h3⟩
        · cases h1
      · rintro ⟨h1, h2, h3⟩
        left
        refine ⟨h1, ?_, h3⟩
        have : x ≠ k := fun e => h3 (by rw [e]; exact h)
        omega
    · rename_i h
      rw [List.mem_singleton]
      constructor
      · rintro (⟨h1, h2, h3⟩ | h1)
        · exact ⟨h1, by omega, h3⟩
        · subst h1; exact ⟨by omega, by omega, h⟩
      · rintro ⟨h1, h2, h3⟩
        by_cases e : x = k
        · right; exact e
        · left; exact ⟨h1, by omega, h3⟩
/-- A free seat stands behind all free ones ahead of it. -/
theorem freeTo_at {tk : List Int} {s n : Nat} (hs : s < n) (hf : ¬ (s : Int) ∈ tk) : (freeTo tk s).length < (freeTo tk n).length ∧ (freeTo tk n).getD (freeTo tk s).length 0 = s := by
  have h1 : freeTo tk (s + 1) = freeTo tk s ++ [(s : Int)] := by
    show freeTo tk s ++ (if (s : Int) ∈ tk then [] else [(s : Int)]) = _
    rw [if_neg hf]
  obtain ⟨t, ht⟩ := freeTo_pre tk (show s + 1 ≤ n by omega)
  rw [← ht, h1]
  constructor
  · simp
  · rw [List.getD_eq_getElem?_getD, List.append_assoc, List.getElem?_append_right (by omega)]
    simp
/-- The i-th free one. -/
theorem freeTo_ix {tk : List Int} {i : Nat} : ∀ {n : Nat}, i < (freeTo tk n).length → ∃ s : Nat, s < n ∧ ¬ (s : Int) ∈ tk ∧ (freeTo tk s).length = i ∧ (freeTo tk n).getD i 0 = s
  | 0, h => by simp [freeTo] at h
  | n + 1, h => by
    by_cases hi : i < (freeTo tk n).length
    · obtain ⟨s, h1, h2, h3, h4⟩ := freeTo_ix hi
      exact ⟨s, by omega, h2, h3, by rw [← h3]; exact (freeTo_at (by omega) h2).2⟩
    · have hx : ¬ (n : Int) ∈ tk := by
        intro hm
        have : freeTo tk (n + 1) = freeTo tk n := by
          show freeTo tk n ++ (if (n : Int) ∈ tk then [] else [(n : Int)]) = _
          rw [if_pos hm, List.append_nil]
        rw [this] at h
        omega
      have hl : (freeTo tk (n + 1)).length = (freeTo tk n).length + 1 := by
        show (freeTo tk n ++ (if (n : Int) ∈ tk then [] else [(n : Int)])).length = _
        rw [if_neg hx]; simp
      have e : (freeTo tk n).length = i := by omega
      exact ⟨n, by omega, hx, e, by rw [← e]; exact (freeTo_at (by omega) hx).2⟩
theorem freeTo_lt {tk : List Int} {a b n : Nat} (ha : ¬ (a : Int) ∈ tk) (h : a < b) : (freeTo tk a).length < (freeTo tk b).length := (freeTo_at h ha).1
theorem freeTo_mono {tk : List Int} {a b : Nat} (h : a ≤ b) : (freeTo tk a).length ≤ (freeTo tk b).length := (freeTo_pre tk h).length_le

/-- Where m seats stand side by side, free. -/
def Win (gs tk : List Int) (N m s : Nat) : Prop := s + m ≤ N ∧ ∀ j, s ≤ j → j < s + m → ¬ (j : Int) ∈ tk ∧ (s < j → grpOf gs ((j : Int) - 1) = grpOf gs j)
def FirstWin (gs tk : List Int) (N m s : Nat) : Prop := Win gs tk N m s ∧ ∀ s', s' < s → ¬ Win gs tk N m s'
/-- m seats from s on. -/
def seatsOf (s m : Nat) : List Int := (List.range m).map fun i => ((s + i : Nat) : Int)
theorem seatsOf_len (s m : Nat) : (seatsOf s m).length = m := by simp [seatsOf]
theorem seatsOf_succ (s m : Nat) : seatsOf s (m + 1) = seatsOf s m ++ [((s + m : Nat) : Int)] := by simp [seatsOf, List.range_succ]
theorem seatsOf_get {s m j : Nat} (h : j < m) : (seatsOf s m).getD j 0 = ((s + j : Nat) : Int) := by
  simp [seatsOf, List.getD, List.getElem?_map, List.getElem?_range h]

theorem win_free {gs tk : List Int} {N m s : Nat} (h : Win gs tk N m s) : ∀ i, i ≤ m → (freeTo tk (s + i)).length = (freeTo tk s).length + i
  | 0, _ => by simp
  | i + 1, hi => by
    have h1 := win_free h i (by omega)
    have h2 := (h.2 (s + i) (by omega) (by omega)).1
    show (freeTo tk (s + i) ++ (if ((s + i : Nat) : Int) ∈ tk then [] else [((s + i : Nat) : Int)])).length = _
    rw [if_neg h2]
    simp [h1]; omega
theorem win_room {gs tk : List Int} {N m s : Nat} (h : Win gs tk N m s) : m ≤ (freeTo tk N).length := by
  have h1 := win_free h m (Nat.le_refl _)
  have h2 := freeTo_mono (tk := tk) h.1
  omega
theorem win_get {gs tk : List Int} {N m s i : Nat} (h : Win gs tk N m s) (hi : i < m) : (freeTo tk N).getD ((freeTo tk s).length + i) 0 = ((s + i : Nat) : Int) := by
  rw [← win_free h i (by omega)]
  exact (freeTo_at (by have := h.1; omega) (h.2 (s + i) (by omega) (by omega)).1).2

/-- The seats side by side that end ahead of the k-th. -/
noncomputable def runTo (gs tk : List Int) : Nat → List Int
  | 0 => []
  | k + 1 => open Classical in if (k : Int) ∈ tk then [] else (if lefty gs ((k : Int) % total gs) (grpK gs ((k : Int) % total gs)) then runTo gs tk k else []) ++ [(k : Int)]
open Classical in
theorem runTo_succ (gs tk : List Int) (k : Nat) : runTo gs tk (k + 1) = if (k : Int) ∈ tk then [] else (if lefty gs ((k : Int) % total gs) (grpK gs ((k : Int) % total gs)) then runTo gs tk k else []) ++ [(k : Int)] := rfl
theorem runTo_shape {rows : Int} {gs tk : List Int} (hR : RightL rows gs) : ∀ k : Nat, ∃ r, r ≤ k ∧ runTo gs tk k = seatsOf (k - r) r ∧ ∀ j, k - r ≤ j → j < k → ¬ (j : Int) ∈ tk ∧ (k - r < j → grpOf gs ((j : Int) - 1) = grpOf gs j)
  | 0 => ⟨0, by omega, rfl, fun j _ h => by omega⟩
  | k + 1 => by
    obtain ⟨r, h1, h2, h3⟩ := runTo_shape hR k
    unfold runTo
    split
    · exact ⟨0, by omega, rfl, fun j h h' => by omega⟩
    · rename_i hf
      split
      · rename_i hl
        refine ⟨r + 1, by omega, ?_, fun j hj hj' => ?_⟩
        · rw [h2, show k + 1 - (r + 1) = k - r by omega, seatsOf_succ, show k - r + r = k by omega]
        · by_cases e : j = k
          · subst e; exact ⟨hf, fun _ => (same_left hR).2 hl⟩
          · have := h3 j (by omega) (by omega)
            exact ⟨this.1, fun h => this.2 (by omega)⟩
      · refine ⟨1, by omega, ?_, fun j hj hj' => ?_⟩
        · simp [seatsOf]
        · obtain rfl : j = k := by omega
          exact ⟨hf, fun h => by omega⟩
theorem runTo_win {rows : Int} {gs tk : List Int} (hR : RightL rows gs) {N m k : Nat} (hk : k ≤ N) (h : (runTo gs tk k).length = m) : m ≤ k ∧ Win gs tk N m (k - m) ∧ runTo gs tk k = seatsOf (k - m) m := by
  obtain ⟨r, h1, h2, h3⟩ := runTo_shape (tk := tk) hR k
  have : r = m := by rw [h2, seatsOf_len] at h; exact h
  subst this
  exact ⟨h1, ⟨by omega, fun j hj hj' => h3 j hj (by omega)⟩, h2⟩
theorem win_run {rows : Int} {gs tk : List Int} (hR : RightL rows gs) {N m s : Nat} (h : Win gs tk N m s) : ∀ i, i ≤ m → i ≤ (runTo gs tk (s + i)).length
  | 0, _ => by omega
  | i + 1, hi => by
    have h1 := win_run hR h i (by omega)
    obtain ⟨h2, h3⟩ := h.2 (s + i) (by omega) (by omega)
    show _ ≤ (runTo gs tk (s + i + 1)).length
    unfold runTo
    rw [if_neg h2]
    rcases Nat.eq_zero_or_pos i with rfl | hp
    · simp
    · have h4 := (same_left hR).1 (h3 (by omega))
      rw [if_pos h4]
      simp; omega
theorem runTo_step (gs tk : List Int) (k : Nat) : (runTo gs tk (k + 1)).length ≤ (runTo gs tk k).length + 1 := by
  rw [runTo_succ]
  split
  · simp
  · split <;> simp
theorem runTo_first {rows : Int} {gs tk : List Int} (hR : RightL rows gs) {N m k : Nat} (hm : 1 ≤ m) (hk : k + 1 ≤ N) (hall : ∀ j, j ≤ k → (runTo gs tk j).length < m) (h : (runTo gs tk (k + 1)).length = m) :
    FirstWin gs tk N m (k + 1 - m) ∧ runTo gs tk (k + 1) = seatsOf (k + 1 - m) m := by
  obtain ⟨h1, h2, h3⟩ := runTo_win hR hk h
  refine ⟨⟨h2, fun s' hs' hw => ?_⟩, h3⟩
  have := win_run hR hw m (Nat.le_refl _)
  have := hall (s' + m) (by omega)
  omega
theorem runTo_none {rows : Int} {gs tk : List Int} (hR : RightL rows gs) {N m : Nat} (hall : ∀ j, j ≤ N → (runTo gs tk j).length < m) (s : Nat) : ¬ Win gs tk N m s := by
  intro hw
  have := win_run hR hw m (Nat.le_refl _)
  have := hall (s + m) hw.1
  omega

open Classical in
/-- The best of m free seats of N. -/
noncomputable def bestL (rows : Int) (gs tk : List Int) (m : Int) : List Int × Int :=
  if m < 1 ∨ countL rows gs < m then ([], 1)
  else if ((freeTo tk (countL rows gs).toNat).length : Int) < m then ([], 3)
  else if h : ∃ s, FirstWin gs tk (countL rows gs).toNat m.toNat s then (seatsOf h.choose m.toNat, 0)
  else ((freeTo tk (countL rows gs).toNat).take m.toNat, 0)
theorem first_un {gs tk : List Int} {N m s s' : Nat} (h : FirstWin gs tk N m s) (h' : FirstWin gs tk N m s') : s = s' := by
  rcases Nat.lt_trichotomy s s' with h1 | h1 | h1
  · exact absurd h.1 (h'.2 s h1)
  · exact h1
  · exact absurd h'.1 (h.2 s' h1)
theorem bestL_bad {rows : Int} {gs tk : List Int} {m : Int} (h : m < 1 ∨ countL rows gs < m) : bestL rows gs tk m = ([], 1) := by unfold bestL; rw [if_pos h]
theorem bestL_full {rows : Int} {gs tk : List Int} {m : Int} (h : ¬ (m < 1 ∨ countL rows gs < m)) (hf : ((freeTo tk (countL rows gs).toNat).length : Int) < m) : bestL rows gs tk m = ([], 3) := by
  unfold bestL; rw [if_neg h, if_pos hf]
theorem bestL_win {rows : Int} {gs tk : List Int} {m : Int} (h : ¬ (m < 1 ∨ countL rows gs < m)) {s : Nat} (hw : FirstWin gs tk (countL rows gs).toNat m.toNat s) : bestL rows gs tk m = (seatsOf s m.toNat, 0) := by
  have hr := win_room hw.1
  have hex : ∃ s, FirstWin gs tk (countL rows gs).toNat m.toNat s := ⟨s, hw⟩
  unfold bestL
  rw [if_neg h, if_neg (by omega), dif_pos hex, first_un hex.choose_spec hw]
theorem bestL_any {rows : Int} {gs tk : List Int} {m : Int} (h : ¬ (m < 1 ∨ countL rows gs < m)) (hf : ¬ ((freeTo tk (countL rows gs).toNat).length : Int) < m) (hw : ∀ s, ¬ Win gs tk (countL rows gs).toNat m.toNat s) :
    bestL rows gs tk m = ((freeTo tk (countL rows gs).toNat).take m.toNat, 0) := by
  unfold bestL
  rw [if_neg h, if_neg hf, dif_neg]
  rintro ⟨s, hs⟩
  exact hw s hs.1

/-! The groups rise. -/
theorem grpK_mono {rows : Int} {gs : List Int} (hR : RightL rows gs) {c d : Int} (h0 : 0 ≤ c) (h : c ≤ d) (h1 : d < total gs) : grpK gs c ≤ grpK gs d := by
  have hc := grpK_at hR h0 (by omega)
  have hd := grpK_at hR (show 0 ≤ d by omega) h1
  rcases Nat.lt_or_ge (grpK gs d) (grpK gs c) with hlt | hge
  · have := sumK_mono hR.2.2.2.2.1 (grpK gs c) (show grpK gs d + 1 ≤ grpK gs c by omega) (by have := hc.1; omega)
    have h2 := hc.2.1
    have h3 := hd.2.2
    omega
  · exact hge
theorem grpOf_step {rows : Int} {gs : List Int} (hR : RightL rows gs) (n : Int) : grpOf gs n ≤ grpOf gs (n + 1) := by
  have ht := hR.tot
  have hc := mod_rng (n := n) ht.1
  have hc' := mod_rng (n := n + 1) ht.1
  have hk := grpK_at hR hc.1 hc.2
  unfold grpOf
  by_cases h1 : n % total gs + 1 < total gs
  · obtain ⟨e1, e2⟩ := div_mod_succ ht.1 h1
    rw [e1, e2]
    have := grpK_mono hR hc.1 (show n % total gs ≤ n % total gs + 1 by omega) h1
    omega
  · have e1 := div_succ_lt ht.1 (show n % total gs + 1 = total gs by omega)
    rw [e1]
    have := hk.1
    rw [Int.add_mul]
    omega
theorem grpOf_mono {rows : Int} {gs : List Int} (hR : RightL rows gs) (n : Int) : ∀ i : Nat, grpOf gs n ≤ grpOf gs (n + i)
  | 0 => by simp
  | i + 1 => by
    have h1 := grpOf_mono hR n i
    have h2 := grpOf_step hR (n + i)
    rw [show n + (i + 1 : Nat) = n + i + 1 by omega]
    omega

/-- What the reference asks of the i-th free one. -/
theorem win_iff {rows : Int} {gs tk : List Int} (hR : RightL rows gs) {N m i : Nat} (hm : 1 ≤ m) (hi : i + m ≤ (freeTo tk N).length) {s : Nat} (hs : s < N) (hf : ¬ (s : Int) ∈ tk) (hsi : (freeTo tk s).length = i) :
    ((freeTo tk N).getD (i + m - 1) 0 - s = m - 1 ∧ grpOf gs s = grpOf gs ((freeTo tk N).getD (i + m - 1) 0)) ↔ Win gs tk N m s := by
  obtain ⟨t, ht, htf, hti, hte⟩ := freeTo_ix (tk := tk) (n := N) (i := i + m - 1) (by omega)
  rw [hte]
  constructor
  · rintro ⟨h1, h2⟩
    have hts : t = s + (m - 1) := by omega
    have hfree : ∀ j, s ≤ j → j < s + m → ¬ (j : Int) ∈ tk := by
      intro j hj hj' hmem
      have a1 : ∀ d, (freeTo tk (s + d)).length ≤ i + d := by
        intro d
        induction d with
        | zero => simp [hsi]
        | succ d ih =>
          show (freeTo tk (s + d) ++ (if ((s + d : Nat) : Int) ∈ tk then [] else [((s + d : Nat) : Int)])).length ≤ _
          split <;> simp <;> omega
      have a2 : (freeTo tk (j + 1)).length ≤ i + (j - s) := by
        show (freeTo tk j ++ (if (j : Int) ∈ tk then [] else [(j : Int)])).length ≤ _
        rw [if_pos hmem, List.append_nil]
        have := a1 (j - s)
        rw [show s + (j - s) = j by omega] at this
        exact this
      have a3 : ∀ d, (freeTo tk (j + 1 + d)).length ≤ i + (j - s) + d := by
        intro d
        induction d with
        | zero => simpa using a2
        | succ d ih =>
          show (freeTo tk (j + 1 + d) ++ (if ((j + 1 + d : Nat) : Int) ∈ tk then [] else [((j + 1 + d : Nat) : Int)])).length ≤ _
          split <;> simp <;> omega
      by_cases e : j = t
      · subst e; exact htf hmem
      · have := a3 (t - (j + 1))
        rw [show j + 1 + (t - (j + 1)) = t by omega, hti] at this
        omega
    refine ⟨by omega, fun j hj hj' => ⟨hfree j hj hj', fun hlt => ?_⟩⟩
    have g1 := grpOf_mono hR (s : Int) (j - 1 - s)
    have g2 := grpOf_step hR ((j : Int) - 1)
    have g3 := grpOf_mono hR (j : Int) (t - j)
    rw [show (s : Int) + ((j - 1 - s : Nat) : Int) = (j : Int) - 1 by omega] at g1
    rw [show (j : Int) - 1 + 1 = j by omega] at g2
    rw [show (j : Int) + ((t - j : Nat) : Int) = t by omega, ← h2] at g3
    omega
  · intro hw
    have e1 := win_get hw (show m - 1 < m by omega)
    rw [hsi, show i + (m - 1) = i + m - 1 by omega, hte] at e1
    refine ⟨by omega, ?_⟩
    rw [e1]
    have : ∀ d, d < m → grpOf gs ((s + d : Nat) : Int) = grpOf gs s := by
      intro d
      induction d with
      | zero => intro _; simp
      | succ d ih =>
        intro hd
        have h1 := (hw.2 (s + (d + 1)) (by omega) (by omega)).2 (by omega)
        rw [← h1, ← ih (by omega)]
        congr 1
        omega
    exact (this (m - 1) (by omega)).symm
end Go.Proofs.YtmnoacjmdnmddaaDoor
