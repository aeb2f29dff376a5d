/- Who sits beside, plain; the walk of SeatBack: it returns true. Conditions: none. -/
import Derived.Test.YtmnoacjmdnmddaaDoorTcSeatNames
import Derived.Test.YtmnoacjmdnmddaaDoorTcSeatCounts
namespace Go.Proofs.YtmnoacjmdnmddaaDoor
open Go.RowKit

theorem left_pos {rows : Int} {gs : List Int} {n : Int} (hR : RightL rows gs) (hl : lefty gs (n % total gs) (grpK gs (n % total gs))) : 1 ≤ n % total gs := by
  have hc := mod_rng (n := n) hR.tot.1
  have hk := grpK_at hR hc.1 hc.2
  have hz := sumK_rng hR.2.2.2.2.1 (grpK gs (n % total gs)) (by have := hk.1; omega)
  unfold lefty at hl
  omega
theorem left_ge {rows : Int} {gs : List Int} {n : Int} (hR : RightL rows gs) (h0 : 0 ≤ n) (hl : lefty gs (n % total gs) (grpK gs (n % total gs))) : 1 ≤ n := by
  have h1 := left_pos hR hl
  by_cases h : n = 0
  · rw [h, Int.zero_emod] at h1; omega
  · omega

theorem mem_besL {rows : Int} {gs : List Int} {n m : Int} : m ∈ besL rows gs n ↔ hasL rows gs n ∧ hasL rows gs m ∧ ((m = n - 1 ∧ grpOf gs (n - 1) = grpOf gs n) ∨ (m = n + 1 ∧ grpOf gs (n + 1) = grpOf gs n)) := by
  by_cases h : hasL rows gs n
  · have hR := h.right
    have hl := same_left (n := n) hR
    have hr := same_right (n := n) hR
    unfold besL
    rw [if_pos h, hl, hr]
    constructor
    · intro hm
      rw [List.mem_append] at hm
      rcases hm with hm | hm
      · split at hm
        · rename_i h1
          have hme : m = n - 1 := by simpa using hm
          have h2 := left_ge hR h.1 h1
          exact ⟨h, ⟨by omega, by have := h.2; omega⟩, .inl ⟨hme, h1⟩⟩
        · cases hm
      · split at hm
        · rename_i h1
          have hme : m = n + 1 := by simpa using hm
          have h2 := right_lt h h1
          exact ⟨h, ⟨by have := h.1; omega, by omega⟩, .inr ⟨hme, h1⟩⟩
        · cases hm
    · rintro ⟨_, _, ⟨rfl, h1⟩ | ⟨rfl, h1⟩⟩
      · rw [if_pos h1]; simp
      · rw [if_pos h1]; simp
  · unfold besL
    rw [if_neg h]
    constructor
    · intro hm; cases hm
    · rintro ⟨h1, _⟩; exact absurd h1 h
theorem besL_sym {rows : Int} {gs : List Int} {n m : Int} (h : m ∈ besL rows gs n) : n ∈ besL rows gs m := by
  obtain ⟨h1, h2, h3⟩ := mem_besL.1 h
  refine mem_besL.2 ⟨h2, h1, ?_⟩
  rcases h3 with ⟨rfl, e⟩ | ⟨rfl, e⟩
  · right; rw [show n - 1 + 1 = n by omega]; exact ⟨rfl, e.symm⟩
  · left; rw [show n + 1 - 1 = n by omega]; exact ⟨rfl, e.symm⟩
theorem besL_ne {rows : Int} {gs : List Int} {n m : Int} (h : m ∈ besL rows gs n) : m ≠ n := by
  obtain ⟨_, _, ⟨rfl, _⟩ | ⟨rfl, _⟩⟩ := mem_besL.1 h <;> omega
theorem besL_len (rows : Int) (gs : List Int) (n : Int) : (besL rows gs n).length ≤ 2 := by
  unfold besL; split <;> simp <;> (split <;> split <;> simp)
theorem labS_size {rows : Int} {gs : List Int} {n : Int} (h : hasL rows gs n) : (labS (total gs) n).size ≤ maxLen := by
  unfold labS nameS
  have := itoaS_size ((n / total gs).toNat + 1)
  have e : (itoaS ((n / total gs).toNat + 1) ++ ⟨#[letter (n % total gs).toNat]⟩).size = (itoaS ((n / total gs).toNat + 1)).size + 1 := by
    rw [ByteArray.size_append]; rfl
  rw [e]
  unfold maxLen
  omega

end Go.Proofs.YtmnoacjmdnmddaaDoor
