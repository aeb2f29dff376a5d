/- What a seat's name is, read sign by sign: plain. Conditions: none. -/
import Derived.Test.YtmnoacjmdnmddaaDoorTcSeatRFind
namespace Go.Proofs.YtmnoacjmdnmddaaDoor
open Go.RowKit

/-- Which letter a sign is. -/
def colI (x : Int) : Int := if 65 ≤ x ∧ x ≤ 72 then x - 65 else if x = 74 then 8 else if x = 75 then 9 else -1
theorem colI_rng (x : Int) : -1 ≤ colI x ∧ colI x ≤ 9 := by unfold colI; split <;> (try split) <;> (try split) <;> omega
theorem colI_letter {b : UInt8} (h : 0 ≤ colI b.toNat) : letter (colI b.toNat).toNat = b := by
  have : ∀ n : Nat, n < 256 → 0 ≤ colI n → letter (colI n).toNat = UInt8.ofNat n := by decide +kernel
  have := this b.toNat b.toNat_lt h
  simpa using this
def isD (x : Int) : Prop := 48 ≤ x ∧ x ≤ 57
instance (x : Int) : Decidable (isD x) := by unfold isD; exact inferInstance

/-- The rest l of a name from place i on, a row and a letter being known. -/
def parse : List UInt8 → Nat → Int → Int → Option (Int × Int)
  | [], _, row, last => some (row, last)
  | b :: l, i, row, last =>
    if 0 ≤ last ∨ (i = 0 ∧ (b.toNat : Int) = 48) ∨ 60 < row then none
    else if isD b.toNat then parse l (i + 1) (10 * row + (b.toNat - 48)) last
    else if colI b.toNat < 0 then none else parse l (i + 1) row (colI b.toNat)

/-- The seat that a row and a letter tell. -/
def seatOf (rows T : Int) : Option (Int × Int) → Option Int
  | some (row, last) => if row < 1 ∨ rows < row ∨ last < 0 ∨ T ≤ last then none else some ((row - 1) * T + last)
  | none => none

theorem parse_all : ∀ r : Nat, r < 60 → ∀ c : Nat, c < 10 → parse (nameS r c).data.toList 0 0 (-1) = some (((r + 1 : Nat) : Int), (c : Int)) := by decide +kernel

theorem dig_byte {b : UInt8} {d : Nat} (h : (b.toNat : Int) - 48 = d) : b = UInt8.ofNat (48 + d) := by
  have : b.toNat = 48 + d := by omega
  rw [← this]; simp

/-- What is read so is a name. -/
theorem parse_name {l : List UInt8} {row last : Int} (h : parse l 0 0 (-1) = some (row, last)) (h1 : 1 ≤ row) (h2 : row ≤ 60) (h3 : 0 ≤ last) : last ≤ 9 ∧ l = (nameS (row.toNat - 1) last.toNat).data.toList := by
  have name : ∀ (k : Nat) (c : Nat), 1 ≤ k → (nameS (k - 1) c).data.toList = (itoaS k).data.toList ++ [letter c] := by
    intro k c hk
    unfold nameS
    rw [show k - 1 + 1 = k by omega]
    simp
  have shut : ∀ (l : List UInt8) (i : Nat) (row' last' : Int), 0 ≤ last' → parse l i row' last' = some (row, last) → l = [] ∧ row' = row ∧ last' = last := by
    intro l i row' last' hl hp
    cases l with
    | nil => simp [parse] at hp; exact ⟨rfl, hp⟩
    | cons b l => simp [parse, hl] at hp
  match l, h with
  | [], h => simp [parse] at h; omega
  | b1 :: l1, h =>
    simp only [parse] at h
    split at h
    · cases h
    · rename_i hc1
      split at h
      · rename_i hd1
        obtain ⟨d1, hd1e⟩ : ∃ d1 : Nat, (b1.toNat : Int) - 48 = d1 := ⟨b1.toNat - 48, by unfold isD at hd1; omega⟩
        have hb1 := dig_byte hd1e
        rw [hd1e] at h
        have hc1' : ¬ ((b1.toNat : Int) = 48) := fun e => hc1 (Or.inr (Or.inl ⟨trivial, e⟩))
        have hd1r : 1 ≤ d1 ∧ d1 ≤ 9 := by unfold isD at hd1; omega
        match l1, h with
        | [], h => simp [parse] at h; omega
        | b2 :: l2, h =>
          simp only [parse] at h
          split at h
          · cases h
          · split at h
            · rename_i hd2
              obtain ⟨d2, hd2e⟩ : ∃ d2 : Nat, (b2.toNat : Int) - 48 = d2 := ⟨b2.toNat - 48, by unfold isD at hd2; omega⟩
              have hb2 := dig_byte hd2e
              rw [hd2e] at h
              have hd2r : d2 ≤ 9 := by unfold isD at hd2; omega
              match l2, h with
              | [], h => simp [parse] at h; omega
              | b3 :: l3, h =>
                simp only [parse] at h
                split at h
                · cases h
                · rename_i hc3
                  split at h
                  · rename_i hd3
                    have hd3' : 48 ≤ (b3.toNat : Int) := hd3.1
                    match l3, h with
                    | [], h => simp [parse] at h; omega
                    | b4 :: l4, h =>
                      simp only [parse] at h
                      rw [if_pos (by omega)] at h
                      cases h
                  · split at h
                    · cases h
                    · rename_i hcol
                      obtain ⟨e1, e2, e3⟩ := shut _ _ _ _ (by omega) h
                      subst e1
                      have hr := colI_rng b3.toNat
                      refine ⟨by omega, ?_⟩
                      rw [name _ _ (by omega), ← e3, colI_letter (by omega)]
                      have hrow : row.toNat = 10 * d1 + d2 := by omega
                      unfold itoaS
                      rw [hrow, if_neg (by omega), hb1, hb2]
                      have a1 : (10 * d1 + d2) / 10 = d1 := by omega
                      have a2 : (10 * d1 + d2) % 10 = d2 := by omega
                      rw [a1, a2]
                      rfl
            · split at h
              · cases h
              · rename_i hcol
                obtain ⟨e1, e2, e3⟩ := shut _ _ _ _ (by omega) h
                subst e1
                have hr := colI_rng b2.toNat
                refine ⟨by omega, ?_⟩
                rw [name _ _ (by omega), ← e3, colI_letter (by omega)]
                have hrow : row.toNat = d1 := by omega
                unfold itoaS
                rw [hrow, if_pos (by omega), hb1]
                rfl
      · split at h
        · cases h
        · obtain ⟨e1, e2, e3⟩ := shut _ _ _ _ (by omega) h
          omega

theorem labS_at {rows : Int} {gs : List Int} (hR : RightL rows gs) {row last : Int} (h1 : 1 ≤ row) (h2 : row ≤ rows) (h3 : 0 ≤ last) (h4 : last < total gs) :
    hasL rows gs ((row - 1) * total gs + last) ∧ labS (total gs) ((row - 1) * total gs + last) = nameS (row.toNat - 1) last.toNat := by
  have ht := hR.tot
  have hm0 : 0 ≤ (row - 1) * total gs := Int.mul_nonneg (by omega) (by omega)
  have hm1 : (row - 1) * total gs ≤ (rows - 1) * total gs := Int.mul_le_mul_of_nonneg_right (by omega) (by omega)
  have hm2 : (rows - 1) * total gs = rows * total gs - total gs := by rw [Int.sub_mul]; omega
  refine ⟨⟨by omega, by rw [countL_yes hR]; omega⟩, ?_⟩
  have e1 : ((row - 1) * total gs + last) / total gs = row - 1 := by
    rw [Int.add_comm, Int.add_mul_ediv_right _ _ (by omega), Int.ediv_eq_zero_of_lt h3 h4]; omega
  have e2 : ((row - 1) * total gs + last) % total gs = last := by
    rw [Int.add_comm, Int.add_mul_emod_self_right, Int.emod_eq_of_lt h3 h4]
  unfold labS
  rw [e1, e2, show (row - 1).toNat = row.toNat - 1 by omega]

/-- Reading sign by sign finds what there is. -/
theorem parse_find {rows : Int} {gs : List Int} (hR : RightL rows gs) (s : ByteArray) :
    findL rows gs s = match seatOf rows (total gs) (parse s.data.toList 0 0 (-1)) with | some n => (n, 0) | none => (0, 2) := by
  have ht := hR.tot
  have hrows := hR.2.1
  by_cases hex : ∃ n, hasL rows gs n ∧ labS (total gs) n = s
  · obtain ⟨n, hn, hs⟩ := hex
    rw [findL_yes hn hs]
    obtain ⟨r, c, W, hW, hne, hc, hW10, hrr, hr, hW1⟩ := seat_rc hn
    have e1 : (n / total gs).toNat = r := by
      rw [hW, hne, Int.add_comm, Int.add_mul_ediv_right _ _ (by omega), Int.ediv_eq_zero_of_lt (by omega) (by omega)]; omega
    have e2 : (n % total gs).toNat = c := by
      rw [hW, hne, Int.add_comm, Int.add_mul_emod_self_right, Int.emod_eq_of_lt (by omega) (by omega)]; omega
    have hs' : s = nameS r c := by rw [← hs]; unfold labS; rw [e1, e2]
    rw [hs', parse_all r hr c (by omega)]
    simp only [seatOf]
    rw [if_neg (by omega)]
    simp only [Prod.mk.injEq, and_true]
    rw [hne, hW]
    have : (((r + 1 : Nat) : Int) - 1) = r := by omega
    rw [this]
  · rw [findL_none hR (fun n hn hs => hex ⟨n, hn, hs⟩)]
    cases hp : parse s.data.toList 0 0 (-1) with
    | none => rfl
    | some p =>
      obtain ⟨row, last⟩ := p
      simp only [seatOf]
      split
      · rename_i n hn
        split at hn
        · cases hn
        · rename_i hc
          have hp' := parse_name hp (by omega) (by omega) (by omega)
          have hl := labS_at hR (row := row) (last := last) (by omega) (by omega) (by omega) (by omega)
          refine absurd ⟨_, hl.1, ?_⟩ hex
          rw [hl.2]
          exact ByteArray.ext (Array.toList_inj.1 hp'.2.symm)
      · rfl
end Go.Proofs.YtmnoacjmdnmddaaDoor
