/- Logs without memory. Conditions: none. -/
import Derived.Test.YteflgempjecnpaaLgOpen
namespace Go.Proofs.Yteflgempjecnpaa
open Go.RowKit

def maxI : Int := 1099511627776
def okIx (n : Int) : Bool := decide (0 ≤ n) && decide (n ≤ maxI)
def oddE (x : Ent) : Bool := decide (x.ix < 1) || (!okIx x.ix || (!okIx x.tm || (decide (x.kd < 0) || (decide (7 < x.kd) || decide (4096 < (x.d.bs.length : Int))))))
def followE : List Ent → Int → Int → Bool
  | [], _, _ => true
  | x :: r, i, t => if x.ix - 1 = i ∧ t ≤ x.tm then followE r x.ix x.tm else false
/-- What an entry says, but for where its bytes lie. -/
structure Same (x y : Ent) : Prop where
  ix : y.ix = x.ix
  tm : y.tm = x.tm
  kd : y.kd = x.kd
  bs : y.d.bs = x.d.bs
abbrev atE (L : List Ent) (i : Nat) : Ent := L.getD i default
structure Good (L : List Ent) (com app : Int) : Prop where
  ne : 1 ≤ L.length
  sz : L.length ≤ 200000
  ix : ∀ i, i < L.length → (atE L i).ix = (atE L 0).ix + i
  b0 : 0 ≤ (atE L 0).ix
  top : (atE L 0).ix + (L.length - 1) ≤ maxI
  c0 : (atE L 0).ix ≤ app
  c1 : app ≤ com
  c2 : com ≤ (atE L 0).ix + (L.length - 1)
  tm : ∀ i, i < L.length → 0 ≤ (atE L i).tm ∧ (atE L i).tm ≤ maxI
/-- The term of a place. -/
def termE (L : List Ent) (i : Int) : Option Int := if (atE L 0).ix ≤ i ∧ i ≤ (atE L 0).ix + (L.length - 1) then some (atE L (i - (atE L 0).ix).toNat).tm else none
def unlikeE (L : List Ent) (x : Ent) : Bool := decide (termE L x.ix ≠ some x.tm)
theorem odd_no {x : Ent} (h : oddE x = false) : 1 ≤ x.ix ∧ x.ix ≤ maxI ∧ 0 ≤ x.tm ∧ x.tm ≤ maxI := by
  unfold oddE okIx at h
  simp only [Bool.or_eq_false_iff, Bool.not_eq_false', Bool.and_eq_true, decide_eq_true_eq, decide_eq_false_iff_not] at h
  obtain ⟨h1, ⟨h2, h3⟩, ⟨h4, h5⟩, _⟩ := h
  exact ⟨by omega, h3, h4, h5⟩
/-- Entries that follow a place. -/
theorem follow_at : ∀ {l : List Ent} {i t : Int}, followE l i t = true → ∀ k, k < l.length → (atE l k).ix = i + 1 + k
  | [], _, _, _, k, hk => by simp at hk
  | x :: r, i, t, h, k, hk => by
    unfold followE at h
    split at h
    · next hc =>
      cases k with
      | zero => show x.ix = _; omega
      | succ k =>
        have := follow_at h k (by simpa using hk)
        show (atE r k).ix = _
        rw [this]
        omega
    · cases h
theorem follow_tm : ∀ {l : List Ent} {i t : Int}, followE l i t = true → ∀ k, k < l.length → t ≤ (atE l k).tm
  | [], _, _, _, k, hk => by simp at hk
  | x :: r, i, t, h, k, hk => by
    unfold followE at h
    split at h
    · next hc =>
      cases k with
      | zero => exact hc.2
      | succ k =>
        have := follow_tm h k (by simpa using hk)
        show t ≤ (atE r k).tm
        omega
    · cases h
theorem atE_app {L l : List Ent} {i : Nat} : atE (L ++ l) i = if i < L.length then atE L i else atE l (i - L.length) := by
  unfold atE
  rw [List.getD_eq_getElem?_getD, List.getD_eq_getElem?_getD, List.getD_eq_getElem?_getD]
  split
  · next h => rw [List.getElem?_append_left h]
  · next h => rw [List.getElem?_append_right (by omega)]
theorem atE_take {L : List Ent} {n i : Nat} (h : i < n) : atE (L.take n) i = atE L i := by
  unfold atE
  rw [List.getD_eq_getElem?_getD, List.getD_eq_getElem?_getD, List.getElem?_take, if_pos h]
theorem atE_drop {L : List Ent} {n i : Nat} : atE (L.drop n) i = atE L (n + i) := by
  unfold atE
  rw [List.getD_eq_getElem?_getD, List.getD_eq_getElem?_getD, List.getElem?_drop]
/-- Rows of the same entries. -/
def Sames (l l' : List Ent) : Prop := l'.length = l.length ∧ ∀ i, i < l.length → Same (atE l i) (atE l' i)
/-- The entries up to a place, and others that follow it. -/
theorem Good.cut {L : List Ent} {com app : Int} (h : Good L com app) {m : Nat} (h1 : 1 ≤ m) (hm : m ≤ L.length) (hc : com ≤ (atE L 0).ix + (m - 1)) {l : List Ent} (hl : m + l.length ≤ 200000)
    (hx : ∀ i, i < l.length → (atE l i).ix = (atE L 0).ix + m + i ∧ (atE l i).ix ≤ maxI ∧ 0 ≤ (atE l i).tm ∧ (atE l i).tm ≤ maxI) : Good (L.take m ++ l) com app := by
  have hlen : (L.take m).length = m := by rw [List.length_take]; omega
  have h0 : atE (L.take m ++ l) 0 = atE L 0 := by rw [atE_app, if_pos (by omega), atE_take (by omega)]
  have htop := h.top
  refine ⟨by rw [List.length_append, hlen]; omega, by rw [List.length_append, hlen]; omega, fun i hi => ?_, by rw [h0]; exact h.b0, ?_, by rw [h0]; exact h.c0, h.c1, ?_, fun i hi => ?_⟩
  · rw [h0, atE_app]
    rw [List.length_append, hlen] at hi
    split
    · next hh => rw [hlen] at hh; rw [atE_take hh]; exact h.ix i (by omega)
    · next hh => rw [hlen] at hh ⊢; rw [(hx (i - m) (by omega)).1]; omega
  · rw [h0, List.length_append, hlen]
    by_cases e : l.length = 0
    · rw [e]; omega
    · have := hx (l.length - 1) (by omega)
      omega
  · rw [h0, List.length_append, hlen]
    omega
  · rw [atE_app]
    rw [List.length_append, hlen] at hi
    split
    · next hh => rw [hlen] at hh; rw [atE_take hh]; exact h.tm i (by omega)
    · next hh => rw [hlen] at hh ⊢; exact (hx (i - m) (by omega)).2.2
theorem take_all (L : List Ent) : L.take L.length = L := List.take_length
theorem term_none {L : List Ent} {i : Int} (h : ¬ ((atE L 0).ix ≤ i ∧ i ≤ (atE L 0).ix + (L.length - 1))) : termE L i = none := by unfold termE; rw [if_neg h]
theorem term_some {L : List Ent} {i : Int} (h : (atE L 0).ix ≤ i ∧ i ≤ (atE L 0).ix + (L.length - 1)) : termE L i = some (atE L (i - (atE L 0).ix).toNat).tm := by unfold termE; rw [if_pos h]
end Go.Proofs.Yteflgempjecnpaa
