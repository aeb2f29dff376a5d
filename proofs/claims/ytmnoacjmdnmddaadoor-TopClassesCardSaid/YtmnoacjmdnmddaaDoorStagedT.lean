/- A drawn region whose last two operations wait for all others. Conditions: none. -/
import Derived.Test.YtmnoacjmdnmddaaDoorStagedL
namespace Go.Proofs.YtmnoacjmdnmddaaDoor
section
variable {P : Program}
theorem wp_region_last2 {id : Nat} {Q : Exit → Act → World → Prop} {a : Act} {w : World} {ops : List Oper} {o1 o2 : Oper} (n : Nat) (C0 : World → Prop) (L : Nat → Bool) (hm : P.follows .mixedOrders = true) (hl : (ops.take n ++ [o1]) ++ [o2] = ops) (hB : stgB (ops.take n).toArray L = true)
    (hE1 : lastB .any (ops.take n) o1 = true) (hE2 : lastB .any (ops.take n ++ [o1]) o2 = true) (hC : C0 { w with drawn := w.drawn + 1 })
    (h : Nonempty (Wd C0) → (∀ x : Wd C0, C0 x.w) → wpStg P (ops.take n).toArray (fun w' => ∃ x : Wd C0, w' = x.w) L (fun a' w' => (∃ x : Wd C0, w' = x.w) → wpList P (ops.take n ++ [o1]).toArray (QL P ops.toArray Q o2) [o1] a' w') (ops.take n) 0 a { w with drawn := w.drawn + 1 }) : (Code.region id ops.toArray true).wp P Q a w := by
  have hB' := hB
  simp only [stgB, Bool.and_eq_true] at hB'
  have hCC : (fun w' => ∃ x : Wd C0, w' = x.w) { w with drawn := w.drawn + 1 } := ⟨⟨_, hC⟩, rfl⟩
  have h1 := h ⟨⟨_, hC⟩⟩ (fun x => x.h)
  have h2 := wpAnyS_stg (P := P) (C := fun w' => ∃ x : Wd C0, w' = x.w) (L := L) hB'.1 (ops.take n) 0 (Array.replicate (ops.take n).toArray.size false) a _ (by simp) hCC
    (fun j oj _ hl => by simp [Array.getElem?_replicate] at hl; split at hl <;> simp at hl) (fun j hj => by omega) (by simp) (by simpa using hB'.2) h1
  have h3 := wpAny_of_S (md := .any) (Q' := QL P (ops.take n ++ [o1]).toArray (QL P ops.toArray Q o2) o1) (fun a' w' hw' h => h hw') _ _ _ _ hCC h2
  refine wp_region_any hm ?_
  have hsz : ops.toArray.size = (ops.take n).length + 1 + 1 := by
    have := congrArg List.length hl
    simpa using this.symm
  have h4 := wpAny_last (P := P) (Q' := QL P ops.toArray Q o2) hE1 (ops.take n).length (Array.replicate (ops.take n).toArray.size false) a _ (by simp) (by
    intro j oj _ hl
    rw [push_getDf] at hl
    simp [Array.getElem?_replicate] at hl
    split at hl <;> simp at hl) (by simpa using h3)
  have he : (Array.replicate (ops.take n).toArray.size false).push false = Array.replicate ((ops.take n).length + 1) false := by
    simp [Array.replicate_succ]
  rw [he] at h4
  have h5 := wpAny_last (P := P) (Q' := Q) hE2 ((ops.take n).length + 1) (Array.replicate ((ops.take n).length + 1) false) a _ (by simp) (by
    intro j oj _ hl
    rw [push_getDf] at hl
    simp [Array.getElem?_replicate] at hl
    split at hl <;> simp at hl) (by rw [hl]; simpa using h4)
  rw [hl] at h5
  rw [hsz]
  have he2 : (Array.replicate ((ops.take n).length + 1) false).push false = Array.replicate ((ops.take n).length + 1 + 1) false := by
    simp [Array.replicate_succ]
  rw [he2] at h5
  exact h5
end
end Go.Proofs.YtmnoacjmdnmddaaDoor
