/- TopClasses, plainly: sums of holds, names of seats. Conditions: none. -/
import Derived.Test.YtmnoacjmdnmddaaDoorTcOpen
namespace Go.Proofs.YtmnoacjmdnmddaaDoor
open Go.RowKit Go.Maps
theorem heldC_perm {L L' : List HD} (h : L.Perm L') (c : Nat) : heldC L c = heldC L' c := by
  induction h with
  | nil => rfl
  | cons x _ ih => rw [heldC_cons, heldC_cons, ih]
  | swap x y l =>
    rw [heldC_cons, heldC_cons, heldC_cons, heldC_cons]
    omega
  | trans _ _ h1 h2 => exact h1.trans h2
def sumTo (n : Nat) (L : List HD) (k : Nat) : List Int := (List.range n).map fun c => heldC (L.take k) c
theorem sumTo_len (n : Nat) (L : List HD) (k : Nat) : (sumTo n L k).length = n := by simp [sumTo]
theorem sumTo_at {n c : Nat} (L : List HD) (k : Nat) (h : c < n) : (sumTo n L k).getD c 0 = heldC (L.take k) c := by
  unfold sumTo
  rw [List.getD_eq_getElem?_getD, List.getElem?_map, List.getElem?_range h]
  rfl
theorem sumTo_zero (n : Nat) (L : List HD) : sumTo n L 0 = List.replicate n 0 := by
  apply List.ext_getElem
  · simp [sumTo]
  · intro i h1 h2
    simp [sumTo, heldC_nil]
theorem take_one {α : Type} {L : List α} {k : Nat} (h : k < L.length) : L.take (k + 1) = L.take k ++ [L[k]] := by
  rw [List.take_add_one, List.getElem?_eq_getElem h]
  rfl
theorem heldC_step {L : List HD} {k : Nat} (h : k < L.length) (c : Nat) : heldC (L.take (k + 1)) c = heldC (L.take k) c + if L[k].cls = c then L[k].many else 0 := by
  rw [take_one h, heldC_append, heldC_cons, heldC_nil]
  omega
theorem sumTo_step {n : Nat} {L : List HD} {k : Nat} (h : k < L.length) (hc : L[k].cls < n) : (sumTo n L k).set L[k].cls ((sumTo n L k).getD L[k].cls 0 + L[k].many) = sumTo n L (k + 1) := by
  apply List.ext_getElem
  · simp [sumTo]
  · intro i h1 h2
    have hi : i < n := by simpa [sumTo] using h2
    simp only [sumTo_at L k hc, List.getElem_set]
    have e1 : (sumTo n L (k + 1))[i] = heldC (L.take (k + 1)) i := by simp [sumTo]
    rw [e1, heldC_step h]
    split
    · next e => rw [e]
    · next e =>
      rw [Int.add_zero]
      simp [sumTo]
theorem heldC_mono {L : List HD} (hm : ∀ h ∈ L, 0 ≤ h.many) (c : Nat) : ∀ d k, k + d = L.length → 0 ≤ heldC (L.take k) c ∧ heldC (L.take k) c ≤ heldC L c
  | 0, k, e => by
    rw [List.take_of_length_le (by omega)]
    refine ⟨?_, Int.le_refl _⟩
    cases L with
    | nil => exact Int.le_refl _
    | cons x r => exact (heldC_le hm (x := x) (by simp)).2 c
  | d + 1, k, e => by
    have ih := heldC_mono hm c d (k + 1) (by omega)
    have hk : k < L.length := by omega
    rw [heldC_step hk] at ih
    have h0 := hm L[k] (List.getElem_mem hk)
    have h1 : 0 ≤ heldC (L.take k) c := by
      cases hL : L.take k with
      | nil => exact Int.le_refl _
      | cons x r => exact (heldC_le (H := x :: r) (fun h hh => hm h (List.mem_of_mem_take (i := k) (by rw [hL]; exact hh))) (x := x) (by simp)).2 c
    refine ⟨h1, ?_⟩
    split at ih <;> omega
theorem sum_all {S : FS} (i : FInv S) {L : List HD} (hp : L.Perm S.H) : sumTo S.ls.length L L.length = S.ss := by
  apply List.ext_getElem
  · rw [sumTo_len, i.nest.len]
  · intro c h1 h2
    have hc : c < S.ls.length := by simpa [sumTo] using h1
    have e1 : (sumTo S.ls.length L L.length)[c] = heldC L c := by simp [sumTo]
    have e2 := i.sum c hc
    rw [List.getD_eq_getElem?_getD, List.getElem?_eq_getElem h2] at e2
    rw [e1, heldC_perm hp]
    exact e2.symm
theorem sum_rng {S : FS} (i : FInv S) {L : List HD} (hp : L.Perm S.H) {k c : Nat} (hk : k ≤ L.length) (hc : c < S.ls.length) : 0 ≤ heldC (L.take k) c ∧ heldC (L.take k) c ≤ 10000 := by
  have h1 := heldC_mono (L := L) (fun h hh => by have := (i.many h (hp.mem_iff.1 hh)).1; omega) c (L.length - k) k (by omega)
  have h2 : heldC L c = S.ss.getD c 0 := by rw [heldC_perm hp]; exact (i.sum c hc).symm
  have h3 := i.nest.sw c hc
  omega
/-! Names. -/
def toldTo (L : List HD) (k : Nat) : List Int := (L.take k).flatMap HD.seats
theorem toldTo_step {L : List HD} {k : Nat} (h : k < L.length) : toldTo L (k + 1) = toldTo L k ++ L[k].seats := by
  unfold toldTo
  rw [take_one h, List.flatMap_append]
  simp
theorem told_new {S : FS} (i : FInv S) {L : List HD} (hp : L.Perm S.H) {k : Nat} (h : k < L.length) {j : Nat} (hj : j < L[k].seats.length) : ¬ L[k].seats[j] ∈ toldTo L k ++ L[k].seats.take j := by
  have h1 : (L.flatMap HD.seats).Nodup := (List.Perm.flatMap_right HD.seats hp).nodup_iff.2 i.uni
  have h2 : L = L.take k ++ L[k] :: L.drop (k + 1) := by
    conv => lhs; rw [← List.take_append_drop k L, List.drop_eq_getElem_cons h]
  have h3 : L[k].seats = L[k].seats.take j ++ L[k].seats[j] :: L[k].seats.drop (j + 1) := by
    conv => lhs; rw [← List.take_append_drop j L[k].seats, List.drop_eq_getElem_cons hj]
  have h4 : L.flatMap HD.seats = (toldTo L k ++ L[k].seats.take j) ++ L[k].seats[j] :: (L[k].seats.drop (j + 1) ++ (L.drop (k + 1)).flatMap HD.seats) := by
    conv => lhs; rw [h2]
    rw [List.flatMap_append, List.flatMap_cons]
    conv => lhs; rw [h3]
    unfold toldTo
    simp only [List.append_assoc, List.cons_append]
  rw [h4, List.nodup_append] at h1
  intro hm
  exact h1.2.2 _ hm _ (by simp) rfl
def keyS (gs : List Int) (x : Int) : Lit := .string (labS (total gs) x).data.toList
theorem keyS_inj {rows : Int} {gs : List Int} {a b : Int} (ha : hasL rows gs a) (hb : hasL rows gs b) (h : keyS gs a = keyS gs b) : a = b := by
  unfold keyS at h
  injection h with h
  exact labS_inj ha hb (ByteArray.ext (Array.toList_inj.1 h))
def NmOk (rows : Int) (gs : List Int) (D : DataW Unit) (T : List Int) : Prop := ∀ x, hasL rows gs x → (has D (keyS gs x) = true ↔ x ∈ T)
theorem NmOk.nil (rows : Int) (gs : List Int) : NmOk rows gs (.map []) [] := fun x _ => by
  show false = true ↔ _
  simp
theorem NmOk.put {rows : Int} {gs : List Int} {D : DataW Unit} {T : List Int} (h : NmOk rows gs D T) (hD : IsMap D) {y : Int} (hy : hasL rows gs y) (d : DataW Unit) : NmOk rows gs (D.put (keyS gs y) d) (T ++ [y]) := fun x hx => by
  by_cases e : x = y
  · subst e
    rw [has_put_same hD (show WideAt.IsKeyLit (keyS gs x) from trivial)]
    simp
  · rw [has_put_other (fun k => e (keyS_inj hx hy k)), h x hx]
    simp [e]
theorem FlAt.count {w : World} {B p : Nat} {S : FS} (h : FlAt w B p S) (i : FInv S) : S.H.length ≤ S.nn := by
  obtain ⟨D, hD, hDo⟩ := h.hm
  have h1 := (hm_keys h i hD hDo).length_eq
  have h2 := hD.size_le
  have h3 := (keys_mem hD int_key Tryd.underlying3).2.2
  rw [List.length_map] at h1
  omega
end Go.Proofs.YtmnoacjmdnmddaaDoor
