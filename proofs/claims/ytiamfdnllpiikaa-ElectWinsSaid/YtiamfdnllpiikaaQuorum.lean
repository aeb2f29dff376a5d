/- Who are most of a group: the package quorum and the reference's. Conditions: none. -/
import Derived.Test.YtiamfdnllpiikaaStaged
namespace Go.Proofs.Ytiamfdnllpiikaa
open Go.RowKit

/-- At the address a lie the ints gs. -/
def GsAt (w : World) (a : Option Addr) (gs : List Int) : Prop := ∀ j, j < gs.length → ∃ b off, a = some ⟨b, off, none⟩ ∧ w.cell? ⟨b, off + j, none⟩ = some (.int .i64 (gs.getD j 0))
theorem GsAt.keep {w w' : World} {a : Option Addr} {gs : List Int} (h : GsAt w a gs) (hb : Below w.heap.size w w') : GsAt w' a gs := by
  intro j hj
  obtain ⟨b, off, e, hc⟩ := h j hj
  exact ⟨b, off, e, cell_keep hb hc⟩
theorem bl_undrew {B : Nat} {w w' : World} (h : Below B w.drew w') : Below B w w' := ⟨h.os, h.tape, h.output, h.size, h.block⟩
theorem mem_take_succ {xs : List Int} {k : Nat} (hk : k < xs.length) {n : Int} : n ∈ xs.take (k + 1) ↔ n ∈ xs.take k ∨ n = xs.getD k 0 := by
  rw [List.take_succ_eq_append_getElem hk, List.mem_append, List.mem_singleton, List.getD_eq_getElem?_getD, List.getElem?_eq_getElem hk]
  rfl
theorem getD_mem {xs : List Int} {k : Nat} (hk : k < xs.length) : xs.getD k 0 ∈ xs := by
  rw [List.getD_eq_getElem?_getD, List.getElem?_eq_getElem hk]; exact List.getElem_mem hk

/-! slices.Contains, the reference's Has. -/
def IsIx (n : Int) (xs : List Int) (i : Int) : Prop := if n ∈ xs then 0 ≤ i else i < 0
def SomeIx (n : Int) (xs : List Int) (w : World) (e : Ending) (w' : World) : Prop := (∃ i : Int, e = .returned (.int .i64 i) ∧ IsIx n xs i) ∧ w = w'
set_option maxRecDepth 100000 in
theorem index_at (a : Option Addr) (xs : List Int) (c : Nat) (n : Int) (w : World) (ha : GsAt w a xs) (hl : xs.length ≤ maxLen) :
    Calls Try.prog 55 #[.slice a xs.length c, .int .i64 n] w (SomeIx n xs w) := by
  have hl' : (xs.length : Int) ≤ 9223372036854775807 := by unfold maxLen at hl; omega
  have HX := Lib.hid ha
  clear ha
  go_enter Try.func55, Try.ntmps55
  go_wp2_with fail
  go_loopg [8] xs.length (fun g i wr => w = wr ∧ ∃ k : Nat, k ≤ xs.length ∧ g = xs.length - k ∧ i = .int .i64 k ∧ ∀ j, j < k → xs.getD j 0 ≠ n)
  case atStart => exact ⟨rfl, 0, by omega, rfl, rfl, fun j hj => by omega⟩
  case round =>
    obtain ⟨rfl, k, k0, hgk, rfl, hsofar⟩ := hrel
    have HGK := Lib.hid hgk
    have HSF := Lib.hid hsofar
    clear hgk hsofar
    by_cases hk : k < xs.length
    · obtain ⟨b1, o1, h1, c1⟩ := HX.out k hk
      have HMem := Lib.hid (getD_mem hk)
      obtain ⟨x, hxe⟩ : ∃ x, x = xs.getD k 0 := ⟨_, rfl⟩
      rw [← hxe] at c1 HMem
      have HXE := Lib.hid hxe
      clear hxe
      subst h1
      by_cases hxy : x = n
      · have f1 : (x == n) = true := by simp [hxy]
        have f2 : (n == x) = true := by simp [hxy]
        go_wp2_with fail
        go_ret
        exact ⟨⟨k, rfl, by unfold IsIx; rw [if_pos (by rw [← hxy]; exact HMem.out)]; omega⟩, rfl⟩
      · have f1 : (x == n) = false := by simp [hxy]
        have f2 : (n == x) = false := by simp [Ne.symm hxy]
        go_wp2_with fail
        go_roundg (xs.length - (k + 1))
        case measure => have := HGK.out; omega
        case rel =>
          refine ⟨rfl, k + 1, by omega, rfl, by go_num, fun j hj => ?_⟩
          by_cases hjk : j < k
          · exact HSF.out j hjk
          · obtain rfl : j = k := by omega
            rw [← HXE.out]
            exact hxy
    · obtain rfl : k = xs.length := by omega
      have hnm : ¬ n ∈ xs := by
        intro h
        obtain ⟨j, hj, e⟩ := List.getElem_of_mem h
        exact HSF.out j hj (by simp [List.getD, List.getElem?_eq_getElem hj, e])
      have HNM := Lib.hid hnm
      clear hnm
      go_wp2_with fail
      go_ret
      exact ⟨⟨-1, rfl, by unfold IsIx; rw [if_neg HNM.out]; omega⟩, rfl⟩

theorem contains_at (a : Option Addr) (xs : List Int) (c : Nat) (n : Int) (w : World) (ha : GsAt w a xs) (hl : xs.length ≤ maxLen) :
    Calls Try.prog 31 #[.slice a xs.length c, .int .i64 n] w fun e w' => e = .returned (.bool (decide (n ∈ xs))) ∧ w = w' := by
  have H := Lib.hid (index_at a xs c n w ha hl)
  clear ha
  by_cases h : n ∈ xs
  · rw [decide_eq_true h]
    go_enter Try.func31, Try.ntmps31
    go_wp2_with fail
    refine H.out.mono ?_; rintro e w' ⟨⟨i, rfl, hi⟩, rfl⟩
    unfold IsIx at hi; rw [if_pos h] at hi
    clear h
    go_wp2_with fail
    go_ret
    exact ⟨ret_bool (by simp), rfl⟩
  · rw [decide_eq_false h]
    go_enter Try.func31, Try.ntmps31
    go_wp2_with fail
    refine H.out.mono ?_; rintro e w' ⟨⟨i, rfl, hi⟩, rfl⟩
    unfold IsIx at hi; rw [if_neg h] at hi
    clear h
    go_wp2_with fail
    go_ret
    exact ⟨ret_bool (by simpa using hi), rfl⟩

set_option maxRecDepth 100000 in
theorem has_at (a : Option Addr) (xs : List Int) (c : Nat) (n : Int) (w : World) (ha : GsAt w a xs) (hl : xs.length ≤ maxLen) :
    Calls Try.prog 42 #[.slice a xs.length c, .int .i64 n] w fun e w' => e = .returned (.bool (decide (n ∈ xs))) ∧ w = w' := by
  have hl' : (xs.length : Int) ≤ 9223372036854775807 := by unfold maxLen at hl; omega
  have HX := Lib.hid ha
  clear ha
  go_enter Try.func42, Try.ntmps42
  go_wp2_with fail
  go_loopg [5] xs.length (fun g i wr => w = wr ∧ ∃ k : Nat, k ≤ xs.length ∧ g = xs.length - k ∧ i = .int .i64 k ∧ ∀ j, j < k → xs.getD j 0 ≠ n)
  case atStart => exact ⟨rfl, 0, by omega, rfl, rfl, fun j hj => by omega⟩
  case round =>
    obtain ⟨rfl, k, k0, hgk, rfl, hsofar⟩ := hrel
    have HGK := Lib.hid hgk
    have HSF := Lib.hid hsofar
    clear hgk hsofar
    by_cases hk : k < xs.length
    · obtain ⟨b1, o1, h1, c1⟩ := HX.out k hk
      have HMem := Lib.hid (getD_mem hk)
      obtain ⟨x, hxe⟩ : ∃ x, x = xs.getD k 0 := ⟨_, rfl⟩
      rw [← hxe] at c1 HMem
      have HXE := Lib.hid hxe
      clear hxe
      subst h1
      by_cases hxy : x = n
      · have f1 : (x == n) = true := by simp [hxy]
        have f2 : (n == x) = true := by simp [hxy]
        go_wp2_with fail
        go_ret
        exact ⟨ret_bool (decide_eq_true (by rw [← hxy]; exact HMem.out)).symm, rfl⟩
      · have f1 : (x == n) = false := by simp [hxy]
        have f2 : (n == x) = false := by simp [Ne.symm hxy]
        go_wp2_with fail
        go_roundg (xs.length - (k + 1))
        case measure => have := HGK.out; omega
        case rel =>
          refine ⟨rfl, k + 1, by omega, rfl, by go_num, fun j hj => ?_⟩
          by_cases hjk : j < k
          · exact HSF.out j hjk
          · obtain rfl : j = k := by omega
            rw [← HXE.out]
            exact hxy
    · obtain rfl : k = xs.length := by omega
      have hnm : ¬ n ∈ xs := by
        intro h
        obtain ⟨j, hj, e⟩ := List.getElem_of_mem h
        exact HSF.out j hj (by simp [List.getD, List.getElem?_eq_getElem hj, e])
      have HNM := Lib.hid hnm
      clear hnm
      go_wp2_with fail
      go_ret
      exact ⟨ret_bool (decide_eq_false HNM.out).symm, rfl⟩

/-! Rising numbers. -/
def risesB : Int → List Int → Bool
  | _, [] => true
  | last, n :: r => decide (last < n) && decide (n ≤ 15) && risesB n r
/-- The one ahead. -/
def prevI (l : Int) (xs : List Int) (k : Nat) : Int := if k = 0 then l else xs.getD (k - 1) 0
theorem prevI_zero {l : Int} {xs : List Int} : prevI l xs 0 = l := rfl
theorem prevI_pos {l : Int} {xs : List Int} {k : Nat} (h : 0 < k) : prevI l xs k = xs.getD (k - 1) 0 := by unfold prevI; rw [if_neg (by omega)]
theorem rises_take {xs : List Int} : ∀ {k : Nat} {l : Int}, k < xs.length → risesB l (xs.take (k + 1)) = (risesB l (xs.take k) && decide (prevI l xs k < xs.getD k 0) && decide (xs.getD k 0 ≤ 15)) := by
  induction xs with
  | nil => intro k l h; simp at h
  | cons x xs ih =>
    intro k l h
    cases k with
    | zero => simp [risesB, prevI]
    | succ k =>
      have := ih (k := k) (l := x) (by simpa using h)
      simp only [List.take_succ_cons, risesB, this]
      cases k with
      | zero => simp [Bool.and_assoc, prevI]
      | succ k => simp [Bool.and_assoc, prevI]
theorem rises_all {xs : List Int} {l : Int} (h : ∀ k, k < xs.length → prevI l xs k < xs.getD k 0 ∧ xs.getD k 0 ≤ 15) : risesB l xs = true := by
  have : ∀ k, k ≤ xs.length → risesB l (xs.take k) = true := by
    intro k
    induction k with
    | zero => intro _; rfl
    | succ k ih =>
      intro hk
      have h1 := h k (by omega)
      rw [rises_take (by omega), ih (by omega), decide_eq_true h1.1, decide_eq_true h1.2]
      rfl
  have h1 := this xs.length (Nat.le_refl _)
  rwa [List.take_length] at h1
theorem rises_not {xs : List Int} {l : Int} {k : Nat} (hk : k < xs.length) (h : ¬ (prevI l xs k < xs.getD k 0 ∧ xs.getD k 0 ≤ 15)) : risesB l xs = false := by
  have key : ∀ (xs : List Int) (l : Int) (k : Nat), risesB l xs = true → risesB l (xs.take k) = true := by
    intro xs
    induction xs with
    | nil => intro l k _; simp [risesB]
    | cons x xs ih =>
      intro l k hr
      cases k with
      | zero => rfl
      | succ k =>
        simp only [risesB, Bool.and_eq_true, List.take_succ_cons] at hr ⊢
        exact ⟨hr.1, ih _ _ hr.2⟩
  cases hr : risesB l xs with
  | false => rfl
  | true =>
    have h1 := key xs l (k + 1) hr
    rw [rises_take hk, Bool.and_eq_true, Bool.and_eq_true, decide_eq_true_eq, decide_eq_true_eq] at h1
    exact absurd ⟨h1.1.2, h1.2⟩ h

set_option maxRecDepth 100000 in
theorem rises_at (a : Option Addr) (xs : List Int) (c : Nat) (w : World) (ha : GsAt w a xs) (hl : xs.length ≤ maxLen) :
    Calls Try.prog 52 #[.slice a xs.length c] w fun e w' => e = .returned (.bool (risesB 0 xs)) ∧ w = w' := by
  have hl' : (xs.length : Int) ≤ 9223372036854775807 := by unfold maxLen at hl; omega
  have HX := Lib.hid ha
  clear ha
  go_enter Try.func52, Try.ntmps52
  go_wp2_with fail
  go_loopg [3, 8] xs.length (fun g l i wr => w = wr ∧ ∃ k : Nat, k ≤ xs.length ∧ g = xs.length - k ∧ i = .int .i64 k ∧ l = .int .i64 (prevI 0 xs k) ∧ ∀ j, j < k → prevI 0 xs j < xs.getD j 0 ∧ xs.getD j 0 ≤ 15)
  case atStart => exact ⟨rfl, 0, by omega, rfl, rfl, rfl, fun j hj => by omega⟩
  case round =>
    obtain ⟨rfl, k, k0, hgk, rfl, rfl, hsofar⟩ := hrel
    have HGK := Lib.hid hgk
    have HSF := Lib.hid hsofar
    clear hgk hsofar
    by_cases hk : k < xs.length
    · obtain ⟨b1, o1, h1, c1⟩ := HX.out k hk
      obtain ⟨y, hye⟩ : ∃ y, y = prevI 0 xs k := ⟨_, rfl⟩
      obtain ⟨x, hxe⟩ : ∃ x, x = xs.getD k 0 := ⟨_, rfl⟩
      rw [← hye]
      rw [← hxe] at c1
      have HXE := Lib.hid hxe
      have HYE := Lib.hid hye
      clear hxe hye
      subst h1
      by_cases hgood : y < x ∧ x ≤ 15
      · obtain ⟨g1, g2⟩ := hgood
        go_wp2_with fail
        go_roundg (xs.length - (k + 1))
        case measure => have := HGK.out; omega
        case rel =>
          refine ⟨rfl, k + 1, by omega, rfl, by go_num, by rw [prevI_pos (by omega), Nat.add_sub_cancel, HXE.out], fun j hj => ?_⟩
          by_cases hjk : j < k
          · exact HSF.out j hjk
          · obtain rfl : j = k := by omega
            rw [← HXE.out, ← HYE.out]
            exact ⟨g1, g2⟩
      · have HN := Lib.hid (rises_not (l := 0) hk (by rw [← HXE.out, ← HYE.out]; exact hgood))
        by_cases g1 : x ≤ y
        · go_wp2_with fail
          go_ret
          exact ⟨ret_bool HN.out.symm, rfl⟩
        · have g2 : 15 < x := by omega
          go_wp2_with fail
          go_ret
          exact ⟨ret_bool HN.out.symm, rfl⟩
    · obtain rfl : k = xs.length := by omega
      go_wp2_with fail
      go_ret
      exact ⟨ret_bool (rises_all HSF.out).symm, rfl⟩

set_option maxRecDepth 100000 in
set_option maxHeartbeats 2000000 in
theorem rrises_at (a : Option Addr) (xs : List Int) (c : Nat) (w : World) (ha : GsAt w a xs) (hl : xs.length ≤ maxLen) :
    Calls Try.prog 41 #[.slice a xs.length c] w fun e w' => e = .returned (.bool (risesB 0 xs)) ∧ Below w.heap.size w w' := by
  have hl' : (xs.length : Int) ≤ 9223372036854775807 := by unfold maxLen at hl; omega
  have HX := Lib.hid ha
  clear ha
  go_enter Try.func41, Try.ntmps41
  go_wp2_with fail
  go_loopg [3] xs.length (fun g i wr => Below w.heap.size w wr ∧ ∃ k : Nat, k ≤ xs.length ∧ g = xs.length - k ∧ i = .int .i64 k ∧ ∀ j, j < k → prevI 0 xs j < xs.getD j 0 ∧ xs.getD j 0 ≤ 15)
  case atStart => exact ⟨Below.refl _ _, 0, by omega, rfl, rfl, fun j hj => by omega⟩
  case round =>
    obtain ⟨hb, k, k0, hgk, rfl, hsofar⟩ := hrel
    have HGK := Lib.hid hgk
    have HSF := Lib.hid hsofar
    clear hgk hsofar
    by_cases hk : k < xs.length
    · obtain ⟨b1, o1, h1, c1⟩ := HX.out k hk
      have hq : ∀ w', Below w.heap.size w w' → w'.cell? ⟨b1, o1 + k, none⟩ = some (.int .i64 (xs.getD k 0)) := fun w' h => cell_keep h c1
      have hk0 : (0 : Int) ≤ (k : Int) := by omega
      have hk1 : (k : Int) < xs.length := by omega
      clear c1
      rcases Nat.eq_zero_or_pos k with hz | hz
      · have hz0 : ¬ (0 : Int) < (k : Int) := by omega
        have hzd : decide ((0 : Int) < (k : Int)) = false := by simpa using hz0
        have hzn : decide (0 < k) = false := by simp [hz]
        have hzm : ¬ 0 < k := by omega
        have HZ := Lib.hid hz
        clear hz
        obtain ⟨x, hxe⟩ : ∃ x, x = xs.getD k 0 := ⟨_, rfl⟩
        rw [← hxe] at hq
        have HXE := Lib.hid hxe
        clear hxe
        subst h1
        by_cases g1 : x < 1
        · have HN := Lib.hid (rises_not (l := 0) hk (by rw [← HXE.out, show prevI 0 xs k = 0 by rw [HZ.out]; rfl]; omega))
          go_wp2_with fail
          refine wp_region_in (Below w.heap.size w) (fun _ => false) (by kernel_rfl) (by kernel_rfl) (by exact hb.drew) ?_
          intro hne hx
          replace hb := hb.drew
          refine stg_seg 28 (by dsimp only [List.take]) (by dsimp only [List.drop]) (by rfl) ?_
          repeat (go_big_quiet_step (fail))
          refine wpQuiet_nil ?_
          refine stg_nil ?_
          clear hne hx
          go_wp2_with fail
          go_ret
          exact ⟨ret_bool HN.out.symm, hb⟩
        by_cases g2 : 15 < x
        · have HN := Lib.hid (rises_not (l := 0) hk (by rw [← HXE.out, show prevI 0 xs k = 0 by rw [HZ.out]; rfl]; omega))
          have d1 : decide (x < 1) = false := by simpa using g1
          go_wp2_with fail
          refine wp_region_in (Below w.heap.size w) (fun _ => false) (by kernel_rfl) (by kernel_rfl) (by exact hb.drew) ?_
          intro hne hx
          replace hb := hb.drew
          refine stg_seg 28 (by dsimp only [List.take]) (by dsimp only [List.drop]) (by rfl) ?_
          repeat (go_big_quiet_step (fail))
          refine wpQuiet_nil ?_
          refine stg_nil ?_
          clear hne hx
          go_wp2_with fail
          go_ret
          exact ⟨ret_bool HN.out.symm, hb⟩
        · have d1 : decide (x < 1) = false := by simpa using g1
          have d2 : decide (15 < x) = false := by simpa using g2
          go_wp2_with fail
          refine wp_region_in (Below w.heap.size w) (fun _ => false) (by kernel_rfl) (by kernel_rfl) (by exact hb.drew) ?_
          intro hne hx
          replace hb := hb.drew
          refine stg_seg 28 (by dsimp only [List.take]) (by dsimp only [List.drop]) (by rfl) ?_
          repeat (go_big_quiet_step (fail))
          refine wpQuiet_nil ?_
          refine stg_nil ?_
          clear hne hx
          go_wp2_with fail
          go_roundg (xs.length - (k + 1))
          case measure => have := HGK.out; omega
          case rel =>
            refine ⟨hb, k + 1, by omega, rfl, by go_num, fun j hj => ?_⟩
            obtain rfl : j = k := by have := HZ.out; omega
            rw [← HXE.out, show prevI 0 xs j = 0 by rw [HZ.out]; rfl]
            omega
      · obtain ⟨b2, o2, h2, c2⟩ := HX.out (k - 1) (by omega)
        obtain ⟨rfl, rfl⟩ : b1 = b2 ∧ o1 = o2 := by rw [h1] at h2; simpa using h2
        have hq2 : ∀ w', Below w.heap.size w w' → w'.cell? ⟨b1, o1 + (k - 1), none⟩ = some (.int .i64 (xs.getD (k - 1) 0)) := fun w' h => cell_keep h c2
        have hwr : IntKind.i64.wrap ((k : Int) - 1) = (k : Int) - 1 := IntWalk.i64_in _ (by omega)
        have hwn : ((k : Int) - 1).toNat = k - 1 := by omega
        have hk2 : (0 : Int) ≤ (k : Int) - 1 := by omega
        have hk3 : (k : Int) - 1 < xs.length := by omega
        have hk4 : (0 : Int) < (k : Int) := by omega
        obtain ⟨x, hxe⟩ : ∃ x, x = xs.getD k 0 := ⟨_, rfl⟩
        obtain ⟨y, hye⟩ : ∃ y, y = xs.getD (k - 1) 0 := ⟨_, rfl⟩
        rw [← hxe] at hq
        rw [← hye] at hq2
        have HXE := Lib.hid hxe
        have HYE := Lib.hid hye
        clear hxe hye c2 h2
        subst h1
        have HNX : ¬ (y < x ∧ x ≤ 15) → risesB 0 xs = false := fun h => rises_not (l := 0) hk (by rw [prevI_pos (by omega), ← HXE.out, ← HYE.out]; exact h)
        by_cases g1 : x < 1
        · have HN := Lib.hid (show risesB 0 xs = false by
            refine rises_not (l := 0) (k := k) hk ?_
            rw [prevI_pos (by omega), ← HXE.out, ← HYE.out]
            intro hh
            have hp : ∀ j, j < k → 0 < xs.getD j 0 := by
              intro j
              induction j with
              | zero => intro hj; have := (HSF.out 0 hj).1; rwa [prevI_zero] at this
              | succ j ih =>
                intro hj
                have h1 := (HSF.out (j + 1) hj).1
                rw [prevI_pos (by omega), Nat.add_sub_cancel] at h1
                have := ih (by omega)
                omega
            have := hp (k - 1) (by omega)
            rw [← HYE.out] at this
            omega)
          clear HNX
          go_wp2_with fail
          refine wp_region_in (Below w.heap.size w) (fun _ => false) (by kernel_rfl) (by kernel_rfl) (by exact hb.drew) ?_
          intro hne hx
          replace hb := hb.drew
          refine stg_seg 28 (by dsimp only [List.take]) (by dsimp only [List.drop]) (by rfl) ?_
          repeat (go_big_quiet_step (fail))
          refine wpQuiet_nil ?_
          refine stg_nil ?_
          clear hne hx
          go_wp2_with fail
          go_ret
          exact ⟨ret_bool HN.out.symm, hb⟩
        have d1 : decide (x < 1) = false := by simpa using g1
        by_cases g2 : 15 < x
        · have HN := Lib.hid (HNX (by omega))
          clear HNX
          go_wp2_with fail
          refine wp_region_in (Below w.heap.size w) (fun _ => false) (by kernel_rfl) (by kernel_rfl) (by exact hb.drew) ?_
          intro hne hx
          replace hb := hb.drew
          refine stg_seg 28 (by dsimp only [List.take]) (by dsimp only [List.drop]) (by rfl) ?_
          repeat (go_big_quiet_step (fail))
          refine wpQuiet_nil ?_
          refine stg_nil ?_
          clear hne hx
          go_wp2_with fail
          go_ret
          exact ⟨ret_bool HN.out.symm, hb⟩
        have d2 : decide (15 < x) = false := by simpa using g2
        by_cases g3 : x ≤ y
        · have HN := Lib.hid (HNX (by omega))
          clear HNX
          go_wp2_with fail
          refine wp_region_in (Below w.heap.size w) (fun _ => false) (by kernel_rfl) (by kernel_rfl) (by exact hb.drew) ?_
          intro hne hx
          replace hb := hb.drew
          refine stg_seg 28 (by dsimp only [List.take]) (by dsimp only [List.drop]) (by rfl) ?_
          repeat (go_big_quiet_step (fail))
          refine wpQuiet_nil ?_
          refine stg_nil ?_
          clear hne hx
          go_wp2_with fail
          go_ret
          exact ⟨ret_bool HN.out.symm, hb⟩
        · have d3 : decide (x ≤ y) = false := by simpa using g3
          clear HNX
          go_wp2_with fail
          refine wp_region_in (Below w.heap.size w) (fun _ => false) (by kernel_rfl) (by kernel_rfl) (by exact hb.drew) ?_
          intro hne hx
          replace hb := hb.drew
          refine stg_seg 28 (by dsimp only [List.take]) (by dsimp only [List.drop]) (by rfl) ?_
          repeat (go_big_quiet_step (fail))
          refine wpQuiet_nil ?_
          refine stg_nil ?_
          clear hne hx
          go_wp2_with fail
          go_roundg (xs.length - (k + 1))
          case measure => have := HGK.out; omega
          case rel =>
            refine ⟨hb, k + 1, by omega, rfl, by go_num, fun j hj => ?_⟩
            by_cases hjk : j < k
            · exact HSF.out j hjk
            · obtain rfl : j = k := by omega
              rw [prevI_pos (by omega), ← HXE.out, ← HYE.out]
              omega
    · obtain rfl : k = xs.length := by omega
      go_wp2_with fail
      go_ret
      exact ⟨ret_bool (rises_all HSF.out).symm, hb⟩
end Go.Proofs.Ytiamfdnllpiikaa
