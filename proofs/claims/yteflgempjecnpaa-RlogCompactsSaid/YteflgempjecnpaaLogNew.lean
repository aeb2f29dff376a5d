/- What rlog.New, jetwayref08.New and the law's own fresh come to; Newer of a fresh log. Conditions: none. -/
import Derived.Test.YteflgempjecnpaaAid
namespace Go.Proofs.Yteflgempjecnpaa
open Go.RowKit

def inIdx (n : Int) : Prop := 0 ≤ n ∧ n ≤ 1099511627776
instance (n : Int) : Decidable (inIdx n) := by unfold inIdx; infer_instance

theorem within_any (n : Int) (w : World) : Calls Try.prog 45 #[.int .i64 n] w fun e w' => e = .returned (.bool (decide (inIdx n))) ∧ w = w' := by
  by_cases h0 : 0 ≤ n
  · by_cases h1 : n ≤ 1099511627776
    · have hd : decide (inIdx n) = true := by simp [inIdx, h0, h1]
      have HD := Lib.hid hd
      clear hd
      go_enter Try.func45, Try.ntmps45
      go_wp2
      go_ret
      exact ⟨ret_bool HD.out.symm, rfl⟩
    · have hd : decide (inIdx n) = false := by simp [inIdx, h1]
      have HD := Lib.hid hd
      clear hd
      go_enter Try.func45, Try.ntmps45
      go_wp2
      go_ret
      exact ⟨ret_bool HD.out.symm, rfl⟩
  · have hd : decide (inIdx n) = false := by simp [inIdx, h0]
    have HD := Lib.hid hd
    clear hd
    go_enter Try.func45, Try.ntmps45
    go_wp2
    go_ret
    exact ⟨ret_bool HD.out.symm, rfl⟩

theorem within_yes {n : Int} (h : inIdx n) (w : World) : Calls Try.prog 45 #[.int .i64 n] w fun e w' => e = .returned (.bool true) ∧ w = w' := by
  have := within_any n w
  rwa [decide_eq_true h] at this
theorem within_no {n : Int} (h : ¬ inIdx n) (w : World) : Calls Try.prog 45 #[.int .i64 n] w fun e w' => e = .returned (.bool false) ∧ w = w' := by
  have := within_any n w
  rwa [decide_eq_false h] at this

theorem new_bad (b t : Int) (w : World) (h : ¬ (inIdx b ∧ inIdx t)) : Calls Try.prog 20 #[.int .i64 b, .int .i64 t] w fun e w' => e = .returned (.tuple #[.pointer none, .int .i64 1]) ∧ w = w' := by
  by_cases hb : inIdx b
  · have ht : ¬ inIdx t := fun k => h ⟨hb, k⟩
    clear h
    go_enter Try.func20, Try.ntmps20
    go_wp2_with fail
    refine (within_yes hb _).mono ?_; rintro e w' ⟨rfl, rfl⟩
    go_wp2_with fail
    refine (within_no ht _).mono ?_; rintro e w' ⟨rfl, rfl⟩
    go_wp2
    go_ret2
    exact ⟨rfl, rfl⟩
  · clear h
    go_enter Try.func20, Try.ntmps20
    go_wp2_with fail
    refine (within_no hb _).mono ?_; rintro e w' ⟨rfl, rfl⟩
    go_wp2
    go_ret2
    exact ⟨rfl, rfl⟩

/-- What New lays. -/
def newWorld (w : World) (b t : Int) : World :=
  (w.alloc (.cells #[.int .i64 b, .int .i64 t, .int .i64 0, .slice none 0 0] 45)).alloc (.cells #[.slice (some ⟨w.heap.size, 0, none⟩) 1 1, .int .i64 b, .int .i64 b] 65)

theorem new_ok (b t : Int) (w : World) (hb : inIdx b) (ht : inIdx t) :
    Calls Try.prog 20 #[.int .i64 b, .int .i64 t] w fun e w' => e = .returned (.tuple #[.pointer (some ⟨w.heap.size + 1, 0, none⟩), .int .i64 0]) ∧ newWorld w b t = w' := by
  go_enter Try.func20, Try.ntmps20
  go_wp2_with fail
  refine (within_yes hb _).mono ?_; rintro e w' ⟨rfl, rfl⟩
  go_wp2_with fail
  refine (within_yes ht _).mono ?_; rintro e w' ⟨rfl, rfl⟩
  go_wp2
  go_ret2
  exact ⟨rfl, rfl⟩

theorem refnew_bad (b t : Int) (w : World) (h : ¬ (inIdx b ∧ inIdx t)) : Calls Try.prog 21 #[.int .i64 b, .int .i64 t] w fun e w' => e = .returned (.tuple #[.pointer none, .int .i64 1]) ∧ w = w' := by
  unfold inIdx at h
  by_cases h0 : b < 0
  · clear h
    go_enter Try.func21, Try.ntmps21
    go_wp2
    go_ret2
    exact ⟨rfl, rfl⟩
  · by_cases h1 : 1099511627776 < b
    · clear h
      go_enter Try.func21, Try.ntmps21
      go_wp2
      go_ret2
      exact ⟨rfl, rfl⟩
    · by_cases h2 : t < 0
      · clear h
        go_enter Try.func21, Try.ntmps21
        go_wp2
        go_ret2
        exact ⟨rfl, rfl⟩
      · have h3 : 1099511627776 < t := by omega
        clear h
        go_enter Try.func21, Try.ntmps21
        go_wp2
        go_ret2
        exact ⟨rfl, rfl⟩

/-- What the reference's New lays. -/
def refNewCells (b t : Int) : Array Value := #[.int .i64 b, .int .i64 t, .slice none 0 0, .int .i64 b, .int .i64 b]

theorem refnew_ok (b t : Int) (w : World) (hb : inIdx b) (ht : inIdx t) :
    Calls Try.prog 21 #[.int .i64 b, .int .i64 t] w fun e w' => e = .returned (.tuple #[.pointer (some ⟨w.heap.size, 0, none⟩), .int .i64 0]) ∧ w.alloc (.cells (refNewCells b t) 58) = w' := by
  obtain ⟨b0, b1⟩ := hb
  obtain ⟨t0, t1⟩ := ht
  go_enter Try.func21, Try.ntmps21
  go_wp2
  go_ret2
  exact ⟨rfl, rfl⟩

theorem fresh_bad (b t : Int) (w : World) (h : ¬ (inIdx b ∧ inIdx t)) : Calls Try.prog 7 #[.int .i64 b, .int .i64 t] w fun e w' => e = .returned (.tuple #[.pointer none, .pointer none, .bool true]) ∧ w = w' := by
  go_enter Try.func7, Try.ntmps7
  go_wp2_with fail
  refine (new_bad b t _ h).mono ?_; rintro e w' ⟨rfl, rfl⟩
  go_wp2_with fail
  refine (refnew_bad b t _ h).mono ?_; rintro e w' ⟨rfl, rfl⟩
  go_wp2
  go_ret3
  exact ⟨rfl, rfl⟩

/-- What fresh lays. -/
def freshWorld (w : World) (b t : Int) : World := (newWorld w b t).alloc (.cells (refNewCells b t) 58)
theorem newWorld_size (w : World) (b t : Int) : (newWorld w b t).heap.size = w.heap.size + 2 := by simp [newWorld]
theorem freshWorld_size (w : World) (b t : Int) : (freshWorld w b t).heap.size = w.heap.size + 3 := by simp [freshWorld, newWorld]

theorem bl_fresh (w : World) (b t : Int) : Below w.heap.size w (freshWorld w b t) := bl_alloc (bl_alloc (bl_alloc (Below.refl _ _) _) _) _
theorem fresh_cell (w : World) (b t : Int) (g o : Nat) (h : g < w.heap.size) : (freshWorld w b t).cell? ⟨g, o, none⟩ = w.cell? ⟨g, o, none⟩ := (bl_fresh w b t).cell (p := ⟨g, o, none⟩) h

theorem fresh_ok (b t : Int) (w : World) (hb : inIdx b) (ht : inIdx t) : Calls Try.prog 7 #[.int .i64 b, .int .i64 t] w fun e w' =>
    e = .returned (.tuple #[.pointer (some ⟨w.heap.size + 1, 0, none⟩), .pointer (some ⟨w.heap.size + 2, 0, none⟩), .bool true]) ∧ freshWorld w b t = w' := by
  go_enter Try.func7, Try.ntmps7
  go_wp2_with fail
  refine (new_ok b t _ hb ht).mono ?_; rintro e w' ⟨rfl, rfl⟩
  go_wp2_with fail
  refine (refnew_ok b t _ hb ht).mono ?_
  have hsz := newWorld_size w b t
  rw [hsz]
  have HSZ := Lib.hid hsz
  clear hsz
  rintro e w' ⟨rfl, rfl⟩
  go_wp2
  go_ret3
  exact ⟨rfl, rfl⟩
end Go.Proofs.Yteflgempjecnpaa
