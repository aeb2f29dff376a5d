/- The walks of LocatorReads, LocatorBack, LocatorOnce, LocatorApart: each returns true. Conditions: none. -/
import Derived.Test.YthljeclddlcidaaLawMakes
import Derived.Test.YthljeclddlcidaaLocRefRead
import Derived.Test.YthljeclddlcidaaLocMore
namespace Go.Proofs.Ythljeclddlcidaa
open Go.RowKit _root_.Go.Proofs.Ythljeclddlcidaa.Loc

theorem read_any (s : ByteArray) (w : World) (hs : s.size ≤ maxLen) :
    Calls Try.prog 12 #[.string s] w fun e w' => e = .returned (.tuple #[.int .i64 (rdN s), .int .i64 (rdE s)]) ∧ Below w.heap.size w w' := by
  by_cases h : s.size = 6
  · exact read_long s w h
  · have hb : ¬ good s := fun g => h g.1
    refine (read_short s w h hs).mono ?_
    rintro e w' ⟨rfl, rfl⟩
    exact ⟨ret2_int (rd_bad hb).2.symm (rd_bad hb).1.symm, Below.refl _ _⟩

theorem refread_any (s : ByteArray) (w : World) (hs : s.size ≤ maxLen) :
    Calls Try.prog 13 #[.string s] w fun e w' => e = .returned (.tuple #[.int .i64 (rdN s), .int .i64 (rdE s)]) ∧ Below w.heap.size w w' := by
  by_cases h : s.size = 6
  · exact refread_long s w h
  · have hb : ¬ good s := fun g => h g.1
    refine (refread_short s w h hs).mono ?_
    rintro e w' ⟨rfl, rfl⟩
    exact ⟨ret2_int (rd_bad hb).2.symm (rd_bad hb).1.symm, Below.refl _ _⟩

theorem reads_walk (s : ByteArray) (w : World) (hs : s.size ≤ maxLen) : Calls Try.prog 5 #[.string s] w fun e w' => e = .returned (.bool true) ∧ Below w.heap.size w w' := by
  go_enter Try.func5, Try.ntmps5
  go_wp2_with (first
    | (go_at_call 9; refine (awake_any _).mono ?_; rintro e w1 ⟨rfl, hb1⟩)
    | (go_at_call 12; refine (read_any s _ hs).mono ?_; rintro e w2 ⟨rfl, hb2⟩)
    | (go_at_call 13; refine (refread_any s _ hs).mono ?_; rintro e w3 ⟨rfl, hb3⟩))
  go_ret
  exact ⟨rfl, bl_trans (bl_trans hb1 hb2) hb3⟩

theorem read_of (n : Int) (w : World) (h0 : 0 ≤ n) (h1 : n < 28629151) :
    Calls Try.prog 12 #[.string (locS n)] w fun e w' => e = .returned (.tuple #[.int .i64 n, .int .i64 0]) ∧ Below w.heap.size w w' := by
  refine (read_long (locS n) w rfl).mono ?_
  rintro e w' ⟨rfl, hb⟩
  have g := rd_good (good_locS n)
  exact ⟨ret2_int (g.2.trans (val_locS n h0 h1)) g.1, hb⟩

theorem back_walk (n : Int) (w : World) (_ : (Lit.int .i64 n).wf = true) : Calls Try.prog 6 #[.int .i64 n] w fun e w' => e = .returned (.bool true) ∧ Below w.heap.size w w' := by
  by_cases h : 0 ≤ n ∧ n < 28629151
  · have hl : (locS n).size = 6 := rfl
    go_enter Try.func6, Try.ntmps6
    go_wp2_with (first
      | (go_at_call 9; refine (awake_any _).mono ?_; rintro e w1 ⟨rfl, hb1⟩)
      | (go_at_call 10; refine (of_ok n _ h.1 h.2).mono ?_; rintro e w2 ⟨rfl, hb2⟩)
      | (go_at_call 12; refine (read_of n _ h.1 h.2).mono ?_; rintro e w3 ⟨rfl, hb3⟩))
    go_ret
    exact ⟨rfl, bl_trans (bl_trans hb1 hb2) hb3⟩
  · by_cases h0 : n < 0
    · clear h
      go_enter Try.func6, Try.ntmps6
      go_wp2_with (first
        | (go_at_call 9; refine (awake_any _).mono ?_; rintro e w1 ⟨rfl, hb1⟩)
        | (go_at_call 10; refine (of_bad n _ (.inl h0)).mono ?_; rintro e w2 ⟨rfl, rfl⟩))
      go_ret
      exact ⟨rfl, hb1⟩
    · have h2 : 28629151 ≤ n := by omega
      have h3 : 0 ≤ n := by omega
      clear h h0
      go_enter Try.func6, Try.ntmps6
      go_wp2_with (first
        | (go_at_call 9; refine (awake_any _).mono ?_; rintro e w1 ⟨rfl, hb1⟩)
        | (go_at_call 10; refine (of_bad n _ (.inr h2)).mono ?_; rintro e w2 ⟨rfl, rfl⟩))
      go_ret
      exact ⟨rfl, hb1⟩

theorem once_walk (s : ByteArray) (w : World) (hs : s.size ≤ maxLen) : Calls Try.prog 8 #[.string s] w fun e w' => e = .returned (.bool true) ∧ Below w.heap.size w w' := by
  by_cases hg : good s
  · obtain ⟨v0, v1, hl⟩ := once hg
    have hc : ∀ w, Calls Try.prog 12 #[.string s] w fun e w' => e = .returned (.tuple #[.int .i64 (valTo s 5), .int .i64 0]) ∧ Below w.heap.size w w' := by
      intro w
      refine (read_any s w hs).mono ?_
      rintro e w' ⟨rfl, hb⟩
      exact ⟨ret2_int (rd_good hg).2 (rd_good hg).1, hb⟩
    have ho : ∀ w, Calls Try.prog 10 #[.int .i64 (valTo s 5)] w fun e w' => e = .returned (.tuple #[.string s, .int .i64 0]) ∧ Below w.heap.size w w' := by
      intro w
      have := of_ok (valTo s 5) w v0 v1
      rw [hl] at this
      exact this
    have HC := Lib.hid hc
    have HO := Lib.hid ho
    clear hc ho hl v0 v1 hg
    go_enter Try.func8, Try.ntmps8
    go_wp2_with (first
      | (go_at_call 9; refine (awake_any _).mono ?_; rintro e w1 ⟨rfl, hb1⟩)
      | (go_at_call 10; refine (HO.out _).mono ?_; rintro e w2 ⟨rfl, hb2⟩)
      | (go_at_call 12; refine (HC.out _).mono ?_; rintro e w3 ⟨rfl, hb3⟩))
    go_ret
    exact ⟨rfl, bl_trans (bl_trans hb1 hb3) hb2⟩
  · have hc : ∀ w, Calls Try.prog 12 #[.string s] w fun e w' => e = .returned (.tuple #[.int .i64 0, .int .i64 6]) ∧ Below w.heap.size w w' := by
      intro w
      refine (read_any s w hs).mono ?_
      rintro e w' ⟨rfl, hb⟩
      exact ⟨ret2_int (rd_bad hg).2 (rd_bad hg).1, hb⟩
    have HC := Lib.hid hc
    clear hc hg
    go_enter Try.func8, Try.ntmps8
    go_wp2_with (first
      | (go_at_call 9; refine (awake_any _).mono ?_; rintro e w1 ⟨rfl, hb1⟩)
      | (go_at_call 12; refine (HC.out _).mono ?_; rintro e w3 ⟨rfl, hb3⟩))
    go_ret
    exact ⟨rfl, bl_trans hb1 hb3⟩
end Go.Proofs.Ythljeclddlcidaa
