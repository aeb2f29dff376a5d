/- The walk of RlogNews: it returns true. Conditions: none. -/
import Derived.Test.YteflgempjecnpaaLogNewer
namespace Go.Proofs.Yteflgempjecnpaa
open Go.RowKit

/-- The cells of a fresh log, as a walk wants them. -/
structure Fr (w : World) (p e : Nat) (b t : Int) : Prop where
  p0 : w.cell? ⟨p, 0, none⟩ = some (.slice (some ⟨e, 0, none⟩) 1 1)
  p1 : w.cell? ⟨p, 1, none⟩ = some (.int .i64 b)
  p2 : w.cell? ⟨p, 2, none⟩ = some (.int .i64 b)
  e0 : w.cell? ⟨e, 0, none⟩ = some (.int .i64 b)
  e1 : w.cell? ⟨e, 1, none⟩ = some (.int .i64 t)
theorem LogAt.fr {w : World} {p : Nat} {b t : Int} (h : LogAt w p b t) : ∃ e, Fr w p e b t := by
  obtain ⟨e, h1, h2⟩ := h
  exact ⟨e, blk_cell h1 0, blk_cell h1 1, blk_cell h1 2, blk_cell h2 0, blk_cell h2 1⟩
theorem Fr.drewN {w : World} {p e : Nat} {b t : Int} (h : Fr w p e b t) (n : Nat) : Fr (w.drewN n) p e b t :=
  ⟨by simpa using h.p0, by simpa using h.p1, by simpa using h.p2, by simpa using h.e0, by simpa using h.e1⟩

theorem base_f {w : World} {p e : Nat} {b t : Int} (h : Fr w p e b t) :
    Calls Try.prog 41 #[.pointer (some ⟨p, 0, none⟩)] w fun en w' => en = .returned (.int .i64 b) ∧ w = w' := by
  obtain ⟨p0, p1, p2, e0, e1⟩ := h
  go_enter Try.func41, Try.ntmps41
  go_wp2
  go_ret
  exact ⟨rfl, rfl⟩
theorem first_f {w : World} {p e : Nat} {b t : Int} (h : Fr w p e b t) (hb : inIdx b) :
    Calls Try.prog 14 #[.pointer (some ⟨p, 0, none⟩)] w fun en w' => en = .returned (.int .i64 (b + 1)) ∧ w = w' := by
  obtain ⟨b0, b1⟩ := hb
  have H := Lib.hid h
  clear h
  go_enter Try.func14, Try.ntmps14
  go_wp2_with (go_at_call 41; refine (base_f H.out).mono ?_; rintro e w' ⟨rfl, rfl⟩)
  go_ret
  exact ⟨rfl, rfl⟩
theorem com_f {w : World} {p e : Nat} {b t : Int} (h : Fr w p e b t) :
    Calls Try.prog 24 #[.pointer (some ⟨p, 0, none⟩)] w fun en w' => en = .returned (.int .i64 b) ∧ w = w' := by
  obtain ⟨p0, p1, p2, e0, e1⟩ := h
  go_enter Try.func24, Try.ntmps24
  go_wp2
  go_ret
  exact ⟨rfl, rfl⟩
theorem app_f {w : World} {p e : Nat} {b t : Int} (h : Fr w p e b t) :
    Calls Try.prog 16 #[.pointer (some ⟨p, 0, none⟩)] w fun en w' => en = .returned (.int .i64 b) ∧ w = w' := by
  obtain ⟨p0, p1, p2, e0, e1⟩ := h
  go_enter Try.func16, Try.ntmps16
  go_wp2
  go_ret
  exact ⟨rfl, rfl⟩
theorem last_f {w : World} {p e : Nat} {b t : Int} (h : Fr w p e b t) (hb : inIdx b) :
    Calls Try.prog 15 #[.pointer (some ⟨p, 0, none⟩)] w fun en w' => en = .returned (.int .i64 b) ∧ ∃ n, w' = w.drewN n := by
  obtain ⟨b0, b1⟩ := hb
  have H := Lib.hid h
  obtain ⟨p0, p1, p2, e0, e1⟩ := h
  have hv : IntKind.i64.wrap (b + 1) = b + 1 := by exact IntWalk.i64_in _ (by omega)
  have hv2 : IntKind.i64.wrap (b + 1 - 1) = b := by rw [IntWalk.i64_in _ (by omega)]; omega
  go_enter Try.func15, Try.ntmps15
  go_wp2
  go_quiet ((go_at_call 41; exact quiet_left (base_f (H.out.drewN _))))
  go_wp2
  go_ret
  exact ⟨rfl, _, rfl⟩

theorem has_yes {w : World} {p e : Nat} {b t : Int} (h : Fr w p e b t) (hb : inIdx b) :
    Calls Try.prog 43 #[.pointer (some ⟨p, 0, none⟩), .int .i64 b] w fun en w' => en = .returned (.bool true) ∧ ∃ n, w' = w.drewN n := by
  have H := Lib.hid h
  clear h
  go_enter Try.func43, Try.ntmps43
  go_wp2_with (first
    | (go_at_call 41; refine (base_f H.out).mono ?_; rintro e w' ⟨rfl, rfl⟩)
    | (go_at_call 15; refine (last_f H.out hb).mono ?_; rintro e w' ⟨rfl, n, rfl⟩))
  go_ret
  exact ⟨rfl, _, rfl⟩
theorem has_no {w : World} {p e : Nat} {b t : Int} (h : Fr w p e b t) (hb : inIdx b) :
    Calls Try.prog 43 #[.pointer (some ⟨p, 0, none⟩), .int .i64 (b + 1)] w fun en w' => en = .returned (.bool false) ∧ ∃ n, w' = w.drewN n := by
  have H := Lib.hid h
  have h1 : b ≤ b + 1 := by omega
  have h2 : ¬ b + 1 ≤ b := by omega
  have d2 : decide (b + 1 ≤ b) = false := by simp; omega
  clear h
  go_enter Try.func43, Try.ntmps43
  go_wp2_with (first
    | (go_at_call 41; refine (base_f H.out).mono ?_; rintro e w' ⟨rfl, rfl⟩)
    | (go_at_call 15; refine (last_f H.out hb).mono ?_; rintro e w' ⟨rfl, n, rfl⟩))
  go_ret
  exact ⟨rfl, _, rfl⟩
theorem from_f {w : World} {p e : Nat} {b t : Int} (h : Fr w p e b t) :
    Calls Try.prog 44 #[.pointer (some ⟨p, 0, none⟩), .int .i64 b] w fun en w' => en = .returned (.slice (some ⟨e, 0, none⟩) 1 1) ∧ ∃ n, w' = w.drewN n := by
  have H := Lib.hid h
  obtain ⟨p0, p1, p2, e0, e1⟩ := h
  have hv : IntKind.i64.wrap (b - b) = 0 := by rw [Int.sub_self]; rfl
  go_enter Try.func44, Try.ntmps44
  go_wp2
  go_quiet ((go_at_call 41; exact quiet_left (base_f (H.out.drewN _))))
  go_wp2
  go_ret
  exact ⟨rfl, _, rfl⟩
theorem term_f {w : World} {p e : Nat} {b t : Int} (h : Fr w p e b t) (hb : inIdx b) :
    Calls Try.prog 13 #[.pointer (some ⟨p, 0, none⟩), .int .i64 b] w fun en w' => en = .returned (.tuple #[.int .i64 t, .bool true]) ∧ ∃ n, w' = w.drewN n := by
  have H := Lib.hid h
  have e1 := h.e1
  clear h
  go_enter Try.func13, Try.ntmps13
  go_wp2_with (first
    | (go_at_call 43; refine (has_yes H.out hb).mono ?_; rintro e w' ⟨rfl, n, rfl⟩)
    | (go_at_call 44; refine (from_f (H.out.drewN _)).mono ?_; rintro e w' ⟨rfl, m, rfl⟩))
  go_ret2
  exact ⟨rfl, n + m, rfl⟩
theorem get_f {w : World} {p e : Nat} {b t : Int} (h : Fr w p e b t) (hb : inIdx b) :
    Calls Try.prog 18 #[.pointer (some ⟨p, 0, none⟩), .int .i64 (b + 1), .int .i64 100000] w fun en w' => en = .returned (.slice none 0 0) ∧ ∃ n, w' = w.drewN n := by
  have H := Lib.hid h
  have h2 : ¬ b + 1 ≤ b := by omega
  have d2 : decide (b + 1 ≤ b) = false := by simp; omega
  clear h
  go_enter Try.func18, Try.ntmps18
  go_wp2_with (first
    | (go_at_call 41; refine (base_f H.out).mono ?_; rintro e w' ⟨rfl, rfl⟩)
    | (go_at_call 43; refine (has_no H.out hb).mono ?_; rintro e w' ⟨rfl, n, rfl⟩))
  go_ret
  exact ⟨rfl, _, rfl⟩

/-- The reference's fresh log. -/
structure Rf (w : World) (r : Nat) (b t : Int) : Prop where
  r0 : w.cell? ⟨r, 0, none⟩ = some (.int .i64 b)
  r1 : w.cell? ⟨r, 1, none⟩ = some (.int .i64 t)
  r2 : w.cell? ⟨r, 2, none⟩ = some (.slice none 0 0)
  r3 : w.cell? ⟨r, 3, none⟩ = some (.int .i64 b)
  r4 : w.cell? ⟨r, 4, none⟩ = some (.int .i64 b)
theorem Rf.drewN {w : World} {r : Nat} {b t : Int} (h : Rf w r b t) (n : Nat) : Rf (w.drewN n) r b t :=
  ⟨by simpa using h.r0, by simpa using h.r1, by simpa using h.r2, by simpa using h.r3, by simpa using h.r4⟩
theorem reflast_f {w : World} {r : Nat} {b t : Int} (h : Rf w r b t) (hb : inIdx b) :
    Calls Try.prog 23 #[.pointer (some ⟨r, 0, none⟩)] w fun en w' => en = .returned (.int .i64 b) ∧ ∃ n, w' = w.drewN n := by
  obtain ⟨b0, b1⟩ := hb
  obtain ⟨r0, r1, r2, r3, r4⟩ := h
  have hv : IntKind.i64.wrap (b + 0) = b := by rw [IntWalk.i64_in _ (by omega)]; omega
  have hv2 : IntKind.i64.wrap b = b := by rw [IntWalk.i64_in _ (by omega)]
  go_enter Try.func23, Try.ntmps23
  go_wp2
  go_quiet (fail)
  go_wp2
  go_ret
  exact ⟨rfl, _, rfl⟩
theorem same_nil (w : World) :
    Calls Try.prog 19 #[.slice none 0 0, .slice none 0 0] w fun en w' => en = .returned (.bool true) ∧ w = w' := by
  go_enter Try.func19, Try.ntmps19
  go_wp2
  refine wp_loop_rounds 1 ?_
  rw [rounds_succ]
  go_wp2
  go_ret
  exact ⟨rfl, rfl⟩

set_option maxHeartbeats 1000000 in
theorem alike_f {w : World} {p e r : Nat} {b t : Int} (h : Fr w p e b t) (k : Rf w r b t) (hb : inIdx b) :
    Calls Try.prog 9 #[.pointer (some ⟨p, 0, none⟩), .pointer (some ⟨r, 0, none⟩)] w fun en w' => en = .returned (.bool true) ∧ ∃ n, w' = w.drewN n := by
  have H := Lib.hid h
  have K := Lib.hid k
  obtain ⟨r0, r1, r2, r3, r4⟩ := k
  have hv : IntKind.i64.wrap (b + 1) = b + 1 := by obtain ⟨b0, b1⟩ := hb; exact IntWalk.i64_in _ (by omega)
  have HB := Lib.hid hb
  obtain ⟨b0, b1⟩ := hb
  clear h
  go_enter Try.func9, Try.ntmps9
  go_wp2
  go_quiet ((first
    | (go_at_call 14; exact quiet_left (first_f (H.out.drewN _) HB.out))
    | (go_at_call 15; exact Calls.quiet_of (last_f (H.out.drewN _) HB.out))
    | (go_at_call 23; exact Calls.quiet_of (reflast_f (K.out.drewN _) HB.out))
    | (go_at_call 24; exact quiet_left (com_f (H.out.drewN _)))
    | (go_at_call 16; exact quiet_left (app_f (H.out.drewN _)))))
  clear hv
  go_wp2_with (first
    | (go_at_call 14; refine (first_f (H.out.drewN _) HB.out).mono ?_; rintro e w' ⟨rfl, rfl⟩)
    | (go_at_call 18; refine (get_f (H.out.drewN _) HB.out).mono ?_; rintro e w' ⟨rfl, m1, rfl⟩)
    | (go_at_call 19; refine (same_nil _).mono ?_; rintro e w' ⟨rfl, rfl⟩)
    | (go_at_call 13; refine (term_f (H.out.drewN _) HB.out).mono ?_; rintro e w' ⟨rfl, m2, rfl⟩))
  go_ret
  exact ⟨rfl, _, rfl⟩

theorem fr_fresh (w : World) (b t : Int) : Fr (freshWorld w b t) (w.heap.size + 1) w.heap.size b t := by
  have h1 : (freshWorld w b t).heap[w.heap.size + 1]? = some (.cells #[.slice (some ⟨w.heap.size, 0, none⟩) 1 1, .int .i64 b, .int .i64 b] 65 (0, 0)) := blk_alloc (blk_new _ _ (by simp)) _
  have h2 : (freshWorld w b t).heap[w.heap.size]? = some (.cells #[.int .i64 b, .int .i64 t, .int .i64 0, .slice none 0 0] 45 (0, 0)) := blk_alloc (blk_alloc (blk_new _ _ rfl) _) _
  exact ⟨blk_cell h1 0, blk_cell h1 1, blk_cell h1 2, blk_cell h2 0, blk_cell h2 1⟩
theorem rf_fresh (w : World) (b t : Int) : Rf (freshWorld w b t) (w.heap.size + 2) b t := by
  have h1 : (freshWorld w b t).heap[w.heap.size + 2]? = some (.cells (refNewCells b t) 58 (0, 0)) := blk_new _ _ (by rw [newWorld_size])
  exact ⟨blk_cell h1 0, blk_cell h1 1, blk_cell h1 2, blk_cell h1 3, blk_cell h1 4⟩
theorem Fr.below {w w' : World} {p e : Nat} {b t : Int} (h : Fr w p e b t) (hb : Below w.heap.size w w') : Fr w' p e b t :=
  ⟨cell_keep hb h.p0, cell_keep hb h.p1, cell_keep hb h.p2, cell_keep hb h.e0, cell_keep hb h.e1⟩
theorem Rf.below {w w' : World} {r : Nat} {b t : Int} (h : Rf w r b t) (hb : Below w.heap.size w w') : Rf w' r b t :=
  ⟨cell_keep hb h.r0, cell_keep hb h.r1, cell_keep hb h.r2, cell_keep hb h.r3, cell_keep hb h.r4⟩

theorem news_walk (b t : Int) (w : World) (_ : (Lit.int .i64 b).wf = true) (_ : (Lit.int .i64 t).wf = true) :
    Calls Try.prog 4 #[.int .i64 b, .int .i64 t] w fun e w' => e = .returned (.bool true) ∧ Below w.heap.size w w' := by
  have hz : inIdx 0 := by decide
  by_cases hok : inIdx b ∧ inIdx t
  · go_enter Try.func4, Try.ntmps4
    go_wp2_with fail
    refine (fresh_ok b t _ hok.1 hok.2).mono ?_; rintro e w1 ⟨rfl, hw1⟩
    have F1 := fr_fresh w b t
    have R1 := rf_fresh w b t
    have B1 := bl_fresh w b t
    rw [hw1] at F1 R1 B1
    clear hw1
    go_wp2_with fail
    refine (fresh_ok 0 0 _ hz hz).mono ?_; rintro e w2 ⟨rfl, hw2⟩
    have B2 := bl_fresh w1 0 0
    rw [hw2] at B2
    clear hw2
    have F2 := Lib.hid (F1.below B2)
    have R2 := Lib.hid (R1.below B2)
    have BB := Lib.hid (bl_trans B1 B2)
    have HB := Lib.hid hok.1
    clear F1 R1 B1 B2 hok hz
    go_wp2_with (go_at_call 9; refine (alike_f F2.out R2.out HB.out).mono ?_; rintro e w' ⟨rfl, n, rfl⟩)
    go_ret
    exact ⟨rfl, bl_drewN BB.out _⟩
  · go_enter Try.func4, Try.ntmps4
    go_wp2_with fail
    refine (fresh_bad b t _ hok).mono ?_; rintro e w1 ⟨rfl, rfl⟩
    go_wp2_with fail
    refine (fresh_ok 0 0 _ hz hz).mono ?_; rintro e w2 ⟨rfl, hw2⟩
    have B2 := bl_fresh w 0 0
    rw [hw2] at B2
    clear hw2 hok hz
    go_wp2
    go_ret
    exact ⟨rfl, B2⟩
end Go.Proofs.Yteflgempjecnpaa
