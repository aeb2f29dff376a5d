/- The log that fresh lays, read again; Newer of it. Conditions: none. -/
import Derived.Test.YteflgempjecnpaaLogNew
namespace Go.Proofs.Yteflgempjecnpaa
open Go.RowKit

/-- In block p lies a log of one entry, the base b of the term t. -/
def LogAt (w : World) (p : Nat) (b t : Int) : Prop :=
  ∃ e, w.heap[p]? = some (.cells #[.slice (some ⟨e, 0, none⟩) 1 1, .int .i64 b, .int .i64 b] 65 (0, 0)) ∧ w.heap[e]? = some (.cells #[.int .i64 b, .int .i64 t, .int .i64 0, .slice none 0 0] 45 (0, 0))

theorem blk_lt' {w : World} {a : Addr} {v : Value} (h : w.cell? a = some v) : a.block < w.heap.size := World.block_lt_of_cell? w a h
theorem bl_undrew {B : Nat} {w w' : World} (h : Below B w.drew w') : Below B w w' := ⟨h.os, h.tape, h.output, h.size, h.block⟩
theorem logAt_fresh (w : World) (b t : Int) : LogAt (freshWorld w b t) (w.heap.size + 1) b t := by
  refine ⟨w.heap.size, ?_, ?_⟩
  · exact blk_alloc (blk_new _ _ (by simp)) _
  · exact blk_alloc (blk_alloc (blk_new _ _ rfl) _) _
theorem LogAt.below {w w' : World} {p : Nat} {b t : Int} (h : LogAt w p b t) (hb : Below w.heap.size w w') : LogAt w' p b t := by
  obtain ⟨e, h1, h2⟩ := h
  exact ⟨e, blk_below h1 hb (blk_lt h1), blk_below h2 hb (blk_lt h2)⟩
theorem LogAt.grown {w w' : World} {p : Nat} {b t : Int} (h : LogAt w p b t) {row : Option Nat} (hb : w.grownBy w' row) (hr : ∀ g cs t' fz, row = some g → w.heap[g]? = some (.cells cs t' fz) → t' ≠ 65 ∧ t' ≠ 45) : LogAt w' p b t := by
  obtain ⟨e, h1, h2⟩ := h
  refine ⟨e, (hb.block p (blk_lt h1) fun k => (hr _ _ _ _ k.symm h1).1 rfl).trans h1, (hb.block e (blk_lt h2) fun k => (hr _ _ _ _ k.symm h2).2 rfl).trans h2⟩

theorem own_type {w : World} {base E size n : Nat} {v : Value} {xs : List Value} (h : w.ownsRow base E size v n xs) : ∀ g cs t' fz, v.ownBlock = some g → w.heap[g]? = some (.cells cs t' fz) → t' = E := by
  intro g cs t' fz hv hg
  rcases h.2 with ⟨rfl, _⟩ | ⟨g', cap, cur, rfl, _, hh, _⟩
  · simp [Value.ownBlock] at hv
  · simp [Value.ownBlock] at hv
    subst hv
    rw [hh] at hg
    injection hg with hg
    injection hg with _ ht
    exact ht.symm

set_option maxHeartbeats 1000000 in
theorem tail_fresh (w : World) (p : Nat) (b t : Int) (h : LogAt w p b t) :
    Calls Try.prog 22 #[.pointer (some ⟨p, 0, none⟩)] w fun e w' => e = .returned (.agg #[.int .i64 b, .int .i64 t, .int .i64 0, .slice none 0 0]) ∧ Below w.heap.size w w' := by
  obtain ⟨e, h1, h2⟩ := h
  have lp := blk_lt h1
  have le := blk_lt h2
  have p0 : w.cell? ⟨p, 0, none⟩ = some (.slice (some ⟨e, 0, none⟩) 1 1) := blk_cell h1 0
  have e0 : w.cell? ⟨e, 0, none⟩ = some (.int .i64 b) := blk_cell h2 0
  have e1 : w.cell? ⟨e, 1, none⟩ = some (.int .i64 t) := blk_cell h2 1
  have e2 : w.cell? ⟨e, 2, none⟩ = some (.int .i64 0) := blk_cell h2 2
  have e3 : w.cell? ⟨e, 3, none⟩ = some (.slice none 0 0) := blk_cell h2 3
  clear h1 h2
  go_enter Try.func22, Try.ntmps22
  go_wp2
  go_region
  go_wp2
  refine bodyPost_ret (v := .agg #[.int .i64 b, .int .i64 t, .int .i64 0, .slice none 0 0]) (by simp [results, Try.results22, go_sem]) rfl ⟨rfl, ?_⟩
  repeat (first | exact Below.refl _ _ | refine bl_set ?_ (by simp) _ | apply bl_alloc | apply bl_drew | refine bl_drewN ?_ _)

def newerB (i term b t : Int) : Bool := decide (t < term) || (decide (term = t) && decide (b ≤ i))

theorem newer_fresh (w : World) (p : Nat) (i term b t : Int) (h : LogAt w p b t) :
    Calls Try.prog 8 #[.pointer (some ⟨p, 0, none⟩), .int .i64 i, .int .i64 term] w fun e w' => e = .returned (.bool (newerB i term b t)) ∧ Below w.heap.size w w' := by
  by_cases h1 : t < term
  · have hv : newerB i term b t = true := by simp [newerB, h1]
    have HV := Lib.hid hv
    clear hv
    go_enter Try.func8, Try.ntmps8
    go_wp2_with (go_at_call 22; refine (tail_fresh _ _ _ _ h).mono ?_; rintro e w' ⟨rfl, hb⟩)
    go_ret
    exact ⟨ret_bool HV.out.symm, bl_alloc hb _⟩
  by_cases h2 : term = t
  · have e1 : (term == t) = true := by rw [beq_iff_eq]; exact h2
    by_cases h3 : b ≤ i
    · have hv : newerB i term b t = true := by simp [newerB, h2, h3]
      have HV := Lib.hid hv
      clear hv h2
      go_enter Try.func8, Try.ntmps8
      go_wp2_with (go_at_call 22; refine (tail_fresh _ _ _ _ h).mono ?_; rintro e w' ⟨rfl, hb⟩)
      go_ret
      exact ⟨ret_bool HV.out.symm, bl_alloc hb _⟩
    · have hv : newerB i term b t = false := by simp [newerB, h1, h3]
      have d1 : decide (t < term) = false := by simp [h1]
      have d2 : decide (b ≤ i) = false := by simp [h3]
      have HV := Lib.hid hv
      clear hv h2
      go_enter Try.func8, Try.ntmps8
      go_wp2_with (go_at_call 22; refine (tail_fresh _ _ _ _ h).mono ?_; rintro e w' ⟨rfl, hb⟩)
      go_ret
      exact ⟨ret_bool HV.out.symm, bl_alloc hb _⟩
  · have e1 : (term == t) = false := by rw [beq_eq_false_iff_ne]; exact h2
    have hv : newerB i term b t = false := by simp [newerB, h1, h2]
    have d1 : decide (t < term) = false := by simp [h1]
    have HV := Lib.hid hv
    clear hv h2
    go_enter Try.func8, Try.ntmps8
    go_wp2_with (go_at_call 22; refine (tail_fresh _ _ _ _ h).mono ?_; rintro e w' ⟨rfl, hb⟩)
    go_ret
    exact ⟨ret_bool HV.out.symm, bl_alloc hb _⟩

theorem newer_total (a0 a1 b0 b1 : Int) : (newerB a0 a1 b0 b1 || newerB b0 b1 a0 a1) = true := by
  simp only [newerB, Bool.or_eq_true, Bool.and_eq_true, decide_eq_true_eq]
  omega
theorem newer_trans (a0 a1 b0 b1 c0 c1 : Int) (h : newerB a0 a1 b0 b1 = true) (k : newerB b0 b1 c0 c1 = true) : newerB a0 a1 c0 c1 = true := by
  simp only [newerB, Bool.or_eq_true, Bool.and_eq_true, decide_eq_true_eq] at *
  omega

theorem Try.infoP : (Try.prog.info? 25).map (fun i => (i.zero, i.size, i.bytes)) = some (some (.pointer none), 1, 8) := by kernel_rfl

/-- The end of the j-th. -/
def endOf (a0 a1 b0 b1 c0 c1 : Int) : Nat → Int × Int
  | 0 => (a0, a1) | 1 => (b0, b1) | _ => (c0, c1)

set_option maxRecDepth 100000 in
set_option maxHeartbeats 2000000 in
theorem newer_walk (a0 a1 b0 b1 c0 c1 : Int) (w : World) :
    Calls Try.prog 3 #[.agg #[.int .i64 a0, .int .i64 a1], .agg #[.int .i64 b0, .int .i64 b1], .agg #[.int .i64 c0, .int .i64 c1]] w fun e w' => e = .returned (.bool true) ∧ Below w.heap.size w w' := by
  go_enter Try.func3, Try.ntmps3
  go_wp2
  obtain ⟨B, hB⟩ : ∃ B, B = w.heap.size + 1 + 1 + 1 := ⟨_, rfl⟩
  rw [← hB]
  generalize hW : World.alloc _ _ = W0
  have hsz0 : W0.heap.size = B + 1 := by rw [← hW, hB]; simp
  have hblk0 : W0.heap[B]? = some (.cells #[.int .i64 a0, .int .i64 a1, .int .i64 b0, .int .i64 b1, .int .i64 c0, .int .i64 c1] 22 (0, 0)) := by rw [← hW]; exact blk_new _ _ (by rw [hB]; simp)
  have hA0 : W0.heap[w.heap.size]? = some (.cells #[.int .i64 a0, .int .i64 a1] 22 (0, 0)) := by rw [← hW]; exact blk_alloc (blk_alloc (blk_alloc (blk_new _ _ rfl) _) _) _
  have hB0 : W0.heap[w.heap.size + 1]? = some (.cells #[.int .i64 b0, .int .i64 b1] 22 (0, 0)) := by rw [← hW]; exact blk_alloc (blk_alloc (blk_new _ _ (by simp)) _) _
  have hbel0 : Below w.heap.size w W0 := by rw [← hW]; exact bl_alloc (bl_alloc (bl_alloc (bl_alloc (Below.refl _ _) _) _) _) _
  have HSZ := Lib.hid hsz0
  have HBB := Lib.hid hB
  have HBLK := Lib.hid hblk0
  have HA := Lib.hid hA0
  have HBk := Lib.hid hB0
  have hlt : w.heap.size + 1 < B := by omega
  clear hW hsz0 hB hblk0 hA0 hB0
  go_loopg [8, 9] 3 (fun g v i wr => ∃ (k : Nat) (ps : List Nat), k ≤ 3 ∧ g = 3 - k ∧ i = .int .i64 k ∧ ps.length = k ∧ wr.ownsRow (B + 1) 25 1 v k (ps.map fun p => .pointer (some ⟨p, 0, none⟩)) ∧
    (∀ j, j < k → LogAt wr (ps.getD j 0) (endOf a0 a1 b0 b1 c0 c1 j).1 (endOf a0 a1 b0 b1 c0 c1 j).2) ∧ B < wr.heap.size ∧ Below (B + 1) W0 wr)
  case atStart => exact ⟨0, [], by omega, rfl, rfl, rfl, World.ownsRow_nil _ _ _ _, fun j hj => by omega, by rw [HSZ.out]; omega, Below.refl _ _⟩
  case round =>
    obtain ⟨k, ps, k0, hg, rfl, hps, hown, hlogs, hsz, hbel⟩ := hrel
    have HG := Lib.hid hg
    have HP := Lib.hid hps
    have HO := Lib.hid hown
    have HL := Lib.hid hlogs
    clear hg hps hown hlogs
    by_cases hk : k < 3
    · obtain ⟨x, hx⟩ : ∃ x, x = (endOf a0 a1 b0 b1 c0 c1 k).1 := ⟨_, rfl⟩
      obtain ⟨y, hy⟩ : ∃ y, y = (endOf a0 a1 b0 b1 c0 c1 k).2 := ⟨_, rfl⟩
      have hblk : wr.heap[B]? = some (.cells #[.int .i64 a0, .int .i64 a1, .int .i64 b0, .int .i64 b1, .int .i64 c0, .int .i64 c1] 22 (0, 0)) := blk_below HBLK.out hbel (by omega)
      have hc0 : wr.cell? ⟨B, k * 2, none⟩ = some (.int .i64 x) := by
        rw [blk_cell hblk, hx]
        have hk' : k = 0 ∨ k = 1 ∨ k = 2 := by omega
        rcases hk' with rfl | rfl | rfl <;> rfl
      have hc1 : wr.cell? ⟨B, k * 2 + 1, none⟩ = some (.int .i64 y) := by
        rw [blk_cell hblk, hy]
        have hk' : k = 0 ∨ k = 1 ∨ k = 2 := by omega
        rcases hk' with rfl | rfl | rfl <;> rfl
      have HX := Lib.hid hx
      have HY := Lib.hid hy
      clear hx hy hblk
      by_cases hok : inIdx x ∧ inIdx y
      · have hf : ∀ o, (freshWorld wr.drew x y).cell? ⟨B, o, none⟩ = wr.cell? ⟨B, o, none⟩ := fun o => fresh_cell wr.drew x y B o hsz
        go_wp2
        go_region_held3 (fun w' => w'.cell? ⟨B, k * 2, none⟩ = some (.int .i64 x) ∧ w'.cell? ⟨B, k * 2 + 1, none⟩ = some (.int .i64 y)) (simp [go_sem, *])
          ((go_at_call 7; refine (fresh_ok x y _ hok.1 hok.2).mono ?_; rintro e w' ⟨rfl, rfl⟩))
        have hown1 : (freshWorld wr.drew x y).ownsRow (B + 1) 25 1 u8 k (ps.map fun p => .pointer (some ⟨p, 0, none⟩)) := ((HO.out.drew.alloc _).alloc _).alloc _
        have HO1 := Lib.hid hown1
        have hfsz := freshWorld_size wr.drew x y
        have HFS : Hid ((freshWorld wr.drew x y).heap.size = wr.heap.size + 3) := hfsz
        clear hown1 hfsz
        go_wp2_with (at_builtin; refine wpList_app rfl _ _ 24 rfl (B + 1) 25 Try.underlying24 Try.infoP rfl (by decide) rfl HO1.out rfl [.pointer (some ⟨wr.heap.size + 1, 0, none⟩)] rfl (by simp [Value.oneCell']) (by unfold maxLen; omega) (by omega) (by rw [HFS.out]; omega) ?_; intro v' w' hown' hgrow)
        have ht := own_type HO1.out
        have hbl := own_below HO1.out hgrow (by rw [HFS.out]; omega)
        have hbf : Below (B + 1) wr (freshWorld wr.drew x y) := bl_undrew ((bl_fresh wr.drew x y).mono hsz)
        go_roundg (3 - (k + 1))
        case measure => have := HG.out; omega
        case rel =>
          refine ⟨k + 1, ps ++ [wr.heap.size + 1], by omega, rfl, by go_num, by simp [HP.out], by simpa using hown', fun j hj => ?_, ?_, hbel.trans (hbf.trans hbl)⟩
          · by_cases e : j = k
            · subst e
              have e1 : (ps ++ [wr.heap.size + 1]).getD j 0 = wr.heap.size + 1 := by rw [← HP.out]; simp
              rw [e1, ← HX.out, ← HY.out]
              exact (logAt_fresh wr.drew x y).grown hgrow (fun g cs t' fz hv hgg => by rw [ht g cs t' fz hv hgg]; decide)
            · have e1 : (ps ++ [wr.heap.size + 1]).getD j 0 = ps.getD j 0 := by
                simp only [List.getD_eq_getElem?_getD]
                rw [List.getElem?_append_left (by rw [HP.out]; omega)]
              rw [e1]
              exact ((HL.out j (by omega)).below (bl_undrew (bl_fresh wr.drew x y))).grown hgrow (fun g cs t' fz hv hgg => by rw [ht g cs t' fz hv hgg]; decide)
          · have := hgrow.size; rw [HFS.out] at this; omega
      · have hb : ∀ w, Calls Try.prog 7 #[.int .i64 x, .int .i64 y] w fun e w' => e = .returned (.tuple #[.pointer none, .pointer none, .bool true]) ∧ w = w' := fun w => fresh_bad x y w hok
        have HBAD := Lib.hid hb
        clear hb hok
        go_wp2
        go_region_held3 (fun w' => w'.cell? ⟨B, k * 2, none⟩ = some (.int .i64 x) ∧ w'.cell? ⟨B, k * 2 + 1, none⟩ = some (.int .i64 y)) (simp [go_sem, *])
          ((go_at_call 7; refine (HBAD.out _).mono ?_; rintro e w' ⟨rfl, rfl⟩))
        go_wp2
        go_ret
        exact ⟨rfl, bl_drew (bl_trans' hbel0 hbel (by omega))⟩
    · obtain rfl : k = 3 := by omega
      obtain ⟨p0, p1, p2, hp⟩ : ∃ p0 p1 p2, ps = [p0, p1, p2] := by
        match ps, HP.out with
        | [a, b, c], _ => exact ⟨a, b, c, rfl⟩
      have hO := HO.out
      rw [hp] at hO
      obtain ⟨gg, cap, hv⟩ : ∃ gg cap, u8 = Value.slice (some ⟨gg, 0, none⟩) 3 cap := by
        rcases hO.2 with ⟨_, h⟩ | ⟨gg, cap, cur, h, _⟩
        · simp at h
        · exact ⟨gg, cap, h⟩
      subst hv
      have r0 : wr.cell? ⟨gg, 0, none⟩ = some (.pointer (some ⟨p0, 0, none⟩)) := hO.cellAt 0 (by omega)
      have r1 : wr.cell? ⟨gg, 1, none⟩ = some (.pointer (some ⟨p1, 0, none⟩)) := hO.cellAt 1 (by omega)
      have r2 : wr.cell? ⟨gg, 2, none⟩ = some (.pointer (some ⟨p2, 0, none⟩)) := hO.cellAt 2 (by omega)
      have hgl : gg < wr.heap.size := blk_lt' r0
      have l0 : LogAt wr p0 a0 a1 := by have := HL.out 0 (by omega); rw [hp] at this; exact this
      have l1 : LogAt wr p1 b0 b1 := by have := HL.out 1 (by omega); rw [hp] at this; exact this
      have l2 : LogAt wr p2 c0 c1 := by have := HL.out 2 (by omega); rw [hp] at this; exact this
      have hA := blk_below HA.out hbel (by omega)
      have hBk := blk_below HBk.out hbel (by omega)
      have qa0 : wr.cell? ⟨w.heap.size, 0, none⟩ = some (.int .i64 a0) := blk_cell hA 0
      have qa1 : wr.cell? ⟨w.heap.size, 1, none⟩ = some (.int .i64 a1) := blk_cell hA 1
      have qb0 : wr.cell? ⟨w.heap.size + 1, 0, none⟩ = some (.int .i64 b0) := blk_cell hBk 0
      have qb1 : wr.cell? ⟨w.heap.size + 1, 1, none⟩ = some (.int .i64 b1) := blk_cell hBk 1
      have hwsz : w.heap.size + 1 < wr.heap.size := blk_lt hBk
      have HL0 := Lib.hid l0
      have HL1 := Lib.hid l1
      have HL2 := Lib.hid l2
      clear hO hp HO HL HP HG l0 l1 l2 hA hBk HA HBk HBLK
      have hw0 : w.heap.size < wr.heap.size := by omega
      go_wp2
      go_region_held3 (fun w' => w'.cell? ⟨gg, 0, none⟩ = some (.pointer (some ⟨p0, 0, none⟩)) ∧ w'.cell? ⟨gg, 1, none⟩ = some (.pointer (some ⟨p1, 0, none⟩)) ∧ w'.cell? ⟨gg, 2, none⟩ = some (.pointer (some ⟨p2, 0, none⟩)) ∧ w'.cell? ⟨w.heap.size, 0, none⟩ = some (.int .i64 a0) ∧ w'.cell? ⟨w.heap.size, 1, none⟩ = some (.int .i64 a1) ∧ w'.cell? ⟨w.heap.size + 1, 0, none⟩ = some (.int .i64 b0) ∧ w'.cell? ⟨w.heap.size + 1, 1, none⟩ = some (.int .i64 b1)) (simp [go_sem, *])
        ((go_at_call 8; refine (newer_fresh _ p1 a0 a1 b0 b1 (by exact HL1.out)).mono ?_; rintro e w1 ⟨rfl, hb1⟩; have hcg1 : ∀ o, w1.cell? ⟨gg, o, none⟩ = wr.cell? ⟨gg, o, none⟩ := (fun o => (bl_undrew hb1).cell (p := ⟨gg, o, none⟩) (by assumption)); have hcv1 : ∀ o, w1.cell? ⟨w.heap.size, o, none⟩ = wr.cell? ⟨w.heap.size, o, none⟩ := (fun o => (bl_undrew hb1).cell (p := ⟨w.heap.size, o, none⟩) (by assumption)); have hcw1 : ∀ o, w1.cell? ⟨w.heap.size + 1, o, none⟩ = wr.cell? ⟨w.heap.size + 1, o, none⟩ := (fun o => (bl_undrew hb1).cell (p := ⟨w.heap.size + 1, o, none⟩) (by assumption))))
      have hs1 : gg < w1.heap.size := Nat.lt_of_lt_of_le (by assumption) hb1.size
      have hu1 : w.heap.size < w1.heap.size := Nat.lt_of_lt_of_le (by assumption) hb1.size
      have ht1 : w.heap.size + 1 < w1.heap.size := Nat.lt_of_lt_of_le (by assumption) hb1.size
      have HL0 := Lib.hid (HL0.out.below (bl_undrew hb1))
      have HL1 := Lib.hid (HL1.out.below (bl_undrew hb1))
      have HL2 := Lib.hid (HL2.out.below (bl_undrew hb1))
      go_wp2
      go_region_held3 (fun w' => w'.cell? ⟨gg, 0, none⟩ = some (.pointer (some ⟨p0, 0, none⟩)) ∧ w'.cell? ⟨gg, 1, none⟩ = some (.pointer (some ⟨p1, 0, none⟩)) ∧ w'.cell? ⟨gg, 2, none⟩ = some (.pointer (some ⟨p2, 0, none⟩)) ∧ w'.cell? ⟨w.heap.size, 0, none⟩ = some (.int .i64 a0) ∧ w'.cell? ⟨w.heap.size, 1, none⟩ = some (.int .i64 a1) ∧ w'.cell? ⟨w.heap.size + 1, 0, none⟩ = some (.int .i64 b0) ∧ w'.cell? ⟨w.heap.size + 1, 1, none⟩ = some (.int .i64 b1)) (simp [go_sem, *])
        ((go_at_call 8; refine (newer_fresh _ p0 b0 b1 a0 a1 (by exact HL0.out)).mono ?_; rintro e w2 ⟨rfl, hb2⟩; have hcg2 : ∀ o, w2.cell? ⟨gg, o, none⟩ = w1.cell? ⟨gg, o, none⟩ := (fun o => (bl_undrew hb2).cell (p := ⟨gg, o, none⟩) (by assumption)); have hcv2 : ∀ o, w2.cell? ⟨w.heap.size, o, none⟩ = w1.cell? ⟨w.heap.size, o, none⟩ := (fun o => (bl_undrew hb2).cell (p := ⟨w.heap.size, o, none⟩) (by assumption)); have hcw2 : ∀ o, w2.cell? ⟨w.heap.size + 1, o, none⟩ = w1.cell? ⟨w.heap.size + 1, o, none⟩ := (fun o => (bl_undrew hb2).cell (p := ⟨w.heap.size + 1, o, none⟩) (by assumption))))
      have hs2 : gg < w2.heap.size := Nat.lt_of_lt_of_le (by assumption) hb2.size
      have hu2 : w.heap.size < w2.heap.size := Nat.lt_of_lt_of_le (by assumption) hb2.size
      have ht2 : w.heap.size + 1 < w2.heap.size := Nat.lt_of_lt_of_le (by assumption) hb2.size
      have HL0 := Lib.hid (HL0.out.below (bl_undrew hb2))
      have HL1 := Lib.hid (HL1.out.below (bl_undrew hb2))
      have HL2 := Lib.hid (HL2.out.below (bl_undrew hb2))
      go_wp2
      go_region_held3 (fun w' => w'.cell? ⟨gg, 0, none⟩ = some (.pointer (some ⟨p0, 0, none⟩)) ∧ w'.cell? ⟨gg, 1, none⟩ = some (.pointer (some ⟨p1, 0, none⟩)) ∧ w'.cell? ⟨gg, 2, none⟩ = some (.pointer (some ⟨p2, 0, none⟩)) ∧ w'.cell? ⟨w.heap.size, 0, none⟩ = some (.int .i64 a0) ∧ w'.cell? ⟨w.heap.size, 1, none⟩ = some (.int .i64 a1) ∧ w'.cell? ⟨w.heap.size + 1, 0, none⟩ = some (.int .i64 b0) ∧ w'.cell? ⟨w.heap.size + 1, 1, none⟩ = some (.int .i64 b1)) (simp [go_sem, *])
        ((go_at_call 8; refine (newer_fresh _ p2 b0 b1 c0 c1 (by exact HL2.out)).mono ?_; rintro e w3 ⟨rfl, hb3⟩; have hcg3 : ∀ o, w3.cell? ⟨gg, o, none⟩ = w2.cell? ⟨gg, o, none⟩ := (fun o => (bl_undrew hb3).cell (p := ⟨gg, o, none⟩) (by assumption)); have hcv3 : ∀ o, w3.cell? ⟨w.heap.size, o, none⟩ = w2.cell? ⟨w.heap.size, o, none⟩ := (fun o => (bl_undrew hb3).cell (p := ⟨w.heap.size, o, none⟩) (by assumption)); have hcw3 : ∀ o, w3.cell? ⟨w.heap.size + 1, o, none⟩ = w2.cell? ⟨w.heap.size + 1, o, none⟩ := (fun o => (bl_undrew hb3).cell (p := ⟨w.heap.size + 1, o, none⟩) (by assumption))))
      have hs3 : gg < w3.heap.size := Nat.lt_of_lt_of_le (by assumption) hb3.size
      have hu3 : w.heap.size < w3.heap.size := Nat.lt_of_lt_of_le (by assumption) hb3.size
      have ht3 : w.heap.size + 1 < w3.heap.size := Nat.lt_of_lt_of_le (by assumption) hb3.size
      have HL0 := Lib.hid (HL0.out.below (bl_undrew hb3))
      have HL1 := Lib.hid (HL1.out.below (bl_undrew hb3))
      have HL2 := Lib.hid (HL2.out.below (bl_undrew hb3))
      go_wp2
      go_region_held3 (fun w' => w'.cell? ⟨gg, 0, none⟩ = some (.pointer (some ⟨p0, 0, none⟩)) ∧ w'.cell? ⟨gg, 1, none⟩ = some (.pointer (some ⟨p1, 0, none⟩)) ∧ w'.cell? ⟨gg, 2, none⟩ = some (.pointer (some ⟨p2, 0, none⟩)) ∧ w'.cell? ⟨w.heap.size, 0, none⟩ = some (.int .i64 a0) ∧ w'.cell? ⟨w.heap.size, 1, none⟩ = some (.int .i64 a1) ∧ w'.cell? ⟨w.heap.size + 1, 0, none⟩ = some (.int .i64 b0) ∧ w'.cell? ⟨w.heap.size + 1, 1, none⟩ = some (.int .i64 b1)) (simp [go_sem, *])
        ((go_at_call 8; refine (newer_fresh _ p2 a0 a1 c0 c1 (by exact HL2.out)).mono ?_; rintro e w4 ⟨rfl, hb4⟩; have hcg4 : ∀ o, w4.cell? ⟨gg, o, none⟩ = w3.cell? ⟨gg, o, none⟩ := (fun o => (bl_undrew hb4).cell (p := ⟨gg, o, none⟩) (by assumption)); have hcv4 : ∀ o, w4.cell? ⟨w.heap.size, o, none⟩ = w3.cell? ⟨w.heap.size, o, none⟩ := (fun o => (bl_undrew hb4).cell (p := ⟨w.heap.size, o, none⟩) (by assumption)); have hcw4 : ∀ o, w4.cell? ⟨w.heap.size + 1, o, none⟩ = w3.cell? ⟨w.heap.size + 1, o, none⟩ := (fun o => (bl_undrew hb4).cell (p := ⟨w.heap.size + 1, o, none⟩) (by assumption))))
      have e1 := newer_total a0 a1 b0 b1
      have e2 := newer_trans a0 a1 b0 b1 c0 c1
      have HBE : Hid (Below w.heap.size w w4) := bl_trans (bl_trans (bl_trans (bl_trans (bl_trans' hbel0 hbel (by omega)) (bl_undrew hb1)) (bl_undrew hb2)) (bl_undrew hb3)) (bl_undrew hb4)
      generalize newerB a0 a1 b0 b1 = n1 at *
      generalize newerB b0 b1 a0 a1 = n2 at *
      generalize newerB b0 b1 c0 c1 = n3 at *
      generalize newerB a0 a1 c0 c1 = n4 at *
      cases n1 <;> cases n2 <;> cases n3 <;> cases n4 <;> simp at e1 e2 <;> (go_wp2; go_ret; exact ⟨rfl, HBE.out⟩)
end Go.Proofs.Yteflgempjecnpaa
