/- Who are most of a group: counts, Right, Need, Wins, Lost. Conditions: none. -/
import Derived.Test.YtiamfdnllpiikaaQuorum
namespace Go.Proofs.Ytiamfdnllpiikaa
open Go.RowKit

/-- How many of vs stand in xs. -/
def cntV (vs xs : List Int) : Nat := (vs.filter fun v => decide (v ∈ xs)).length
theorem cntV_take (vs xs : List Int) {k : Nat} (hk : k < vs.length) : cntV (vs.take (k + 1)) xs = cntV (vs.take k) xs + if vs.getD k 0 ∈ xs then 1 else 0 := by
  unfold cntV
  rw [List.take_succ_eq_append_getElem hk, List.filter_append, List.length_append, List.getD_eq_getElem?_getD, List.getElem?_eq_getElem hk]
  by_cases h : vs[k] ∈ xs <;> simp [List.filter_cons, h]
theorem cntV_le (vs xs : List Int) : cntV vs xs ≤ vs.length := by unfold cntV; exact List.length_filter_le _ _

theorem amongf_at (b : Nat) (a : Option Addr) (xs : List Int) (c : Nat) (n : Int) (w : World) (hb : w.cell? ⟨b, 0, none⟩ = some (.slice a xs.length c)) (ha : GsAt w a xs) (hl : xs.length ≤ maxLen) :
    Calls Try.prog 60 #[.int .i64 n, .pointer (some ⟨b, 0, none⟩)] w fun e w' => e = .returned (.bool (decide (n ∈ xs))) ∧ w = w' := by
  have H := Lib.hid (contains_at a xs c n w ha hl)
  clear ha
  go_enter Try.func60, Try.ntmps60
  go_wp2_with fail
  refine H.out.mono ?_; rintro e w' ⟨rfl, rfl⟩
  go_wp2_with fail
  go_ret
  exact ⟨rfl, rfl⟩

set_option maxRecDepth 100000 in
theorem count_at (b : Nat) (va a : Option Addr) (vs xs : List Int) (vc c : Nat) (w : World) (hb : w.cell? ⟨b, 0, none⟩ = some (.slice a xs.length c)) (hv : GsAt w va vs) (hvm : vs.length ≤ maxLen) (ha : GsAt w a xs) (hl : xs.length ≤ maxLen) :
    Calls Try.prog 53 #[.slice va vs.length vc, .func (.func 60) #[] #[.pointer (some ⟨b, 0, none⟩)]] w fun e w' => e = .returned (.int .i64 (cntV vs xs)) ∧ w = w' := by
  have hl' : (vs.length : Int) ≤ 9223372036854775807 := by unfold maxLen at hvm; omega
  have H := Lib.hid (fun n => amongf_at b a xs c n w hb ha hl)
  have HX := Lib.hid hv
  clear hb ha hv
  go_enter Try.func53, Try.ntmps53
  go_wp2_with fail
  go_loopg [5, 10] vs.length (fun g n i wr => w = wr ∧ ∃ k : Nat, k ≤ vs.length ∧ g = vs.length - k ∧ i = .int .i64 k ∧ n = .int .i64 (cntV (vs.take k) xs))
  case atStart => exact ⟨rfl, 0, by omega, rfl, rfl, rfl⟩
  case round =>
    obtain ⟨rfl, k, k0, hgk, rfl, rfl⟩ := hrel
    have HGK := Lib.hid hgk
    clear hgk
    have hcl := cntV_le (vs.take k) xs
    have hct : (vs.take k).length = k := by simp; omega
    rw [hct] at hcl
    clear hct
    by_cases hk : k < vs.length
    · obtain ⟨b1, o1, h1, c1⟩ := HX.out k hk
      have HCT := Lib.hid (cntV_take vs xs hk)
      obtain ⟨x, hxe⟩ : ∃ x, x = vs.getD k 0 := ⟨_, rfl⟩
      rw [← hxe] at c1 HCT
      obtain ⟨m, hm⟩ : ∃ m, m = cntV (vs.take k) xs := ⟨_, rfl⟩
      rw [← hm] at HCT hcl ⊢
      clear hxe hm
      subst h1
      by_cases hx : x ∈ xs
      · have HH := Lib.hid (H.out x)
        rw [decide_eq_true hx] at HH
        rw [if_pos hx] at HCT
        clear hx
        go_wp2_with fail
        refine HH.out.mono ?_; rintro e w' ⟨rfl, rfl⟩
        go_wp2_with fail
        go_roundg (vs.length - (k + 1))
        case measure => have := HGK.out; omega
        case rel => exact ⟨rfl, k + 1, by omega, rfl, by go_num, by rw [HCT.out]; go_num⟩
      · have HH := Lib.hid (H.out x)
        rw [decide_eq_false hx] at HH
        rw [if_neg hx] at HCT
        clear hx
        go_wp2_with fail
        refine HH.out.mono ?_; rintro e w' ⟨rfl, rfl⟩
        go_wp2_with fail
        go_roundg (vs.length - (k + 1))
        case measure => have := HGK.out; omega
        case rel => exact ⟨rfl, k + 1, by omega, rfl, by go_num, by rw [HCT.out]; rfl⟩
    · obtain rfl : k = vs.length := by omega
      go_wp2_with fail
      go_ret
      exact ⟨ret_int (by rw [List.take_length]), rfl⟩

/-- A test of standing in xs. -/
def IsAmong (xs : Value) (w : World) (e : Ending) (w' : World) : Prop := ∃ b, e = .returned (.func (.func 60) #[] #[.pointer (some ⟨b, 0, none⟩)]) ∧ w'.cell? ⟨b, 0, none⟩ = some xs ∧ Below w.heap.size w w'
theorem among_at (a : Option Addr) (xs : List Int) (c : Nat) (w : World) :
    Calls Try.prog 54 #[.slice a xs.length c] w (IsAmong (.slice a xs.length c) w) := by
  go_enter Try.func54, Try.ntmps54
  go_wp2_with fail
  go_ret
  exact ⟨_, rfl, blk_cell (blk_new w _ rfl) 0, bl_alloc (Below.refl _ _) _⟩

/-- May a group be? -/
def rightG (vs ls : List Int) : Bool := risesB 0 vs && risesB 0 ls && decide (0 < vs.length) && decide (cntV vs ls = 0)
def winsB (vs ls xs : List Int) : Bool := rightG vs ls && decide ((vs.length : Int) / 2 + 1 ≤ cntV vs xs)
def lostB (vs ls xs : List Int) : Bool := rightG vs ls && decide ((vs.length : Int) - cntV vs xs < (vs.length : Int) / 2 + 1)


set_option maxRecDepth 100000 in
set_option maxHeartbeats 1000000 in
theorem qright_at (va la : Option Addr) (vs ls : List Int) (vc lc : Nat) (w : World) (hv : GsAt w va vs) (hl : GsAt w la ls) (hvm : vs.length ≤ maxLen) (hlm : ls.length ≤ maxLen) :
    Calls Try.prog 30 #[.agg #[.slice va vs.length vc, .slice la ls.length lc]] w fun e w' => e = .returned (.bool (rightG vs ls)) ∧ Below w.heap.size w w' := by
  have hvm' : (vs.length : Int) ≤ 9223372036854775807 := by unfold maxLen at hvm; omega
  have hb1 := bl_alloc (Below.refl w.heap.size w) (.cells #[.slice va vs.length vc, .slice la ls.length lc] 31)
  have HB := Lib.hid hb1
  have HV := Lib.hid (hv.keep hb1)
  have HL := Lib.hid (hl.keep hb1)
  obtain ⟨w0, hw0⟩ : ∃ w0, w0 = w.alloc (.cells #[.slice va vs.length vc, .slice la ls.length lc] 31) := ⟨_, rfl⟩
  have hblk : w0.heap[w.heap.size]? = some (.cells #[.slice va vs.length vc, .slice la ls.length lc] 31) := by rw [hw0]; exact blk_new w _ rfl
  have q0 : ∀ w', Below w0.heap.size w0 w' → w'.cell? ⟨w.heap.size, 0, none⟩ = some (.slice va vs.length vc) := fun w' h => blk_cell (blk_below hblk h (blk_lt hblk)) 0
  have q1 : ∀ w', Below w0.heap.size w0 w' → w'.cell? ⟨w.heap.size, 1, none⟩ = some (.slice la ls.length lc) := fun w' h => blk_cell (blk_below hblk h (blk_lt hblk)) 1
  rw [← hw0] at HB HV HL
  have HW0 := Lib.hid hw0
  have hb := Below.refl w0.heap.size w0
  clear hv hl hb1 hblk hw0
  have HR1 := Lib.hid (fun (W : World) (h : Below w0.heap.size w0 W) => rises_at va vs vc W (HV.out.keep h) hvm)
  have HR2 := Lib.hid (fun (W : World) (h : Below w0.heap.size w0 W) => rises_at la ls lc W (HL.out.keep h) hlm)
  have HRE := Lib.hid (show rightG vs ls = (risesB 0 vs && risesB 0 ls && decide (0 < vs.length) && decide (cntV vs ls = 0)) from rfl)
  cases h1 : risesB 0 vs
  · rw [h1] at HR1 HRE
    rw [HRE.out]
    clear h1
    go_enter Try.func30, Try.ntmps30
    go_wp2_with fail
    rw [← HW0.out]
    refine wp_region_in (Below w0.heap.size w0) (fun i => i == 2 || i == 6 || i == 19 || i == 20) (by kernel_rfl) (by kernel_rfl) (by exact hb.drew) ?_
    intro hne hx
    replace hb := hb.drew
    refine stg_seg 2 (by dsimp only [List.take]) (by dsimp only [List.drop]) (by rfl) ?_
    repeat (go_big_quiet_step (fail))
    refine wpQuiet_nil ?_
    refine stg_loud (by rfl) ?_
    go_wp2_with fail
    refine (HR1.out _ hb).mono ?_; rintro e w' ⟨rfl, rfl⟩
    go_wp2_with fail
    refine lq_in rfl (hb) ?_
    refine stg_seg 3 (by dsimp only [List.take]) (by dsimp only [List.drop]) (by rfl) ?_
    repeat (go_big_quiet_step (fail))
    refine wpQuiet_nil ?_
    refine stg_loud (by rfl) ?_
    go_wp2_with fail
    refine lq_in rfl (hb) ?_
    refine stg_seg 12 (by dsimp only [List.take]) (by dsimp only [List.drop]) (by rfl) ?_
    repeat (go_big_quiet_step (fail))
    refine wpQuiet_nil ?_
    refine stg_loud (by rfl) ?_
    go_wp2_with fail
    refine lq_in rfl (hb) ?_
    refine stg_seg 0 (by dsimp only [List.take]) (by dsimp only [List.drop]) (by rfl) ?_
    repeat (go_big_quiet_step (fail))
    refine wpQuiet_nil ?_
    refine stg_loud (by rfl) ?_
    go_wp2_with fail
    refine lq_in rfl (hb) ?_
    refine stg_seg 3 (by dsimp only [List.take]) (by dsimp only [List.drop]) (by rfl) ?_
    repeat (go_big_quiet_step (fail))
    refine wpQuiet_nil ?_
    refine stg_nil ?_
    clear hne hx
    go_wp2_with fail
    go_ret
    exact ⟨rfl, bl_trans HB.out hb⟩
  rw [h1] at HR1 HRE
  clear h1
  cases h2 : risesB 0 ls
  · rw [h2] at HR2 HRE
    rw [HRE.out]
    clear h2
    go_enter Try.func30, Try.ntmps30
    go_wp2_with fail
    rw [← HW0.out]
    refine wp_region_in (Below w0.heap.size w0) (fun i => i == 2 || i == 6 || i == 19 || i == 20) (by kernel_rfl) (by kernel_rfl) (by exact hb.drew) ?_
    intro hne hx
    replace hb := hb.drew
    refine stg_seg 2 (by dsimp only [List.take]) (by dsimp only [List.drop]) (by rfl) ?_
    repeat (go_big_quiet_step (fail))
    refine wpQuiet_nil ?_
    refine stg_loud (by rfl) ?_
    go_wp2_with fail
    refine (HR1.out _ hb).mono ?_; rintro e w' ⟨rfl, rfl⟩
    go_wp2_with fail
    refine lq_in rfl (hb) ?_
    refine stg_seg 3 (by dsimp only [List.take]) (by dsimp only [List.drop]) (by rfl) ?_
    repeat (go_big_quiet_step (fail))
    refine wpQuiet_nil ?_
    refine stg_loud (by rfl) ?_
    go_wp2_with fail
    refine (HR2.out _ hb).mono ?_; rintro e w' ⟨rfl, rfl⟩
    go_wp2_with fail
    refine lq_in rfl (hb) ?_
    refine stg_seg 12 (by dsimp only [List.take]) (by dsimp only [List.drop]) (by rfl) ?_
    repeat (go_big_quiet_step (fail))
    refine wpQuiet_nil ?_
    refine stg_loud (by rfl) ?_
    go_wp2_with fail
    refine lq_in rfl (hb) ?_
    refine stg_seg 0 (by dsimp only [List.take]) (by dsimp only [List.drop]) (by rfl) ?_
    repeat (go_big_quiet_step (fail))
    refine wpQuiet_nil ?_
    refine stg_loud (by rfl) ?_
    go_wp2_with fail
    refine lq_in rfl (hb) ?_
    refine stg_seg 3 (by dsimp only [List.take]) (by dsimp only [List.drop]) (by rfl) ?_
    repeat (go_big_quiet_step (fail))
    refine wpQuiet_nil ?_
    refine stg_nil ?_
    clear hne hx
    go_wp2_with fail
    go_ret
    exact ⟨rfl, bl_trans HB.out hb⟩
  rw [h2] at HR2 HRE
  clear h2
  by_cases h3 : 0 < vs.length
  · have hd3 : decide ((0 : Int) < (vs.length : Int)) = true := by simpa using h3
    go_enter Try.func30, Try.ntmps30
    go_wp2_with fail
    rw [← HW0.out]
    refine wp_region_in (Below w0.heap.size w0) (fun i => i == 2 || i == 6 || i == 19 || i == 20) (by kernel_rfl) (by kernel_rfl) (by exact hb.drew) ?_
    intro hne hx
    replace hb := hb.drew
    refine stg_seg 2 (by dsimp only [List.take]) (by dsimp only [List.drop]) (by rfl) ?_
    repeat (go_big_quiet_step (fail))
    refine wpQuiet_nil ?_
    refine stg_loud (by rfl) ?_
    go_wp2_with fail
    refine (HR1.out _ hb).mono ?_; rintro e w' ⟨rfl, rfl⟩
    go_wp2_with fail
    refine lq_in rfl (hb) ?_
    refine stg_seg 3 (by dsimp only [List.take]) (by dsimp only [List.drop]) (by rfl) ?_
    repeat (go_big_quiet_step (fail))
    refine wpQuiet_nil ?_
    refine stg_loud (by rfl) ?_
    go_wp2_with fail
    refine (HR2.out _ hb).mono ?_; rintro e w' ⟨rfl, rfl⟩
    go_wp2_with fail
    refine lq_in rfl (hb) ?_
    refine stg_seg 12 (by dsimp only [List.take]) (by dsimp only [List.drop]) (by rfl) ?_
    repeat (go_big_quiet_step (fail))
    refine wpQuiet_nil ?_
    refine stg_loud (by rfl) ?_
    go_wp2_with fail
    refine (among_at la ls lc _).mono ?_; rintro e w1 ⟨b1, rfl, hbk, hb2⟩
    have HCT := Lib.hid (fun h => count_at b1 va la vs ls vc lc w1 hbk h hvm)
    replace hb := bl_trans hb hb2
    clear hbk hb2
    go_wp2_with fail
    refine lq_in rfl (hb) ?_
    refine stg_seg 0 (by dsimp only [List.take]) (by dsimp only [List.drop]) (by rfl) ?_
    repeat (go_big_quiet_step (fail))
    refine wpQuiet_nil ?_
    refine stg_loud (by rfl) ?_
    go_wp2_with fail
    refine (HCT.out (HV.out.keep hb) (HL.out.keep hb) hlm).mono ?_; rintro e w' ⟨rfl, rfl⟩
    go_wp2_with fail
    refine lq_in rfl (hb) ?_
    refine stg_seg 3 (by dsimp only [List.take]) (by dsimp only [List.drop]) (by rfl) ?_
    repeat (go_big_quiet_step (fail))
    refine wpQuiet_nil ?_
    refine stg_nil ?_
    clear hne hx
    go_wp2_with fail
    go_ret
    refine ⟨ret_bool ?_, bl_trans HB.out hb⟩
    rw [HRE.out, decide_eq_true h3]
    by_cases hz : cntV vs ls = 0 <;> simp [hz]
  · have hd3 : decide ((0 : Int) < (vs.length : Int)) = false := by simpa using h3
    rw [HRE.out, decide_eq_false h3]
    go_enter Try.func30, Try.ntmps30
    go_wp2_with fail
    rw [← HW0.out]
    refine wp_region_in (Below w0.heap.size w0) (fun i => i == 2 || i == 6 || i == 19 || i == 20) (by kernel_rfl) (by kernel_rfl) (by exact hb.drew) ?_
    intro hne hx
    replace hb := hb.drew
    refine stg_seg 2 (by dsimp only [List.take]) (by dsimp only [List.drop]) (by rfl) ?_
    repeat (go_big_quiet_step (fail))
    refine wpQuiet_nil ?_
    refine stg_loud (by rfl) ?_
    go_wp2_with fail
    refine (HR1.out _ hb).mono ?_; rintro e w' ⟨rfl, rfl⟩
    go_wp2_with fail
    refine lq_in rfl (hb) ?_
    refine stg_seg 3 (by dsimp only [List.take]) (by dsimp only [List.drop]) (by rfl) ?_
    repeat (go_big_quiet_step (fail))
    refine wpQuiet_nil ?_
    refine stg_loud (by rfl) ?_
    go_wp2_with fail
    refine (HR2.out _ hb).mono ?_; rintro e w' ⟨rfl, rfl⟩
    go_wp2_with fail
    refine lq_in rfl (hb) ?_
    refine stg_seg 12 (by dsimp only [List.take]) (by dsimp only [List.drop]) (by rfl) ?_
    repeat (go_big_quiet_step (fail))
    refine wpQuiet_nil ?_
    refine stg_loud (by rfl) ?_
    go_wp2_with fail
    refine lq_in rfl (hb) ?_
    refine stg_seg 0 (by dsimp only [List.take]) (by dsimp only [List.drop]) (by rfl) ?_
    repeat (go_big_quiet_step (fail))
    refine wpQuiet_nil ?_
    refine stg_loud (by rfl) ?_
    go_wp2_with fail
    refine lq_in rfl (hb) ?_
    refine stg_seg 3 (by dsimp only [List.take]) (by dsimp only [List.drop]) (by rfl) ?_
    repeat (go_big_quiet_step (fail))
    refine wpQuiet_nil ?_
    refine stg_nil ?_
    clear hne hx
    go_wp2_with fail
    go_ret
    exact ⟨rfl, bl_trans HB.out hb⟩

theorem qneed_at (va la : Option Addr) (vs ls : List Int) (vc lc : Nat) (w : World) (hv : GsAt w va vs) (hl : GsAt w la ls) (hvm : vs.length ≤ maxLen) (hlm : ls.length ≤ maxLen) (hR : rightG vs ls = true) :
    Calls Try.prog 61 #[.agg #[.slice va vs.length vc, .slice la ls.length lc]] w fun e w' => e = .returned (.int .i64 ((vs.length : Int) / 2 + 1)) ∧ Below w.heap.size w w' := by
  have hvm' : (vs.length : Int) ≤ 9223372036854775807 := by unfold maxLen at hvm; omega
  have hb1 := bl_alloc (Below.refl w.heap.size w) (.cells #[.slice va vs.length vc, .slice la ls.length lc] 31)
  have HB := Lib.hid hb1
  have HV := Lib.hid (hv.keep hb1)
  have HL := Lib.hid (hl.keep hb1)
  obtain ⟨w0, hw0⟩ : ∃ w0, w0 = w.alloc (.cells #[.slice va vs.length vc, .slice la ls.length lc] 31) := ⟨_, rfl⟩
  have hblk : w0.heap[w.heap.size]? = some (.cells #[.slice va vs.length vc, .slice la ls.length lc] 31) := by rw [hw0]; exact blk_new w _ rfl
  have q0 : ∀ w', Below w0.heap.size w0 w' → w'.cell? ⟨w.heap.size, 0, none⟩ = some (.slice va vs.length vc) := fun w' h => blk_cell (blk_below hblk h (blk_lt hblk)) 0
  have q1 : ∀ w', Below w0.heap.size w0 w' → w'.cell? ⟨w.heap.size, 1, none⟩ = some (.slice la ls.length lc) := fun w' h => blk_cell (blk_below hblk h (blk_lt hblk)) 1
  rw [← hw0] at HB HV HL
  have HW0 := Lib.hid hw0
  have hb := Below.refl w0.heap.size w0
  clear hv hl hb1 hblk hw0
  have H := Lib.hid (qright_at va la vs ls vc lc w0 HV.out HL.out hvm hlm)
  rw [hR] at H
  clear hR
  go_enter Try.func61, Try.ntmps61
  go_wp2_with fail
  rw [← HW0.out]
  refine (H.out).mono ?_; rintro e w1 ⟨rfl, hb2⟩
  replace hb := bl_trans hb hb2; clear hb2
  go_wp2_with fail
  go_ret
  exact ⟨rfl, bl_trans HB.out hb⟩

set_option maxRecDepth 100000 in
set_option maxHeartbeats 1000000 in
theorem qwins_at (va la : Option Addr) (vs ls : List Int) (vc lc : Nat) (xa : Option Addr) (xs : List Int) (xc : Nat) (w : World) (hv : GsAt w va vs) (hl : GsAt w la ls) (hvm : vs.length ≤ maxLen) (hlm : ls.length ≤ maxLen) (hx : GsAt w xa xs) (hxm : xs.length ≤ maxLen) :
    Calls Try.prog 56 #[.agg #[.slice va vs.length vc, .slice la ls.length lc], .slice xa xs.length xc] w fun e w' => e = .returned (.bool (winsB vs ls xs)) ∧ Below w.heap.size w w' := by
  have hvm' : (vs.length : Int) ≤ 9223372036854775807 := by unfold maxLen at hvm; omega
  have HX := Lib.hid (hx.keep (bl_alloc (Below.refl w.heap.size w) (.cells #[.slice va vs.length vc, .slice la ls.length lc] 31)))
  clear hx
  have hb1 := bl_alloc (Below.refl w.heap.size w) (.cells #[.slice va vs.length vc, .slice la ls.length lc] 31)
  have HB := Lib.hid hb1
  have HV := Lib.hid (hv.keep hb1)
  have HL := Lib.hid (hl.keep hb1)
  obtain ⟨w0, hw0⟩ : ∃ w0, w0 = w.alloc (.cells #[.slice va vs.length vc, .slice la ls.length lc] 31) := ⟨_, rfl⟩
  have hblk : w0.heap[w.heap.size]? = some (.cells #[.slice va vs.length vc, .slice la ls.length lc] 31) := by rw [hw0]; exact blk_new w _ rfl
  have q0 : ∀ w', Below w0.heap.size w0 w' → w'.cell? ⟨w.heap.size, 0, none⟩ = some (.slice va vs.length vc) := fun w' h => blk_cell (blk_below hblk h (blk_lt hblk)) 0
  have q1 : ∀ w', Below w0.heap.size w0 w' → w'.cell? ⟨w.heap.size, 1, none⟩ = some (.slice la ls.length lc) := fun w' h => blk_cell (blk_below hblk h (blk_lt hblk)) 1
  rw [← hw0] at HB HV HL
  have HW0 := Lib.hid hw0
  have hb := Below.refl w0.heap.size w0
  clear hv hl hb1 hblk hw0
  rw [← HW0.out] at HX
  have H := Lib.hid (fun (W : World) (h : Below w0.heap.size w0 W) => qright_at va la vs ls vc lc W (HV.out.keep h) (HL.out.keep h) hvm hlm)
  have HE := Lib.hid (show winsB vs ls xs = (rightG vs ls && decide ((vs.length : Int) / 2 + 1 ≤ cntV vs xs)) from rfl)
  cases hR : rightG vs ls
  · rw [hR] at H HE
    rw [HE.out]
    clear hR
    go_enter Try.func56, Try.ntmps56
    go_wp2_with fail
    rw [← HW0.out]
    refine wp_region_in (Below w0.heap.size w0) (fun i => i == 1 || i == 6 || i == 7 || i == 9) (by kernel_rfl) (by kernel_rfl) (by exact hb.drew) ?_
    intro hne hx
    replace hb := hb.drew
    refine stg_seg 1 (by dsimp only [List.take]) (by dsimp only [List.drop]) (by rfl) ?_
    repeat (go_big_quiet_step (fail))
    refine wpQuiet_nil ?_
    refine stg_loud (by rfl) ?_
    go_wp2_with fail
    refine (H.out _ hb).mono ?_; rintro e w1 ⟨rfl, hb2⟩
    replace hb := bl_trans hb hb2; clear hb2
    go_wp2_with fail
    refine lq_in rfl (hb) ?_
    refine stg_seg 4 (by dsimp only [List.take]) (by dsimp only [List.drop]) (by rfl) ?_
    repeat (go_big_quiet_step (fail))
    refine wpQuiet_nil ?_
    refine stg_loud (by rfl) ?_
    go_wp2_with fail
    refine lq_in rfl (hb) ?_
    refine stg_seg 0 (by dsimp only [List.take]) (by dsimp only [List.drop]) (by rfl) ?_
    repeat (go_big_quiet_step (fail))
    refine wpQuiet_nil ?_
    refine stg_loud (by rfl) ?_
    go_wp2_with fail
    refine lq_in rfl (hb) ?_
    refine stg_seg 1 (by dsimp only [List.take]) (by dsimp only [List.drop]) (by rfl) ?_
    repeat (go_big_quiet_step (fail))
    refine wpQuiet_nil ?_
    refine stg_loud (by rfl) ?_
    go_wp2_with fail
    refine lq_in rfl (hb) ?_
    refine stg_seg 3 (by dsimp only [List.take]) (by dsimp only [List.drop]) (by rfl) ?_
    repeat (go_big_quiet_step (fail))
    refine wpQuiet_nil ?_
    refine stg_nil ?_
    clear hne hx
    go_wp2_with fail
    go_ret
    exact ⟨rfl, bl_trans HB.out hb⟩
  · have HN := Lib.hid (fun (W : World) (h : Below w0.heap.size w0 W) => qneed_at va la vs ls vc lc W (HV.out.keep h) (HL.out.keep h) hvm hlm hR)
    rw [hR] at H HE
    clear hR
    go_enter Try.func56, Try.ntmps56
    go_wp2_with fail
    rw [← HW0.out]
    refine wp_region_in (Below w0.heap.size w0) (fun i => i == 1 || i == 6 || i == 7 || i == 9) (by kernel_rfl) (by kernel_rfl) (by exact hb.drew) ?_
    intro hne hx
    replace hb := hb.drew
    refine stg_seg 1 (by dsimp only [List.take]) (by dsimp only [List.drop]) (by rfl) ?_
    repeat (go_big_quiet_step (fail))
    refine wpQuiet_nil ?_
    refine stg_loud (by rfl) ?_
    go_wp2_with fail
    refine (H.out _ hb).mono ?_; rintro e w1 ⟨rfl, hb2⟩
    replace hb := bl_trans hb hb2; clear hb2
    go_wp2_with fail
    refine lq_in rfl (hb) ?_
    refine stg_seg 4 (by dsimp only [List.take]) (by dsimp only [List.drop]) (by rfl) ?_
    repeat (go_big_quiet_step (fail))
    refine wpQuiet_nil ?_
    refine stg_loud (by rfl) ?_
    go_wp2_with fail
    refine (among_at xa xs xc _).mono ?_; rintro e w8 ⟨b1, rfl, hbk, hb2⟩
    have HCT := Lib.hid (fun h => count_at b1 va xa vs xs vc xc w8 hbk h hvm)
    replace hb := bl_trans hb hb2
    clear hbk hb2
    go_wp2_with fail
    refine lq_in rfl (hb) ?_
    refine stg_seg 0 (by dsimp only [List.take]) (by dsimp only [List.drop]) (by rfl) ?_
    repeat (go_big_quiet_step (fail))
    refine wpQuiet_nil ?_
    refine stg_loud (by rfl) ?_
    go_wp2_with fail
    refine (HCT.out (HV.out.keep hb) (HX.out.keep hb) hxm).mono ?_; rintro e w' ⟨rfl, rfl⟩
    go_wp2_with fail
    refine lq_in rfl (hb) ?_
    refine stg_seg 1 (by dsimp only [List.take]) (by dsimp only [List.drop]) (by rfl) ?_
    repeat (go_big_quiet_step (fail))
    refine wpQuiet_nil ?_
    refine stg_loud (by rfl) ?_
    go_wp2_with fail
    refine (HN.out _ hb).mono ?_; rintro e w2 ⟨rfl, hb2⟩
    replace hb := bl_trans hb hb2; clear hb2
    go_wp2_with fail
    refine lq_in rfl (hb) ?_
    refine stg_seg 3 (by dsimp only [List.take]) (by dsimp only [List.drop]) (by rfl) ?_
    repeat (go_big_quiet_step (fail))
    refine wpQuiet_nil ?_
    refine stg_nil ?_
    clear hne hx
    go_wp2_with fail
    go_ret
    exact ⟨ret_bool (by rw [HE.out]; rfl), bl_trans HB.out hb⟩

set_option maxRecDepth 100000 in
set_option maxHeartbeats 1000000 in
theorem qlost_at (va la : Option Addr) (vs ls : List Int) (vc lc : Nat) (xa : Option Addr) (xs : List Int) (xc : Nat) (w : World) (hv : GsAt w va vs) (hl : GsAt w la ls) (hvm : vs.length ≤ maxLen) (hlm : ls.length ≤ maxLen) (hx : GsAt w xa xs) (hxm : xs.length ≤ maxLen) :
    Calls Try.prog 57 #[.agg #[.slice va vs.length vc, .slice la ls.length lc], .slice xa xs.length xc] w fun e w' => e = .returned (.bool (lostB vs ls xs)) ∧ Below w.heap.size w w' := by
  have hvm' : (vs.length : Int) ≤ 9223372036854775807 := by unfold maxLen at hvm; omega
  have HX := Lib.hid (hx.keep (bl_alloc (Below.refl w.heap.size w) (.cells #[.slice va vs.length vc, .slice la ls.length lc] 31)))
  clear hx
  have hb1 := bl_alloc (Below.refl w.heap.size w) (.cells #[.slice va vs.length vc, .slice la ls.length lc] 31)
  have HB := Lib.hid hb1
  have HV := Lib.hid (hv.keep hb1)
  have HL := Lib.hid (hl.keep hb1)
  obtain ⟨w0, hw0⟩ : ∃ w0, w0 = w.alloc (.cells #[.slice va vs.length vc, .slice la ls.length lc] 31) := ⟨_, rfl⟩
  have hblk : w0.heap[w.heap.size]? = some (.cells #[.slice va vs.length vc, .slice la ls.length lc] 31) := by rw [hw0]; exact blk_new w _ rfl
  have q0 : ∀ w', Below w0.heap.size w0 w' → w'.cell? ⟨w.heap.size, 0, none⟩ = some (.slice va vs.length vc) := fun w' h => blk_cell (blk_below hblk h (blk_lt hblk)) 0
  have q1 : ∀ w', Below w0.heap.size w0 w' → w'.cell? ⟨w.heap.size, 1, none⟩ = some (.slice la ls.length lc) := fun w' h => blk_cell (blk_below hblk h (blk_lt hblk)) 1
  rw [← hw0] at HB HV HL
  have HW0 := Lib.hid hw0
  have hb := Below.refl w0.heap.size w0
  clear hv hl hb1 hblk hw0
  rw [← HW0.out] at HX
  have H := Lib.hid (fun (W : World) (h : Below w0.heap.size w0 W) => qright_at va la vs ls vc lc W (HV.out.keep h) (HL.out.keep h) hvm hlm)
  have HE := Lib.hid (show lostB vs ls xs = (rightG vs ls && decide ((vs.length : Int) - cntV vs xs < (vs.length : Int) / 2 + 1)) from rfl)
  have hcl := cntV_le vs xs
  cases hR : rightG vs ls
  · rw [hR] at H HE
    rw [HE.out]
    clear hR
    go_enter Try.func57, Try.ntmps57
    go_wp2_with fail
    rw [← HW0.out]
    refine wp_region_in (Below w0.heap.size w0) (fun i => i == 1 || i == 9 || i == 10 || i == 13) (by kernel_rfl) (by kernel_rfl) (by exact hb.drew) ?_
    intro hne hx
    replace hb := hb.drew
    refine stg_seg 1 (by dsimp only [List.take]) (by dsimp only [List.drop]) (by rfl) ?_
    repeat (go_big_quiet_step (fail))
    refine wpQuiet_nil ?_
    refine stg_loud (by rfl) ?_
    go_wp2_with fail
    refine (H.out _ hb).mono ?_; rintro e w1 ⟨rfl, hb2⟩
    replace hb := bl_trans hb hb2; clear hb2
    go_wp2_with fail
    refine lq_in rfl (hb) ?_
    refine stg_seg 7 (by dsimp only [List.take]) (by dsimp only [List.drop]) (by rfl) ?_
    repeat (go_big_quiet_step (fail))
    refine wpQuiet_nil ?_
    refine stg_loud (by rfl) ?_
    go_wp2_with fail
    refine lq_in rfl (hb) ?_
    refine stg_seg 0 (by dsimp only [List.take]) (by dsimp only [List.drop]) (by rfl) ?_
    repeat (go_big_quiet_step (fail))
    refine wpQuiet_nil ?_
    refine stg_loud (by rfl) ?_
    go_wp2_with fail
    refine lq_in rfl (hb) ?_
    refine stg_seg 2 (by dsimp only [List.take]) (by dsimp only [List.drop]) (by rfl) ?_
    repeat (go_big_quiet_step (fail))
    refine wpQuiet_nil ?_
    refine stg_loud (by rfl) ?_
    go_wp2_with fail
    refine lq_in rfl (hb) ?_
    refine stg_seg 3 (by dsimp only [List.take]) (by dsimp only [List.drop]) (by rfl) ?_
    repeat (go_big_quiet_step (fail))
    refine wpQuiet_nil ?_
    refine stg_nil ?_
    clear hne hx
    go_wp2_with fail
    go_ret
    exact ⟨rfl, bl_trans HB.out hb⟩
  · have HN := Lib.hid (fun (W : World) (h : Below w0.heap.size w0 W) => qneed_at va la vs ls vc lc W (HV.out.keep h) (HL.out.keep h) hvm hlm hR)
    rw [hR] at H HE
    clear hR
    go_enter Try.func57, Try.ntmps57
    go_wp2_with fail
    rw [← HW0.out]
    refine wp_region_in (Below w0.heap.size w0) (fun i => i == 1 || i == 9 || i == 10 || i == 13) (by kernel_rfl) (by kernel_rfl) (by exact hb.drew) ?_
    intro hne hx
    replace hb := hb.drew
    refine stg_seg 1 (by dsimp only [List.take]) (by dsimp only [List.drop]) (by rfl) ?_
    repeat (go_big_quiet_step (fail))
    refine wpQuiet_nil ?_
    refine stg_loud (by rfl) ?_
    go_wp2_with fail
    refine (H.out _ hb).mono ?_; rintro e w1 ⟨rfl, hb2⟩
    replace hb := bl_trans hb hb2; clear hb2
    go_wp2_with fail
    refine lq_in rfl (hb) ?_
    refine stg_seg 7 (by dsimp only [List.take]) (by dsimp only [List.drop]) (by rfl) ?_
    repeat (go_big_quiet_step (fail))
    refine wpQuiet_nil ?_
    refine stg_loud (by rfl) ?_
    go_wp2_with fail
    refine (among_at xa xs xc _).mono ?_; rintro e w8 ⟨b1, rfl, hbk, hb2⟩
    have HCT := Lib.hid (fun h => count_at b1 va xa vs xs vc xc w8 hbk h hvm)
    replace hb := bl_trans hb hb2
    clear hbk hb2
    go_wp2_with fail
    refine lq_in rfl (hb) ?_
    refine stg_seg 0 (by dsimp only [List.take]) (by dsimp only [List.drop]) (by rfl) ?_
    repeat (go_big_quiet_step (fail))
    refine wpQuiet_nil ?_
    refine stg_loud (by rfl) ?_
    go_wp2_with fail
    refine (HCT.out (HV.out.keep hb) (HX.out.keep hb) hxm).mono ?_; rintro e w' ⟨rfl, rfl⟩
    go_wp2_with fail
    refine lq_in rfl (hb) ?_
    have hwr : IntKind.i64.wrap ((vs.length : Int) - cntV vs xs) = (vs.length : Int) - cntV vs xs := IntWalk.i64_in _ (by omega)
    refine stg_seg 2 (by dsimp only [List.take]) (by dsimp only [List.drop]) (by rfl) ?_
    repeat (go_big_quiet_step (fail))
    refine wpQuiet_nil ?_
    refine stg_loud (by rfl) ?_
    go_wp2_with fail
    refine (HN.out _ hb).mono ?_; rintro e w2 ⟨rfl, hb2⟩
    replace hb := bl_trans hb hb2; clear hb2
    go_wp2_with fail
    refine lq_in rfl (hb) ?_
    refine stg_seg 3 (by dsimp only [List.take]) (by dsimp only [List.drop]) (by rfl) ?_
    repeat (go_big_quiet_step (fail))
    refine wpQuiet_nil ?_
    refine stg_nil ?_
    clear hne hx
    go_wp2_with fail
    go_ret
    exact ⟨ret_bool (by rw [HE.out]; rfl), bl_trans HB.out hb⟩
end Go.Proofs.Ytiamfdnllpiikaa
