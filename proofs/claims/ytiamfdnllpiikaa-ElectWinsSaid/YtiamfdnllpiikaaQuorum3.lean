/- Who are most of a group: the reference's. Conditions: none. -/
import Derived.Test.YtiamfdnllpiikaaQuorum2
namespace Go.Proofs.Ytiamfdnllpiikaa
open Go.RowKit

theorem cnt_zero {vs ls : List Int} (h : ∀ j, j < vs.length → ¬ vs.getD j 0 ∈ ls) : cntV vs ls = 0 := by
  unfold cntV
  rw [List.length_eq_zero_iff, List.filter_eq_nil_iff]
  intro v hv
  obtain ⟨j, hj, e⟩ := List.getElem_of_mem hv
  have := h j hj
  rw [List.getD_eq_getElem?_getD, List.getElem?_eq_getElem hj] at this
  simpa [← e] using this
theorem cnt_pos {vs ls : List Int} {k : Nat} (hk : k < vs.length) (h : vs.getD k 0 ∈ ls) : cntV vs ls ≠ 0 := by
  unfold cntV
  intro h0
  rw [List.length_eq_zero_iff, List.filter_eq_nil_iff] at h0
  have := h0 _ (getD_mem hk)
  simp at this
  exact this (by simpa using h)

set_option maxRecDepth 100000 in
set_option maxHeartbeats 1000000 in
theorem rright_at (va la : Option Addr) (vs ls : List Int) (vc lc : Nat) (w : World) (hv : GsAt w va vs) (hl : GsAt w la ls) (hvm : vs.length ≤ maxLen) (hlm : ls.length ≤ maxLen) :
    Calls Try.prog 21 #[.agg #[.slice va vs.length vc, .slice la ls.length lc]] w fun e w' => e = .returned (.bool (rightG vs ls)) ∧ Below w.heap.size w w' := by
  have hvm' : (vs.length : Int) ≤ 9223372036854775807 := by unfold maxLen at hvm; omega
  have hb1 := bl_alloc (Below.refl w.heap.size w) (.cells #[.slice va vs.length vc, .slice la ls.length lc] 31)
  have HB := Lib.hid hb1
  have HV := Lib.hid (hv.keep hb1)
  have HL := Lib.hid (hl.keep hb1)
  obtain ⟨w0, hw0⟩ : ∃ w0, w0 = w.alloc (.cells #[.slice va vs.length vc, .slice la ls.length lc] 31) := ⟨_, rfl⟩
  have hblk : w0.heap[w.heap.size]? = some (.cells #[.slice va vs.length vc, .slice la ls.length lc] 31) := by rw [hw0]; exact blk_new w _ rfl
  have q0 : ∀ w', Below w0.heap.size w0 w' → w'.cell? ⟨w.heap.size, 0, none⟩ = some (.slice va vs.length vc) := fun w' h => blk_cell (blk_below hblk h (blk_lt hblk)) 0
  have q1 : ∀ w', Below w0.heap.size w0 w' → w'.cell? ⟨w.heap.size, 1, none⟩ = some (.slice la ls.length lc) := fun w' h => blk_cell (blk_below hblk h (blk_lt hblk)) 1
  rw [← hw0] at HB HV HL
  have HW0 := Lib.hid hw0
  have hb := Below.refl w0.heap.size w0
  clear hv hl hb1 hblk hw0
  have HR1 := Lib.hid (fun (W : World) (h : Below w0.heap.size w0 W) => rrises_at va vs vc W (HV.out.keep h) hvm)
  have HR2 := Lib.hid (fun (W : World) (h : Below w0.heap.size w0 W) => rrises_at la ls lc W (HL.out.keep h) hlm)
  have HRE := Lib.hid (show rightG vs ls = (risesB 0 vs && risesB 0 ls && decide (0 < vs.length) && decide (cntV vs ls = 0)) from rfl)
  cases h1 : risesB 0 vs
  · rw [h1] at HR1 HRE
    rw [HRE.out]
    obtain ⟨r2, hr2⟩ : ∃ r2, r2 = risesB 0 ls := ⟨_, rfl⟩
    rw [← hr2] at HR2
    clear h1 hr2
    go_enter Try.func21, Try.ntmps21
    go_wp2_with fail
    rw [← HW0.out]
    refine (HR1.out _ hb).mono ?_; rintro e w1 ⟨rfl, hb2⟩
    replace hb := bl_trans hb hb2; clear hb2
    go_wp2_with fail
    refine (HR2.out _ hb).mono ?_; rintro e w2 ⟨rfl, hb2⟩
    replace hb := bl_trans hb hb2; clear hb2
    go_wp2_with fail
    go_ret
    exact ⟨rfl, bl_trans HB.out hb⟩
  rw [h1] at HR1 HRE
  clear h1
  cases h2 : risesB 0 ls
  · rw [h2] at HR2 HRE
    rw [HRE.out]
    clear h2
    go_enter Try.func21, Try.ntmps21
    go_wp2_with fail
    rw [← HW0.out]
    refine (HR1.out _ hb).mono ?_; rintro e w1 ⟨rfl, hb2⟩
    replace hb := bl_trans hb hb2; clear hb2
    go_wp2_with fail
    refine (HR2.out _ hb).mono ?_; rintro e w2 ⟨rfl, hb2⟩
    replace hb := bl_trans hb hb2; clear hb2
    go_wp2_with fail
    go_ret
    exact ⟨rfl, bl_trans HB.out hb⟩
  rw [h2] at HR2 HRE
  clear h2
  by_cases h3 : 0 < vs.length
  · rw [decide_eq_true h3] at HRE
    have e3 : ((vs.length : Int) == 0) = false := by rw [beq_eq_false_iff_ne]; omega
    have e4 : (vs.length == 0) = false := by rw [beq_eq_false_iff_ne]; omega
    have e5 : ¬ vs.length = 0 := by omega
    go_enter Try.func21, Try.ntmps21
    go_wp2_with fail
    rw [← HW0.out]
    refine (HR1.out _ hb).mono ?_; rintro e w1 ⟨rfl, hb2⟩
    replace hb := bl_trans hb hb2; clear hb2
    go_wp2_with fail
    refine (HR2.out _ hb).mono ?_; rintro e w2 ⟨rfl, hb2⟩
    replace hb := bl_trans hb hb2; clear hb2
    go_wp2_with fail
    clear e3 e4 e5
    go_loopg [5] vs.length (fun g i wr => Below w0.heap.size w0 wr ∧ ∃ k : Nat, k ≤ vs.length ∧ g = vs.length - k ∧ i = .int .i64 k ∧ ∀ j, j < k → ¬ vs.getD j 0 ∈ ls)
    case atStart => exact ⟨hb, 0, by omega, rfl, rfl, fun j hj => by omega⟩
    case round =>
      clear hb
      obtain ⟨hb, k, k0, hgk, rfl, hsf⟩ := hrel
      have HGK := Lib.hid hgk
      have HSF := Lib.hid hsf
      clear hgk hsf
      by_cases hk : k < vs.length
      · obtain ⟨b1, o1, ha1, c1⟩ := HV.out k hk
        subst ha1
        have q9 : ∀ w', Below w0.heap.size w0 w' → w'.cell? ⟨b1, o1 + k, none⟩ = some (.int .i64 (vs.getD k 0)) := fun w' h => cell_keep h c1
        have hk0 : (0 : Int) ≤ (k : Int) := by omega
        have hk1 : (k : Int) < vs.length := by omega
        have HH := Lib.hid (fun (W : World) (h : Below w0.heap.size w0 W) => has_at la ls lc (vs.getD k 0) W (HL.out.keep h) hlm)
        have HCP := Lib.hid (fun h => cnt_pos (ls := ls) hk h)
        obtain ⟨x, hx⟩ : ∃ x, x = vs.getD k 0 := ⟨_, rfl⟩
        rw [← hx] at q9 HH HCP
        have HX := Lib.hid hx
        clear hx c1
        by_cases hin : x ∈ ls
        · rw [decide_eq_true hin] at HH
          have HN := Lib.hid (HCP.out hin)
          clear hin
          go_wp2_with fail
          refine wp_region_in (Below w0.heap.size w0) (fun i => i == 7) (by kernel_rfl) (by kernel_rfl) (by exact hb.drew) ?_
          intro hne hx
          replace hb := hb.drew
          refine stg_seg 7 (by dsimp only [List.take]) (by dsimp only [List.drop]) (by rfl) ?_
          repeat (go_big_quiet_step (fail))
          refine wpQuiet_nil ?_
          refine stg_loud (by rfl) ?_
          go_wp2_with fail
          refine (HH.out _ hb).mono ?_; rintro e w' ⟨rfl, rfl⟩
          go_wp2_with fail
          refine lq_in rfl (hb) ?_
          refine stg_seg 1 (by dsimp only [List.take]) (by dsimp only [List.drop]) (by rfl) ?_
          repeat (go_big_quiet_step (fail))
          refine wpQuiet_nil ?_
          refine stg_nil ?_
          clear hne hx
          go_wp2_with fail
          go_ret
          exact ⟨ret_bool (by rw [HRE.out, decide_eq_false HN.out]; rfl), bl_trans HB.out hb⟩
        · rw [decide_eq_false hin] at HH
          have HN := Lib.hid hin
          clear hin
          go_wp2_with fail
          refine wp_region_in (Below w0.heap.size w0) (fun i => i == 7) (by kernel_rfl) (by kernel_rfl) (by exact hb.drew) ?_
          intro hne hx
          replace hb := hb.drew
          refine stg_seg 7 (by dsimp only [List.take]) (by dsimp only [List.drop]) (by rfl) ?_
          repeat (go_big_quiet_step (fail))
          refine wpQuiet_nil ?_
          refine stg_loud (by rfl) ?_
          go_wp2_with fail
          refine (HH.out _ hb).mono ?_; rintro e w' ⟨rfl, rfl⟩
          go_wp2_with fail
          refine lq_in rfl (hb) ?_
          refine stg_seg 1 (by dsimp only [List.take]) (by dsimp only [List.drop]) (by rfl) ?_
          repeat (go_big_quiet_step (fail))
          refine wpQuiet_nil ?_
          refine stg_nil ?_
          clear hne hx
          go_wp2_with fail
          go_roundg (vs.length - (k + 1))
          case measure => have := HGK.out; omega
          case rel =>
            refine ⟨hb, k + 1, by omega, rfl, by go_num, fun j hj => ?_⟩
            by_cases hjk : j < k
            · exact HSF.out j hjk
            · obtain rfl : j = k := by omega
              rw [← HX.out]
              exact HN.out
      · obtain rfl : k = vs.length := by omega
        go_wp2_with fail
        go_ret
        exact ⟨ret_bool (by rw [HRE.out, decide_eq_true (cnt_zero HSF.out)]; rfl), bl_trans HB.out hb⟩
  · rw [decide_eq_false h3] at HRE
    rw [HRE.out]
    have e3 : ((vs.length : Int) == 0) = true := by rw [beq_iff_eq]; omega
    have e4 : (vs.length == 0) = true := by rw [beq_iff_eq]; omega
    go_enter Try.func21, Try.ntmps21
    go_wp2_with fail
    rw [← HW0.out]
    refine (HR1.out _ hb).mono ?_; rintro e w1 ⟨rfl, hb2⟩
    replace hb := bl_trans hb hb2; clear hb2
    go_wp2_with fail
    refine (HR2.out _ hb).mono ?_; rintro e w2 ⟨rfl, hb2⟩
    replace hb := bl_trans hb hb2; clear hb2
    go_wp2_with fail
    go_ret
    exact ⟨rfl, bl_trans HB.out hb⟩

set_option maxRecDepth 100000 in
theorem rcount_at (va la : Option Addr) (vs ls : List Int) (vc lc : Nat) (xa : Option Addr) (xs : List Int) (xc : Nat) (w : World) (hv : GsAt w va vs) (hl : GsAt w la ls) (hvm : vs.length ≤ maxLen) (hlm : ls.length ≤ maxLen) (hx : GsAt w xa xs) (hxm : xs.length ≤ maxLen) :
    Calls Try.prog 58 #[.agg #[.slice va vs.length vc, .slice la ls.length lc], .slice xa xs.length xc] w fun e w' => e = .returned (.int .i64 (cntV vs xs)) ∧ Below w.heap.size w w' := by
  have hvm' : (vs.length : Int) ≤ 9223372036854775807 := by unfold maxLen at hvm; omega
  have HX := Lib.hid (hx.keep (bl_alloc (Below.refl w.heap.size w) (.cells #[.slice va vs.length vc, .slice la ls.length lc] 31)))
  clear hx
  have hb1 := bl_alloc (Below.refl w.heap.size w) (.cells #[.slice va vs.length vc, .slice la ls.length lc] 31)
  have HB := Lib.hid hb1
  have HV := Lib.hid (hv.keep hb1)
  have HL := Lib.hid (hl.keep hb1)
  obtain ⟨w0, hw0⟩ : ∃ w0, w0 = w.alloc (.cells #[.slice va vs.length vc, .slice la ls.length lc] 31) := ⟨_, rfl⟩
  have hblk : w0.heap[w.heap.size]? = some (.cells #[.slice va vs.length vc, .slice la ls.length lc] 31) := by rw [hw0]; exact blk_new w _ rfl
  have q0 : ∀ w', Below w0.heap.size w0 w' → w'.cell? ⟨w.heap.size, 0, none⟩ = some (.slice va vs.length vc) := fun w' h => blk_cell (blk_below hblk h (blk_lt hblk)) 0
  have q1 : ∀ w', Below w0.heap.size w0 w' → w'.cell? ⟨w.heap.size, 1, none⟩ = some (.slice la ls.length lc) := fun w' h => blk_cell (blk_below hblk h (blk_lt hblk)) 1
  rw [← hw0] at HB HV HL
  have HW0 := Lib.hid hw0
  have hb := Below.refl w0.heap.size w0
  clear hv hl hb1 hblk hw0
  rw [← HW0.out] at HX
  go_enter Try.func58, Try.ntmps58
  go_wp2_with fail
  rw [← HW0.out]
  go_loopg [5, 6] vs.length (fun g n i wr => w0 = wr ∧ ∃ k : Nat, k ≤ vs.length ∧ g = vs.length - k ∧ i = .int .i64 k ∧ n = .int .i64 (cntV (vs.take k) xs))
  case atStart => exact ⟨rfl, 0, by omega, rfl, rfl, rfl⟩
  case round =>
    obtain ⟨rfl, k, k0, hgk, rfl, rfl⟩ := hrel
    have HGK := Lib.hid hgk
    clear hgk
    have hcl := cntV_le (vs.take k) xs
    have hct : (vs.take k).length = k := by simp; omega
    rw [hct] at hcl
    clear hct
    by_cases hk : k < vs.length
    · obtain ⟨b1, o1, h1, c1⟩ := HV.out k hk
      have HCT := Lib.hid (cntV_take vs xs hk)
      have HH := Lib.hid (has_at xa xs xc (vs.getD k 0) w0 HX.out hxm)
      obtain ⟨x, hxe⟩ : ∃ x, x = vs.getD k 0 := ⟨_, rfl⟩
      rw [← hxe] at c1 HCT HH
      obtain ⟨m, hm⟩ : ∃ m, m = cntV (vs.take k) xs := ⟨_, rfl⟩
      rw [← hm] at HCT hcl ⊢
      clear hxe hm
      subst h1
      by_cases hx : x ∈ xs
      · rw [decide_eq_true hx] at HH
        rw [if_pos hx] at HCT
        clear hx
        go_wp2_with fail
        refine HH.out.mono ?_; rintro e w' ⟨rfl, rfl⟩
        go_wp2_with fail
        go_roundg (vs.length - (k + 1))
        case measure => have := HGK.out; omega
        case rel => exact ⟨rfl, k + 1, by omega, rfl, by go_num, by rw [HCT.out]; go_num⟩
      · rw [decide_eq_false hx] at HH
        rw [if_neg hx] at HCT
        clear hx
        go_wp2_with fail
        refine HH.out.mono ?_; rintro e w' ⟨rfl, rfl⟩
        go_wp2_with fail
        go_roundg (vs.length - (k + 1))
        case measure => have := HGK.out; omega
        case rel => exact ⟨rfl, k + 1, by omega, rfl, by go_num, by rw [HCT.out]; rfl⟩
    · obtain rfl : k = vs.length := by omega
      go_wp2_with fail
      go_ret
      exact ⟨ret_int (by rw [List.take_length]), HB.out⟩

theorem rneed_at (va la : Option Addr) (vs ls : List Int) (vc lc : Nat) (w : World) (hv : GsAt w va vs) (hl : GsAt w la ls) (hvm : vs.length ≤ maxLen) (hlm : ls.length ≤ maxLen) (hR : rightG vs ls = true) :
    Calls Try.prog 59 #[.agg #[.slice va vs.length vc, .slice la ls.length lc]] w fun e w' => e = .returned (.int .i64 ((vs.length : Int) / 2 + 1)) ∧ Below w.heap.size w w' := by
  have hvm' : (vs.length : Int) ≤ 9223372036854775807 := by unfold maxLen at hvm; omega
  have hb1 := bl_alloc (Below.refl w.heap.size w) (.cells #[.slice va vs.length vc, .slice la ls.length lc] 31)
  have HB := Lib.hid hb1
  have HV := Lib.hid (hv.keep hb1)
  have HL := Lib.hid (hl.keep hb1)
  obtain ⟨w0, hw0⟩ : ∃ w0, w0 = w.alloc (.cells #[.slice va vs.length vc, .slice la ls.length lc] 31) := ⟨_, rfl⟩
  have hblk : w0.heap[w.heap.size]? = some (.cells #[.slice va vs.length vc, .slice la ls.length lc] 31) := by rw [hw0]; exact blk_new w _ rfl
  have q0 : ∀ w', Below w0.heap.size w0 w' → w'.cell? ⟨w.heap.size, 0, none⟩ = some (.slice va vs.length vc) := fun w' h => blk_cell (blk_below hblk h (blk_lt hblk)) 0
  have q1 : ∀ w', Below w0.heap.size w0 w' → w'.cell? ⟨w.heap.size, 1, none⟩ = some (.slice la ls.length lc) := fun w' h => blk_cell (blk_below hblk h (blk_lt hblk)) 1
  rw [← hw0] at HB HV HL
  have HW0 := Lib.hid hw0
  have hb := Below.refl w0.heap.size w0
  clear hv hl hb1 hblk hw0
  have H := Lib.hid (rright_at va la vs ls vc lc w0 HV.out HL.out hvm hlm)
  rw [hR] at H
  clear hR
  go_enter Try.func59, Try.ntmps59
  go_wp2_with fail
  rw [← HW0.out]
  refine (H.out).mono ?_; rintro e w1 ⟨rfl, hb2⟩
  replace hb := bl_trans hb hb2; clear hb2
  go_wp2_with fail
  go_ret
  exact ⟨rfl, bl_trans HB.out hb⟩

set_option maxRecDepth 100000 in
set_option maxHeartbeats 1000000 in
theorem rwins_at (va la : Option Addr) (vs ls : List Int) (vc lc : Nat) (xa : Option Addr) (xs : List Int) (xc : Nat) (w : World) (hv : GsAt w va vs) (hl : GsAt w la ls) (hvm : vs.length ≤ maxLen) (hlm : ls.length ≤ maxLen) (hx : GsAt w xa xs) (hxm : xs.length ≤ maxLen) :
    Calls Try.prog 44 #[.agg #[.slice va vs.length vc, .slice la ls.length lc], .slice xa xs.length xc] w fun e w' => e = .returned (.bool (winsB vs ls xs)) ∧ Below w.heap.size w w' := by
  have hvm' : (vs.length : Int) ≤ 9223372036854775807 := by unfold maxLen at hvm; omega
  have HX := Lib.hid (hx.keep (bl_alloc (Below.refl w.heap.size w) (.cells #[.slice va vs.length vc, .slice la ls.length lc] 31)))
  clear hx
  have hb1 := bl_alloc (Below.refl w.heap.size w) (.cells #[.slice va vs.length vc, .slice la ls.length lc] 31)
  have HB := Lib.hid hb1
  have HV := Lib.hid (hv.keep hb1)
  have HL := Lib.hid (hl.keep hb1)
  obtain ⟨w0, hw0⟩ : ∃ w0, w0 = w.alloc (.cells #[.slice va vs.length vc, .slice la ls.length lc] 31) := ⟨_, rfl⟩
  have hblk : w0.heap[w.heap.size]? = some (.cells #[.slice va vs.length vc, .slice la ls.length lc] 31) := by rw [hw0]; exact blk_new w _ rfl
  have q0 : ∀ w', Below w0.heap.size w0 w' → w'.cell? ⟨w.heap.size, 0, none⟩ = some (.slice va vs.length vc) := fun w' h => blk_cell (blk_below hblk h (blk_lt hblk)) 0
  have q1 : ∀ w', Below w0.heap.size w0 w' → w'.cell? ⟨w.heap.size, 1, none⟩ = some (.slice la ls.length lc) := fun w' h => blk_cell (blk_below hblk h (blk_lt hblk)) 1
  rw [← hw0] at HB HV HL
  have HW0 := Lib.hid hw0
  have hb := Below.refl w0.heap.size w0
  clear hv hl hb1 hblk hw0
  rw [← HW0.out] at HX
  have H := Lib.hid (fun (W : World) (h : Below w0.heap.size w0 W) => rright_at va la vs ls vc lc W (HV.out.keep h) (HL.out.keep h) hvm hlm)
  have HE := Lib.hid (show winsB vs ls xs = (rightG vs ls && decide ((vs.length : Int) / 2 + 1 ≤ cntV vs xs)) from rfl)
  cases hR : rightG vs ls
  · rw [hR] at H HE
    rw [HE.out]
    clear hR
    go_enter Try.func44, Try.ntmps44
    go_wp2_with fail
    rw [← HW0.out]
    refine (H.out _ hb).mono ?_; rintro e w1 ⟨rfl, hb2⟩
    replace hb := bl_trans hb hb2; clear hb2
    go_wp2_with fail
    refine wp_region_in (Below w0.heap.size w0) (fun i => i == 4 || i == 6) (by kernel_rfl) (by kernel_rfl) (by exact hb.drew) ?_
    intro hne hx
    replace hb := hb.drew
    refine stg_seg 4 (by dsimp only [List.take]) (by dsimp only [List.drop]) (by rfl) ?_
    repeat (go_big_quiet_step (fail))
    refine wpQuiet_nil ?_
    refine stg_loud (by rfl) ?_
    go_wp2_with fail
    refine lq_in rfl (hb) ?_
    refine stg_seg 1 (by dsimp only [List.take]) (by dsimp only [List.drop]) (by rfl) ?_
    repeat (go_big_quiet_step (fail))
    refine wpQuiet_nil ?_
    refine stg_loud (by rfl) ?_
    go_wp2_with fail
    refine lq_in rfl (hb) ?_
    refine stg_seg 3 (by dsimp only [List.take]) (by dsimp only [List.drop]) (by rfl) ?_
    repeat (go_big_quiet_step (fail))
    refine wpQuiet_nil ?_
    refine stg_nil ?_
    clear hne hx
    go_wp2_with fail
    go_ret
    exact ⟨rfl, bl_trans HB.out hb⟩
  · have HN := Lib.hid (fun (W : World) (h : Below w0.heap.size w0 W) => rneed_at va la vs ls vc lc W (HV.out.keep h) (HL.out.keep h) hvm hlm hR)
    have HC := Lib.hid (fun (W : World) (h : Below w0.heap.size w0 W) => rcount_at va la vs ls vc lc xa xs xc W (HV.out.keep h) (HL.out.keep h) hvm hlm (HX.out.keep h) hxm)
    rw [hR] at H HE
    clear hR
    go_enter Try.func44, Try.ntmps44
    go_wp2_with fail
    rw [← HW0.out]
    refine (H.out _ hb).mono ?_; rintro e w1 ⟨rfl, hb2⟩
    replace hb := bl_trans hb hb2; clear hb2
    go_wp2_with fail
    refine wp_region_in (Below w0.heap.size w0) (fun i => i == 4 || i == 6) (by kernel_rfl) (by kernel_rfl) (by exact hb.drew) ?_
    intro hne hx
    replace hb := hb.drew
    refine stg_seg 4 (by dsimp only [List.take]) (by dsimp only [List.drop]) (by rfl) ?_
    repeat (go_big_quiet_step (fail))
    refine wpQuiet_nil ?_
    refine stg_loud (by rfl) ?_
    go_wp2_with fail
    refine (HC.out _ hb).mono ?_; rintro e w2 ⟨rfl, hb2⟩
    replace hb := bl_trans hb hb2; clear hb2
    go_wp2_with fail
    refine lq_in rfl (hb) ?_
    refine stg_seg 1 (by dsimp only [List.take]) (by dsimp only [List.drop]) (by rfl) ?_
    repeat (go_big_quiet_step (fail))
    refine wpQuiet_nil ?_
    refine stg_loud (by rfl) ?_
    go_wp2_with fail
    refine (HN.out _ hb).mono ?_; rintro e w3 ⟨rfl, hb2⟩
    replace hb := bl_trans hb hb2; clear hb2
    go_wp2_with fail
    refine lq_in rfl (hb) ?_
    refine stg_seg 3 (by dsimp only [List.take]) (by dsimp only [List.drop]) (by rfl) ?_
    repeat (go_big_quiet_step (fail))
    refine wpQuiet_nil ?_
    refine stg_nil ?_
    clear hne hx
    go_wp2_with fail
    go_ret
    exact ⟨ret_bool (by rw [HE.out]; rfl), bl_trans HB.out hb⟩

set_option maxRecDepth 100000 in
set_option maxHeartbeats 1000000 in
theorem rlost_at (va la : Option Addr) (vs ls : List Int) (vc lc : Nat) (xa : Option Addr) (xs : List Int) (xc : Nat) (w : World) (hv : GsAt w va vs) (hl : GsAt w la ls) (hvm : vs.length ≤ maxLen) (hlm : ls.length ≤ maxLen) (hx : GsAt w xa xs) (hxm : xs.length ≤ maxLen) :
    Calls Try.prog 50 #[.agg #[.slice va vs.length vc, .slice la ls.length lc], .slice xa xs.length xc] w fun e w' => e = .returned (.bool (lostB vs ls xs)) ∧ Below w.heap.size w w' := by
  have hvm' : (vs.length : Int) ≤ 9223372036854775807 := by unfold maxLen at hvm; omega
  have HX := Lib.hid (hx.keep (bl_alloc (Below.refl w.heap.size w) (.cells #[.slice va vs.length vc, .slice la ls.length lc] 31)))
  clear hx
  have hb1 := bl_alloc (Below.refl w.heap.size w) (.cells #[.slice va vs.length vc, .slice la ls.length lc] 31)
  have HB := Lib.hid hb1
  have HV := Lib.hid (hv.keep hb1)
  have HL := Lib.hid (hl.keep hb1)
  obtain ⟨w0, hw0⟩ : ∃ w0, w0 = w.alloc (.cells #[.slice va vs.length vc, .slice la ls.length lc] 31) := ⟨_, rfl⟩
  have hblk : w0.heap[w.heap.size]? = some (.cells #[.slice va vs.length vc, .slice la ls.length lc] 31) := by rw [hw0]; exact blk_new w _ rfl
  have q0 : ∀ w', Below w0.heap.size w0 w' → w'.cell? ⟨w.heap.size, 0, none⟩ = some (.slice va vs.length vc) := fun w' h => blk_cell (blk_below hblk h (blk_lt hblk)) 0
  have q1 : ∀ w', Below w0.heap.size w0 w' → w'.cell? ⟨w.heap.size, 1, none⟩ = some (.slice la ls.length lc) := fun w' h => blk_cell (blk_below hblk h (blk_lt hblk)) 1
  rw [← hw0] at HB HV HL
  have HW0 := Lib.hid hw0
  have hb := Below.refl w0.heap.size w0
  clear hv hl hb1 hblk hw0
  rw [← HW0.out] at HX
  have H := Lib.hid (fun (W : World) (h : Below w0.heap.size w0 W) => rright_at va la vs ls vc lc W (HV.out.keep h) (HL.out.keep h) hvm hlm)
  have HE := Lib.hid (show lostB vs ls xs = (rightG vs ls && decide ((vs.length : Int) - cntV vs xs < (vs.length : Int) / 2 + 1)) from rfl)
  have hcl := cntV_le vs xs
  cases hR : rightG vs ls
  · rw [hR] at H HE
    rw [HE.out]
    clear hR
    go_enter Try.func50, Try.ntmps50
    go_wp2_with fail
    rw [← HW0.out]
    refine (H.out _ hb).mono ?_; rintro e w1 ⟨rfl, hb2⟩
    replace hb := bl_trans hb hb2; clear hb2
    go_wp2_with fail
    refine wp_region_in (Below w0.heap.size w0) (fun i => i == 7 || i == 10) (by kernel_rfl) (by kernel_rfl) (by exact hb.drew) ?_
    intro hne hx
    replace hb := hb.drew
    refine stg_seg 7 (by dsimp only [List.take]) (by dsimp only [List.drop]) (by rfl) ?_
    repeat (go_big_quiet_step (fail))
    refine wpQuiet_nil ?_
    refine stg_loud (by rfl) ?_
    go_wp2_with fail
    refine lq_in rfl (hb) ?_
    refine stg_seg 2 (by dsimp only [List.take]) (by dsimp only [List.drop]) (by rfl) ?_
    repeat (go_big_quiet_step (fail))
    refine wpQuiet_nil ?_
    refine stg_loud (by rfl) ?_
    go_wp2_with fail
    refine lq_in rfl (hb) ?_
    refine stg_seg 3 (by dsimp only [List.take]) (by dsimp only [List.drop]) (by rfl) ?_
    repeat (go_big_quiet_step (fail))
    refine wpQuiet_nil ?_
    refine stg_nil ?_
    clear hne hx
    go_wp2_with fail
    go_ret
    exact ⟨rfl, bl_trans HB.out hb⟩
  · have HN := Lib.hid (fun (W : World) (h : Below w0.heap.size w0 W) => rneed_at va la vs ls vc lc W (HV.out.keep h) (HL.out.keep h) hvm hlm hR)
    have HC := Lib.hid (fun (W : World) (h : Below w0.heap.size w0 W) => rcount_at va la vs ls vc lc xa xs xc W (HV.out.keep h) (HL.out.keep h) hvm hlm (HX.out.keep h) hxm)
    rw [hR] at H HE
    clear hR
    go_enter Try.func50, Try.ntmps50
    go_wp2_with fail
    rw [← HW0.out]
    refine (H.out _ hb).mono ?_; rintro e w1 ⟨rfl, hb2⟩
    replace hb := bl_trans hb hb2; clear hb2
    go_wp2_with fail
    have hwr : IntKind.i64.wrap ((vs.length : Int) - cntV vs xs) = (vs.length : Int) - cntV vs xs := IntWalk.i64_in _ (by omega)
    refine wp_region_in (Below w0.heap.size w0) (fun i => i == 7 || i == 10) (by kernel_rfl) (by kernel_rfl) (by exact hb.drew) ?_
    intro hne hx
    replace hb := hb.drew
    refine stg_seg 7 (by dsimp only [List.take]) (by dsimp only [List.drop]) (by rfl) ?_
    repeat (go_big_quiet_step (fail))
    refine wpQuiet_nil ?_
    refine stg_loud (by rfl) ?_
    go_wp2_with fail
    refine (HC.out _ hb).mono ?_; rintro e w2 ⟨rfl, hb2⟩
    replace hb := bl_trans hb hb2; clear hb2
    go_wp2_with fail
    refine lq_in rfl (hb) ?_
    refine stg_seg 2 (by dsimp only [List.take]) (by dsimp only [List.drop]) (by rfl) ?_
    repeat (go_big_quiet_step (fail))
    refine wpQuiet_nil ?_
    refine stg_loud (by rfl) ?_
    go_wp2_with fail
    refine (HN.out _ hb).mono ?_; rintro e w3 ⟨rfl, hb2⟩
    replace hb := bl_trans hb hb2; clear hb2
    go_wp2_with fail
    refine lq_in rfl (hb) ?_
    refine stg_seg 3 (by dsimp only [List.take]) (by dsimp only [List.drop]) (by rfl) ?_
    repeat (go_big_quiet_step (fail))
    refine wpQuiet_nil ?_
    refine stg_nil ?_
    clear hne hx
    go_wp2_with fail
    go_ret
    exact ⟨ret_bool (by rw [HE.out]; rfl), bl_trans HB.out hb⟩
end Go.Proofs.Ytiamfdnllpiikaa
