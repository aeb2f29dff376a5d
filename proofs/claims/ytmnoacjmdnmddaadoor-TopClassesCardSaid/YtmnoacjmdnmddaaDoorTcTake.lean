/- flight: Take. Conditions: none. -/
import Derived.Test.YtmnoacjmdnmddaaDoorTcTakeP
namespace Go.Proofs.YtmnoacjmdnmddaaDoor
open Go.RowKit Go.Maps
set_option maxRecDepth 100000 in
set_option maxHeartbeats 2000000 in
theorem take_at {w : World} {B p : Nat} {S : FS} (h : FlAt w B p S) (i : FInv S) (hB : B ≤ w.heap.size) (hnn : S.nn ≤ 10000000) (o c m : Int) (ho : (Lit.int .i64 o).wf = true) :
    Calls Tryd.prog 8 #[.pointer (some ⟨p, 0, none⟩), .int .i64 o, .int .i64 c, .int .i64 m] w fun e w' => (∃ v, e = .returned v) ∧ Moved B p S w w' := by
  obtain ⟨D, hD, hDo⟩ := h.hm
  have HH := Lib.hid h
  have HI := Lib.hid i
  have HD0 := Lib.hid hD
  have HDO := Lib.hid hDo
  have HSM := Lib.hid (fun W (hW : Below w.heap.size w W) => Moved.same (w' := W) h i hW)
  have hkey := keyOf_int_mk Tryd.underlying3 ho
  have HS := Lib.hid (show ∀ W, Below w.heap.size w W → Calls Tryd.prog 24 #[S.lv, S.sv, .int .i64 c, .int .i64 m] W fun e w' => Below W.heap.size W w' ∧ ∃ a n' c' r, e = .returned (.tuple #[.slice a n' c', .int .i64 r]) ∧ (r = 0 → n' = S.ls.length ∧ ∃ k : Nat, (k : Int) = c ∧ k < S.ls.length ∧ 1 ≤ m ∧ m ≤ leastL S.ls S.ss c ∧ w'.ownsRow W.heap.size 3 1 (.slice a S.ls.length c') S.ls.length (intsV (moreL S.ss k m))) from fun W hW => by
    refine (sell_at i.nest S.la S.sa S.lc S.sc c m ((own_gs h.lr).keep hW) ((own_gs h.sr).keep hW)).mono ?_
    rintro e w' ⟨hb, hc⟩
    refine ⟨hb, ?_⟩
    rcases hc with ⟨k, h1, h2, h3, h4, a', c', rfl, h5⟩ | ⟨r, hr, rfl⟩
    · exact ⟨a', _, c', 0, rfl, fun _ => ⟨rfl, k, h1, h2, h3, h4, h5⟩⟩
    · exact ⟨none, 0, 0, r, rfl, fun h => absurd h hr⟩)
  have hcF : ∀ (i : Nat) (W : World), Below w.heap.size w W → W.cell? ⟨p, i, none⟩ = S.cells[i]? := fun i W hW => blk_cell (blk_below h.blk hW (blk_lt h.blk)) i
  have c1 := hcF 1
  have c2 := hcF 2
  have c3 := hcF 3
  have c4 := hcF 4
  have c5 := hcF 5
  have c6 := hcF 6
  simp only [FS.cells, List.getElem?_toArray, List.getElem?_cons_zero, List.getElem?_cons_succ] at c1 c2 c3 c4 c5 c6
  clear hcF
  have HBLK := Lib.hid h.blk
  have hb := Below.refl w.heap.size w
  obtain ⟨hb1, hhb⟩ : ∃ hb1, hb1 = S.hb := ⟨_, rfl⟩
  obtain ⟨nn, hnn'⟩ : ∃ nn, nn = S.nn := ⟨_, rfl⟩
  obtain ⟨sv, hsv⟩ : ∃ sv, sv = S.sv := ⟨_, rfl⟩
  obtain ⟨lv, hlv⟩ : ∃ lv, lv = S.lv := ⟨_, rfl⟩
  rw [← hhb, ← hnn'] at HD0
  rw [← hhb] at c5
  rw [← hsv] at c4 HS
  rw [← hlv] at c3 HS
  have HE1 := Lib.hid hhb
  have HE2 := Lib.hid hnn'
  have HE3 := Lib.hid hsv
  rw [← hnn'] at hnn
  clear hhb hsv hlv h i hD hDo c1 c2 c6 hnn'
  have e5 := c5 w hb
  by_cases hx1 : o < 1
  · have d1 : decide (o < 1) = true := decide_eq_true hx1
    obtain ⟨b, hhas⟩ : ∃ b, has D (.int .i64 o) = b := ⟨_, rfl⟩
    go_enter Tryd.func8, Tryd.ntmps8
    go_wp2_with (at_lookup; refine wpList_lookup_own_ok _ rfl _ _ 60 rfl 3 66 int_key Tryd.underlying60 ptrR (zeroPtr _) (.lit (.bool false)) [] rfl hb1 nn D rfl HD0.out _ _ rfl hkey ?_; intro v ps hv; rw [hhas])
    go_ret
    exact ⟨⟨_, rfl⟩, HSM.out _ hb⟩
  have d1 : decide (o < 1) = false := decide_eq_false hx1
  by_cases hx2 : 28629151 < o
  · have d2 : decide (28629151 < o) = true := decide_eq_true hx2
    obtain ⟨b, hhas⟩ : ∃ b, has D (.int .i64 o) = b := ⟨_, rfl⟩
    go_enter Tryd.func8, Tryd.ntmps8
    go_wp2_with (at_lookup; refine wpList_lookup_own_ok _ rfl _ _ 60 rfl 3 66 int_key Tryd.underlying60 ptrR (zeroPtr _) (.lit (.bool false)) [] rfl hb1 nn D rfl HD0.out _ _ rfl hkey ?_; intro v ps hv; rw [hhas])
    go_ret
    exact ⟨⟨_, rfl⟩, HSM.out _ hb⟩
  have d2 : decide (28629151 < o) = false := decide_eq_false hx2
  cases hhas : has D (.int .i64 o) with
  | true =>
    clear hx1 hx2
    go_enter Tryd.func8, Tryd.ntmps8
    go_wp2_with (at_lookup; refine wpList_lookup_own_ok _ rfl _ _ 60 rfl 3 66 int_key Tryd.underlying60 ptrR (zeroPtr _) (.lit (.bool false)) [] rfl hb1 nn D rfl HD0.out _ _ rfl hkey ?_; intro v ps hv; rw [hhas])
    go_ret
    exact ⟨⟨_, rfl⟩, HSM.out _ hb⟩
  | false =>
    clear hx1 hx2
    go_enter Tryd.func8, Tryd.ntmps8
    go_wp2_with (at_lookup; refine wpList_lookup_own_ok _ rfl _ _ 60 rfl 3 66 int_key Tryd.underlying60 ptrR (zeroPtr _) (.lit (.bool false)) [] rfl hb1 nn D rfl HD0.out _ _ rfl hkey ?_; intro v ps hv; rw [hhas])
    refine wp_region_in (Below w.heap.size w) (fun i => i == 10) (by kernel_rfl) (by kernel_rfl) (by exact hb.drew) ?_
    intro hne hx
    replace hb := hb.drew
    refine stg_seg 10 (by dsimp only [List.take]) (by dsimp only [List.drop]) (by rfl) ?_
    repeat (go_big_quiet_step (fail))
    refine wpQuiet_nil ?_
    refine stg_loud (by rfl) ?_
    go_wp2_with fail
    refine (HS.out _ hb).mono ?_
    rintro e w1 ⟨hb2, a, n', c', r, rfl, hr⟩
    have hbw := hb.size
    replace hb := bl_trans hb hb2
    have HR := Lib.hid hr
    clear hr hb2
    go_wp2_with fail
    refine lq_in rfl (hb) ?_
    refine stg_seg 5 (by dsimp only [List.take]) (by dsimp only [List.drop]) (by rfl) ?_
    repeat (go_big_quiet_step (fail))
    refine wpQuiet_nil ?_
    refine stg_nil ?_
    clear hne hx
    by_cases hr0 : r = 0
    case neg =>
      have e1 : (r == 0) = false := by simp [hr0]
      go_wp2_with fail
      go_ret
      exact ⟨⟨_, rfl⟩, HSM.out _ hb⟩
    subst hr0
    obtain ⟨rfl, k, hk, hk1, hm1, hm2, hrow⟩ := HR.out rfl
    have hp1 := blk_below HBLK.out hb (blk_lt HBLK.out)
    have y4 : w1.cell? ⟨p, 4, none⟩ = some sv := c4 w1 hb
    have y5 : w1.cell? ⟨p, 5, none⟩ = some (.map (some hb1)) := c5 w1 hb
    have yf : w1.frozen? ⟨p, 4, none⟩ = false := blk_frozen hp1 4
    have hszs : (w1.setCell ⟨p, 4, none⟩ (.slice a S.ls.length c')).heap.size = w1.heap.size := by simp [World.setCell]
    have hph : hb1 ≠ p := by rw [HE1.out]; exact Ne.symm HH.out.kinds.1
    have HM := Lib.hid (show ((w1.setCell ⟨p, 4, none⟩ (.slice a S.ls.length c')).alloc (.cells #[.int .i64 o, .int .i64 c, .int .i64 m, .slice none 0 0] 50)).ownsMap Tryd.prog 3 ptrR hb1 nn D from map_blk (map_keep HD0.out hb) ((Below.heap_alloc _ _ _ (by rw [hszs]; exact (map_keep HD0.out hb).lt)).trans (Below.heap_setCell _ _ _ _ hph)))
    have HFIN := Lib.hid (show ∀ w4, w4.ownsMap Tryd.prog 3 ptrR hb1 (nn + 1) (D.put (.int .i64 o) (.lit (.int .i64 w1.heap.size))) → ((w1.setCell ⟨p, 4, none⟩ (.slice a S.ls.length c')).alloc (.cells #[.int .i64 o, .int .i64 c, .int .i64 m, .slice none 0 0] 50)).grownBy w4 (some hb1) → Moved B p S w w4 from fun w4 h1 h2 => by
      subst hk
      rw [HE1.out] at h1 h2
      rw [HE2.out] at h1
      exact take_fl HH.out HI.out (x := ⟨o, k, m, [], w1.heap.size, .slice none 0 0⟩) (fun x hx e => by
        have := has_true_of_atKey (HDO.out.1 (x.own, x.blk) (List.mem_map.2 ⟨x, hx, rfl⟩))
        rw [show x.own = o from e, hhas] at this
        cases this) hk1 hm1 hm2 rfl ho rfl hb (row_base hrow hbw) hB rfl HDO.out HD0.out.isMap h1 h2)
    clear hhas hv hk hrow hp1 hszs hph HS HSM HR c3 c4 c5 e5 d1 d2 hm1 hm2
    go_wp2_with (at_mapUpdate; refine wpList_mapUpdate_own _ rfl _ _ _ 60 rfl 3 66 int_key Tryd.underlying60 ptrR hb1 nn D rfl HM.out (by unfold maxLen; omega) _ _ (.int .i64 o) rfl rfl hkey (.lit (.int .i64 w1.heap.size)) [] rfl ?_; intro w4 hown4 hgrow4)
    go_ret
    exact ⟨⟨_, rfl⟩, HFIN.out _ hown4 hgrow4⟩
end Go.Proofs.YtmnoacjmdnmddaaDoor
