/- The reference's Best. Conditions: none. -/
import Derived.Test.YtndagalglenbnaaDoorSeatBestP
namespace Go.Proofs.YtndagalglenbnaaDoor
open Go.RowKit

/-- What a call that tells a list of ints and an error's number comes to. -/
def Tells2 (w : World) (p : List Int × Int) (e : Ending) (w' : World) : Prop := ∃ ad cap, e = .returned (.tuple #[.slice ad p.1.length cap, .int .i64 p.2]) ∧ GsAt w' ad p.1 ∧ Below w.heap.size w w'
theorem gs_own2 {w : World} {base : Nat} {v : Value} {n : Nat} {xs : List Int} (h : w.ownsRow base 3 1 v n (xs.map (.int .i64))) : ∃ ad cap, v = .slice ad xs.length cap ∧ GsAt w ad xs ∧ xs.length ≤ cap ∧ cap ≤ maxLen := by
  have hl : xs.length = n := by have := h.1; simpa using this
  rcases h.2 with ⟨rfl, h0⟩ | ⟨g, cap, cur, rfl, _, _, h1, h2, _⟩
  · obtain rfl : n = 0 := h0
    have : xs = [] := by simpa using hl
    subst this
    exact ⟨none, 0, rfl, fun j hj => by simp at hj, by simp, by simp⟩
  · obtain ⟨ad, cap', hv, hg, _⟩ := gs_own h
    have hc : cap' = cap := by injection hv with _ _ hc; exact hc.symm
    subst hc
    exact ⟨ad, cap', hv, hg, by omega, by omega⟩
theorem ret_sl {a : Option Addr} {n n' c : Nat} {x : Int} (h : n = n') : Ending.returned (.tuple #[.slice a n c, .int .i64 x]) = .returned (.tuple #[.slice a n' c, .int .i64 x]) := by rw [h]
theorem tells2_nil {w w' : World} {c : Int} {p : List Int × Int} (hp : p = ([], c)) (hb : Below w.heap.size w w') : Tells2 w p (.returned (.tuple #[.slice none 0 0, .int .i64 c])) w' := by
  subst hp
  exact ⟨none, 0, rfl, fun j hj => by simp at hj, hb⟩

set_option maxRecDepth 100000 in
set_option maxHeartbeats 4000000 in
theorem rbest_any (rows : Int) (a : Option Addr) (gs : List Int) (cap : Nat) (ta : Option Addr) (tk : List Int) (tc : Nat) (m : Int) (w : World) (hg : GsAt w a gs) (hlm : gs.length ≤ maxLen) (ht : GsAt w ta tk) (htm : tk.length ≤ maxLen) :
    Calls Tryd.prog 23 #[.agg #[.int .i64 rows, .slice a gs.length cap], .slice ta tk.length tc, .int .i64 m] w (Tells2 w (bestL rows gs tk m)) := by
  have htm' : (tk.length : Int) ≤ 9223372036854775807 := by unfold maxLen at htm; omega
  have HT := Lib.hid (ht.keep (bl_alloc (Below.refl w.heap.size w) (.cells #[.int .i64 rows, .slice a gs.length cap] 24)))
  clear ht
  have hb1 := bl_alloc (Below.refl w.heap.size w) (.cells #[.int .i64 rows, .slice a gs.length cap] 24)
  have HB := Lib.hid hb1
  have HG := Lib.hid (hg.keep hb1)
  obtain ⟨w0, hw0⟩ : ∃ w0, w0 = w.alloc (.cells #[.int .i64 rows, .slice a gs.length cap] 24) := ⟨_, rfl⟩
  have hblk : w0.heap[w.heap.size]? = some (.cells #[.int .i64 rows, .slice a gs.length cap] 24) := by rw [hw0]; exact blk_new w _ rfl
  have q0 : ∀ w', Below w0.heap.size w0 w' → w'.cell? ⟨w.heap.size, 0, none⟩ = some (.int .i64 rows) := fun w' h => blk_cell (blk_below hblk h (blk_lt hblk)) 0
  have q1 : ∀ w', Below w0.heap.size w0 w' → w'.cell? ⟨w.heap.size, 1, none⟩ = some (.slice a gs.length cap) := fun w' h => blk_cell (blk_below hblk h (blk_lt hblk)) 1
  rw [← hw0] at HB HG
  have HW0 := Lib.hid hw0
  clear hg hb1 hblk hw0
  rw [← HW0.out] at HT
  have hb := Below.refl w0.heap.size w0
  have HC := Lib.hid (fun (W : World) (h : Below w0.heap.size w0 W) => rcount_any rows a gs cap W (HG.out.keep h) hlm)
  have hcr := countL_rng rows gs
  by_cases hbad : m < 1 ∨ countL rows gs < m
  · have HN := Lib.hid (bestL_bad (tk := tk) hbad)
    obtain ⟨F, hF⟩ : ∃ F, F = bestL rows gs tk m := ⟨_, rfl⟩
    rw [← hF] at HN ⊢
    obtain ⟨N, hN⟩ : ∃ N, N = countL rows gs := ⟨_, rfl⟩
    rw [← hN] at HC hbad hcr
    clear hF hN
    by_cases h1 : m < 1
    · clear hbad
      go_enter Tryd.func23, Tryd.ntmps23
      go_wp2_with fail
      rw [← HW0.out]
      go_ret2
      exact tells2_nil HN.out HB.out
    · have h2 : N < m := by omega
      clear hbad
      go_enter Tryd.func23, Tryd.ntmps23
      go_wp2_with fail
      rw [← HW0.out]
      refine (HC.out _ hb).mono ?_; rintro e w1 ⟨rfl, hb2⟩
      replace hb := bl_trans hb hb2; clear hb2
      go_wp2_with fail
      go_ret2
      exact tells2_nil HN.out (bl_trans HB.out hb)
  have hR : RightL rows gs := by
    by_cases h : RightL rows gs
    · exact h
    · rw [countL_no h] at hbad; omega
  have HNF := Lib.hid (fun hf => bestL_full (tk := tk) hbad hf)
  have HNW := Lib.hid (fun (s : Nat) hw => bestL_win (tk := tk) (s := s) hbad hw)
  have HNA := Lib.hid (fun hf hw => bestL_any (tk := tk) hbad hf hw)
  have HGR := Lib.hid (fun (n : Int) (h0 : 0 ≤ n) (h9 : n ≤ 600) (W : World) (h : Below w0.heap.size w0 W) => group_of (rows := rows) (cap := cap) (n := n) hR h0 h9 W (HG.out.keep h))
  obtain ⟨M, rfl⟩ : ∃ M : Nat, m = M := ⟨m.toNat, by omega⟩
  obtain ⟨N, hN⟩ : ∃ N : Nat, (N : Int) = countL rows gs := ⟨(countL rows gs).toNat, by omega⟩
  have hNt : (countL rows gs).toNat = N := by omega
  rw [hNt] at HNF HNW HNA
  rw [← hN] at HC hbad hcr
  rw [Int.toNat_natCast] at HNW HNA
  have HWI := Lib.hid (fun (i s : Nat) (h1 : 1 ≤ M) (h2 : i + M ≤ (freeTo tk N).length) (h3 : s < N) (h4 : ¬ (s : Int) ∈ tk) (h5 : (freeTo tk s).length = i) => win_iff (N := N) hR h1 h2 h3 h4 h5)
  obtain ⟨F, hF⟩ : ∃ F, F = bestL rows gs tk M := ⟨_, rfl⟩
  rw [← hF] at HNF HNW HNA ⊢
  have hM1 : 1 ≤ M := by omega
  have hMN : M ≤ N := by omega
  have hN6 : N ≤ 600 := by omega
  have g1 : ¬ (M : Int) < 1 := by omega
  have g2 : ¬ (N : Int) < M := by omega
  have g3 : decide (N < M) = false := by simpa using hMN
  clear hbad hF hN hNt hR
  go_enter Tryd.func23, Tryd.ntmps23
  go_wp2_with fail
  rw [← HW0.out]
  refine (HC.out _ hb).mono ?_; rintro e w1 ⟨rfl, hb2⟩
  replace hb := bl_trans hb hb2; clear hb2
  go_wp2_with fail
  go_loopg [8, 9] N (fun g v i wr => Below w0.heap.size w0 wr ∧ ∃ k : Nat, k ≤ N ∧ g = N - k ∧ i = .int .i64 k ∧ wr.ownsRow w0.heap.size 3 1 v (freeTo tk k).length ((freeTo tk k).map (.int .i64)))
  case atStart => exact ⟨hb, 0, by omega, rfl, rfl, World.ownsRow_nil _ _ _ _⟩
  case round =>
    clear hb
    obtain ⟨hb, k, k0, hgk, rfl, hown⟩ := hrel
    have HGK := Lib.hid hgk
    clear hgk
    go_wp2_with fail
    refine (HC.out _ hb).mono ?_; rintro e w2 ⟨rfl, hb2⟩
    replace hown := own_keep hown hb2
    replace hb := bl_trans hb hb2; clear hb2
    by_cases hk : k < N
    · have HH := Lib.hid (has_any ta tk tc k w2 (HT.out.keep hb) htm)
      have HFS := Lib.hid (freeTo_succ tk k)
      have hfl := freeTo_len tk k
      have HOWN := Lib.hid hown
      clear hown
      by_cases hin : (k : Int) ∈ tk
      · rw [decide_eq_true hin] at HH
        rw [if_pos hin, List.append_nil] at HFS
        clear hin
        go_wp2_with fail
        refine HH.out.mono ?_; rintro e w3 ⟨rfl, rfl⟩
        go_wp2_with fail
        go_roundg (N - (k + 1))
        case measure => have := HGK.out; omega
        case rel => exact ⟨hb, k + 1, by omega, rfl, by go_num, by rw [HFS.out]; exact HOWN.out⟩
      · rw [decide_eq_false hin] at HH
        rw [if_neg hin] at HFS
        clear hin
        go_wp2_with fail
        refine HH.out.mono ?_; rintro e w3 ⟨rfl, rfl⟩
        go_wp2_with (at_builtin; refine wpList_app rfl _ _ 22 rfl w0.heap.size 3 Tryd.underlying22 Tryd.infoInt rfl (by decide) rfl HOWN.out rfl [.int .i64 (k : Int)] rfl (by simp [Value.oneCell']) (by unfold maxLen; omega) (by omega) hb.size ?_; intro v1 w4 hown1 hgrow)
        replace hb := bl_trans' hb (own_below HOWN.out hgrow hb.size) (Nat.le_refl _)
        clear hgrow
        go_roundg (N - (k + 1))
        case measure => have := HGK.out; omega
        case rel => exact ⟨hb, k + 1, by omega, rfl, by go_num, by rw [HFS.out, List.map_append, List.length_append]; exact hown1⟩
    · obtain rfl : k = N := by omega
      obtain ⟨ad, cf, rfl, hgF, hcf, hcm⟩ := gs_own2 hown
      unfold maxLen at hcm
      have hFl := freeTo_len tk k
      have HFA := Lib.hid (fun i h => freeTo_ix (tk := tk) (n := k) (i := i) h)
      obtain ⟨L, hL⟩ : ∃ L, L = freeTo tk k := ⟨_, rfl⟩
      rw [← hL] at hgF hcf hFl HNF HNA HWI HFA ⊢
      have HLF := Lib.hid hL
      clear hL hown
      by_cases hfull : L.length < M
      · go_wp2_with fail
        go_ret2
        exact tells2_nil (HNF.out (by omega)) (bl_trans HB.out hb)
      · have g4 : decide (L.length < M) = false := by simpa using hfull
        have g5 : M ≤ L.length := by omega
        go_wp2_with fail
        obtain ⟨b1, o1, rfl, hc0⟩ := hgF 0 (by omega)
        clear hc0
        obtain ⟨w9, hw9⟩ : ∃ w9, w9 = w2 := ⟨_, rfl⟩
        have hcell : ∀ w', Below w9.heap.size w9 w' → ∀ j, j < L.length → w'.cell? ⟨b1, o1 + j, none⟩ = some (.int .i64 (L.getD j 0)) := by
          intro w' h j hj
          obtain ⟨b2, o2, e2, hc⟩ := hgF j hj
          obtain ⟨rfl, rfl⟩ : b1 = b2 ∧ o1 = o2 := by simpa using e2
          rw [hw9] at h
          exact cell_keep h hc
        have HCE := Lib.hid hcell
        have HB9 := Lib.hid (show Below w0.heap.size w0 w9 by rw [hw9]; exact hb)
        have hb9 := Below.refl w9.heap.size w9
        rw [hw9] at hb9
        have HW9 := Lib.hid hw9
        clear hcell hgF hw9
        go_loopg [11] (L.length + 1 - M) (fun g i wr => Below w9.heap.size w9 wr ∧ ∃ i1 : Nat, i1 + M ≤ L.length + 1 ∧ g = L.length + 1 - M - i1 ∧ i = .int .i64 i1 ∧ ∀ j s : Nat, j < i1 → s < k → ¬ (s : Int) ∈ tk → (freeTo tk s).length = j → ¬ Win gs tk k M s)
        case atStart => exact ⟨by rw [HW9.out]; exact Below.refl _ _, 0, by omega, by omega, rfl, fun j s hj => by omega⟩
        case round =>
          clear hb hb9
          obtain ⟨hb9, i1, i0, hgk, rfl, hno⟩ := hrel
          have HGK2 := Lib.hid hgk
          have HNO := Lib.hid hno
          clear hgk hno
          have q0' := fun w' (h : Below w9.heap.size w9 w') => q0 w' (bl_trans HB9.out h)
          have q1' := fun w' (h : Below w9.heap.size w9 w') => q1 w' (bl_trans HB9.out h)
          have hw1 : IntKind.i64.wrap ((i1 : Int) + M) = (i1 : Int) + M := IntWalk.i64_in _ (by omega)
          by_cases hi : i1 + M ≤ L.length
          · have hii : (i1 : Int) + M ≤ L.length := by omega
            obtain ⟨s, hs1, hs2, hs3, hs4⟩ := HFA.out i1 (by omega)
            obtain ⟨t, ht1, ht2, ht3, ht4⟩ := HFA.out (i1 + M - 1) (by omega)
            have hwi := HWI.out i1 s hM1 hi hs1 hs2 hs3
            rw [ht4] at hwi
            have q8 : ∀ w', Below w9.heap.size w9 w' → w'.cell? ⟨b1, o1 + i1, none⟩ = some (.int .i64 (s : Int)) := fun w' h => by rw [← hs4]; exact HCE.out w' h i1 (by omega)
            have q7 : ∀ w', Below w9.heap.size w9 w' → w'.cell? ⟨b1, o1 + (i1 + M - 1), none⟩ = some (.int .i64 (t : Int)) := fun w' h => by rw [← ht4]; exact HCE.out w' h (i1 + M - 1) (by omega)
            have hw2 : IntKind.i64.wrap ((i1 : Int) + M - 1) = (i1 : Int) + M - 1 := IntWalk.i64_in _ (by omega)
            have hw3 : ((i1 : Int) + M - 1).toNat = i1 + M - 1 := by omega
            have hw4 : (0 : Int) ≤ (i1 : Int) + M - 1 := by omega
            have hw5 : (i1 : Int) + M - 1 < L.length := by omega
            have hw6 : (0 : Int) ≤ (i1 : Int) := by omega
            have hw7 : (i1 : Int) < L.length := by omega
            have hw8 : IntKind.i64.wrap ((t : Int) - s) = (t : Int) - s := IntWalk.i64_in _ (by omega)
            have hw9 : IntKind.i64.wrap ((M : Int) - 1) = (M : Int) - 1 := IntWalk.i64_in _ (by omega)
            have HWin := Lib.hid hwi
            have HS3 := Lib.hid hs3
            have HS2 := Lib.hid hs2
            have HNX := Lib.hid (show ¬ Win gs tk k M s → ∀ j s' : Nat, j < i1 + 1 → s' < k → ¬ (s' : Int) ∈ tk → (freeTo tk s').length = j → ¬ Win gs tk k M s' from by
              intro hnw j s' hj hs' hf' hl'
              by_cases hjj : j < i1
              · exact HNO.out j s' hjj hs' hf' hl'
              · have : s' = s := by
                  rcases Nat.lt_trichotomy s' s with h | h | h
                  · have := freeTo_lt (n := 0) hf' h; omega
                  · exact h
                  · have := freeTo_lt (n := 0) hs2 h; omega
                rw [this]; exact hnw)
            clear hwi hs3 hs4 ht3 ht4 hs2 ht2
            go_wp2_with fail
            by_cases he : (t : Int) - s = M - 1
            · have e1 : ((t : Int) - s == (M : Int) - 1) = true := by simp [he]
              have HG1 := Lib.hid (fun (W : World) (h : Below w9.heap.size w9 W) => HGR.out (s : Int) (by omega) (by omega) W (bl_trans HB9.out h))
              have HG2 := Lib.hid (fun (W : World) (h : Below w9.heap.size w9 W) => HGR.out (t : Int) (by omega) (by omega) W (bl_trans HB9.out h))
              have HE := Lib.hid he
              clear he
              obtain ⟨G1, hG1⟩ : ∃ G1, G1 = grpOf gs (s : Int) := ⟨_, rfl⟩
              obtain ⟨G2, hG2⟩ : ∃ G2, G2 = grpOf gs (t : Int) := ⟨_, rfl⟩
              rw [← hG1] at HG1 HWin
              rw [← hG2] at HG2 HWin
              clear hG1 hG2
              refine wp_region_in (Below w9.heap.size w9) (fun i => i == 15 || i == 18) (by kernel_rfl) (by kernel_rfl) (by exact hb9.drew) ?_
              intro hne hx
              replace hb9 := hb9.drew
              refine stg_seg 15 (by dsimp only [List.take]) (by dsimp only [List.drop]) (by rfl) ?_
              repeat (go_big_quiet_step (fail))
              refine wpQuiet_nil ?_
              refine stg_loud (by rfl) ?_
              go_wp2_with fail
              refine (HG1.out _ hb9).mono ?_; rintro e w3 ⟨rfl, hb2⟩
              replace hb9 := bl_trans hb9 hb2; clear hb2
              go_wp2_with fail
              refine lq_in rfl (hb9) ?_
              refine stg_seg 2 (by dsimp only [List.take]) (by dsimp only [List.drop]) (by rfl) ?_
              repeat (go_big_quiet_step (fail))
              refine wpQuiet_nil ?_
              refine stg_loud (by rfl) ?_
              go_wp2_with fail
              refine (HG2.out _ hb9).mono ?_; rintro e w4 ⟨rfl, hb2⟩
              replace hb9 := bl_trans hb9 hb2; clear hb2
              go_wp2_with fail
              refine lq_in rfl (hb9) ?_
              by_cases hgg : G1 = G2
              · have e2 : (G1 == G2) = true := by simp [hgg]
                have HW := Lib.hid (HWin.out.1 ⟨HE.out, hgg⟩)
                clear hgg
                have hcc : (i1 : Int) + M ≤ cf := by omega
                have hFst := HNW.out s ⟨HW.out, fun s' hs' hw' => by
                  have hf' := (hw'.2 s' (Nat.le_refl _) (by omega)).1
                  have hlt := freeTo_lt (n := 0) hf' hs'
                  exact HNO.out _ s' (by have := HS3.out; omega) (by omega) hf' rfl hw'⟩
                have HFst := Lib.hid hFst
                clear hFst
                refine stg_seg 2 (by dsimp only [List.take]) (by dsimp only [List.drop]) (by rfl) ?_
                repeat (go_big_quiet_step (fail))
                refine wpQuiet_nil ?_
                refine stg_nil ?_
                clear hne hx
                go_wp2_with fail
                go_ret2
                rw [HFst.out]
                refine ⟨some ⟨b1, o1 + i1, none⟩, cf - i1, ret_sl (by rw [seatsOf_len]; omega), fun j hj => ⟨b1, o1 + i1, rfl, ?_⟩, bl_trans HB.out (bl_trans HB9.out hb9)⟩
                rw [seatsOf_len] at hj
                rw [seatsOf_get hj, ← win_get HW.out hj, HS3.out, ← HLF.out, Nat.add_assoc]
                exact HCE.out _ hb9 (i1 + j) (by omega)
              · have e2 : (G1 == G2) = false := by simp [hgg]
                have HNW := Lib.hid (fun h => hgg (HWin.out.2 h).2)
                clear hgg
                refine stg_seg 2 (by dsimp only [List.take]) (by dsimp only [List.drop]) (by rfl) ?_
                repeat (go_big_quiet_step (fail))
                refine wpQuiet_nil ?_
                refine stg_nil ?_
                clear hne hx
                go_wp2_with fail
                go_roundg (L.length + 1 - M - (i1 + 1))
                case measure => have := HGK2.out; omega
                case rel => exact ⟨hb9, i1 + 1, by omega, rfl, by go_num, HNX.out HNW.out⟩
            · have e1 : ((t : Int) - s == (M : Int) - 1) = false := by rw [beq_eq_false_iff_ne]; exact he
              have HNW := Lib.hid (fun h => he (HWin.out.2 h).1)
              clear he
              refine wp_region_in (Below w9.heap.size w9) (fun i => i == 15 || i == 18) (by kernel_rfl) (by kernel_rfl) (by exact hb9.drew) ?_
              intro hne hx
              replace hb9 := hb9.drew
              refine stg_seg 15 (by dsimp only [List.take]) (by dsimp only [List.drop]) (by rfl) ?_
              repeat (go_big_quiet_step (fail))
              refine wpQuiet_nil ?_
              refine stg_loud (by rfl) ?_
              go_wp2_with fail
              refine lq_in rfl (hb9) ?_
              refine stg_seg 2 (by dsimp only [List.take]) (by dsimp only [List.drop]) (by rfl) ?_
              repeat (go_big_quiet_step (fail))
              refine wpQuiet_nil ?_
              refine stg_loud (by rfl) ?_
              go_wp2_with fail
              refine lq_in rfl (hb9) ?_
              refine stg_seg 2 (by dsimp only [List.take]) (by dsimp only [List.drop]) (by rfl) ?_
              repeat (go_big_quiet_step (fail))
              refine wpQuiet_nil ?_
              refine stg_nil ?_
              clear hne hx
              go_wp2_with fail
              go_roundg (L.length + 1 - M - (i1 + 1))
              case measure => have := HGK2.out; omega
              case rel => exact ⟨hb9, i1 + 1, by omega, rfl, by go_num, HNX.out HNW.out⟩
          · have hii : ¬ (i1 : Int) + M ≤ L.length := by omega
            have hcc : (M : Int) ≤ cf := by omega
            have HFst := Lib.hid (HNA.out (by omega) (fun s hw => by
              have hf' := (hw.2 s (Nat.le_refl _) (by omega)).1
              have h1 := win_free hw M (Nat.le_refl _)
              have h2 := freeTo_mono (tk := tk) hw.1
              rw [← HLF.out] at h2
              exact HNO.out _ s (by omega) (by have := hw.1; omega) hf' rfl hw))
            go_wp2_with fail
            go_ret2
            rw [HFst.out]
            have hml : (L.take M).length = M := by simp; omega
            refine ⟨some ⟨b1, o1, none⟩, cf, ret_sl hml.symm, fun j hj => ⟨b1, o1, rfl, ?_⟩, bl_trans HB.out (bl_trans HB9.out hb9)⟩
            rw [hml] at hj
            have e : (L.take M).getD j 0 = L.getD j 0 := by simp [List.getD, List.getElem?_take, hj]
            rw [e]
            exact HCE.out _ hb9 j (by omega)
end Go.Proofs.YtndagalglenbnaaDoor
