/- nest: Back, Limits. Conditions: none. -/
import Derived.Test.YtmnoacjmdnmddaaDoorTcMore
namespace Go.Proofs.YtmnoacjmdnmddaaDoor
open Go.RowKit
set_option maxRecDepth 100000 in
set_option maxHeartbeats 1000000 in
theorem back_ok {ls ss : List Int} (h : NestOk ls ss) (la sa : Option Addr) (lc sc : Nat) (k : Nat) (m : Int) {w : World} (hl : GsAt w la ls) (hs : GsAt w sa ss) (hk : k < ls.length) (h1 : 1 ≤ m) (h2 : m ≤ ss.getD k 0) :
    Calls Tryd.prog 25 #[.slice la ls.length lc, .slice sa ls.length sc, .int .i64 k, .int .i64 m] w fun e w' => ∃ a' c', e = .returned (.tuple #[.slice a' ls.length c', .int .i64 0]) ∧ w'.ownsRow w.heap.size 3 1 (.slice a' ls.length c') ls.length (intsV (moreL ss k (-m))) ∧ Below w.heap.size w w' := by
  have hle := left_at h la sa lc sc k hl hs
  have hsw := h.sw k hk
  obtain ⟨b1, o1, ha, hc⟩ := hs.form (by rw [h.len]; omega)
  have hck := hc k (by rw [h.len]; exact hk)
  have hmo : ∀ V, Below w.heap.size w V → Calls Tryd.prog 40 #[.slice sa ls.length sc, .int .i64 k, .int .i64 (-m)] V fun e w' => ∃ a' c', e = .returned (.slice a' ls.length c') ∧ w'.ownsRow V.heap.size 3 1 (.slice a' ls.length c') ls.length (intsV (moreL ss k (-m))) ∧ Below V.heap.size V w' := fun V hV => by
    have := more_at sa ss sc k (-m) V (hs.keep hV) (by rw [h.len]; exact h.n8) (by rw [h.len]; exact hk) hsw (by omega)
    rw [h.len] at this
    exact this
  have hlr : leftR ls ss k = (leastL ls ss k, 0) := by unfold leftR; rw [if_pos (by omega)]
  rw [hlr] at hle
  obtain ⟨n, hnn⟩ : ∃ n, n = ls.length := ⟨_, rfl⟩
  obtain ⟨x, hx⟩ : ∃ x, x = ss.getD k 0 := ⟨_, rfl⟩
  rw [← hx] at hck h2 hsw
  rw [← hnn] at hle hmo hk ⊢
  have y0 : ∀ V, Below w.heap.size w V → V.cell? ⟨b1, o1 + k, none⟩ = some (.int .i64 x) := fun V hV => cell_keep hV hck
  have HLE := Lib.hid hle
  have HMO := Lib.hid hmo
  have k0 : (0 : Int) ≤ (k : Int) := by omega
  have k1 : (k : Int) < n := by omega
  have d1 : decide (m < 1) = false := decide_eq_false (by omega)
  have d2 : decide (x < m) = false := decide_eq_false (by omega)
  have hm9 : m ≤ 10000 := by omega
  subst ha
  clear h hl hs hle hmo hc hck hnn hx hlr hsw
  go_enter Tryd.func25, Tryd.ntmps25
  go_wp2_with fail
  refine HLE.out.mono ?_
  rintro e w1 ⟨rfl, hb⟩
  go_wp2_with fail
  refine (HMO.out _ hb).mono ?_
  rintro e w2 ⟨a', c', rfl, hr, hb2⟩
  have HR := Lib.hid (show w2.ownsRow w.heap.size 3 1 (.slice a' n c') n (intsV (moreL ss k (-m))) from ⟨hr.1, by
    rcases hr.2 with h1 | ⟨g, cap, cur, h1, h2, h3⟩
    · exact .inl h1
    · exact .inr ⟨g, cap, cur, h1, Nat.le_trans hb.size h2, h3⟩⟩)
  have HB2 := Lib.hid (bl_trans hb hb2)
  clear hb hr hb2 HLE HMO y0
  go_wp2_with fail
  go_ret2
  exact ⟨a', c', rfl, HR.out, HB2.out⟩
/-- Floats in a row. -/
def FsAt (w : World) (a : Option Addr) (ps : List Nat) : Prop := ∀ j, j < ps.length → ∃ b off, a = some ⟨b, off, none⟩ ∧ w.cell? ⟨b, off + j, none⟩ = some (.float .f64 (ps.getD j 0))
theorem FsAt.keep {w w' : World} {a : Option Addr} {ps : List Nat} (h : FsAt w a ps) (k : Below w.heap.size w w') : FsAt w' a ps := fun j hj => by
  obtain ⟨b, off, e, hc⟩ := h j hj
  exact ⟨b, off, e, cell_keep k hc⟩
theorem FsAt.tail {w : World} {b o : Nat} {ps : List Nat} (h : FsAt w (some ⟨b, o, none⟩) ps) : FsAt w (some ⟨b, o + 1, none⟩) (ps.drop 1) := fun j hj => by
  rw [List.length_drop] at hj
  obtain ⟨b', off, e, hc⟩ := h (1 + j) (by omega)
  injection e with e
  injection e with e1 e2
  subst e1 e2
  refine ⟨b, o + 1, rfl, ?_⟩
  rw [List.getD_eq_getElem?_getD, List.getElem?_drop, ← List.getD_eq_getElem?_getD, ← hc, Nat.add_assoc]
def limV (s : Int) (ps : List Nat) : Nat → Int
  | 0 => s
  | i + 1 => min (lvl (ps.getD (i + 1) 0) s) (limV s ps i)
def limL (s : Int) (ps : List Nat) (k : Nat) : List Int := (List.range k).map (limV s ps)
theorem limL_len (s : Int) (ps : List Nat) (k : Nat) : (limL s ps k).length = k := by simp [limL]
theorem limL_at (s : Int) (ps : List Nat) {k i : Nat} (h : i < k) : (limL s ps k).getD i 0 = limV s ps i := by
  unfold limL
  rw [List.getD_eq_getElem?_getD, List.getElem?_map, List.getElem?_range h]
  rfl
theorem limL_succ (s : Int) (ps : List Nat) (k : Nat) : limL s ps (k + 1) = limL s ps k ++ [limV s ps k] := by
  unfold limL
  rw [List.range_succ, List.map_append]
  rfl
theorem limV_rng {s : Int} (h0 : 0 ≤ s) (h1 : s ≤ 10000) (ps : List Nat) : ∀ i, 0 ≤ limV s ps i ∧ limV s ps i ≤ 10000
  | 0 => ⟨h0, h1⟩
  | i + 1 => by
    have := limV_rng h0 h1 ps i
    have h2 := lvl_rng (p := ps.getD (i + 1) 0) h0 h1
    show 0 ≤ min _ _ ∧ min _ _ ≤ (10000 : Int)
    omega
theorem suf_zero (n : Nat) : ∀ k, suf (List.replicate n (0 : Int)) k = 0 := fun k => by
  unfold suf
  rw [List.drop_replicate]
  generalize n - k = d
  induction d with
  | zero => rfl
  | succ d ih => rw [List.replicate_succ, List.sum_cons, ih]; rfl
theorem lim_ok {s : Int} (h0 : 0 ≤ s) (h1 : s ≤ 10000) {ps : List Nat} (h2 : 1 ≤ ps.length) (h3 : ps.length ≤ 8) : NestOk (limL s ps ps.length) (List.replicate ps.length 0) := by
  refine ⟨by rw [limL_len]; exact h2, by rw [limL_len]; exact h3, by rw [limL_len]; simp, fun k hk => ?_, fun k hk => ?_, fun k hk => ?_, fun k hk => ?_⟩
  all_goals rw [limL_len] at hk
  · rw [limL_at s ps hk]; exact limV_rng h0 h1 ps k
  · rw [List.getD_eq_getElem?_getD, List.getElem?_replicate, if_pos hk]
    show 0 ≤ (0 : Int) ∧ (0 : Int) ≤ 10000
    omega
  · rw [limL_at s ps hk, limL_at s ps (by omega)]
    exact Int.min_le_right _ _
  · rw [suf_zero, limL_at s ps hk]
    exact (limV_rng h0 h1 ps k).1
set_option maxRecDepth 100000 in
set_option maxHeartbeats 1000000 in
theorem limits_no (s : Int) (a : Option Addr) (ps : List Nat) (c : Nat) (w : World) (h0 : 0 ≤ s) (h1 : s ≤ 10000) (hm : ps.length ≤ maxLen) (hb : ps.length < 1 ∨ 8 < ps.length) :
    Calls Tryd.prog 6 #[.int .i64 s, .slice a ps.length c] w fun e w' => e = .returned (.tuple #[.slice none 0 0, .int .i64 1]) ∧ w = w' := by
  obtain ⟨n, hn⟩ : ∃ n, n = ps.length := ⟨_, rfl⟩
  rw [← hn] at hm hb ⊢
  have hm9 : (n : Int) ≤ 9223372036854775807 := by unfold maxLen at hm; omega
  clear hn
  by_cases c1 : n < 1
  · have d1 : decide ((n : Int) < 1) = true := decide_eq_true (by omega)
    have d1' : decide (n < 1) = true := decide_eq_true c1
    clear hb c1
    go_enter Tryd.func6, Tryd.ntmps6
    go_wp2_with fail
    refine (within_yes h0 h1 _).mono ?_
    rintro e w1 ⟨rfl, rfl⟩
    go_wp2_with fail
    go_ret2
    exact ⟨rfl, rfl⟩
  · have d1 : decide ((n : Int) < 1) = false := decide_eq_false (by omega)
    have d1' : decide (n < 1) = false := decide_eq_false c1
    have d2 : decide ((8 : Int) < (n : Int)) = true := decide_eq_true (by omega)
    have d2' : decide (8 < n) = true := decide_eq_true (by omega)
    clear hb c1
    go_enter Tryd.func6, Tryd.ntmps6
    go_wp2_with fail
    refine (within_yes h0 h1 _).mono ?_
    rintro e w1 ⟨rfl, rfl⟩
    go_wp2_with fail
    go_ret2
    exact ⟨rfl, rfl⟩
set_option maxRecDepth 100000 in
set_option maxHeartbeats 2000000 in
theorem limits_yes (s : Int) (a : Option Addr) (ps : List Nat) (c : Nat) (w : World) (h0 : 0 ≤ s) (h1 : s ≤ 10000) (hp : FsAt w a ps) (hn1 : 1 ≤ ps.length) (hn8 : ps.length ≤ 8) (hc : ps.length ≤ c) (hc9 : c ≤ 9223372036854775807) :
    Calls Tryd.prog 6 #[.int .i64 s, .slice a ps.length c] w fun e w' => ∃ a' c', e = .returned (.tuple #[.slice a' ps.length c', .int .i64 0]) ∧ w'.ownsRow w.heap.size 3 1 (.slice a' ps.length c') ps.length (intsV (limL s ps ps.length)) ∧ Below w.heap.size w w' := by
  obtain ⟨b, o, ha, _⟩ := hp 0 (by omega)
  obtain ⟨n, hn⟩ : ∃ n, n = ps.length := ⟨_, rfl⟩
  rw [← hn] at hn1 hn8 hc ⊢
  subst ha
  have HP := Lib.hid hp
  have HN := Lib.hid hn
  have H0 := Lib.hid h0
  have d1 : decide ((n : Int) < 1) = false := decide_eq_false (by omega)
  have d1' : decide (n < 1) = false := decide_eq_false (by omega)
  have d2 : decide ((8 : Int) < (n : Int)) = false := decide_eq_false (by omega)
  have d2' : decide (8 < n) = false := decide_eq_false (by omega)
  have hn9 : (1 : Int) ≤ (n : Int) := by omega
  clear hp hn
  go_enter Tryd.func6, Tryd.ntmps6
  go_wp2_with fail
  refine (within_yes h0 h1 _).mono ?_
  rintro e w1 ⟨rfl, rfl⟩
  go_upto_region 4 with fail
  have hnw := blk_new w (.cells #[.int .i64 s] 3) rfl
  have hb1 := bl_alloc (Below.refl w.heap.size w) (.cells #[.int .i64 s] 3)
  have hrow : (w.alloc (.cells #[.int .i64 s] 3)).ownsRow w.heap.size 3 1 (.slice (some ⟨w.heap.size, 0, none⟩) 1 1) 1 (intsV (limL s ps 1)) := ⟨rfl, .inr ⟨w.heap.size, 1, _, rfl, Nat.le_refl _, hnw, Nat.le_refl _, by unfold maxLen; omega, rfl, rfl⟩⟩
  obtain ⟨W1, hW1⟩ : ∃ W1, W1 = w.alloc (.cells #[.int .i64 s] 3) := ⟨_, rfl⟩
  obtain ⟨q, hq⟩ : ∃ q, q = w.heap.size := ⟨_, rfl⟩
  rw [← hW1] at hb1 hrow ⊢
  rw [← hq]
  obtain ⟨v0, hv0⟩ : ∃ v0 : Value, v0 = .slice (some ⟨w.heap.size, 0, none⟩) 1 1 := ⟨_, rfl⟩
  rw [← hv0] at hrow
  have hv0' : Value.slice (some ⟨q, 0, none⟩) 1 1 = v0 := by rw [hv0, hq]
  have HV0 := Lib.hid hv0'
  have HB1 := Lib.hid hb1
  have HROW := Lib.hid hrow
  obtain ⟨r, hr⟩ : ∃ r, n = r + 1 := ⟨n - 1, by omega⟩
  have HR := Lib.hid hr
  have hc1 : (1 : Int) ≤ (c : Int) := by omega
  have hnc : (n : Int) ≤ (c : Int) := by omega
  clear hnw hb1 hrow hW1 hq hv0 hv0' d1 d1' d2 d2'
  subst hr
  go_cut [27, 28, 29] (fun s27 s28 s29 wx => (∃ a2 c2, s27 = .slice a2 r c2 ∧ FsAt w a2 (ps.drop 1)) ∧ s28 = .int .i64 r ∧ s29 = .int .i64 0 ∧ W1 = wx)
  case first =>
    go_wp2_with fail
    all_goals
      first
        | (have h1 : c = 1 := by assumption
           subst h1
           go_meet
           refine ⟨⟨_, _, rfl, ?_⟩, rfl, rfl, rfl⟩
           have h2 : (ps.drop 1) = [] := List.eq_nil_of_length_eq_zero (by rw [List.length_drop, ← HN.out]; omega)
           rw [h2]
           exact fun j hj => by simp at hj)
        | (go_meet
           refine ⟨⟨_, _, rfl, ?_⟩, rfl, rfl, rfl⟩
           exact HP.out.tail)
  case rest =>
  obtain ⟨⟨a2, c2, rfl, hf⟩, rfl, rfl, rfl⟩ := hcut
  have HF := Lib.hid hf
  clear hf
  rw [HV0.out]
  go_wp2_with fail
  go_loopg [6, 29] r (fun g v6 v29 wr => Below w.heap.size w wr ∧ ∃ k : Nat, k ≤ r ∧ g = r - k ∧ v29 = .int .i64 k ∧ wr.ownsRow w.heap.size 3 1 v6 (k + 1) (intsV (limL s ps (k + 1))))
  case atStart => exact ⟨HB1.out, 0, by omega, by omega, rfl, HROW.out⟩
  case round =>
    obtain ⟨hb, k, hk0, hg, rfl, hrow⟩ := hrel
    obtain ⟨va, vc, rfl⟩ := own_slice hrow
    have HG := Lib.hid hg
    have HRW := Lib.hid hrow
    have HB := Lib.hid hb
    clear hg hrow
    by_cases hk : k < r
    case neg =>
      obtain rfl : k = r := by omega
      have z1 : decide ((k : Int) < (k : Int)) = false := decide_eq_false (by omega)
      have z1' : decide (k < k) = false := decide_eq_false (by omega)
      go_wp2_with fail
      go_ret2
      exact ⟨va, vc, rfl, HRW.out, HB.out⟩
    have z1 : decide ((k : Int) < r) = true := decide_eq_true (by omega)
    have z1' : decide (k < r) = true := decide_eq_true hk
    have hk2 : (0 : Int) ≤ (k : Int) := by omega
    have hk4 : (k : Int) < r := by omega
    have hk5 : (k : Int) < (r : Int) + 1 := by omega
    obtain ⟨b3, o3, ha3, hc3⟩ := (HF.out.keep hb) k (by rw [List.length_drop, ← HN.out]; omega)
    obtain ⟨p, hp⟩ : ∃ p, p = ps.getD (k + 1) 0 := ⟨_, rfl⟩
    have hpe : (ps.drop 1).getD k 0 = p := by rw [hp, List.getD_eq_getElem?_getD, List.getElem?_drop, ← List.getD_eq_getElem?_getD, Nat.add_comm]
    rw [hpe] at hc3
    obtain ⟨g, cap, e, hge⟩ := row_some HRW.out (by omega)
    injection e with e1 e2 e3
    subst e1 e3
    have hy := row_cell HRW.out (intsV_get (xs := limL s ps (k + 1)) (j := k) (by rw [limL_len]; omega))
    rw [limL_at s ps (by omega)] at hy
    obtain ⟨x, hx⟩ : ∃ x, x = limV s ps k := ⟨_, rfl⟩
    rw [← hx] at hy
    have gY : ∀ V, Below wr.heap.size wr V → V.cell? ⟨g, k, none⟩ = some (.int .i64 x) := fun V hV => cell_keep hV hy
    have HX := Lib.hid hx
    have HPP := Lib.hid hp
    subst ha3
    have hbq := Below.refl wr.heap.size wr
    have HLV := Lib.hid (level_at p s wr h0 h1)
    obtain ⟨y, hyl⟩ : ∃ y, y = lvl p s := ⟨_, rfl⟩
    rw [← hyl] at HLV
    have HY := Lib.hid hyl
    clear hp hpe hy hx hyl
    go_wp2_with fail
    refine HLV.out.mono ?_
    rintro e w2 ⟨rfl, rfl⟩
    by_cases hxy : x < y
    · have HNX := Lib.hid hxy
      have HZ := Lib.hid (show limV s ps (k + 1) = x by
        show min _ _ = _
        rw [← HPP.out, ← HY.out, ← HX.out]
        omega)
      go_wp2_with (at_builtin; go_loud (refine wpList_clone rfl _ _ 22 rfl w.heap.size 3 Tryd.underlying22 Tryd.infoInt rfl (by decide) rfl (own_keep HRW.out (bl_alloc (Below.refl _ _) (.cells #[.int .i64 x] 3))) rfl (ys := [.int .i64 x]) rfl (fun j u hj => ⟨wr.heap.size, 0, rfl, by rw [Nat.zero_add, blk_cell (blk_new wr (.cells #[.int .i64 x] 3) rfl)]; simpa using hj⟩) (fun h => by cases h) (by simp [Value.oneCell']) (by unfold maxLen; omega) (by omega) (Nat.le_trans HB.out.size (bl_alloc (Below.refl wr.heap.size wr) (.cells #[.int .i64 x] 3)).size) ?_); intro v1 w4 hown1 hgrow hat1; obtain ⟨va1, vc1, rfl⟩ := own_slice hown1; have HOWN := Lib.hid hown1; have HB4 := Lib.hid ((bl_alloc HB.out (.cells #[.int .i64 x] 3)).trans (own_below (own_keep HRW.out (bl_alloc (Below.refl _ _) (.cells #[.int .i64 x] 3))) hgrow (Nat.le_trans HB.out.size (bl_alloc (Below.refl wr.heap.size wr) (.cells #[.int .i64 x] 3)).size))); clear hown1 hgrow hat1)
      go_roundg (r - (k + 1))
      case measure => have := HG.out; omega
      case rel => exact ⟨HB4.out, k + 1, by omega, rfl, by go_num, by
          have he : intsV (limL s ps (k + 1 + 1)) = intsV (limL s ps (k + 1)) ++ [.int .i64 x] := by
            rw [limL_succ, HZ.out]
            unfold intsV
            rw [List.map_append]
            rfl
          rw [he]
          exact HOWN.out⟩
    · have HNX := Lib.hid hxy
      have HZ := Lib.hid (show limV s ps (k + 1) = y by
        show min _ _ = _
        rw [← HPP.out, ← HY.out, ← HX.out]
        omega)
      go_wp2_with (at_builtin; go_loud (refine wpList_clone rfl _ _ 22 rfl w.heap.size 3 Tryd.underlying22 Tryd.infoInt rfl (by decide) rfl (own_keep HRW.out (bl_alloc (Below.refl _ _) (.cells #[.int .i64 y] 3))) rfl (ys := [.int .i64 y]) rfl (fun j u hj => ⟨wr.heap.size, 0, rfl, by rw [Nat.zero_add, blk_cell (blk_new wr (.cells #[.int .i64 y] 3) rfl)]; simpa using hj⟩) (fun h => by cases h) (by simp [Value.oneCell']) (by unfold maxLen; omega) (by omega) (Nat.le_trans HB.out.size (bl_alloc (Below.refl wr.heap.size wr) (.cells #[.int .i64 y] 3)).size) ?_); intro v1 w4 hown1 hgrow hat1; obtain ⟨va1, vc1, rfl⟩ := own_slice hown1; have HOWN := Lib.hid hown1; have HB4 := Lib.hid ((bl_alloc HB.out (.cells #[.int .i64 y] 3)).trans (own_below (own_keep HRW.out (bl_alloc (Below.refl _ _) (.cells #[.int .i64 y] 3))) hgrow (Nat.le_trans HB.out.size (bl_alloc (Below.refl wr.heap.size wr) (.cells #[.int .i64 y] 3)).size))); clear hown1 hgrow hat1)
      go_roundg (r - (k + 1))
      case measure => have := HG.out; omega
      case rel => exact ⟨HB4.out, k + 1, by omega, rfl, by go_num, by
          have he : intsV (limL s ps (k + 1 + 1)) = intsV (limL s ps (k + 1)) ++ [.int .i64 y] := by
            rw [limL_succ, HZ.out]
            unfold intsV
            rw [List.map_append]
            rfl
          rw [he]
          exact HOWN.out⟩
end Go.Proofs.YtmnoacjmdnmddaaDoor
