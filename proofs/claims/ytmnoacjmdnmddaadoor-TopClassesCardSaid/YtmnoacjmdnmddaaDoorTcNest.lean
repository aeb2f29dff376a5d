/- nest: lefts, Left. Conditions: none. -/
import Derived.Test.YtmnoacjmdnmddaaDoorChg
import Derived.Test.YtmnoacjmdnmddaaDoorTcLevel
namespace Go.Proofs.YtmnoacjmdnmddaaDoor
open Go.RowKit
/-- The sum of the last ones, from the k-th on. -/
def suf (ss : List Int) (k : Nat) : Int := (ss.drop k).sum
theorem suf_end (ss : List Int) : suf ss ss.length = 0 := by unfold suf; rw [List.drop_length]; rfl
theorem suf_at (ss : List Int) {k : Nat} (h : k < ss.length) : suf ss k = ss.getD k 0 + suf ss (k + 1) := by
  unfold suf
  rw [List.drop_eq_getElem_cons h, List.sum_cons, List.getD_eq_getElem?_getD, List.getElem?_eq_getElem h]
  rfl
structure NestOk (ls ss : List Int) : Prop where
  n1 : 1 ≤ ls.length
  n8 : ls.length ≤ 8
  len : ss.length = ls.length
  lw : ∀ k, k < ls.length → 0 ≤ ls.getD k 0 ∧ ls.getD k 0 ≤ 10000
  sw : ∀ k, k < ls.length → 0 ≤ ss.getD k 0 ∧ ss.getD k 0 ≤ 10000
  down : ∀ k, k + 1 < ls.length → ls.getD (k + 1) 0 ≤ ls.getD k 0
  fine : ∀ k, k < ls.length → suf ss k ≤ ls.getD k 0
theorem NestOk.suf0 {ls ss : List Int} (h : NestOk ls ss) : ∀ d k, k + d = ls.length → 0 ≤ suf ss k
  | 0, k, e => by
    obtain rfl : k = ss.length := by rw [h.len]; omega
    rw [suf_end]
    exact Int.le_refl _
  | d + 1, k, e => by
    rw [suf_at ss (by rw [h.len]; omega)]
    have := h.suf0 d (k + 1) (by omega)
    have := (h.sw k (by omega)).1
    omega
/-- The least that classes up to one have left, d of them looked at. -/
def leastD (ls ss : List Int) (c : Int) : Nat → Int
  | 0 => 10000
  | d + 1 => if ((ls.length - (d + 1) : Nat) : Int) ≤ c then min (leastD ls ss c d) (ls.getD (ls.length - (d + 1)) 0 - suf ss (ls.length - (d + 1))) else leastD ls ss c d
theorem leastD_succ (ls ss : List Int) (c : Int) (d : Nat) : leastD ls ss c (d + 1) = if ((ls.length - (d + 1) : Nat) : Int) ≤ c then min (leastD ls ss c d) (ls.getD (ls.length - (d + 1)) 0 - suf ss (ls.length - (d + 1))) else leastD ls ss c d := rfl
def leastL (ls ss : List Int) (c : Int) : Int := leastD ls ss c ls.length
theorem leastD_rng {ls ss : List Int} (h : NestOk ls ss) (c : Int) : ∀ d, d ≤ ls.length → 0 ≤ leastD ls ss c d ∧ leastD ls ss c d ≤ 10000
  | 0, _ => by show 0 ≤ (10000 : Int) ∧ (10000 : Int) ≤ 10000; omega
  | d + 1, hd => by
    have := leastD_rng h c d (by omega)
    have h2 := h.fine (ls.length - (d + 1)) (by omega)
    unfold leastD
    split <;> omega
theorem leastD_le {ls ss : List Int} (c : Int) : ∀ d, d ≤ ls.length → ∀ k, ls.length - d ≤ k → k < ls.length → (k : Int) ≤ c → leastD ls ss c d ≤ ls.getD k 0 - suf ss k
  | 0, _, k, h1, h2, _ => by omega
  | d + 1, hd, k, h1, h2, h3 => by
    unfold leastD
    by_cases e : k = ls.length - (d + 1)
    · subst e
      rw [if_pos h3]
      exact Int.min_le_right _ _
    · have := leastD_le (ss := ss) c d (by omega) k (by omega) h2 h3
      split
      · have := Int.min_le_left (leastD ls ss c d) (ls.getD (ls.length - (d + 1)) 0 - suf ss (ls.length - (d + 1)))
        omega
      · exact this
theorem GsAt.form {w : World} {a : Option Addr} {xs : List Int} (h : GsAt w a xs) (h0 : 0 < xs.length) : ∃ b o, a = some ⟨b, o, none⟩ ∧ ∀ j, j < xs.length → w.cell? ⟨b, o + j, none⟩ = some (.int .i64 (xs.getD j 0)) := by
  obtain ⟨b, o, e, _⟩ := h 0 h0
  refine ⟨b, o, e, fun j hj => ?_⟩
  obtain ⟨b', o', e', hc⟩ := h j hj
  rw [e] at e'
  injection e' with e'
  injection e' with e1 e2
  rw [e1, e2]
  exact hc
set_option maxRecDepth 100000 in
theorem within_yes {n : Int} (h0 : 0 ≤ n) (h1 : n ≤ 10000) (w : World) : Calls Tryd.prog 21 #[.int .i64 n] w fun e w' => e = .returned (.bool true) ∧ w = w' := by
  have d0 : decide (0 ≤ n) = true := decide_eq_true h0
  have d1 : decide (n ≤ 10000) = true := decide_eq_true h1
  go_enter Tryd.func21, Tryd.ntmps21
  go_wp2_with fail
  go_ret
  exact ⟨rfl, rfl⟩
set_option maxRecDepth 100000 in
set_option maxHeartbeats 1000000 in
theorem ask_at {cb lb : Nat} {w : World} {c l x : Int} (k : Nat) (hc : w.cell? ⟨cb, 0, none⟩ = some (.int .i64 c)) (hl : w.heap[lb]? = some (.cells #[.int .i64 l] 3 (0, 0))) :
    Calls Tryd.prog 36 #[.int .i64 k, .int .i64 x, .pointer (some ⟨cb, 0, none⟩), .pointer (some ⟨lb, 0, none⟩)] w fun e w' => (∃ v, e = .returned v) ∧ Chg [lb] w w' ∧ w'.heap[lb]? = some (.cells #[.int .i64 (if (k : Int) ≤ c then min l x else l)] 3 (0, 0)) := by
  have c0 := blk_cell hl 0
  have cf := blk_frozen hl 0
  replace c0 : w.cell? ⟨lb, 0, none⟩ = some (.int .i64 l) := c0
  have HL := Lib.hid hl
  by_cases hk : (k : Int) ≤ c
  · have d : decide ((k : Int) ≤ c) = true := decide_eq_true hk
    rw [if_pos hk]
    clear hk hl
    go_enter Tryd.func36, Tryd.ntmps36
    go_wp2_with fail
    all_goals
      refine ⟨rfl, _, results_none rfl _ _ _, ⟨_, rfl⟩, (Chg.refl _ _).set (.inl (by simp)) _, ?_⟩
      rw [blk_set HL.out 0]
    · have h : x < l := by assumption
      rw [Int.min_eq_right (by omega)]
      rfl
    · have h : l ≤ x := by assumption
      rw [Int.min_eq_left h]
      rfl
  · have d : decide ((k : Int) ≤ c) = false := decide_eq_false hk
    rw [if_neg hk]
    clear hk hl
    go_enter Tryd.func36, Tryd.ntmps36
    go_wp2_with fail
    exact ⟨rfl, _, results_none rfl _ _ _, ⟨_, rfl⟩, Chg.refl _ _, HL.out⟩
set_option maxRecDepth 100000 in
set_option maxHeartbeats 4000000 in
theorem lefts_at {ls ss : List Int} (h : NestOk ls ss) (la sa : Option Addr) (lc sc cb lb : Nat) (c : Int) {w0 w : World} (hl : GsAt w0 la ls) (hs : GsAt w0 sa ss) (hb0 : Below w0.heap.size w0 w) (hcb : w0.heap.size ≤ cb) (hlb : w0.heap.size ≤ lb) (hne : cb ≠ lb)
    (hc : w.heap[cb]? = some (.cells #[.int .i64 c] 3 (0, 0))) (hb : w.heap[lb]? = some (.cells #[.int .i64 10000] 3 (0, 0))) :
    Calls Tryd.prog 35 #[.slice la ls.length lc, .slice sa ls.length sc, .func (.func 36) #[] #[.pointer (some ⟨cb, 0, none⟩), .pointer (some ⟨lb, 0, none⟩)]] w
      fun e w' => e = .returned (.bool true) ∧ Below w0.heap.size w0 w' ∧ w'.heap[lb]? = some (.cells #[.int .i64 (leastL ls ss c)] 3 (0, 0)) ∧ w'.heap[cb]? = some (.cells #[.int .i64 c] 3 (0, 0)) := by
  have H := Lib.hid h
  have HLS := Lib.hid hl
  have HSS := Lib.hid hs
  obtain ⟨n, hn⟩ : ∃ n, n = ls.length := ⟨_, rfl⟩
  have hn1 : 1 ≤ n := by rw [hn]; exact h.n1
  have hn8 : n ≤ 8 := by rw [hn]; exact h.n8
  rw [← hn]
  have HN := Lib.hid hn
  have HB0 := Lib.hid hb0
  have HC := Lib.hid hc
  have HBB := Lib.hid hb
  have d1 : decide ((n : Int) < 1) = false := decide_eq_false (by omega)
  have d1' : decide (n < 1) = false := decide_eq_false (by omega)
  have d2 : decide ((8 : Int) < (n : Int)) = false := decide_eq_false (by omega)
  have d2' : decide (8 < n) = false := decide_eq_false (by omega)
  have d3 : ((n : Int) != (n : Int)) = false := by simp
  clear h hl hs hn hb0 hc hb
  go_enter Tryd.func35, Tryd.ntmps35
  go_wp2_with fail
  clear d1 d1' d2 d2' d3
  go_loopg [7, 8, 9] (n + 1) (fun g vs vf vk wr => Below w0.heap.size w0 wr ∧ ∃ d : Nat, d ≤ n ∧ g = n - d + 1 ∧ vk = .int .i64 ((n : Int) - 1 - d) ∧ vs = .int .i64 (suf ss (n - d)) ∧ vf = .bool true ∧ wr.heap[lb]? = some (.cells #[.int .i64 (leastD ls ss c d)] 3 (0, 0)) ∧ wr.heap[cb]? = some (.cells #[.int .i64 c] 3 (0, 0)))
  case atStart => exact ⟨HB0.out, 0, by omega, by omega, by simp, by rw [Nat.sub_zero, HN.out, ← H.out.len, suf_end], rfl, HBB.out, HC.out⟩
  case round =>
    obtain ⟨hb, d, hd, hg, rfl, rfl, rfl, hlb, hcb⟩ := hrel
    have HG := Lib.hid hg
    have HLB := Lib.hid hlb
    have HCB := Lib.hid hcb
    have HB := Lib.hid hb
    clear hg hlb hcb
    by_cases hdn : d < n
    case neg =>
      obtain rfl : d = n := by omega
      rw [show (d : Int) - 1 - d = -1 by omega]
      have z0 : decide ((0 : Int) ≤ -1) = false := by decide
      have HL9 := Lib.hid (show leastD ls ss c d = leastL ls ss c by unfold leastL; rw [HN.out])
      go_wp2_with fail
      go_ret
      exact ⟨rfl, HB.out, by rw [← HL9.out]; exact HLB.out, HCB.out⟩
    obtain ⟨m, hm⟩ : ∃ m : Nat, m = n - (d + 1) := ⟨_, rfl⟩
    have hmi : (n : Int) - 1 - d = (m : Int) := by omega
    have hmn : m < ls.length := by rw [← HN.out]; omega
    obtain ⟨b1, o1, ha1, hc1⟩ := (HLS.out.form (by rw [← HN.out]; omega))
    obtain ⟨b2, o2, ha2, hc2⟩ := (HSS.out.form (by rw [H.out.len, ← HN.out]; omega))
    obtain ⟨x, hx⟩ : ∃ x, x = ls.getD m 0 := ⟨_, rfl⟩
    obtain ⟨y, hy⟩ : ∃ y, y = ss.getD m 0 := ⟨_, rfl⟩
    have hnd : n - d = m + 1 := by omega
    have hk1 := hc1 m hmn
    have hk2 := hc2 m (by rw [H.out.len]; exact hmn)
    rw [← hx] at hk1
    rw [← hy] at hk2
    have HW1 := Lib.hid (show 0 ≤ x ∧ x ≤ 10000 by rw [hx]; exact H.out.lw m hmn)
    have HW2 := Lib.hid (show 0 ≤ y ∧ y ≤ 10000 by rw [hy]; exact H.out.sw m hmn)
    have hbw : w0.heap.size ≤ wr.heap.size := hb.size
    have gL : ∀ W, Below wr.heap.size wr W → W.cell? ⟨b1, o1 + m, none⟩ = some (.int .i64 x) := fun W hW => cell_keep (hb.trans (hW.mono hbw)) hk1
    have gS : ∀ W, Below wr.heap.size wr W → W.cell? ⟨b2, o2 + m, none⟩ = some (.int .i64 y) := fun W hW => cell_keep (hb.trans (hW.mono hbw)) hk2
    have hm0 : (0 : Int) ≤ (m : Int) := by omega
    have hm1 : (m : Int) < n := by omega
    have hm2 : m < n := by omega
    have z0 : decide ((0 : Int) ≤ (m : Int)) = true := decide_eq_true hm0
    obtain ⟨s1, hs1⟩ : ∃ s1, s1 = suf ss (n - d) := ⟨_, rfl⟩
    obtain ⟨s2, hs2⟩ : ∃ s2, s2 = suf ss m := ⟨_, rfl⟩
    have hss : s1 + y = s2 := by rw [hs1, hs2, hy, suf_at ss (k := m) (by rw [H.out.len]; exact hmn), hnd]; omega
    have hfi : s2 ≤ x := by rw [hs2, hx]; exact H.out.fine m hmn
    have hs10 : 0 ≤ s1 := by rw [hs1]; exact H.out.suf0 d (n - d) (by rw [← HN.out]; omega)
    have hs20 : 0 ≤ s2 := by have := HW2.out; omega
    have hs11 : s1 ≤ 10000 := by have := HW1.out; have := HW2.out; omega
    have hs21 : s2 ≤ 10000 := by have := HW1.out; omega
    have hx0 := HW1.out.1
    have hx1 := HW1.out.2
    have hy0 := HW2.out.1
    have hy1 := HW2.out.2
    have hdf : decide (s2 ≤ x) = true := decide_eq_true hfi
    rw [← hs1, hmi]
    subst ha1 ha2
    have HC1 := Lib.hid hc1
    have HX := Lib.hid hx
    have HS2 := Lib.hid hs2
    have HM := Lib.hid hm
    have hbq := Below.refl wr.heap.size wr
    clear hx hy hk1 hk2 hc1 hc2 hs1 hs2 hm hmi
    by_cases h0 : 0 < m
    case pos =>
      have d0 : decide ((0 : Int) < (m : Int)) = true := decide_eq_true (by omega)
      have d0' : decide (0 < m) = true := decide_eq_true h0
      obtain ⟨p, hp⟩ : ∃ p : Nat, m = p + 1 := ⟨m - 1, by omega⟩
      have hpi : (m : Int) - 1 = (p : Int) := by omega
      have hp0 : (0 : Int) ≤ (p : Int) := by omega
      have hp1 : (p : Int) < n := by omega
      have hp2 : p < n := by omega
      obtain ⟨x', hx'⟩ : ∃ x', x' = ls.getD p 0 := ⟨_, rfl⟩
      have hk3 := HC1.out p (by rw [← HN.out]; omega)
      rw [← hx'] at hk3
      have gP : ∀ W, Below wr.heap.size wr W → W.cell? ⟨b1, o1 + p, none⟩ = some (.int .i64 x') := fun W hW => cell_keep (hb.trans (hW.mono hbw)) hk3
      have hxx : decide (x' < x) = false := decide_eq_false (by
        have := H.out.down p (by rw [← HN.out]; omega)
        rw [HX.out, hx', hp]
        omega)
      clear hx' hk3 hp
      go_wp2_with fail
      refine wp_region_in (Below wr.heap.size wr) (fun i => i == 4 || i == 11) (by kernel_rfl) (by kernel_rfl) (by exact hbq.drew) ?_
      intro hne hx
      change wpStg _ _ _ _ _ _ _ _ wr.drew
      replace hbq := hbq.drew
      obtain ⟨V, hV⟩ : ∃ V, V = wr.drew := ⟨_, rfl⟩
      have hve : V.heap = wr.heap := by rw [hV]; rfl
      have HVB := Lib.hid (show Below w0.heap.size w0 V by rw [hV]; exact HB.out.drew)
      have HVE := Lib.hid hve
      rw [← hV] at hbq ⊢
      clear hV hve
      refine stg_seg 4 (by dsimp only [List.take]) (by dsimp only [List.drop]) (by rfl) ?_
      repeat (go_big_quiet_step (fail))
      refine wpQuiet_nil ?_
      refine stg_loud (by rfl) ?_
      go_wp2_with fail
      refine (within_yes hx0 hx1 _).mono ?_
      rintro e w1 ⟨rfl, rfl⟩
      go_wp2_with fail
      refine lq_in rfl (hbq) ?_
      refine stg_seg 6 (by dsimp only [List.take]) (by dsimp only [List.drop]) (by rfl) ?_
      repeat (go_big_quiet_step (fail))
      refine wpQuiet_nil ?_
      refine stg_loud (by rfl) ?_
      go_wp2_with fail
      refine (within_yes hy0 hy1 _).mono ?_
      rintro e w1 ⟨rfl, rfl⟩
      go_wp2_with fail
      refine lq_in rfl (hbq) ?_
      refine stg_seg 18 (by dsimp only [List.take]) (by dsimp only [List.drop]) (by rfl) ?_
      repeat (go_big_quiet_step (fail))
      refine wpQuiet_nil ?_
      refine stg_nil ?_
      clear hne hx
      have hlv : V.heap[lb]? = some (.cells #[.int .i64 (leastD ls ss c d)] 3 (0, 0)) := by rw [HVE.out]; exact HLB.out
      have hcv : V.cell? ⟨cb, 0, none⟩ = some (.int .i64 c) := by rw [blk_cell (show V.heap[cb]? = some (.cells #[.int .i64 c] 3 (0, 0)) by rw [HVE.out]; exact HCB.out)]; rfl
      have HASK := Lib.hid (ask_at (x := x - s2) m hcv hlv)
      clear hlv hcv
      go_wp2_with fail
      refine HASK.out.mono ?_
      rintro e w5 ⟨⟨v, rfl⟩, hch, hl5⟩
      have HL5 := Lib.hid hl5
      have HC5 := Lib.hid (show w5.heap[cb]? = some (.cells #[.int .i64 c] 3 (0, 0)) from by rw [hch.block cb (by rw [HVE.out]; exact blk_lt HCB.out) (by simpa using hne), HVE.out]; exact HCB.out)
      have HB5 := Lib.hid (HVB.out.trans (hch.to_below (by rw [HVE.out]; exact hbw) (fun g hg => by rw [List.mem_singleton.1 hg]; exact hlb)))
      clear hl5 hch HASK
      go_wp2_with fail
      go_roundg (n - (d + 1) + 1)
      case measure => have := HG.out; omega
      case rel => exact ⟨HB5.out, d + 1, by omega, rfl, by congr 1; omega, by rw [HS2.out, HM.out], rfl, by
          rw [HL5.out]
          rw [leastD_succ, ← HN.out, ← HM.out, ← HX.out, ← HS2.out], HC5.out⟩
    case neg =>
      have d0 : decide ((0 : Int) < (m : Int)) = false := decide_eq_false (by omega)
      have d0' : decide (0 < m) = false := decide_eq_false h0
      go_wp2_with fail
      refine wp_region_in (Below wr.heap.size wr) (fun i => i == 4 || i == 11) (by kernel_rfl) (by kernel_rfl) (by exact hbq.drew) ?_
      intro hne hx
      change wpStg _ _ _ _ _ _ _ _ wr.drew
      replace hbq := hbq.drew
      obtain ⟨V, hV⟩ : ∃ V, V = wr.drew := ⟨_, rfl⟩
      have hve : V.heap = wr.heap := by rw [hV]; rfl
      have HVB := Lib.hid (show Below w0.heap.size w0 V by rw [hV]; exact HB.out.drew)
      have HVE := Lib.hid hve
      rw [← hV] at hbq ⊢
      clear hV hve
      refine stg_seg 4 (by dsimp only [List.take]) (by dsimp only [List.drop]) (by rfl) ?_
      repeat (go_big_quiet_step (fail))
      refine wpQuiet_nil ?_
      refine stg_loud (by rfl) ?_
      go_wp2_with fail
      refine (within_yes hx0 hx1 _).mono ?_
      rintro e w1 ⟨rfl, rfl⟩
      go_wp2_with fail
      refine lq_in rfl (hbq) ?_
      refine stg_seg 6 (by dsimp only [List.take]) (by dsimp only [List.drop]) (by rfl) ?_
      repeat (go_big_quiet_step (fail))
      refine wpQuiet_nil ?_
      refine stg_loud (by rfl) ?_
      go_wp2_with fail
      refine (within_yes hy0 hy1 _).mono ?_
      rintro e w1 ⟨rfl, rfl⟩
      go_wp2_with fail
      refine lq_in rfl (hbq) ?_
      refine stg_seg 18 (by dsimp only [List.take]) (by dsimp only [List.drop]) (by rfl) ?_
      repeat (go_big_quiet_step (fail))
      refine wpQuiet_nil ?_
      refine stg_nil ?_
      clear hne hx
      have hlv : V.heap[lb]? = some (.cells #[.int .i64 (leastD ls ss c d)] 3 (0, 0)) := by rw [HVE.out]; exact HLB.out
      have hcv : V.cell? ⟨cb, 0, none⟩ = some (.int .i64 c) := by rw [blk_cell (show V.heap[cb]? = some (.cells #[.int .i64 c] 3 (0, 0)) by rw [HVE.out]; exact HCB.out)]; rfl
      have HASK := Lib.hid (ask_at (x := x - s2) m hcv hlv)
      clear hlv hcv
      go_wp2_with fail
      refine HASK.out.mono ?_
      rintro e w5 ⟨⟨v, rfl⟩, hch, hl5⟩
      have HL5 := Lib.hid hl5
      have HC5 := Lib.hid (show w5.heap[cb]? = some (.cells #[.int .i64 c] 3 (0, 0)) from by rw [hch.block cb (by rw [HVE.out]; exact blk_lt HCB.out) (by simpa using hne), HVE.out]; exact HCB.out)
      have HB5 := Lib.hid (HVB.out.trans (hch.to_below (by rw [HVE.out]; exact hbw) (fun g hg => by rw [List.mem_singleton.1 hg]; exact hlb)))
      clear hl5 hch HASK
      go_wp2_with fail
      go_roundg (n - (d + 1) + 1)
      case measure => have := HG.out; omega
      case rel => exact ⟨HB5.out, d + 1, by omega, rfl, by congr 1; omega, by rw [HS2.out, HM.out], rfl, by
          rw [HL5.out]
          rw [leastD_succ, ← HN.out, ← HM.out, ← HX.out, ← HS2.out], HC5.out⟩
end Go.Proofs.YtmnoacjmdnmddaaDoor
