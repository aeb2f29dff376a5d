/- ElectQuiet: who hears of its leader at each tick never stands. Conditions: none. -/
import Derived.Test.YtiamfdnllpiikaaElLawA
import Derived.Test.YtiamfdnllpiikaaOpenEl
namespace Go.Proofs.Ytiamfdnllpiikaa
open Go.RowKit

theorem heard_quiet {S : Nd} {src : Int} (ht : S.term ≤ maxIx) (hr : S.role = 0) : S.heard src S.term = if S.other src = false then (S, false) else ({ S with role := 0, leader := src, waited := 0 }, true) := by
  unfold Nd.heard
  by_cases h : S.other src = false
  · rw [if_pos (.inl h), if_pos h]
  · rw [if_neg (by rintro (h1 | h1 | h1 | h1); exact h h1; omega; omega; omega), if_neg h, if_neg (by omega)]
theorem tick_quiet {S : Nd} (hr : S.role = 0) (hw : S.waited + 1 < S.limit) (draw last lt : Int) : S.tick draw last lt = (S.wait, []) := tick_wait (by omega) (.inl hw) draw last lt
theorem rises_le : ∀ {xs : List Int} {l : Int}, risesB l xs = true → xs.length = 0 ∨ (l < 15 ∧ (xs.length : Int) ≤ 15 - l)
  | [], _, _ => .inl rfl
  | n :: r, l, h => by
    simp only [risesB, Bool.and_eq_true, decide_eq_true_eq] at h
    obtain ⟨⟨h1, h2⟩, h3⟩ := h
    rcases rises_le h3 with h4 | ⟨h4, h5⟩ <;> simp only [List.length_cons] <;> omega
theorem right_len {vs ls : List Int} (h : rightG vs ls = true) : vs.length ≤ 15 := by
  unfold rightG at h
  simp only [Bool.and_eq_true] at h
  rcases rises_le h.1.1.1 with h4 | ⟨h4, h5⟩ <;> omega
def quiet (S0 : Nd) (src : Int) : Nd := { S0 with role := 0, leader := src, waited := 0 }
set_option maxRecDepth 100000 in
set_option maxHeartbeats 4000000 in
theorem electQuiet_at (p : WhoV) (src : Int) (ad : Option Addr) (gs : List Int) (cap : Nat) (w : World) (hg : p.g.At w) (hd : GsAt w ad gs) (hdm : gs.length ≤ maxLen) :
    Calls Try.prog 4 #[.agg #[.int .i64 p.id, .int .i64 p.term, .int .i64 p.vote, .slice p.g.va p.g.vs.length p.g.vc, .slice p.g.la p.g.ls.length p.g.lc, .int .i64 p.pat], .int .i64 src, .slice ad gs.length cap] w fun e w' => e = .returned (.bool true) ∧ Below w.heap.size w w' := by
  have hd0 := Lib.hid (hd.keep (bl_alloc (Below.refl w.heap.size w) (.cells #[.int .i64 p.id, .int .i64 p.term, .int .i64 p.vote, .slice p.g.va p.g.vs.length p.g.vc, .slice p.g.la p.g.ls.length p.g.lc, .int .i64 p.pat] 38)))
  have hb0 := bl_alloc (Below.refl w.heap.size w) (.cells #[.int .i64 p.id, .int .i64 p.term, .int .i64 p.vote, .slice p.g.va p.g.vs.length p.g.vc, .slice p.g.la p.g.ls.length p.g.lc, .int .i64 p.pat] 38)
  have HB := Lib.hid hb0
  have HGV := Lib.hid (hg.hv.keep hb0)
  have HGL := Lib.hid (hg.hl.keep hb0)
  have HVM := Lib.hid hg.vm
  have HLM := Lib.hid hg.lm
  have hblk : (w.alloc (.cells #[.int .i64 p.id, .int .i64 p.term, .int .i64 p.vote, .slice p.g.va p.g.vs.length p.g.vc, .slice p.g.la p.g.ls.length p.g.lc, .int .i64 p.pat] 38)).heap[w.heap.size]? = some (.cells #[.int .i64 p.id, .int .i64 p.term, .int .i64 p.vote, .slice p.g.va p.g.vs.length p.g.vc, .slice p.g.la p.g.ls.length p.g.lc, .int .i64 p.pat] 38) := blk_new w _ rfl
  obtain ⟨w0, hw0⟩ : ∃ w0, w0 = w.alloc (.cells #[.int .i64 p.id, .int .i64 p.term, .int .i64 p.vote, .slice p.g.va p.g.vs.length p.g.vc, .slice p.g.la p.g.ls.length p.g.lc, .int .i64 p.pat] 38) := ⟨_, rfl⟩
  rw [← hw0] at HB hblk HGV HGL
  have HW0 := Lib.hid hw0.symm
  have q0 : ∀ w', Below w0.heap.size w0 w' → w'.cell? ⟨w.heap.size, 0, none⟩ = some (.int .i64 p.id) := fun w' h => blk_cell (blk_below hblk h (blk_lt hblk)) 0
  have q1 : ∀ w', Below w0.heap.size w0 w' → w'.cell? ⟨w.heap.size, 1, none⟩ = some (.int .i64 p.term) := fun w' h => blk_cell (blk_below hblk h (blk_lt hblk)) 1
  have q2 : ∀ w', Below w0.heap.size w0 w' → w'.cell? ⟨w.heap.size, 2, none⟩ = some (.int .i64 p.vote) := fun w' h => blk_cell (blk_below hblk h (blk_lt hblk)) 2
  have q3 : ∀ w', Below w0.heap.size w0 w' → w'.cell? ⟨w.heap.size, 3, none⟩ = some (.slice p.g.va p.g.vs.length p.g.vc) := fun w' h => blk_cell (blk_below hblk h (blk_lt hblk)) 3
  have q4 : ∀ w', Below w0.heap.size w0 w' → w'.cell? ⟨w.heap.size, 4, none⟩ = some (.slice p.g.la p.g.ls.length p.g.lc) := fun w' h => blk_cell (blk_below hblk h (blk_lt hblk)) 4
  have q5 : ∀ w', Below w0.heap.size w0 w' → w'.cell? ⟨w.heap.size, 5, none⟩ = some (.int .i64 p.pat) := fun w' h => blk_cell (blk_below hblk h (blk_lt hblk)) 5
  have hb := Below.refl w0.heap.size w0
  clear hw0 hblk hg hb0
  rw [← HW0.out.symm] at hd0
  clear hd
  by_cases hok : newOk p.id p.term p.vote p.pat p.g.vs p.g.ls = true
  case neg =>
    have HO := Lib.hid hok
    clear hok
    go_enter Try.func4, Try.ntmps4
    go_wp2_with fail
    rw [HW0.out]
    refine (awake_at _).mono ?_; rintro e w1 ⟨rfl, hb1⟩
    replace hb := bl_trans hb hb1
    clear hb1
    go_wp2_with fail
    refine (new_at p.id p.term p.vote p.pat p.g.vs p.g.ls p.g.va p.g.vc p.g.la p.g.lc w1 (HGV.out.keep hb) (HGL.out.keep hb) HVM.out HLM.out).mono ?_
    rintro e w2 (⟨_, rfl, hb3⟩ | ⟨h, _⟩)
    · have hb4 := bl_trans hb hb3
      clear hb hb3
      go_wp2_with fail
      go_ret
      exact ⟨rfl, bl_trans HB.out hb4⟩
    · exact absurd h HO.out
  obtain ⟨hi1, hi9, ht0, ht9, _, _, hp1, hp9, hR⟩ := newOk_no hok
  have HO := Lib.hid hok
  clear hok
  have hvs := right_len hR
  clear hR
  by_cases hp2 : p.pat < 2
  · go_enter Try.func4, Try.ntmps4
    go_wp2_with fail
    rw [HW0.out]
    refine (awake_at _).mono ?_; rintro e w1 ⟨rfl, hb1⟩
    replace hb := bl_trans hb hb1
    clear hb1
    go_wp2_with fail
    refine (new_at p.id p.term p.vote p.pat p.g.vs p.g.ls p.g.va p.g.vc p.g.la p.g.lc w1 (HGV.out.keep hb) (HGL.out.keep hb) HVM.out HLM.out).mono ?_
    rintro e w2 (⟨h, _⟩ | ⟨_, b, L, rfl, hN, hb3, hL⟩)
    · exact absurd HO.out (by rw [h]; decide)
    have hb4 := bl_trans hb hb3
    clear hb hb3 hN hL
    go_wp2_with fail
    go_ret
    exact ⟨rfl, bl_trans HB.out hb4⟩
  have hp2d : decide (p.pat < 2) = false := decide_eq_false hp2
  go_enter Try.func4, Try.ntmps4
  go_wp2_with fail
  rw [HW0.out]
  refine (awake_at _).mono ?_; rintro e w1 ⟨rfl, hb1⟩
  replace hb := bl_trans hb hb1
  clear hb1
  go_wp2_with fail
  refine (new_at p.id p.term p.vote p.pat p.g.vs p.g.ls p.g.va p.g.vc p.g.la p.g.lc w1 (HGV.out.keep hb) (HGL.out.keep hb) HVM.out HLM.out).mono ?_
  rintro e w2 (⟨h, _⟩ | ⟨_, b, L, rfl, hN, hb3, hL⟩)
  · exact absurd HO.out (by rw [h]; decide)
  have hb4 := bl_trans hb hb3
  have HL := Lib.hid (show ∀ x, x ∈ L → w0.heap.size ≤ x from fun x hx => Nat.le_trans hb.size (hL x hx))
  have hH := heard_at hN src p.term
  have hq := heard_quiet (S := newNd p.id p.term p.vote p.pat p.g.vs p.g.ls p.g.va p.g.vc p.g.la p.g.lc) (src := src) ht9 rfl
  rw [show (newNd p.id p.term p.vote p.pat p.g.vs p.g.ls p.g.va p.g.vc p.g.la p.g.lc).term = p.term from rfl] at hq
  unfold HeardEnd at hH
  rw [hq] at hH
  clear hq hL hN hb hb3
  by_cases hoth : (newNd p.id p.term p.vote p.pat p.g.vs p.g.ls p.g.va p.g.vc p.g.la p.g.lc).other src = false
  · rw [if_pos hoth] at hH
    have hor : src < 1 ∨ 15 < src ∨ src = p.id := by
      by_cases c1 : 1 ≤ src
      · by_cases c2 : src ≤ 15
        · by_cases c3 : src = p.id
          · exact .inr (.inr c3)
          · simp [Nd.other, newNd, c1, c2, c3] at hoth
        · omega
      · omega
    have HH := Lib.hid hH
    clear hoth hH
    go_wp2_with fail
    refine HH.out.mono ?_; rintro e w3 ⟨rfl, L3, _, k3, _⟩
    have hb5 := hb4.trans (k3.to_below hb4.size HL.out)
    clear k3
    by_cases h1 : src < 1
    · go_wp2_with fail
      go_ret
      exact ⟨rfl, bl_trans HB.out hb5⟩
    have h1d : decide (src < 1) = false := decide_eq_false h1
    by_cases h2 : 15 < src
    · go_wp2_with fail
      go_ret
      exact ⟨rfl, bl_trans HB.out hb5⟩
    have h2d : decide (15 < src) = false := decide_eq_false h2
    have h3 : (src == p.id) = true := by simp; omega
    clear hor
    go_wp2_with fail
    go_ret
    exact ⟨rfl, bl_trans HB.out hb5⟩
  rw [if_neg hoth] at hH
  have HH := Lib.hid hH
  have hoth' : (quiet (newNd p.id p.term p.vote p.pat p.g.vs p.g.ls p.g.va p.g.vc p.g.la p.g.lc) src).other src ≠ false := hoth
  obtain ⟨S1, hS1⟩ : ∃ S1, S1 = quiet (newNd p.id p.term p.vote p.pat p.g.vs p.g.ls p.g.va p.g.vc p.g.la p.g.lc) src := ⟨_, rfl⟩
  rw [← hS1] at hoth'
  have f1 : S1.term = p.term := by rw [hS1]; rfl
  have f2 : S1.vote = p.vote := by rw [hS1]; rfl
  have f3 : S1.role = 0 := by rw [hS1]; rfl
  have f4 : S1.leader = src := by rw [hS1]; rfl
  have f5 : S1.waited = 0 := by rw [hS1]; rfl
  have f6 : S1.limit = p.pat := by rw [hS1]; rfl
  have f7 : S1.pat = p.pat := by rw [hS1]; rfl
  have f8 : S1.vs = p.g.vs := by rw [hS1]; rfl
  have hT := tick_quiet (S := S1) f3 (by omega)
  have hQ : S1.wait.heard src p.term = (S1, true) := by
    have hq := heard_quiet (S := S1.wait) (src := src) (by show S1.term ≤ maxIx; omega) (by exact f3)
    rw [if_neg (by exact hoth')] at hq
    rw [show p.term = S1.wait.term from f1.symm, hq, hS1]
    rfl
  have HT := Lib.hid hT
  have HQ := Lib.hid hQ
  clear hoth hH hT hQ hoth'
  go_wp2_with fail
  refine HH.out.mono ?_; rintro e w3 ⟨rfl, L3, hN3, k3, hL3⟩
  have hb5 := hb4.trans (k3.to_below hb4.size HL.out)
  have HN := Lib.hid (show NodeAt w3 b S1 L3 by rw [hS1]; exact hN3)
  have HL3 := Lib.hid (show ∀ x, x ∈ L3 → w0.heap.size ≤ x from fun x hx => by
    rcases hL3 x hx with h | h
    · exact HL.out x h
    · exact Nat.le_trans hb4.size h)
  clear hS1 hN3 k3 hL3 HL HH hb4
  go_wp2_with fail
  have hdm' : (gs.length : Int) ≤ 9223372036854775807 := by unfold maxLen at hdm; omega
  obtain ⟨N, hN⟩ : ∃ N, N = gs.length := ⟨_, rfl⟩
  rw [← hN] at hdm'
  have hNe := Lib.hid hN
  rw [← hN] at hdm ⊢
  clear hN
  go_loopg [11] N (fun g i wr => Below w0.heap.size w0 wr ∧ ∃ k : Nat, k ≤ N ∧ g = N - k ∧ i = .int .i64 k ∧ ∃ L', NodeAt wr b S1 L' ∧ ∀ x, x ∈ L' → w0.heap.size ≤ x)
  case atStart => exact ⟨hb5, 0, by omega, by omega, rfl, L3, HN.out, HL3.out⟩
  case round =>
    clear hb5
    obtain ⟨hb, k, hk0, hgk, rfl, L', hN, hL⟩ := hrel
    have HGK := Lib.hid hgk
    have HLL := Lib.hid hL
    have HNN := Lib.hid hN
    clear hgk hN hL
    by_cases hk : k < N
    · by_cases hk9 : (k : Int) < 100
      · have hk1 : (k : Int) < N := by omega
        have hk2 : (0 : Int) ≤ (k : Int) := by omega
        obtain ⟨b1, o1, rfl, hc⟩ := (hd0.out.keep hb) k (by rw [← hNe.out]; exact hk)
        obtain ⟨x, hx⟩ : ∃ x, x = gs.getD k 0 := ⟨_, rfl⟩
        rw [← hx] at hc
        clear hx
        have hti := tick_at HNN.out (by omega) (by omega) (by rw [f8]; omega) (by omega) (by omega) (by omega) (by omega) x 0 0
        rw [HT.out] at hti
        have HTI := Lib.hid hti
        clear hti
        go_wp2_with fail
        refine HTI.out.mono ?_; rintro e w4 ⟨v, rfl, L4, hN4, k4, hL4, hv4, _⟩
        obtain ⟨va, vc, rfl, _, _⟩ := hv4.len
        have hb6 := hb.trans (k4.to_below hb.size HLL.out)
        have HL4 := Lib.hid (show ∀ x, x ∈ L4 → w0.heap.size ≤ x from fun x hx => by
          rcases hL4 x hx with h | h
          · exact HLL.out x h
          · exact Nat.le_trans hb.size h)
        have hH := heard_at hN4 src p.term
        unfold HeardEnd at hH
        rw [HQ.out] at hH
        have HH := Lib.hid hH
        clear hv4 hL4 k4 hN4 HTI HLL hb hH hc HNN
        go_wp2_with fail
        refine HH.out.mono ?_; rintro e w5 ⟨rfl, L5, hN5, k5, hL5⟩
        have HB7 := Lib.hid (hb6.trans (k5.to_below hb6.size HL4.out))
        have HL5 := Lib.hid (show ∀ x, x ∈ L5 → w0.heap.size ≤ x from fun x hx => by
          rcases hL5 x hx with h | h
          · exact HL4.out x h
          · exact Nat.le_trans hb6.size h)
        have HN5 := Lib.hid hN5
        have hro := fun (W : World) (h : Below w5.heap.size w5 W) => role_at (HN5.out.below h)
        have hhd := fun (W : World) (h : Below w5.heap.size w5 W) => hard_at (HN5.out.below h)
        have hld := fun (W : World) (h : Below w5.heap.size w5 W) => leader_at (HN5.out.below h)
        rw [f3] at hro
        rw [f1, f2] at hhd
        rw [f4] at hld
        have u1 : ∀ W, Below w5.heap.size w5 W → W.cell? ⟨w.heap.size, 1, none⟩ = some (.int .i64 p.term) := fun W h => q1 W (bl_trans HB7.out h)
        have u2 : ∀ W, Below w5.heap.size w5 W → W.cell? ⟨w.heap.size, 2, none⟩ = some (.int .i64 p.vote) := fun W h => q2 W (bl_trans HB7.out h)
        have hb := Below.refl w5.heap.size w5
        clear q0 q1 q2 q3 q4 q5 hb6 hL5 k5 hN5 HH HL4
        go_wp2_with fail
        refine wp_region_in (Below w5.heap.size w5) (fun i => i == 5 || i == 10 || i == 17) (by kernel_rfl) (by kernel_rfl) (by exact hb.drew) ?_
        intro hne hx
        replace hb := hb.drew
        refine stg_seg 5 (by dsimp only [List.take]) (by dsimp only [List.drop]) (by rfl) ?_
        repeat (go_big_quiet_step (fail))
        refine wpQuiet_nil ?_
        refine stg_loud (by rfl) ?_
        go_wp2_with fail
        refine (hro _ hb).mono ?_; rintro e w6 ⟨rfl, rfl⟩
        go_wp2_with fail
        refine lq_in rfl (hb) ?_
        refine stg_seg 4 (by dsimp only [List.take]) (by dsimp only [List.drop]) (by rfl) ?_
        repeat (go_big_quiet_step (fail))
        refine wpQuiet_nil ?_
        refine stg_loud (by rfl) ?_
        go_wp2_with fail
        refine (hhd _ hb).mono ?_; rintro e w6 ⟨rfl, hb2⟩
        replace hb := bl_trans hb hb2
        clear hb2
        go_wp2_with fail
        refine lq_in rfl (hb) ?_
        refine stg_seg 6 (by dsimp only [List.take]) (by dsimp only [List.drop]) (by rfl) ?_
        repeat (go_big_quiet_step (fail))
        refine wpQuiet_nil ?_
        refine stg_loud (by rfl) ?_
        go_wp2_with fail
        refine (hld _ hb).mono ?_; rintro e w7 ⟨rfl, rfl⟩
        go_wp2_with fail
        refine lq_in rfl (hb) ?_
        refine stg_seg 3 (by dsimp only [List.take]) (by dsimp only [List.drop]) (by rfl) ?_
        repeat (go_big_quiet_step (fail))
        refine wpQuiet_nil ?_
        refine stg_nil ?_
        clear hne hx
        go_wp2_with fail
        go_roundg (N - (k + 1))
        case measure => have := HGK.out; omega
        case rel => exact ⟨bl_trans HB7.out hb, k + 1, by omega, rfl, by go_num, L5, HN5.out.below hb, HL5.out⟩
      · have hk1 : (k : Int) < N := by omega
        have hk9d : decide ((k : Int) < 100) = false := decide_eq_false hk9
        go_wp2_with fail
        go_ret
        exact ⟨rfl, bl_trans HB.out hb⟩
    · have hk1 : decide ((k : Int) < N) = false := decide_eq_false (by omega)
      go_wp2_with fail
      go_ret
      exact ⟨rfl, bl_trans HB.out hb⟩
end Go.Proofs.Ytiamfdnllpiikaa
