/- elect: Tick. Conditions: none. -/
import Derived.Test.YtiamfdnllpiikaaElRun
namespace Go.Proofs.Ytiamfdnllpiikaa
open Go.RowKit


theorem cell_oth {w : World} {b i j : Nat} {v u : Value} (h : w.cell? ⟨b, i, none⟩ = some v) (hij : i ≠ j) : (w.setCell ⟨b, j, none⟩ u).cell? ⟨b, i, none⟩ = some v :=
  (World.cell?_setCell_other _ _ _ _ (fun e => hij (by injection e with e1 e2 e3; exact e2.symm))).trans h
theorem Bals.from_ {w w1 w2 : World} {v : Value} {l : List Bal} (hv : Bals w1 w2 v l) (k : w.heap.size ≤ w1.heap.size) : Bals w w2 v l :=
  ⟨hv.1, by
    rcases hv.2 with h1 | ⟨g, cap, cur, h1, h2, h3⟩
    · exact .inl h1
    · exact .inr ⟨g, cap, cur, h1, Nat.le_trans k h2, h3⟩⟩
theorem tick_lead {S : Nd} (h : S.role = 3) (draw last lt : Int) : S.tick draw last lt = (S, []) := by unfold Nd.tick; rw [if_pos h]
theorem tick_wait {S : Nd} (h : ¬ S.role = 3) (h2 : S.waited + 1 < S.limit ∨ ¬ S.id ∈ S.vs) (draw last lt : Int) : S.tick draw last lt = (S.wait, []) := by unfold Nd.tick; rw [if_neg h, if_pos h2]
theorem tick_run {S : Nd} (h : ¬ S.role = 3) (h2 : ¬ (S.waited + 1 < S.limit ∨ ¬ S.id ∈ S.vs)) {draw : Int} (h3 : (S.hope draw).win = true) (last lt : Int) : S.tick draw last lt = (S.hope draw).run last lt := by unfold Nd.tick; rw [if_neg h, if_neg h2, if_pos h3]
theorem tick_ask {S : Nd} (h : ¬ S.role = 3) (h2 : ¬ (S.waited + 1 < S.limit ∨ ¬ S.id ∈ S.vs)) {draw : Int} (h3 : ¬ (S.hope draw).win = true) (last lt : Int) : S.tick draw last lt = (S.hope draw, (S.hope draw).all 1 (S.term + 1) last lt) := by unfold Nd.tick; rw [if_neg h, if_neg h2, if_neg h3]

set_option maxRecDepth 100000 in
set_option maxHeartbeats 2000000 in
theorem tick_at {b : Nat} {S : Nd} {L : List Nat} {w : World} (h : NodeAt w b S L) (h0 : 0 ≤ S.term) (ht : S.term ≤ maxIx) (hv : S.vs.length ≤ 1000) (hw0 : 0 ≤ S.waited) (hw9 : S.waited ≤ 1000000000) (hp : 1 ≤ S.pat) (hp9 : S.pat ≤ 1000) (draw last lt : Int) :
    Calls Try.prog 11 #[.pointer (some ⟨b, 0, none⟩), .int .i64 draw, .int .i64 last, .int .i64 lt] w fun e w' => Sends w b (S.tick draw last lt).1 L (S.tick draw last lt).2 e w' := by
  have HH := Lib.hid h
  obtain ⟨m, es, clock, yv, nv, hx⟩ := h
  have c0 := hx.cell 0
  have c1 := hx.cell 1
  have c2 := hx.cell 2
  have c3 := hx.cell 3
  have c4 := hx.cell 4
  have c5 := hx.cell 5
  have c6 := hx.cell 6
  have c7 := hx.cell 7
  have c8 := hx.cell 8
  have c9 := hx.cell 9
  have c10 := hx.cell 10
  have fz := hx.frozen
  simp only [nodeC, List.getElem?_toArray, List.getElem?_cons_zero, List.getElem?_cons_succ] at c0 c1 c2 c3 c4 c5 c6 c7 c8 c9 c10
  have HX := Lib.hid hx
  clear hx
  unfold maxIx at ht
  by_cases hl : S.role = 3
  · have HE := Lib.hid (tick_lead hl draw last lt)
    have hl' : (S.role == 3) = true := by simp [hl]
    clear hl
    go_enter Try.func11, Try.ntmps11
    go_wp2_with fail
    go_ret
    rw [HE.out]
    exact Sends.none HH.out (Chg.refl _ _) (fun x hx => .inl hx)
  have HL := Lib.hid hl
  have hl' : (S.role == 3) = false := by simp [hl]
  clear hl
  obtain ⟨h1, k1⟩ := HH.out.scal (S' := S.wait) ((Chg.refl _ w).set (p := ⟨b, 8, none⟩) (by simp) (.int .i64 (S.waited + 1))) (fun m h => blk_set h 8 _) ⟨rfl, rfl⟩ ⟨rfl, rfl⟩ rfl rfl
  obtain ⟨W1, hW1⟩ : ∃ W1, W1 = w.setCell ⟨b, 8, none⟩ (.int .i64 (S.waited + 1)) := ⟨_, rfl⟩
  rw [← hW1] at h1 k1
  have HN1 := Lib.hid h1
  have HK1 := Lib.hid k1
  have HW1 := Lib.hid hW1
  clear hW1
  obtain ⟨m1, es1, clock1, yv1, nv1, hx1⟩ := h1
  have HX1 := Lib.hid hx1
  go_enter Try.func11, Try.ntmps11
  go_wp2_with fail
  rw [← HW1.out]
  clear c0 c1 c2 c3 c4 c5 c6 c7 c8 c9 c10 fz k1
  have hcB : ∀ (i : Nat) (W' : World), Below W1.heap.size W1 W' → W'.cell? ⟨b, i, none⟩ = (nodeC (S.wait) m1)[i]? := fun i W' h => (hx1.below h).cell i
  have r0 := hcB 0
  have r1 := hcB 1
  have r2 := hcB 2
  have r3 := hcB 3
  have r4 := hcB 4
  have r5 := hcB 5
  have r6 := hcB 6
  have r7 := hcB 7
  have r8 := hcB 8
  have r9 := hcB 9
  have r10 := hcB 10
  have rz : ∀ (i : Nat) (W' : World), Below W1.heap.size W1 W' → W'.frozen? ⟨b, i, none⟩ = false := fun i W' h => (hx1.below h).frozen i
  simp only [nodeC, List.getElem?_toArray, List.getElem?_cons_zero, List.getElem?_cons_succ] at r0 r1 r2 r3 r4 r5 r6 r7 r8 r9 r10
  clear hcB
  clear hx1
  have hb := Below.refl W1.heap.size W1
  have HCO := Lib.hid (fun (W : World) (h : Below W1.heap.size W1 W) => contains_at S.va S.vs S.vc S.id W (HX1.out.below h).vs.at_ HX1.out.vl)
  simp only [Nd.wait] at r0 r1 r2 r3 r4 r5 r6 r7 r8 r9 r10
  by_cases hq : S.waited + 1 < S.limit
  · have HE := Lib.hid (tick_wait HL.out (.inl hq) draw last lt)
    go_wp2_with fail
    refine wp_region_in (Below W1.heap.size W1) (fun i => i == 19) (by kernel_rfl) (by kernel_rfl) (by exact hb.drew) ?_
    intro hne hx
    replace hb := hb.drew
    refine stg_seg 19 (by dsimp only [List.take]) (by dsimp only [List.drop]) (by rfl) ?_
    repeat (go_big_quiet_step (fail))
    refine wpQuiet_nil ?_
    refine stg_loud (by rfl) ?_
    go_wp2_with fail
    refine lq_in rfl (hb) ?_
    refine stg_seg 2 (by dsimp only [List.take]) (by dsimp only [List.drop]) (by rfl) ?_
    repeat (go_big_quiet_step (fail))
    refine wpQuiet_nil ?_
    refine stg_nil ?_
    clear hne hx
    go_wp2_with fail
    go_ret
    rw [HE.out]
    exact Sends.none (HN1.out.below hb) (HK1.out.below hb) (fun x hx => .inl hx)
  have hqd : decide (S.waited + 1 < S.limit) = false := decide_eq_false hq
  by_cases hi : S.id ∈ S.vs
  · rw [decide_eq_true hi] at HCO
    have HQ := Lib.hid (show ¬ (S.waited + 1 < S.limit ∨ ¬ S.id ∈ S.vs) by simp [hi]; omega)
    clear hi
    go_wp2_with fail
    refine wp_region_in (Below W1.heap.size W1) (fun i => i == 19) (by kernel_rfl) (by kernel_rfl) (by exact hb.drew) ?_
    intro hne hx
    replace hb := hb.drew
    refine stg_seg 19 (by dsimp only [List.take]) (by dsimp only [List.drop]) (by rfl) ?_
    repeat (go_big_quiet_step (fail))
    refine wpQuiet_nil ?_
    refine stg_loud (by rfl) ?_
    go_wp2_with fail
    refine (HCO.out _ hb).mono ?_; rintro e w2 ⟨rfl, rfl⟩
    go_wp2_with fail
    refine lq_in rfl (hb) ?_
    refine stg_seg 2 (by dsimp only [List.take]) (by dsimp only [List.drop]) (by rfl) ?_
    repeat (go_big_quiet_step (fail))
    refine wpQuiet_nil ?_
    refine stg_nil ?_
    clear hne hx
    go_wp2_with fail
    have HN2 := Lib.hid (HN1.out.below hb.drew)
    have HK2 := Lib.hid (HK1.out.below hb.drew)
    have hR0 : 0 ≤ max draw 0 := by omega
    have hR1 := Int.emod_nonneg (max draw 0) (show S.pat ≠ 0 by omega)
    have hR2 := Int.emod_lt_of_pos (max draw 0) (show 0 < S.pat by omega)
    have hRt : (max draw 0).tmod S.pat = max draw 0 % S.pat := Int.tmod_eq_emod_of_nonneg hR0
    obtain ⟨D, hD⟩ : ∃ D, D = max draw 0 := ⟨_, rfl⟩
    obtain ⟨R, hR⟩ : ∃ R, R = D % S.pat := ⟨_, rfl⟩
    rw [← hD, ← hR] at hR1 hR2 hRt
    have HR := Lib.hid (show R = max draw 0 % S.pat by rw [hR, hD])
    have HD := Lib.hid hD
    have hp0 : S.pat ≠ 0 := by omega
    have hwr : IntKind.i64.wrap R = R := IntWalk.i64_in _ (by omega)
    have hwp : IntKind.i64.wrap (S.pat + R) = S.pat + R := IntWalk.i64_in _ (by omega)
    clear hR hD hR0
    obtain ⟨m2, es2, clock2, yv2, nv2, hx⟩ := HN2.out
    clear r0 r1 r2 r3 r4 r5 r6 r7 r8 r9 r10 rz HX1 HX hb HN1 HK1 HCO
    have c0 := hx.cell 0
    have c1 := hx.cell 1
    have c2 := hx.cell 2
    have c3 := hx.cell 3
    have c4 := hx.cell 4
    have c5 := hx.cell 5
    have c6 := hx.cell 6
    have c7 := hx.cell 7
    have c8 := hx.cell 8
    have c9 := hx.cell 9
    have c10 := hx.cell 10
    have fz := hx.frozen
    simp only [nodeC, List.getElem?_toArray, List.getElem?_cons_zero, List.getElem?_cons_succ] at c0 c1 c2 c3 c4 c5 c6 c7 c8 c9 c10
    clear hx
    simp only [Nd.wait] at c0 c1 c2 c3 c4 c5 c6 c7 c8 c9 c10
    by_cases hd : draw < 0
    · have hD0 : D = 0 := by rw [HD.out]; omega
      subst hD0
      have hd' : decide (draw < 0) = true := by simpa using hd
      refine wp_region_in (fun W => W.cell? ⟨b, 1, none⟩ = some (.int .i64 S.pat)) (fun i => i == 17 || i == 20 || i == 23) (by kernel_rfl) (by kernel_rfl) (by exact by exact c1) ?_
      intro hne hx
      change wpStg _ _ _ _ _ _ _ _ W1.drew.drew
      obtain ⟨W3, hW3⟩ : ∃ W3, W3 = W1.drew.drew := ⟨_, rfl⟩
      rw [← hW3] at c0 c1 c2 c3 c4 c5 c6 c7 c8 c9 c10 fz HN2 HK2 ⊢
      clear hW3
      refine stg_seg 17 (by dsimp only [List.take]) (by dsimp only [List.drop]) (by rfl) ?_
      repeat (go_big_quiet_step (fail))
      refine wpQuiet_nil ?_
      refine stg_loud (by rfl) ?_
      go_wp2_with fail
      refine lq_in rfl (cell_oth c1 (by decide)) ?_
      refine stg_seg 2 (by dsimp only [List.take]) (by dsimp only [List.drop]) (by rfl) ?_
      repeat (go_big_quiet_step (fail))
      refine wpQuiet_nil ?_
      refine stg_loud (by rfl) ?_
      go_wp2_with fail
      refine lq_in rfl (cell_oth (cell_oth c1 (by decide)) (by decide)) ?_
      refine stg_seg 2 (by dsimp only [List.take]) (by dsimp only [List.drop]) (by rfl) ?_
      repeat (go_big_quiet_step (fail))
      refine wpQuiet_nil ?_
      refine stg_loud (by rfl) ?_
      go_wp2_with fail
      refine lq_in rfl (cell_oth (cell_oth (cell_oth c1 (by decide)) (by decide)) (by decide)) ?_
      refine stg_nil ?_
      clear hne hx
      go_wp2_with fail
      obtain ⟨h1, k1⟩ := HN2.out.scal (S' := { S with waited := 0, limit := S.pat + R, leader := 0 }) ((((Chg.refl _ W3).set (p := ⟨b, 8, none⟩) (by simp) (.int .i64 0)).set (p := ⟨b, 9, none⟩) (by simp) (.int .i64 (S.pat + R))).set (p := ⟨b, 7, none⟩) (by simp) (.int .i64 0)) (fun m h => blk_set (blk_set (blk_set h 8 _) 9 _) 7 _) ⟨rfl, rfl⟩ ⟨rfl, rfl⟩ rfl rfl
      refine (alone_at h1 1).mono ?_; rintro e w2 ⟨rfl, L2, h2, k2, hL2⟩
      obtain ⟨k1, hL1⟩ := Moves.trans HK2.out (fun x hx => .inl hx) k1 (fun x hx => .inl hx)
      obtain ⟨k2, hL2⟩ := Moves.trans k1 hL1 k2 hL2
      rw [HR.out] at h2 ⊢
      have HN := Lib.hid (show NodeAt w2 b (S.hope draw) L2 from h2)
      rw [show (({ S with waited := 0, limit := S.pat + max draw 0 % S.pat, leader := 0 } : Nd).alone 1).win = (S.hope draw).win from rfl]
      have HK := Lib.hid k2
      have HLL := Lib.hid hL2
      have HT := Lib.hid (show (S.hope draw).term = S.term ∧ (S.hope draw).vs = S.vs from ⟨rfl, rfl⟩)
      have HG := Lib.hid (fun h => tick_run HL.out HQ.out (draw := draw) h last lt)
      have HA := Lib.hid (fun h => tick_ask HL.out HQ.out (draw := draw) h last lt)
      clear h1 k1 hL1 h2 k2 hL2 c0 c1 c2 c3 c4 c5 c6 c7 c8 c9 c10 fz
      obtain ⟨S', hS⟩ : ∃ S', S' = S.hope draw := ⟨_, rfl⟩
      rw [← hS] at HN HT HG HA ⊢
      clear hS
      by_cases hw : S'.win = true
      · rw [hw]
        have hr := run_at HN.out (by rw [HT.out.1]; exact h0) (by rw [HT.out.2]; exact hv) last lt
        go_wp2_with fail
        refine hr.mono ?_; rintro e w4 ⟨v, rfl, L4, h4, k4, hL4, hb4, ho4⟩
        go_wp2_with fail
        go_ret
        rw [HG.out hw]
        obtain ⟨k5, hL5⟩ := Moves.trans HK.out HLL.out k4 hL4
        exact ⟨v, rfl, L4, h4, k5, hL5, Bals.from_ hb4 HK.out.size, ho4⟩
      · rw [eq_false_of_ne_true hw]
        obtain ⟨m, es, clock, yv, nv, hx⟩ := HN.out
        have c2 := hx.cell 2
        simp only [nodeC, List.getElem?_toArray, List.getElem?_cons_zero, List.getElem?_cons_succ] at c2
        rw [HT.out.1] at c2
        have hal := all_at HN.out (by rw [HT.out.2]; exact hv) 1 (S.term + 1) last lt
        clear hx
        go_wp2_with fail
        refine hal.mono ?_; rintro e w3 ⟨v, rfl, hbv, hb⟩
        go_wp2_with fail
        go_ret
        rw [HA.out hw]
        exact Sends.some HN.out HK.out HLL.out hbv hb
    · have hD0 : D = draw := by rw [HD.out]; omega
      subst hD0
      have hd' : decide (D < 0) = false := by simpa using hd
      refine wp_region_in (fun W => W.cell? ⟨b, 1, none⟩ = some (.int .i64 S.pat)) (fun i => i == 17 || i == 20 || i == 23) (by kernel_rfl) (by kernel_rfl) (by exact by exact c1) ?_
      intro hne hx
      change wpStg _ _ _ _ _ _ _ _ W1.drew.drew
      obtain ⟨W3, hW3⟩ : ∃ W3, W3 = W1.drew.drew := ⟨_, rfl⟩
      rw [← hW3] at c0 c1 c2 c3 c4 c5 c6 c7 c8 c9 c10 fz HN2 HK2 ⊢
      clear hW3
      refine stg_seg 17 (by dsimp only [List.take]) (by dsimp only [List.drop]) (by rfl) ?_
      repeat (go_big_quiet_step (fail))
      refine wpQuiet_nil ?_
      refine stg_loud (by rfl) ?_
      go_wp2_with fail
      refine lq_in rfl (cell_oth c1 (by decide)) ?_
      refine stg_seg 2 (by dsimp only [List.take]) (by dsimp only [List.drop]) (by rfl) ?_
      repeat (go_big_quiet_step (fail))
      refine wpQuiet_nil ?_
      refine stg_loud (by rfl) ?_
      go_wp2_with fail
      refine lq_in rfl (cell_oth (cell_oth c1 (by decide)) (by decide)) ?_
      refine stg_seg 2 (by dsimp only [List.take]) (by dsimp only [List.drop]) (by rfl) ?_
      repeat (go_big_quiet_step (fail))
      refine wpQuiet_nil ?_
      refine stg_loud (by rfl) ?_
      go_wp2_with fail
      refine lq_in rfl (cell_oth (cell_oth (cell_oth c1 (by decide)) (by decide)) (by decide)) ?_
      refine stg_nil ?_
      clear hne hx
      go_wp2_with fail
      obtain ⟨h1, k1⟩ := HN2.out.scal (S' := { S with waited := 0, limit := S.pat + R, leader := 0 }) ((((Chg.refl _ W3).set (p := ⟨b, 8, none⟩) (by simp) (.int .i64 0)).set (p := ⟨b, 9, none⟩) (by simp) (.int .i64 (S.pat + R))).set (p := ⟨b, 7, none⟩) (by simp) (.int .i64 0)) (fun m h => blk_set (blk_set (blk_set h 8 _) 9 _) 7 _) ⟨rfl, rfl⟩ ⟨rfl, rfl⟩ rfl rfl
      refine (alone_at h1 1).mono ?_; rintro e w2 ⟨rfl, L2, h2, k2, hL2⟩
      obtain ⟨k1, hL1⟩ := Moves.trans HK2.out (fun x hx => .inl hx) k1 (fun x hx => .inl hx)
      obtain ⟨k2, hL2⟩ := Moves.trans k1 hL1 k2 hL2
      rw [HR.out] at h2 ⊢
      have HN := Lib.hid (show NodeAt w2 b (S.hope D) L2 from h2)
      rw [show (({ S with waited := 0, limit := S.pat + max D 0 % S.pat, leader := 0 } : Nd).alone 1).win = (S.hope D).win from rfl]
      have HK := Lib.hid k2
      have HLL := Lib.hid hL2
      have HT := Lib.hid (show (S.hope D).term = S.term ∧ (S.hope D).vs = S.vs from ⟨rfl, rfl⟩)
      have HG := Lib.hid (fun h => tick_run HL.out HQ.out (draw := D) h last lt)
      have HA := Lib.hid (fun h => tick_ask HL.out HQ.out (draw := D) h last lt)
      clear h1 k1 hL1 h2 k2 hL2 c0 c1 c2 c3 c4 c5 c6 c7 c8 c9 c10 fz
      obtain ⟨S', hS⟩ : ∃ S', S' = S.hope D := ⟨_, rfl⟩
      rw [← hS] at HN HT HG HA ⊢
      clear hS
      by_cases hw : S'.win = true
      · rw [hw]
        have hr := run_at HN.out (by rw [HT.out.1]; exact h0) (by rw [HT.out.2]; exact hv) last lt
        go_wp2_with fail
        refine hr.mono ?_; rintro e w4 ⟨v, rfl, L4, h4, k4, hL4, hb4, ho4⟩
        go_wp2_with fail
        go_ret
        rw [HG.out hw]
        obtain ⟨k5, hL5⟩ := Moves.trans HK.out HLL.out k4 hL4
        exact ⟨v, rfl, L4, h4, k5, hL5, Bals.from_ hb4 HK.out.size, ho4⟩
      · rw [eq_false_of_ne_true hw]
        obtain ⟨m, es, clock, yv, nv, hx⟩ := HN.out
        have c2 := hx.cell 2
        simp only [nodeC, List.getElem?_toArray, List.getElem?_cons_zero, List.getElem?_cons_succ] at c2
        rw [HT.out.1] at c2
        have hal := all_at HN.out (by rw [HT.out.2]; exact hv) 1 (S.term + 1) last lt
        clear hx
        go_wp2_with fail
        refine hal.mono ?_; rintro e w3 ⟨v, rfl, hbv, hb⟩
        go_wp2_with fail
        go_ret
        rw [HA.out hw]
        exact Sends.some HN.out HK.out HLL.out hbv hb
  · rw [decide_eq_false hi] at HCO
    have HE := Lib.hid (tick_wait HL.out (.inr hi) draw last lt)
    clear hi
    go_wp2_with fail
    refine wp_region_in (Below W1.heap.size W1) (fun i => i == 19) (by kernel_rfl) (by kernel_rfl) (by exact hb.drew) ?_
    intro hne hx
    replace hb := hb.drew
    refine stg_seg 19 (by dsimp only [List.take]) (by dsimp only [List.drop]) (by rfl) ?_
    repeat (go_big_quiet_step (fail))
    refine wpQuiet_nil ?_
    refine stg_loud (by rfl) ?_
    go_wp2_with fail
    refine (HCO.out _ hb).mono ?_; rintro e w2 ⟨rfl, rfl⟩
    go_wp2_with fail
    refine lq_in rfl (hb) ?_
    refine stg_seg 2 (by dsimp only [List.take]) (by dsimp only [List.drop]) (by rfl) ?_
    repeat (go_big_quiet_step (fail))
    refine wpQuiet_nil ?_
    refine stg_nil ?_
    clear hne hx
    go_wp2_with fail
    go_ret
    rw [HE.out]
    exact Sends.none (HN1.out.below hb) (HK1.out.below hb) (fun x hx => .inl hx)
end Go.Proofs.Ytiamfdnllpiikaa
