/- The reference's node: Tick. Conditions: none. -/
import Derived.Test.YtiamfdnllpiikaaElRefC
namespace Go.Proofs.Ytiamfdnllpiikaa
open Go.RowKit
set_option maxRecDepth 100000 in
set_option maxHeartbeats 4000000 in
theorem rtick_at {b : Nat} {S : Nd} {L : List Nat} {w : World} (h : RefAt w b S L) (h0 : 0 ≤ S.term) (ht : S.term ≤ maxIx) (hv : S.vs.length ≤ 1000) (hw0 : 0 ≤ S.waited) (hw9 : S.waited ≤ 1000000000) (hp : 1 ≤ S.pat) (hp9 : S.pat ≤ 1000) (draw last lt : Int) :
    Calls Try.prog 24 #[.pointer (some ⟨b, 0, none⟩), .int .i64 draw, .int .i64 last, .int .i64 lt] w fun e w' => SendsR w b (S.tick draw last lt).1 L (S.tick draw last lt).2 e w' := by
  obtain ⟨yv, nv, hx⟩ := h
  have HX := Lib.hid hx
  have c0 := hx.cell 0
  have c1 := hx.cell 1
  have c2 := hx.cell 2
  have c3 := hx.cell 3
  have c4 := hx.cell 4
  have c5 := hx.cell 5
  have c6 := hx.cell 6
  have c7 := hx.cell 7
  have c8 := hx.cell 8
  have c9 := hx.cell 9
  have c10 := hx.cell 10
  have c11 := hx.cell 11
  have fz := hx.frozen
  simp only [refC, List.getElem?_toArray, List.getElem?_cons_zero, List.getElem?_cons_succ] at c0 c1 c2 c3 c4 c5 c6 c7 c8 c9 c10 c11
  clear hx
  unfold maxIx at ht
  have hwt : IntKind.i64.wrap (S.term + 1) = S.term + 1 := IntWalk.i64_in _ (by omega)
  by_cases hl : S.role = 3
  · have HE := Lib.hid (tick_lead hl draw last lt)
    have hl' : (S.role == 3) = true := by simp [hl]
    clear hl
    go_enter Try.func24, Try.ntmps24
    go_wp2_with fail
    go_ret
    rw [HE.out]
    exact SendsR.none ⟨_, _, HX.out⟩ (Chg.refl _ _) (fun x hx => .inl hx)
  have HL : RowKit.Hid (S.role ≠ 3) := Lib.hid hl
  have hl' : (S.role == 3) = false := by simp [hl]
  clear hl
  have k1 := (Chg.refl [b] w).set (p := ⟨b, 8, none⟩) (by simp) (.int .i64 (S.waited + 1))
  have h1 := HX.out.scal (S' := S.wait) k1 (blk_set HX.out.blk 8 _) ⟨rfl, rfl⟩ ⟨rfl, rfl⟩ rfl rfl
  have HKK := Lib.hid (k1.up1 HX.out.inb)
  obtain ⟨W1, hW1⟩ : ∃ W1, W1 = w.setCell ⟨b, 8, none⟩ (.int .i64 (S.waited + 1)) := ⟨_, rfl⟩
  rw [← hW1] at h1 HKK
  have HX1 := Lib.hid h1
  have HW1 := Lib.hid hW1
  clear hW1 k1 h1
  go_enter Try.func24, Try.ntmps24
  go_wp2_with fail
  rw [← HW1.out]
  clear c0 c1 c2 c3 c4 c5 c6 c7 c8 c9 c10 c11 fz
  have hcB : ∀ (i : Nat) (W' : World), Below W1.heap.size W1 W' → W'.cell? ⟨b, i, none⟩ = (refC (S.wait) (yv) (nv))[i]? := fun i W' h => (HX1.out.below h).cell i
  have r0 := hcB 0
  have r1 := hcB 1
  have r2 := hcB 2
  have r3 := hcB 3
  have r4 := hcB 4
  have r5 := hcB 5
  have r6 := hcB 6
  have r7 := hcB 7
  have r8 := hcB 8
  have r9 := hcB 9
  have r10 := hcB 10
  have r11 := hcB 11
  have rz : ∀ (i : Nat) (W' : World), Below W1.heap.size W1 W' → W'.frozen? ⟨b, i, none⟩ = false := fun i W' h => (HX1.out.below h).frozen i
  simp only [refC, List.getElem?_toArray, List.getElem?_cons_zero, List.getElem?_cons_succ] at r0 r1 r2 r3 r4 r5 r6 r7 r8 r9 r10 r11
  clear hcB
  have hb := Below.refl W1.heap.size W1
  simp only [Nd.wait] at r0 r1 r2 r3 r4 r5 r6 r7 r8 r9 r10 r11
  refine wp_region_in (Below W1.heap.size W1) (fun i => i == 9) (by kernel_rfl) (by kernel_rfl) (by exact hb.drew) ?_
  intro hne hx
  replace hb := hb.drew
  refine stg_seg 9 (by dsimp only [List.take]) (by dsimp only [List.drop]) (by rfl) ?_
  repeat (go_big_quiet_step (fail))
  refine wpQuiet_nil ?_
  refine stg_loud (by rfl) ?_
  go_wp2_with fail
  refine (has_at S.va S.vs S.vc S.id _ (HX1.out.below hb).vs.at_ HX1.out.vl).mono ?_; rintro e w2 ⟨rfl, rfl⟩
  go_wp2_with fail
  refine lq_in rfl (hb) ?_
  refine stg_seg 1 (by dsimp only [List.take]) (by dsimp only [List.drop]) (by rfl) ?_
  repeat (go_big_quiet_step (fail))
  refine wpQuiet_nil ?_
  refine stg_nil ?_
  clear hne hx
  go_wp2_with fail
  by_cases hq : S.waited + 1 < S.limit
  · have HE := Lib.hid (tick_wait HL.out (.inl hq) draw last lt)
    have hqd : decide (S.waited + 1 < S.limit) = true := decide_eq_true hq
    clear hq
    refine wp_region_in (Below W1.heap.size W1) (fun _ => false) (by kernel_rfl) (by kernel_rfl) (by exact hb.drew) ?_
    intro hne hx
    replace hb := hb.drew
    refine stg_seg 13 (by dsimp only [List.take]) (by dsimp only [List.drop]) (by rfl) ?_
    repeat (go_big_quiet_step (fail))
    refine wpQuiet_nil ?_
    refine stg_nil ?_
    clear hne hx
    go_wp2_with fail
    go_ret
    rw [HE.out]
    exact SendsR.none ⟨_, _, HX1.out.below hb⟩ (HKK.out.below hb) (fun x hx => .inl hx)
  have hqd : decide (S.waited + 1 < S.limit) = false := decide_eq_false hq
  by_cases hi : S.id ∈ S.vs
  · rw [decide_eq_true hi]
    have HQ := Lib.hid (show ¬ (S.waited + 1 < S.limit ∨ ¬ S.id ∈ S.vs) by simp [hi]; omega)
    clear hi hq
    refine wp_region_in (Below W1.heap.size W1) (fun _ => false) (by kernel_rfl) (by kernel_rfl) (by exact hb.drew) ?_
    intro hne hx
    replace hb := hb.drew
    change wpStg _ _ _ _ _ _ _ _ W1.drew.drew
    obtain ⟨W2, hW2⟩ : ∃ W2, W2 = W1.drew.drew := ⟨_, rfl⟩
    rw [← hW2] at hb ⊢
    clear hW2
    refine stg_seg 13 (by dsimp only [List.take]) (by dsimp only [List.drop]) (by rfl) ?_
    repeat (go_big_quiet_step (fail))
    refine wpQuiet_nil ?_
    refine stg_nil ?_
    clear hne hx
    have hx := HX1.out.below hb
    have HX2 := Lib.hid hx
    have HK2 := Lib.hid (HKK.out.below hb)
    clear r0 r1 r2 r3 r4 r5 r6 r7 r8 r9 r10 r11 rz hb HX1 HKK
    have c0 := hx.cell 0
    have c1 := hx.cell 1
    have c2 := hx.cell 2
    have c3 := hx.cell 3
    have c4 := hx.cell 4
    have c5 := hx.cell 5
    have c6 := hx.cell 6
    have c7 := hx.cell 7
    have c8 := hx.cell 8
    have c9 := hx.cell 9
    have c10 := hx.cell 10
    have c11 := hx.cell 11
    have fz := hx.frozen
    simp only [refC, List.getElem?_toArray, List.getElem?_cons_zero, List.getElem?_cons_succ] at c0 c1 c2 c3 c4 c5 c6 c7 c8 c9 c10 c11
    clear hx
    simp only [Nd.wait] at c0 c1 c2 c3 c4 c5 c6 c7 c8 c9 c10 c11
    have hR0 : 0 ≤ max draw 0 := by omega
    have hR1 := Int.emod_nonneg (max draw 0) (show S.pat ≠ 0 by omega)
    have hR2 := Int.emod_lt_of_pos (max draw 0) (show 0 < S.pat by omega)
    have hRt : (max draw 0).tmod S.pat = max draw 0 % S.pat := Int.tmod_eq_emod_of_nonneg hR0
    obtain ⟨D, hD⟩ : ∃ D, D = max draw 0 := ⟨_, rfl⟩
    obtain ⟨R, hR⟩ : ∃ R, R = D % S.pat := ⟨_, rfl⟩
    rw [← hD, ← hR] at hR1 hR2 hRt
    have HR := Lib.hid (show R = max draw 0 % S.pat by rw [hR, hD])
    have HD := Lib.hid hD
    have hp0 : S.pat ≠ 0 := by omega
    have hwr : IntKind.i64.wrap R = R := IntWalk.i64_in _ (by omega)
    have hwp : IntKind.i64.wrap (S.pat + R) = S.pat + R := IntWalk.i64_in _ (by omega)
    clear hR hD hR0
    go_wp2_with fail
    have k2 := (Chg.refl [b] W2).set (p := ⟨b, 8, none⟩) (by simp) (.int .i64 0)
    have hx := HX2.out.scal (S' := { S with waited := 0 }) k2 (blk_set HX2.out.blk 8 _) ⟨rfl, rfl⟩ ⟨rfl, rfl⟩ rfl rfl
    have hK2b := HK2.out.trans (k2.up1 HX2.out.inb)
    change Code.wp _ _ _ _ (W2.setCell ⟨b, 8, none⟩ (.int .i64 0))
    clear HX2 HK2 k2 c0 c1 c2 c3 c4 c5 c6 c7 c8 c9 c10 c11 fz
    obtain ⟨V2, hV2⟩ : ∃ V2, V2 = W2.setCell ⟨b, 8, none⟩ (.int .i64 0) := ⟨_, rfl⟩
    rw [← hV2] at hx hK2b ⊢
    have HX2 := Lib.hid hx
    have HK2 := Lib.hid hK2b
    clear hV2 hK2b
    have c0 := hx.cell 0
    have c1 := hx.cell 1
    have c2 := hx.cell 2
    have c3 := hx.cell 3
    have c4 := hx.cell 4
    have c5 := hx.cell 5
    have c6 := hx.cell 6
    have c7 := hx.cell 7
    have c8 := hx.cell 8
    have c9 := hx.cell 9
    have c10 := hx.cell 10
    have c11 := hx.cell 11
    have fz := hx.frozen
    simp only [refC, List.getElem?_toArray, List.getElem?_cons_zero, List.getElem?_cons_succ] at c0 c1 c2 c3 c4 c5 c6 c7 c8 c9 c10 c11
    clear hx
    by_cases hd : draw < 0
    · have hD0 : D = 0 := by rw [HD.out]; omega
      subst hD0
      have hd' : decide (draw < 0) = true := by simpa using hd
      go_still_tail 15, (by kernel_rfl)
      go_upto_region 11 with fail
      have k3 : Chg [b] V2 (((V2.drew.setCell ⟨b, 9, none⟩ (.int .i64 (S.pat + R))).setCell ⟨b, 6, none⟩ (.int .i64 1)).setCell ⟨b, 7, none⟩ (.int .i64 0)) := ((((Chg.refl [b] V2).drew).set (by simp) _).set (by simp) _).set (by simp) _
      have h3 := HX2.out.scal (S' := { S with waited := 0, limit := S.pat + R, leader := 0, role := 1 }) k3 (blk_set (blk_set (blk_set HX2.out.blk 9 _) 6 _) 7 _) ⟨rfl, rfl⟩ ⟨rfl, rfl⟩ rfl rfl
      change Code.wp _ _ _ _ (((V2.drew.setCell ⟨b, 9, none⟩ (.int .i64 (S.pat + R))).setCell ⟨b, 6, none⟩ (.int .i64 1)).setCell ⟨b, 7, none⟩ (.int .i64 0))
      obtain ⟨W3, hW3⟩ : ∃ W3, W3 = (((V2.drew.setCell ⟨b, 9, none⟩ (.int .i64 (S.pat + R))).setCell ⟨b, 6, none⟩ (.int .i64 1)).setCell ⟨b, 7, none⟩ (.int .i64 0)) := ⟨_, rfl⟩
      rw [← hW3] at h3 k3 ⊢
      have HX3 := Lib.hid h3
      have HK3 := Lib.hid (HK2.out.trans (k3.up1 HX2.out.inb))
      clear hW3 k3 c0 c1 c2 c3 c4 c5 c6 c7 c8 c9 c10 c11 fz
      have c0 := h3.cell 0
      have hxA := h3.below (bl_alloc (Below.refl W3.heap.size W3) (.cells #[.int .i64 S.id] 3))
      have c10 := hxA.cell 10
      have c11 := hxA.cell 11
      have fz := hxA.frozen
      simp only [refC, List.getElem?_toArray, List.getElem?_cons_zero, List.getElem?_cons_succ] at c0 c10 c11
      clear h3 hxA
      go_upto_region 13 with fail
      have k4 : Chg [b] W3 (((W3.alloc (.cells #[.int .i64 S.id] 3)).setCell ⟨b, 10, none⟩ (.slice (some ⟨W3.heap.size, 0, none⟩) 1 1)).setCell ⟨b, 11, none⟩ (.slice none 0 0)) := (((Chg.refl [b] W3).alloc _).set (by simp) _).set (by simp) _
      have hnb : (((W3.alloc (.cells #[.int .i64 S.id] 3)).setCell ⟨b, 10, none⟩ (.slice (some ⟨W3.heap.size, 0, none⟩) 1 1)).setCell ⟨b, 11, none⟩ (.slice none 0 0)).heap[W3.heap.size]? = some (.cells #[.int .i64 S.id] 3 (0, 0)) :=
        blk_far (blk_far (blk_new W3 _ rfl) (show W3.heap.size ≠ b by have := blk_lt HX3.out.blk; omega) _) (show W3.heap.size ≠ b by have := blk_lt HX3.out.blk; omega) _
      have h4 := ref_alone (S' := ({ S with waited := 0, limit := S.pat + R, leader := 0 } : Nd).alone 1) HX3.out k4 (Nat.le_refl _) hnb (blk_set (blk_set (blk_alloc HX3.out.blk _) 10 _) 11 _) ⟨rfl, rfl⟩ ⟨rfl, rfl⟩ rfl rfl
      rw [HR.out] at h4
      replace h4 : RefX _ b (S.hope draw) _ _ _ := h4
      change Code.wp _ _ _ _ (((W3.alloc (.cells #[.int .i64 S.id] 3)).setCell ⟨b, 10, none⟩ (.slice (some ⟨W3.heap.size, 0, none⟩) 1 1)).setCell ⟨b, 11, none⟩ (.slice none 0 0))
      obtain ⟨W4, hW4⟩ : ∃ W4, W4 = ((W3.alloc (.cells #[.int .i64 S.id] 3)).setCell ⟨b, 10, none⟩ (.slice (some ⟨W3.heap.size, 0, none⟩) 1 1)).setCell ⟨b, 11, none⟩ (.slice none 0 0) := ⟨_, rfl⟩
      rw [← hW4] at h4 k4 ⊢
      obtain ⟨hK4, hL4⟩ := Moves.trans HK3.out (fun x hx => .inl hx) (k4.up1 HX3.out.inb) (fun x hx => (List.mem_cons.1 hx).elim (fun e => .inr (by rw [e]; exact Nat.le_refl _)) .inl : ∀ x, x ∈ W3.heap.size :: L → x ∈ L ∨ W3.heap.size ≤ x)
      have HK := Lib.hid hK4
      have HT := Lib.hid (show (S.hope draw).id = S.id ∧ (S.hope draw).term = S.term ∧ (S.hope draw).vs = S.vs ∧ (S.hope draw).yes = [S.id] from ⟨rfl, rfl, rfl, rfl⟩)
      have HG := Lib.hid (fun h => tick_run HL.out HQ.out (draw := draw) h last lt)
      have HA := Lib.hid (fun h => tick_ask HL.out HQ.out (draw := draw) h last lt)
      obtain ⟨n1, hn1⟩ : ∃ n1, n1 = W3.heap.size := ⟨_, rfl⟩
      obtain ⟨S', hS'⟩ : ∃ S', S' = S.hope draw := ⟨_, rfl⟩
      rw [← hS', ← hn1] at h4
      rw [← hn1] at hL4 ⊢
      rw [← hS'] at HT HG HA
      obtain ⟨L4, hL4'⟩ : ∃ L4, L4 = n1 :: L := ⟨_, rfl⟩
      rw [← hL4'] at h4 hL4
      have HN := Lib.hid h4
      have HLL := Lib.hid hL4
      have hgy : GsAt W4 (some ⟨n1, 0, none⟩) [S.id] := by
        obtain ⟨ya, yc, e, hg, _⟩ := h4.yes.gs
        rw [HT.out.2.2.2] at e hg
        injection e with e1 _ _
        rw [e1]
        exact hg
      have HYG := Lib.hid hgy
      clear h4 k4 hK4 hL4 hnb hW4 hn1 hL4' hgy hS' c0 c10 c11 fz HX3 HK3 HX2 HK2
      have hcB : ∀ (i : Nat) (W' : World), Below W4.heap.size W4 W' → W'.cell? ⟨b, i, none⟩ = (refC (S') (.slice (some ⟨n1, 0, none⟩) 1 1) (.slice none 0 0))[i]? := fun i W' h => (HN.out.below h).cell i
      have r0 := hcB 0
      have r1 := hcB 1
      have r2 := hcB 2
      have r3 := hcB 3
      have r4 := hcB 4
      have r5 := hcB 5
      have r6 := hcB 6
      have r7 := hcB 7
      have r8 := hcB 8
      have r9 := hcB 9
      have r10 := hcB 10
      have r11 := hcB 11
      have rz : ∀ (i : Nat) (W' : World), Below W4.heap.size W4 W' → W'.frozen? ⟨b, i, none⟩ = false := fun i W' h => (HN.out.below h).frozen i
      simp only [refC, List.getElem?_toArray, List.getElem?_cons_zero, List.getElem?_cons_succ] at r0 r1 r2 r3 r4 r5 r6 r7 r8 r9 r10 r11
      clear hcB
      have hb := Below.refl W4.heap.size W4
      refine wp_region_in (Below W4.heap.size W4) (fun i => i == 8) (by kernel_rfl) (by kernel_rfl) (by exact hb.drew) ?_
      intro hne hx
      replace hb := hb.drew
      refine stg_seg 8 (by dsimp only [List.take]) (by dsimp only [List.drop]) (by rfl) ?_
      repeat (go_big_quiet_step (fail))
      refine wpQuiet_nil ?_
      refine stg_loud (by rfl) ?_
      go_wp2_with fail
      refine (rwins_at S'.va S'.la S'.vs S'.ls S'.vc S'.lc (some ⟨n1, 0, none⟩) [S.id] 1 _ (HN.out.below hb).vs.at_ (HN.out.below hb).ls.at_ HN.out.vl HN.out.ll (HYG.out.keep hb) (by unfold maxLen; simp)).mono ?_; rintro e w6 ⟨rfl, hb2⟩
      replace hb := bl_trans hb hb2
      clear hb2
      go_wp2_with fail
      refine lq_in rfl (hb) ?_
      refine stg_seg 1 (by dsimp only [List.take]) (by dsimp only [List.drop]) (by rfl) ?_
      repeat (go_big_quiet_step (fail))
      refine wpQuiet_nil ?_
      refine stg_nil ?_
      clear hne hx
      rw [show winsB S'.vs S'.ls [S.id] = S'.win by unfold Nd.win; rw [HT.out.2.2.2]]
      have HN6 := Lib.hid (HN.out.below hb)
      have HK6 := Lib.hid (HK.out.below hb)
      clear r0 r1 r2 r3 r4 r5 r6 r7 r8 r9 r10 r11 rz
      by_cases hw : S'.win = true
      · rw [hw]
        have hr := rrun_at ⟨_, _, HN6.out⟩ (by rw [HT.out.2.1]; exact h0) (by rw [HT.out.2.2.1]; exact hv) last lt
        go_wp2_with fail
        refine hr.mono ?_; rintro e w7 ⟨v, rfl, L7, h7, k7, hL7, hb7, ho7⟩
        go_wp2_with fail
        go_ret
        rw [HG.out hw]
        obtain ⟨k8, hL8⟩ := Moves.trans HK6.out HLL.out k7 hL7
        exact ⟨v, rfl, L7, h7, k8, hL8, Bals.from_ hb7 HK6.out.size, ho7⟩
      · rw [eq_false_of_ne_true hw]
        have r1 := HN6.out.cell 1
        simp only [refC, List.getElem?_toArray, List.getElem?_cons_zero, List.getElem?_cons_succ] at r1
        rw [HT.out.2.1] at r1
        have hal := rall_at ⟨_, _, HN6.out⟩ (by rw [HT.out.2.2.1]; exact hv) 1 (S.term + 1) last lt
        go_wp2_with fail
        refine hal.mono ?_; rintro e w7 ⟨v, rfl, hbv, hb7⟩
        go_wp2_with fail
        go_ret
        rw [HA.out hw]
        exact SendsR.some ⟨_, _, HN6.out⟩ HK6.out HLL.out hbv hb7
    · have hD0 : D = draw := by rw [HD.out]; omega
      subst hD0
      have hd' : decide (D < 0) = false := by simpa using hd
      go_still_tail 15, (by kernel_rfl)
      go_upto_region 11 with fail
      have k3 : Chg [b] V2 (((V2.drew.setCell ⟨b, 9, none⟩ (.int .i64 (S.pat + R))).setCell ⟨b, 6, none⟩ (.int .i64 1)).setCell ⟨b, 7, none⟩ (.int .i64 0)) := ((((Chg.refl [b] V2).drew).set (by simp) _).set (by simp) _).set (by simp) _
      have h3 := HX2.out.scal (S' := { S with waited := 0, limit := S.pat + R, leader := 0, role := 1 }) k3 (blk_set (blk_set (blk_set HX2.out.blk 9 _) 6 _) 7 _) ⟨rfl, rfl⟩ ⟨rfl, rfl⟩ rfl rfl
      change Code.wp _ _ _ _ (((V2.drew.setCell ⟨b, 9, none⟩ (.int .i64 (S.pat + R))).setCell ⟨b, 6, none⟩ (.int .i64 1)).setCell ⟨b, 7, none⟩ (.int .i64 0))
      obtain ⟨W3, hW3⟩ : ∃ W3, W3 = (((V2.drew.setCell ⟨b, 9, none⟩ (.int .i64 (S.pat + R))).setCell ⟨b, 6, none⟩ (.int .i64 1)).setCell ⟨b, 7, none⟩ (.int .i64 0)) := ⟨_, rfl⟩
      rw [← hW3] at h3 k3 ⊢
      have HX3 := Lib.hid h3
      have HK3 := Lib.hid (HK2.out.trans (k3.up1 HX2.out.inb))
      clear hW3 k3 c0 c1 c2 c3 c4 c5 c6 c7 c8 c9 c10 c11 fz
      have c0 := h3.cell 0
      have hxA := h3.below (bl_alloc (Below.refl W3.heap.size W3) (.cells #[.int .i64 S.id] 3))
      have c10 := hxA.cell 10
      have c11 := hxA.cell 11
      have fz := hxA.frozen
      simp only [refC, List.getElem?_toArray, List.getElem?_cons_zero, List.getElem?_cons_succ] at c0 c10 c11
      clear h3 hxA
      go_upto_region 13 with fail
      have k4 : Chg [b] W3 (((W3.alloc (.cells #[.int .i64 S.id] 3)).setCell ⟨b, 10, none⟩ (.slice (some ⟨W3.heap.size, 0, none⟩) 1 1)).setCell ⟨b, 11, none⟩ (.slice none 0 0)) := (((Chg.refl [b] W3).alloc _).set (by simp) _).set (by simp) _
      have hnb : (((W3.alloc (.cells #[.int .i64 S.id] 3)).setCell ⟨b, 10, none⟩ (.slice (some ⟨W3.heap.size, 0, none⟩) 1 1)).setCell ⟨b, 11, none⟩ (.slice none 0 0)).heap[W3.heap.size]? = some (.cells #[.int .i64 S.id] 3 (0, 0)) :=
        blk_far (blk_far (blk_new W3 _ rfl) (show W3.heap.size ≠ b by have := blk_lt HX3.out.blk; omega) _) (show W3.heap.size ≠ b by have := blk_lt HX3.out.blk; omega) _
      have h4 := ref_alone (S' := ({ S with waited := 0, limit := S.pat + R, leader := 0 } : Nd).alone 1) HX3.out k4 (Nat.le_refl _) hnb (blk_set (blk_set (blk_alloc HX3.out.blk _) 10 _) 11 _) ⟨rfl, rfl⟩ ⟨rfl, rfl⟩ rfl rfl
      rw [HR.out] at h4
      replace h4 : RefX _ b (S.hope D) _ _ _ := h4
      change Code.wp _ _ _ _ (((W3.alloc (.cells #[.int .i64 S.id] 3)).setCell ⟨b, 10, none⟩ (.slice (some ⟨W3.heap.size, 0, none⟩) 1 1)).setCell ⟨b, 11, none⟩ (.slice none 0 0))
      obtain ⟨W4, hW4⟩ : ∃ W4, W4 = ((W3.alloc (.cells #[.int .i64 S.id] 3)).setCell ⟨b, 10, none⟩ (.slice (some ⟨W3.heap.size, 0, none⟩) 1 1)).setCell ⟨b, 11, none⟩ (.slice none 0 0) := ⟨_, rfl⟩
      rw [← hW4] at h4 k4 ⊢
      obtain ⟨hK4, hL4⟩ := Moves.trans HK3.out (fun x hx => .inl hx) (k4.up1 HX3.out.inb) (fun x hx => (List.mem_cons.1 hx).elim (fun e => .inr (by rw [e]; exact Nat.le_refl _)) .inl : ∀ x, x ∈ W3.heap.size :: L → x ∈ L ∨ W3.heap.size ≤ x)
      have HK := Lib.hid hK4
      have HT := Lib.hid (show (S.hope D).id = S.id ∧ (S.hope D).term = S.term ∧ (S.hope D).vs = S.vs ∧ (S.hope D).yes = [S.id] from ⟨rfl, rfl, rfl, rfl⟩)
      have HG := Lib.hid (fun h => tick_run HL.out HQ.out (draw := D) h last lt)
      have HA := Lib.hid (fun h => tick_ask HL.out HQ.out (draw := D) h last lt)
      obtain ⟨n1, hn1⟩ : ∃ n1, n1 = W3.heap.size := ⟨_, rfl⟩
      obtain ⟨S', hS'⟩ : ∃ S', S' = S.hope D := ⟨_, rfl⟩
      rw [← hS', ← hn1] at h4
      rw [← hn1] at hL4 ⊢
      rw [← hS'] at HT HG HA
      obtain ⟨L4, hL4'⟩ : ∃ L4, L4 = n1 :: L := ⟨_, rfl⟩
      rw [← hL4'] at h4 hL4
      have HN := Lib.hid h4
      have HLL := Lib.hid hL4
      have hgy : GsAt W4 (some ⟨n1, 0, none⟩) [S.id] := by
        obtain ⟨ya, yc, e, hg, _⟩ := h4.yes.gs
        rw [HT.out.2.2.2] at e hg
        injection e with e1 _ _
        rw [e1]
        exact hg
      have HYG := Lib.hid hgy
      clear h4 k4 hK4 hL4 hnb hW4 hn1 hL4' hgy hS' c0 c10 c11 fz HX3 HK3 HX2 HK2
      have hcB : ∀ (i : Nat) (W' : World), Below W4.heap.size W4 W' → W'.cell? ⟨b, i, none⟩ = (refC (S') (.slice (some ⟨n1, 0, none⟩) 1 1) (.slice none 0 0))[i]? := fun i W' h => (HN.out.below h).cell i
      have r0 := hcB 0
      have r1 := hcB 1
      have r2 := hcB 2
      have r3 := hcB 3
      have r4 := hcB 4
      have r5 := hcB 5
      have r6 := hcB 6
      have r7 := hcB 7
      have r8 := hcB 8
      have r9 := hcB 9
      have r10 := hcB 10
      have r11 := hcB 11
      have rz : ∀ (i : Nat) (W' : World), Below W4.heap.size W4 W' → W'.frozen? ⟨b, i, none⟩ = false := fun i W' h => (HN.out.below h).frozen i
      simp only [refC, List.getElem?_toArray, List.getElem?_cons_zero, List.getElem?_cons_succ] at r0 r1 r2 r3 r4 r5 r6 r7 r8 r9 r10 r11
      clear hcB
      have hb := Below.refl W4.heap.size W4
      refine wp_region_in (Below W4.heap.size W4) (fun i => i == 8) (by kernel_rfl) (by kernel_rfl) (by exact hb.drew) ?_
      intro hne hx
      replace hb := hb.drew
      refine stg_seg 8 (by dsimp only [List.take]) (by dsimp only [List.drop]) (by rfl) ?_
      repeat (go_big_quiet_step (fail))
      refine wpQuiet_nil ?_
      refine stg_loud (by rfl) ?_
      go_wp2_with fail
      refine (rwins_at S'.va S'.la S'.vs S'.ls S'.vc S'.lc (some ⟨n1, 0, none⟩) [S.id] 1 _ (HN.out.below hb).vs.at_ (HN.out.below hb).ls.at_ HN.out.vl HN.out.ll (HYG.out.keep hb) (by unfold maxLen; simp)).mono ?_; rintro e w6 ⟨rfl, hb2⟩
      replace hb := bl_trans hb hb2
      clear hb2
      go_wp2_with fail
      refine lq_in rfl (hb) ?_
      refine stg_seg 1 (by dsimp only [List.take]) (by dsimp only [List.drop]) (by rfl) ?_
      repeat (go_big_quiet_step (fail))
      refine wpQuiet_nil ?_
      refine stg_nil ?_
      clear hne hx
      rw [show winsB S'.vs S'.ls [S.id] = S'.win by unfold Nd.win; rw [HT.out.2.2.2]]
      have HN6 := Lib.hid (HN.out.below hb)
      have HK6 := Lib.hid (HK.out.below hb)
      clear r0 r1 r2 r3 r4 r5 r6 r7 r8 r9 r10 r11 rz
      by_cases hw : S'.win = true
      · rw [hw]
        have hr := rrun_at ⟨_, _, HN6.out⟩ (by rw [HT.out.2.1]; exact h0) (by rw [HT.out.2.2.1]; exact hv) last lt
        go_wp2_with fail
        refine hr.mono ?_; rintro e w7 ⟨v, rfl, L7, h7, k7, hL7, hb7, ho7⟩
        go_wp2_with fail
        go_ret
        rw [HG.out hw]
        obtain ⟨k8, hL8⟩ := Moves.trans HK6.out HLL.out k7 hL7
        exact ⟨v, rfl, L7, h7, k8, hL8, Bals.from_ hb7 HK6.out.size, ho7⟩
      · rw [eq_false_of_ne_true hw]
        have r1 := HN6.out.cell 1
        simp only [refC, List.getElem?_toArray, List.getElem?_cons_zero, List.getElem?_cons_succ] at r1
        rw [HT.out.2.1] at r1
        have hal := rall_at ⟨_, _, HN6.out⟩ (by rw [HT.out.2.2.1]; exact hv) 1 (S.term + 1) last lt
        go_wp2_with fail
        refine hal.mono ?_; rintro e w7 ⟨v, rfl, hbv, hb7⟩
        go_wp2_with fail
        go_ret
        rw [HA.out hw]
        exact SendsR.some ⟨_, _, HN6.out⟩ HK6.out HLL.out hbv hb7
  · rw [decide_eq_false hi]
    have HE := Lib.hid (tick_wait HL.out (.inr hi) draw last lt)
    clear hi hq
    refine wp_region_in (Below W1.heap.size W1) (fun _ => false) (by kernel_rfl) (by kernel_rfl) (by exact hb.drew) ?_
    intro hne hx
    replace hb := hb.drew
    refine stg_seg 13 (by dsimp only [List.take]) (by dsimp only [List.drop]) (by rfl) ?_
    repeat (go_big_quiet_step (fail))
    refine wpQuiet_nil ?_
    refine stg_nil ?_
    clear hne hx
    go_wp2_with fail
    go_ret
    rw [HE.out]
    exact SendsR.none ⟨_, _, HX1.out.below hb⟩ (HKK.out.below hb) (fun x hx => .inl hx)
end Go.Proofs.Ytiamfdnllpiikaa
