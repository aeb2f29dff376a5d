/- The reference's node: Take. Conditions: none. -/
import Derived.Deep.DeepCutAuto
import Derived.Test.YtiamfdnllpiikaaElRefH
namespace Go.Proofs.Ytiamfdnllpiikaa
open Go.RowKit
theorem take_presayN {S : Nd} {x : Bal} {last lt : Int} (h : ¬ (x.dst ≠ S.id ∨ S.other x.src = false ∨ x.term < 0 ∨ maxIx < x.term)) (hk : x.kind = 2) : S.take x last lt = presayN S x last lt := take_presay h hk
set_option maxRecDepth 100000 in
set_option maxHeartbeats 8000000 in
theorem rtake_k1 {b : Nat} {S : Nd} {L : List Nat} {w : World} (h : RefAt w b S L) (h0 : 0 ≤ S.term) (ht9 : S.term ≤ maxIx) (hv : S.vs.length ≤ 1000) (hy9 : S.yes.length < 1000) (hn9 : S.no.length < 1000) (x : Bal) (last lt : Int) (hG : ¬ (x.dst ≠ S.id ∨ S.other x.src = false ∨ x.term < 0 ∨ maxIx < x.term)) (k1 : x.kind = 1) :
    Calls Try.prog 25 #[.pointer (some ⟨b, 0, none⟩), .agg #[.int .i64 x.kind, .int .i64 x.src, .int .i64 x.dst, .int .i64 x.term, .int .i64 x.index, .int .i64 x.logTerm, .bool x.yes], .int .i64 last, .int .i64 lt] w fun e w' => SendsR w b (S.take x last lt).1 L (S.take x last lt).2 e w' := by
  have H_k1 := Lib.hid k1
  clear k1
  have h9 := h.low
  obtain ⟨yv, nv, hx⟩ := h
  have hb0 := bl_alloc (Below.refl w.heap.size w) (.cells #[.int .i64 x.kind, .int .i64 x.src, .int .i64 x.dst, .int .i64 x.term, .int .i64 x.index, .int .i64 x.logTerm, .bool x.yes] 44)
  have hx0 := hx.below hb0
  have hblk := blk_new w (.cells #[.int .i64 x.kind, .int .i64 x.src, .int .i64 x.dst, .int .i64 x.term, .int .i64 x.index, .int .i64 x.logTerm, .bool x.yes] 44) rfl
  obtain ⟨w0, hw0⟩ : ∃ w0, w0 = w.alloc (.cells #[.int .i64 x.kind, .int .i64 x.src, .int .i64 x.dst, .int .i64 x.term, .int .i64 x.index, .int .i64 x.logTerm, .bool x.yes] 44) := ⟨_, rfl⟩
  rw [← hw0] at hb0 hx0 hblk
  have HW0 := Lib.hid hw0
  have HB0 := Lib.hid hb0
  have HBK := Lib.hid hblk
  have HN0 := Lib.hid hx0
  have q0 : ∀ W, Below w0.heap.size w0 W → W.cell? ⟨w.heap.size, 0, none⟩ = some (.int .i64 x.kind) := fun W h => blk_cell (blk_below hblk h (blk_lt hblk)) 0
  have q1 : ∀ W, Below w0.heap.size w0 W → W.cell? ⟨w.heap.size, 1, none⟩ = some (.int .i64 x.src) := fun W h => blk_cell (blk_below hblk h (blk_lt hblk)) 1
  have q2 : ∀ W, Below w0.heap.size w0 W → W.cell? ⟨w.heap.size, 2, none⟩ = some (.int .i64 x.dst) := fun W h => blk_cell (blk_below hblk h (blk_lt hblk)) 2
  have q3 : ∀ W, Below w0.heap.size w0 W → W.cell? ⟨w.heap.size, 3, none⟩ = some (.int .i64 x.term) := fun W h => blk_cell (blk_below hblk h (blk_lt hblk)) 3
  have q4 : ∀ W, Below w0.heap.size w0 W → W.cell? ⟨w.heap.size, 4, none⟩ = some (.int .i64 x.index) := fun W h => blk_cell (blk_below hblk h (blk_lt hblk)) 4
  have q5 : ∀ W, Below w0.heap.size w0 W → W.cell? ⟨w.heap.size, 5, none⟩ = some (.int .i64 x.logTerm) := fun W h => blk_cell (blk_below hblk h (blk_lt hblk)) 5
  have q6 : ∀ W, Below w0.heap.size w0 W → W.cell? ⟨w.heap.size, 6, none⟩ = some (.bool x.yes) := fun W h => blk_cell (blk_below hblk h (blk_lt hblk)) 6
  have hcB : ∀ (i : Nat) (W' : World), Below w0.heap.size w0 W' → W'.cell? ⟨b, i, none⟩ = (refC (S) (yv) (nv))[i]? := fun i W' h => (hx0.below h).cell i
  have r0 := hcB 0
  have r1 := hcB 1
  have r2 := hcB 2
  have r3 := hcB 3
  have r4 := hcB 4
  have r5 := hcB 5
  have r6 := hcB 6
  have r7 := hcB 7
  have r8 := hcB 8
  have r9 := hcB 9
  have r10 := hcB 10
  have r11 := hcB 11
  have rz : ∀ (i : Nat) (W' : World), Below w0.heap.size w0 W' → W'.frozen? ⟨b, i, none⟩ = false := fun i W' h => (hx0.below h).frozen i
  simp only [refC, List.getElem?_toArray, List.getElem?_cons_zero, List.getElem?_cons_succ] at r0 r1 r2 r3 r4 r5 r6 r7 r8 r9 r10 r11
  clear hcB
  have hbn : b ≠ w.heap.size := fun e => by have := blk_lt hx.blk; omega
  clear hx hx0 hblk hw0 hb0
  have hb := Below.refl w0.heap.size w0
  have HNB := Lib.hid (show ¬ w.heap.size ∈ L from fun hm => by have := h9 _ hm; omega)
  clear h9
  have hd : x.dst = S.id := Decidable.byContradiction fun k => hG (.inl k)
  have ho : S.other x.src = true := by cases e : S.other x.src with | true => rfl | false => exact absurd (.inr (.inl e)) hG
  have h1 : ¬ x.term < 0 := fun k => hG (.inr (.inr (.inl k)))
  have h2 : ¬ maxIx < x.term := fun k => hG (.inr (.inr (.inr k)))
  have hoo := ho
  unfold Nd.other at hoo
  simp only [Bool.and_eq_true, decide_eq_true_eq] at hoo
  obtain ⟨⟨a1, a2⟩, a3⟩ := hoo
  have e1 : (x.dst != S.id) = false := by simp [hd]
  have d1 : decide (x.src < 1) = false := decide_eq_false (by omega)
  have d2 : decide (15 < x.src) = false := decide_eq_false (by omega)
  have d3 : (x.src == S.id) = false := by simp [a3]
  have g1 : decide (x.term < 0) = false := decide_eq_false h1
  have g2 : decide (1099511627776 < x.term) = false := decide_eq_false h2
  have HG := Lib.hid hG
  clear hd ho h1 h2 a1 a2 a3 hG
  go_enter Try.func25, Try.ntmps25
  go_wp2_with fail
  rw [← HW0.out]
  refine wp_region_in (Below w0.heap.size w0) (fun _ => false) (by kernel_rfl) (by kernel_rfl) (by exact hb.drew) ?_
  intro hne hx
  replace hb := hb.drew
  change wpStg _ _ _ _ _ _ _ _ w0.drew
  obtain ⟨V1, hWq⟩ : ∃ V1, V1 = w0.drew := ⟨_, rfl⟩
  rw [← hWq] at hb ⊢
  clear hWq
  refine stg_seg 36 (by dsimp only [List.take]) (by dsimp only [List.drop]) (by rfl) ?_
  repeat (go_big_quiet_step (fail))
  refine wpQuiet_nil ?_
  refine stg_nil ?_
  clear hne hx
  go_upto_region 3 with fail
  obtain ⟨A, hA⟩ : ∃ A, A = decide (S.term < x.term) := ⟨_, rfl⟩
  obtain ⟨O, hO⟩ : ∃ O, O = Nd.oldB x last lt := ⟨_, rfl⟩
  have HA := Lib.hid hA
  have HOL := Lib.hid hO
  have eA := hA.symm
  clear hA hO
  go_cut [9] (fun s9 wx => s9 = .bool O ∧ wx = V1)
  case first =>
    by_cases k1 : lt < x.logTerm
    · go_wp2_with fail
      go_meet
      exact ⟨by rw [HOL.out]; unfold Nd.oldB; simp [k1], rfl⟩
    · have k1d : decide (lt < x.logTerm) = false := decide_eq_false k1
      by_cases k2 : x.logTerm = lt
      · have k2e : (x.logTerm == lt) = true := by simp [k2]
        have HE := Lib.hid (show O = decide (last ≤ x.index) by rw [HOL.out]; unfold Nd.oldB; simp [k1, k2])
        clear k1 k2
        go_wp2_with fail
        go_meet
        exact ⟨by rw [HE.out], rfl⟩
      · have k2e : (x.logTerm == lt) = false := by simp [k2]
        have HE := Lib.hid (show O = false by rw [HOL.out]; unfold Nd.oldB; simp [k1, k2])
        clear k1 k2
        go_wp2_with fail
        go_meet
        exact ⟨by rw [HE.out], rfl⟩
  case rest =>
    obtain ⟨rfl, rfl⟩ := hcut
    have k1 := H_k1.out
    clear H_k1
    have e2 : (x.kind == 1) = true := by simp [k1]
    have HP := Lib.hid (take_pre (last := last) (lt := lt) HG.out k1)
    clear k1
    cases A with
    | false =>
      have HS := Lib.hid (HP.out.trans (if_neg (fun h => by have := HA.out; simp [h.1] at this)))
      go_wp2_with fail
      refine wp_region_in (Below w0.heap.size w0) (fun _ => false) (by kernel_rfl) (by kernel_rfl) (by exact hb.drew) ?_
      intro hne hx
      replace hb := hb.drew
      change wpStg _ _ _ _ _ _ _ _ wc.drew
      obtain ⟨V2, hWq⟩ : ∃ V2, V2 = wc.drew := ⟨_, rfl⟩
      rw [← hWq] at hb ⊢
      clear hWq
      refine stg_seg 30 (by dsimp only [List.take]) (by dsimp only [List.drop]) (by rfl) ?_
      repeat (go_big_quiet_step (fail))
      refine wpQuiet_nil ?_
      refine stg_nil ?_
      clear hne hx
      go_wp2_with fail
      refine wp_region_in (Below w0.heap.size w0) (fun i => i == 9) (by kernel_rfl) (by kernel_rfl) (by exact hb.drew) ?_
      intro hne hx
      replace hb := hb.drew
      change wpStg _ _ _ _ _ _ _ _ V2.drew
      obtain ⟨Vs, hWq⟩ : ∃ Vs, Vs = V2.drew := ⟨_, rfl⟩
      rw [← hWq] at hb ⊢
      clear hWq
      refine stg_seg 9 (by dsimp only [List.take]) (by dsimp only [List.drop]) (by rfl) ?_
      repeat (go_big_quiet_step (fail))
      refine wpQuiet_nil ?_
      refine stg_loud (by rfl) ?_
      go_wp2_with fail
      have hbs := bl_alloc (Below.refl Vs.heap.size Vs) (.cells #[.int .i64 2, .int .i64 (S).id, .int .i64 x.src, .int .i64 S.term, .int .i64 0, .int .i64 0, .bool false] 44)
      refine lq_in rfl (bl_trans hb hbs) ?_
      refine stg_seg 1 (by dsimp only [List.take]) (by dsimp only [List.drop]) (by rfl) ?_
      repeat (go_big_quiet_step (fail))
      refine wpQuiet_nil ?_
      refine stg_nil ?_
      clear hne hx
      go_wp2_with fail
      go_ret
      rw [HS.out]
      exact SendsR.some ⟨_, _, HN0.out.below hb⟩ (Chg.of_below (L := L) (bl_trans HB0.out hb)) (fun x hx => .inl hx) ⟨rfl, .inr ⟨Vs.heap.size, 1, #[.int .i64 2, .int .i64 S.id, .int .i64 x.src, .int .i64 S.term, .int .i64 0, .int .i64 0, .bool false], rfl, Nat.le_refl _, blk_new _ _ rfl, Nat.le_refl _, by unfold maxLen; omega, rfl, rfl⟩⟩ hbs
    | true =>
    cases O with
    | false =>
      have HS := Lib.hid (HP.out.trans (if_neg (fun h => by have := HOL.out; simp [h.2.1] at this)))
      go_wp2_with fail
      refine wp_region_in (Below w0.heap.size w0) (fun _ => false) (by kernel_rfl) (by kernel_rfl) (by exact hb.drew) ?_
      intro hne hx
      replace hb := hb.drew
      change wpStg _ _ _ _ _ _ _ _ wc.drew
      obtain ⟨V2, hWq⟩ : ∃ V2, V2 = wc.drew := ⟨_, rfl⟩
      rw [← hWq] at hb ⊢
      clear hWq
      refine stg_seg 30 (by dsimp only [List.take]) (by dsimp only [List.drop]) (by rfl) ?_
      repeat (go_big_quiet_step (fail))
      refine wpQuiet_nil ?_
      refine stg_nil ?_
      clear hne hx
      go_wp2_with fail
      refine wp_region_in (Below w0.heap.size w0) (fun i => i == 9) (by kernel_rfl) (by kernel_rfl) (by exact hb.drew) ?_
      intro hne hx
      replace hb := hb.drew
      change wpStg _ _ _ _ _ _ _ _ V2.drew
      obtain ⟨Vs, hWq⟩ : ∃ Vs, Vs = V2.drew := ⟨_, rfl⟩
      rw [← hWq] at hb ⊢
      clear hWq
      refine stg_seg 9 (by dsimp only [List.take]) (by dsimp only [List.drop]) (by rfl) ?_
      repeat (go_big_quiet_step (fail))
      refine wpQuiet_nil ?_
      refine stg_loud (by rfl) ?_
      go_wp2_with fail
      have hbs := bl_alloc (Below.refl Vs.heap.size Vs) (.cells #[.int .i64 2, .int .i64 (S).id, .int .i64 x.src, .int .i64 S.term, .int .i64 0, .int .i64 0, .bool false] 44)
      refine lq_in rfl (bl_trans hb hbs) ?_
      refine stg_seg 1 (by dsimp only [List.take]) (by dsimp only [List.drop]) (by rfl) ?_
      repeat (go_big_quiet_step (fail))
      refine wpQuiet_nil ?_
      refine stg_nil ?_
      clear hne hx
      go_wp2_with fail
      go_ret
      rw [HS.out]
      exact SendsR.some ⟨_, _, HN0.out.below hb⟩ (Chg.of_below (L := L) (bl_trans HB0.out hb)) (fun x hx => .inl hx) ⟨rfl, .inr ⟨Vs.heap.size, 1, #[.int .i64 2, .int .i64 S.id, .int .i64 x.src, .int .i64 S.term, .int .i64 0, .int .i64 0, .bool false], rfl, Nat.le_refl _, blk_new _ _ rfl, Nat.le_refl _, by unfold maxLen; omega, rfl, rfl⟩⟩ hbs
    | true =>
    have HAO := Lib.hid (show S.term < x.term ∧ Nd.oldB x last lt = true from ⟨by have := HA.out; simpa using this.symm, HOL.out.symm⟩)
    by_cases hl : S.leader = 0
    · have e3 : (S.leader == 0) = true := by simp [hl]
      have HS := Lib.hid (HP.out.trans (if_pos ⟨HAO.out.1, HAO.out.2, .inl hl⟩))
      clear hl
      go_wp2_with fail
      refine wp_region_in (Below w0.heap.size w0) (fun _ => false) (by kernel_rfl) (by kernel_rfl) (by exact hb.drew) ?_
      intro hne hx
      replace hb := hb.drew
      change wpStg _ _ _ _ _ _ _ _ wc.drew
      obtain ⟨V2, hWq⟩ : ∃ V2, V2 = wc.drew := ⟨_, rfl⟩
      rw [← hWq] at hb ⊢
      clear hWq
      refine stg_seg 30 (by dsimp only [List.take]) (by dsimp only [List.drop]) (by rfl) ?_
      repeat (go_big_quiet_step (fail))
      refine wpQuiet_nil ?_
      refine stg_nil ?_
      clear hne hx
      go_wp2_with fail
      refine wp_region_in (Below w0.heap.size w0) (fun i => i == 9) (by kernel_rfl) (by kernel_rfl) (by exact hb.drew) ?_
      intro hne hx
      replace hb := hb.drew
      change wpStg _ _ _ _ _ _ _ _ V2.drew
      obtain ⟨Vs, hWq⟩ : ∃ Vs, Vs = V2.drew := ⟨_, rfl⟩
      rw [← hWq] at hb ⊢
      clear hWq
      refine stg_seg 9 (by dsimp only [List.take]) (by dsimp only [List.drop]) (by rfl) ?_
      repeat (go_big_quiet_step (fail))
      refine wpQuiet_nil ?_
      refine stg_loud (by rfl) ?_
      go_wp2_with fail
      have hbs := bl_alloc (Below.refl Vs.heap.size Vs) (.cells #[.int .i64 2, .int .i64 (S).id, .int .i64 x.src, .int .i64 x.term, .int .i64 0, .int .i64 0, .bool true] 44)
      refine lq_in rfl (bl_trans hb hbs) ?_
      refine stg_seg 1 (by dsimp only [List.take]) (by dsimp only [List.drop]) (by rfl) ?_
      repeat (go_big_quiet_step (fail))
      refine wpQuiet_nil ?_
      refine stg_nil ?_
      clear hne hx
      go_wp2_with fail
      go_ret
      rw [HS.out]
      exact SendsR.some ⟨_, _, HN0.out.below hb⟩ (Chg.of_below (L := L) (bl_trans HB0.out hb)) (fun x hx => .inl hx) ⟨rfl, .inr ⟨Vs.heap.size, 1, #[.int .i64 2, .int .i64 S.id, .int .i64 x.src, .int .i64 x.term, .int .i64 0, .int .i64 0, .bool true], rfl, Nat.le_refl _, blk_new _ _ rfl, Nat.le_refl _, by unfold maxLen; omega, rfl, rfl⟩⟩ hbs
    · have e3 : (S.leader == 0) = false := by simp [hl]
      by_cases hp : S.pat ≤ S.waited
      · have e4 : decide (S.pat ≤ S.waited) = true := decide_eq_true hp
        have HS := Lib.hid (HP.out.trans (if_pos ⟨HAO.out.1, HAO.out.2, .inr hp⟩))
        clear hl hp
        go_wp2_with fail
        refine wp_region_in (Below w0.heap.size w0) (fun _ => false) (by kernel_rfl) (by kernel_rfl) (by exact hb.drew) ?_
        intro hne hx
        replace hb := hb.drew
        change wpStg _ _ _ _ _ _ _ _ wc.drew
        obtain ⟨V2, hWq⟩ : ∃ V2, V2 = wc.drew := ⟨_, rfl⟩
        rw [← hWq] at hb ⊢
        clear hWq
        refine stg_seg 30 (by dsimp only [List.take]) (by dsimp only [List.drop]) (by rfl) ?_
        repeat (go_big_quiet_step (fail))
        refine wpQuiet_nil ?_
        refine stg_nil ?_
        clear hne hx
        go_wp2_with fail
        refine wp_region_in (Below w0.heap.size w0) (fun i => i == 9) (by kernel_rfl) (by kernel_rfl) (by exact hb.drew) ?_
        intro hne hx
        replace hb := hb.drew
        change wpStg _ _ _ _ _ _ _ _ V2.drew
        obtain ⟨Vs, hWq⟩ : ∃ Vs, Vs = V2.drew := ⟨_, rfl⟩
        rw [← hWq] at hb ⊢
        clear hWq
        refine stg_seg 9 (by dsimp only [List.take]) (by dsimp only [List.drop]) (by rfl) ?_
        repeat (go_big_quiet_step (fail))
        refine wpQuiet_nil ?_
        refine stg_loud (by rfl) ?_
        go_wp2_with fail
        have hbs := bl_alloc (Below.refl Vs.heap.size Vs) (.cells #[.int .i64 2, .int .i64 (S).id, .int .i64 x.src, .int .i64 x.term, .int .i64 0, .int .i64 0, .bool true] 44)
        refine lq_in rfl (bl_trans hb hbs) ?_
        refine stg_seg 1 (by dsimp only [List.take]) (by dsimp only [List.drop]) (by rfl) ?_
        repeat (go_big_quiet_step (fail))
        refine wpQuiet_nil ?_
        refine stg_nil ?_
        clear hne hx
        go_wp2_with fail
        go_ret
        rw [HS.out]
        exact SendsR.some ⟨_, _, HN0.out.below hb⟩ (Chg.of_below (L := L) (bl_trans HB0.out hb)) (fun x hx => .inl hx) ⟨rfl, .inr ⟨Vs.heap.size, 1, #[.int .i64 2, .int .i64 S.id, .int .i64 x.src, .int .i64 x.term, .int .i64 0, .int .i64 0, .bool true], rfl, Nat.le_refl _, blk_new _ _ rfl, Nat.le_refl _, by unfold maxLen; omega, rfl, rfl⟩⟩ hbs
      · have e4 : decide (S.pat ≤ S.waited) = false := decide_eq_false hp
        have HS := Lib.hid (HP.out.trans (if_neg (fun h => by rcases h.2.2 with h | h; exact hl h; exact hp h)))
        clear hl hp
        go_wp2_with fail
        refine wp_region_in (Below w0.heap.size w0) (fun _ => false) (by kernel_rfl) (by kernel_rfl) (by exact hb.drew) ?_
        intro hne hx
        replace hb := hb.drew
        change wpStg _ _ _ _ _ _ _ _ wc.drew
        obtain ⟨V2, hWq⟩ : ∃ V2, V2 = wc.drew := ⟨_, rfl⟩
        rw [← hWq] at hb ⊢
        clear hWq
        refine stg_seg 30 (by dsimp only [List.take]) (by dsimp only [List.drop]) (by rfl) ?_
        repeat (go_big_quiet_step (fail))
        refine wpQuiet_nil ?_
        refine stg_nil ?_
        clear hne hx
        go_wp2_with fail
        refine wp_region_in (Below w0.heap.size w0) (fun i => i == 9) (by kernel_rfl) (by kernel_rfl) (by exact hb.drew) ?_
        intro hne hx
        replace hb := hb.drew
        change wpStg _ _ _ _ _ _ _ _ V2.drew
        obtain ⟨Vs, hWq⟩ : ∃ Vs, Vs = V2.drew := ⟨_, rfl⟩
        rw [← hWq] at hb ⊢
        clear hWq
        refine stg_seg 9 (by dsimp only [List.take]) (by dsimp only [List.drop]) (by rfl) ?_
        repeat (go_big_quiet_step (fail))
        refine wpQuiet_nil ?_
        refine stg_loud (by rfl) ?_
        go_wp2_with fail
        have hbs := bl_alloc (Below.refl Vs.heap.size Vs) (.cells #[.int .i64 2, .int .i64 (S).id, .int .i64 x.src, .int .i64 S.term, .int .i64 0, .int .i64 0, .bool false] 44)
        refine lq_in rfl (bl_trans hb hbs) ?_
        refine stg_seg 1 (by dsimp only [List.take]) (by dsimp only [List.drop]) (by rfl) ?_
        repeat (go_big_quiet_step (fail))
        refine wpQuiet_nil ?_
        refine stg_nil ?_
        clear hne hx
        go_wp2_with fail
        go_ret
        rw [HS.out]
        exact SendsR.some ⟨_, _, HN0.out.below hb⟩ (Chg.of_below (L := L) (bl_trans HB0.out hb)) (fun x hx => .inl hx) ⟨rfl, .inr ⟨Vs.heap.size, 1, #[.int .i64 2, .int .i64 S.id, .int .i64 x.src, .int .i64 S.term, .int .i64 0, .int .i64 0, .bool false], rfl, Nat.le_refl _, blk_new _ _ rfl, Nat.le_refl _, by unfold maxLen; omega, rfl, rfl⟩⟩ hbs
set_option maxRecDepth 100000 in
set_option maxHeartbeats 8000000 in
theorem rtake_k2 {b : Nat} {S : Nd} {L : List Nat} {w : World} (h : RefAt w b S L) (h0 : 0 ≤ S.term) (ht9 : S.term ≤ maxIx) (hv : S.vs.length ≤ 1000) (hy9 : S.yes.length < 1000) (hn9 : S.no.length < 1000) (x : Bal) (last lt : Int) (hG : ¬ (x.dst ≠ S.id ∨ S.other x.src = false ∨ x.term < 0 ∨ maxIx < x.term)) (k2 : x.kind = 2) :
    Calls Try.prog 25 #[.pointer (some ⟨b, 0, none⟩), .agg #[.int .i64 x.kind, .int .i64 x.src, .int .i64 x.dst, .int .i64 x.term, .int .i64 x.index, .int .i64 x.logTerm, .bool x.yes], .int .i64 last, .int .i64 lt] w fun e w' => SendsR w b (S.take x last lt).1 L (S.take x last lt).2 e w' := by
  have H_k2 := Lib.hid k2
  clear k2
  have h9 := h.low
  obtain ⟨yv, nv, hx⟩ := h
  have hb0 := bl_alloc (Below.refl w.heap.size w) (.cells #[.int .i64 x.kind, .int .i64 x.src, .int .i64 x.dst, .int .i64 x.term, .int .i64 x.index, .int .i64 x.logTerm, .bool x.yes] 44)
  have hx0 := hx.below hb0
  have hblk := blk_new w (.cells #[.int .i64 x.kind, .int .i64 x.src, .int .i64 x.dst, .int .i64 x.term, .int .i64 x.index, .int .i64 x.logTerm, .bool x.yes] 44) rfl
  obtain ⟨w0, hw0⟩ : ∃ w0, w0 = w.alloc (.cells #[.int .i64 x.kind, .int .i64 x.src, .int .i64 x.dst, .int .i64 x.term, .int .i64 x.index, .int .i64 x.logTerm, .bool x.yes] 44) := ⟨_, rfl⟩
  rw [← hw0] at hb0 hx0 hblk
  have HW0 := Lib.hid hw0
  have HB0 := Lib.hid hb0
  have HBK := Lib.hid hblk
  have HN0 := Lib.hid hx0
  have q0 : ∀ W, Below w0.heap.size w0 W → W.cell? ⟨w.heap.size, 0, none⟩ = some (.int .i64 x.kind) := fun W h => blk_cell (blk_below hblk h (blk_lt hblk)) 0
  have q1 : ∀ W, Below w0.heap.size w0 W → W.cell? ⟨w.heap.size, 1, none⟩ = some (.int .i64 x.src) := fun W h => blk_cell (blk_below hblk h (blk_lt hblk)) 1
  have q2 : ∀ W, Below w0.heap.size w0 W → W.cell? ⟨w.heap.size, 2, none⟩ = some (.int .i64 x.dst) := fun W h => blk_cell (blk_below hblk h (blk_lt hblk)) 2
  have q3 : ∀ W, Below w0.heap.size w0 W → W.cell? ⟨w.heap.size, 3, none⟩ = some (.int .i64 x.term) := fun W h => blk_cell (blk_below hblk h (blk_lt hblk)) 3
  have q4 : ∀ W, Below w0.heap.size w0 W → W.cell? ⟨w.heap.size, 4, none⟩ = some (.int .i64 x.index) := fun W h => blk_cell (blk_below hblk h (blk_lt hblk)) 4
  have q5 : ∀ W, Below w0.heap.size w0 W → W.cell? ⟨w.heap.size, 5, none⟩ = some (.int .i64 x.logTerm) := fun W h => blk_cell (blk_below hblk h (blk_lt hblk)) 5
  have q6 : ∀ W, Below w0.heap.size w0 W → W.cell? ⟨w.heap.size, 6, none⟩ = some (.bool x.yes) := fun W h => blk_cell (blk_below hblk h (blk_lt hblk)) 6
  have hcB : ∀ (i : Nat) (W' : World), Below w0.heap.size w0 W' → W'.cell? ⟨b, i, none⟩ = (refC (S) (yv) (nv))[i]? := fun i W' h => (hx0.below h).cell i
  have r0 := hcB 0
  have r1 := hcB 1
  have r2 := hcB 2
  have r3 := hcB 3
  have r4 := hcB 4
  have r5 := hcB 5
  have r6 := hcB 6
  have r7 := hcB 7
  have r8 := hcB 8
  have r9 := hcB 9
  have r10 := hcB 10
  have r11 := hcB 11
  have rz : ∀ (i : Nat) (W' : World), Below w0.heap.size w0 W' → W'.frozen? ⟨b, i, none⟩ = false := fun i W' h => (hx0.below h).frozen i
  simp only [refC, List.getElem?_toArray, List.getElem?_cons_zero, List.getElem?_cons_succ] at r0 r1 r2 r3 r4 r5 r6 r7 r8 r9 r10 r11
  clear hcB
  have hbn : b ≠ w.heap.size := fun e => by have := blk_lt hx.blk; omega
  clear hx hx0 hblk hw0 hb0
  have hb := Below.refl w0.heap.size w0
  have HNB := Lib.hid (show ¬ w.heap.size ∈ L from fun hm => by have := h9 _ hm; omega)
  clear h9
  have hd : x.dst = S.id := Decidable.byContradiction fun k => hG (.inl k)
  have ho : S.other x.src = true := by cases e : S.other x.src with | true => rfl | false => exact absurd (.inr (.inl e)) hG
  have h1 : ¬ x.term < 0 := fun k => hG (.inr (.inr (.inl k)))
  have h2 : ¬ maxIx < x.term := fun k => hG (.inr (.inr (.inr k)))
  have hoo := ho
  unfold Nd.other at hoo
  simp only [Bool.and_eq_true, decide_eq_true_eq] at hoo
  obtain ⟨⟨a1, a2⟩, a3⟩ := hoo
  have e1 : (x.dst != S.id) = false := by simp [hd]
  have d1 : decide (x.src < 1) = false := decide_eq_false (by omega)
  have d2 : decide (15 < x.src) = false := decide_eq_false (by omega)
  have d3 : (x.src == S.id) = false := by simp [a3]
  have g1 : decide (x.term < 0) = false := decide_eq_false h1
  have g2 : decide (1099511627776 < x.term) = false := decide_eq_false h2
  have HG := Lib.hid hG
  clear hd ho h1 h2 a1 a2 a3 hG
  go_enter Try.func25, Try.ntmps25
  go_wp2_with fail
  rw [← HW0.out]
  refine wp_region_in (Below w0.heap.size w0) (fun _ => false) (by kernel_rfl) (by kernel_rfl) (by exact hb.drew) ?_
  intro hne hx
  replace hb := hb.drew
  change wpStg _ _ _ _ _ _ _ _ w0.drew
  obtain ⟨V1, hWq⟩ : ∃ V1, V1 = w0.drew := ⟨_, rfl⟩
  rw [← hWq] at hb ⊢
  clear hWq
  refine stg_seg 36 (by dsimp only [List.take]) (by dsimp only [List.drop]) (by rfl) ?_
  repeat (go_big_quiet_step (fail))
  refine wpQuiet_nil ?_
  refine stg_nil ?_
  clear hne hx
  go_upto_region 3 with fail
  obtain ⟨A, hA⟩ : ∃ A, A = decide (S.term < x.term) := ⟨_, rfl⟩
  obtain ⟨O, hO⟩ : ∃ O, O = Nd.oldB x last lt := ⟨_, rfl⟩
  have HA := Lib.hid hA
  have HOL := Lib.hid hO
  have eA := hA.symm
  clear hA hO
  go_cut [9] (fun s9 wx => s9 = .bool O ∧ wx = V1)
  case first =>
    by_cases k1 : lt < x.logTerm
    · go_wp2_with fail
      go_meet
      exact ⟨by rw [HOL.out]; unfold Nd.oldB; simp [k1], rfl⟩
    · have k1d : decide (lt < x.logTerm) = false := decide_eq_false k1
      by_cases k2 : x.logTerm = lt
      · have k2e : (x.logTerm == lt) = true := by simp [k2]
        have HE := Lib.hid (show O = decide (last ≤ x.index) by rw [HOL.out]; unfold Nd.oldB; simp [k1, k2])
        clear k1 k2
        go_wp2_with fail
        go_meet
        exact ⟨by rw [HE.out], rfl⟩
      · have k2e : (x.logTerm == lt) = false := by simp [k2]
        have HE := Lib.hid (show O = false by rw [HOL.out]; unfold Nd.oldB; simp [k1, k2])
        clear k1 k2
        go_wp2_with fail
        go_meet
        exact ⟨by rw [HE.out], rfl⟩
  case rest =>
    obtain ⟨rfl, rfl⟩ := hcut
    have k2 := H_k2.out
    clear H_k2
    have e2 : (x.kind == 1) = false := by simp [k2]
    have e6 : (x.kind == 2) = true := by simp [k2]
    have HS := Lib.hid (take_presayN (last := last) (lt := lt) HG.out k2)
    clear k2
    have hp := rpresay_at ⟨_, _, HN0.out.below hb⟩ h0 ht9 hv hy9 hn9 x last lt
    go_wp2_with fail
    refine hp.mono ?_; rintro e w3 ⟨v, rfl, L3, h3, k3, hL3, hv3, ho3⟩
    go_wp2_with fail
    go_ret
    rw [HS.out]
    obtain ⟨k4, hL4⟩ := Moves.trans (L := L) (.of_below (bl_trans HB0.out hb)) (fun x hx => .inl hx) k3 hL3
    exact ⟨v, rfl, L3, h3, k4, hL4, Bals.from_ hv3 (bl_trans HB0.out hb).size, ho3⟩
set_option maxRecDepth 100000 in
set_option maxHeartbeats 8000000 in
theorem rtake_k3f {b : Nat} {S : Nd} {L : List Nat} {w : World} (h : RefAt w b S L) (h0 : 0 ≤ S.term) (ht9 : S.term ≤ maxIx) (hv : S.vs.length ≤ 1000) (hy9 : S.yes.length < 1000) (hn9 : S.no.length < 1000) (x : Bal) (last lt : Int) (hG : ¬ (x.dst ≠ S.id ∨ S.other x.src = false ∨ x.term < 0 ∨ maxIx < x.term)) (k3 : x.kind = 3) (hAA : decide (S.term < x.term) = false) :
    Calls Try.prog 25 #[.pointer (some ⟨b, 0, none⟩), .agg #[.int .i64 x.kind, .int .i64 x.src, .int .i64 x.dst, .int .i64 x.term, .int .i64 x.index, .int .i64 x.logTerm, .bool x.yes], .int .i64 last, .int .i64 lt] w fun e w' => SendsR w b (S.take x last lt).1 L (S.take x last lt).2 e w' := by
  have H_k3 := Lib.hid k3
  have H_hAA := Lib.hid hAA
  clear k3 hAA
  have h9 := h.low
  obtain ⟨yv, nv, hx⟩ := h
  have hb0 := bl_alloc (Below.refl w.heap.size w) (.cells #[.int .i64 x.kind, .int .i64 x.src, .int .i64 x.dst, .int .i64 x.term, .int .i64 x.index, .int .i64 x.logTerm, .bool x.yes] 44)
  have hx0 := hx.below hb0
  have hblk := blk_new w (.cells #[.int .i64 x.kind, .int .i64 x.src, .int .i64 x.dst, .int .i64 x.term, .int .i64 x.index, .int .i64 x.logTerm, .bool x.yes] 44) rfl
  obtain ⟨w0, hw0⟩ : ∃ w0, w0 = w.alloc (.cells #[.int .i64 x.kind, .int .i64 x.src, .int .i64 x.dst, .int .i64 x.term, .int .i64 x.index, .int .i64 x.logTerm, .bool x.yes] 44) := ⟨_, rfl⟩
  rw [← hw0] at hb0 hx0 hblk
  have HW0 := Lib.hid hw0
  have HB0 := Lib.hid hb0
  have HBK := Lib.hid hblk
  have HN0 := Lib.hid hx0
  have q0 : ∀ W, Below w0.heap.size w0 W → W.cell? ⟨w.heap.size, 0, none⟩ = some (.int .i64 x.kind) := fun W h => blk_cell (blk_below hblk h (blk_lt hblk)) 0
  have q1 : ∀ W, Below w0.heap.size w0 W → W.cell? ⟨w.heap.size, 1, none⟩ = some (.int .i64 x.src) := fun W h => blk_cell (blk_below hblk h (blk_lt hblk)) 1
  have q2 : ∀ W, Below w0.heap.size w0 W → W.cell? ⟨w.heap.size, 2, none⟩ = some (.int .i64 x.dst) := fun W h => blk_cell (blk_below hblk h (blk_lt hblk)) 2
  have q3 : ∀ W, Below w0.heap.size w0 W → W.cell? ⟨w.heap.size, 3, none⟩ = some (.int .i64 x.term) := fun W h => blk_cell (blk_below hblk h (blk_lt hblk)) 3
  have q4 : ∀ W, Below w0.heap.size w0 W → W.cell? ⟨w.heap.size, 4, none⟩ = some (.int .i64 x.index) := fun W h => blk_cell (blk_below hblk h (blk_lt hblk)) 4
  have q5 : ∀ W, Below w0.heap.size w0 W → W.cell? ⟨w.heap.size, 5, none⟩ = some (.int .i64 x.logTerm) := fun W h => blk_cell (blk_below hblk h (blk_lt hblk)) 5
  have q6 : ∀ W, Below w0.heap.size w0 W → W.cell? ⟨w.heap.size, 6, none⟩ = some (.bool x.yes) := fun W h => blk_cell (blk_below hblk h (blk_lt hblk)) 6
  have hcB : ∀ (i : Nat) (W' : World), Below w0.heap.size w0 W' → W'.cell? ⟨b, i, none⟩ = (refC (S) (yv) (nv))[i]? := fun i W' h => (hx0.below h).cell i
  have r0 := hcB 0
  have r1 := hcB 1
  have r2 := hcB 2
  have r3 := hcB 3
  have r4 := hcB 4
  have r5 := hcB 5
  have r6 := hcB 6
  have r7 := hcB 7
  have r8 := hcB 8
  have r9 := hcB 9
  have r10 := hcB 10
  have r11 := hcB 11
  have rz : ∀ (i : Nat) (W' : World), Below w0.heap.size w0 W' → W'.frozen? ⟨b, i, none⟩ = false := fun i W' h => (hx0.below h).frozen i
  simp only [refC, List.getElem?_toArray, List.getElem?_cons_zero, List.getElem?_cons_succ] at r0 r1 r2 r3 r4 r5 r6 r7 r8 r9 r10 r11
  clear hcB
  have hbn : b ≠ w.heap.size := fun e => by have := blk_lt hx.blk; omega
  clear hx hx0 hblk hw0 hb0
  have hb := Below.refl w0.heap.size w0
  have HNB := Lib.hid (show ¬ w.heap.size ∈ L from fun hm => by have := h9 _ hm; omega)
  clear h9
  have hd : x.dst = S.id := Decidable.byContradiction fun k => hG (.inl k)
  have ho : S.other x.src = true := by cases e : S.other x.src with | true => rfl | false => exact absurd (.inr (.inl e)) hG
  have h1 : ¬ x.term < 0 := fun k => hG (.inr (.inr (.inl k)))
  have h2 : ¬ maxIx < x.term := fun k => hG (.inr (.inr (.inr k)))
  have hoo := ho
  unfold Nd.other at hoo
  simp only [Bool.and_eq_true, decide_eq_true_eq] at hoo
  obtain ⟨⟨a1, a2⟩, a3⟩ := hoo
  have e1 : (x.dst != S.id) = false := by simp [hd]
  have d1 : decide (x.src < 1) = false := decide_eq_false (by omega)
  have d2 : decide (15 < x.src) = false := decide_eq_false (by omega)
  have d3 : (x.src == S.id) = false := by simp [a3]
  have g1 : decide (x.term < 0) = false := decide_eq_false h1
  have g2 : decide (1099511627776 < x.term) = false := decide_eq_false h2
  have HG := Lib.hid hG
  clear hd ho h1 h2 a1 a2 a3 hG
  go_enter Try.func25, Try.ntmps25
  go_wp2_with fail
  rw [← HW0.out]
  refine wp_region_in (Below w0.heap.size w0) (fun _ => false) (by kernel_rfl) (by kernel_rfl) (by exact hb.drew) ?_
  intro hne hx
  replace hb := hb.drew
  change wpStg _ _ _ _ _ _ _ _ w0.drew
  obtain ⟨V1, hWq⟩ : ∃ V1, V1 = w0.drew := ⟨_, rfl⟩
  rw [← hWq] at hb ⊢
  clear hWq
  refine stg_seg 36 (by dsimp only [List.take]) (by dsimp only [List.drop]) (by rfl) ?_
  repeat (go_big_quiet_step (fail))
  refine wpQuiet_nil ?_
  refine stg_nil ?_
  clear hne hx
  go_upto_region 3 with fail
  obtain ⟨A, hA⟩ : ∃ A, A = decide (S.term < x.term) := ⟨_, rfl⟩
  obtain ⟨O, hO⟩ : ∃ O, O = Nd.oldB x last lt := ⟨_, rfl⟩
  have HA := Lib.hid hA
  have HOL := Lib.hid hO
  have eA := hA.symm
  clear hA hO
  go_cut [9] (fun s9 wx => s9 = .bool O ∧ wx = V1)
  case first =>
    by_cases k1 : lt < x.logTerm
    · go_wp2_with fail
      go_meet
      exact ⟨by rw [HOL.out]; unfold Nd.oldB; simp [k1], rfl⟩
    · have k1d : decide (lt < x.logTerm) = false := decide_eq_false k1
      by_cases k2 : x.logTerm = lt
      · have k2e : (x.logTerm == lt) = true := by simp [k2]
        have HE := Lib.hid (show O = decide (last ≤ x.index) by rw [HOL.out]; unfold Nd.oldB; simp [k1, k2])
        clear k1 k2
        go_wp2_with fail
        go_meet
        exact ⟨by rw [HE.out], rfl⟩
      · have k2e : (x.logTerm == lt) = false := by simp [k2]
        have HE := Lib.hid (show O = false by rw [HOL.out]; unfold Nd.oldB; simp [k1, k2])
        clear k1 k2
        go_wp2_with fail
        go_meet
        exact ⟨by rw [HE.out], rfl⟩
  case rest =>
    obtain ⟨rfl, rfl⟩ := hcut
    have k3 := H_k3.out
    have hAA := H_hAA.out
    clear H_k3 H_hAA
    have e2 : (x.kind == 1) = false := by simp [k3]
    have e6 : (x.kind == 2) = false := by simp [k3]
    have e5 : (x.kind == 3) = true := by simp [k3]
    have HP := Lib.hid (take_ask (last := last) (lt := lt) HG.out k3)
    rw [← HOL.out] at HP
    clear k3
    go_wp2_with fail
    refine wp_region_in (Below w0.heap.size w0) (fun _ => false) (by kernel_rfl) (by kernel_rfl) (by exact hb.drew) ?_
    intro hne hx
    replace hb := hb.drew
    change wpStg _ _ _ _ _ _ _ _ wc.drew
    obtain ⟨V2, hWq⟩ : ∃ V2, V2 = wc.drew := ⟨_, rfl⟩
    rw [← hWq] at hb ⊢
    clear hWq
    refine stg_seg 8 (by dsimp only [List.take]) (by dsimp only [List.drop]) (by rfl) ?_
    repeat (go_big_quiet_step (fail))
    refine wpQuiet_nil ?_
    refine stg_nil ?_
    clear hne hx
    obtain rfl : A = false := HA.out.trans hAA
    have ha : ¬ S.term < x.term := by have := HA.out; simpa using this.symm
    have HT := Lib.hid (show S.asked x = S by unfold Nd.asked; rw [if_neg ha])
    rw [HT.out] at HP
    have HTI := Lib.hid (show S.id = S.id from rfl)
    obtain ⟨T, hT⟩ : ∃ T, T = S := ⟨_, rfl⟩
    have HN := Lib.hid (show RefX V2 b T L yv nv by rw [hT]; exact HN0.out.below hb)
    replace HTI := Lib.hid (show T.id = S.id by rw [hT])
    replace HP := Lib.hid (show S.take x last lt = (if T.votes x O = true then T.voteFor x.src else T, [⟨4, S.id, x.src, T.term, 0, 0, T.votes x O⟩]) by rw [hT]; exact HP.out)
    obtain ⟨yvt, hyvt⟩ : ∃ yvt, yvt = yv := ⟨_, rfl⟩
    obtain ⟨nvt, hnvt⟩ : ∃ nvt, nvt = nv := ⟨_, rfl⟩
    rw [← hyvt, ← hnvt] at HN
    have HKK := Lib.hid (Chg.of_below (L := L) (bl_trans HB0.out hb))
    have HLL := Lib.hid (fun (y : Nat) (hy : y ∈ L) => (.inl hy : y ∈ L ∨ w.heap.size ≤ y))
    have HBX := Lib.hid (blk_below HBK.out hb (blk_lt HBK.out))
    clear ha hT hyvt hnvt hb eA q0 q1 q2 q3 q4 q5 q6 r0 r1 r2 r3 r4 r5 r6 r7 r8 r9 r10 r11 rz
    go_wp2_with fail
    have q1 : ∀ W', Below V2.heap.size V2 W' → W'.cell? ⟨w.heap.size, 1, none⟩ = some (.int .i64 x.src) := fun W' h => blk_cell (blk_below HBX.out h (blk_lt HBX.out)) 1
    have q3 : ∀ W', Below V2.heap.size V2 W' → W'.cell? ⟨w.heap.size, 3, none⟩ = some (.int .i64 x.term) := fun W' h => blk_cell (blk_below HBX.out h (blk_lt HBX.out)) 3
    have hcB : ∀ (i : Nat) (W' : World), Below V2.heap.size V2 W' → W'.cell? ⟨b, i, none⟩ = (refC (T) (yvt) (nvt))[i]? := fun i W' h => (HN.out.below h).cell i
    have r0 := hcB 0
    have r1 := hcB 1
    have r2 := hcB 2
    have r3 := hcB 3
    have r4 := hcB 4
    have r5 := hcB 5
    have r6 := hcB 6
    have r7 := hcB 7
    have r8 := hcB 8
    have r9 := hcB 9
    have r10 := hcB 10
    have r11 := hcB 11
    have rz : ∀ (i : Nat) (W' : World), Below V2.heap.size V2 W' → W'.frozen? ⟨b, i, none⟩ = false := fun i W' h => (HN.out.below h).frozen i
    simp only [refC, List.getElem?_toArray, List.getElem?_cons_zero, List.getElem?_cons_succ] at r0 r1 r2 r3 r4 r5 r6 r7 r8 r9 r10 r11
    clear hcB
    have hb := Below.refl V2.heap.size V2
    by_cases c1 : x.term = T.term
    case neg =>
      have d1 : (x.term == T.term) = false := by simp [c1]
      rw [show T.votes x O = false by unfold Nd.votes; simp [c1], if_neg (by decide)] at HP
      clear c1
      go_wp2_with fail
      refine wp_region_in (Below V2.heap.size V2) (fun _ => false) (by kernel_rfl) (by kernel_rfl) (by exact hb.drew) ?_
      intro hne hx
      replace hb := hb.drew
      change wpStg _ _ _ _ _ _ _ _ V2.drew
      obtain ⟨V3, hWq⟩ : ∃ V3, V3 = V2.drew := ⟨_, rfl⟩
      rw [← hWq] at hb ⊢
      clear hWq
      refine stg_seg 30 (by dsimp only [List.take]) (by dsimp only [List.drop]) (by rfl) ?_
      repeat (go_big_quiet_step (fail))
      refine wpQuiet_nil ?_
      refine stg_nil ?_
      clear hne hx
      go_wp2_with fail
      refine wp_region_in (Below V2.heap.size V2) (fun i => i == 13) (by kernel_rfl) (by kernel_rfl) (by exact hb.drew) ?_
      intro hne hx
      replace hb := hb.drew
      change wpStg _ _ _ _ _ _ _ _ V3.drew
      obtain ⟨Vs, hWq⟩ : ∃ Vs, Vs = V3.drew := ⟨_, rfl⟩
      rw [← hWq] at hb ⊢
      clear hWq
      refine stg_seg 13 (by dsimp only [List.take]) (by dsimp only [List.drop]) (by rfl) ?_
      repeat (go_big_quiet_step (fail))
      refine wpQuiet_nil ?_
      refine stg_loud (by rfl) ?_
      go_wp2_with fail
      have hbs := bl_alloc (Below.refl Vs.heap.size Vs) (.cells #[.int .i64 4, .int .i64 T.id, .int .i64 x.src, .int .i64 T.term, .int .i64 0, .int .i64 0, .bool false] 44)
      refine lq_in rfl (bl_trans hb hbs) ?_
      refine stg_seg 1 (by dsimp only [List.take]) (by dsimp only [List.drop]) (by rfl) ?_
      repeat (go_big_quiet_step (fail))
      refine wpQuiet_nil ?_
      refine stg_nil ?_
      clear hne hx
      go_wp2_with fail
      go_ret
      rw [HP.out, ← HTI.out]
      exact SendsR.some ⟨_, _, HN.out.below hb⟩ (HKK.out.below hb) HLL.out ⟨rfl, .inr ⟨Vs.heap.size, 1, #[.int .i64 4, .int .i64 (T).id, .int .i64 x.src, .int .i64 T.term, .int .i64 0, .int .i64 0, .bool false], rfl, Nat.le_refl _, blk_new _ _ rfl, Nat.le_refl _, by unfold maxLen; omega, rfl, rfl⟩⟩ hbs
    have d1 : (x.term == T.term) = true := by simp [c1]
    by_cases c2 : T.vote = 0
    · have d2 : (T.vote == 0) = true := by simp [c2]
      rw [show T.votes x O = O by unfold Nd.votes; simp [c1, c2]] at HP
      clear c1 c2
      cases O with
      | false =>
        rw [if_neg (by decide)] at HP
        go_wp2_with fail
        refine wp_region_in (Below V2.heap.size V2) (fun _ => false) (by kernel_rfl) (by kernel_rfl) (by exact hb.drew) ?_
        intro hne hx
        replace hb := hb.drew
        change wpStg _ _ _ _ _ _ _ _ V2.drew
        obtain ⟨V3, hWq⟩ : ∃ V3, V3 = V2.drew := ⟨_, rfl⟩
        rw [← hWq] at hb ⊢
        clear hWq
        refine stg_seg 30 (by dsimp only [List.take]) (by dsimp only [List.drop]) (by rfl) ?_
        repeat (go_big_quiet_step (fail))
        refine wpQuiet_nil ?_
        refine stg_nil ?_
        clear hne hx
        go_wp2_with fail
        refine wp_region_in (Below V2.heap.size V2) (fun i => i == 13) (by kernel_rfl) (by kernel_rfl) (by exact hb.drew) ?_
        intro hne hx
        replace hb := hb.drew
        change wpStg _ _ _ _ _ _ _ _ V3.drew
        obtain ⟨Vs, hWq⟩ : ∃ Vs, Vs = V3.drew := ⟨_, rfl⟩
        rw [← hWq] at hb ⊢
        clear hWq
        refine stg_seg 13 (by dsimp only [List.take]) (by dsimp only [List.drop]) (by rfl) ?_
        repeat (go_big_quiet_step (fail))
        refine wpQuiet_nil ?_
        refine stg_loud (by rfl) ?_
        go_wp2_with fail
        have hbs := bl_alloc (Below.refl Vs.heap.size Vs) (.cells #[.int .i64 4, .int .i64 T.id, .int .i64 x.src, .int .i64 T.term, .int .i64 0, .int .i64 0, .bool false] 44)
        refine lq_in rfl (bl_trans hb hbs) ?_
        refine stg_seg 1 (by dsimp only [List.take]) (by dsimp only [List.drop]) (by rfl) ?_
        repeat (go_big_quiet_step (fail))
        refine wpQuiet_nil ?_
        refine stg_nil ?_
        clear hne hx
        go_wp2_with fail
        go_ret
        rw [HP.out, ← HTI.out]
        exact SendsR.some ⟨_, _, HN.out.below hb⟩ (HKK.out.below hb) HLL.out ⟨rfl, .inr ⟨Vs.heap.size, 1, #[.int .i64 4, .int .i64 (T).id, .int .i64 x.src, .int .i64 T.term, .int .i64 0, .int .i64 0, .bool false], rfl, Nat.le_refl _, blk_new _ _ rfl, Nat.le_refl _, by unfold maxLen; omega, rfl, rfl⟩⟩ hbs
      | true =>
        rw [if_pos rfl] at HP
        go_wp2_with fail
        refine wp_region_in (Below V2.heap.size V2) (fun _ => false) (by kernel_rfl) (by kernel_rfl) (by exact hb.drew) ?_
        intro hne hx
        replace hb := hb.drew
        change wpStg _ _ _ _ _ _ _ _ V2.drew
        obtain ⟨V3, hWq⟩ : ∃ V3, V3 = V2.drew := ⟨_, rfl⟩
        rw [← hWq] at hb ⊢
        clear hWq
        refine stg_seg 30 (by dsimp only [List.take]) (by dsimp only [List.drop]) (by rfl) ?_
        repeat (go_big_quiet_step (fail))
        refine wpQuiet_nil ?_
        refine stg_nil ?_
        clear hne hx
        have HN3 := Lib.hid (HN.out.below hb)
        have HK3 := Lib.hid (HKK.out.below hb)
        have HBX3 := Lib.hid (blk_below HBX.out hb (blk_lt HBX.out))
        have HBN := Lib.hid (show b ≠ w.heap.size from hbn)
        clear q1 q3 r0 r1 r2 r3 r4 r5 r6 r7 r8 r9 r10 r11 rz hb HN HKK HBX hbn
        have q1 : V3.cell? ⟨w.heap.size, 1, none⟩ = some (.int .i64 x.src) := blk_cell HBX3.out 1
        have hx := HN3.out
        have c0 := hx.cell 0
        have c1 := hx.cell 1
        have c2 := hx.cell 2
        have c3 := hx.cell 3
        have c4 := hx.cell 4
        have c5 := hx.cell 5
        have c6 := hx.cell 6
        have c7 := hx.cell 7
        have c8 := hx.cell 8
        have c9 := hx.cell 9
        have c10 := hx.cell 10
        have c11 := hx.cell 11
        have fz := hx.frozen
        simp only [refC, List.getElem?_toArray, List.getElem?_cons_zero, List.getElem?_cons_succ] at c0 c1 c2 c3 c4 c5 c6 c7 c8 c9 c10 c11
        clear hx
        by_cases hro : T.role = 1
        · have e8 : (T.role == 1) = true := by simp [hro]
          have HVF := Lib.hid (show T.voteFor x.src = { T with vote := x.src, waited := 0, role := 0 } by unfold Nd.voteFor; rw [if_pos hro])
          clear hro
          go_wp2_with fail
          have k4 : Chg [b] V3 (((V3.setCell ⟨b, 2, none⟩ (.int .i64 x.src)).setCell ⟨b, 8, none⟩ (.int .i64 0)).setCell ⟨b, 6, none⟩ (.int .i64 0)) := (((Chg.refl _ V3).set (by simp) _).set (by simp) _).set (by simp) _
          have h4 := HN3.out.scal (S' := { T with vote := x.src, waited := 0, role := 0 }) k4 (blk_set (blk_set (blk_set HN3.out.blk 2 _) 8 _) 6 _) ⟨rfl, rfl⟩ ⟨rfl, rfl⟩ rfl rfl
          change Code.wp _ _ _ _ (((V3.setCell ⟨b, 2, none⟩ (.int .i64 x.src)).setCell ⟨b, 8, none⟩ (.int .i64 0)).setCell ⟨b, 6, none⟩ (.int .i64 0))
          obtain ⟨V4, hV4⟩ : ∃ V4, V4 = ((V3.setCell ⟨b, 2, none⟩ (.int .i64 x.src)).setCell ⟨b, 8, none⟩ (.int .i64 0)).setCell ⟨b, 6, none⟩ (.int .i64 0) := ⟨_, rfl⟩
          rw [← hV4] at h4 k4 ⊢
          rw [← HVF.out] at h4
          have HN4 := Lib.hid h4
          have HBX4 := Lib.hid (k4.blk HBX3.out (fun hm => HBN.out (List.mem_singleton.1 hm).symm))
          have HT4 := Lib.hid (show (T.voteFor x.src).id = T.id ∧ (T.voteFor x.src).term = T.term from ⟨rfl, rfl⟩)
          obtain ⟨K4, L4⟩ := Moves.trans HK3.out HLL.out (k4.up1 HN3.out.inb) (fun x hx => .inl hx)
          have HK4 := Lib.hid K4
          have HL4 := Lib.hid L4
          obtain ⟨U, hU⟩ : ∃ U, U = T.voteFor x.src := ⟨_, rfl⟩
          rw [← hU] at HN4 HP HT4
          clear hV4 k4 h4 K4 L4 hU c0 c1 c2 c3 c4 c5 c6 c7 c8 c9 c10 c11 fz q1 HN3 HK3 HBX3 HLL
          have q1 : ∀ W', Below V4.heap.size V4 W' → W'.cell? ⟨w.heap.size, 1, none⟩ = some (.int .i64 x.src) := fun W' h => blk_cell (blk_below HBX4.out h (blk_lt HBX4.out)) 1
          have hcB : ∀ (i : Nat) (W' : World), Below V4.heap.size V4 W' → W'.cell? ⟨b, i, none⟩ = (refC (U) (yvt) (nvt))[i]? := fun i W' h => (HN4.out.below h).cell i
          have r0 := hcB 0
          have r1 := hcB 1
          have r2 := hcB 2
          have r3 := hcB 3
          have r4 := hcB 4
          have r5 := hcB 5
          have r6 := hcB 6
          have r7 := hcB 7
          have r8 := hcB 8
          have r9 := hcB 9
          have r10 := hcB 10
          have r11 := hcB 11
          have rz : ∀ (i : Nat) (W' : World), Below V4.heap.size V4 W' → W'.frozen? ⟨b, i, none⟩ = false := fun i W' h => (HN4.out.below h).frozen i
          simp only [refC, List.getElem?_toArray, List.getElem?_cons_zero, List.getElem?_cons_succ] at r0 r1 r2 r3 r4 r5 r6 r7 r8 r9 r10 r11
          clear hcB
          try go_wp2_with fail
          have hb := Below.refl V4.heap.size V4
          refine wp_region_in (Below V4.heap.size V4) (fun i => i == 13) (by kernel_rfl) (by kernel_rfl) (by exact hb.drew) ?_
          intro hne hx
          replace hb := hb.drew
          change wpStg _ _ _ _ _ _ _ _ V4.drew
          obtain ⟨Vs, hWq⟩ : ∃ Vs, Vs = V4.drew := ⟨_, rfl⟩
          rw [← hWq] at hb ⊢
          clear hWq
          refine stg_seg 13 (by dsimp only [List.take]) (by dsimp only [List.drop]) (by rfl) ?_
          repeat (go_big_quiet_step (fail))
          refine wpQuiet_nil ?_
          refine stg_loud (by rfl) ?_
          go_wp2_with fail
          have hbs := bl_alloc (Below.refl Vs.heap.size Vs) (.cells #[.int .i64 4, .int .i64 (U).id, .int .i64 x.src, .int .i64 U.term, .int .i64 0, .int .i64 0, .bool true] 44)
          refine lq_in rfl (bl_trans hb hbs) ?_
          refine stg_seg 1 (by dsimp only [List.take]) (by dsimp only [List.drop]) (by rfl) ?_
          repeat (go_big_quiet_step (fail))
          refine wpQuiet_nil ?_
          refine stg_nil ?_
          clear hne hx
          go_wp2_with fail
          go_ret
          rw [HP.out, ← HTI.out, ← HT4.out.1, ← HT4.out.2]
          exact SendsR.some ⟨_, _, HN4.out.below hb⟩ (HK4.out.below hb) HL4.out ⟨rfl, .inr ⟨Vs.heap.size, 1, #[.int .i64 4, .int .i64 (U).id, .int .i64 x.src, .int .i64 U.term, .int .i64 0, .int .i64 0, .bool true], rfl, Nat.le_refl _, blk_new _ _ rfl, Nat.le_refl _, by unfold maxLen; omega, rfl, rfl⟩⟩ hbs
        · have e8 : (T.role == 1) = false := by simp [hro]
          have HVF := Lib.hid (show T.voteFor x.src = { T with vote := x.src, waited := 0 } by unfold Nd.voteFor; rw [if_neg hro])
          clear hro
          go_wp2_with fail
          have k4 : Chg [b] V3 ((V3.setCell ⟨b, 2, none⟩ (.int .i64 x.src)).setCell ⟨b, 8, none⟩ (.int .i64 0)) := ((Chg.refl _ V3).set (by simp) _).set (by simp) _
          have h4 := HN3.out.scal (S' := { T with vote := x.src, waited := 0 }) k4 (blk_set (blk_set HN3.out.blk 2 _) 8 _) ⟨rfl, rfl⟩ ⟨rfl, rfl⟩ rfl rfl
          change Code.wp _ _ _ _ ((V3.setCell ⟨b, 2, none⟩ (.int .i64 x.src)).setCell ⟨b, 8, none⟩ (.int .i64 0))
          obtain ⟨V4, hV4⟩ : ∃ V4, V4 = (V3.setCell ⟨b, 2, none⟩ (.int .i64 x.src)).setCell ⟨b, 8, none⟩ (.int .i64 0) := ⟨_, rfl⟩
          rw [← hV4] at h4 k4 ⊢
          rw [← HVF.out] at h4
          have HN4 := Lib.hid h4
          have HBX4 := Lib.hid (k4.blk HBX3.out (fun hm => HBN.out (List.mem_singleton.1 hm).symm))
          have HT4 := Lib.hid (show (T.voteFor x.src).id = T.id ∧ (T.voteFor x.src).term = T.term from ⟨rfl, rfl⟩)
          obtain ⟨K4, L4⟩ := Moves.trans HK3.out HLL.out (k4.up1 HN3.out.inb) (fun x hx => .inl hx)
          have HK4 := Lib.hid K4
          have HL4 := Lib.hid L4
          obtain ⟨U, hU⟩ : ∃ U, U = T.voteFor x.src := ⟨_, rfl⟩
          rw [← hU] at HN4 HP HT4
          clear hV4 k4 h4 K4 L4 hU c0 c1 c2 c3 c4 c5 c6 c7 c8 c9 c10 c11 fz q1 HN3 HK3 HBX3 HLL
          have q1 : ∀ W', Below V4.heap.size V4 W' → W'.cell? ⟨w.heap.size, 1, none⟩ = some (.int .i64 x.src) := fun W' h => blk_cell (blk_below HBX4.out h (blk_lt HBX4.out)) 1
          have hcB : ∀ (i : Nat) (W' : World), Below V4.heap.size V4 W' → W'.cell? ⟨b, i, none⟩ = (refC (U) (yvt) (nvt))[i]? := fun i W' h => (HN4.out.below h).cell i
          have r0 := hcB 0
          have r1 := hcB 1
          have r2 := hcB 2
          have r3 := hcB 3
          have r4 := hcB 4
          have r5 := hcB 5
          have r6 := hcB 6
          have r7 := hcB 7
          have r8 := hcB 8
          have r9 := hcB 9
          have r10 := hcB 10
          have r11 := hcB 11
          have rz : ∀ (i : Nat) (W' : World), Below V4.heap.size V4 W' → W'.frozen? ⟨b, i, none⟩ = false := fun i W' h => (HN4.out.below h).frozen i
          simp only [refC, List.getElem?_toArray, List.getElem?_cons_zero, List.getElem?_cons_succ] at r0 r1 r2 r3 r4 r5 r6 r7 r8 r9 r10 r11
          clear hcB
          try go_wp2_with fail
          have hb := Below.refl V4.heap.size V4
          refine wp_region_in (Below V4.heap.size V4) (fun i => i == 13) (by kernel_rfl) (by kernel_rfl) (by exact hb.drew) ?_
          intro hne hx
          replace hb := hb.drew
          change wpStg _ _ _ _ _ _ _ _ V4.drew
          obtain ⟨Vs, hWq⟩ : ∃ Vs, Vs = V4.drew := ⟨_, rfl⟩
          rw [← hWq] at hb ⊢
          clear hWq
          refine stg_seg 13 (by dsimp only [List.take]) (by dsimp only [List.drop]) (by rfl) ?_
          repeat (go_big_quiet_step (fail))
          refine wpQuiet_nil ?_
          refine stg_loud (by rfl) ?_
          go_wp2_with fail
          have hbs := bl_alloc (Below.refl Vs.heap.size Vs) (.cells #[.int .i64 4, .int .i64 (U).id, .int .i64 x.src, .int .i64 U.term, .int .i64 0, .int .i64 0, .bool true] 44)
          refine lq_in rfl (bl_trans hb hbs) ?_
          refine stg_seg 1 (by dsimp only [List.take]) (by dsimp only [List.drop]) (by rfl) ?_
          repeat (go_big_quiet_step (fail))
          refine wpQuiet_nil ?_
          refine stg_nil ?_
          clear hne hx
          go_wp2_with fail
          go_ret
          rw [HP.out, ← HTI.out, ← HT4.out.1, ← HT4.out.2]
          exact SendsR.some ⟨_, _, HN4.out.below hb⟩ (HK4.out.below hb) HL4.out ⟨rfl, .inr ⟨Vs.heap.size, 1, #[.int .i64 4, .int .i64 (U).id, .int .i64 x.src, .int .i64 U.term, .int .i64 0, .int .i64 0, .bool true], rfl, Nat.le_refl _, blk_new _ _ rfl, Nat.le_refl _, by unfold maxLen; omega, rfl, rfl⟩⟩ hbs
    · have d2 : (T.vote == 0) = false := by simp [c2]
      by_cases c3 : T.vote = x.src
      · have d3 : (T.vote == x.src) = true := by simp [c3]
        rw [show T.votes x O = O by unfold Nd.votes; simp [c1, c3]] at HP
        clear c1 c2 c3
        cases O with
        | false =>
          rw [if_neg (by decide)] at HP
          go_wp2_with fail
          refine wp_region_in (Below V2.heap.size V2) (fun _ => false) (by kernel_rfl) (by kernel_rfl) (by exact hb.drew) ?_
          intro hne hx
          replace hb := hb.drew
          change wpStg _ _ _ _ _ _ _ _ V2.drew
          obtain ⟨V3, hWq⟩ : ∃ V3, V3 = V2.drew := ⟨_, rfl⟩
          rw [← hWq] at hb ⊢
          clear hWq
          refine stg_seg 30 (by dsimp only [List.take]) (by dsimp only [List.drop]) (by rfl) ?_
          repeat (go_big_quiet_step (fail))
          refine wpQuiet_nil ?_
          refine stg_nil ?_
          clear hne hx
          go_wp2_with fail
          refine wp_region_in (Below V2.heap.size V2) (fun i => i == 13) (by kernel_rfl) (by kernel_rfl) (by exact hb.drew) ?_
          intro hne hx
          replace hb := hb.drew
          change wpStg _ _ _ _ _ _ _ _ V3.drew
          obtain ⟨Vs, hWq⟩ : ∃ Vs, Vs = V3.drew := ⟨_, rfl⟩
          rw [← hWq] at hb ⊢
          clear hWq
          refine stg_seg 13 (by dsimp only [List.take]) (by dsimp only [List.drop]) (by rfl) ?_
          repeat (go_big_quiet_step (fail))
          refine wpQuiet_nil ?_
          refine stg_loud (by rfl) ?_
          go_wp2_with fail
          have hbs := bl_alloc (Below.refl Vs.heap.size Vs) (.cells #[.int .i64 4, .int .i64 T.id, .int .i64 x.src, .int .i64 T.term, .int .i64 0, .int .i64 0, .bool false] 44)
          refine lq_in rfl (bl_trans hb hbs) ?_
          refine stg_seg 1 (by dsimp only [List.take]) (by dsimp only [List.drop]) (by rfl) ?_
          repeat (go_big_quiet_step (fail))
          refine wpQuiet_nil ?_
          refine stg_nil ?_
          clear hne hx
          go_wp2_with fail
          go_ret
          rw [HP.out, ← HTI.out]
          exact SendsR.some ⟨_, _, HN.out.below hb⟩ (HKK.out.below hb) HLL.out ⟨rfl, .inr ⟨Vs.heap.size, 1, #[.int .i64 4, .int .i64 (T).id, .int .i64 x.src, .int .i64 T.term, .int .i64 0, .int .i64 0, .bool false], rfl, Nat.le_refl _, blk_new _ _ rfl, Nat.le_refl _, by unfold maxLen; omega, rfl, rfl⟩⟩ hbs
        | true =>
          rw [if_pos rfl] at HP
          go_wp2_with fail
          refine wp_region_in (Below V2.heap.size V2) (fun _ => false) (by kernel_rfl) (by kernel_rfl) (by exact hb.drew) ?_
          intro hne hx
          replace hb := hb.drew
          change wpStg _ _ _ _ _ _ _ _ V2.drew
          obtain ⟨V3, hWq⟩ : ∃ V3, V3 = V2.drew := ⟨_, rfl⟩
          rw [← hWq] at hb ⊢
          clear hWq
          refine stg_seg 30 (by dsimp only [List.take]) (by dsimp only [List.drop]) (by rfl) ?_
          repeat (go_big_quiet_step (fail))
          refine wpQuiet_nil ?_
          refine stg_nil ?_
          clear hne hx
          have HN3 := Lib.hid (HN.out.below hb)
          have HK3 := Lib.hid (HKK.out.below hb)
          have HBX3 := Lib.hid (blk_below HBX.out hb (blk_lt HBX.out))
          have HBN := Lib.hid (show b ≠ w.heap.size from hbn)
          clear q1 q3 r0 r1 r2 r3 r4 r5 r6 r7 r8 r9 r10 r11 rz hb HN HKK HBX hbn
          have q1 : V3.cell? ⟨w.heap.size, 1, none⟩ = some (.int .i64 x.src) := blk_cell HBX3.out 1
          have hx := HN3.out
          have c0 := hx.cell 0
          have c1 := hx.cell 1
          have c2 := hx.cell 2
          have c3 := hx.cell 3
          have c4 := hx.cell 4
          have c5 := hx.cell 5
          have c6 := hx.cell 6
          have c7 := hx.cell 7
          have c8 := hx.cell 8
          have c9 := hx.cell 9
          have c10 := hx.cell 10
          have c11 := hx.cell 11
          have fz := hx.frozen
          simp only [refC, List.getElem?_toArray, List.getElem?_cons_zero, List.getElem?_cons_succ] at c0 c1 c2 c3 c4 c5 c6 c7 c8 c9 c10 c11
          clear hx
          by_cases hro : T.role = 1
          · have e8 : (T.role == 1) = true := by simp [hro]
            have HVF := Lib.hid (show T.voteFor x.src = { T with vote := x.src, waited := 0, role := 0 } by unfold Nd.voteFor; rw [if_pos hro])
            clear hro
            go_wp2_with fail
            have k4 : Chg [b] V3 (((V3.setCell ⟨b, 2, none⟩ (.int .i64 x.src)).setCell ⟨b, 8, none⟩ (.int .i64 0)).setCell ⟨b, 6, none⟩ (.int .i64 0)) := (((Chg.refl _ V3).set (by simp) _).set (by simp) _).set (by simp) _
            have h4 := HN3.out.scal (S' := { T with vote := x.src, waited := 0, role := 0 }) k4 (blk_set (blk_set (blk_set HN3.out.blk 2 _) 8 _) 6 _) ⟨rfl, rfl⟩ ⟨rfl, rfl⟩ rfl rfl
            change Code.wp _ _ _ _ (((V3.setCell ⟨b, 2, none⟩ (.int .i64 x.src)).setCell ⟨b, 8, none⟩ (.int .i64 0)).setCell ⟨b, 6, none⟩ (.int .i64 0))
            obtain ⟨V4, hV4⟩ : ∃ V4, V4 = ((V3.setCell ⟨b, 2, none⟩ (.int .i64 x.src)).setCell ⟨b, 8, none⟩ (.int .i64 0)).setCell ⟨b, 6, none⟩ (.int .i64 0) := ⟨_, rfl⟩
            rw [← hV4] at h4 k4 ⊢
            rw [← HVF.out] at h4
            have HN4 := Lib.hid h4
            have HBX4 := Lib.hid (k4.blk HBX3.out (fun hm => HBN.out (List.mem_singleton.1 hm).symm))
            have HT4 := Lib.hid (show (T.voteFor x.src).id = T.id ∧ (T.voteFor x.src).term = T.term from ⟨rfl, rfl⟩)
            obtain ⟨K4, L4⟩ := Moves.trans HK3.out HLL.out (k4.up1 HN3.out.inb) (fun x hx => .inl hx)
            have HK4 := Lib.hid K4
            have HL4 := Lib.hid L4
            obtain ⟨U, hU⟩ : ∃ U, U = T.voteFor x.src := ⟨_, rfl⟩
            rw [← hU] at HN4 HP HT4
            clear hV4 k4 h4 K4 L4 hU c0 c1 c2 c3 c4 c5 c6 c7 c8 c9 c10 c11 fz q1 HN3 HK3 HBX3 HLL
            have q1 : ∀ W', Below V4.heap.size V4 W' → W'.cell? ⟨w.heap.size, 1, none⟩ = some (.int .i64 x.src) := fun W' h => blk_cell (blk_below HBX4.out h (blk_lt HBX4.out)) 1
            have hcB : ∀ (i : Nat) (W' : World), Below V4.heap.size V4 W' → W'.cell? ⟨b, i, none⟩ = (refC (U) (yvt) (nvt))[i]? := fun i W' h => (HN4.out.below h).cell i
            have r0 := hcB 0
            have r1 := hcB 1
            have r2 := hcB 2
            have r3 := hcB 3
            have r4 := hcB 4
            have r5 := hcB 5
            have r6 := hcB 6
            have r7 := hcB 7
            have r8 := hcB 8
            have r9 := hcB 9
            have r10 := hcB 10
            have r11 := hcB 11
            have rz : ∀ (i : Nat) (W' : World), Below V4.heap.size V4 W' → W'.frozen? ⟨b, i, none⟩ = false := fun i W' h => (HN4.out.below h).frozen i
            simp only [refC, List.getElem?_toArray, List.getElem?_cons_zero, List.getElem?_cons_succ] at r0 r1 r2 r3 r4 r5 r6 r7 r8 r9 r10 r11
            clear hcB
            try go_wp2_with fail
            have hb := Below.refl V4.heap.size V4
            refine wp_region_in (Below V4.heap.size V4) (fun i => i == 13) (by kernel_rfl) (by kernel_rfl) (by exact hb.drew) ?_
            intro hne hx
            replace hb := hb.drew
            change wpStg _ _ _ _ _ _ _ _ V4.drew
            obtain ⟨Vs, hWq⟩ : ∃ Vs, Vs = V4.drew := ⟨_, rfl⟩
            rw [← hWq] at hb ⊢
            clear hWq
            refine stg_seg 13 (by dsimp only [List.take]) (by dsimp only [List.drop]) (by rfl) ?_
            repeat (go_big_quiet_step (fail))
            refine wpQuiet_nil ?_
            refine stg_loud (by rfl) ?_
            go_wp2_with fail
            have hbs := bl_alloc (Below.refl Vs.heap.size Vs) (.cells #[.int .i64 4, .int .i64 (U).id, .int .i64 x.src, .int .i64 U.term, .int .i64 0, .int .i64 0, .bool true] 44)
            refine lq_in rfl (bl_trans hb hbs) ?_
            refine stg_seg 1 (by dsimp only [List.take]) (by dsimp only [List.drop]) (by rfl) ?_
            repeat (go_big_quiet_step (fail))
            refine wpQuiet_nil ?_
            refine stg_nil ?_
            clear hne hx
            go_wp2_with fail
            go_ret
            rw [HP.out, ← HTI.out, ← HT4.out.1, ← HT4.out.2]
            exact SendsR.some ⟨_, _, HN4.out.below hb⟩ (HK4.out.below hb) HL4.out ⟨rfl, .inr ⟨Vs.heap.size, 1, #[.int .i64 4, .int .i64 (U).id, .int .i64 x.src, .int .i64 U.term, .int .i64 0, .int .i64 0, .bool true], rfl, Nat.le_refl _, blk_new _ _ rfl, Nat.le_refl _, by unfold maxLen; omega, rfl, rfl⟩⟩ hbs
          · have e8 : (T.role == 1) = false := by simp [hro]
            have HVF := Lib.hid (show T.voteFor x.src = { T with vote := x.src, waited := 0 } by unfold Nd.voteFor; rw [if_neg hro])
            clear hro
            go_wp2_with fail
            have k4 : Chg [b] V3 ((V3.setCell ⟨b, 2, none⟩ (.int .i64 x.src)).setCell ⟨b, 8, none⟩ (.int .i64 0)) := ((Chg.refl _ V3).set (by simp) _).set (by simp) _
            have h4 := HN3.out.scal (S' := { T with vote := x.src, waited := 0 }) k4 (blk_set (blk_set HN3.out.blk 2 _) 8 _) ⟨rfl, rfl⟩ ⟨rfl, rfl⟩ rfl rfl
            change Code.wp _ _ _ _ ((V3.setCell ⟨b, 2, none⟩ (.int .i64 x.src)).setCell ⟨b, 8, none⟩ (.int .i64 0))
            obtain ⟨V4, hV4⟩ : ∃ V4, V4 = (V3.setCell ⟨b, 2, none⟩ (.int .i64 x.src)).setCell ⟨b, 8, none⟩ (.int .i64 0) := ⟨_, rfl⟩
            rw [← hV4] at h4 k4 ⊢
            rw [← HVF.out] at h4
            have HN4 := Lib.hid h4
            have HBX4 := Lib.hid (k4.blk HBX3.out (fun hm => HBN.out (List.mem_singleton.1 hm).symm))
            have HT4 := Lib.hid (show (T.voteFor x.src).id = T.id ∧ (T.voteFor x.src).term = T.term from ⟨rfl, rfl⟩)
            obtain ⟨K4, L4⟩ := Moves.trans HK3.out HLL.out (k4.up1 HN3.out.inb) (fun x hx => .inl hx)
            have HK4 := Lib.hid K4
            have HL4 := Lib.hid L4
            obtain ⟨U, hU⟩ : ∃ U, U = T.voteFor x.src := ⟨_, rfl⟩
            rw [← hU] at HN4 HP HT4
            clear hV4 k4 h4 K4 L4 hU c0 c1 c2 c3 c4 c5 c6 c7 c8 c9 c10 c11 fz q1 HN3 HK3 HBX3 HLL
            have q1 : ∀ W', Below V4.heap.size V4 W' → W'.cell? ⟨w.heap.size, 1, none⟩ = some (.int .i64 x.src) := fun W' h => blk_cell (blk_below HBX4.out h (blk_lt HBX4.out)) 1
            have hcB : ∀ (i : Nat) (W' : World), Below V4.heap.size V4 W' → W'.cell? ⟨b, i, none⟩ = (refC (U) (yvt) (nvt))[i]? := fun i W' h => (HN4.out.below h).cell i
            have r0 := hcB 0
            have r1 := hcB 1
            have r2 := hcB 2
            have r3 := hcB 3
            have r4 := hcB 4
            have r5 := hcB 5
            have r6 := hcB 6
            have r7 := hcB 7
            have r8 := hcB 8
            have r9 := hcB 9
            have r10 := hcB 10
            have r11 := hcB 11
            have rz : ∀ (i : Nat) (W' : World), Below V4.heap.size V4 W' → W'.frozen? ⟨b, i, none⟩ = false := fun i W' h => (HN4.out.below h).frozen i
            simp only [refC, List.getElem?_toArray, List.getElem?_cons_zero, List.getElem?_cons_succ] at r0 r1 r2 r3 r4 r5 r6 r7 r8 r9 r10 r11
            clear hcB
            try go_wp2_with fail
            have hb := Below.refl V4.heap.size V4
            refine wp_region_in (Below V4.heap.size V4) (fun i => i == 13) (by kernel_rfl) (by kernel_rfl) (by exact hb.drew) ?_
            intro hne hx
            replace hb := hb.drew
            change wpStg _ _ _ _ _ _ _ _ V4.drew
            obtain ⟨Vs, hWq⟩ : ∃ Vs, Vs = V4.drew := ⟨_, rfl⟩
            rw [← hWq] at hb ⊢
            clear hWq
            refine stg_seg 13 (by dsimp only [List.take]) (by dsimp only [List.drop]) (by rfl) ?_
            repeat (go_big_quiet_step (fail))
            refine wpQuiet_nil ?_
            refine stg_loud (by rfl) ?_
            go_wp2_with fail
            have hbs := bl_alloc (Below.refl Vs.heap.size Vs) (.cells #[.int .i64 4, .int .i64 (U).id, .int .i64 x.src, .int .i64 U.term, .int .i64 0, .int .i64 0, .bool true] 44)
            refine lq_in rfl (bl_trans hb hbs) ?_
            refine stg_seg 1 (by dsimp only [List.take]) (by dsimp only [List.drop]) (by rfl) ?_
            repeat (go_big_quiet_step (fail))
            refine wpQuiet_nil ?_
            refine stg_nil ?_
            clear hne hx
            go_wp2_with fail
            go_ret
            rw [HP.out, ← HTI.out, ← HT4.out.1, ← HT4.out.2]
            exact SendsR.some ⟨_, _, HN4.out.below hb⟩ (HK4.out.below hb) HL4.out ⟨rfl, .inr ⟨Vs.heap.size, 1, #[.int .i64 4, .int .i64 (U).id, .int .i64 x.src, .int .i64 U.term, .int .i64 0, .int .i64 0, .bool true], rfl, Nat.le_refl _, blk_new _ _ rfl, Nat.le_refl _, by unfold maxLen; omega, rfl, rfl⟩⟩ hbs
      · have d3 : (T.vote == x.src) = false := by simp [c3]
        rw [show T.votes x O = false by unfold Nd.votes; simp [c2, c3], if_neg (by decide)] at HP
        clear c1 c2 c3
        go_wp2_with fail
        refine wp_region_in (Below V2.heap.size V2) (fun _ => false) (by kernel_rfl) (by kernel_rfl) (by exact hb.drew) ?_
        intro hne hx
        replace hb := hb.drew
        change wpStg _ _ _ _ _ _ _ _ V2.drew
        obtain ⟨V3, hWq⟩ : ∃ V3, V3 = V2.drew := ⟨_, rfl⟩
        rw [← hWq] at hb ⊢
        clear hWq
        refine stg_seg 30 (by dsimp only [List.take]) (by dsimp only [List.drop]) (by rfl) ?_
        repeat (go_big_quiet_step (fail))
        refine wpQuiet_nil ?_
        refine stg_nil ?_
        clear hne hx
        go_wp2_with fail
        refine wp_region_in (Below V2.heap.size V2) (fun i => i == 13) (by kernel_rfl) (by kernel_rfl) (by exact hb.drew) ?_
        intro hne hx
        replace hb := hb.drew
        change wpStg _ _ _ _ _ _ _ _ V3.drew
        obtain ⟨Vs, hWq⟩ : ∃ Vs, Vs = V3.drew := ⟨_, rfl⟩
        rw [← hWq] at hb ⊢
        clear hWq
        refine stg_seg 13 (by dsimp only [List.take]) (by dsimp only [List.drop]) (by rfl) ?_
        repeat (go_big_quiet_step (fail))
        refine wpQuiet_nil ?_
        refine stg_loud (by rfl) ?_
        go_wp2_with fail
        have hbs := bl_alloc (Below.refl Vs.heap.size Vs) (.cells #[.int .i64 4, .int .i64 T.id, .int .i64 x.src, .int .i64 T.term, .int .i64 0, .int .i64 0, .bool false] 44)
        refine lq_in rfl (bl_trans hb hbs) ?_
        refine stg_seg 1 (by dsimp only [List.take]) (by dsimp only [List.drop]) (by rfl) ?_
        repeat (go_big_quiet_step (fail))
        refine wpQuiet_nil ?_
        refine stg_nil ?_
        clear hne hx
        go_wp2_with fail
        go_ret
        rw [HP.out, ← HTI.out]
        exact SendsR.some ⟨_, _, HN.out.below hb⟩ (HKK.out.below hb) HLL.out ⟨rfl, .inr ⟨Vs.heap.size, 1, #[.int .i64 4, .int .i64 (T).id, .int .i64 x.src, .int .i64 T.term, .int .i64 0, .int .i64 0, .bool false], rfl, Nat.le_refl _, blk_new _ _ rfl, Nat.le_refl _, by unfold maxLen; omega, rfl, rfl⟩⟩ hbs
set_option maxRecDepth 100000 in
set_option maxHeartbeats 8000000 in
theorem rtake_k3t {b : Nat} {S : Nd} {L : List Nat} {w : World} (h : RefAt w b S L) (h0 : 0 ≤ S.term) (ht9 : S.term ≤ maxIx) (hv : S.vs.length ≤ 1000) (hy9 : S.yes.length < 1000) (hn9 : S.no.length < 1000) (x : Bal) (last lt : Int) (hG : ¬ (x.dst ≠ S.id ∨ S.other x.src = false ∨ x.term < 0 ∨ maxIx < x.term)) (k3 : x.kind = 3) (hAA : decide (S.term < x.term) = true) :
    Calls Try.prog 25 #[.pointer (some ⟨b, 0, none⟩), .agg #[.int .i64 x.kind, .int .i64 x.src, .int .i64 x.dst, .int .i64 x.term, .int .i64 x.index, .int .i64 x.logTerm, .bool x.yes], .int .i64 last, .int .i64 lt] w fun e w' => SendsR w b (S.take x last lt).1 L (S.take x last lt).2 e w' := by
  have H_k3 := Lib.hid k3
  have H_hAA := Lib.hid hAA
  clear k3 hAA
  have h9 := h.low
  obtain ⟨yv, nv, hx⟩ := h
  have hb0 := bl_alloc (Below.refl w.heap.size w) (.cells #[.int .i64 x.kind, .int .i64 x.src, .int .i64 x.dst, .int .i64 x.term, .int .i64 x.index, .int .i64 x.logTerm, .bool x.yes] 44)
  have hx0 := hx.below hb0
  have hblk := blk_new w (.cells #[.int .i64 x.kind, .int .i64 x.src, .int .i64 x.dst, .int .i64 x.term, .int .i64 x.index, .int .i64 x.logTerm, .bool x.yes] 44) rfl
  obtain ⟨w0, hw0⟩ : ∃ w0, w0 = w.alloc (.cells #[.int .i64 x.kind, .int .i64 x.src, .int .i64 x.dst, .int .i64 x.term, .int .i64 x.index, .int .i64 x.logTerm, .bool x.yes] 44) := ⟨_, rfl⟩
  rw [← hw0] at hb0 hx0 hblk
  have HW0 := Lib.hid hw0
  have HB0 := Lib.hid hb0
  have HBK := Lib.hid hblk
  have HN0 := Lib.hid hx0
  have q0 : ∀ W, Below w0.heap.size w0 W → W.cell? ⟨w.heap.size, 0, none⟩ = some (.int .i64 x.kind) := fun W h => blk_cell (blk_below hblk h (blk_lt hblk)) 0
  have q1 : ∀ W, Below w0.heap.size w0 W → W.cell? ⟨w.heap.size, 1, none⟩ = some (.int .i64 x.src) := fun W h => blk_cell (blk_below hblk h (blk_lt hblk)) 1
  have q2 : ∀ W, Below w0.heap.size w0 W → W.cell? ⟨w.heap.size, 2, none⟩ = some (.int .i64 x.dst) := fun W h => blk_cell (blk_below hblk h (blk_lt hblk)) 2
  have q3 : ∀ W, Below w0.heap.size w0 W → W.cell? ⟨w.heap.size, 3, none⟩ = some (.int .i64 x.term) := fun W h => blk_cell (blk_below hblk h (blk_lt hblk)) 3
  have q4 : ∀ W, Below w0.heap.size w0 W → W.cell? ⟨w.heap.size, 4, none⟩ = some (.int .i64 x.index) := fun W h => blk_cell (blk_below hblk h (blk_lt hblk)) 4
  have q5 : ∀ W, Below w0.heap.size w0 W → W.cell? ⟨w.heap.size, 5, none⟩ = some (.int .i64 x.logTerm) := fun W h => blk_cell (blk_below hblk h (blk_lt hblk)) 5
  have q6 : ∀ W, Below w0.heap.size w0 W → W.cell? ⟨w.heap.size, 6, none⟩ = some (.bool x.yes) := fun W h => blk_cell (blk_below hblk h (blk_lt hblk)) 6
  have hcB : ∀ (i : Nat) (W' : World), Below w0.heap.size w0 W' → W'.cell? ⟨b, i, none⟩ = (refC (S) (yv) (nv))[i]? := fun i W' h => (hx0.below h).cell i
  have r0 := hcB 0
  have r1 := hcB 1
  have r2 := hcB 2
  have r3 := hcB 3
  have r4 := hcB 4
  have r5 := hcB 5
  have r6 := hcB 6
  have r7 := hcB 7
  have r8 := hcB 8
  have r9 := hcB 9
  have r10 := hcB 10
  have r11 := hcB 11
  have rz : ∀ (i : Nat) (W' : World), Below w0.heap.size w0 W' → W'.frozen? ⟨b, i, none⟩ = false := fun i W' h => (hx0.below h).frozen i
  simp only [refC, List.getElem?_toArray, List.getElem?_cons_zero, List.getElem?_cons_succ] at r0 r1 r2 r3 r4 r5 r6 r7 r8 r9 r10 r11
  clear hcB
  have hbn : b ≠ w.heap.size := fun e => by have := blk_lt hx.blk; omega
  clear hx hx0 hblk hw0 hb0
  have hb := Below.refl w0.heap.size w0
  have HNB := Lib.hid (show ¬ w.heap.size ∈ L from fun hm => by have := h9 _ hm; omega)
  clear h9
  have hd : x.dst = S.id := Decidable.byContradiction fun k => hG (.inl k)
  have ho : S.other x.src = true := by cases e : S.other x.src with | true => rfl | false => exact absurd (.inr (.inl e)) hG
  have h1 : ¬ x.term < 0 := fun k => hG (.inr (.inr (.inl k)))
  have h2 : ¬ maxIx < x.term := fun k => hG (.inr (.inr (.inr k)))
  have hoo := ho
  unfold Nd.other at hoo
  simp only [Bool.and_eq_true, decide_eq_true_eq] at hoo
  obtain ⟨⟨a1, a2⟩, a3⟩ := hoo
  have e1 : (x.dst != S.id) = false := by simp [hd]
  have d1 : decide (x.src < 1) = false := decide_eq_false (by omega)
  have d2 : decide (15 < x.src) = false := decide_eq_false (by omega)
  have d3 : (x.src == S.id) = false := by simp [a3]
  have g1 : decide (x.term < 0) = false := decide_eq_false h1
  have g2 : decide (1099511627776 < x.term) = false := decide_eq_false h2
  have HG := Lib.hid hG
  clear hd ho h1 h2 a1 a2 a3 hG
  go_enter Try.func25, Try.ntmps25
  go_wp2_with fail
  rw [← HW0.out]
  refine wp_region_in (Below w0.heap.size w0) (fun _ => false) (by kernel_rfl) (by kernel_rfl) (by exact hb.drew) ?_
  intro hne hx
  replace hb := hb.drew
  change wpStg _ _ _ _ _ _ _ _ w0.drew
  obtain ⟨V1, hWq⟩ : ∃ V1, V1 = w0.drew := ⟨_, rfl⟩
  rw [← hWq] at hb ⊢
  clear hWq
  refine stg_seg 36 (by dsimp only [List.take]) (by dsimp only [List.drop]) (by rfl) ?_
  repeat (go_big_quiet_step (fail))
  refine wpQuiet_nil ?_
  refine stg_nil ?_
  clear hne hx
  go_upto_region 3 with fail
  obtain ⟨A, hA⟩ : ∃ A, A = decide (S.term < x.term) := ⟨_, rfl⟩
  obtain ⟨O, hO⟩ : ∃ O, O = Nd.oldB x last lt := ⟨_, rfl⟩
  have HA := Lib.hid hA
  have HOL := Lib.hid hO
  have eA := hA.symm
  clear hA hO
  go_cut [9] (fun s9 wx => s9 = .bool O ∧ wx = V1)
  case first =>
    by_cases k1 : lt < x.logTerm
    · go_wp2_with fail
      go_meet
      exact ⟨by rw [HOL.out]; unfold Nd.oldB; simp [k1], rfl⟩
    · have k1d : decide (lt < x.logTerm) = false := decide_eq_false k1
      by_cases k2 : x.logTerm = lt
      · have k2e : (x.logTerm == lt) = true := by simp [k2]
        have HE := Lib.hid (show O = decide (last ≤ x.index) by rw [HOL.out]; unfold Nd.oldB; simp [k1, k2])
        clear k1 k2
        go_wp2_with fail
        go_meet
        exact ⟨by rw [HE.out], rfl⟩
      · have k2e : (x.logTerm == lt) = false := by simp [k2]
        have HE := Lib.hid (show O = false by rw [HOL.out]; unfold Nd.oldB; simp [k1, k2])
        clear k1 k2
        go_wp2_with fail
        go_meet
        exact ⟨by rw [HE.out], rfl⟩
  case rest =>
    obtain ⟨rfl, rfl⟩ := hcut
    have k3 := H_k3.out
    have hAA := H_hAA.out
    clear H_k3 H_hAA
    have e2 : (x.kind == 1) = false := by simp [k3]
    have e6 : (x.kind == 2) = false := by simp [k3]
    have e5 : (x.kind == 3) = true := by simp [k3]
    have HP := Lib.hid (take_ask (last := last) (lt := lt) HG.out k3)
    rw [← HOL.out] at HP
    clear k3
    go_wp2_with fail
    refine wp_region_in (Below w0.heap.size w0) (fun _ => false) (by kernel_rfl) (by kernel_rfl) (by exact hb.drew) ?_
    intro hne hx
    replace hb := hb.drew
    change wpStg _ _ _ _ _ _ _ _ wc.drew
    obtain ⟨V2, hWq⟩ : ∃ V2, V2 = wc.drew := ⟨_, rfl⟩
    rw [← hWq] at hb ⊢
    clear hWq
    refine stg_seg 8 (by dsimp only [List.take]) (by dsimp only [List.drop]) (by rfl) ?_
    repeat (go_big_quiet_step (fail))
    refine wpQuiet_nil ?_
    refine stg_nil ?_
    clear hne hx
    obtain rfl : A = true := HA.out.trans hAA
    have ha : S.term < x.term := by have := HA.out; simpa using this.symm
    have HT := Lib.hid (show S.asked x = S.down x.term by unfold Nd.asked; rw [if_pos ha])
    rw [HT.out] at HP
    clear ha
    go_wp2_with fail
    refine (rdown_at ⟨_, _, HN0.out.below hb⟩ x.term).mono ?_; rintro e w3 ⟨rfl, L3, ⟨yvt, nvt, h3⟩, k3, hL3⟩
    obtain ⟨k4, hL4⟩ := Moves.trans (L := L) (.of_below (bl_trans HB0.out hb)) (fun x hx => .inl hx) k3 hL3
    have HKK := Lib.hid k4
    have HLL := Lib.hid hL4
    have HBX := Lib.hid (k3.blk (blk_below HBK.out hb (blk_lt HBK.out)) HNB.out)
    have HTI := Lib.hid (show (S.down x.term).id = S.id from rfl)
    obtain ⟨T, hT⟩ : ∃ T, T = S.down x.term := ⟨_, rfl⟩
    rw [← hT] at h3 HTI HP
    have HN := Lib.hid h3
    clear h3 k3 hL3 k4 hL4 hT hb eA q0 q1 q2 q3 q4 q5 q6 r0 r1 r2 r3 r4 r5 r6 r7 r8 r9 r10 r11 rz
    go_wp2_with fail
    have q1 : ∀ W', Below w3.heap.size w3 W' → W'.cell? ⟨w.heap.size, 1, none⟩ = some (.int .i64 x.src) := fun W' h => blk_cell (blk_below HBX.out h (blk_lt HBX.out)) 1
    have q3 : ∀ W', Below w3.heap.size w3 W' → W'.cell? ⟨w.heap.size, 3, none⟩ = some (.int .i64 x.term) := fun W' h => blk_cell (blk_below HBX.out h (blk_lt HBX.out)) 3
    have hcB : ∀ (i : Nat) (W' : World), Below w3.heap.size w3 W' → W'.cell? ⟨b, i, none⟩ = (refC (T) (yvt) (nvt))[i]? := fun i W' h => (HN.out.below h).cell i
    have r0 := hcB 0
    have r1 := hcB 1
    have r2 := hcB 2
    have r3 := hcB 3
    have r4 := hcB 4
    have r5 := hcB 5
    have r6 := hcB 6
    have r7 := hcB 7
    have r8 := hcB 8
    have r9 := hcB 9
    have r10 := hcB 10
    have r11 := hcB 11
    have rz : ∀ (i : Nat) (W' : World), Below w3.heap.size w3 W' → W'.frozen? ⟨b, i, none⟩ = false := fun i W' h => (HN.out.below h).frozen i
    simp only [refC, List.getElem?_toArray, List.getElem?_cons_zero, List.getElem?_cons_succ] at r0 r1 r2 r3 r4 r5 r6 r7 r8 r9 r10 r11
    clear hcB
    have hb := Below.refl w3.heap.size w3
    by_cases c1 : x.term = T.term
    case neg =>
      have d1 : (x.term == T.term) = false := by simp [c1]
      rw [show T.votes x O = false by unfold Nd.votes; simp [c1], if_neg (by decide)] at HP
      clear c1
      go_wp2_with fail
      refine wp_region_in (Below w3.heap.size w3) (fun _ => false) (by kernel_rfl) (by kernel_rfl) (by exact hb.drew) ?_
      intro hne hx
      replace hb := hb.drew
      change wpStg _ _ _ _ _ _ _ _ w3.drew
      obtain ⟨V3, hWq⟩ : ∃ V3, V3 = w3.drew := ⟨_, rfl⟩
      rw [← hWq] at hb ⊢
      clear hWq
      refine stg_seg 30 (by dsimp only [List.take]) (by dsimp only [List.drop]) (by rfl) ?_
      repeat (go_big_quiet_step (fail))
      refine wpQuiet_nil ?_
      refine stg_nil ?_
      clear hne hx
      go_wp2_with fail
      refine wp_region_in (Below w3.heap.size w3) (fun i => i == 13) (by kernel_rfl) (by kernel_rfl) (by exact hb.drew) ?_
      intro hne hx
      replace hb := hb.drew
      change wpStg _ _ _ _ _ _ _ _ V3.drew
      obtain ⟨Vs, hWq⟩ : ∃ Vs, Vs = V3.drew := ⟨_, rfl⟩
      rw [← hWq] at hb ⊢
      clear hWq
      refine stg_seg 13 (by dsimp only [List.take]) (by dsimp only [List.drop]) (by rfl) ?_
      repeat (go_big_quiet_step (fail))
      refine wpQuiet_nil ?_
      refine stg_loud (by rfl) ?_
      go_wp2_with fail
      have hbs := bl_alloc (Below.refl Vs.heap.size Vs) (.cells #[.int .i64 4, .int .i64 T.id, .int .i64 x.src, .int .i64 T.term, .int .i64 0, .int .i64 0, .bool false] 44)
      refine lq_in rfl (bl_trans hb hbs) ?_
      refine stg_seg 1 (by dsimp only [List.take]) (by dsimp only [List.drop]) (by rfl) ?_
      repeat (go_big_quiet_step (fail))
      refine wpQuiet_nil ?_
      refine stg_nil ?_
      clear hne hx
      go_wp2_with fail
      go_ret
      rw [HP.out, ← HTI.out]
      exact SendsR.some ⟨_, _, HN.out.below hb⟩ (HKK.out.below hb) HLL.out ⟨rfl, .inr ⟨Vs.heap.size, 1, #[.int .i64 4, .int .i64 (T).id, .int .i64 x.src, .int .i64 T.term, .int .i64 0, .int .i64 0, .bool false], rfl, Nat.le_refl _, blk_new _ _ rfl, Nat.le_refl _, by unfold maxLen; omega, rfl, rfl⟩⟩ hbs
    have d1 : (x.term == T.term) = true := by simp [c1]
    by_cases c2 : T.vote = 0
    · have d2 : (T.vote == 0) = true := by simp [c2]
      rw [show T.votes x O = O by unfold Nd.votes; simp [c1, c2]] at HP
      clear c1 c2
      cases O with
      | false =>
        rw [if_neg (by decide)] at HP
        go_wp2_with fail
        refine wp_region_in (Below w3.heap.size w3) (fun _ => false) (by kernel_rfl) (by kernel_rfl) (by exact hb.drew) ?_
        intro hne hx
        replace hb := hb.drew
        change wpStg _ _ _ _ _ _ _ _ w3.drew
        obtain ⟨V3, hWq⟩ : ∃ V3, V3 = w3.drew := ⟨_, rfl⟩
        rw [← hWq] at hb ⊢
        clear hWq
        refine stg_seg 30 (by dsimp only [List.take]) (by dsimp only [List.drop]) (by rfl) ?_
        repeat (go_big_quiet_step (fail))
        refine wpQuiet_nil ?_
        refine stg_nil ?_
        clear hne hx
        go_wp2_with fail
        refine wp_region_in (Below w3.heap.size w3) (fun i => i == 13) (by kernel_rfl) (by kernel_rfl) (by exact hb.drew) ?_
        intro hne hx
        replace hb := hb.drew
        change wpStg _ _ _ _ _ _ _ _ V3.drew
        obtain ⟨Vs, hWq⟩ : ∃ Vs, Vs = V3.drew := ⟨_, rfl⟩
        rw [← hWq] at hb ⊢
        clear hWq
        refine stg_seg 13 (by dsimp only [List.take]) (by dsimp only [List.drop]) (by rfl) ?_
        repeat (go_big_quiet_step (fail))
        refine wpQuiet_nil ?_
        refine stg_loud (by rfl) ?_
        go_wp2_with fail
        have hbs := bl_alloc (Below.refl Vs.heap.size Vs) (.cells #[.int .i64 4, .int .i64 T.id, .int .i64 x.src, .int .i64 T.term, .int .i64 0, .int .i64 0, .bool false] 44)
        refine lq_in rfl (bl_trans hb hbs) ?_
        refine stg_seg 1 (by dsimp only [List.take]) (by dsimp only [List.drop]) (by rfl) ?_
        repeat (go_big_quiet_step (fail))
        refine wpQuiet_nil ?_
        refine stg_nil ?_
        clear hne hx
        go_wp2_with fail
        go_ret
        rw [HP.out, ← HTI.out]
        exact SendsR.some ⟨_, _, HN.out.below hb⟩ (HKK.out.below hb) HLL.out ⟨rfl, .inr ⟨Vs.heap.size, 1, #[.int .i64 4, .int .i64 (T).id, .int .i64 x.src, .int .i64 T.term, .int .i64 0, .int .i64 0, .bool false], rfl, Nat.le_refl _, blk_new _ _ rfl, Nat.le_refl _, by unfold maxLen; omega, rfl, rfl⟩⟩ hbs
      | true =>
        rw [if_pos rfl] at HP
        go_wp2_with fail
        refine wp_region_in (Below w3.heap.size w3) (fun _ => false) (by kernel_rfl) (by kernel_rfl) (by exact hb.drew) ?_
        intro hne hx
        replace hb := hb.drew
        change wpStg _ _ _ _ _ _ _ _ w3.drew
        obtain ⟨V3, hWq⟩ : ∃ V3, V3 = w3.drew := ⟨_, rfl⟩
        rw [← hWq] at hb ⊢
        clear hWq
        refine stg_seg 30 (by dsimp only [List.take]) (by dsimp only [List.drop]) (by rfl) ?_
        repeat (go_big_quiet_step (fail))
        refine wpQuiet_nil ?_
        refine stg_nil ?_
        clear hne hx
        have HN3 := Lib.hid (HN.out.below hb)
        have HK3 := Lib.hid (HKK.out.below hb)
        have HBX3 := Lib.hid (blk_below HBX.out hb (blk_lt HBX.out))
        have HBN := Lib.hid (show b ≠ w.heap.size from hbn)
        clear q1 q3 r0 r1 r2 r3 r4 r5 r6 r7 r8 r9 r10 r11 rz hb HN HKK HBX hbn
        have q1 : V3.cell? ⟨w.heap.size, 1, none⟩ = some (.int .i64 x.src) := blk_cell HBX3.out 1
        have hx := HN3.out
        have c0 := hx.cell 0
        have c1 := hx.cell 1
        have c2 := hx.cell 2
        have c3 := hx.cell 3
        have c4 := hx.cell 4
        have c5 := hx.cell 5
        have c6 := hx.cell 6
        have c7 := hx.cell 7
        have c8 := hx.cell 8
        have c9 := hx.cell 9
        have c10 := hx.cell 10
        have c11 := hx.cell 11
        have fz := hx.frozen
        simp only [refC, List.getElem?_toArray, List.getElem?_cons_zero, List.getElem?_cons_succ] at c0 c1 c2 c3 c4 c5 c6 c7 c8 c9 c10 c11
        clear hx
        by_cases hro : T.role = 1
        · have e8 : (T.role == 1) = true := by simp [hro]
          have HVF := Lib.hid (show T.voteFor x.src = { T with vote := x.src, waited := 0, role := 0 } by unfold Nd.voteFor; rw [if_pos hro])
          clear hro
          go_wp2_with fail
          have k4 : Chg [b] V3 (((V3.setCell ⟨b, 2, none⟩ (.int .i64 x.src)).setCell ⟨b, 8, none⟩ (.int .i64 0)).setCell ⟨b, 6, none⟩ (.int .i64 0)) := (((Chg.refl _ V3).set (by simp) _).set (by simp) _).set (by simp) _
          have h4 := HN3.out.scal (S' := { T with vote := x.src, waited := 0, role := 0 }) k4 (blk_set (blk_set (blk_set HN3.out.blk 2 _) 8 _) 6 _) ⟨rfl, rfl⟩ ⟨rfl, rfl⟩ rfl rfl
          change Code.wp _ _ _ _ (((V3.setCell ⟨b, 2, none⟩ (.int .i64 x.src)).setCell ⟨b, 8, none⟩ (.int .i64 0)).setCell ⟨b, 6, none⟩ (.int .i64 0))
          obtain ⟨V4, hV4⟩ : ∃ V4, V4 = ((V3.setCell ⟨b, 2, none⟩ (.int .i64 x.src)).setCell ⟨b, 8, none⟩ (.int .i64 0)).setCell ⟨b, 6, none⟩ (.int .i64 0) := ⟨_, rfl⟩
          rw [← hV4] at h4 k4 ⊢
          rw [← HVF.out] at h4
          have HN4 := Lib.hid h4
          have HBX4 := Lib.hid (k4.blk HBX3.out (fun hm => HBN.out (List.mem_singleton.1 hm).symm))
          have HT4 := Lib.hid (show (T.voteFor x.src).id = T.id ∧ (T.voteFor x.src).term = T.term from ⟨rfl, rfl⟩)
          obtain ⟨K4, L4⟩ := Moves.trans HK3.out HLL.out (k4.up1 HN3.out.inb) (fun x hx => .inl hx)
          have HK4 := Lib.hid K4
          have HL4 := Lib.hid L4
          obtain ⟨U, hU⟩ : ∃ U, U = T.voteFor x.src := ⟨_, rfl⟩
          rw [← hU] at HN4 HP HT4
          clear hV4 k4 h4 K4 L4 hU c0 c1 c2 c3 c4 c5 c6 c7 c8 c9 c10 c11 fz q1 HN3 HK3 HBX3 HLL
          have q1 : ∀ W', Below V4.heap.size V4 W' → W'.cell? ⟨w.heap.size, 1, none⟩ = some (.int .i64 x.src) := fun W' h => blk_cell (blk_below HBX4.out h (blk_lt HBX4.out)) 1
          have hcB : ∀ (i : Nat) (W' : World), Below V4.heap.size V4 W' → W'.cell? ⟨b, i, none⟩ = (refC (U) (yvt) (nvt))[i]? := fun i W' h => (HN4.out.below h).cell i
          have r0 := hcB 0
          have r1 := hcB 1
          have r2 := hcB 2
          have r3 := hcB 3
          have r4 := hcB 4
          have r5 := hcB 5
          have r6 := hcB 6
          have r7 := hcB 7
          have r8 := hcB 8
          have r9 := hcB 9
          have r10 := hcB 10
          have r11 := hcB 11
          have rz : ∀ (i : Nat) (W' : World), Below V4.heap.size V4 W' → W'.frozen? ⟨b, i, none⟩ = false := fun i W' h => (HN4.out.below h).frozen i
          simp only [refC, List.getElem?_toArray, List.getElem?_cons_zero, List.getElem?_cons_succ] at r0 r1 r2 r3 r4 r5 r6 r7 r8 r9 r10 r11
          clear hcB
          try go_wp2_with fail
          have hb := Below.refl V4.heap.size V4
          refine wp_region_in (Below V4.heap.size V4) (fun i => i == 13) (by kernel_rfl) (by kernel_rfl) (by exact hb.drew) ?_
          intro hne hx
          replace hb := hb.drew
          change wpStg _ _ _ _ _ _ _ _ V4.drew
          obtain ⟨Vs, hWq⟩ : ∃ Vs, Vs = V4.drew := ⟨_, rfl⟩
          rw [← hWq] at hb ⊢
          clear hWq
          refine stg_seg 13 (by dsimp only [List.take]) (by dsimp only [List.drop]) (by rfl) ?_
          repeat (go_big_quiet_step (fail))
          refine wpQuiet_nil ?_
          refine stg_loud (by rfl) ?_
          go_wp2_with fail
          have hbs := bl_alloc (Below.refl Vs.heap.size Vs) (.cells #[.int .i64 4, .int .i64 (U).id, .int .i64 x.src, .int .i64 U.term, .int .i64 0, .int .i64 0, .bool true] 44)
          refine lq_in rfl (bl_trans hb hbs) ?_
          refine stg_seg 1 (by dsimp only [List.take]) (by dsimp only [List.drop]) (by rfl) ?_
          repeat (go_big_quiet_step (fail))
          refine wpQuiet_nil ?_
          refine stg_nil ?_
          clear hne hx
          go_wp2_with fail
          go_ret
          rw [HP.out, ← HTI.out, ← HT4.out.1, ← HT4.out.2]
          exact SendsR.some ⟨_, _, HN4.out.below hb⟩ (HK4.out.below hb) HL4.out ⟨rfl, .inr ⟨Vs.heap.size, 1, #[.int .i64 4, .int .i64 (U).id, .int .i64 x.src, .int .i64 U.term, .int .i64 0, .int .i64 0, .bool true], rfl, Nat.le_refl _, blk_new _ _ rfl, Nat.le_refl _, by unfold maxLen; omega, rfl, rfl⟩⟩ hbs
        · have e8 : (T.role == 1) = false := by simp [hro]
          have HVF := Lib.hid (show T.voteFor x.src = { T with vote := x.src, waited := 0 } by unfold Nd.voteFor; rw [if_neg hro])
          clear hro
          go_wp2_with fail
          have k4 : Chg [b] V3 ((V3.setCell ⟨b, 2, none⟩ (.int .i64 x.src)).setCell ⟨b, 8, none⟩ (.int .i64 0)) := ((Chg.refl _ V3).set (by simp) _).set (by simp) _
          have h4 := HN3.out.scal (S' := { T with vote := x.src, waited := 0 }) k4 (blk_set (blk_set HN3.out.blk 2 _) 8 _) ⟨rfl, rfl⟩ ⟨rfl, rfl⟩ rfl rfl
          change Code.wp _ _ _ _ ((V3.setCell ⟨b, 2, none⟩ (.int .i64 x.src)).setCell ⟨b, 8, none⟩ (.int .i64 0))
          obtain ⟨V4, hV4⟩ : ∃ V4, V4 = (V3.setCell ⟨b, 2, none⟩ (.int .i64 x.src)).setCell ⟨b, 8, none⟩ (.int .i64 0) := ⟨_, rfl⟩
          rw [← hV4] at h4 k4 ⊢
          rw [← HVF.out] at h4
          have HN4 := Lib.hid h4
          have HBX4 := Lib.hid (k4.blk HBX3.out (fun hm => HBN.out (List.mem_singleton.1 hm).symm))
          have HT4 := Lib.hid (show (T.voteFor x.src).id = T.id ∧ (T.voteFor x.src).term = T.term from ⟨rfl, rfl⟩)
          obtain ⟨K4, L4⟩ := Moves.trans HK3.out HLL.out (k4.up1 HN3.out.inb) (fun x hx => .inl hx)
          have HK4 := Lib.hid K4
          have HL4 := Lib.hid L4
          obtain ⟨U, hU⟩ : ∃ U, U = T.voteFor x.src := ⟨_, rfl⟩
          rw [← hU] at HN4 HP HT4
          clear hV4 k4 h4 K4 L4 hU c0 c1 c2 c3 c4 c5 c6 c7 c8 c9 c10 c11 fz q1 HN3 HK3 HBX3 HLL
          have q1 : ∀ W', Below V4.heap.size V4 W' → W'.cell? ⟨w.heap.size, 1, none⟩ = some (.int .i64 x.src) := fun W' h => blk_cell (blk_below HBX4.out h (blk_lt HBX4.out)) 1
          have hcB : ∀ (i : Nat) (W' : World), Below V4.heap.size V4 W' → W'.cell? ⟨b, i, none⟩ = (refC (U) (yvt) (nvt))[i]? := fun i W' h => (HN4.out.below h).cell i
          have r0 := hcB 0
          have r1 := hcB 1
          have r2 := hcB 2
          have r3 := hcB 3
          have r4 := hcB 4
          have r5 := hcB 5
          have r6 := hcB 6
          have r7 := hcB 7
          have r8 := hcB 8
          have r9 := hcB 9
          have r10 := hcB 10
          have r11 := hcB 11
          have rz : ∀ (i : Nat) (W' : World), Below V4.heap.size V4 W' → W'.frozen? ⟨b, i, none⟩ = false := fun i W' h => (HN4.out.below h).frozen i
          simp only [refC, List.getElem?_toArray, List.getElem?_cons_zero, List.getElem?_cons_succ] at r0 r1 r2 r3 r4 r5 r6 r7 r8 r9 r10 r11
          clear hcB
          try go_wp2_with fail
          have hb := Below.refl V4.heap.size V4
          refine wp_region_in (Below V4.heap.size V4) (fun i => i == 13) (by kernel_rfl) (by kernel_rfl) (by exact hb.drew) ?_
          intro hne hx
          replace hb := hb.drew
          change wpStg _ _ _ _ _ _ _ _ V4.drew
          obtain ⟨Vs, hWq⟩ : ∃ Vs, Vs = V4.drew := ⟨_, rfl⟩
          rw [← hWq] at hb ⊢
          clear hWq
          refine stg_seg 13 (by dsimp only [List.take]) (by dsimp only [List.drop]) (by rfl) ?_
          repeat (go_big_quiet_step (fail))
          refine wpQuiet_nil ?_
          refine stg_loud (by rfl) ?_
          go_wp2_with fail
          have hbs := bl_alloc (Below.refl Vs.heap.size Vs) (.cells #[.int .i64 4, .int .i64 (U).id, .int .i64 x.src, .int .i64 U.term, .int .i64 0, .int .i64 0, .bool true] 44)
          refine lq_in rfl (bl_trans hb hbs) ?_
          refine stg_seg 1 (by dsimp only [List.take]) (by dsimp only [List.drop]) (by rfl) ?_
          repeat (go_big_quiet_step (fail))
          refine wpQuiet_nil ?_
          refine stg_nil ?_
          clear hne hx
          go_wp2_with fail
          go_ret
          rw [HP.out, ← HTI.out, ← HT4.out.1, ← HT4.out.2]
          exact SendsR.some ⟨_, _, HN4.out.below hb⟩ (HK4.out.below hb) HL4.out ⟨rfl, .inr ⟨Vs.heap.size, 1, #[.int .i64 4, .int .i64 (U).id, .int .i64 x.src, .int .i64 U.term, .int .i64 0, .int .i64 0, .bool true], rfl, Nat.le_refl _, blk_new _ _ rfl, Nat.le_refl _, by unfold maxLen; omega, rfl, rfl⟩⟩ hbs
    · have d2 : (T.vote == 0) = false := by simp [c2]
      by_cases c3 : T.vote = x.src
      · have d3 : (T.vote == x.src) = true := by simp [c3]
        rw [show T.votes x O = O by unfold Nd.votes; simp [c1, c3]] at HP
        clear c1 c2 c3
        cases O with
        | false =>
          rw [if_neg (by decide)] at HP
          go_wp2_with fail
          refine wp_region_in (Below w3.heap.size w3) (fun _ => false) (by kernel_rfl) (by kernel_rfl) (by exact hb.drew) ?_
          intro hne hx
          replace hb := hb.drew
          change wpStg _ _ _ _ _ _ _ _ w3.drew
          obtain ⟨V3, hWq⟩ : ∃ V3, V3 = w3.drew := ⟨_, rfl⟩
          rw [← hWq] at hb ⊢
          clear hWq
          refine stg_seg 30 (by dsimp only [List.take]) (by dsimp only [List.drop]) (by rfl) ?_
          repeat (go_big_quiet_step (fail))
          refine wpQuiet_nil ?_
          refine stg_nil ?_
          clear hne hx
          go_wp2_with fail
          refine wp_region_in (Below w3.heap.size w3) (fun i => i == 13) (by kernel_rfl) (by kernel_rfl) (by exact hb.drew) ?_
          intro hne hx
          replace hb := hb.drew
          change wpStg _ _ _ _ _ _ _ _ V3.drew
          obtain ⟨Vs, hWq⟩ : ∃ Vs, Vs = V3.drew := ⟨_, rfl⟩
          rw [← hWq] at hb ⊢
          clear hWq
          refine stg_seg 13 (by dsimp only [List.take]) (by dsimp only [List.drop]) (by rfl) ?_
          repeat (go_big_quiet_step (fail))
          refine wpQuiet_nil ?_
          refine stg_loud (by rfl) ?_
          go_wp2_with fail
          have hbs := bl_alloc (Below.refl Vs.heap.size Vs) (.cells #[.int .i64 4, .int .i64 T.id, .int .i64 x.src, .int .i64 T.term, .int .i64 0, .int .i64 0, .bool false] 44)
          refine lq_in rfl (bl_trans hb hbs) ?_
          refine stg_seg 1 (by dsimp only [List.take]) (by dsimp only [List.drop]) (by rfl) ?_
          repeat (go_big_quiet_step (fail))
          refine wpQuiet_nil ?_
          refine stg_nil ?_
          clear hne hx
          go_wp2_with fail
          go_ret
          rw [HP.out, ← HTI.out]
          exact SendsR.some ⟨_, _, HN.out.below hb⟩ (HKK.out.below hb) HLL.out ⟨rfl, .inr ⟨Vs.heap.size, 1, #[.int .i64 4, .int .i64 (T).id, .int .i64 x.src, .int .i64 T.term, .int .i64 0, .int .i64 0, .bool false], rfl, Nat.le_refl _, blk_new _ _ rfl, Nat.le_refl _, by unfold maxLen; omega, rfl, rfl⟩⟩ hbs
        | true =>
          rw [if_pos rfl] at HP
          go_wp2_with fail
          refine wp_region_in (Below w3.heap.size w3) (fun _ => false) (by kernel_rfl) (by kernel_rfl) (by exact hb.drew) ?_
          intro hne hx
          replace hb := hb.drew
          change wpStg _ _ _ _ _ _ _ _ w3.drew
          obtain ⟨V3, hWq⟩ : ∃ V3, V3 = w3.drew := ⟨_, rfl⟩
          rw [← hWq] at hb ⊢
          clear hWq
          refine stg_seg 30 (by dsimp only [List.take]) (by dsimp only [List.drop]) (by rfl) ?_
          repeat (go_big_quiet_step (fail))
          refine wpQuiet_nil ?_
          refine stg_nil ?_
          clear hne hx
          have HN3 := Lib.hid (HN.out.below hb)
          have HK3 := Lib.hid (HKK.out.below hb)
          have HBX3 := Lib.hid (blk_below HBX.out hb (blk_lt HBX.out))
          have HBN := Lib.hid (show b ≠ w.heap.size from hbn)
          clear q1 q3 r0 r1 r2 r3 r4 r5 r6 r7 r8 r9 r10 r11 rz hb HN HKK HBX hbn
          have q1 : V3.cell? ⟨w.heap.size, 1, none⟩ = some (.int .i64 x.src) := blk_cell HBX3.out 1
          have hx := HN3.out
          have c0 := hx.cell 0
          have c1 := hx.cell 1
          have c2 := hx.cell 2
          have c3 := hx.cell 3
          have c4 := hx.cell 4
          have c5 := hx.cell 5
          have c6 := hx.cell 6
          have c7 := hx.cell 7
          have c8 := hx.cell 8
          have c9 := hx.cell 9
          have c10 := hx.cell 10
          have c11 := hx.cell 11
          have fz := hx.frozen
          simp only [refC, List.getElem?_toArray, List.getElem?_cons_zero, List.getElem?_cons_succ] at c0 c1 c2 c3 c4 c5 c6 c7 c8 c9 c10 c11
          clear hx
          by_cases hro : T.role = 1
          · have e8 : (T.role == 1) = true := by simp [hro]
            have HVF := Lib.hid (show T.voteFor x.src = { T with vote := x.src, waited := 0, role := 0 } by unfold Nd.voteFor; rw [if_pos hro])
            clear hro
            go_wp2_with fail
            have k4 : Chg [b] V3 (((V3.setCell ⟨b, 2, none⟩ (.int .i64 x.src)).setCell ⟨b, 8, none⟩ (.int .i64 0)).setCell ⟨b, 6, none⟩ (.int .i64 0)) := (((Chg.refl _ V3).set (by simp) _).set (by simp) _).set (by simp) _
            have h4 := HN3.out.scal (S' := { T with vote := x.src, waited := 0, role := 0 }) k4 (blk_set (blk_set (blk_set HN3.out.blk 2 _) 8 _) 6 _) ⟨rfl, rfl⟩ ⟨rfl, rfl⟩ rfl rfl
            change Code.wp _ _ _ _ (((V3.setCell ⟨b, 2, none⟩ (.int .i64 x.src)).setCell ⟨b, 8, none⟩ (.int .i64 0)).setCell ⟨b, 6, none⟩ (.int .i64 0))
            obtain ⟨V4, hV4⟩ : ∃ V4, V4 = ((V3.setCell ⟨b, 2, none⟩ (.int .i64 x.src)).setCell ⟨b, 8, none⟩ (.int .i64 0)).setCell ⟨b, 6, none⟩ (.int .i64 0) := ⟨_, rfl⟩
            rw [← hV4] at h4 k4 ⊢
            rw [← HVF.out] at h4
            have HN4 := Lib.hid h4
            have HBX4 := Lib.hid (k4.blk HBX3.out (fun hm => HBN.out (List.mem_singleton.1 hm).symm))
            have HT4 := Lib.hid (show (T.voteFor x.src).id = T.id ∧ (T.voteFor x.src).term = T.term from ⟨rfl, rfl⟩)
            obtain ⟨K4, L4⟩ := Moves.trans HK3.out HLL.out (k4.up1 HN3.out.inb) (fun x hx => .inl hx)
            have HK4 := Lib.hid K4
            have HL4 := Lib.hid L4
            obtain ⟨U, hU⟩ : ∃ U, U = T.voteFor x.src := ⟨_, rfl⟩
            rw [← hU] at HN4 HP HT4
            clear hV4 k4 h4 K4 L4 hU c0 c1 c2 c3 c4 c5 c6 c7 c8 c9 c10 c11 fz q1 HN3 HK3 HBX3 HLL
            have q1 : ∀ W', Below V4.heap.size V4 W' → W'.cell? ⟨w.heap.size, 1, none⟩ = some (.int .i64 x.src) := fun W' h => blk_cell (blk_below HBX4.out h (blk_lt HBX4.out)) 1
            have hcB : ∀ (i : Nat) (W' : World), Below V4.heap.size V4 W' → W'.cell? ⟨b, i, none⟩ = (refC (U) (yvt) (nvt))[i]? := fun i W' h => (HN4.out.below h).cell i
            have r0 := hcB 0
            have r1 := hcB 1
            have r2 := hcB 2
            have r3 := hcB 3
            have r4 := hcB 4
            have r5 := hcB 5
            have r6 := hcB 6
            have r7 := hcB 7
            have r8 := hcB 8
            have r9 := hcB 9
            have r10 := hcB 10
            have r11 := hcB 11
            have rz : ∀ (i : Nat) (W' : World), Below V4.heap.size V4 W' → W'.frozen? ⟨b, i, none⟩ = false := fun i W' h => (HN4.out.below h).frozen i
            simp only [refC, List.getElem?_toArray, List.getElem?_cons_zero, List.getElem?_cons_succ] at r0 r1 r2 r3 r4 r5 r6 r7 r8 r9 r10 r11
            clear hcB
            try go_wp2_with fail
            have hb := Below.refl V4.heap.size V4
            refine wp_region_in (Below V4.heap.size V4) (fun i => i == 13) (by kernel_rfl) (by kernel_rfl) (by exact hb.drew) ?_
            intro hne hx
            replace hb := hb.drew
            change wpStg _ _ _ _ _ _ _ _ V4.drew
            obtain ⟨Vs, hWq⟩ : ∃ Vs, Vs = V4.drew := ⟨_, rfl⟩
            rw [← hWq] at hb ⊢
            clear hWq
            refine stg_seg 13 (by dsimp only [List.take]) (by dsimp only [List.drop]) (by rfl) ?_
            repeat (go_big_quiet_step (fail))
            refine wpQuiet_nil ?_
            refine stg_loud (by rfl) ?_
            go_wp2_with fail
            have hbs := bl_alloc (Below.refl Vs.heap.size Vs) (.cells #[.int .i64 4, .int .i64 (U).id, .int .i64 x.src, .int .i64 U.term, .int .i64 0, .int .i64 0, .bool true] 44)
            refine lq_in rfl (bl_trans hb hbs) ?_
            refine stg_seg 1 (by dsimp only [List.take]) (by dsimp only [List.drop]) (by rfl) ?_
            repeat (go_big_quiet_step (fail))
            refine wpQuiet_nil ?_
            refine stg_nil ?_
            clear hne hx
            go_wp2_with fail
            go_ret
            rw [HP.out, ← HTI.out, ← HT4.out.1, ← HT4.out.2]
            exact SendsR.some ⟨_, _, HN4.out.below hb⟩ (HK4.out.below hb) HL4.out ⟨rfl, .inr ⟨Vs.heap.size, 1, #[.int .i64 4, .int .i64 (U).id, .int .i64 x.src, .int .i64 U.term, .int .i64 0, .int .i64 0, .bool true], rfl, Nat.le_refl _, blk_new _ _ rfl, Nat.le_refl _, by unfold maxLen; omega, rfl, rfl⟩⟩ hbs
          · have e8 : (T.role == 1) = false := by simp [hro]
            have HVF := Lib.hid (show T.voteFor x.src = { T with vote := x.src, waited := 0 } by unfold Nd.voteFor; rw [if_neg hro])
            clear hro
            go_wp2_with fail
            have k4 : Chg [b] V3 ((V3.setCell ⟨b, 2, none⟩ (.int .i64 x.src)).setCell ⟨b, 8, none⟩ (.int .i64 0)) := ((Chg.refl _ V3).set (by simp) _).set (by simp) _
            have h4 := HN3.out.scal (S' := { T with vote := x.src, waited := 0 }) k4 (blk_set (blk_set HN3.out.blk 2 _) 8 _) ⟨rfl, rfl⟩ ⟨rfl, rfl⟩ rfl rfl
            change Code.wp _ _ _ _ ((V3.setCell ⟨b, 2, none⟩ (.int .i64 x.src)).setCell ⟨b, 8, none⟩ (.int .i64 0))
            obtain ⟨V4, hV4⟩ : ∃ V4, V4 = (V3.setCell ⟨b, 2, none⟩ (.int .i64 x.src)).setCell ⟨b, 8, none⟩ (.int .i64 0) := ⟨_, rfl⟩
            rw [← hV4] at h4 k4 ⊢
            rw [← HVF.out] at h4
            have HN4 := Lib.hid h4
            have HBX4 := Lib.hid (k4.blk HBX3.out (fun hm => HBN.out (List.mem_singleton.1 hm).symm))
            have HT4 := Lib.hid (show (T.voteFor x.src).id = T.id ∧ (T.voteFor x.src).term = T.term from ⟨rfl, rfl⟩)
            obtain ⟨K4, L4⟩ := Moves.trans HK3.out HLL.out (k4.up1 HN3.out.inb) (fun x hx => .inl hx)
            have HK4 := Lib.hid K4
            have HL4 := Lib.hid L4
            obtain ⟨U, hU⟩ : ∃ U, U = T.voteFor x.src := ⟨_, rfl⟩
            rw [← hU] at HN4 HP HT4
            clear hV4 k4 h4 K4 L4 hU c0 c1 c2 c3 c4 c5 c6 c7 c8 c9 c10 c11 fz q1 HN3 HK3 HBX3 HLL
            have q1 : ∀ W', Below V4.heap.size V4 W' → W'.cell? ⟨w.heap.size, 1, none⟩ = some (.int .i64 x.src) := fun W' h => blk_cell (blk_below HBX4.out h (blk_lt HBX4.out)) 1
            have hcB : ∀ (i : Nat) (W' : World), Below V4.heap.size V4 W' → W'.cell? ⟨b, i, none⟩ = (refC (U) (yvt) (nvt))[i]? := fun i W' h => (HN4.out.below h).cell i
            have r0 := hcB 0
            have r1 := hcB 1
            have r2 := hcB 2
            have r3 := hcB 3
            have r4 := hcB 4
            have r5 := hcB 5
            have r6 := hcB 6
            have r7 := hcB 7
            have r8 := hcB 8
            have r9 := hcB 9
            have r10 := hcB 10
            have r11 := hcB 11
            have rz : ∀ (i : Nat) (W' : World), Below V4.heap.size V4 W' → W'.frozen? ⟨b, i, none⟩ = false := fun i W' h => (HN4.out.below h).frozen i
            simp only [refC, List.getElem?_toArray, List.getElem?_cons_zero, List.getElem?_cons_succ] at r0 r1 r2 r3 r4 r5 r6 r7 r8 r9 r10 r11
            clear hcB
            try go_wp2_with fail
            have hb := Below.refl V4.heap.size V4
            refine wp_region_in (Below V4.heap.size V4) (fun i => i == 13) (by kernel_rfl) (by kernel_rfl) (by exact hb.drew) ?_
            intro hne hx
            replace hb := hb.drew
            change wpStg _ _ _ _ _ _ _ _ V4.drew
            obtain ⟨Vs, hWq⟩ : ∃ Vs, Vs = V4.drew := ⟨_, rfl⟩
            rw [← hWq] at hb ⊢
            clear hWq
            refine stg_seg 13 (by dsimp only [List.take]) (by dsimp only [List.drop]) (by rfl) ?_
            repeat (go_big_quiet_step (fail))
            refine wpQuiet_nil ?_
            refine stg_loud (by rfl) ?_
            go_wp2_with fail
            have hbs := bl_alloc (Below.refl Vs.heap.size Vs) (.cells #[.int .i64 4, .int .i64 (U).id, .int .i64 x.src, .int .i64 U.term, .int .i64 0, .int .i64 0, .bool true] 44)
            refine lq_in rfl (bl_trans hb hbs) ?_
            refine stg_seg 1 (by dsimp only [List.take]) (by dsimp only [List.drop]) (by rfl) ?_
            repeat (go_big_quiet_step (fail))
            refine wpQuiet_nil ?_
            refine stg_nil ?_
            clear hne hx
            go_wp2_with fail
            go_ret
            rw [HP.out, ← HTI.out, ← HT4.out.1, ← HT4.out.2]
            exact SendsR.some ⟨_, _, HN4.out.below hb⟩ (HK4.out.below hb) HL4.out ⟨rfl, .inr ⟨Vs.heap.size, 1, #[.int .i64 4, .int .i64 (U).id, .int .i64 x.src, .int .i64 U.term, .int .i64 0, .int .i64 0, .bool true], rfl, Nat.le_refl _, blk_new _ _ rfl, Nat.le_refl _, by unfold maxLen; omega, rfl, rfl⟩⟩ hbs
      · have d3 : (T.vote == x.src) = false := by simp [c3]
        rw [show T.votes x O = false by unfold Nd.votes; simp [c2, c3], if_neg (by decide)] at HP
        clear c1 c2 c3
        go_wp2_with fail
        refine wp_region_in (Below w3.heap.size w3) (fun _ => false) (by kernel_rfl) (by kernel_rfl) (by exact hb.drew) ?_
        intro hne hx
        replace hb := hb.drew
        change wpStg _ _ _ _ _ _ _ _ w3.drew
        obtain ⟨V3, hWq⟩ : ∃ V3, V3 = w3.drew := ⟨_, rfl⟩
        rw [← hWq] at hb ⊢
        clear hWq
        refine stg_seg 30 (by dsimp only [List.take]) (by dsimp only [List.drop]) (by rfl) ?_
        repeat (go_big_quiet_step (fail))
        refine wpQuiet_nil ?_
        refine stg_nil ?_
        clear hne hx
        go_wp2_with fail
        refine wp_region_in (Below w3.heap.size w3) (fun i => i == 13) (by kernel_rfl) (by kernel_rfl) (by exact hb.drew) ?_
        intro hne hx
        replace hb := hb.drew
        change wpStg _ _ _ _ _ _ _ _ V3.drew
        obtain ⟨Vs, hWq⟩ : ∃ Vs, Vs = V3.drew := ⟨_, rfl⟩
        rw [← hWq] at hb ⊢
        clear hWq
        refine stg_seg 13 (by dsimp only [List.take]) (by dsimp only [List.drop]) (by rfl) ?_
        repeat (go_big_quiet_step (fail))
        refine wpQuiet_nil ?_
        refine stg_loud (by rfl) ?_
        go_wp2_with fail
        have hbs := bl_alloc (Below.refl Vs.heap.size Vs) (.cells #[.int .i64 4, .int .i64 T.id, .int .i64 x.src, .int .i64 T.term, .int .i64 0, .int .i64 0, .bool false] 44)
        refine lq_in rfl (bl_trans hb hbs) ?_
        refine stg_seg 1 (by dsimp only [List.take]) (by dsimp only [List.drop]) (by rfl) ?_
        repeat (go_big_quiet_step (fail))
        refine wpQuiet_nil ?_
        refine stg_nil ?_
        clear hne hx
        go_wp2_with fail
        go_ret
        rw [HP.out, ← HTI.out]
        exact SendsR.some ⟨_, _, HN.out.below hb⟩ (HKK.out.below hb) HLL.out ⟨rfl, .inr ⟨Vs.heap.size, 1, #[.int .i64 4, .int .i64 (T).id, .int .i64 x.src, .int .i64 T.term, .int .i64 0, .int .i64 0, .bool false], rfl, Nat.le_refl _, blk_new _ _ rfl, Nat.le_refl _, by unfold maxLen; omega, rfl, rfl⟩⟩ hbs
set_option maxRecDepth 100000 in
set_option maxHeartbeats 8000000 in
theorem rtake_k4 {b : Nat} {S : Nd} {L : List Nat} {w : World} (h : RefAt w b S L) (h0 : 0 ≤ S.term) (ht9 : S.term ≤ maxIx) (hv : S.vs.length ≤ 1000) (hy9 : S.yes.length < 1000) (hn9 : S.no.length < 1000) (x : Bal) (last lt : Int) (hG : ¬ (x.dst ≠ S.id ∨ S.other x.src = false ∨ x.term < 0 ∨ maxIx < x.term)) (k4 : x.kind = 4) :
    Calls Try.prog 25 #[.pointer (some ⟨b, 0, none⟩), .agg #[.int .i64 x.kind, .int .i64 x.src, .int .i64 x.dst, .int .i64 x.term, .int .i64 x.index, .int .i64 x.logTerm, .bool x.yes], .int .i64 last, .int .i64 lt] w fun e w' => SendsR w b (S.take x last lt).1 L (S.take x last lt).2 e w' := by
  have H_k4 := Lib.hid k4
  clear k4
  have h9 := h.low
  obtain ⟨yv, nv, hx⟩ := h
  have hb0 := bl_alloc (Below.refl w.heap.size w) (.cells #[.int .i64 x.kind, .int .i64 x.src, .int .i64 x.dst, .int .i64 x.term, .int .i64 x.index, .int .i64 x.logTerm, .bool x.yes] 44)
  have hx0 := hx.below hb0
  have hblk := blk_new w (.cells #[.int .i64 x.kind, .int .i64 x.src, .int .i64 x.dst, .int .i64 x.term, .int .i64 x.index, .int .i64 x.logTerm, .bool x.yes] 44) rfl
  obtain ⟨w0, hw0⟩ : ∃ w0, w0 = w.alloc (.cells #[.int .i64 x.kind, .int .i64 x.src, .int .i64 x.dst, .int .i64 x.term, .int .i64 x.index, .int .i64 x.logTerm, .bool x.yes] 44) := ⟨_, rfl⟩
  rw [← hw0] at hb0 hx0 hblk
  have HW0 := Lib.hid hw0
  have HB0 := Lib.hid hb0
  have HBK := Lib.hid hblk
  have HN0 := Lib.hid hx0
  have q0 : ∀ W, Below w0.heap.size w0 W → W.cell? ⟨w.heap.size, 0, none⟩ = some (.int .i64 x.kind) := fun W h => blk_cell (blk_below hblk h (blk_lt hblk)) 0
  have q1 : ∀ W, Below w0.heap.size w0 W → W.cell? ⟨w.heap.size, 1, none⟩ = some (.int .i64 x.src) := fun W h => blk_cell (blk_below hblk h (blk_lt hblk)) 1
  have q2 : ∀ W, Below w0.heap.size w0 W → W.cell? ⟨w.heap.size, 2, none⟩ = some (.int .i64 x.dst) := fun W h => blk_cell (blk_below hblk h (blk_lt hblk)) 2
  have q3 : ∀ W, Below w0.heap.size w0 W → W.cell? ⟨w.heap.size, 3, none⟩ = some (.int .i64 x.term) := fun W h => blk_cell (blk_below hblk h (blk_lt hblk)) 3
  have q4 : ∀ W, Below w0.heap.size w0 W → W.cell? ⟨w.heap.size, 4, none⟩ = some (.int .i64 x.index) := fun W h => blk_cell (blk_below hblk h (blk_lt hblk)) 4
  have q5 : ∀ W, Below w0.heap.size w0 W → W.cell? ⟨w.heap.size, 5, none⟩ = some (.int .i64 x.logTerm) := fun W h => blk_cell (blk_below hblk h (blk_lt hblk)) 5
  have q6 : ∀ W, Below w0.heap.size w0 W → W.cell? ⟨w.heap.size, 6, none⟩ = some (.bool x.yes) := fun W h => blk_cell (blk_below hblk h (blk_lt hblk)) 6
  have hcB : ∀ (i : Nat) (W' : World), Below w0.heap.size w0 W' → W'.cell? ⟨b, i, none⟩ = (refC (S) (yv) (nv))[i]? := fun i W' h => (hx0.below h).cell i
  have r0 := hcB 0
  have r1 := hcB 1
  have r2 := hcB 2
  have r3 := hcB 3
  have r4 := hcB 4
  have r5 := hcB 5
  have r6 := hcB 6
  have r7 := hcB 7
  have r8 := hcB 8
  have r9 := hcB 9
  have r10 := hcB 10
  have r11 := hcB 11
  have rz : ∀ (i : Nat) (W' : World), Below w0.heap.size w0 W' → W'.frozen? ⟨b, i, none⟩ = false := fun i W' h => (hx0.below h).frozen i
  simp only [refC, List.getElem?_toArray, List.getElem?_cons_zero, List.getElem?_cons_succ] at r0 r1 r2 r3 r4 r5 r6 r7 r8 r9 r10 r11
  clear hcB
  have hbn : b ≠ w.heap.size := fun e => by have := blk_lt hx.blk; omega
  clear hx hx0 hblk hw0 hb0
  have hb := Below.refl w0.heap.size w0
  have HNB := Lib.hid (show ¬ w.heap.size ∈ L from fun hm => by have := h9 _ hm; omega)
  clear h9
  have hd : x.dst = S.id := Decidable.byContradiction fun k => hG (.inl k)
  have ho : S.other x.src = true := by cases e : S.other x.src with | true => rfl | false => exact absurd (.inr (.inl e)) hG
  have h1 : ¬ x.term < 0 := fun k => hG (.inr (.inr (.inl k)))
  have h2 : ¬ maxIx < x.term := fun k => hG (.inr (.inr (.inr k)))
  have hoo := ho
  unfold Nd.other at hoo
  simp only [Bool.and_eq_true, decide_eq_true_eq] at hoo
  obtain ⟨⟨a1, a2⟩, a3⟩ := hoo
  have e1 : (x.dst != S.id) = false := by simp [hd]
  have d1 : decide (x.src < 1) = false := decide_eq_false (by omega)
  have d2 : decide (15 < x.src) = false := decide_eq_false (by omega)
  have d3 : (x.src == S.id) = false := by simp [a3]
  have g1 : decide (x.term < 0) = false := decide_eq_false h1
  have g2 : decide (1099511627776 < x.term) = false := decide_eq_false h2
  have HG := Lib.hid hG
  clear hd ho h1 h2 a1 a2 a3 hG
  go_enter Try.func25, Try.ntmps25
  go_wp2_with fail
  rw [← HW0.out]
  refine wp_region_in (Below w0.heap.size w0) (fun _ => false) (by kernel_rfl) (by kernel_rfl) (by exact hb.drew) ?_
  intro hne hx
  replace hb := hb.drew
  change wpStg _ _ _ _ _ _ _ _ w0.drew
  obtain ⟨V1, hWq⟩ : ∃ V1, V1 = w0.drew := ⟨_, rfl⟩
  rw [← hWq] at hb ⊢
  clear hWq
  refine stg_seg 36 (by dsimp only [List.take]) (by dsimp only [List.drop]) (by rfl) ?_
  repeat (go_big_quiet_step (fail))
  refine wpQuiet_nil ?_
  refine stg_nil ?_
  clear hne hx
  go_upto_region 3 with fail
  obtain ⟨A, hA⟩ : ∃ A, A = decide (S.term < x.term) := ⟨_, rfl⟩
  obtain ⟨O, hO⟩ : ∃ O, O = Nd.oldB x last lt := ⟨_, rfl⟩
  have HA := Lib.hid hA
  have HOL := Lib.hid hO
  have eA := hA.symm
  clear hA hO
  go_cut [9] (fun s9 wx => s9 = .bool O ∧ wx = V1)
  case first =>
    by_cases k1 : lt < x.logTerm
    · go_wp2_with fail
      go_meet
      exact ⟨by rw [HOL.out]; unfold Nd.oldB; simp [k1], rfl⟩
    · have k1d : decide (lt < x.logTerm) = false := decide_eq_false k1
      by_cases k2 : x.logTerm = lt
      · have k2e : (x.logTerm == lt) = true := by simp [k2]
        have HE := Lib.hid (show O = decide (last ≤ x.index) by rw [HOL.out]; unfold Nd.oldB; simp [k1, k2])
        clear k1 k2
        go_wp2_with fail
        go_meet
        exact ⟨by rw [HE.out], rfl⟩
      · have k2e : (x.logTerm == lt) = false := by simp [k2]
        have HE := Lib.hid (show O = false by rw [HOL.out]; unfold Nd.oldB; simp [k1, k2])
        clear k1 k2
        go_wp2_with fail
        go_meet
        exact ⟨by rw [HE.out], rfl⟩
  case rest =>
    obtain ⟨rfl, rfl⟩ := hcut
    have k4 := H_k4.out
    clear H_k4
    have e2 : (x.kind == 1) = false := by simp [k4]
    have e6 : (x.kind == 2) = false := by simp [k4]
    have e5 : (x.kind == 3) = false := by simp [k4]
    have e7 : (x.kind == 4) = true := by simp [k4]
    have HP := Lib.hid (take_say (last := last) (lt := lt) HG.out k4)
    clear k4
    go_wp2_with fail
    refine wp_region_in (Below w0.heap.size w0) (fun _ => false) (by kernel_rfl) (by kernel_rfl) (by exact hb.drew) ?_
    intro hne hx
    replace hb := hb.drew
    change wpStg _ _ _ _ _ _ _ _ wc.drew
    obtain ⟨V2, hWq⟩ : ∃ V2, V2 = wc.drew := ⟨_, rfl⟩
    rw [← hWq] at hb ⊢
    clear hWq
    refine stg_seg 8 (by dsimp only [List.take]) (by dsimp only [List.drop]) (by rfl) ?_
    repeat (go_big_quiet_step (fail))
    refine wpQuiet_nil ?_
    refine stg_nil ?_
    clear hne hx
    cases A with
    | true =>
      have HS := Lib.hid (HP.out.trans (if_pos (by have := HA.out; simpa using this.symm)))
      go_wp2_with fail
      refine (rdown_at ⟨_, _, HN0.out.below hb⟩ x.term).mono ?_; rintro e w3 ⟨rfl, L3, h3, k3, hL3⟩
      go_wp2_with fail
      go_ret
      rw [HS.out]
      obtain ⟨k4, hL4⟩ := Moves.trans (L := L) (.of_below (bl_trans HB0.out hb)) (fun x hx => .inl hx) k3 hL3
      exact SendsR.none h3 k4 hL4
    | false =>
      replace HP := Lib.hid (HP.out.trans (if_neg (by have := HA.out; simpa using this.symm)))
      by_cases hr : S.role = 2
      · have e8 : (S.role != 2) = false := by simp [hr]
        by_cases ht : x.term = S.term
        · have e9 : (x.term != S.term) = false := by simp [ht]
          have HS := Lib.hid (HP.out.trans (if_pos ⟨hr, ht⟩))
          have HR2 := Lib.hid hr
          clear hr ht
          go_wp2_with fail
          refine wp_region_in (Below w0.heap.size w0) (fun _ => false) (by kernel_rfl) (by kernel_rfl) (by exact hb.drew) ?_
          intro hne hx
          replace hb := hb.drew
          change wpStg _ _ _ _ _ _ _ _ V2.drew
          obtain ⟨V3, hWq⟩ : ∃ V3, V3 = V2.drew := ⟨_, rfl⟩
          rw [← hWq] at hb ⊢
          clear hWq
          refine stg_seg 15 (by dsimp only [List.take]) (by dsimp only [List.drop]) (by rfl) ?_
          repeat (go_big_quiet_step (fail))
          refine wpQuiet_nil ?_
          refine stg_nil ?_
          clear hne hx
          go_wp2_with fail
          refine (rsays_at ⟨_, _, HN0.out.below hb⟩ hy9 hn9 x.src x.yes).mono ?_; rintro e w3 ⟨rfl, L3, ⟨yv3, nv3, h3⟩, k3, hL3⟩
          obtain ⟨k4, hL4⟩ := Moves.trans (L := L) (.of_below (bl_trans HB0.out hb)) (fun x hx => .inl hx) k3 hL3
          have HK3 := Lib.hid k4
          have HL3 := Lib.hid hL4
          obtain ⟨ya, yc, rfl, hgy, hyc, hyc9⟩ := h3.yes.gs
          obtain ⟨na, nc, rfl, hgn, hnc, hnc9⟩ := h3.no.gs
          have HGY := Lib.hid hgy
          have HGN := Lib.hid hgn
          have HYM := Lib.hid (Nat.le_trans hyc hyc9)
          have HNM := Lib.hid (Nat.le_trans hnc hnc9)
          have HST := Lib.hid (says_same S x.src x.yes)
          obtain ⟨S1, hS1⟩ : ∃ S1, S1 = S.says x.src x.yes := ⟨_, rfl⟩
          rw [← hS1] at h3 HGY HGN HYM HNM HST
          have HN := Lib.hid h3
          have HS1 := Lib.hid hS1
          clear h3 hS1 hgy hgn hyc hyc9 hnc hnc9 k3 hL3 k4 hL4 r0 r1 r2 r3 r4 r5 r6 r7 r8 r9 r10 r11 rz q0 q1 q2 q3 q4 q5 q6 hb
          have hcB : ∀ (i : Nat) (W' : World), Below w3.heap.size w3 W' → W'.cell? ⟨b, i, none⟩ = (refC (S1) (.slice ya S1.yes.length yc) (.slice na S1.no.length nc))[i]? := fun i W' h => (HN.out.below h).cell i
          have r0 := hcB 0
          have r1 := hcB 1
          have r2 := hcB 2
          have r3 := hcB 3
          have r4 := hcB 4
          have r5 := hcB 5
          have r6 := hcB 6
          have r7 := hcB 7
          have r8 := hcB 8
          have r9 := hcB 9
          have r10 := hcB 10
          have r11 := hcB 11
          have rz : ∀ (i : Nat) (W' : World), Below w3.heap.size w3 W' → W'.frozen? ⟨b, i, none⟩ = false := fun i W' h => (HN.out.below h).frozen i
          simp only [refC, List.getElem?_toArray, List.getElem?_cons_zero, List.getElem?_cons_succ] at r0 r1 r2 r3 r4 r5 r6 r7 r8 r9 r10 r11
          clear hcB
          go_wp2_with fail
          have hb := Below.refl w3.heap.size w3
          refine wp_region_in (Below w3.heap.size w3) (fun i => i == 8) (by kernel_rfl) (by kernel_rfl) (by exact hb.drew) ?_
          intro hne hx
          replace hb := hb.drew
          refine stg_seg 8 (by dsimp only [List.take]) (by dsimp only [List.drop]) (by rfl) ?_
          repeat (go_big_quiet_step (fail))
          refine wpQuiet_nil ?_
          refine stg_loud (by rfl) ?_
          go_wp2_with fail
          refine (rwins_at S1.va S1.la S1.vs S1.ls S1.vc S1.lc ya S1.yes yc _ (HN.out.below hb).vs.at_ (HN.out.below hb).ls.at_ HN.out.vl HN.out.ll (HGY.out.keep hb) HYM.out).mono ?_; rintro e w6 ⟨rfl, hb2⟩
          replace hb := bl_trans hb hb2
          clear hb2
          go_wp2_with fail
          refine lq_in rfl (hb) ?_
          refine stg_seg 1 (by dsimp only [List.take]) (by dsimp only [List.drop]) (by rfl) ?_
          repeat (go_big_quiet_step (fail))
          refine wpQuiet_nil ?_
          refine stg_nil ?_
          clear hne hx
          go_wp2_with fail
          refine wp_region_in (Below w3.heap.size w3) (fun i => i == 8) (by kernel_rfl) (by kernel_rfl) (by exact hb.drew) ?_
          intro hne hx
          replace hb := hb.drew
          refine stg_seg 8 (by dsimp only [List.take]) (by dsimp only [List.drop]) (by rfl) ?_
          repeat (go_big_quiet_step (fail))
          refine wpQuiet_nil ?_
          refine stg_loud (by rfl) ?_
          go_wp2_with fail
          refine (rlost_at S1.va S1.la S1.vs S1.ls S1.vc S1.lc na S1.no nc _ (HN.out.below hb).vs.at_ (HN.out.below hb).ls.at_ HN.out.vl HN.out.ll (HGN.out.keep hb) HNM.out).mono ?_; rintro e w7 ⟨rfl, hb2⟩
          replace hb := bl_trans hb hb2
          clear hb2
          go_wp2_with fail
          refine lq_in rfl (hb) ?_
          refine stg_seg 1 (by dsimp only [List.take]) (by dsimp only [List.drop]) (by rfl) ?_
          repeat (go_big_quiet_step (fail))
          refine wpQuiet_nil ?_
          refine stg_nil ?_
          clear hne hx
          rw [show winsB S1.vs S1.ls S1.yes = S1.win from rfl, show lostB S1.vs S1.ls S1.no = S1.lost from rfl]
          have HN6 := Lib.hid (HN.out.below hb)
          have HK6 := Lib.hid (HK3.out.below hb)
          clear r0 r1 r2 r3 r4 r5 r6 r7 r8 r9 r10 r11 rz
          have HRO := Lib.hid (show S1.role = 2 by rw [HS1.out]; exact (says_role S x.src x.yes).trans HR2.out)
          by_cases hw : S1.win = true
          · have HC := Lib.hid (show S1.counted last lt = (S1.lead, []) by unfold Nd.counted; rw [if_pos hw, if_neg (by rw [HRO.out]; decide)])
            rw [hw]
            have hl := rlead_at ⟨_, _, HN6.out⟩
            go_wp2_with fail
            refine hl.mono ?_; rintro e w8 ⟨rfl, h8, k8⟩
            go_wp2_with fail
            go_ret
            rw [HS.out, ← HS1.out, HC.out]
            obtain ⟨k9, hL9⟩ := Moves.trans HK6.out HL3.out k8 (fun x hx => .inl hx)
            exact SendsR.none h8 k9 hL9
          rw [eq_false_of_ne_true hw]
          by_cases hl : S1.lost = true
          · have HC := Lib.hid (show S1.counted last lt = ({ S1 with role := 0 }, []) by unfold Nd.counted; rw [if_neg hw, if_pos hl])
            rw [hl]
            have hx := HN6.out
            have c0 := hx.cell 0
            have c1 := hx.cell 1
            have c2 := hx.cell 2
            have c3 := hx.cell 3
            have c4 := hx.cell 4
            have c5 := hx.cell 5
            have c6 := hx.cell 6
            have c7 := hx.cell 7
            have c8 := hx.cell 8
            have c9 := hx.cell 9
            have c10 := hx.cell 10
            have c11 := hx.cell 11
            have fz := hx.frozen
            simp only [refC, List.getElem?_toArray, List.getElem?_cons_zero, List.getElem?_cons_succ] at c0 c1 c2 c3 c4 c5 c6 c7 c8 c9 c10 c11
            clear hx
            go_wp2_with fail
            go_ret
            rw [HS.out, ← HS1.out, HC.out]
            have kz := fun W => (Chg.refl [b] W).set (p := ⟨b, 6, none⟩) (by simp) (.int .i64 0)
            obtain ⟨k8, hL8⟩ := Moves.trans HK6.out HL3.out ((kz _).up1 HN6.out.inb) (fun x hx => .inl hx)
            exact SendsR.none ⟨_, _, HN6.out.scal (S' := { S1 with role := 0 }) (kz _) (blk_set HN6.out.blk 6 _) ⟨rfl, rfl⟩ ⟨rfl, rfl⟩ rfl rfl⟩ k8 hL8
          · have HC := Lib.hid (show S1.counted last lt = (S1, []) by unfold Nd.counted; rw [if_neg hw, if_neg hl])
            rw [eq_false_of_ne_true hl]
            go_wp2_with fail
            go_ret
            rw [HS.out, ← HS1.out, HC.out]
            exact SendsR.none ⟨_, _, HN6.out⟩ HK6.out HL3.out
        · have e9 : (x.term != S.term) = true := by simp [ht]
          have HS := Lib.hid (HP.out.trans (if_neg (fun h => ht h.2)))
          clear hr ht
          go_wp2_with fail
          refine wp_region_in (Below w0.heap.size w0) (fun _ => false) (by kernel_rfl) (by kernel_rfl) (by exact hb.drew) ?_
          intro hne hx
          replace hb := hb.drew
          change wpStg _ _ _ _ _ _ _ _ V2.drew
          obtain ⟨V3, hWq⟩ : ∃ V3, V3 = V2.drew := ⟨_, rfl⟩
          rw [← hWq] at hb ⊢
          clear hWq
          refine stg_seg 15 (by dsimp only [List.take]) (by dsimp only [List.drop]) (by rfl) ?_
          repeat (go_big_quiet_step (fail))
          refine wpQuiet_nil ?_
          refine stg_nil ?_
          clear hne hx
          go_wp2_with fail
          go_ret
          rw [HS.out]
          exact SendsR.none ⟨_, _, HN0.out.below hb⟩ (.of_below (bl_trans HB0.out hb)) (fun x hx => .inl hx)
      · have e8 : (S.role != 2) = true := by simp [hr]
        have HS := Lib.hid (HP.out.trans (if_neg (fun h => hr h.1)))
        clear hr
        go_wp2_with fail
        refine wp_region_in (Below w0.heap.size w0) (fun _ => false) (by kernel_rfl) (by kernel_rfl) (by exact hb.drew) ?_
        intro hne hx
        replace hb := hb.drew
        change wpStg _ _ _ _ _ _ _ _ V2.drew
        obtain ⟨V3, hWq⟩ : ∃ V3, V3 = V2.drew := ⟨_, rfl⟩
        rw [← hWq] at hb ⊢
        clear hWq
        refine stg_seg 15 (by dsimp only [List.take]) (by dsimp only [List.drop]) (by rfl) ?_
        repeat (go_big_quiet_step (fail))
        refine wpQuiet_nil ?_
        refine stg_nil ?_
        clear hne hx
        go_wp2_with fail
        go_ret
        rw [HS.out]
        exact SendsR.none ⟨_, _, HN0.out.below hb⟩ (.of_below (bl_trans HB0.out hb)) (fun x hx => .inl hx)
set_option maxRecDepth 100000 in
set_option maxHeartbeats 8000000 in
theorem rtake_k5 {b : Nat} {S : Nd} {L : List Nat} {w : World} (h : RefAt w b S L) (h0 : 0 ≤ S.term) (ht9 : S.term ≤ maxIx) (hv : S.vs.length ≤ 1000) (hy9 : S.yes.length < 1000) (hn9 : S.no.length < 1000) (x : Bal) (last lt : Int) (hG : ¬ (x.dst ≠ S.id ∨ S.other x.src = false ∨ x.term < 0 ∨ maxIx < x.term)) (k1 : ¬ x.kind = 1) (k2 : ¬ x.kind = 2) (k3 : ¬ x.kind = 3) (k4 : ¬ x.kind = 4) :
    Calls Try.prog 25 #[.pointer (some ⟨b, 0, none⟩), .agg #[.int .i64 x.kind, .int .i64 x.src, .int .i64 x.dst, .int .i64 x.term, .int .i64 x.index, .int .i64 x.logTerm, .bool x.yes], .int .i64 last, .int .i64 lt] w fun e w' => SendsR w b (S.take x last lt).1 L (S.take x last lt).2 e w' := by
  have H_k1 := Lib.hid k1
  have H_k2 := Lib.hid k2
  have H_k3 := Lib.hid k3
  have H_k4 := Lib.hid k4
  clear k1 k2 k3 k4
  have h9 := h.low
  obtain ⟨yv, nv, hx⟩ := h
  have hb0 := bl_alloc (Below.refl w.heap.size w) (.cells #[.int .i64 x.kind, .int .i64 x.src, .int .i64 x.dst, .int .i64 x.term, .int .i64 x.index, .int .i64 x.logTerm, .bool x.yes] 44)
  have hx0 := hx.below hb0
  have hblk := blk_new w (.cells #[.int .i64 x.kind, .int .i64 x.src, .int .i64 x.dst, .int .i64 x.term, .int .i64 x.index, .int .i64 x.logTerm, .bool x.yes] 44) rfl
  obtain ⟨w0, hw0⟩ : ∃ w0, w0 = w.alloc (.cells #[.int .i64 x.kind, .int .i64 x.src, .int .i64 x.dst, .int .i64 x.term, .int .i64 x.index, .int .i64 x.logTerm, .bool x.yes] 44) := ⟨_, rfl⟩
  rw [← hw0] at hb0 hx0 hblk
  have HW0 := Lib.hid hw0
  have HB0 := Lib.hid hb0
  have HBK := Lib.hid hblk
  have HN0 := Lib.hid hx0
  have q0 : ∀ W, Below w0.heap.size w0 W → W.cell? ⟨w.heap.size, 0, none⟩ = some (.int .i64 x.kind) := fun W h => blk_cell (blk_below hblk h (blk_lt hblk)) 0
  have q1 : ∀ W, Below w0.heap.size w0 W → W.cell? ⟨w.heap.size, 1, none⟩ = some (.int .i64 x.src) := fun W h => blk_cell (blk_below hblk h (blk_lt hblk)) 1
  have q2 : ∀ W, Below w0.heap.size w0 W → W.cell? ⟨w.heap.size, 2, none⟩ = some (.int .i64 x.dst) := fun W h => blk_cell (blk_below hblk h (blk_lt hblk)) 2
  have q3 : ∀ W, Below w0.heap.size w0 W → W.cell? ⟨w.heap.size, 3, none⟩ = some (.int .i64 x.term) := fun W h => blk_cell (blk_below hblk h (blk_lt hblk)) 3
  have q4 : ∀ W, Below w0.heap.size w0 W → W.cell? ⟨w.heap.size, 4, none⟩ = some (.int .i64 x.index) := fun W h => blk_cell (blk_below hblk h (blk_lt hblk)) 4
  have q5 : ∀ W, Below w0.heap.size w0 W → W.cell? ⟨w.heap.size, 5, none⟩ = some (.int .i64 x.logTerm) := fun W h => blk_cell (blk_below hblk h (blk_lt hblk)) 5
  have q6 : ∀ W, Below w0.heap.size w0 W → W.cell? ⟨w.heap.size, 6, none⟩ = some (.bool x.yes) := fun W h => blk_cell (blk_below hblk h (blk_lt hblk)) 6
  have hcB : ∀ (i : Nat) (W' : World), Below w0.heap.size w0 W' → W'.cell? ⟨b, i, none⟩ = (refC (S) (yv) (nv))[i]? := fun i W' h => (hx0.below h).cell i
  have r0 := hcB 0
  have r1 := hcB 1
  have r2 := hcB 2
  have r3 := hcB 3
  have r4 := hcB 4
  have r5 := hcB 5
  have r6 := hcB 6
  have r7 := hcB 7
  have r8 := hcB 8
  have r9 := hcB 9
  have r10 := hcB 10
  have r11 := hcB 11
  have rz : ∀ (i : Nat) (W' : World), Below w0.heap.size w0 W' → W'.frozen? ⟨b, i, none⟩ = false := fun i W' h => (hx0.below h).frozen i
  simp only [refC, List.getElem?_toArray, List.getElem?_cons_zero, List.getElem?_cons_succ] at r0 r1 r2 r3 r4 r5 r6 r7 r8 r9 r10 r11
  clear hcB
  have hbn : b ≠ w.heap.size := fun e => by have := blk_lt hx.blk; omega
  clear hx hx0 hblk hw0 hb0
  have hb := Below.refl w0.heap.size w0
  have HNB := Lib.hid (show ¬ w.heap.size ∈ L from fun hm => by have := h9 _ hm; omega)
  clear h9
  have hd : x.dst = S.id := Decidable.byContradiction fun k => hG (.inl k)
  have ho : S.other x.src = true := by cases e : S.other x.src with | true => rfl | false => exact absurd (.inr (.inl e)) hG
  have h1 : ¬ x.term < 0 := fun k => hG (.inr (.inr (.inl k)))
  have h2 : ¬ maxIx < x.term := fun k => hG (.inr (.inr (.inr k)))
  have hoo := ho
  unfold Nd.other at hoo
  simp only [Bool.and_eq_true, decide_eq_true_eq] at hoo
  obtain ⟨⟨a1, a2⟩, a3⟩ := hoo
  have e1 : (x.dst != S.id) = false := by simp [hd]
  have d1 : decide (x.src < 1) = false := decide_eq_false (by omega)
  have d2 : decide (15 < x.src) = false := decide_eq_false (by omega)
  have d3 : (x.src == S.id) = false := by simp [a3]
  have g1 : decide (x.term < 0) = false := decide_eq_false h1
  have g2 : decide (1099511627776 < x.term) = false := decide_eq_false h2
  have HG := Lib.hid hG
  clear hd ho h1 h2 a1 a2 a3 hG
  go_enter Try.func25, Try.ntmps25
  go_wp2_with fail
  rw [← HW0.out]
  refine wp_region_in (Below w0.heap.size w0) (fun _ => false) (by kernel_rfl) (by kernel_rfl) (by exact hb.drew) ?_
  intro hne hx
  replace hb := hb.drew
  change wpStg _ _ _ _ _ _ _ _ w0.drew
  obtain ⟨V1, hWq⟩ : ∃ V1, V1 = w0.drew := ⟨_, rfl⟩
  rw [← hWq] at hb ⊢
  clear hWq
  refine stg_seg 36 (by dsimp only [List.take]) (by dsimp only [List.drop]) (by rfl) ?_
  repeat (go_big_quiet_step (fail))
  refine wpQuiet_nil ?_
  refine stg_nil ?_
  clear hne hx
  go_upto_region 3 with fail
  obtain ⟨A, hA⟩ : ∃ A, A = decide (S.term < x.term) := ⟨_, rfl⟩
  obtain ⟨O, hO⟩ : ∃ O, O = Nd.oldB x last lt := ⟨_, rfl⟩
  have HA := Lib.hid hA
  have HOL := Lib.hid hO
  have eA := hA.symm
  clear hA hO
  go_cut [9] (fun s9 wx => s9 = .bool O ∧ wx = V1)
  case first =>
    by_cases k1 : lt < x.logTerm
    · go_wp2_with fail
      go_meet
      exact ⟨by rw [HOL.out]; unfold Nd.oldB; simp [k1], rfl⟩
    · have k1d : decide (lt < x.logTerm) = false := decide_eq_false k1
      by_cases k2 : x.logTerm = lt
      · have k2e : (x.logTerm == lt) = true := by simp [k2]
        have HE := Lib.hid (show O = decide (last ≤ x.index) by rw [HOL.out]; unfold Nd.oldB; simp [k1, k2])
        clear k1 k2
        go_wp2_with fail
        go_meet
        exact ⟨by rw [HE.out], rfl⟩
      · have k2e : (x.logTerm == lt) = false := by simp [k2]
        have HE := Lib.hid (show O = false by rw [HOL.out]; unfold Nd.oldB; simp [k1, k2])
        clear k1 k2
        go_wp2_with fail
        go_meet
        exact ⟨by rw [HE.out], rfl⟩
  case rest =>
    obtain ⟨rfl, rfl⟩ := hcut
    have k1 := H_k1.out
    have k2 := H_k2.out
    have k3 := H_k3.out
    have k4 := H_k4.out
    clear H_k1 H_k2 H_k3 H_k4
    have e2 : (x.kind == 1) = false := by simp [k1]
    have e6 : (x.kind == 2) = false := by simp [k2]
    have e5 : (x.kind == 3) = false := by simp [k3]
    have e7 : (x.kind == 4) = false := by simp [k4]
    have HS := Lib.hid (take_other (S := S) (last := last) (lt := lt) k1 k2 k3 k4)
    clear k1 k2 k3 k4
    go_wp2_with fail
    go_ret
    rw [HS.out]
    exact SendsR.none ⟨_, _, HN0.out.below hb⟩ (.of_below (bl_trans HB0.out hb)) (fun x hx => .inl hx)
set_option maxRecDepth 100000 in
set_option maxHeartbeats 8000000 in
theorem rtake_at {b : Nat} {S : Nd} {L : List Nat} {w : World} (h : RefAt w b S L) (h0 : 0 ≤ S.term) (ht9 : S.term ≤ maxIx) (hv : S.vs.length ≤ 1000) (hy9 : S.yes.length < 1000) (hn9 : S.no.length < 1000) (x : Bal) (last lt : Int) :
    Calls Try.prog 25 #[.pointer (some ⟨b, 0, none⟩), .agg #[.int .i64 x.kind, .int .i64 x.src, .int .i64 x.dst, .int .i64 x.term, .int .i64 x.index, .int .i64 x.logTerm, .bool x.yes], .int .i64 last, .int .i64 lt] w fun e w' => SendsR w b (S.take x last lt).1 L (S.take x last lt).2 e w' := by
  by_cases hG : x.dst ≠ S.id ∨ S.other x.src = false ∨ x.term < 0 ∨ maxIx < x.term
  case neg =>
    by_cases k1 : x.kind = 1
    · exact rtake_k1 h h0 ht9 hv hy9 hn9 x last lt hG k1
    by_cases k2 : x.kind = 2
    · exact rtake_k2 h h0 ht9 hv hy9 hn9 x last lt hG k2
    by_cases k3 : x.kind = 3
    · cases hA : decide (S.term < x.term) with
      | false => exact rtake_k3f h h0 ht9 hv hy9 hn9 x last lt hG k3 hA
      | true => exact rtake_k3t h h0 ht9 hv hy9 hn9 x last lt hG k3 hA
    by_cases k4 : x.kind = 4
    · exact rtake_k4 h h0 ht9 hv hy9 hn9 x last lt hG k4
    · exact rtake_k5 h h0 ht9 hv hy9 hn9 x last lt hG k1 k2 k3 k4
  have h9 := h.low
  obtain ⟨yv, nv, hx⟩ := h
  have hb0 := bl_alloc (Below.refl w.heap.size w) (.cells #[.int .i64 x.kind, .int .i64 x.src, .int .i64 x.dst, .int .i64 x.term, .int .i64 x.index, .int .i64 x.logTerm, .bool x.yes] 44)
  have hx0 := hx.below hb0
  have hblk := blk_new w (.cells #[.int .i64 x.kind, .int .i64 x.src, .int .i64 x.dst, .int .i64 x.term, .int .i64 x.index, .int .i64 x.logTerm, .bool x.yes] 44) rfl
  obtain ⟨w0, hw0⟩ : ∃ w0, w0 = w.alloc (.cells #[.int .i64 x.kind, .int .i64 x.src, .int .i64 x.dst, .int .i64 x.term, .int .i64 x.index, .int .i64 x.logTerm, .bool x.yes] 44) := ⟨_, rfl⟩
  rw [← hw0] at hb0 hx0 hblk
  have HW0 := Lib.hid hw0
  have HB0 := Lib.hid hb0
  have HBK := Lib.hid hblk
  have HN0 := Lib.hid hx0
  have q0 : ∀ W, Below w0.heap.size w0 W → W.cell? ⟨w.heap.size, 0, none⟩ = some (.int .i64 x.kind) := fun W h => blk_cell (blk_below hblk h (blk_lt hblk)) 0
  have q1 : ∀ W, Below w0.heap.size w0 W → W.cell? ⟨w.heap.size, 1, none⟩ = some (.int .i64 x.src) := fun W h => blk_cell (blk_below hblk h (blk_lt hblk)) 1
  have q2 : ∀ W, Below w0.heap.size w0 W → W.cell? ⟨w.heap.size, 2, none⟩ = some (.int .i64 x.dst) := fun W h => blk_cell (blk_below hblk h (blk_lt hblk)) 2
  have q3 : ∀ W, Below w0.heap.size w0 W → W.cell? ⟨w.heap.size, 3, none⟩ = some (.int .i64 x.term) := fun W h => blk_cell (blk_below hblk h (blk_lt hblk)) 3
  have q4 : ∀ W, Below w0.heap.size w0 W → W.cell? ⟨w.heap.size, 4, none⟩ = some (.int .i64 x.index) := fun W h => blk_cell (blk_below hblk h (blk_lt hblk)) 4
  have q5 : ∀ W, Below w0.heap.size w0 W → W.cell? ⟨w.heap.size, 5, none⟩ = some (.int .i64 x.logTerm) := fun W h => blk_cell (blk_below hblk h (blk_lt hblk)) 5
  have q6 : ∀ W, Below w0.heap.size w0 W → W.cell? ⟨w.heap.size, 6, none⟩ = some (.bool x.yes) := fun W h => blk_cell (blk_below hblk h (blk_lt hblk)) 6
  have hcB : ∀ (i : Nat) (W' : World), Below w0.heap.size w0 W' → W'.cell? ⟨b, i, none⟩ = (refC (S) (yv) (nv))[i]? := fun i W' h => (hx0.below h).cell i
  have r0 := hcB 0
  have r1 := hcB 1
  have r2 := hcB 2
  have r3 := hcB 3
  have r4 := hcB 4
  have r5 := hcB 5
  have r6 := hcB 6
  have r7 := hcB 7
  have r8 := hcB 8
  have r9 := hcB 9
  have r10 := hcB 10
  have r11 := hcB 11
  have rz : ∀ (i : Nat) (W' : World), Below w0.heap.size w0 W' → W'.frozen? ⟨b, i, none⟩ = false := fun i W' h => (hx0.below h).frozen i
  simp only [refC, List.getElem?_toArray, List.getElem?_cons_zero, List.getElem?_cons_succ] at r0 r1 r2 r3 r4 r5 r6 r7 r8 r9 r10 r11
  clear hcB
  have hbn : b ≠ w.heap.size := fun e => by have := blk_lt hx.blk; omega
  clear hx hx0 hblk hw0 hb0
  have hb := Below.refl w0.heap.size w0
  have HNB := Lib.hid (show ¬ w.heap.size ∈ L from fun hm => by have := h9 _ hm; omega)
  clear h9
  by_cases hd : x.dst = S.id
  case neg =>
    have e1 : (x.dst != S.id) = true := by simp [hd]
    have HS := Lib.hid (take_no (S := S) (x := x) (last := last) (lt := lt) (.inl hd))
    clear hd
    go_enter Try.func25, Try.ntmps25
    go_wp2_with fail
    rw [← HW0.out]
    refine wp_region_in (Below w0.heap.size w0) (fun _ => false) (by kernel_rfl) (by kernel_rfl) (by exact hb.drew) ?_
    intro hne hx
    replace hb := hb.drew
    change wpStg _ _ _ _ _ _ _ _ w0.drew
    obtain ⟨V1, hWq⟩ : ∃ V1, V1 = w0.drew := ⟨_, rfl⟩
    rw [← hWq] at hb ⊢
    clear hWq
    refine stg_seg 36 (by dsimp only [List.take]) (by dsimp only [List.drop]) (by rfl) ?_
    repeat (go_big_quiet_step (fail))
    refine wpQuiet_nil ?_
    refine stg_nil ?_
    clear hne hx
    go_wp2_with fail
    go_ret
    rw [HS.out]
    exact SendsR.none ⟨_, _, HN0.out.below hb⟩ (.of_below (bl_trans HB0.out hb)) (fun x hx => .inl hx)
  have e1 : (x.dst != S.id) = false := by simp [hd]
  by_cases a1 : x.src < 1
  · have HS := Lib.hid (take_no (S := S) (x := x) (last := last) (lt := lt) (.inr (.inl (by unfold Nd.other; simp; omega))))
    have d1 : decide (x.src < 1) = true := decide_eq_true a1
    clear a1 hd
    go_enter Try.func25, Try.ntmps25
    go_wp2_with fail
    rw [← HW0.out]
    refine wp_region_in (Below w0.heap.size w0) (fun _ => false) (by kernel_rfl) (by kernel_rfl) (by exact hb.drew) ?_
    intro hne hx
    replace hb := hb.drew
    change wpStg _ _ _ _ _ _ _ _ w0.drew
    obtain ⟨V1, hWq⟩ : ∃ V1, V1 = w0.drew := ⟨_, rfl⟩
    rw [← hWq] at hb ⊢
    clear hWq
    refine stg_seg 36 (by dsimp only [List.take]) (by dsimp only [List.drop]) (by rfl) ?_
    repeat (go_big_quiet_step (fail))
    refine wpQuiet_nil ?_
    refine stg_nil ?_
    clear hne hx
    go_wp2_with fail
    go_ret
    rw [HS.out]
    exact SendsR.none ⟨_, _, HN0.out.below hb⟩ (.of_below (bl_trans HB0.out hb)) (fun x hx => .inl hx)
  have d1 : decide (x.src < 1) = false := decide_eq_false a1
  by_cases a2 : 15 < x.src
  · have HS := Lib.hid (take_no (S := S) (x := x) (last := last) (lt := lt) (.inr (.inl (by unfold Nd.other; simp; omega))))
    have d2 : decide (15 < x.src) = true := decide_eq_true a2
    clear a1 a2 hd
    go_enter Try.func25, Try.ntmps25
    go_wp2_with fail
    rw [← HW0.out]
    refine wp_region_in (Below w0.heap.size w0) (fun _ => false) (by kernel_rfl) (by kernel_rfl) (by exact hb.drew) ?_
    intro hne hx
    replace hb := hb.drew
    change wpStg _ _ _ _ _ _ _ _ w0.drew
    obtain ⟨V1, hWq⟩ : ∃ V1, V1 = w0.drew := ⟨_, rfl⟩
    rw [← hWq] at hb ⊢
    clear hWq
    refine stg_seg 36 (by dsimp only [List.take]) (by dsimp only [List.drop]) (by rfl) ?_
    repeat (go_big_quiet_step (fail))
    refine wpQuiet_nil ?_
    refine stg_nil ?_
    clear hne hx
    go_wp2_with fail
    go_ret
    rw [HS.out]
    exact SendsR.none ⟨_, _, HN0.out.below hb⟩ (.of_below (bl_trans HB0.out hb)) (fun x hx => .inl hx)
  have d2 : decide (15 < x.src) = false := decide_eq_false a2
  by_cases a3 : x.src = S.id
  · have HS := Lib.hid (take_no (S := S) (x := x) (last := last) (lt := lt) (.inr (.inl (by unfold Nd.other; simp; omega))))
    have d3 : (x.src == S.id) = true := by simp [a3]
    clear a1 a2 a3 hd
    go_enter Try.func25, Try.ntmps25
    go_wp2_with fail
    rw [← HW0.out]
    refine wp_region_in (Below w0.heap.size w0) (fun _ => false) (by kernel_rfl) (by kernel_rfl) (by exact hb.drew) ?_
    intro hne hx
    replace hb := hb.drew
    change wpStg _ _ _ _ _ _ _ _ w0.drew
    obtain ⟨V1, hWq⟩ : ∃ V1, V1 = w0.drew := ⟨_, rfl⟩
    rw [← hWq] at hb ⊢
    clear hWq
    refine stg_seg 36 (by dsimp only [List.take]) (by dsimp only [List.drop]) (by rfl) ?_
    repeat (go_big_quiet_step (fail))
    refine wpQuiet_nil ?_
    refine stg_nil ?_
    clear hne hx
    go_wp2_with fail
    go_ret
    rw [HS.out]
    exact SendsR.none ⟨_, _, HN0.out.below hb⟩ (.of_below (bl_trans HB0.out hb)) (fun x hx => .inl hx)
  have d3 : (x.src == S.id) = false := by simp [a3]
  by_cases h1 : x.term < 0
  · have HS := Lib.hid (take_no (S := S) (x := x) (last := last) (lt := lt) (.inr (.inr (.inl h1))))
    clear a1 a2 a3 hd
    go_enter Try.func25, Try.ntmps25
    go_wp2_with fail
    rw [← HW0.out]
    refine wp_region_in (Below w0.heap.size w0) (fun _ => false) (by kernel_rfl) (by kernel_rfl) (by exact hb.drew) ?_
    intro hne hx
    replace hb := hb.drew
    change wpStg _ _ _ _ _ _ _ _ w0.drew
    obtain ⟨V1, hWq⟩ : ∃ V1, V1 = w0.drew := ⟨_, rfl⟩
    rw [← hWq] at hb ⊢
    clear hWq
    refine stg_seg 36 (by dsimp only [List.take]) (by dsimp only [List.drop]) (by rfl) ?_
    repeat (go_big_quiet_step (fail))
    refine wpQuiet_nil ?_
    refine stg_nil ?_
    clear hne hx
    go_wp2_with fail
    go_ret
    rw [HS.out]
    exact SendsR.none ⟨_, _, HN0.out.below hb⟩ (.of_below (bl_trans HB0.out hb)) (fun x hx => .inl hx)
  have g1 : decide (x.term < 0) = false := decide_eq_false h1
  by_cases h2 : maxIx < x.term
  · have HS := Lib.hid (take_no (S := S) (x := x) (last := last) (lt := lt) (.inr (.inr (.inr h2))))
    clear a1 a2 a3 hd
    unfold maxIx at h2
    go_enter Try.func25, Try.ntmps25
    go_wp2_with fail
    rw [← HW0.out]
    refine wp_region_in (Below w0.heap.size w0) (fun _ => false) (by kernel_rfl) (by kernel_rfl) (by exact hb.drew) ?_
    intro hne hx
    replace hb := hb.drew
    change wpStg _ _ _ _ _ _ _ _ w0.drew
    obtain ⟨V1, hWq⟩ : ∃ V1, V1 = w0.drew := ⟨_, rfl⟩
    rw [← hWq] at hb ⊢
    clear hWq
    refine stg_seg 36 (by dsimp only [List.take]) (by dsimp only [List.drop]) (by rfl) ?_
    repeat (go_big_quiet_step (fail))
    refine wpQuiet_nil ?_
    refine stg_nil ?_
    clear hne hx
    go_wp2_with fail
    go_ret
    rw [HS.out]
    exact SendsR.none ⟨_, _, HN0.out.below hb⟩ (.of_below (bl_trans HB0.out hb)) (fun x hx => .inl hx)
  have g2 : decide (1099511627776 < x.term) = false := decide_eq_false h2
  have ho : S.other x.src = true := by
    unfold Nd.other
    rw [decide_eq_true (show 1 ≤ x.src by omega), decide_eq_true (show x.src ≤ 15 by omega), decide_eq_true (show x.src ≠ S.id from a3)]
    rfl
  exfalso
  rcases hG with h | h | h | h
  · exact h hd
  · rw [ho] at h; cases h
  · exact h1 h
  · exact h2 h
end Go.Proofs.Ytiamfdnllpiikaa
