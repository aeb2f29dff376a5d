/- The reference's node: preSay. Conditions: none. -/
import Derived.Test.YtiamfdnllpiikaaElRefG
import Derived.Test.YtiamfdnllpiikaaElTake
namespace Go.Proofs.Ytiamfdnllpiikaa
open Go.RowKit
/-- What the walk knows once somebody has said something. -/
def presayN (S : Nd) (x : Bal) (last lt : Int) : Nd × List Bal := if S.term < x.term ∧ x.yes = false then (S.down x.term, []) else if S.role = 1 ∧ (x.yes = false ∨ x.term = S.term + 1) then (S.says x.src x.yes).counted last lt else (S, [])
theorem says_role (S : Nd) (src : Int) (y : Bool) : (S.says src y).role = S.role := by unfold Nd.says; split; exact rfl; split <;> exact rfl
set_option maxRecDepth 100000 in
set_option maxHeartbeats 4000000 in
theorem rpresay_at {b : Nat} {S : Nd} {L : List Nat} {w : World} (h : RefAt w b S L) (h0 : 0 ≤ S.term) (ht : S.term ≤ maxIx) (hv : S.vs.length ≤ 1000) (hy9 : S.yes.length < 1000) (hn9 : S.no.length < 1000) (x : Bal) (last lt : Int) :
    Calls Try.prog 47 #[.pointer (some ⟨b, 0, none⟩), .agg #[.int .i64 x.kind, .int .i64 x.src, .int .i64 x.dst, .int .i64 x.term, .int .i64 x.index, .int .i64 x.logTerm, .bool x.yes], .int .i64 last, .int .i64 lt] w fun e w' => SendsR w b (presayN S x last lt).1 L (presayN S x last lt).2 e w' := by
  obtain ⟨yv, nv, hx⟩ := h
  have hb0 := bl_alloc (Below.refl w.heap.size w) (.cells #[.int .i64 x.kind, .int .i64 x.src, .int .i64 x.dst, .int .i64 x.term, .int .i64 x.index, .int .i64 x.logTerm, .bool x.yes] 44)
  have hx0 := hx.below hb0
  have hblk := blk_new w (.cells #[.int .i64 x.kind, .int .i64 x.src, .int .i64 x.dst, .int .i64 x.term, .int .i64 x.index, .int .i64 x.logTerm, .bool x.yes] 44) rfl
  obtain ⟨w0, hw0⟩ : ∃ w0, w0 = w.alloc (.cells #[.int .i64 x.kind, .int .i64 x.src, .int .i64 x.dst, .int .i64 x.term, .int .i64 x.index, .int .i64 x.logTerm, .bool x.yes] 44) := ⟨_, rfl⟩
  rw [← hw0] at hb0 hx0 hblk
  have HW0 := Lib.hid hw0
  have HB0 := Lib.hid hb0
  have HBK := Lib.hid hblk
  have HN0 := Lib.hid hx0
  have q0 : ∀ W, Below w0.heap.size w0 W → W.cell? ⟨w.heap.size, 0, none⟩ = some (.int .i64 x.kind) := fun W h => blk_cell (blk_below hblk h (blk_lt hblk)) 0
  have q1 : ∀ W, Below w0.heap.size w0 W → W.cell? ⟨w.heap.size, 1, none⟩ = some (.int .i64 x.src) := fun W h => blk_cell (blk_below hblk h (blk_lt hblk)) 1
  have q2 : ∀ W, Below w0.heap.size w0 W → W.cell? ⟨w.heap.size, 2, none⟩ = some (.int .i64 x.dst) := fun W h => blk_cell (blk_below hblk h (blk_lt hblk)) 2
  have q3 : ∀ W, Below w0.heap.size w0 W → W.cell? ⟨w.heap.size, 3, none⟩ = some (.int .i64 x.term) := fun W h => blk_cell (blk_below hblk h (blk_lt hblk)) 3
  have q4 : ∀ W, Below w0.heap.size w0 W → W.cell? ⟨w.heap.size, 4, none⟩ = some (.int .i64 x.index) := fun W h => blk_cell (blk_below hblk h (blk_lt hblk)) 4
  have q5 : ∀ W, Below w0.heap.size w0 W → W.cell? ⟨w.heap.size, 5, none⟩ = some (.int .i64 x.logTerm) := fun W h => blk_cell (blk_below hblk h (blk_lt hblk)) 5
  have q6 : ∀ W, Below w0.heap.size w0 W → W.cell? ⟨w.heap.size, 6, none⟩ = some (.bool x.yes) := fun W h => blk_cell (blk_below hblk h (blk_lt hblk)) 6
  have hcB : ∀ (i : Nat) (W' : World), Below w0.heap.size w0 W' → W'.cell? ⟨b, i, none⟩ = (refC (S) (yv) (nv))[i]? := fun i W' h => (hx0.below h).cell i
  have r0 := hcB 0
  have r1 := hcB 1
  have r2 := hcB 2
  have r3 := hcB 3
  have r4 := hcB 4
  have r5 := hcB 5
  have r6 := hcB 6
  have r7 := hcB 7
  have r8 := hcB 8
  have r9 := hcB 9
  have r10 := hcB 10
  have r11 := hcB 11
  have rz : ∀ (i : Nat) (W' : World), Below w0.heap.size w0 W' → W'.frozen? ⟨b, i, none⟩ = false := fun i W' h => (hx0.below h).frozen i
  simp only [refC, List.getElem?_toArray, List.getElem?_cons_zero, List.getElem?_cons_succ] at r0 r1 r2 r3 r4 r5 r6 r7 r8 r9 r10 r11
  clear hcB
  have hbn : b ≠ w.heap.size := fun e => by have := blk_lt hx.blk; omega
  clear hx hx0 hblk hw0 hb0
  have hb := Below.refl w0.heap.size w0
  unfold maxIx at ht
  have hwt : IntKind.i64.wrap (S.term + 1) = S.term + 1 := IntWalk.i64_in _ (by omega)
  rcases (Bool.eq_false_or_eq_true x.yes).symm with hyes | hyes
  · skip
    rw [hyes] at q6
    have HY := Lib.hid hyes
    clear hyes
    by_cases hab : S.term < x.term
    · have HS := Lib.hid (show presayN S x last lt = (S.down x.term, []) by unfold presayN; rw [if_pos ⟨hab, HY.out⟩])
      have e1 : decide (S.term < x.term) = true := decide_eq_true hab
      clear hab
      go_enter Try.func47, Try.ntmps47
      go_wp2_with fail
      rw [← HW0.out]
      refine wp_region_in (Below w0.heap.size w0) (fun _ => false) (by kernel_rfl) (by kernel_rfl) (by exact hb.drew) ?_
      intro hne hx
      replace hb := hb.drew
      change wpStg _ _ _ _ _ _ _ _ w0.drew
      obtain ⟨V1, hWq⟩ : ∃ V1, V1 = w0.drew := ⟨_, rfl⟩
      rw [← hWq] at hb ⊢
      clear hWq
      refine stg_seg 13 (by dsimp only [List.take]) (by dsimp only [List.drop]) (by rfl) ?_
      repeat (go_big_quiet_step (fail))
      refine wpQuiet_nil ?_
      refine stg_nil ?_
      clear hne hx
      go_wp2_with fail
      refine (rdown_at ⟨_, _, HN0.out.below hb⟩ x.term).mono ?_; rintro e w3 ⟨rfl, L3, h3, k3, hL3⟩
      go_wp2_with fail
      go_ret
      rw [HS.out]
      obtain ⟨k4, hL4⟩ := Moves.trans (L := L) (.of_below (bl_trans HB0.out hb)) (fun x hx => .inl hx) k3 hL3
      exact SendsR.none h3 k4 hL4
    have e1 : decide (S.term < x.term) = false := decide_eq_false hab
    by_cases hr : S.role = 1
    · have HS := Lib.hid (show presayN S x last lt = (S.says x.src false).counted last lt by unfold presayN; rw [if_neg (fun h => hab h.1), if_pos ⟨hr, .inl HY.out⟩, HY.out])
      have HR1 := Lib.hid hr
      have e2 : (S.role != 1) = false := by simp [hr]
      clear hab hr
      go_enter Try.func47, Try.ntmps47
      go_wp2_with fail
      rw [← HW0.out]
      refine wp_region_in (Below w0.heap.size w0) (fun _ => false) (by kernel_rfl) (by kernel_rfl) (by exact hb.drew) ?_
      intro hne hx
      replace hb := hb.drew
      change wpStg _ _ _ _ _ _ _ _ w0.drew
      obtain ⟨V1, hWq⟩ : ∃ V1, V1 = w0.drew := ⟨_, rfl⟩
      rw [← hWq] at hb ⊢
      clear hWq
      refine stg_seg 13 (by dsimp only [List.take]) (by dsimp only [List.drop]) (by rfl) ?_
      repeat (go_big_quiet_step (fail))
      refine wpQuiet_nil ?_
      refine stg_nil ?_
      clear hne hx
      go_wp2_with fail
      refine wp_region_in (Below w0.heap.size w0) (fun _ => false) (by kernel_rfl) (by kernel_rfl) (by exact hb.drew) ?_
      intro hne hx
      replace hb := hb.drew
      change wpStg _ _ _ _ _ _ _ _ V1.drew
      obtain ⟨V2, hWq⟩ : ∃ V2, V2 = V1.drew := ⟨_, rfl⟩
      rw [← hWq] at hb ⊢
      clear hWq
      refine stg_seg 20 (by dsimp only [List.take]) (by dsimp only [List.drop]) (by rfl) ?_
      repeat (go_big_quiet_step (fail))
      refine wpQuiet_nil ?_
      refine stg_nil ?_
      clear hne hx
      go_wp2_with fail
      refine (rsays_at ⟨_, _, HN0.out.below hb⟩ hy9 hn9 x.src false).mono ?_; rintro e w3 ⟨rfl, L3, ⟨yv3, nv3, h3⟩, k3, hL3⟩
      obtain ⟨k4, hL4⟩ := Moves.trans (L := L) (.of_below (bl_trans HB0.out hb)) (fun x hx => .inl hx) k3 hL3
      have HK3 := Lib.hid k4
      have HL3 := Lib.hid hL4
      obtain ⟨ya, yc, rfl, hgy, hyc, hyc9⟩ := h3.yes.gs
      obtain ⟨na, nc, rfl, hgn, hnc, hnc9⟩ := h3.no.gs
      have HGY := Lib.hid hgy
      have HGN := Lib.hid hgn
      have HYM := Lib.hid (Nat.le_trans hyc hyc9)
      have HNM := Lib.hid (Nat.le_trans hnc hnc9)
      have HST := Lib.hid (says_same S x.src false)
      obtain ⟨S1, hS1⟩ : ∃ S1, S1 = S.says x.src false := ⟨_, rfl⟩
      rw [← hS1] at h3 HGY HGN HYM HNM HST
      have HN := Lib.hid h3
      have HS1 := Lib.hid hS1
      clear h3 hS1 hgy hgn hyc hyc9 hnc hnc9 k3 hL3 k4 hL4 r0 r1 r2 r3 r4 r5 r6 r7 r8 r9 r10 r11 rz q0 q1 q2 q3 q4 q5 q6 hb
      have hcB : ∀ (i : Nat) (W' : World), Below w3.heap.size w3 W' → W'.cell? ⟨b, i, none⟩ = (refC (S1) (.slice ya S1.yes.length yc) (.slice na S1.no.length nc))[i]? := fun i W' h => (HN.out.below h).cell i
      have r0 := hcB 0
      have r1 := hcB 1
      have r2 := hcB 2
      have r3 := hcB 3
      have r4 := hcB 4
      have r5 := hcB 5
      have r6 := hcB 6
      have r7 := hcB 7
      have r8 := hcB 8
      have r9 := hcB 9
      have r10 := hcB 10
      have r11 := hcB 11
      have rz : ∀ (i : Nat) (W' : World), Below w3.heap.size w3 W' → W'.frozen? ⟨b, i, none⟩ = false := fun i W' h => (HN.out.below h).frozen i
      simp only [refC, List.getElem?_toArray, List.getElem?_cons_zero, List.getElem?_cons_succ] at r0 r1 r2 r3 r4 r5 r6 r7 r8 r9 r10 r11
      clear hcB
      go_wp2_with fail
      have hb := Below.refl w3.heap.size w3
      refine wp_region_in (Below w3.heap.size w3) (fun i => i == 8) (by kernel_rfl) (by kernel_rfl) (by exact hb.drew) ?_
      intro hne hx
      replace hb := hb.drew
      refine stg_seg 8 (by dsimp only [List.take]) (by dsimp only [List.drop]) (by rfl) ?_
      repeat (go_big_quiet_step (fail))
      refine wpQuiet_nil ?_
      refine stg_loud (by rfl) ?_
      go_wp2_with fail
      refine (rwins_at S1.va S1.la S1.vs S1.ls S1.vc S1.lc ya S1.yes yc _ (HN.out.below hb).vs.at_ (HN.out.below hb).ls.at_ HN.out.vl HN.out.ll (HGY.out.keep hb) HYM.out).mono ?_; rintro e w6 ⟨rfl, hb2⟩
      replace hb := bl_trans hb hb2
      clear hb2
      go_wp2_with fail
      refine lq_in rfl (hb) ?_
      refine stg_seg 1 (by dsimp only [List.take]) (by dsimp only [List.drop]) (by rfl) ?_
      repeat (go_big_quiet_step (fail))
      refine wpQuiet_nil ?_
      refine stg_nil ?_
      clear hne hx
      go_wp2_with fail
      refine wp_region_in (Below w3.heap.size w3) (fun i => i == 8) (by kernel_rfl) (by kernel_rfl) (by exact hb.drew) ?_
      intro hne hx
      replace hb := hb.drew
      refine stg_seg 8 (by dsimp only [List.take]) (by dsimp only [List.drop]) (by rfl) ?_
      repeat (go_big_quiet_step (fail))
      refine wpQuiet_nil ?_
      refine stg_loud (by rfl) ?_
      go_wp2_with fail
      refine (rlost_at S1.va S1.la S1.vs S1.ls S1.vc S1.lc na S1.no nc _ (HN.out.below hb).vs.at_ (HN.out.below hb).ls.at_ HN.out.vl HN.out.ll (HGN.out.keep hb) HNM.out).mono ?_; rintro e w7 ⟨rfl, hb2⟩
      replace hb := bl_trans hb hb2
      clear hb2
      go_wp2_with fail
      refine lq_in rfl (hb) ?_
      refine stg_seg 1 (by dsimp only [List.take]) (by dsimp only [List.drop]) (by rfl) ?_
      repeat (go_big_quiet_step (fail))
      refine wpQuiet_nil ?_
      refine stg_nil ?_
      clear hne hx
      rw [show winsB S1.vs S1.ls S1.yes = S1.win from rfl, show lostB S1.vs S1.ls S1.no = S1.lost from rfl]
      have HN6 := Lib.hid (HN.out.below hb)
      have HK6 := Lib.hid (HK3.out.below hb)
      clear r0 r1 r2 r3 r4 r5 r6 r7 r8 r9 r10 r11 rz
      have HRO := Lib.hid (show S1.role = 1 by rw [HS1.out]; exact (says_role S x.src false).trans HR1.out)
      by_cases hw : S1.win = true
      · have HC := Lib.hid (show S1.counted last lt = S1.run last lt by unfold Nd.counted; rw [if_pos hw, if_pos HRO.out])
        rw [hw]
        have hr := rrun_at ⟨_, _, HN6.out⟩ (by rw [HST.out.1]; exact h0) (by rw [HST.out.2]; exact hv) last lt
        go_wp2_with fail
        refine hr.mono ?_; rintro e w8 ⟨v, rfl, L7, h7, k7, hL7, hb7, ho7⟩
        go_wp2_with fail
        go_ret
        rw [HS.out, ← HS1.out, HC.out]
        obtain ⟨k8, hL8⟩ := Moves.trans HK6.out HL3.out k7 hL7
        exact ⟨v, rfl, L7, h7, k8, hL8, Bals.from_ hb7 HK6.out.size, ho7⟩
      rw [eq_false_of_ne_true hw]
      by_cases hl : S1.lost = true
      · have HC := Lib.hid (show S1.counted last lt = ({ S1 with role := 0 }, []) by unfold Nd.counted; rw [if_neg hw, if_pos hl])
        rw [hl]
        have hx := HN6.out
        have c0 := hx.cell 0
        have c1 := hx.cell 1
        have c2 := hx.cell 2
        have c3 := hx.cell 3
        have c4 := hx.cell 4
        have c5 := hx.cell 5
        have c6 := hx.cell 6
        have c7 := hx.cell 7
        have c8 := hx.cell 8
        have c9 := hx.cell 9
        have c10 := hx.cell 10
        have c11 := hx.cell 11
        have fz := hx.frozen
        simp only [refC, List.getElem?_toArray, List.getElem?_cons_zero, List.getElem?_cons_succ] at c0 c1 c2 c3 c4 c5 c6 c7 c8 c9 c10 c11
        clear hx
        go_wp2_with fail
        go_ret
        rw [HS.out, ← HS1.out, HC.out]
        have kz := fun W => (Chg.refl [b] W).set (p := ⟨b, 6, none⟩) (by simp) (.int .i64 0)
        obtain ⟨k8, hL8⟩ := Moves.trans HK6.out HL3.out ((kz _).up1 HN6.out.inb) (fun x hx => .inl hx)
        exact SendsR.none ⟨_, _, HN6.out.scal (S' := { S1 with role := 0 }) (kz _) (blk_set HN6.out.blk 6 _) ⟨rfl, rfl⟩ ⟨rfl, rfl⟩ rfl rfl⟩ k8 hL8
      · have HC := Lib.hid (show S1.counted last lt = (S1, []) by unfold Nd.counted; rw [if_neg hw, if_neg hl])
        rw [eq_false_of_ne_true hl]
        go_wp2_with fail
        go_ret
        rw [HS.out, ← HS1.out, HC.out]
        exact SendsR.none ⟨_, _, HN6.out⟩ HK6.out HL3.out
    · have HS := Lib.hid (show presayN S x last lt = (S, []) by unfold presayN; rw [if_neg (fun h => hab h.1), if_neg (fun h => hr h.1)])
      have e2 : (S.role != 1) = true := by simp [hr]
      clear hab hr
      go_enter Try.func47, Try.ntmps47
      go_wp2_with fail
      rw [← HW0.out]
      refine wp_region_in (Below w0.heap.size w0) (fun _ => false) (by kernel_rfl) (by kernel_rfl) (by exact hb.drew) ?_
      intro hne hx
      replace hb := hb.drew
      change wpStg _ _ _ _ _ _ _ _ w0.drew
      obtain ⟨V1, hWq⟩ : ∃ V1, V1 = w0.drew := ⟨_, rfl⟩
      rw [← hWq] at hb ⊢
      clear hWq
      refine stg_seg 13 (by dsimp only [List.take]) (by dsimp only [List.drop]) (by rfl) ?_
      repeat (go_big_quiet_step (fail))
      refine wpQuiet_nil ?_
      refine stg_nil ?_
      clear hne hx
      go_wp2_with fail
      refine wp_region_in (Below w0.heap.size w0) (fun _ => false) (by kernel_rfl) (by kernel_rfl) (by exact hb.drew) ?_
      intro hne hx
      replace hb := hb.drew
      change wpStg _ _ _ _ _ _ _ _ V1.drew
      obtain ⟨V2, hWq⟩ : ∃ V2, V2 = V1.drew := ⟨_, rfl⟩
      rw [← hWq] at hb ⊢
      clear hWq
      refine stg_seg 20 (by dsimp only [List.take]) (by dsimp only [List.drop]) (by rfl) ?_
      repeat (go_big_quiet_step (fail))
      refine wpQuiet_nil ?_
      refine stg_nil ?_
      clear hne hx
      go_wp2_with fail
      go_ret
      rw [HS.out]
      exact SendsR.none ⟨_, _, HN0.out.below hb⟩ (.of_below (bl_trans HB0.out hb)) (fun x hx => .inl hx)
  · skip
    rw [hyes] at q6
    have HY := Lib.hid hyes
    clear hyes
    by_cases hr : S.role = 1
    · have HR1 := Lib.hid hr
      have e2 : (S.role != 1) = false := by simp [hr]
      by_cases hte : x.term = S.term + 1
      · have HS := Lib.hid (show presayN S x last lt = (S.says x.src true).counted last lt by unfold presayN; rw [if_neg (fun h => by rw [HY.out] at h; exact absurd h.2 (by decide)), if_pos ⟨hr, .inr hte⟩, HY.out])
        have e3 : (x.term != S.term + 1) = false := by simp [hte]
        clear hr hte
        go_enter Try.func47, Try.ntmps47
        go_wp2_with fail
        rw [← HW0.out]
        refine wp_region_in (Below w0.heap.size w0) (fun _ => false) (by kernel_rfl) (by kernel_rfl) (by exact hb.drew) ?_
        intro hne hx
        replace hb := hb.drew
        change wpStg _ _ _ _ _ _ _ _ w0.drew
        obtain ⟨V1, hWq⟩ : ∃ V1, V1 = w0.drew := ⟨_, rfl⟩
        rw [← hWq] at hb ⊢
        clear hWq
        refine stg_seg 13 (by dsimp only [List.take]) (by dsimp only [List.drop]) (by rfl) ?_
        repeat (go_big_quiet_step (fail))
        refine wpQuiet_nil ?_
        refine stg_nil ?_
        clear hne hx
        go_wp2_with fail
        refine wp_region_in (Below w0.heap.size w0) (fun _ => false) (by kernel_rfl) (by kernel_rfl) (by exact hb.drew) ?_
        intro hne hx
        replace hb := hb.drew
        change wpStg _ _ _ _ _ _ _ _ V1.drew
        obtain ⟨V2, hWq⟩ : ∃ V2, V2 = V1.drew := ⟨_, rfl⟩
        rw [← hWq] at hb ⊢
        clear hWq
        refine stg_seg 20 (by dsimp only [List.take]) (by dsimp only [List.drop]) (by rfl) ?_
        repeat (go_big_quiet_step (fail))
        refine wpQuiet_nil ?_
        refine stg_nil ?_
        clear hne hx
        go_wp2_with fail
        refine (rsays_at ⟨_, _, HN0.out.below hb⟩ hy9 hn9 x.src true).mono ?_; rintro e w3 ⟨rfl, L3, ⟨yv3, nv3, h3⟩, k3, hL3⟩
        obtain ⟨k4, hL4⟩ := Moves.trans (L := L) (.of_below (bl_trans HB0.out hb)) (fun x hx => .inl hx) k3 hL3
        have HK3 := Lib.hid k4
        have HL3 := Lib.hid hL4
        obtain ⟨ya, yc, rfl, hgy, hyc, hyc9⟩ := h3.yes.gs
        obtain ⟨na, nc, rfl, hgn, hnc, hnc9⟩ := h3.no.gs
        have HGY := Lib.hid hgy
        have HGN := Lib.hid hgn
        have HYM := Lib.hid (Nat.le_trans hyc hyc9)
        have HNM := Lib.hid (Nat.le_trans hnc hnc9)
        have HST := Lib.hid (says_same S x.src true)
        obtain ⟨S1, hS1⟩ : ∃ S1, S1 = S.says x.src true := ⟨_, rfl⟩
        rw [← hS1] at h3 HGY HGN HYM HNM HST
        have HN := Lib.hid h3
        have HS1 := Lib.hid hS1
        clear h3 hS1 hgy hgn hyc hyc9 hnc hnc9 k3 hL3 k4 hL4 r0 r1 r2 r3 r4 r5 r6 r7 r8 r9 r10 r11 rz q0 q1 q2 q3 q4 q5 q6 hb
        have hcB : ∀ (i : Nat) (W' : World), Below w3.heap.size w3 W' → W'.cell? ⟨b, i, none⟩ = (refC (S1) (.slice ya S1.yes.length yc) (.slice na S1.no.length nc))[i]? := fun i W' h => (HN.out.below h).cell i
        have r0 := hcB 0
        have r1 := hcB 1
        have r2 := hcB 2
        have r3 := hcB 3
        have r4 := hcB 4
        have r5 := hcB 5
        have r6 := hcB 6
        have r7 := hcB 7
        have r8 := hcB 8
        have r9 := hcB 9
        have r10 := hcB 10
        have r11 := hcB 11
        have rz : ∀ (i : Nat) (W' : World), Below w3.heap.size w3 W' → W'.frozen? ⟨b, i, none⟩ = false := fun i W' h => (HN.out.below h).frozen i
        simp only [refC, List.getElem?_toArray, List.getElem?_cons_zero, List.getElem?_cons_succ] at r0 r1 r2 r3 r4 r5 r6 r7 r8 r9 r10 r11
        clear hcB
        go_wp2_with fail
        have hb := Below.refl w3.heap.size w3
        refine wp_region_in (Below w3.heap.size w3) (fun i => i == 8) (by kernel_rfl) (by kernel_rfl) (by exact hb.drew) ?_
        intro hne hx
        replace hb := hb.drew
        refine stg_seg 8 (by dsimp only [List.take]) (by dsimp only [List.drop]) (by rfl) ?_
        repeat (go_big_quiet_step (fail))
        refine wpQuiet_nil ?_
        refine stg_loud (by rfl) ?_
        go_wp2_with fail
        refine (rwins_at S1.va S1.la S1.vs S1.ls S1.vc S1.lc ya S1.yes yc _ (HN.out.below hb).vs.at_ (HN.out.below hb).ls.at_ HN.out.vl HN.out.ll (HGY.out.keep hb) HYM.out).mono ?_; rintro e w6 ⟨rfl, hb2⟩
        replace hb := bl_trans hb hb2
        clear hb2
        go_wp2_with fail
        refine lq_in rfl (hb) ?_
        refine stg_seg 1 (by dsimp only [List.take]) (by dsimp only [List.drop]) (by rfl) ?_
        repeat (go_big_quiet_step (fail))
        refine wpQuiet_nil ?_
        refine stg_nil ?_
        clear hne hx
        go_wp2_with fail
        refine wp_region_in (Below w3.heap.size w3) (fun i => i == 8) (by kernel_rfl) (by kernel_rfl) (by exact hb.drew) ?_
        intro hne hx
        replace hb := hb.drew
        refine stg_seg 8 (by dsimp only [List.take]) (by dsimp only [List.drop]) (by rfl) ?_
        repeat (go_big_quiet_step (fail))
        refine wpQuiet_nil ?_
        refine stg_loud (by rfl) ?_
        go_wp2_with fail
        refine (rlost_at S1.va S1.la S1.vs S1.ls S1.vc S1.lc na S1.no nc _ (HN.out.below hb).vs.at_ (HN.out.below hb).ls.at_ HN.out.vl HN.out.ll (HGN.out.keep hb) HNM.out).mono ?_; rintro e w7 ⟨rfl, hb2⟩
        replace hb := bl_trans hb hb2
        clear hb2
        go_wp2_with fail
        refine lq_in rfl (hb) ?_
        refine stg_seg 1 (by dsimp only [List.take]) (by dsimp only [List.drop]) (by rfl) ?_
        repeat (go_big_quiet_step (fail))
        refine wpQuiet_nil ?_
        refine stg_nil ?_
        clear hne hx
        rw [show winsB S1.vs S1.ls S1.yes = S1.win from rfl, show lostB S1.vs S1.ls S1.no = S1.lost from rfl]
        have HN6 := Lib.hid (HN.out.below hb)
        have HK6 := Lib.hid (HK3.out.below hb)
        clear r0 r1 r2 r3 r4 r5 r6 r7 r8 r9 r10 r11 rz
        have HRO := Lib.hid (show S1.role = 1 by rw [HS1.out]; exact (says_role S x.src true).trans HR1.out)
        by_cases hw : S1.win = true
        · have HC := Lib.hid (show S1.counted last lt = S1.run last lt by unfold Nd.counted; rw [if_pos hw, if_pos HRO.out])
          rw [hw]
          have hr := rrun_at ⟨_, _, HN6.out⟩ (by rw [HST.out.1]; exact h0) (by rw [HST.out.2]; exact hv) last lt
          go_wp2_with fail
          refine hr.mono ?_; rintro e w8 ⟨v, rfl, L7, h7, k7, hL7, hb7, ho7⟩
          go_wp2_with fail
          go_ret
          rw [HS.out, ← HS1.out, HC.out]
          obtain ⟨k8, hL8⟩ := Moves.trans HK6.out HL3.out k7 hL7
          exact ⟨v, rfl, L7, h7, k8, hL8, Bals.from_ hb7 HK6.out.size, ho7⟩
        rw [eq_false_of_ne_true hw]
        by_cases hl : S1.lost = true
        · have HC := Lib.hid (show S1.counted last lt = ({ S1 with role := 0 }, []) by unfold Nd.counted; rw [if_neg hw, if_pos hl])
          rw [hl]
          have hx := HN6.out
          have c0 := hx.cell 0
          have c1 := hx.cell 1
          have c2 := hx.cell 2
          have c3 := hx.cell 3
          have c4 := hx.cell 4
          have c5 := hx.cell 5
          have c6 := hx.cell 6
          have c7 := hx.cell 7
          have c8 := hx.cell 8
          have c9 := hx.cell 9
          have c10 := hx.cell 10
          have c11 := hx.cell 11
          have fz := hx.frozen
          simp only [refC, List.getElem?_toArray, List.getElem?_cons_zero, List.getElem?_cons_succ] at c0 c1 c2 c3 c4 c5 c6 c7 c8 c9 c10 c11
          clear hx
          go_wp2_with fail
          go_ret
          rw [HS.out, ← HS1.out, HC.out]
          have kz := fun W => (Chg.refl [b] W).set (p := ⟨b, 6, none⟩) (by simp) (.int .i64 0)
          obtain ⟨k8, hL8⟩ := Moves.trans HK6.out HL3.out ((kz _).up1 HN6.out.inb) (fun x hx => .inl hx)
          exact SendsR.none ⟨_, _, HN6.out.scal (S' := { S1 with role := 0 }) (kz _) (blk_set HN6.out.blk 6 _) ⟨rfl, rfl⟩ ⟨rfl, rfl⟩ rfl rfl⟩ k8 hL8
        · have HC := Lib.hid (show S1.counted last lt = (S1, []) by unfold Nd.counted; rw [if_neg hw, if_neg hl])
          rw [eq_false_of_ne_true hl]
          go_wp2_with fail
          go_ret
          rw [HS.out, ← HS1.out, HC.out]
          exact SendsR.none ⟨_, _, HN6.out⟩ HK6.out HL3.out
      · have HS := Lib.hid (show presayN S x last lt = (S, []) by unfold presayN; rw [if_neg (fun h => by rw [HY.out] at h; exact absurd h.2 (by decide)), if_neg (fun h => h.2.elim (fun h => by rw [HY.out] at h; exact absurd h (by decide)) hte)])
        have e3 : (x.term != S.term + 1) = true := by simp [hte]
        clear hr hte
        go_enter Try.func47, Try.ntmps47
        go_wp2_with fail
        rw [← HW0.out]
        refine wp_region_in (Below w0.heap.size w0) (fun _ => false) (by kernel_rfl) (by kernel_rfl) (by exact hb.drew) ?_
        intro hne hx
        replace hb := hb.drew
        change wpStg _ _ _ _ _ _ _ _ w0.drew
        obtain ⟨V1, hWq⟩ : ∃ V1, V1 = w0.drew := ⟨_, rfl⟩
        rw [← hWq] at hb ⊢
        clear hWq
        refine stg_seg 13 (by dsimp only [List.take]) (by dsimp only [List.drop]) (by rfl) ?_
        repeat (go_big_quiet_step (fail))
        refine wpQuiet_nil ?_
        refine stg_nil ?_
        clear hne hx
        go_wp2_with fail
        refine wp_region_in (Below w0.heap.size w0) (fun _ => false) (by kernel_rfl) (by kernel_rfl) (by exact hb.drew) ?_
        intro hne hx
        replace hb := hb.drew
        change wpStg _ _ _ _ _ _ _ _ V1.drew
        obtain ⟨V2, hWq⟩ : ∃ V2, V2 = V1.drew := ⟨_, rfl⟩
        rw [← hWq] at hb ⊢
        clear hWq
        refine stg_seg 20 (by dsimp only [List.take]) (by dsimp only [List.drop]) (by rfl) ?_
        repeat (go_big_quiet_step (fail))
        refine wpQuiet_nil ?_
        refine stg_nil ?_
        clear hne hx
        go_wp2_with fail
        go_ret
        rw [HS.out]
        exact SendsR.none ⟨_, _, HN0.out.below hb⟩ (.of_below (bl_trans HB0.out hb)) (fun x hx => .inl hx)
    · have HS := Lib.hid (show presayN S x last lt = (S, []) by unfold presayN; rw [if_neg (fun h => by rw [HY.out] at h; exact absurd h.2 (by decide)), if_neg (fun h => hr h.1)])
      have e2 : (S.role != 1) = true := by simp [hr]
      clear hr
      go_enter Try.func47, Try.ntmps47
      go_wp2_with fail
      rw [← HW0.out]
      refine wp_region_in (Below w0.heap.size w0) (fun _ => false) (by kernel_rfl) (by kernel_rfl) (by exact hb.drew) ?_
      intro hne hx
      replace hb := hb.drew
      change wpStg _ _ _ _ _ _ _ _ w0.drew
      obtain ⟨V1, hWq⟩ : ∃ V1, V1 = w0.drew := ⟨_, rfl⟩
      rw [← hWq] at hb ⊢
      clear hWq
      refine stg_seg 13 (by dsimp only [List.take]) (by dsimp only [List.drop]) (by rfl) ?_
      repeat (go_big_quiet_step (fail))
      refine wpQuiet_nil ?_
      refine stg_nil ?_
      clear hne hx
      go_wp2_with fail
      refine wp_region_in (Below w0.heap.size w0) (fun _ => false) (by kernel_rfl) (by kernel_rfl) (by exact hb.drew) ?_
      intro hne hx
      replace hb := hb.drew
      change wpStg _ _ _ _ _ _ _ _ V1.drew
      obtain ⟨V2, hWq⟩ : ∃ V2, V2 = V1.drew := ⟨_, rfl⟩
      rw [← hWq] at hb ⊢
      clear hWq
      refine stg_seg 20 (by dsimp only [List.take]) (by dsimp only [List.drop]) (by rfl) ?_
      repeat (go_big_quiet_step (fail))
      refine wpQuiet_nil ?_
      refine stg_nil ?_
      clear hne hx
      go_wp2_with fail
      go_ret
      rw [HS.out]
      exact SendsR.none ⟨_, _, HN0.out.below hb⟩ (.of_below (bl_trans HB0.out hb)) (fun x hx => .inl hx)
end Go.Proofs.Ytiamfdnllpiikaa
