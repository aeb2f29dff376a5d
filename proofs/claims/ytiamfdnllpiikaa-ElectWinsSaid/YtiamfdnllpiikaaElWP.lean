/- The group: play. Conditions: none. -/
import Derived.Deep.DeepCutAuto
import Derived.Test.YtiamfdnllpiikaaElWC
import Derived.Test.YtiamfdnllpiikaaElNew
import Derived.Test.YtiamfdnllpiikaaElHeard
namespace Go.Proofs.Ytiamfdnllpiikaa
open Go.RowKit

structure EvV where
  act : Int
  who : Int
  n : Int
  draw : Int
def EvV.c (x : EvV) : List Value := [.int .i64 x.act, .int .i64 x.who, .int .i64 x.n, .int .i64 x.draw]
instance : Inhabited EvV := ⟨⟨0, 0, 0, 0⟩⟩
/-- Whose turn it is. -/
def EvV.turn (x : EvV) (N : Nat) : Nat := (if Int.tmod x.who N < 0 then Int.tmod x.who N + N else Int.tmod x.who N).toNat
def PW.heard (P : PW) (k : Nat) (src term : Int) : PW := { P with ns := P.ns.set k ((P.at k).heard src term).1 }
def PW.renewed (P : PW) (k : Nat) (va : Option Addr) (vc : Nat) : PW := { P with ns := P.ns.set k (newNd ((k : Int) + 1) (P.at k).term (P.at k).vote 3 (vsL P.ns.length) [] va vc none 0) }
/-- What an event does. -/
def Played (P : PW) (x : EvV) (P' : PW) : Prop :=
  (x.act = 0 ∧ P' = P.tick (x.turn P.ns.length) x.draw) ∨
  (x.act = 1 ∧ 0 ≤ x.n ∧ x.n < P.sent.length ∧ P' = P.come (P.sent.getD x.n.toNat default)) ∨
  (x.act = 2 ∧ ∃ va vc, P' = P.renewed (x.turn P.ns.length) va vc) ∨
  (x.act = 3 ∧ 0 ≤ x.n ∧ x.n < P.leads.length ∧ P' = P.heard (x.turn P.ns.length) (P.leads.getD x.n.toNat (0, 0)).2 (P.leads.getD x.n.toNat (0, 0)).1) ∨
  (x.act ≠ 0 ∧ P' = P)
theorem turn_eq (x : EvV) {N : Nat} (hN : 0 < N) : x.turn N < N ∧ ((Int.tmod x.who N < 0 ∧ Int.tmod x.who N + (N : Int) = (x.turn N : Int)) ∨ (0 ≤ Int.tmod x.who N ∧ Int.tmod x.who N = (x.turn N : Int))) := by
  have h1 : Int.tmod x.who N < N := Int.tmod_lt_of_pos _ (by omega)
  have h2 : -(N : Int) < Int.tmod x.who N := by
    have h3 : Int.tmod (-x.who) N < N := Int.tmod_lt_of_pos _ (by omega)
    rw [Int.neg_tmod] at h3
    omega
  unfold EvV.turn
  split <;> omega
theorem row_at {X : GX} {k : Nat} (hk : k < X.ns.length) : (ptrs X.ns)[k]? = some (.pointer (some ⟨(X.at k).b, 0, none⟩)) := by
  unfold ptrs GX.at
  rw [List.getElem?_map, List.getD_eq_getElem?_getD, List.getElem?_eq_getElem hk]
  rfl
set_option maxRecDepth 100000 in
set_option maxHeartbeats 4000000 in
theorem play_k0 {B : Nat} {w : World} {wb : Nat} {X : GX} {R : RV} (h : WX B w wb X R) (x : EvV) (hs : ∀ i, i < X.ns.length → Sane (X.at i).S 900) (hsl : X.sent.length ≤ 1000000) (ha : x.act = 0) :
    Calls Try.prog 18 #[.pointer (some ⟨wb, 0, none⟩), .agg #[.int .i64 x.act, .int .i64 x.who, .int .i64 x.n, .int .i64 x.draw]] w fun e w' => e = .returned (.tuple #[]) ∧ (∃ P', WAt B w' wb P' ∧ Played X.pure x P') ∧ Below B w w' := by
  have HAC := Lib.hid ha
  clear ha
  have hb0 := bl_alloc (Below.refl w.heap.size w) (.cells #[.int .i64 x.act, .int .i64 x.who, .int .i64 x.n, .int .i64 x.draw] 59)
  have HB0 := Lib.hid hb0
  have hblk := blk_new w (.cells #[.int .i64 x.act, .int .i64 x.who, .int .i64 x.n, .int .i64 x.draw] 59) rfl
  have hlt := blk_lt h.blk
  have HBL := Lib.hid (show ∀ i, i < X.ns.length → ¬ w.heap.size ∈ (X.at i).L from fun i hi hm => by have := (h.node i hi).low _ hm; omega)
  have HSL := Lib.hid (fun g (hg : R.sv.ownBlock = some g) => (h.srow.lt g hg).2)
  have hwl := hlt
  have h0 := h.below hb0
  obtain ⟨w0, hw0⟩ : ∃ w0, w0 = w.alloc (.cells #[.int .i64 x.act, .int .i64 x.who, .int .i64 x.n, .int .i64 x.draw] 59) := ⟨_, rfl⟩
  rw [← hw0] at hb0 h0 hblk HB0
  have HW0 := Lib.hid hw0
  have HBK := Lib.hid hblk
  have HX := Lib.hid h0
  clear hblk hw0 hlt hb0 h
  obtain ⟨vv, nv, lv, sv, dv⟩ := R
  have hN0 : 0 < X.ns.length := by have := h0.m1; omega
  obtain ⟨gn, cn, hnv, _⟩ : ∃ gn cn, nv = .slice (some ⟨gn, 0, none⟩) X.ns.length cn ∧ B ≤ gn := row_some h0.nrow hN0
  obtain ⟨gl, cl, hlv, _⟩ : ∃ gl cl, lv = .slice (some ⟨gl, 0, none⟩) X.ns.length cl ∧ B ≤ gl := row_some h0.lrow hN0
  obtain ⟨sa, sc, hsv⟩ : ∃ sa sc, sv = .slice sa X.sent.length sc := own_slice h0.srow
  obtain ⟨da, dc, hdv⟩ : ∃ da dc, dv = .slice da X.leads.length dc := own_slice h0.drow
  subst hnv hlv hsv hdv
  have hBw : B ≤ w.heap.size := by have := HX.out.hB; have := hwl; omega
  have HBW := Lib.hid hBw
  obtain ⟨k, hk⟩ : ∃ k, k = x.turn X.ns.length := ⟨_, rfl⟩
  obtain ⟨r, hr⟩ : ∃ r, r = Int.tmod x.who (X.ns.length : Int) := ⟨_, rfl⟩
  have ht := turn_eq x hN0
  rw [← hk, ← hr] at ht
  obtain ⟨hkN, ht⟩ := ht
  have HK := Lib.hid hk
  have HKN := Lib.hid hkN
  obtain ⟨N, hN⟩ : ∃ N, N = X.ns.length := ⟨_, rfl⟩
  have hN7 : (N : Int) ≤ 7 := by have := HX.out.m7; omega
  have hN1 : (1 : Int) ≤ N := by omega
  have hr' : Int.tmod x.who (N : Int) = r := by rw [hN]; exact hr.symm
  rw [← hN] at ht
  have hkN' : (k : Int) < N := by omega
  have HNN := Lib.hid hN
  have HRR := Lib.hid hr'
  have q0 : ∀ W, Below w0.heap.size w0 W → W.cell? ⟨w.heap.size, 0, none⟩ = some (.int .i64 x.act) := fun W h => blk_cell (blk_below HBK.out h (blk_lt HBK.out)) 0
  have q1 : ∀ W, Below w0.heap.size w0 W → W.cell? ⟨w.heap.size, 1, none⟩ = some (.int .i64 x.who) := fun W h => blk_cell (blk_below HBK.out h (blk_lt HBK.out)) 1
  have q2 : ∀ W, Below w0.heap.size w0 W → W.cell? ⟨w.heap.size, 2, none⟩ = some (.int .i64 x.n) := fun W h => blk_cell (blk_below HBK.out h (blk_lt HBK.out)) 2
  have q3 : ∀ W, Below w0.heap.size w0 W → W.cell? ⟨w.heap.size, 3, none⟩ = some (.int .i64 x.draw) := fun W h => blk_cell (blk_below HBK.out h (blk_lt HBK.out)) 3
  have p2 : ∀ W, Below w0.heap.size w0 W → W.cell? ⟨wb, 2, none⟩ = some (.slice (some ⟨gn, 0, none⟩) N cn) := fun W h => by rw [HNN.out]; exact blk_cell (blk_below HX.out.blk h (blk_lt HX.out.blk)) 2
  have hb := Below.refl w0.heap.size w0
  clear h0 hN0 hBw hwl hk hr hkN hN
  go_enter Try.func18, Try.ntmps18
  go_wp2_with fail
  rw [← HW0.out]
  refine wp_region_in (Below w0.heap.size w0) (fun _ => false) (by kernel_rfl) (by kernel_rfl) (by exact hb.drew) ?_
  intro hne hx
  replace hb := hb.drew
  change wpStg _ _ _ _ _ _ _ _ w0.drew
  obtain ⟨V1, hV⟩ : ∃ V, V = w0.drew := ⟨_, rfl⟩
  rw [← hV] at hb ⊢
  clear hV
  refine stg_seg 9 (by dsimp only [List.take]) (by dsimp only [List.drop]) (by rfl) ?_
  repeat (go_big_quiet_step (fail))
  refine wpQuiet_nil ?_
  refine stg_nil ?_
  clear hne hx
  clear p2
  have HX1 := Lib.hid (HX.out.below hb)
  have HBK1 := Lib.hid (blk_below HBK.out hb (blk_lt HBK.out))
  have HB1 := Lib.hid hb
  have p2 : ∀ W, Below w0.heap.size w0 W → W.cell? ⟨wb, 2, none⟩ = some (.slice (some ⟨gn, 0, none⟩) N cn) := fun W h => by rw [HNN.out]; exact blk_cell (blk_below HX.out.blk h (blk_lt HX.out.blk)) 2
  rcases ht with ⟨h1, h2⟩ | ⟨h1, h2⟩
  · have d : decide (r < 0) = true := decide_eq_true h1
    go_upto_region 4 with fail
    clear d h1 h2 hr'
    have hkN := HKN.out
    obtain ⟨M, hM⟩ : ∃ M, M = (X.at k).L ++ (Value.slice sa X.sent.length sc).ownBlock.toList := ⟨_, rfl⟩
    have hmw : ¬ wb ∈ M := fun hm => by
      rw [hM] at hm
      rcases List.mem_append.1 hm with hm | hm
      · exact (HX.out.out k hkN wb hm).2.1 rfl
      · exact row_wb HX.out.srow HX.out.blk (by decide) (by simpa using hm)
    have HMW := Lib.hid hmw
    have hmn : ¬ gn ∈ M := fun hm => by
      rw [hM] at hm
      rcases List.mem_append.1 hm with hm | hm
      · exact (HX.out.out k hkN gn hm).2.2 _ (by simp [RV.all]; exact .inr (.inl rfl)) rfl
      · exact row_ne HX.out.srow HX.out.nrow (by decide) (by simpa using hm) rfl
    have HMN := Lib.hid hmn
    have hml : ¬ gl ∈ M := fun hm => by
      rw [hM] at hm
      rcases List.mem_append.1 hm with hm | hm
      · exact (HX.out.out k hkN gl hm).2.2 _ (by simp [RV.all]; exact .inr (.inr (.inl rfl))) rfl
      · exact row_ne HX.out.srow HX.out.lrow (by decide) (by simpa using hm) rfl
    have HML := Lib.hid hml
    have hmb : ¬ w.heap.size ∈ M := fun hm => by
      rw [hM] at hm
      rcases List.mem_append.1 hm with hm | hm
      · exact HBL.out k hkN hm
      · have := HSL.out w.heap.size (by simpa using hm); omega
    have HMB := Lib.hid hmb
    obtain ⟨lg, hlg⟩ : ∃ lg, lg = X.logs.getD k (0, 0) := ⟨_, rfl⟩
    have hpg := pairs_get (l := X.logs) (i := k) (by rw [HX.out.ll]; exact hkN)
    rw [← hlg] at hpg
    have hpt := row_at hkN
    obtain ⟨p, hp⟩ : ∃ p, p = X.at k := ⟨_, rfl⟩
    rw [← hp] at hpt hM
    have HM := Lib.hid hM
    have HP := Lib.hid hp
    have HPG := Lib.hid hpg
    have HPT := Lib.hid hpt
    have HLG := Lib.hid hlg
    clear hkN hM hmw hmn hml hmb hlg hpg hpt hp
    have hk2 : (0 : Int) ≤ (k : Int) := by omega
    have HS := Lib.hid (hs k HKN.out)
    have HVS := Lib.hid (show ((X.at k).S.tick x.draw lg.1 lg.2).2.length ≤ 8 by
      have h1 := tick_len (S := (X.at k).S) x.draw lg.1 lg.2
      rw [HX.out.vs k HKN.out, vsL_len] at h1
      have := HX.out.m7
      omega)
    have e0 : (x.act == 0) = true := by simp [HAC.out]
    have p1 : ∀ W, Chg M V1 W → W.cell? ⟨wb, 2, none⟩ = some (.slice (some ⟨gn, 0, none⟩) N cn) := fun W h => by rw [HNN.out]; exact blk_cell (h.blk HX1.out.blk HMW.out) 2
    have p3 : ∀ W, Chg M V1 W → W.cell? ⟨wb, 3, none⟩ = some (.slice (some ⟨gl, 0, none⟩) N cl) := fun W h => by rw [HNN.out]; exact blk_cell (h.blk HX1.out.blk HMW.out) 3
    have p4 : ∀ W, Chg M V1 W → W.cell? ⟨wb, 4, none⟩ = some (.slice sa X.sent.length sc) := fun W h => blk_cell (h.blk HX1.out.blk HMW.out) 4
    have pn : ∀ W, Chg M V1 W → W.cell? ⟨gn, k, none⟩ = some (.pointer (some ⟨p.b, 0, none⟩)) := fun W h => h.cell (row_cell HX1.out.nrow HPT.out) HMN.out
    have pl : ∀ W, Chg M V1 W → W.cell? ⟨gl, k * 2, none⟩ = some (.int .i64 lg.1) := fun W h => h.cell (row_cell HX1.out.lrow HPG.out.1) HML.out
    have pm : ∀ W, Chg M V1 W → W.cell? ⟨gl, k * 2 + 1, none⟩ = some (.int .i64 lg.2) := fun W h => h.cell (row_cell HX1.out.lrow HPG.out.2) HML.out
    have b3 : ∀ W, Chg M V1 W → W.cell? ⟨w.heap.size, 3, none⟩ = some (.int .i64 x.draw) := fun W h => blk_cell (h.blk HBK1.out HMB.out) 3
    go_upto_region 6 with fail
    clear q0 q1 q2 q3 p2 hb
    refine wp_region_last 34 (Chg M V1) (fun i => i == 30 || i == 31) (by kernel_rfl) (by rfl) (by kernel_rfl) (by kernel_rfl) (by exact (Chg.refl M V1).drew) ?_
    simp only [List.take_succ_cons, List.take_zero]
    intro hne hx
    change wpStg _ _ _ _ _ _ _ _ V1.drew
    have hc : Chg M V1 V1.drew := (Chg.refl M V1).drew
    have hbV : Below V1.heap.size V1 V1.drew := (Below.refl _ V1).drew
    obtain ⟨V2, hV⟩ : ∃ V, V = V1.drew := ⟨_, rfl⟩
    rw [← hV] at hc hbV ⊢
    have HX2 := Lib.hid (HX1.out.below hbV)
    have HBV := Lib.hid hbV
    clear hV hbV
    refine stg_seg 30 (by dsimp only [List.take]) (by dsimp only [List.drop]) (by rfl) ?_
    repeat (go_big_quiet_step (fail))
    refine wpQuiet_nil ?_
    refine stg_loud (by rfl) ?_
    go_wp2_with fail
    have hS := HS.out
    rw [← HP.out] at hS
    refine (tick_at (by have := HX2.out.node k HKN.out; rw [← HP.out] at this; exact this) hS.t0 hS.t9 (by have := hS.vl; omega) hS.w0 (by have := hS.w9; omega) hS.p1 hS.p9 x.draw lg.1 lg.2).mono ?_
    rintro e w2 ⟨v, rfl, L', hN2, k2, hL2, hv2, ho2⟩
    clear hS
    have k2' := k2.wider (L' := M) (fun y hy => by rw [HM.out]; exact List.mem_append_left _ hy)
    have hX3 := HX2.out.move HKN.out (S' := (p.S.tick x.draw lg.1 lg.2).1) (L' := L') (by rw [← HP.out]; exact hN2) (by rw [← HP.out]; exact k2) (by rw [← HP.out]; exact hL2) (by rw [← HP.out]; exact tick_g p.S x.draw lg.1 lg.2)
    replace hc := hc.trans k2'
    have HX3 := Lib.hid hX3
    have HK2 := Lib.hid k2
    have HV2 := Lib.hid hv2
    clear k2' k2 hL2 hN2 hv2 ho2 hX3
    go_wp2_with fail
    refine lq_in rfl (hc) ?_
    refine stg_loud (by rfl) ?_
    go_wp2_with (at_builtin; go_loud (refine wpList_apps rfl _ _ 32 rfl B 44 Try.underlying32 Try.infoBal rfl (by decide) rfl HX3.out.srow rfl HV2.out balsC_one (by have := HVS.out; rw [← HP.out] at this; unfold maxLen; show X.sent.length + _ ≤ _; omega) (by have := HVS.out; rw [← HP.out] at this; show (X.sent.length + _) * 56 ≤ _; omega) (by have h1 := HX3.out.hB; have h2 := blk_lt HX3.out.blk; omega) ?_); intro v1 w4 hown1 hgrow hat1)
    replace hgrow : w2.grownBy w4 (Value.slice sa X.sent.length sc).ownBlock := hgrow
    obtain ⟨va1, vc1, rfl⟩ := own_slice hown1
    have HOW := Lib.hid hown1
    have HGR := Lib.hid hgrow
    have HAT := Lib.hid hat1
    have hb4 : w4.heap[wb]? = some (.cells #[vv, .slice none 0 0, .slice (some ⟨gn, 0, none⟩) X.ns.length cn, .slice (some ⟨gl, 0, none⟩) X.ns.length cl, .slice sa X.sent.length sc, .slice da X.leads.length dc] 56 (0, 0)) :=
      (hgrow.block wb (blk_lt HX3.out.blk) (Ne.symm (row_wb HX3.out.srow HX3.out.blk (by decide)))).trans HX3.out.blk
    have hfr := blk_frozen hb4
    have d4 := blk_cell hb4 4
    simp only [List.getElem?_toArray, List.getElem?_cons_zero, List.getElem?_cons_succ] at d4
    have hc4 : Chg M V1 w4 := hc.grown hgrow (fun g hg => .inl (by rw [HM.out]; exact List.mem_append_right _ (by rw [hg]; simp)))
    clear hown1 hgrow hat1 hb4 hc
    refine lq_in rfl (hc4) ?_
    clear hc4
    refine stg_seg 2 (by dsimp only [List.take]) (by dsimp only [List.drop]) (by rfl) ?_
    repeat (go_big_quiet_step (fail))
    refine wpQuiet_nil ?_
    refine stg_nil ?_
    clear hne hx
    intro _ hxx
    clear hxx p1 p3 p4 pn pl pm b3
    go_wp2_with fail
    try simp only [Exit.inBlock, Exit.then]
    first
      | refine bodyPost_end (results_none rfl _ _ _) rfl ?_
      | refine bodyPost_ret (results_none rfl _ _ _) rfl ?_
    have hW := HX3.out.sentMore HOW.out HGR.out HAT.out
    refine ⟨rfl, ⟨_, ⟨_, _, hW, rfl⟩, .inl ⟨HAC.out, ?_⟩⟩, ?_⟩
    · refine (pure_set X k _ _).trans ?_
      rw [pure_len, ← HK.out]
      unfold PW.tick PW.log
      rw [pure_at HKN.out, ← HP.out, show X.pure.logs = X.logs from rfl, ← HLG.out]
    · have h1 : Below B w V1 := (bl_trans HB0.out HB1.out).mono HBW.out
      have hs1 := HBV.out.size
      have hs2 := HB1.out.size
      have hs0 := HB0.out.size
      have hBw := HBW.out
      have h2 : Below B V1 V2 := HBV.out.mono (by omega)
      have h3 : Below B V2 w2 := HK2.out.to_below (by omega) (fun y hy => (HX2.out.out k HKN.out y (by rw [← HP.out]; exact hy)).1)
      have h4 : Below B w2 w4 := own_below HX3.out.srow HGR.out (by have := HK2.out.size; omega)
      exact (((h1.trans h2).trans h3).trans h4).trans (Below.setCell (Below.refl B w4) HX3.out.hB _)
  · have d : decide (r < 0) = false := decide_eq_false (by omega)
    subst h2
    go_upto_region 4 with fail
    clear d h1 hr'
    have hkN := HKN.out
    obtain ⟨M, hM⟩ : ∃ M, M = (X.at k).L ++ (Value.slice sa X.sent.length sc).ownBlock.toList := ⟨_, rfl⟩
    have hmw : ¬ wb ∈ M := fun hm => by
      rw [hM] at hm
      rcases List.mem_append.1 hm with hm | hm
      · exact (HX.out.out k hkN wb hm).2.1 rfl
      · exact row_wb HX.out.srow HX.out.blk (by decide) (by simpa using hm)
    have HMW := Lib.hid hmw
    have hmn : ¬ gn ∈ M := fun hm => by
      rw [hM] at hm
      rcases List.mem_append.1 hm with hm | hm
      · exact (HX.out.out k hkN gn hm).2.2 _ (by simp [RV.all]; exact .inr (.inl rfl)) rfl
      · exact row_ne HX.out.srow HX.out.nrow (by decide) (by simpa using hm) rfl
    have HMN := Lib.hid hmn
    have hml : ¬ gl ∈ M := fun hm => by
      rw [hM] at hm
      rcases List.mem_append.1 hm with hm | hm
      · exact (HX.out.out k hkN gl hm).2.2 _ (by simp [RV.all]; exact .inr (.inr (.inl rfl))) rfl
      · exact row_ne HX.out.srow HX.out.lrow (by decide) (by simpa using hm) rfl
    have HML := Lib.hid hml
    have hmb : ¬ w.heap.size ∈ M := fun hm => by
      rw [hM] at hm
      rcases List.mem_append.1 hm with hm | hm
      · exact HBL.out k hkN hm
      · have := HSL.out w.heap.size (by simpa using hm); omega
    have HMB := Lib.hid hmb
    obtain ⟨lg, hlg⟩ : ∃ lg, lg = X.logs.getD k (0, 0) := ⟨_, rfl⟩
    have hpg := pairs_get (l := X.logs) (i := k) (by rw [HX.out.ll]; exact hkN)
    rw [← hlg] at hpg
    have hpt := row_at hkN
    obtain ⟨p, hp⟩ : ∃ p, p = X.at k := ⟨_, rfl⟩
    rw [← hp] at hpt hM
    have HM := Lib.hid hM
    have HP := Lib.hid hp
    have HPG := Lib.hid hpg
    have HPT := Lib.hid hpt
    have HLG := Lib.hid hlg
    clear hkN hM hmw hmn hml hmb hlg hpg hpt hp
    have hk2 : (0 : Int) ≤ (k : Int) := by omega
    have HS := Lib.hid (hs k HKN.out)
    have HVS := Lib.hid (show ((X.at k).S.tick x.draw lg.1 lg.2).2.length ≤ 8 by
      have h1 := tick_len (S := (X.at k).S) x.draw lg.1 lg.2
      rw [HX.out.vs k HKN.out, vsL_len] at h1
      have := HX.out.m7
      omega)
    have e0 : (x.act == 0) = true := by simp [HAC.out]
    have p1 : ∀ W, Chg M V1 W → W.cell? ⟨wb, 2, none⟩ = some (.slice (some ⟨gn, 0, none⟩) N cn) := fun W h => by rw [HNN.out]; exact blk_cell (h.blk HX1.out.blk HMW.out) 2
    have p3 : ∀ W, Chg M V1 W → W.cell? ⟨wb, 3, none⟩ = some (.slice (some ⟨gl, 0, none⟩) N cl) := fun W h => by rw [HNN.out]; exact blk_cell (h.blk HX1.out.blk HMW.out) 3
    have p4 : ∀ W, Chg M V1 W → W.cell? ⟨wb, 4, none⟩ = some (.slice sa X.sent.length sc) := fun W h => blk_cell (h.blk HX1.out.blk HMW.out) 4
    have pn : ∀ W, Chg M V1 W → W.cell? ⟨gn, k, none⟩ = some (.pointer (some ⟨p.b, 0, none⟩)) := fun W h => h.cell (row_cell HX1.out.nrow HPT.out) HMN.out
    have pl : ∀ W, Chg M V1 W → W.cell? ⟨gl, k * 2, none⟩ = some (.int .i64 lg.1) := fun W h => h.cell (row_cell HX1.out.lrow HPG.out.1) HML.out
    have pm : ∀ W, Chg M V1 W → W.cell? ⟨gl, k * 2 + 1, none⟩ = some (.int .i64 lg.2) := fun W h => h.cell (row_cell HX1.out.lrow HPG.out.2) HML.out
    have b3 : ∀ W, Chg M V1 W → W.cell? ⟨w.heap.size, 3, none⟩ = some (.int .i64 x.draw) := fun W h => blk_cell (h.blk HBK1.out HMB.out) 3
    go_upto_region 6 with fail
    clear q0 q1 q2 q3 p2 hb
    refine wp_region_last 34 (Chg M V1) (fun i => i == 30 || i == 31) (by kernel_rfl) (by rfl) (by kernel_rfl) (by kernel_rfl) (by exact (Chg.refl M V1).drew) ?_
    simp only [List.take_succ_cons, List.take_zero]
    intro hne hx
    change wpStg _ _ _ _ _ _ _ _ V1.drew
    have hc : Chg M V1 V1.drew := (Chg.refl M V1).drew
    have hbV : Below V1.heap.size V1 V1.drew := (Below.refl _ V1).drew
    obtain ⟨V2, hV⟩ : ∃ V, V = V1.drew := ⟨_, rfl⟩
    rw [← hV] at hc hbV ⊢
    have HX2 := Lib.hid (HX1.out.below hbV)
    have HBV := Lib.hid hbV
    clear hV hbV
    refine stg_seg 30 (by dsimp only [List.take]) (by dsimp only [List.drop]) (by rfl) ?_
    repeat (go_big_quiet_step (fail))
    refine wpQuiet_nil ?_
    refine stg_loud (by rfl) ?_
    go_wp2_with fail
    have hS := HS.out
    rw [← HP.out] at hS
    refine (tick_at (by have := HX2.out.node k HKN.out; rw [← HP.out] at this; exact this) hS.t0 hS.t9 (by have := hS.vl; omega) hS.w0 (by have := hS.w9; omega) hS.p1 hS.p9 x.draw lg.1 lg.2).mono ?_
    rintro e w2 ⟨v, rfl, L', hN2, k2, hL2, hv2, ho2⟩
    clear hS
    have k2' := k2.wider (L' := M) (fun y hy => by rw [HM.out]; exact List.mem_append_left _ hy)
    have hX3 := HX2.out.move HKN.out (S' := (p.S.tick x.draw lg.1 lg.2).1) (L' := L') (by rw [← HP.out]; exact hN2) (by rw [← HP.out]; exact k2) (by rw [← HP.out]; exact hL2) (by rw [← HP.out]; exact tick_g p.S x.draw lg.1 lg.2)
    replace hc := hc.trans k2'
    have HX3 := Lib.hid hX3
    have HK2 := Lib.hid k2
    have HV2 := Lib.hid hv2
    clear k2' k2 hL2 hN2 hv2 ho2 hX3
    go_wp2_with fail
    refine lq_in rfl (hc) ?_
    refine stg_loud (by rfl) ?_
    go_wp2_with (at_builtin; go_loud (refine wpList_apps rfl _ _ 32 rfl B 44 Try.underlying32 Try.infoBal rfl (by decide) rfl HX3.out.srow rfl HV2.out balsC_one (by have := HVS.out; rw [← HP.out] at this; unfold maxLen; show X.sent.length + _ ≤ _; omega) (by have := HVS.out; rw [← HP.out] at this; show (X.sent.length + _) * 56 ≤ _; omega) (by have h1 := HX3.out.hB; have h2 := blk_lt HX3.out.blk; omega) ?_); intro v1 w4 hown1 hgrow hat1)
    replace hgrow : w2.grownBy w4 (Value.slice sa X.sent.length sc).ownBlock := hgrow
    obtain ⟨va1, vc1, rfl⟩ := own_slice hown1
    have HOW := Lib.hid hown1
    have HGR := Lib.hid hgrow
    have HAT := Lib.hid hat1
    have hb4 : w4.heap[wb]? = some (.cells #[vv, .slice none 0 0, .slice (some ⟨gn, 0, none⟩) X.ns.length cn, .slice (some ⟨gl, 0, none⟩) X.ns.length cl, .slice sa X.sent.length sc, .slice da X.leads.length dc] 56 (0, 0)) :=
      (hgrow.block wb (blk_lt HX3.out.blk) (Ne.symm (row_wb HX3.out.srow HX3.out.blk (by decide)))).trans HX3.out.blk
    have hfr := blk_frozen hb4
    have d4 := blk_cell hb4 4
    simp only [List.getElem?_toArray, List.getElem?_cons_zero, List.getElem?_cons_succ] at d4
    have hc4 : Chg M V1 w4 := hc.grown hgrow (fun g hg => .inl (by rw [HM.out]; exact List.mem_append_right _ (by rw [hg]; simp)))
    clear hown1 hgrow hat1 hb4 hc
    refine lq_in rfl (hc4) ?_
    clear hc4
    refine stg_seg 2 (by dsimp only [List.take]) (by dsimp only [List.drop]) (by rfl) ?_
    repeat (go_big_quiet_step (fail))
    refine wpQuiet_nil ?_
    refine stg_nil ?_
    clear hne hx
    intro _ hxx
    clear hxx p1 p3 p4 pn pl pm b3
    go_wp2_with fail
    try simp only [Exit.inBlock, Exit.then]
    first
      | refine bodyPost_end (results_none rfl _ _ _) rfl ?_
      | refine bodyPost_ret (results_none rfl _ _ _) rfl ?_
    have hW := HX3.out.sentMore HOW.out HGR.out HAT.out
    refine ⟨rfl, ⟨_, ⟨_, _, hW, rfl⟩, .inl ⟨HAC.out, ?_⟩⟩, ?_⟩
    · refine (pure_set X k _ _).trans ?_
      rw [pure_len, ← HK.out]
      unfold PW.tick PW.log
      rw [pure_at HKN.out, ← HP.out, show X.pure.logs = X.logs from rfl, ← HLG.out]
    · have h1 : Below B w V1 := (bl_trans HB0.out HB1.out).mono HBW.out
      have hs1 := HBV.out.size
      have hs2 := HB1.out.size
      have hs0 := HB0.out.size
      have hBw := HBW.out
      have h2 : Below B V1 V2 := HBV.out.mono (by omega)
      have h3 : Below B V2 w2 := HK2.out.to_below (by omega) (fun y hy => (HX2.out.out k HKN.out y (by rw [← HP.out]; exact hy)).1)
      have h4 : Below B w2 w4 := own_below HX3.out.srow HGR.out (by have := HK2.out.size; omega)
      exact (((h1.trans h2).trans h3).trans h4).trans (Below.setCell (Below.refl B w4) HX3.out.hB _)
set_option maxRecDepth 100000 in
set_option maxHeartbeats 4000000 in
theorem play_k4 {B : Nat} {w : World} {wb : Nat} {X : GX} {R : RV} (h : WX B w wb X R) (x : EvV) (h0 : ¬ x.act = 0) (h1 : ¬ x.act = 1) (h2 : ¬ x.act = 2) (h3 : ¬ x.act = 3) :
    Calls Try.prog 18 #[.pointer (some ⟨wb, 0, none⟩), .agg #[.int .i64 x.act, .int .i64 x.who, .int .i64 x.n, .int .i64 x.draw]] w fun e w' => e = .returned (.tuple #[]) ∧ (∃ P', WAt B w' wb P' ∧ Played X.pure x P') ∧ Below B w w' := by
  have HA0 := Lib.hid h0
  have e0 : (x.act == 0) = false := by simp [h0]
  have e1 : (x.act == 1) = false := by simp [h1]
  have e2 : (x.act == 2) = false := by simp [h2]
  have e3 : (x.act == 3) = false := by simp [h3]
  clear h0 h1 h2 h3
  have hb0 := bl_alloc (Below.refl w.heap.size w) (.cells #[.int .i64 x.act, .int .i64 x.who, .int .i64 x.n, .int .i64 x.draw] 59)
  have HB0 := Lib.hid hb0
  have hblk := blk_new w (.cells #[.int .i64 x.act, .int .i64 x.who, .int .i64 x.n, .int .i64 x.draw] 59) rfl
  have hlt := blk_lt h.blk
  have HBL := Lib.hid (show ∀ i, i < X.ns.length → ¬ w.heap.size ∈ (X.at i).L from fun i hi hm => by have := (h.node i hi).low _ hm; omega)
  have HSL := Lib.hid (fun g (hg : R.sv.ownBlock = some g) => (h.srow.lt g hg).2)
  have hwl := hlt
  have h0 := h.below hb0
  obtain ⟨w0, hw0⟩ : ∃ w0, w0 = w.alloc (.cells #[.int .i64 x.act, .int .i64 x.who, .int .i64 x.n, .int .i64 x.draw] 59) := ⟨_, rfl⟩
  rw [← hw0] at hb0 h0 hblk HB0
  have HW0 := Lib.hid hw0
  have HBK := Lib.hid hblk
  have HX := Lib.hid h0
  clear hblk hw0 hlt hb0 h
  obtain ⟨vv, nv, lv, sv, dv⟩ := R
  have hN0 : 0 < X.ns.length := by have := h0.m1; omega
  obtain ⟨gn, cn, hnv, _⟩ : ∃ gn cn, nv = .slice (some ⟨gn, 0, none⟩) X.ns.length cn ∧ B ≤ gn := row_some h0.nrow hN0
  obtain ⟨gl, cl, hlv, _⟩ : ∃ gl cl, lv = .slice (some ⟨gl, 0, none⟩) X.ns.length cl ∧ B ≤ gl := row_some h0.lrow hN0
  obtain ⟨sa, sc, hsv⟩ : ∃ sa sc, sv = .slice sa X.sent.length sc := own_slice h0.srow
  obtain ⟨da, dc, hdv⟩ : ∃ da dc, dv = .slice da X.leads.length dc := own_slice h0.drow
  subst hnv hlv hsv hdv
  have hBw : B ≤ w.heap.size := by have := HX.out.hB; have := hwl; omega
  have HBW := Lib.hid hBw
  obtain ⟨k, hk⟩ : ∃ k, k = x.turn X.ns.length := ⟨_, rfl⟩
  obtain ⟨r, hr⟩ : ∃ r, r = Int.tmod x.who (X.ns.length : Int) := ⟨_, rfl⟩
  have ht := turn_eq x hN0
  rw [← hk, ← hr] at ht
  obtain ⟨hkN, ht⟩ := ht
  have HK := Lib.hid hk
  have HKN := Lib.hid hkN
  obtain ⟨N, hN⟩ : ∃ N, N = X.ns.length := ⟨_, rfl⟩
  have hN7 : (N : Int) ≤ 7 := by have := HX.out.m7; omega
  have hN1 : (1 : Int) ≤ N := by omega
  have hr' : Int.tmod x.who (N : Int) = r := by rw [hN]; exact hr.symm
  rw [← hN] at ht
  have hkN' : (k : Int) < N := by omega
  have HNN := Lib.hid hN
  have HRR := Lib.hid hr'
  have q0 : ∀ W, Below w0.heap.size w0 W → W.cell? ⟨w.heap.size, 0, none⟩ = some (.int .i64 x.act) := fun W h => blk_cell (blk_below HBK.out h (blk_lt HBK.out)) 0
  have q1 : ∀ W, Below w0.heap.size w0 W → W.cell? ⟨w.heap.size, 1, none⟩ = some (.int .i64 x.who) := fun W h => blk_cell (blk_below HBK.out h (blk_lt HBK.out)) 1
  have q2 : ∀ W, Below w0.heap.size w0 W → W.cell? ⟨w.heap.size, 2, none⟩ = some (.int .i64 x.n) := fun W h => blk_cell (blk_below HBK.out h (blk_lt HBK.out)) 2
  have q3 : ∀ W, Below w0.heap.size w0 W → W.cell? ⟨w.heap.size, 3, none⟩ = some (.int .i64 x.draw) := fun W h => blk_cell (blk_below HBK.out h (blk_lt HBK.out)) 3
  have p2 : ∀ W, Below w0.heap.size w0 W → W.cell? ⟨wb, 2, none⟩ = some (.slice (some ⟨gn, 0, none⟩) N cn) := fun W h => by rw [HNN.out]; exact blk_cell (blk_below HX.out.blk h (blk_lt HX.out.blk)) 2
  have hb := Below.refl w0.heap.size w0
  clear h0 hN0 hBw hwl hk hr hkN hN
  go_enter Try.func18, Try.ntmps18
  go_wp2_with fail
  rw [← HW0.out]
  refine wp_region_in (Below w0.heap.size w0) (fun _ => false) (by kernel_rfl) (by kernel_rfl) (by exact hb.drew) ?_
  intro hne hx
  replace hb := hb.drew
  change wpStg _ _ _ _ _ _ _ _ w0.drew
  obtain ⟨V1, hV⟩ : ∃ V, V = w0.drew := ⟨_, rfl⟩
  rw [← hV] at hb ⊢
  clear hV
  refine stg_seg 9 (by dsimp only [List.take]) (by dsimp only [List.drop]) (by rfl) ?_
  repeat (go_big_quiet_step (fail))
  refine wpQuiet_nil ?_
  refine stg_nil ?_
  clear hne hx
  clear p2
  have HX1 := Lib.hid (HX.out.below hb)
  have HBK1 := Lib.hid (blk_below HBK.out hb (blk_lt HBK.out))
  have HB1 := Lib.hid hb
  have p2 : ∀ W, Below w0.heap.size w0 W → W.cell? ⟨wb, 2, none⟩ = some (.slice (some ⟨gn, 0, none⟩) N cn) := fun W h => by rw [HNN.out]; exact blk_cell (blk_below HX.out.blk h (blk_lt HX.out.blk)) 2
  rcases ht with ⟨h1, h2⟩ | ⟨h1, h2⟩
  · have d : decide (r < 0) = true := decide_eq_true h1
    go_upto_region 4 with fail
    clear d h1 h2 hr'
    go_wp2_with fail
    try simp only [Exit.inBlock, Exit.then]
    first
      | refine bodyPost_end (results_none rfl _ _ _) rfl ?_
      | refine bodyPost_ret (results_none rfl _ _ _) rfl ?_
    exact ⟨rfl, ⟨X.pure, ⟨X, _, HX.out.below hb, rfl⟩, .inr (.inr (.inr (.inr ⟨HA0.out, rfl⟩)))⟩, (bl_trans HB0.out hb).mono HBW.out⟩
  · have d : decide (r < 0) = false := decide_eq_false (by omega)
    subst h2
    go_upto_region 4 with fail
    clear d h1 hr'
    go_wp2_with fail
    try simp only [Exit.inBlock, Exit.then]
    first
      | refine bodyPost_end (results_none rfl _ _ _) rfl ?_
      | refine bodyPost_ret (results_none rfl _ _ _) rfl ?_
    exact ⟨rfl, ⟨X.pure, ⟨X, _, HX.out.below hb, rfl⟩, .inr (.inr (.inr (.inr ⟨HA0.out, rfl⟩)))⟩, (bl_trans HB0.out hb).mono HBW.out⟩
set_option maxRecDepth 100000 in
set_option maxHeartbeats 4000000 in
theorem play_k1 {B : Nat} {w : World} {wb : Nat} {X : GX} {R : RV} (h : WX B w wb X R) (x : EvV) (hs : ∀ i, i < X.ns.length → Sane (X.at i).S 900) (hsl : X.sent.length ≤ 1000000) (ha : x.act = 1) :
    Calls Try.prog 18 #[.pointer (some ⟨wb, 0, none⟩), .agg #[.int .i64 x.act, .int .i64 x.who, .int .i64 x.n, .int .i64 x.draw]] w fun e w' => e = .returned (.tuple #[]) ∧ (∃ P', WAt B w' wb P' ∧ Played X.pure x P') ∧ Below B w w' := by
  have HAC := Lib.hid ha
  have HA0 := Lib.hid (show x.act ≠ 0 by omega)
  have HSLEN := Lib.hid hsl
  have e0 : (x.act == 0) = false := by simp [ha]
  have e1 : (x.act == 1) = true := by simp [ha]
  clear ha hsl
  have hb0 := bl_alloc (Below.refl w.heap.size w) (.cells #[.int .i64 x.act, .int .i64 x.who, .int .i64 x.n, .int .i64 x.draw] 59)
  have HB0 := Lib.hid hb0
  have hblk := blk_new w (.cells #[.int .i64 x.act, .int .i64 x.who, .int .i64 x.n, .int .i64 x.draw] 59) rfl
  have hlt := blk_lt h.blk
  have HBL := Lib.hid (show ∀ i, i < X.ns.length → ¬ w.heap.size ∈ (X.at i).L from fun i hi hm => by have := (h.node i hi).low _ hm; omega)
  have HSL := Lib.hid (fun g (hg : R.sv.ownBlock = some g) => (h.srow.lt g hg).2)
  have hwl := hlt
  have h0 := h.below hb0
  obtain ⟨w0, hw0⟩ : ∃ w0, w0 = w.alloc (.cells #[.int .i64 x.act, .int .i64 x.who, .int .i64 x.n, .int .i64 x.draw] 59) := ⟨_, rfl⟩
  rw [← hw0] at hb0 h0 hblk HB0
  have HW0 := Lib.hid hw0
  have HBK := Lib.hid hblk
  have HX := Lib.hid h0
  clear hblk hw0 hlt hb0 h
  obtain ⟨vv, nv, lv, sv, dv⟩ := R
  have hN0 : 0 < X.ns.length := by have := h0.m1; omega
  obtain ⟨gn, cn, hnv, _⟩ : ∃ gn cn, nv = .slice (some ⟨gn, 0, none⟩) X.ns.length cn ∧ B ≤ gn := row_some h0.nrow hN0
  obtain ⟨gl, cl, hlv, _⟩ : ∃ gl cl, lv = .slice (some ⟨gl, 0, none⟩) X.ns.length cl ∧ B ≤ gl := row_some h0.lrow hN0
  obtain ⟨sa, sc, hsv⟩ : ∃ sa sc, sv = .slice sa X.sent.length sc := own_slice h0.srow
  obtain ⟨da, dc, hdv⟩ : ∃ da dc, dv = .slice da X.leads.length dc := own_slice h0.drow
  subst hnv hlv hsv hdv
  have hBw : B ≤ w.heap.size := by have := HX.out.hB; have := hwl; omega
  have HBW := Lib.hid hBw
  obtain ⟨k, hk⟩ : ∃ k, k = x.turn X.ns.length := ⟨_, rfl⟩
  obtain ⟨r, hr⟩ : ∃ r, r = Int.tmod x.who (X.ns.length : Int) := ⟨_, rfl⟩
  have ht := turn_eq x hN0
  rw [← hk, ← hr] at ht
  obtain ⟨hkN, ht⟩ := ht
  have HK := Lib.hid hk
  have HKN := Lib.hid hkN
  obtain ⟨N, hN⟩ : ∃ N, N = X.ns.length := ⟨_, rfl⟩
  have hN7 : (N : Int) ≤ 7 := by have := HX.out.m7; omega
  have hN1 : (1 : Int) ≤ N := by omega
  have hr' : Int.tmod x.who (N : Int) = r := by rw [hN]; exact hr.symm
  rw [← hN] at ht
  have hkN' : (k : Int) < N := by omega
  have HNN := Lib.hid hN
  have HRR := Lib.hid hr'
  have q0 : ∀ W, Below w0.heap.size w0 W → W.cell? ⟨w.heap.size, 0, none⟩ = some (.int .i64 x.act) := fun W h => blk_cell (blk_below HBK.out h (blk_lt HBK.out)) 0
  have q1 : ∀ W, Below w0.heap.size w0 W → W.cell? ⟨w.heap.size, 1, none⟩ = some (.int .i64 x.who) := fun W h => blk_cell (blk_below HBK.out h (blk_lt HBK.out)) 1
  have q2 : ∀ W, Below w0.heap.size w0 W → W.cell? ⟨w.heap.size, 2, none⟩ = some (.int .i64 x.n) := fun W h => blk_cell (blk_below HBK.out h (blk_lt HBK.out)) 2
  have q3 : ∀ W, Below w0.heap.size w0 W → W.cell? ⟨w.heap.size, 3, none⟩ = some (.int .i64 x.draw) := fun W h => blk_cell (blk_below HBK.out h (blk_lt HBK.out)) 3
  have p2 : ∀ W, Below w0.heap.size w0 W → W.cell? ⟨wb, 2, none⟩ = some (.slice (some ⟨gn, 0, none⟩) N cn) := fun W h => by rw [HNN.out]; exact blk_cell (blk_below HX.out.blk h (blk_lt HX.out.blk)) 2
  have hb := Below.refl w0.heap.size w0
  clear h0 hN0 hBw hwl hk hr hkN hN
  go_enter Try.func18, Try.ntmps18
  go_wp2_with fail
  rw [← HW0.out]
  refine wp_region_in (Below w0.heap.size w0) (fun _ => false) (by kernel_rfl) (by kernel_rfl) (by exact hb.drew) ?_
  intro hne hx
  replace hb := hb.drew
  change wpStg _ _ _ _ _ _ _ _ w0.drew
  obtain ⟨V1, hV⟩ : ∃ V, V = w0.drew := ⟨_, rfl⟩
  rw [← hV] at hb ⊢
  clear hV
  refine stg_seg 9 (by dsimp only [List.take]) (by dsimp only [List.drop]) (by rfl) ?_
  repeat (go_big_quiet_step (fail))
  refine wpQuiet_nil ?_
  refine stg_nil ?_
  clear hne hx
  clear p2
  have HX1 := Lib.hid (HX.out.below hb)
  have HBK1 := Lib.hid (blk_below HBK.out hb (blk_lt HBK.out))
  have HB1 := Lib.hid hb
  have p2 : ∀ W, Below w0.heap.size w0 W → W.cell? ⟨wb, 2, none⟩ = some (.slice (some ⟨gn, 0, none⟩) N cn) := fun W h => by rw [HNN.out]; exact blk_cell (blk_below HX.out.blk h (blk_lt HX.out.blk)) 2
  rcases ht with ⟨h1, h2⟩ | ⟨h1, h2⟩
  · have d : decide (r < 0) = true := decide_eq_true h1
    go_upto_region 4 with fail
    clear d h1 h2 hr'
    have p4 : ∀ W, Below w0.heap.size w0 W → W.cell? ⟨wb, 4, none⟩ = some (.slice sa X.sent.length sc) := fun W h => blk_cell (blk_below HX.out.blk h (blk_lt HX.out.blk)) 4
    by_cases hn : x.n < 0
    · have d0 : decide (0 ≤ x.n) = false := decide_eq_false (by omega)
      clear hn
      go_wp2_with fail
      refine wp_region_in (Below w0.heap.size w0) (fun _ => false) (by kernel_rfl) (by kernel_rfl) (by exact hb.drew) ?_
      intro hne hx
      replace hb := hb.drew
      change wpStg _ _ _ _ _ _ _ _ V1.drew
      obtain ⟨V3, hV⟩ : ∃ V, V = V1.drew := ⟨_, rfl⟩
      rw [← hV] at hb ⊢
      clear hV
      refine stg_seg 13 (by dsimp only [List.take]) (by dsimp only [List.drop]) (by rfl) ?_
      repeat (go_big_quiet_step (fail))
      refine wpQuiet_nil ?_
      refine stg_nil ?_
      clear hne hx
      go_wp2_with fail
      try simp only [Exit.inBlock, Exit.then]
      first
        | refine bodyPost_end (results_none rfl _ _ _) rfl ?_
        | refine bodyPost_ret (results_none rfl _ _ _) rfl ?_
      exact ⟨rfl, ⟨X.pure, ⟨X, _, HX.out.below hb, rfl⟩, .inr (.inr (.inr (.inr ⟨HA0.out, rfl⟩)))⟩, (bl_trans HB0.out hb).mono HBW.out⟩
    have d0 : decide (0 ≤ x.n) = true := decide_eq_true (by omega)
    obtain ⟨m, hm⟩ : ∃ m : Nat, x.n = m := ⟨x.n.toNat, by omega⟩
    obtain ⟨SL, hSL⟩ : ∃ SL, SL = X.sent.length := ⟨_, rfl⟩
    have HSLN := Lib.hid hSL
    rw [← hSL] at p4
    by_cases hms : (m : Int) < SL
    case neg =>
      have d1 : decide (x.n < (SL : Int)) = false := decide_eq_false (by omega)
      clear hn hm hSL hms
      go_wp2_with fail
      refine wp_region_in (Below w0.heap.size w0) (fun _ => false) (by kernel_rfl) (by kernel_rfl) (by exact hb.drew) ?_
      intro hne hx
      replace hb := hb.drew
      change wpStg _ _ _ _ _ _ _ _ V1.drew
      obtain ⟨V3, hV⟩ : ∃ V, V = V1.drew := ⟨_, rfl⟩
      rw [← hV] at hb ⊢
      clear hV
      refine stg_seg 13 (by dsimp only [List.take]) (by dsimp only [List.drop]) (by rfl) ?_
      repeat (go_big_quiet_step (fail))
      refine wpQuiet_nil ?_
      refine stg_nil ?_
      clear hne hx
      go_wp2_with fail
      try simp only [Exit.inBlock, Exit.then]
      first
        | refine bodyPost_end (results_none rfl _ _ _) rfl ?_
        | refine bodyPost_ret (results_none rfl _ _ _) rfl ?_
      exact ⟨rfl, ⟨X.pure, ⟨X, _, HX.out.below hb, rfl⟩, .inr (.inr (.inr (.inr ⟨HA0.out, rfl⟩)))⟩, (bl_trans HB0.out hb).mono HBW.out⟩
    have d1 : decide (x.n < (SL : Int)) = true := decide_eq_true (by omega)
    have hmN : m < X.sent.length := by omega
    obtain ⟨gs, cs, he, _⟩ := row_some HX.out.srow (by omega)
    injection he with he1 _ he2
    subst he1 he2
    obtain ⟨y, hy⟩ : ∃ y, y = X.sent.getD m default := ⟨_, rfl⟩
    have hcell := fun (j : Nat) (u : Value) (hu : (balC y)[j]? = some u) => row_cell HX.out.srow (balsC_get hmN (j := j) (u := u) (by rw [← hy]; exact hu))
    have HY := Lib.hid hy
    have HM := Lib.hid hm
    have HMN := Lib.hid hmN
    have s0 : ∀ W, Below w0.heap.size w0 W → W.cell? ⟨gs, m * 7, none⟩ = some (.int .i64 y.kind) := fun W h => cell_keep h (hcell 0 _ rfl)
    have s1 : ∀ W, Below w0.heap.size w0 W → W.cell? ⟨gs, m * 7 + 1, none⟩ = some (.int .i64 y.src) := fun W h => cell_keep h (hcell 1 _ rfl)
    have s2 : ∀ W, Below w0.heap.size w0 W → W.cell? ⟨gs, m * 7 + 2, none⟩ = some (.int .i64 y.dst) := fun W h => cell_keep h (hcell 2 _ rfl)
    have s3 : ∀ W, Below w0.heap.size w0 W → W.cell? ⟨gs, m * 7 + 3, none⟩ = some (.int .i64 y.term) := fun W h => cell_keep h (hcell 3 _ rfl)
    have s4 : ∀ W, Below w0.heap.size w0 W → W.cell? ⟨gs, m * 7 + 4, none⟩ = some (.int .i64 y.index) := fun W h => cell_keep h (hcell 4 _ rfl)
    have s5 : ∀ W, Below w0.heap.size w0 W → W.cell? ⟨gs, m * 7 + 5, none⟩ = some (.int .i64 y.logTerm) := fun W h => cell_keep h (hcell 5 _ rfl)
    have s6 : ∀ W, Below w0.heap.size w0 W → W.cell? ⟨gs, m * 7 + 6, none⟩ = some (.bool y.yes) := fun W h => cell_keep h (hcell 6 _ rfl)
    have hm2 : (0 : Int) ≤ (m : Int) := by omega
    clear hn hSL hmN hcell hy
    rw [hm] at d0 d1
    have q2' : ∀ W, Below w0.heap.size w0 W → W.cell? ⟨w.heap.size, 2, none⟩ = some (.int .i64 (m : Int)) := fun W h => by rw [← HM.out]; exact q2 W h
    clear q2 hm
    go_upto_region 8 with fail
    refine wp_region_in (Below w0.heap.size w0) (fun _ => false) (by kernel_rfl) (by kernel_rfl) (by exact hb.drew) ?_
    intro hne hx
    replace hb := hb.drew
    change wpStg _ _ _ _ _ _ _ _ V1.drew
    obtain ⟨V3, hV⟩ : ∃ V, V = V1.drew := ⟨_, rfl⟩
    rw [← hV] at hb ⊢
    clear hV
    refine stg_seg 13 (by dsimp only [List.take]) (by dsimp only [List.drop]) (by rfl) ?_
    repeat (go_big_quiet_step (fail))
    refine wpQuiet_nil ?_
    refine stg_nil ?_
    clear hne hx
    go_upto_region 9 with fail
    refine wp_region_last 9 (Below w0.heap.size w0) (fun _ => false) (by kernel_rfl) (by rfl) (by kernel_rfl) (by kernel_rfl) (by exact hb.drew) ?_
    simp only [List.take_succ_cons, List.take_zero]
    intro hne hx
    replace hb := hb.drew
    change wpStg _ _ _ _ _ _ _ _ V3.drew
    obtain ⟨V4, hV⟩ : ∃ V, V = V3.drew := ⟨_, rfl⟩
    rw [← hV] at hb ⊢
    clear hV
    refine stg_seg 9 (by dsimp only [List.take]) (by dsimp only [List.drop]) (by rfl) ?_
    repeat (go_big_quiet_step (fail))
    refine wpQuiet_nil ?_
    refine stg_nil ?_
    clear hne hx
    intro hxx
    clear hxx
    go_wp2_with fail
    refine (come_at (HX.out.below hb) y hs HSLEN.out).mono ?_
    rintro e w4 ⟨rfl, hW, hB4⟩
    go_wp2_with fail
    try simp only [Exit.inBlock, Exit.then]
    first
      | refine bodyPost_end (results_none rfl _ _ _) rfl ?_
      | refine bodyPost_ret (results_none rfl _ _ _) rfl ?_
    refine ⟨rfl, ⟨_, hW, .inr (.inl ⟨HAC.out, by rw [HM.out]; omega, by rw [HM.out]; show (m : Int) < X.sent.length; have := HMN.out; omega, ?_⟩)⟩, ((bl_trans HB0.out hb).mono HBW.out).trans hB4⟩
    rw [HY.out, HM.out]
    rfl
  · have d : decide (r < 0) = false := decide_eq_false (by omega)
    subst h2
    go_upto_region 4 with fail
    clear d h1 hr'
    have p4 : ∀ W, Below w0.heap.size w0 W → W.cell? ⟨wb, 4, none⟩ = some (.slice sa X.sent.length sc) := fun W h => blk_cell (blk_below HX.out.blk h (blk_lt HX.out.blk)) 4
    by_cases hn : x.n < 0
    · have d0 : decide (0 ≤ x.n) = false := decide_eq_false (by omega)
      clear hn
      go_wp2_with fail
      refine wp_region_in (Below w0.heap.size w0) (fun _ => false) (by kernel_rfl) (by kernel_rfl) (by exact hb.drew) ?_
      intro hne hx
      replace hb := hb.drew
      change wpStg _ _ _ _ _ _ _ _ V1.drew
      obtain ⟨V3, hV⟩ : ∃ V, V = V1.drew := ⟨_, rfl⟩
      rw [← hV] at hb ⊢
      clear hV
      refine stg_seg 13 (by dsimp only [List.take]) (by dsimp only [List.drop]) (by rfl) ?_
      repeat (go_big_quiet_step (fail))
      refine wpQuiet_nil ?_
      refine stg_nil ?_
      clear hne hx
      go_wp2_with fail
      try simp only [Exit.inBlock, Exit.then]
      first
        | refine bodyPost_end (results_none rfl _ _ _) rfl ?_
        | refine bodyPost_ret (results_none rfl _ _ _) rfl ?_
      exact ⟨rfl, ⟨X.pure, ⟨X, _, HX.out.below hb, rfl⟩, .inr (.inr (.inr (.inr ⟨HA0.out, rfl⟩)))⟩, (bl_trans HB0.out hb).mono HBW.out⟩
    have d0 : decide (0 ≤ x.n) = true := decide_eq_true (by omega)
    obtain ⟨m, hm⟩ : ∃ m : Nat, x.n = m := ⟨x.n.toNat, by omega⟩
    obtain ⟨SL, hSL⟩ : ∃ SL, SL = X.sent.length := ⟨_, rfl⟩
    have HSLN := Lib.hid hSL
    rw [← hSL] at p4
    by_cases hms : (m : Int) < SL
    case neg =>
      have d1 : decide (x.n < (SL : Int)) = false := decide_eq_false (by omega)
      clear hn hm hSL hms
      go_wp2_with fail
      refine wp_region_in (Below w0.heap.size w0) (fun _ => false) (by kernel_rfl) (by kernel_rfl) (by exact hb.drew) ?_
      intro hne hx
      replace hb := hb.drew
      change wpStg _ _ _ _ _ _ _ _ V1.drew
      obtain ⟨V3, hV⟩ : ∃ V, V = V1.drew := ⟨_, rfl⟩
      rw [← hV] at hb ⊢
      clear hV
      refine stg_seg 13 (by dsimp only [List.take]) (by dsimp only [List.drop]) (by rfl) ?_
      repeat (go_big_quiet_step (fail))
      refine wpQuiet_nil ?_
      refine stg_nil ?_
      clear hne hx
      go_wp2_with fail
      try simp only [Exit.inBlock, Exit.then]
      first
        | refine bodyPost_end (results_none rfl _ _ _) rfl ?_
        | refine bodyPost_ret (results_none rfl _ _ _) rfl ?_
      exact ⟨rfl, ⟨X.pure, ⟨X, _, HX.out.below hb, rfl⟩, .inr (.inr (.inr (.inr ⟨HA0.out, rfl⟩)))⟩, (bl_trans HB0.out hb).mono HBW.out⟩
    have d1 : decide (x.n < (SL : Int)) = true := decide_eq_true (by omega)
    have hmN : m < X.sent.length := by omega
    obtain ⟨gs, cs, he, _⟩ := row_some HX.out.srow (by omega)
    injection he with he1 _ he2
    subst he1 he2
    obtain ⟨y, hy⟩ : ∃ y, y = X.sent.getD m default := ⟨_, rfl⟩
    have hcell := fun (j : Nat) (u : Value) (hu : (balC y)[j]? = some u) => row_cell HX.out.srow (balsC_get hmN (j := j) (u := u) (by rw [← hy]; exact hu))
    have HY := Lib.hid hy
    have HM := Lib.hid hm
    have HMN := Lib.hid hmN
    have s0 : ∀ W, Below w0.heap.size w0 W → W.cell? ⟨gs, m * 7, none⟩ = some (.int .i64 y.kind) := fun W h => cell_keep h (hcell 0 _ rfl)
    have s1 : ∀ W, Below w0.heap.size w0 W → W.cell? ⟨gs, m * 7 + 1, none⟩ = some (.int .i64 y.src) := fun W h => cell_keep h (hcell 1 _ rfl)
    have s2 : ∀ W, Below w0.heap.size w0 W → W.cell? ⟨gs, m * 7 + 2, none⟩ = some (.int .i64 y.dst) := fun W h => cell_keep h (hcell 2 _ rfl)
    have s3 : ∀ W, Below w0.heap.size w0 W → W.cell? ⟨gs, m * 7 + 3, none⟩ = some (.int .i64 y.term) := fun W h => cell_keep h (hcell 3 _ rfl)
    have s4 : ∀ W, Below w0.heap.size w0 W → W.cell? ⟨gs, m * 7 + 4, none⟩ = some (.int .i64 y.index) := fun W h => cell_keep h (hcell 4 _ rfl)
    have s5 : ∀ W, Below w0.heap.size w0 W → W.cell? ⟨gs, m * 7 + 5, none⟩ = some (.int .i64 y.logTerm) := fun W h => cell_keep h (hcell 5 _ rfl)
    have s6 : ∀ W, Below w0.heap.size w0 W → W.cell? ⟨gs, m * 7 + 6, none⟩ = some (.bool y.yes) := fun W h => cell_keep h (hcell 6 _ rfl)
    have hm2 : (0 : Int) ≤ (m : Int) := by omega
    clear hn hSL hmN hcell hy
    rw [hm] at d0 d1
    have q2' : ∀ W, Below w0.heap.size w0 W → W.cell? ⟨w.heap.size, 2, none⟩ = some (.int .i64 (m : Int)) := fun W h => by rw [← HM.out]; exact q2 W h
    clear q2 hm
    go_upto_region 8 with fail
    refine wp_region_in (Below w0.heap.size w0) (fun _ => false) (by kernel_rfl) (by kernel_rfl) (by exact hb.drew) ?_
    intro hne hx
    replace hb := hb.drew
    change wpStg _ _ _ _ _ _ _ _ V1.drew
    obtain ⟨V3, hV⟩ : ∃ V, V = V1.drew := ⟨_, rfl⟩
    rw [← hV] at hb ⊢
    clear hV
    refine stg_seg 13 (by dsimp only [List.take]) (by dsimp only [List.drop]) (by rfl) ?_
    repeat (go_big_quiet_step (fail))
    refine wpQuiet_nil ?_
    refine stg_nil ?_
    clear hne hx
    go_upto_region 9 with fail
    refine wp_region_last 9 (Below w0.heap.size w0) (fun _ => false) (by kernel_rfl) (by rfl) (by kernel_rfl) (by kernel_rfl) (by exact hb.drew) ?_
    simp only [List.take_succ_cons, List.take_zero]
    intro hne hx
    replace hb := hb.drew
    change wpStg _ _ _ _ _ _ _ _ V3.drew
    obtain ⟨V4, hV⟩ : ∃ V, V = V3.drew := ⟨_, rfl⟩
    rw [← hV] at hb ⊢
    clear hV
    refine stg_seg 9 (by dsimp only [List.take]) (by dsimp only [List.drop]) (by rfl) ?_
    repeat (go_big_quiet_step (fail))
    refine wpQuiet_nil ?_
    refine stg_nil ?_
    clear hne hx
    intro hxx
    clear hxx
    go_wp2_with fail
    refine (come_at (HX.out.below hb) y hs HSLEN.out).mono ?_
    rintro e w4 ⟨rfl, hW, hB4⟩
    go_wp2_with fail
    try simp only [Exit.inBlock, Exit.then]
    first
      | refine bodyPost_end (results_none rfl _ _ _) rfl ?_
      | refine bodyPost_ret (results_none rfl _ _ _) rfl ?_
    refine ⟨rfl, ⟨_, hW, .inr (.inl ⟨HAC.out, by rw [HM.out]; omega, by rw [HM.out]; show (m : Int) < X.sent.length; have := HMN.out; omega, ?_⟩)⟩, ((bl_trans HB0.out hb).mono HBW.out).trans hB4⟩
    rw [HY.out, HM.out]
    rfl
theorem pure_put (X : GX) (k : Nat) (p : NP) : (⟨X.ns.set k p, X.logs, X.sent, X.leads⟩ : GX).pure = { X.pure with ns := X.pure.ns.set k p.S } := by
  simp [GX.pure, List.map_set]
theorem ptrs_put {l : List NP} {k : Nat} {a : NP} : ptrs (l.set k a) = (ptrs l).set k (.pointer (some ⟨a.b, 0, none⟩)) := by
  simp [ptrs, List.map_set]
/-- A new node in the place of another one. -/
theorem WX.renew {B : Nat} {w0 w : World} {wb : Nat} {X : GX} {R : RV} (h0 : WX B w0 wb X R) (hb : Below w0.heap.size w0 w) {k gn cn : Nat} (hk : k < X.ns.length) (hnv : R.nv = .slice (some ⟨gn, 0, none⟩) X.ns.length cn) {b' : Nat} {S' : Nd} {L' : List Nat}
    (hN : NodeAt w b' S' L') (hL : ∀ x, x ∈ L' → w0.heap.size ≤ x) (hvs : S'.vs = vsL X.ns.length) (hva : ∃ c, R.vv = .slice S'.va X.ns.length c) (hls : S'.ls = []) :
    WX B (w.setCell ⟨gn, k, none⟩ (.pointer (some ⟨b', 0, none⟩))) wb { X with ns := X.ns.set k ⟨b', S', L'⟩ } R := by
  have h := h0.below hb
  have hlen : (X.ns.set k ⟨b', S', L'⟩).length = X.ns.length := by simp
  have hat : ∀ i, ({ X with ns := X.ns.set k ⟨b', S', L'⟩ } : GX).at i = if i = k then ⟨b', S', L'⟩ else X.at i := fun i => at_set hk
  have hgn : R.nv.ownBlock = some gn := by rw [hnv]; rfl
  have hgw : gn < w0.heap.size := (h0.nrow.lt gn hgn).2
  have kc : Chg [gn] w (w.setCell ⟨gn, k, none⟩ (.pointer (some ⟨b', 0, none⟩))) := (Chg.refl _ w).set (.inl (by simp)) _
  have hfar : ∀ {e : TypeId} {size : Nat} {v : Value} {n : Nat} {xs : List Value}, w.ownsRow B e size v n xs → e ≠ 25 → (w.setCell ⟨gn, k, none⟩ (.pointer (some ⟨b', 0, none⟩))).ownsRow B e size v n xs :=
    fun {e size v n xs} hr he => row_keep hr kc (fun g hg hm => row_ne hr h.nrow he hg (by rw [List.mem_singleton.1 hm]; exact hgn))
  have hother : ∀ {e : TypeId} {size : Nat} {v : Value} {n : Nat} {xs : List Value}, w0.ownsRow B e size v n xs → ∀ x, w0.heap.size ≤ x → v.ownBlock ≠ some x := fun {e size v n xs} hr x hx hg => by
    have := (hr.lt x hg).2
    omega
  have hgL : ∀ i, i < X.ns.length → ¬ gn ∈ (X.at i).L := fun i hi hm => (h.out i hi gn hm).2.2 R.nv (by simp [RV.all]) hgn
  obtain ⟨gv, cv, hvv, _⟩ := row_some h.vrow (by have := h.m1; omega)
  have hgv : ∀ i, i < X.ns.length → GsOut w (X.at i).S.va (X.at i).S.vs [gn] := by
    intro i hi y hy
    obtain ⟨b1, o1, e1, _, hc⟩ := h.gs hi hi y hy
    refine ⟨b1, o1, e1, fun hm => ?_, hc⟩
    obtain ⟨c, e2⟩ := h.va i hi
    have hob : R.vv.ownBlock = some b1 := by rw [e2, e1]; rfl
    exact row_ne h.vrow h.nrow (by decide) hob (by rw [← List.mem_singleton.1 hm] at hgn; exact hgn)
  refine ⟨kc.blk h.blk (fun hm => row_wb h.nrow h.blk (by decide) (by rw [List.mem_singleton.1 hm]; exact hgn)), h.hB, ?_, ?_, ?_, hfar h.srow (by decide), hfar h.drow (by decide), ?_, ?_, ?_, ?_, ?_, ?_, ?_, ?_, ?_⟩
  · rw [hlen]; exact hfar h.vrow (by decide)
  · show (w.setCell ⟨gn, k, none⟩ (.pointer (some ⟨b', 0, none⟩))).ownsRow B _ 1 R.nv (X.ns.set k ⟨b', S', L'⟩).length (ptrs (X.ns.set k ⟨b', S', L'⟩))
    rw [hlen, ptrs_put]
    have hr := h.nrow
    rw [hnv] at hr ⊢
    exact (hr.stored k _).1
  · rw [hlen]; exact hfar h.lrow (by decide)
  · rw [hlen]; exact h.m1
  · rw [hlen]; exact h.m7
  · rw [hlen]; exact h.ll
  · intro i hi
    rw [hlen] at hi
    rw [hat]
    by_cases e : i = k
    · rw [if_pos e]
      obtain ⟨m, es, clock, yv, nv, hx⟩ := hN
      refine ⟨m, es, clock, yv, nv, hx.keep kc (fun x hm _ hl => ?_) ?_ ?_⟩
      · have h1 := hL x hl
        rw [List.mem_singleton.1 hm] at h1
        omega
      · intro y hy
        obtain ⟨c, e2⟩ := hva
        rw [hvv] at e2
        injection e2 with e3 _ _
        obtain ⟨b1, o1, e1, _, hc⟩ := hx.vs y hy
        refine ⟨b1, o1, e1, fun hm => ?_, hc⟩
        rw [← e3] at e1
        have e4 : gv = b1 := by
          injection e1 with e1
          injection e1
        refine row_ne h.vrow h.nrow (by decide) (g := gv) (by rw [hvv]; rfl) ?_
        rw [e4, List.mem_singleton.1 hm]
        exact hgn
      · intro y hy
        rw [hls] at hy
        simp at hy
    · rw [if_neg e]
      obtain ⟨m, es, clock, yv, nv, hx⟩ := h.node i hi
      exact ⟨m, es, clock, yv, nv, hx.keep kc (fun x hm _ hl => by rw [List.mem_singleton.1 hm] at hl; exact hgL i hi hl) (hgv i hi) (h.gl hi w _)⟩
  · intro i hi
    rw [hlen] at hi ⊢
    rw [hat]
    by_cases e : i = k
    · rw [if_pos e]; exact hvs
    · rw [if_neg e]; exact h.vs i hi
  · intro i hi
    rw [hlen] at hi ⊢
    rw [hat]
    by_cases e : i = k
    · rw [if_pos e]; exact hva
    · rw [if_neg e]; exact h.va i hi
  · intro i hi
    rw [hlen] at hi
    rw [hat]
    by_cases e : i = k
    · rw [if_pos e]; exact hls
    · rw [if_neg e]; exact h.ls i hi
  · intro i j hi hj hij x hx
    rw [hlen] at hi hj
    rw [hat] at hx
    rw [hat]
    by_cases e : i = k
    · rw [if_pos e] at hx
      rw [if_neg (fun e2 => hij (e.trans e2.symm))]
      intro hm
      have h1 := hL x hx
      have h2 := (h0.node j hj).low x hm
      omega
    · rw [if_neg e] at hx
      by_cases e2 : j = k
      · rw [if_pos e2]
        intro hm
        have h1 := hL x hm
        have h2 := (h0.node i hi).low x hx
        omega
      · rw [if_neg e2]; exact h.dis i j hi hj hij x hx
  · intro i hi x hx
    rw [hlen] at hi
    rw [hat] at hx
    by_cases e : i = k
    · rw [if_pos e] at hx
      have h1 := hL x hx
      have h2 := h0.hB
      have h3 := blk_lt h0.blk
      refine ⟨by omega, by omega, fun v hv => ?_⟩
      simp only [RV.all, List.mem_cons, List.not_mem_nil, or_false] at hv
      rcases hv with rfl | rfl | rfl | rfl | rfl
      · exact hother h0.vrow x h1
      · exact hother h0.nrow x h1
      · exact hother h0.lrow x h1
      · exact hother h0.srow x h1
      · exact hother h0.drow x h1
    · rw [if_neg e] at hx; exact h.out i hi x hx
set_option maxRecDepth 100000 in
set_option maxHeartbeats 4000000 in
theorem play_k3 {B : Nat} {w : World} {wb : Nat} {X : GX} {R : RV} (h : WX B w wb X R) (x : EvV) (ha : x.act = 3) :
    Calls Try.prog 18 #[.pointer (some ⟨wb, 0, none⟩), .agg #[.int .i64 x.act, .int .i64 x.who, .int .i64 x.n, .int .i64 x.draw]] w fun e w' => e = .returned (.tuple #[]) ∧ (∃ P', WAt B w' wb P' ∧ Played X.pure x P') ∧ Below B w w' := by
  have HAC := Lib.hid ha
  have HA0 := Lib.hid (show x.act ≠ 0 by omega)
  have e0 : (x.act == 0) = false := by simp [ha]
  have e1 : (x.act == 1) = false := by simp [ha]
  have e2 : (x.act == 2) = false := by simp [ha]
  have e3 : (x.act == 3) = true := by simp [ha]
  clear ha
  have hb0 := bl_alloc (Below.refl w.heap.size w) (.cells #[.int .i64 x.act, .int .i64 x.who, .int .i64 x.n, .int .i64 x.draw] 59)
  have HB0 := Lib.hid hb0
  have hblk := blk_new w (.cells #[.int .i64 x.act, .int .i64 x.who, .int .i64 x.n, .int .i64 x.draw] 59) rfl
  have hlt := blk_lt h.blk
  have HBL := Lib.hid (show ∀ i, i < X.ns.length → ¬ w.heap.size ∈ (X.at i).L from fun i hi hm => by have := (h.node i hi).low _ hm; omega)
  have HSL := Lib.hid (fun g (hg : R.sv.ownBlock = some g) => (h.srow.lt g hg).2)
  have hwl := hlt
  have h0 := h.below hb0
  obtain ⟨w0, hw0⟩ : ∃ w0, w0 = w.alloc (.cells #[.int .i64 x.act, .int .i64 x.who, .int .i64 x.n, .int .i64 x.draw] 59) := ⟨_, rfl⟩
  rw [← hw0] at hb0 h0 hblk HB0
  have HW0 := Lib.hid hw0
  have HBK := Lib.hid hblk
  have HX := Lib.hid h0
  clear hblk hw0 hlt hb0 h
  obtain ⟨vv, nv, lv, sv, dv⟩ := R
  have hN0 : 0 < X.ns.length := by have := h0.m1; omega
  obtain ⟨gn, cn, hnv, _⟩ : ∃ gn cn, nv = .slice (some ⟨gn, 0, none⟩) X.ns.length cn ∧ B ≤ gn := row_some h0.nrow hN0
  obtain ⟨gl, cl, hlv, _⟩ : ∃ gl cl, lv = .slice (some ⟨gl, 0, none⟩) X.ns.length cl ∧ B ≤ gl := row_some h0.lrow hN0
  obtain ⟨sa, sc, hsv⟩ : ∃ sa sc, sv = .slice sa X.sent.length sc := own_slice h0.srow
  obtain ⟨da, dc, hdv⟩ : ∃ da dc, dv = .slice da X.leads.length dc := own_slice h0.drow
  subst hnv hlv hsv hdv
  have hBw : B ≤ w.heap.size := by have := HX.out.hB; have := hwl; omega
  have HBW := Lib.hid hBw
  obtain ⟨k, hk⟩ : ∃ k, k = x.turn X.ns.length := ⟨_, rfl⟩
  obtain ⟨r, hr⟩ : ∃ r, r = Int.tmod x.who (X.ns.length : Int) := ⟨_, rfl⟩
  have ht := turn_eq x hN0
  rw [← hk, ← hr] at ht
  obtain ⟨hkN, ht⟩ := ht
  have HK := Lib.hid hk
  have HKN := Lib.hid hkN
  obtain ⟨N, hN⟩ : ∃ N, N = X.ns.length := ⟨_, rfl⟩
  have hN7 : (N : Int) ≤ 7 := by have := HX.out.m7; omega
  have hN1 : (1 : Int) ≤ N := by omega
  have hr' : Int.tmod x.who (N : Int) = r := by rw [hN]; exact hr.symm
  rw [← hN] at ht
  have hkN' : (k : Int) < N := by omega
  have HNN := Lib.hid hN
  have HRR := Lib.hid hr'
  have q0 : ∀ W, Below w0.heap.size w0 W → W.cell? ⟨w.heap.size, 0, none⟩ = some (.int .i64 x.act) := fun W h => blk_cell (blk_below HBK.out h (blk_lt HBK.out)) 0
  have q1 : ∀ W, Below w0.heap.size w0 W → W.cell? ⟨w.heap.size, 1, none⟩ = some (.int .i64 x.who) := fun W h => blk_cell (blk_below HBK.out h (blk_lt HBK.out)) 1
  have q2 : ∀ W, Below w0.heap.size w0 W → W.cell? ⟨w.heap.size, 2, none⟩ = some (.int .i64 x.n) := fun W h => blk_cell (blk_below HBK.out h (blk_lt HBK.out)) 2
  have q3 : ∀ W, Below w0.heap.size w0 W → W.cell? ⟨w.heap.size, 3, none⟩ = some (.int .i64 x.draw) := fun W h => blk_cell (blk_below HBK.out h (blk_lt HBK.out)) 3
  have p2 : ∀ W, Below w0.heap.size w0 W → W.cell? ⟨wb, 2, none⟩ = some (.slice (some ⟨gn, 0, none⟩) N cn) := fun W h => by rw [HNN.out]; exact blk_cell (blk_below HX.out.blk h (blk_lt HX.out.blk)) 2
  have hb := Below.refl w0.heap.size w0
  clear h0 hN0 hBw hwl hk hr hkN hN
  go_enter Try.func18, Try.ntmps18
  go_wp2_with fail
  rw [← HW0.out]
  refine wp_region_in (Below w0.heap.size w0) (fun _ => false) (by kernel_rfl) (by kernel_rfl) (by exact hb.drew) ?_
  intro hne hx
  replace hb := hb.drew
  change wpStg _ _ _ _ _ _ _ _ w0.drew
  obtain ⟨V1, hV⟩ : ∃ V, V = w0.drew := ⟨_, rfl⟩
  rw [← hV] at hb ⊢
  clear hV
  refine stg_seg 9 (by dsimp only [List.take]) (by dsimp only [List.drop]) (by rfl) ?_
  repeat (go_big_quiet_step (fail))
  refine wpQuiet_nil ?_
  refine stg_nil ?_
  clear hne hx
  clear p2
  have HX1 := Lib.hid (HX.out.below hb)
  have HBK1 := Lib.hid (blk_below HBK.out hb (blk_lt HBK.out))
  have HB1 := Lib.hid hb
  have p2 : ∀ W, Below w0.heap.size w0 W → W.cell? ⟨wb, 2, none⟩ = some (.slice (some ⟨gn, 0, none⟩) N cn) := fun W h => by rw [HNN.out]; exact blk_cell (blk_below HX.out.blk h (blk_lt HX.out.blk)) 2
  rcases ht with ⟨h1, h2⟩ | ⟨h1, h2⟩
  · have d : decide (r < 0) = true := decide_eq_true h1
    go_upto_region 4 with fail
    clear d h1 h2 hr'
    have p5 : ∀ W, Below w0.heap.size w0 W → W.cell? ⟨wb, 5, none⟩ = some (.slice da X.leads.length dc) := fun W h => blk_cell (blk_below HX.out.blk h (blk_lt HX.out.blk)) 5
    by_cases hn : x.n < 0
    · have d0 : decide (0 ≤ x.n) = false := decide_eq_false (by omega)
      clear hn
      go_wp2_with fail
      refine wp_region_in (Below w0.heap.size w0) (fun _ => false) (by kernel_rfl) (by kernel_rfl) (by exact hb.drew) ?_
      intro hne hx
      replace hb := hb.drew
      change wpStg _ _ _ _ _ _ _ _ V1.drew
      obtain ⟨V3, hV⟩ : ∃ V, V = V1.drew := ⟨_, rfl⟩
      rw [← hV] at hb ⊢
      clear hV
      refine stg_seg 13 (by dsimp only [List.take]) (by dsimp only [List.drop]) (by rfl) ?_
      repeat (go_big_quiet_step (fail))
      refine wpQuiet_nil ?_
      refine stg_nil ?_
      clear hne hx
      go_wp2_with fail
      try simp only [Exit.inBlock, Exit.then]
      first
        | refine bodyPost_end (results_none rfl _ _ _) rfl ?_
        | refine bodyPost_ret (results_none rfl _ _ _) rfl ?_
      exact ⟨rfl, ⟨X.pure, ⟨X, _, HX.out.below hb, rfl⟩, .inr (.inr (.inr (.inr ⟨HA0.out, rfl⟩)))⟩, (bl_trans HB0.out hb).mono HBW.out⟩
    have d0 : decide (0 ≤ x.n) = true := decide_eq_true (by omega)
    obtain ⟨m, hm⟩ : ∃ m : Nat, x.n = m := ⟨x.n.toNat, by omega⟩
    obtain ⟨SL, hSL⟩ : ∃ SL, SL = X.leads.length := ⟨_, rfl⟩
    have HSLN := Lib.hid hSL
    rw [← hSL] at p5
    by_cases hms : (m : Int) < SL
    case neg =>
      have d1 : decide (x.n < (SL : Int)) = false := decide_eq_false (by omega)
      clear hn hm hSL hms
      go_wp2_with fail
      refine wp_region_in (Below w0.heap.size w0) (fun _ => false) (by kernel_rfl) (by kernel_rfl) (by exact hb.drew) ?_
      intro hne hx
      replace hb := hb.drew
      change wpStg _ _ _ _ _ _ _ _ V1.drew
      obtain ⟨V3, hV⟩ : ∃ V, V = V1.drew := ⟨_, rfl⟩
      rw [← hV] at hb ⊢
      clear hV
      refine stg_seg 13 (by dsimp only [List.take]) (by dsimp only [List.drop]) (by rfl) ?_
      repeat (go_big_quiet_step (fail))
      refine wpQuiet_nil ?_
      refine stg_nil ?_
      clear hne hx
      go_wp2_with fail
      try simp only [Exit.inBlock, Exit.then]
      first
        | refine bodyPost_end (results_none rfl _ _ _) rfl ?_
        | refine bodyPost_ret (results_none rfl _ _ _) rfl ?_
      exact ⟨rfl, ⟨X.pure, ⟨X, _, HX.out.below hb, rfl⟩, .inr (.inr (.inr (.inr ⟨HA0.out, rfl⟩)))⟩, (bl_trans HB0.out hb).mono HBW.out⟩
    have d1 : decide (x.n < (SL : Int)) = true := decide_eq_true (by omega)
    have hmN : m < X.leads.length := by omega
    obtain ⟨gs, cs, he, _⟩ := row_some HX.out.drow (by omega)
    injection he with he1 _ he2
    subst he1 he2
    have hpg := pairs_get hmN
    obtain ⟨y, hy⟩ : ∃ y, y = X.leads.getD m (0, 0) := ⟨_, rfl⟩
    rw [← hy] at hpg
    have HY := Lib.hid hy
    have HM := Lib.hid hm
    have HMN := Lib.hid hmN
    have HPT := Lib.hid (row_at HKN.out)
    have s0 : ∀ W, Below w0.heap.size w0 W → W.cell? ⟨gs, m * 2, none⟩ = some (.int .i64 y.1) := fun W h => cell_keep h (row_cell HX.out.drow hpg.1)
    have s1 : ∀ W, Below w0.heap.size w0 W → W.cell? ⟨gs, m * 2 + 1, none⟩ = some (.int .i64 y.2) := fun W h => cell_keep h (row_cell HX.out.drow hpg.2)
    have pn : ∀ W, Below w0.heap.size w0 W → W.cell? ⟨gn, k, none⟩ = some (.pointer (some ⟨(X.at k).b, 0, none⟩)) := fun W h => cell_keep h (row_cell HX.out.nrow HPT.out)
    have hm2 : (0 : Int) ≤ (m : Int) := by omega
    have hk2 : (0 : Int) ≤ (k : Int) := by omega
    clear hn hSL hmN hpg hy
    rw [hm] at d0 d1
    have q2' : ∀ W, Below w0.heap.size w0 W → W.cell? ⟨w.heap.size, 2, none⟩ = some (.int .i64 (m : Int)) := fun W h => by rw [← HM.out]; exact q2 W h
    clear q2 hm
    go_upto_region 15 with fail
    refine wp_region_in (Below w0.heap.size w0) (fun _ => false) (by kernel_rfl) (by kernel_rfl) (by exact hb.drew) ?_
    intro hne hx
    replace hb := hb.drew
    change wpStg _ _ _ _ _ _ _ _ V1.drew
    obtain ⟨V3, hV⟩ : ∃ V, V = V1.drew := ⟨_, rfl⟩
    rw [← hV] at hb ⊢
    clear hV
    refine stg_seg 13 (by dsimp only [List.take]) (by dsimp only [List.drop]) (by rfl) ?_
    repeat (go_big_quiet_step (fail))
    refine wpQuiet_nil ?_
    refine stg_nil ?_
    clear hne hx
    go_upto_region 16 with fail
    refine wp_region_last 25 (Below w0.heap.size w0) (fun _ => false) (by kernel_rfl) (by rfl) (by kernel_rfl) (by kernel_rfl) (by exact hb.drew) ?_
    simp only [List.take_succ_cons, List.take_zero]
    intro hne hx
    replace hb := hb.drew
    change wpStg _ _ _ _ _ _ _ _ V3.drew
    obtain ⟨V4, hV⟩ : ∃ V, V = V3.drew := ⟨_, rfl⟩
    rw [← hV] at hb ⊢
    clear hV
    refine stg_seg 25 (by dsimp only [List.take]) (by dsimp only [List.drop]) (by rfl) ?_
    repeat (go_big_quiet_step (fail))
    refine wpQuiet_nil ?_
    refine stg_nil ?_
    clear hne hx
    intro hxx
    clear hxx
    go_wp2_with fail
    refine (heard_at ((HX.out.below hb).node k HKN.out) y.2 y.1).mono ?_
    rintro e w4 ⟨rfl, L4, hN4, k4, hL4⟩
    have hW := (HX.out.below hb).move HKN.out hN4 k4 hL4 (heard_g _ _ _)
    go_wp2_with fail
    try simp only [Exit.inBlock, Exit.then]
    first
      | refine bodyPost_end (results_none rfl _ _ _) rfl ?_
      | refine bodyPost_ret (results_none rfl _ _ _) rfl ?_
    refine ⟨rfl, ⟨_, ⟨_, _, hW, rfl⟩, .inr (.inr (.inr (.inl ⟨HAC.out, by rw [HM.out]; omega, by rw [HM.out]; show (m : Int) < X.leads.length; have := HMN.out; omega, ?_⟩)))⟩, ((bl_trans HB0.out hb).mono HBW.out).trans (k4.to_below (by have := HBW.out; have := hb.size; have := HB0.out.size; omega) (fun z hz => (HX.out.out k HKN.out z hz).1))⟩
    rw [pure_put, HM.out, pure_len, ← HK.out]
    unfold PW.heard
    rw [pure_at HKN.out, show X.pure.leads = X.leads from rfl, show ((m : Int)).toNat = m from rfl, ← HY.out]
    rfl
  · have d : decide (r < 0) = false := decide_eq_false (by omega)
    subst h2
    go_upto_region 4 with fail
    clear d h1 hr'
    have p5 : ∀ W, Below w0.heap.size w0 W → W.cell? ⟨wb, 5, none⟩ = some (.slice da X.leads.length dc) := fun W h => blk_cell (blk_below HX.out.blk h (blk_lt HX.out.blk)) 5
    by_cases hn : x.n < 0
    · have d0 : decide (0 ≤ x.n) = false := decide_eq_false (by omega)
      clear hn
      go_wp2_with fail
      refine wp_region_in (Below w0.heap.size w0) (fun _ => false) (by kernel_rfl) (by kernel_rfl) (by exact hb.drew) ?_
      intro hne hx
      replace hb := hb.drew
      change wpStg _ _ _ _ _ _ _ _ V1.drew
      obtain ⟨V3, hV⟩ : ∃ V, V = V1.drew := ⟨_, rfl⟩
      rw [← hV] at hb ⊢
      clear hV
      refine stg_seg 13 (by dsimp only [List.take]) (by dsimp only [List.drop]) (by rfl) ?_
      repeat (go_big_quiet_step (fail))
      refine wpQuiet_nil ?_
      refine stg_nil ?_
      clear hne hx
      go_wp2_with fail
      try simp only [Exit.inBlock, Exit.then]
      first
        | refine bodyPost_end (results_none rfl _ _ _) rfl ?_
        | refine bodyPost_ret (results_none rfl _ _ _) rfl ?_
      exact ⟨rfl, ⟨X.pure, ⟨X, _, HX.out.below hb, rfl⟩, .inr (.inr (.inr (.inr ⟨HA0.out, rfl⟩)))⟩, (bl_trans HB0.out hb).mono HBW.out⟩
    have d0 : decide (0 ≤ x.n) = true := decide_eq_true (by omega)
    obtain ⟨m, hm⟩ : ∃ m : Nat, x.n = m := ⟨x.n.toNat, by omega⟩
    obtain ⟨SL, hSL⟩ : ∃ SL, SL = X.leads.length := ⟨_, rfl⟩
    have HSLN := Lib.hid hSL
    rw [← hSL] at p5
    by_cases hms : (m : Int) < SL
    case neg =>
      have d1 : decide (x.n < (SL : Int)) = false := decide_eq_false (by omega)
      clear hn hm hSL hms
      go_wp2_with fail
      refine wp_region_in (Below w0.heap.size w0) (fun _ => false) (by kernel_rfl) (by kernel_rfl) (by exact hb.drew) ?_
      intro hne hx
      replace hb := hb.drew
      change wpStg _ _ _ _ _ _ _ _ V1.drew
      obtain ⟨V3, hV⟩ : ∃ V, V = V1.drew := ⟨_, rfl⟩
      rw [← hV] at hb ⊢
      clear hV
      refine stg_seg 13 (by dsimp only [List.take]) (by dsimp only [List.drop]) (by rfl) ?_
      repeat (go_big_quiet_step (fail))
      refine wpQuiet_nil ?_
      refine stg_nil ?_
      clear hne hx
      go_wp2_with fail
      try simp only [Exit.inBlock, Exit.then]
      first
        | refine bodyPost_end (results_none rfl _ _ _) rfl ?_
        | refine bodyPost_ret (results_none rfl _ _ _) rfl ?_
      exact ⟨rfl, ⟨X.pure, ⟨X, _, HX.out.below hb, rfl⟩, .inr (.inr (.inr (.inr ⟨HA0.out, rfl⟩)))⟩, (bl_trans HB0.out hb).mono HBW.out⟩
    have d1 : decide (x.n < (SL : Int)) = true := decide_eq_true (by omega)
    have hmN : m < X.leads.length := by omega
    obtain ⟨gs, cs, he, _⟩ := row_some HX.out.drow (by omega)
    injection he with he1 _ he2
    subst he1 he2
    have hpg := pairs_get hmN
    obtain ⟨y, hy⟩ : ∃ y, y = X.leads.getD m (0, 0) := ⟨_, rfl⟩
    rw [← hy] at hpg
    have HY := Lib.hid hy
    have HM := Lib.hid hm
    have HMN := Lib.hid hmN
    have HPT := Lib.hid (row_at HKN.out)
    have s0 : ∀ W, Below w0.heap.size w0 W → W.cell? ⟨gs, m * 2, none⟩ = some (.int .i64 y.1) := fun W h => cell_keep h (row_cell HX.out.drow hpg.1)
    have s1 : ∀ W, Below w0.heap.size w0 W → W.cell? ⟨gs, m * 2 + 1, none⟩ = some (.int .i64 y.2) := fun W h => cell_keep h (row_cell HX.out.drow hpg.2)
    have pn : ∀ W, Below w0.heap.size w0 W → W.cell? ⟨gn, k, none⟩ = some (.pointer (some ⟨(X.at k).b, 0, none⟩)) := fun W h => cell_keep h (row_cell HX.out.nrow HPT.out)
    have hm2 : (0 : Int) ≤ (m : Int) := by omega
    have hk2 : (0 : Int) ≤ (k : Int) := by omega
    clear hn hSL hmN hpg hy
    rw [hm] at d0 d1
    have q2' : ∀ W, Below w0.heap.size w0 W → W.cell? ⟨w.heap.size, 2, none⟩ = some (.int .i64 (m : Int)) := fun W h => by rw [← HM.out]; exact q2 W h
    clear q2 hm
    go_upto_region 15 with fail
    refine wp_region_in (Below w0.heap.size w0) (fun _ => false) (by kernel_rfl) (by kernel_rfl) (by exact hb.drew) ?_
    intro hne hx
    replace hb := hb.drew
    change wpStg _ _ _ _ _ _ _ _ V1.drew
    obtain ⟨V3, hV⟩ : ∃ V, V = V1.drew := ⟨_, rfl⟩
    rw [← hV] at hb ⊢
    clear hV
    refine stg_seg 13 (by dsimp only [List.take]) (by dsimp only [List.drop]) (by rfl) ?_
    repeat (go_big_quiet_step (fail))
    refine wpQuiet_nil ?_
    refine stg_nil ?_
    clear hne hx
    go_upto_region 16 with fail
    refine wp_region_last 25 (Below w0.heap.size w0) (fun _ => false) (by kernel_rfl) (by rfl) (by kernel_rfl) (by kernel_rfl) (by exact hb.drew) ?_
    simp only [List.take_succ_cons, List.take_zero]
    intro hne hx
    replace hb := hb.drew
    change wpStg _ _ _ _ _ _ _ _ V3.drew
    obtain ⟨V4, hV⟩ : ∃ V, V = V3.drew := ⟨_, rfl⟩
    rw [← hV] at hb ⊢
    clear hV
    refine stg_seg 25 (by dsimp only [List.take]) (by dsimp only [List.drop]) (by rfl) ?_
    repeat (go_big_quiet_step (fail))
    refine wpQuiet_nil ?_
    refine stg_nil ?_
    clear hne hx
    intro hxx
    clear hxx
    go_wp2_with fail
    refine (heard_at ((HX.out.below hb).node k HKN.out) y.2 y.1).mono ?_
    rintro e w4 ⟨rfl, L4, hN4, k4, hL4⟩
    have hW := (HX.out.below hb).move HKN.out hN4 k4 hL4 (heard_g _ _ _)
    go_wp2_with fail
    try simp only [Exit.inBlock, Exit.then]
    first
      | refine bodyPost_end (results_none rfl _ _ _) rfl ?_
      | refine bodyPost_ret (results_none rfl _ _ _) rfl ?_
    refine ⟨rfl, ⟨_, ⟨_, _, hW, rfl⟩, .inr (.inr (.inr (.inl ⟨HAC.out, by rw [HM.out]; omega, by rw [HM.out]; show (m : Int) < X.leads.length; have := HMN.out; omega, ?_⟩)))⟩, ((bl_trans HB0.out hb).mono HBW.out).trans (k4.to_below (by have := HBW.out; have := hb.size; have := HB0.out.size; omega) (fun z hz => (HX.out.out k HKN.out z hz).1))⟩
    rw [pure_put, HM.out, pure_len, ← HK.out]
    unfold PW.heard
    rw [pure_at HKN.out, show X.pure.leads = X.leads from rfl, show ((m : Int)).toNat = m from rfl, ← HY.out]
    rfl
set_option maxRecDepth 100000 in
set_option maxHeartbeats 4000000 in
theorem play_k2 {B : Nat} {w : World} {wb : Nat} {X : GX} {R : RV} (h : WX B w wb X R) (x : EvV) (ha : x.act = 2) :
    Calls Try.prog 18 #[.pointer (some ⟨wb, 0, none⟩), .agg #[.int .i64 x.act, .int .i64 x.who, .int .i64 x.n, .int .i64 x.draw]] w fun e w' => e = .returned (.tuple #[]) ∧ (∃ P', WAt B w' wb P' ∧ Played X.pure x P') ∧ Below B w w' := by
  have HAC := Lib.hid ha
  have HA0 := Lib.hid (show x.act ≠ 0 by omega)
  have e0 : (x.act == 0) = false := by simp [ha]
  have e1 : (x.act == 1) = false := by simp [ha]
  have e2 : (x.act == 2) = true := by simp [ha]
  clear ha
  have hb0 := bl_alloc (Below.refl w.heap.size w) (.cells #[.int .i64 x.act, .int .i64 x.who, .int .i64 x.n, .int .i64 x.draw] 59)
  have HB0 := Lib.hid hb0
  have hblk := blk_new w (.cells #[.int .i64 x.act, .int .i64 x.who, .int .i64 x.n, .int .i64 x.draw] 59) rfl
  have hlt := blk_lt h.blk
  have HBL := Lib.hid (show ∀ i, i < X.ns.length → ¬ w.heap.size ∈ (X.at i).L from fun i hi hm => by have := (h.node i hi).low _ hm; omega)
  have HSL := Lib.hid (fun g (hg : R.sv.ownBlock = some g) => (h.srow.lt g hg).2)
  have hwl := hlt
  have h0 := h.below hb0
  obtain ⟨w0, hw0⟩ : ∃ w0, w0 = w.alloc (.cells #[.int .i64 x.act, .int .i64 x.who, .int .i64 x.n, .int .i64 x.draw] 59) := ⟨_, rfl⟩
  rw [← hw0] at hb0 h0 hblk HB0
  have HW0 := Lib.hid hw0
  have HBK := Lib.hid hblk
  have HX := Lib.hid h0
  clear hblk hw0 hlt hb0 h
  obtain ⟨vv, nv, lv, sv, dv⟩ := R
  have hN0 : 0 < X.ns.length := by have := h0.m1; omega
  obtain ⟨gn, cn, hnv, _⟩ : ∃ gn cn, nv = .slice (some ⟨gn, 0, none⟩) X.ns.length cn ∧ B ≤ gn := row_some h0.nrow hN0
  obtain ⟨gl, cl, hlv, _⟩ : ∃ gl cl, lv = .slice (some ⟨gl, 0, none⟩) X.ns.length cl ∧ B ≤ gl := row_some h0.lrow hN0
  obtain ⟨sa, sc, hsv⟩ : ∃ sa sc, sv = .slice sa X.sent.length sc := own_slice h0.srow
  obtain ⟨da, dc, hdv⟩ : ∃ da dc, dv = .slice da X.leads.length dc := own_slice h0.drow
  subst hnv hlv hsv hdv
  have hBw : B ≤ w.heap.size := by have := HX.out.hB; have := hwl; omega
  have HBW := Lib.hid hBw
  obtain ⟨k, hk⟩ : ∃ k, k = x.turn X.ns.length := ⟨_, rfl⟩
  obtain ⟨r, hr⟩ : ∃ r, r = Int.tmod x.who (X.ns.length : Int) := ⟨_, rfl⟩
  have ht := turn_eq x hN0
  rw [← hk, ← hr] at ht
  obtain ⟨hkN, ht⟩ := ht
  have HK := Lib.hid hk
  have HKN := Lib.hid hkN
  obtain ⟨N, hN⟩ : ∃ N, N = X.ns.length := ⟨_, rfl⟩
  have hN7 : (N : Int) ≤ 7 := by have := HX.out.m7; omega
  have hN1 : (1 : Int) ≤ N := by omega
  have hr' : Int.tmod x.who (N : Int) = r := by rw [hN]; exact hr.symm
  rw [← hN] at ht
  have hkN' : (k : Int) < N := by omega
  have HNN := Lib.hid hN
  have HRR := Lib.hid hr'
  have q0 : ∀ W, Below w0.heap.size w0 W → W.cell? ⟨w.heap.size, 0, none⟩ = some (.int .i64 x.act) := fun W h => blk_cell (blk_below HBK.out h (blk_lt HBK.out)) 0
  have q1 : ∀ W, Below w0.heap.size w0 W → W.cell? ⟨w.heap.size, 1, none⟩ = some (.int .i64 x.who) := fun W h => blk_cell (blk_below HBK.out h (blk_lt HBK.out)) 1
  have q2 : ∀ W, Below w0.heap.size w0 W → W.cell? ⟨w.heap.size, 2, none⟩ = some (.int .i64 x.n) := fun W h => blk_cell (blk_below HBK.out h (blk_lt HBK.out)) 2
  have q3 : ∀ W, Below w0.heap.size w0 W → W.cell? ⟨w.heap.size, 3, none⟩ = some (.int .i64 x.draw) := fun W h => blk_cell (blk_below HBK.out h (blk_lt HBK.out)) 3
  have p2 : ∀ W, Below w0.heap.size w0 W → W.cell? ⟨wb, 2, none⟩ = some (.slice (some ⟨gn, 0, none⟩) N cn) := fun W h => by rw [HNN.out]; exact blk_cell (blk_below HX.out.blk h (blk_lt HX.out.blk)) 2
  have hb := Below.refl w0.heap.size w0
  clear h0 hN0 hBw hwl hk hr hkN hN
  go_enter Try.func18, Try.ntmps18
  go_wp2_with fail
  rw [← HW0.out]
  refine wp_region_in (Below w0.heap.size w0) (fun _ => false) (by kernel_rfl) (by kernel_rfl) (by exact hb.drew) ?_
  intro hne hx
  replace hb := hb.drew
  change wpStg _ _ _ _ _ _ _ _ w0.drew
  obtain ⟨V1, hV⟩ : ∃ V, V = w0.drew := ⟨_, rfl⟩
  rw [← hV] at hb ⊢
  clear hV
  refine stg_seg 9 (by dsimp only [List.take]) (by dsimp only [List.drop]) (by rfl) ?_
  repeat (go_big_quiet_step (fail))
  refine wpQuiet_nil ?_
  refine stg_nil ?_
  clear hne hx
  clear p2
  have HX1 := Lib.hid (HX.out.below hb)
  have HBK1 := Lib.hid (blk_below HBK.out hb (blk_lt HBK.out))
  have HB1 := Lib.hid hb
  have p2 : ∀ W, Below w0.heap.size w0 W → W.cell? ⟨wb, 2, none⟩ = some (.slice (some ⟨gn, 0, none⟩) N cn) := fun W h => by rw [HNN.out]; exact blk_cell (blk_below HX.out.blk h (blk_lt HX.out.blk)) 2
  rcases ht with ⟨h1, h2⟩ | ⟨h1, h2⟩
  · have d : decide (r < 0) = true := decide_eq_true h1
    go_upto_region 4 with fail
    clear d h1 h2 hr'
    obtain ⟨vc, hvv⟩ := HX.out.va k HKN.out
    have hgs := HX.out.gs HKN.out HKN.out
    rw [HX.out.vs k HKN.out] at hgs
    obtain ⟨p, hp⟩ : ∃ p, p = X.at k := ⟨_, rfl⟩
    rw [← hp] at hgs hvv
    obtain ⟨va, hva⟩ : ∃ va, va = p.S.va := ⟨_, rfl⟩
    rw [← hva] at hvv hgs
    have HVV := Lib.hid (show vv = .slice va X.ns.length vc from hvv)
    have HGS := Lib.hid hgs.at_
    have HP := Lib.hid hp
    have HPT := Lib.hid (row_at HKN.out)
    have p0 : ∀ W, Below w0.heap.size w0 W → W.cell? ⟨wb, 0, none⟩ = some (.slice va N vc) := fun W h => by rw [HNN.out, ← HVV.out]; exact blk_cell (blk_below HX.out.blk h (blk_lt HX.out.blk)) 0
    have p1 : ∀ W, Below w0.heap.size w0 W → W.cell? ⟨wb, 1, none⟩ = some (.slice none 0 0) := fun W h => blk_cell (blk_below HX.out.blk h (blk_lt HX.out.blk)) 1
    have pn : ∀ W, Below w0.heap.size w0 W → W.cell? ⟨gn, k, none⟩ = some (.pointer (some ⟨p.b, 0, none⟩)) := fun W h => by rw [HP.out]; exact cell_keep h (row_cell HX.out.nrow HPT.out)
    have hk2 : (0 : Int) ≤ (k : Int) := by omega
    have hH := fun (W : World) (h : Below w0.heap.size w0 W) => (show Calls Try.prog 13 #[.pointer (some ⟨p.b, 0, none⟩)] W fun e w' => e = .returned (.agg #[.int .i64 p.S.term, .int .i64 p.S.vote]) ∧ Below W.heap.size W w' from by rw [HP.out]; exact hard_at ((HX.out.below h).node k HKN.out))
    have hNw := fun (W : World) (h : Below w0.heap.size w0 W) => (show Calls Try.prog 10 #[.int .i64 ((k : Int) + 1), .agg #[.int .i64 p.S.term, .int .i64 p.S.vote], .agg #[.slice va N vc, .slice none 0 0], .int .i64 3] W fun e w' => NewEnd W ((k : Int) + 1) p.S.term p.S.vote 3 (vsL X.ns.length) [] va vc none 0 e w' from by
      have h1 := new_at ((k : Int) + 1) p.S.term p.S.vote 3 (vsL X.ns.length) [] va vc none 0 W (HGS.out.keep h) (fun j hj => by simp at hj) (by rw [vsL_len]; have := HX.out.m7; unfold maxLen; omega) (by simp)
      rw [vsL_len] at h1
      rw [HNN.out]
      exact h1)
    clear hvv hgs hp hva
    go_upto_region 11 with fail
    refine wp_region_in (Below w0.heap.size w0) (fun i => i == 9 || i == 14) (by kernel_rfl) (by kernel_rfl) (by exact hb.drew) ?_
    intro hne hx
    replace hb := hb.drew
    change wpStg _ _ _ _ _ _ _ _ V1.drew
    obtain ⟨V3, hV⟩ : ∃ V, V = V1.drew := ⟨_, rfl⟩
    rw [← hV] at hb ⊢
    clear hV
    refine stg_seg 9 (by dsimp only [List.take]) (by dsimp only [List.drop]) (by rfl) ?_
    repeat (go_big_quiet_step (fail))
    refine wpQuiet_nil ?_
    refine stg_loud (by rfl) ?_
    go_wp2_with fail
    refine (hH _ hb).mono ?_; rintro e w4 ⟨rfl, hb4⟩
    replace hb := bl_trans hb hb4
    clear hb4
    go_wp2_with fail
    refine lq_in rfl (hb) ?_
    refine stg_seg 4 (by dsimp only [List.take]) (by dsimp only [List.drop]) (by rfl) ?_
    repeat (go_big_quiet_step (fail))
    refine wpQuiet_nil ?_
    refine stg_loud (by rfl) ?_
    go_wp2_with fail
    refine (hNw _ hb).mono ?_
    rintro e w5 (⟨_, rfl, hb5⟩ | ⟨hok, b', L', rfl, hN, hb5, hL⟩)
    · replace hb := bl_trans hb hb5
      clear hb5
      go_wp2_with fail
      refine lq_in rfl (hb) ?_
      refine stg_seg 5 (by dsimp only [List.take]) (by dsimp only [List.drop]) (by rfl) ?_
      repeat (go_big_quiet_step (fail))
      refine wpQuiet_nil ?_
      refine stg_nil ?_
      clear hne hx
      go_wp2_with fail
      try simp only [Exit.inBlock, Exit.then]
      first
        | refine bodyPost_end (results_none rfl _ _ _) rfl ?_
        | refine bodyPost_ret (results_none rfl _ _ _) rfl ?_
      exact ⟨rfl, ⟨X.pure, ⟨X, _, HX.out.below hb, rfl⟩, .inr (.inr (.inr (.inr ⟨HA0.out, rfl⟩)))⟩, (bl_trans HB0.out hb).mono HBW.out⟩
    · have HL := Lib.hid (show ∀ z, z ∈ L' → w0.heap.size ≤ z from fun z hz => Nat.le_trans hb.size (hL z hz))
      have HNW := Lib.hid hN
      replace hb := bl_trans hb hb5
      clear hb5 hL hN hok
      go_wp2_with fail
      refine lq_in rfl (hb) ?_
      refine stg_seg 5 (by dsimp only [List.take]) (by dsimp only [List.drop]) (by rfl) ?_
      repeat (go_big_quiet_step (fail))
      refine wpQuiet_nil ?_
      refine stg_nil ?_
      clear hne hx
      have hfr := ((HX.out.below hb).nrow).frozenAt (g := gn) (cap := cn) k
      have d2 := p2 _ hb
      have dn := pn _ hb
      clear hH hNw p0 p1 pn p2 q0 q1 q2 q3
      go_wp2_with fail
      try simp only [Exit.inBlock, Exit.then]
      first
        | refine bodyPost_end (results_none rfl _ _ _) rfl ?_
        | refine bodyPost_ret (results_none rfl _ _ _) rfl ?_
      have hW := WX.renew HX.out hb HKN.out rfl HNW.out HL.out rfl ⟨vc, HVV.out⟩ rfl
      have hg : B ≤ gn := (HX.out.nrow.lt gn rfl).1
      refine ⟨rfl, ⟨_, ⟨_, _, hW, rfl⟩, .inr (.inr (.inl ⟨HAC.out, va, vc, ?_⟩))⟩, ((bl_trans HB0.out hb).mono HBW.out).trans (Below.setCell (Below.refl B w5) hg _)⟩
      rw [pure_put, pure_len, ← HK.out]
      unfold PW.renewed
      rw [pure_at HKN.out, ← HP.out, pure_len]
  · have d : decide (r < 0) = false := decide_eq_false (by omega)
    subst h2
    go_upto_region 4 with fail
    clear d h1 hr'
    obtain ⟨vc, hvv⟩ := HX.out.va k HKN.out
    have hgs := HX.out.gs HKN.out HKN.out
    rw [HX.out.vs k HKN.out] at hgs
    obtain ⟨p, hp⟩ : ∃ p, p = X.at k := ⟨_, rfl⟩
    rw [← hp] at hgs hvv
    obtain ⟨va, hva⟩ : ∃ va, va = p.S.va := ⟨_, rfl⟩
    rw [← hva] at hvv hgs
    have HVV := Lib.hid (show vv = .slice va X.ns.length vc from hvv)
    have HGS := Lib.hid hgs.at_
    have HP := Lib.hid hp
    have HPT := Lib.hid (row_at HKN.out)
    have p0 : ∀ W, Below w0.heap.size w0 W → W.cell? ⟨wb, 0, none⟩ = some (.slice va N vc) := fun W h => by rw [HNN.out, ← HVV.out]; exact blk_cell (blk_below HX.out.blk h (blk_lt HX.out.blk)) 0
    have p1 : ∀ W, Below w0.heap.size w0 W → W.cell? ⟨wb, 1, none⟩ = some (.slice none 0 0) := fun W h => blk_cell (blk_below HX.out.blk h (blk_lt HX.out.blk)) 1
    have pn : ∀ W, Below w0.heap.size w0 W → W.cell? ⟨gn, k, none⟩ = some (.pointer (some ⟨p.b, 0, none⟩)) := fun W h => by rw [HP.out]; exact cell_keep h (row_cell HX.out.nrow HPT.out)
    have hk2 : (0 : Int) ≤ (k : Int) := by omega
    have hH := fun (W : World) (h : Below w0.heap.size w0 W) => (show Calls Try.prog 13 #[.pointer (some ⟨p.b, 0, none⟩)] W fun e w' => e = .returned (.agg #[.int .i64 p.S.term, .int .i64 p.S.vote]) ∧ Below W.heap.size W w' from by rw [HP.out]; exact hard_at ((HX.out.below h).node k HKN.out))
    have hNw := fun (W : World) (h : Below w0.heap.size w0 W) => (show Calls Try.prog 10 #[.int .i64 ((k : Int) + 1), .agg #[.int .i64 p.S.term, .int .i64 p.S.vote], .agg #[.slice va N vc, .slice none 0 0], .int .i64 3] W fun e w' => NewEnd W ((k : Int) + 1) p.S.term p.S.vote 3 (vsL X.ns.length) [] va vc none 0 e w' from by
      have h1 := new_at ((k : Int) + 1) p.S.term p.S.vote 3 (vsL X.ns.length) [] va vc none 0 W (HGS.out.keep h) (fun j hj => by simp at hj) (by rw [vsL_len]; have := HX.out.m7; unfold maxLen; omega) (by simp)
      rw [vsL_len] at h1
      rw [HNN.out]
      exact h1)
    clear hvv hgs hp hva
    go_upto_region 11 with fail
    refine wp_region_in (Below w0.heap.size w0) (fun i => i == 9 || i == 14) (by kernel_rfl) (by kernel_rfl) (by exact hb.drew) ?_
    intro hne hx
    replace hb := hb.drew
    change wpStg _ _ _ _ _ _ _ _ V1.drew
    obtain ⟨V3, hV⟩ : ∃ V, V = V1.drew := ⟨_, rfl⟩
    rw [← hV] at hb ⊢
    clear hV
    refine stg_seg 9 (by dsimp only [List.take]) (by dsimp only [List.drop]) (by rfl) ?_
    repeat (go_big_quiet_step (fail))
    refine wpQuiet_nil ?_
    refine stg_loud (by rfl) ?_
    go_wp2_with fail
    refine (hH _ hb).mono ?_; rintro e w4 ⟨rfl, hb4⟩
    replace hb := bl_trans hb hb4
    clear hb4
    go_wp2_with fail
    refine lq_in rfl (hb) ?_
    refine stg_seg 4 (by dsimp only [List.take]) (by dsimp only [List.drop]) (by rfl) ?_
    repeat (go_big_quiet_step (fail))
    refine wpQuiet_nil ?_
    refine stg_loud (by rfl) ?_
    go_wp2_with fail
    refine (hNw _ hb).mono ?_
    rintro e w5 (⟨_, rfl, hb5⟩ | ⟨hok, b', L', rfl, hN, hb5, hL⟩)
    · replace hb := bl_trans hb hb5
      clear hb5
      go_wp2_with fail
      refine lq_in rfl (hb) ?_
      refine stg_seg 5 (by dsimp only [List.take]) (by dsimp only [List.drop]) (by rfl) ?_
      repeat (go_big_quiet_step (fail))
      refine wpQuiet_nil ?_
      refine stg_nil ?_
      clear hne hx
      go_wp2_with fail
      try simp only [Exit.inBlock, Exit.then]
      first
        | refine bodyPost_end (results_none rfl _ _ _) rfl ?_
        | refine bodyPost_ret (results_none rfl _ _ _) rfl ?_
      exact ⟨rfl, ⟨X.pure, ⟨X, _, HX.out.below hb, rfl⟩, .inr (.inr (.inr (.inr ⟨HA0.out, rfl⟩)))⟩, (bl_trans HB0.out hb).mono HBW.out⟩
    · have HL := Lib.hid (show ∀ z, z ∈ L' → w0.heap.size ≤ z from fun z hz => Nat.le_trans hb.size (hL z hz))
      have HNW := Lib.hid hN
      replace hb := bl_trans hb hb5
      clear hb5 hL hN hok
      go_wp2_with fail
      refine lq_in rfl (hb) ?_
      refine stg_seg 5 (by dsimp only [List.take]) (by dsimp only [List.drop]) (by rfl) ?_
      repeat (go_big_quiet_step (fail))
      refine wpQuiet_nil ?_
      refine stg_nil ?_
      clear hne hx
      have hfr := ((HX.out.below hb).nrow).frozenAt (g := gn) (cap := cn) k
      have d2 := p2 _ hb
      have dn := pn _ hb
      clear hH hNw p0 p1 pn p2 q0 q1 q2 q3
      go_wp2_with fail
      try simp only [Exit.inBlock, Exit.then]
      first
        | refine bodyPost_end (results_none rfl _ _ _) rfl ?_
        | refine bodyPost_ret (results_none rfl _ _ _) rfl ?_
      have hW := WX.renew HX.out hb HKN.out rfl HNW.out HL.out rfl ⟨vc, HVV.out⟩ rfl
      have hg : B ≤ gn := (HX.out.nrow.lt gn rfl).1
      refine ⟨rfl, ⟨_, ⟨_, _, hW, rfl⟩, .inr (.inr (.inl ⟨HAC.out, va, vc, ?_⟩))⟩, ((bl_trans HB0.out hb).mono HBW.out).trans (Below.setCell (Below.refl B w5) hg _)⟩
      rw [pure_put, pure_len, ← HK.out]
      unfold PW.renewed
      rw [pure_at HKN.out, ← HP.out, pure_len]
theorem play_at {B : Nat} {w : World} {wb : Nat} {X : GX} {R : RV} (h : WX B w wb X R) (x : EvV) (hs : ∀ i, i < X.ns.length → Sane (X.at i).S 900) (hsl : X.sent.length ≤ 1000000) :
    Calls Try.prog 18 #[.pointer (some ⟨wb, 0, none⟩), .agg #[.int .i64 x.act, .int .i64 x.who, .int .i64 x.n, .int .i64 x.draw]] w fun e w' => e = .returned (.tuple #[]) ∧ (∃ P', WAt B w' wb P' ∧ Played X.pure x P') ∧ Below B w w' := by
  by_cases h0 : x.act = 0
  · exact play_k0 h x hs hsl h0
  by_cases h1 : x.act = 1
  · exact play_k1 h x hs hsl h1
  by_cases h2 : x.act = 2
  · exact play_k2 h x h2
  by_cases h3 : x.act = 3
  · exact play_k3 h x h3
  · exact play_k4 h x h0 h1 h2 h3
end Go.Proofs.Ytiamfdnllpiikaa
