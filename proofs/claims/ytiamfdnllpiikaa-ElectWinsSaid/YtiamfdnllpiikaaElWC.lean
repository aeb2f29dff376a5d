/- The group: come. Conditions: none. -/
import Derived.Test.YtiamfdnllpiikaaElW
import Derived.Test.YtiamfdnllpiikaaElSane
import Derived.Test.YtiamfdnllpiikaaStagedL
namespace Go.Proofs.Ytiamfdnllpiikaa
open Go.RowKit

/-- The group without its memory. -/
structure PW where
  ns : List Nd
  logs : List (Int × Int)
  sent : List Bal
  leads : List (Int × Int)
def GX.pure (X : GX) : PW := ⟨X.ns.map NP.S, X.logs, X.sent, X.leads⟩
def PW.at (P : PW) (i : Nat) : Nd := P.ns.getD i default
def PW.log (P : PW) (i : Nat) : Int × Int := P.logs.getD i (0, 0)
/-- Node k has gone on, and sent some. -/
def PW.gone (P : PW) (k : Nat) (r : Nd × List Bal) : PW := { P with ns := P.ns.set k r.1, sent := P.sent ++ r.2 }
def PW.take (P : PW) (k : Nat) (x : Bal) : PW := P.gone k ((P.at k).take x (P.log k).1 (P.log k).2)
def PW.tick (P : PW) (k : Nat) (draw : Int) : PW := P.gone k ((P.at k).tick draw (P.log k).1 (P.log k).2)
def PW.come (P : PW) (x : Bal) : PW := if x.dst < 1 ∨ P.ns.length < x.dst then P else P.take (x.dst - 1).toNat x
theorem pure_at {X : GX} {k : Nat} (hk : k < X.ns.length) : X.pure.at k = (X.at k).S := by
  unfold GX.pure PW.at GX.at
  rw [List.getD_eq_getElem?_getD, List.getElem?_map, List.getD_eq_getElem?_getD, List.getElem?_eq_getElem hk]
  rfl
theorem pure_len (X : GX) : X.pure.ns.length = X.ns.length := by simp [GX.pure]
theorem pure_set (X : GX) (k : Nat) (p : NP) (out : List Bal) : (⟨X.ns.set k p, X.logs, X.sent ++ out, X.leads⟩ : GX).pure = X.pure.gone k (p.S, out) := by
  simp [GX.pure, PW.gone, List.map_set]
def WAt (B : Nat) (w : World) (wb : Nat) (P : PW) : Prop := ∃ X R, WX B w wb X R ∧ X.pure = P
theorem pairs_get : ∀ {l : List (Int × Int)} {i : Nat}, i < l.length → (pairsC l)[i * 2]? = some (.int .i64 (l.getD i (0, 0)).1) ∧ (pairsC l)[i * 2 + 1]? = some (.int .i64 (l.getD i (0, 0)).2)
  | [], i, h => by simp at h
  | x :: r, 0, h => ⟨rfl, rfl⟩
  | x :: r, i + 1, h => by
    have := pairs_get (l := r) (i := i) (by simpa using h)
    have e : (i + 1) * 2 = (i * 2) + 1 + 1 := by omega
    rw [e]
    exact this
theorem run_len {S : Nd} (last lt : Int) : (S.run last lt).2.length ≤ S.vs.length := by
  unfold Nd.run
  split
  · simp
  · split
    · simp
    · show (S.stand.all 3 (S.term + 1) last lt).length ≤ _
      unfold Nd.all
      rw [List.length_map]
      exact List.length_filter_le _ _
theorem says_vs (S : Nd) (src : Int) (y : Bool) : (S.says src y).vs = S.vs := (says_g S src y).1
theorem counted_len {S : Nd} (last lt : Int) : (S.counted last lt).2.length ≤ S.vs.length := by
  unfold Nd.counted
  split
  · split
    · exact run_len last lt
    · simp
  · split <;> simp
theorem tick_len {S : Nd} (draw last lt : Int) : (S.tick draw last lt).2.length ≤ S.vs.length := by
  unfold Nd.tick
  split
  · simp
  · split
    · simp
    · split
      · exact run_len last lt
      · show ((S.hope draw).all 1 (S.term + 1) last lt).length ≤ _
        unfold Nd.all
        rw [List.length_map]
        exact List.length_filter_le _ _
theorem take_len {S : Nd} (x : Bal) (last lt : Int) : (S.take x last lt).2.length ≤ S.vs.length + 1 := by
  unfold Nd.take
  split
  · simp
  · split
    · split <;> simp
    · split
      · split
        · simp
        · split
          · have := counted_len (S := S.says x.src x.yes) last lt
            rw [says_vs] at this
            omega
          · simp
      · split
        · generalize (if S.term < x.term then S.down x.term else S) = T
          simp only
          split
          · simp
          · simp
        · split
          · split
            · simp
            · split <;> simp
          · simp
/-- What reads of the world see while node k and what was sent change. -/
structure Reads (M : List Nat) (w W : World) : Prop where
  chg : Chg M w W
set_option maxRecDepth 100000 in
set_option maxHeartbeats 4000000 in
theorem come_at {B : Nat} {w : World} {wb : Nat} {X : GX} {R : RV} (h : WX B w wb X R) (x : Bal) (hs : ∀ i, i < X.ns.length → Sane (X.at i).S 900) (hsl : X.sent.length ≤ 1000000) :
    Calls Try.prog 20 #[.pointer (some ⟨wb, 0, none⟩), .agg #[.int .i64 x.kind, .int .i64 x.src, .int .i64 x.dst, .int .i64 x.term, .int .i64 x.index, .int .i64 x.logTerm, .bool x.yes]] w fun e w' => e = .returned (.tuple #[]) ∧ WAt B w' wb (X.pure.come x) ∧ Below B w w' := by
  have hb0 := bl_alloc (Below.refl w.heap.size w) (.cells #[.int .i64 x.kind, .int .i64 x.src, .int .i64 x.dst, .int .i64 x.term, .int .i64 x.index, .int .i64 x.logTerm, .bool x.yes] 44)
  have HB0 := Lib.hid hb0
  have hblk := blk_new w (.cells #[.int .i64 x.kind, .int .i64 x.src, .int .i64 x.dst, .int .i64 x.term, .int .i64 x.index, .int .i64 x.logTerm, .bool x.yes] 44) rfl
  have hlt := blk_lt h.blk
  have HBL := Lib.hid (show ∀ i, i < X.ns.length → ¬ w.heap.size ∈ (X.at i).L from fun i hi hm => by have := (h.node i hi).low _ hm; omega)
  have h0 := h.below hb0
  obtain ⟨w0, hw0⟩ : ∃ w0, w0 = w.alloc (.cells #[.int .i64 x.kind, .int .i64 x.src, .int .i64 x.dst, .int .i64 x.term, .int .i64 x.index, .int .i64 x.logTerm, .bool x.yes] 44) := ⟨_, rfl⟩
  rw [← hw0] at hb0 h0 hblk HB0
  have HW0 := Lib.hid hw0
  have HBK := Lib.hid hblk
  have HX := Lib.hid h0
  have HSL := Lib.hid (fun g (hg : R.sv.ownBlock = some g) => (h.srow.lt g hg).2)
  have hwl := hlt
  clear hblk hw0 hlt hb0 h
  obtain ⟨vv, nv, lv, sv, dv⟩ := R
  have hN0 : 0 < X.ns.length := by have := h0.m1; omega
  obtain ⟨gn, cn, hnv, _⟩ : ∃ gn cn, nv = .slice (some ⟨gn, 0, none⟩) X.ns.length cn ∧ B ≤ gn := row_some h0.nrow hN0
  obtain ⟨gl, cl, hlv, _⟩ : ∃ gl cl, lv = .slice (some ⟨gl, 0, none⟩) X.ns.length cl ∧ B ≤ gl := row_some h0.lrow hN0
  obtain ⟨sa, sc, hsv⟩ : ∃ sa sc, sv = .slice sa X.sent.length sc := own_slice h0.srow
  subst hnv hlv hsv
  have q2 : ∀ W, Below w0.heap.size w0 W → W.cell? ⟨w.heap.size, 2, none⟩ = some (.int .i64 x.dst) := fun W h => blk_cell (blk_below HBK.out h (blk_lt HBK.out)) 2
  have p2 : ∀ W, Below w0.heap.size w0 W → W.cell? ⟨wb, 2, none⟩ = some (.slice (some ⟨gn, 0, none⟩) X.ns.length cn) := fun W h => blk_cell (blk_below HX.out.blk h (blk_lt HX.out.blk)) 2
  have hb := Below.refl w0.heap.size w0
  have hBw : B ≤ w.heap.size := by have := HX.out.hB; have := hwl; omega
  have HBW := Lib.hid hBw
  clear h0 hN0 hBw hwl
  by_cases c1 : x.dst < 1
  · have d1 : decide (x.dst < 1) = true := decide_eq_true c1
    have HE := Lib.hid (show X.pure.come x = X.pure by unfold PW.come; rw [if_pos (.inl c1)])
    clear c1
    go_enter Try.func20, Try.ntmps20
    go_wp2_with fail
    rw [← HW0.out]
    refine wp_region_in (Below w0.heap.size w0) (fun _ => false) (by kernel_rfl) (by kernel_rfl) (by exact hb.drew) ?_
    intro hne hx
    replace hb := hb.drew
    change wpStg _ _ _ _ _ _ _ _ w0.drew
    obtain ⟨V, hV⟩ : ∃ V, V = w0.drew := ⟨_, rfl⟩
    rw [← hV] at hb ⊢
    clear hV
    refine stg_seg 13 (by dsimp only [List.take]) (by dsimp only [List.drop]) (by rfl) ?_
    repeat (go_big_quiet_step (fail))
    refine wpQuiet_nil ?_
    refine stg_nil ?_
    clear hne hx
    go_wp2_with fail
    refine bodyPost_ret (results_none rfl _ _ _) rfl ?_
    exact ⟨rfl, by rw [HE.out]; exact ⟨X, _, HX.out.below hb, rfl⟩, (bl_trans HB0.out hb).mono HBW.out⟩
  have d1 : decide (x.dst < 1) = false := decide_eq_false c1
  have hlm : (X.ns.length : Int) ≤ 7 := by have := HX.out.m7; omega
  by_cases c2 : (X.ns.length : Int) < x.dst
  · have d2 : decide ((X.ns.length : Int) < x.dst) = true := decide_eq_true c2
    have HE := Lib.hid (show X.pure.come x = X.pure by unfold PW.come; rw [if_pos (.inr (by rw [pure_len]; exact c2))])
    clear c1 c2
    obtain ⟨N, hN⟩ : ∃ N, N = X.ns.length := ⟨_, rfl⟩
    rw [← hN] at d2 p2 hlm
    clear hN
    go_enter Try.func20, Try.ntmps20
    go_wp2_with fail
    rw [← HW0.out]
    refine wp_region_in (Below w0.heap.size w0) (fun _ => false) (by kernel_rfl) (by kernel_rfl) (by exact hb.drew) ?_
    intro hne hx
    replace hb := hb.drew
    change wpStg _ _ _ _ _ _ _ _ w0.drew
    obtain ⟨V, hV⟩ : ∃ V, V = w0.drew := ⟨_, rfl⟩
    rw [← hV] at hb ⊢
    clear hV
    refine stg_seg 13 (by dsimp only [List.take]) (by dsimp only [List.drop]) (by rfl) ?_
    repeat (go_big_quiet_step (fail))
    refine wpQuiet_nil ?_
    refine stg_nil ?_
    clear hne hx
    go_wp2_with fail
    refine bodyPost_ret (results_none rfl _ _ _) rfl ?_
    exact ⟨rfl, by rw [HE.out]; exact ⟨X, _, HX.out.below hb, rfl⟩, (bl_trans HB0.out hb).mono HBW.out⟩
  have d2 : decide ((X.ns.length : Int) < x.dst) = false := decide_eq_false c2
  obtain ⟨k, hk⟩ : ∃ k : Nat, x.dst = (k : Int) + 1 := ⟨(x.dst - 1).toNat, by omega⟩
  have hkN : k < X.ns.length := by omega
  have HE := Lib.hid (show X.pure.come x = X.pure.take k x by
    unfold PW.come
    rw [if_neg (by rw [pure_len]; omega), show (x.dst - 1).toNat = k by omega])
  have HKN := Lib.hid hkN
  obtain ⟨M, hM⟩ : ∃ M, M = (X.at k).L ++ (Value.slice sa X.sent.length sc).ownBlock.toList := ⟨_, rfl⟩
  have HM := Lib.hid hM
  have hmw : ¬ wb ∈ M := fun hm => by
    rw [hM] at hm
    rcases List.mem_append.1 hm with hm | hm
    · exact (HX.out.out k hkN wb hm).2.1 rfl
    · exact row_wb HX.out.srow HX.out.blk (by decide) (by simpa using hm)
  have HMW := Lib.hid hmw
  have hmn : ¬ gn ∈ M := fun hm => by
    rw [hM] at hm
    rcases List.mem_append.1 hm with hm | hm
    · exact (HX.out.out k hkN gn hm).2.2 _ (by simp [RV.all]; exact .inr (.inl rfl)) rfl
    · exact row_ne HX.out.srow HX.out.nrow (by decide) (by simpa using hm) rfl
  have HMN := Lib.hid hmn
  have hml : ¬ gl ∈ M := fun hm => by
    rw [hM] at hm
    rcases List.mem_append.1 hm with hm | hm
    · exact (HX.out.out k hkN gl hm).2.2 _ (by simp [RV.all]; exact .inr (.inr (.inl rfl))) rfl
    · exact row_ne HX.out.srow HX.out.lrow (by decide) (by simpa using hm) rfl
  have HML := Lib.hid hml
  have hmb : ¬ w.heap.size ∈ M := fun hm => by
    rw [hM] at hm
    rcases List.mem_append.1 hm with hm | hm
    · exact HBL.out k hkN hm
    · have := HSL.out w.heap.size (by simpa using hm); omega
  have HMB := Lib.hid hmb
  obtain ⟨lg, hlg⟩ : ∃ lg, lg = X.logs.getD k (0, 0) := ⟨_, rfl⟩
  have hpg := pairs_get (l := X.logs) (i := k) (by rw [HX.out.ll]; exact hkN)
  rw [← hlg] at hpg
  have hpt : (ptrs X.ns)[k]? = some (.pointer (some ⟨(X.at k).b, 0, none⟩)) := by
    unfold ptrs GX.at
    rw [List.getElem?_map, List.getD_eq_getElem?_getD, List.getElem?_eq_getElem hkN]
    rfl
  have HS := Lib.hid (hs k hkN)
  have HVS := Lib.hid (show ((X.at k).S.take x lg.1 lg.2).2.length ≤ 8 by
    have h1 := take_len (S := (X.at k).S) x lg.1 lg.2
    rw [HX.out.vs k hkN, vsL_len] at h1
    have := HX.out.m7
    omega)
  obtain ⟨p, hp⟩ : ∃ p, p = X.at k := ⟨_, rfl⟩
  rw [← hp] at hpt hM
  have HP := Lib.hid hp
  have HPG := Lib.hid hpg
  have HPT := Lib.hid hpt
  have HLG := Lib.hid hlg
  rw [hk] at d1 d2
  have q2' : ∀ W, Below w0.heap.size w0 W → W.cell? ⟨w.heap.size, 2, none⟩ = some (.int .i64 ((k : Int) + 1)) := fun W h => by rw [← hk]; exact q2 W h
  have HKX := Lib.hid hk
  have hk7 : (k : Int) < 7 := by omega
  obtain ⟨N, hN⟩ : ∃ N, N = X.ns.length := ⟨_, rfl⟩
  have hkN' : (k : Int) < N := by omega
  rw [← hN] at d2 p2 hlm
  have HNN := Lib.hid hN
  clear c1 c2 hM hmw hmn hml hmb hlg hpg hpt hp hk hkN hN q2
  go_enter Try.func20, Try.ntmps20
  go_wp2_with fail
  rw [← HW0.out]
  refine wp_region_in (Below w0.heap.size w0) (fun _ => false) (by kernel_rfl) (by kernel_rfl) (by exact hb.drew) ?_
  intro hne hx
  replace hb := hb.drew
  change wpStg _ _ _ _ _ _ _ _ w0.drew
  obtain ⟨V1, hV⟩ : ∃ V, V = w0.drew := ⟨_, rfl⟩
  rw [← hV] at hb ⊢
  clear hV
  refine stg_seg 13 (by dsimp only [List.take]) (by dsimp only [List.drop]) (by rfl) ?_
  repeat (go_big_quiet_step (fail))
  refine wpQuiet_nil ?_
  refine stg_nil ?_
  clear hne hx
  go_upto_region 3 with fail
  have HX1 := Lib.hid (HX.out.below hb)
  have HBK1 := Lib.hid (blk_below HBK.out hb (blk_lt HBK.out))
  have HB1 := Lib.hid (hb)
  clear p2 q2' hb
  have p2 : ∀ W, Chg M V1 W → W.cell? ⟨wb, 2, none⟩ = some (.slice (some ⟨gl, 0, none⟩) N cl) ∨ True := fun _ _ => .inr trivial
  clear p2
  have p1 : ∀ W, Chg M V1 W → W.cell? ⟨wb, 2, none⟩ = some (.slice (some ⟨gn, 0, none⟩) N cn) := fun W h => by rw [HNN.out]; exact blk_cell (h.blk HX1.out.blk HMW.out) 2
  have p3 : ∀ W, Chg M V1 W → W.cell? ⟨wb, 3, none⟩ = some (.slice (some ⟨gl, 0, none⟩) N cl) := fun W h => by rw [HNN.out]; exact blk_cell (h.blk HX1.out.blk HMW.out) 3
  have p4 : ∀ W, Chg M V1 W → W.cell? ⟨wb, 4, none⟩ = some (.slice sa X.sent.length sc) := fun W h => blk_cell (h.blk HX1.out.blk HMW.out) 4
  have pn : ∀ W, Chg M V1 W → W.cell? ⟨gn, k, none⟩ = some (.pointer (some ⟨p.b, 0, none⟩)) := fun W h => h.cell (row_cell HX1.out.nrow HPT.out) HMN.out
  have pl : ∀ W, Chg M V1 W → W.cell? ⟨gl, k * 2, none⟩ = some (.int .i64 lg.1) := fun W h => h.cell (row_cell HX1.out.lrow HPG.out.1) HML.out
  have pm : ∀ W, Chg M V1 W → W.cell? ⟨gl, k * 2 + 1, none⟩ = some (.int .i64 lg.2) := fun W h => h.cell (row_cell HX1.out.lrow HPG.out.2) HML.out
  have b0 : ∀ W, Chg M V1 W → W.cell? ⟨w.heap.size, 0, none⟩ = some (.int .i64 x.kind) := fun W h => blk_cell (h.blk HBK1.out HMB.out) 0
  have b1 : ∀ W, Chg M V1 W → W.cell? ⟨w.heap.size, 1, none⟩ = some (.int .i64 x.src) := fun W h => blk_cell (h.blk HBK1.out HMB.out) 1
  have b2 : ∀ W, Chg M V1 W → W.cell? ⟨w.heap.size, 2, none⟩ = some (.int .i64 x.dst) := fun W h => blk_cell (h.blk HBK1.out HMB.out) 2
  have b3 : ∀ W, Chg M V1 W → W.cell? ⟨w.heap.size, 3, none⟩ = some (.int .i64 x.term) := fun W h => blk_cell (h.blk HBK1.out HMB.out) 3
  have b4 : ∀ W, Chg M V1 W → W.cell? ⟨w.heap.size, 4, none⟩ = some (.int .i64 x.index) := fun W h => blk_cell (h.blk HBK1.out HMB.out) 4
  have b5 : ∀ W, Chg M V1 W → W.cell? ⟨w.heap.size, 5, none⟩ = some (.int .i64 x.logTerm) := fun W h => blk_cell (h.blk HBK1.out HMB.out) 5
  have b6 : ∀ W, Chg M V1 W → W.cell? ⟨w.heap.size, 6, none⟩ = some (.bool x.yes) := fun W h => blk_cell (h.blk HBK1.out HMB.out) 6
  have hk2 : (0 : Int) ≤ (k : Int) := by omega
  refine wp_region_last 33 (Chg M V1) (fun i => i == 29 || i == 30) (by kernel_rfl) (by rfl) (by kernel_rfl) (by kernel_rfl) (by exact (Chg.refl M V1).drew) ?_
  simp only [List.take_succ_cons, List.take_zero]
  intro hne hx
  change wpStg _ _ _ _ _ _ _ _ V1.drew
  have hc : Chg M V1 V1.drew := (Chg.refl M V1).drew
  have hbV : Below V1.heap.size V1 V1.drew := (Below.refl _ V1).drew
  obtain ⟨V2, hV⟩ : ∃ V, V = V1.drew := ⟨_, rfl⟩
  rw [← hV] at hc hbV ⊢
  have HX2 := Lib.hid (HX1.out.below hbV)
  have HBV := Lib.hid hbV
  clear hV hbV
  refine stg_seg 29 (by dsimp only [List.take]) (by dsimp only [List.drop]) (by rfl) ?_
  repeat (go_big_quiet_step (fail))
  refine wpQuiet_nil ?_
  refine stg_loud (by rfl) ?_
  go_wp2_with fail
  have hS := HS.out
  rw [← HP.out] at hS
  refine (take_at (by have := HX2.out.node k HKN.out; rw [← HP.out] at this; exact this) hS.t0 hS.t9 (by have := hS.vl; omega) (by have := hS.yl; omega) (by have := hS.nl; omega) x lg.1 lg.2).mono ?_
  rintro e w2 ⟨v, rfl, L', hN2, k2, hL2, hv2, ho2⟩
  clear hS
  have k2' := k2.wider (L' := M) (fun y hy => by rw [HM.out, ← HP.out]; exact List.mem_append_left _ hy)
  have hX3 := HX2.out.move HKN.out (S' := (p.S.take x lg.1 lg.2).1) (L' := L') (by rw [← HP.out]; exact hN2) (by rw [← HP.out]; exact k2) (by rw [← HP.out]; exact hL2) (by rw [← HP.out]; exact take_g p.S x lg.1 lg.2)
  replace hc := hc.trans k2'
  have HX3 := Lib.hid hX3
  have HK2 := Lib.hid k2
  have HV2 := Lib.hid hv2
  clear k2' k2 hL2 hN2 hv2 ho2 hX3
  go_wp2_with fail
  refine lq_in rfl (hc) ?_
  refine stg_loud (by rfl) ?_
  go_wp2_with (at_builtin; go_loud (refine wpList_apps rfl _ _ 32 rfl B 44 Try.underlying32 Try.infoBal rfl (by decide) rfl HX3.out.srow rfl HV2.out balsC_one (by have := HVS.out; rw [← HP.out] at this; unfold maxLen; show X.sent.length + _ ≤ _; omega) (by have := HVS.out; rw [← HP.out] at this; show (X.sent.length + _) * 56 ≤ _; omega) (by have h1 := HX3.out.hB; have h2 := blk_lt HX3.out.blk; omega) ?_); intro v1 w4 hown1 hgrow hat1)
  replace hgrow : w2.grownBy w4 (Value.slice sa X.sent.length sc).ownBlock := hgrow
  obtain ⟨va1, vc1, rfl⟩ := own_slice hown1
  have HOW := Lib.hid hown1
  have HGR := Lib.hid hgrow
  have HAT := Lib.hid hat1
  have hb4 : w4.heap[wb]? = some (.cells #[vv, .slice none 0 0, .slice (some ⟨gn, 0, none⟩) X.ns.length cn, .slice (some ⟨gl, 0, none⟩) X.ns.length cl, .slice sa X.sent.length sc, dv] 56 (0, 0)) :=
    (hgrow.block wb (blk_lt HX3.out.blk) (Ne.symm (row_wb HX3.out.srow HX3.out.blk (by decide)))).trans HX3.out.blk
  have hfr := blk_frozen hb4
  have d4 := blk_cell hb4 4
  simp only [List.getElem?_toArray, List.getElem?_cons_zero, List.getElem?_cons_succ] at d4
  have hc4 : Chg M V1 w4 := hc.grown hgrow (fun g hg => .inl (by rw [HM.out]; exact List.mem_append_right _ (by rw [hg]; simp)))
  clear hown1 hgrow hat1 hb4 hc
  refine lq_in rfl (hc4) ?_
  clear hc4
  refine stg_seg 2 (by dsimp only [List.take]) (by dsimp only [List.drop]) (by rfl) ?_
  repeat (go_big_quiet_step (fail))
  refine wpQuiet_nil ?_
  refine stg_nil ?_
  clear hne hx
  intro _ hxx
  clear hxx p1 p3 p4 pn pl pm b0 b1 b2 b3 b4 b5 b6
  go_wp2_with fail
  try simp only [Exit.inBlock, Exit.then]
  first
    | refine bodyPost_end (results_none rfl _ _ _) rfl ?_
    | refine bodyPost_ret (results_none rfl _ _ _) rfl ?_
  have hW := HX3.out.sentMore HOW.out HGR.out HAT.out
  refine ⟨rfl, ⟨_, _, hW, ?_⟩, ?_⟩
  · rw [HE.out]
    refine (pure_set X k _ _).trans ?_
    unfold PW.take PW.log
    rw [pure_at HKN.out, ← HP.out, show X.pure.logs = X.logs from rfl, ← HLG.out]
  · have h1 : Below B w V1 := (bl_trans HB0.out HB1.out).mono HBW.out
    have hs1 := HBV.out.size
    have hs2 := HB1.out.size
    have hs0 := HB0.out.size
    have hBw := HBW.out
    have h2 : Below B V1 V2 := HBV.out.mono (by omega)
    have h3 : Below B V2 w2 := HK2.out.to_below (by omega) (fun y hy => (HX2.out.out k HKN.out y (by rw [← HP.out]; exact hy)).1)
    have h4 : Below B w2 w4 := own_below HX3.out.srow HGR.out (by have := HK2.out.size; omega)
    exact (((h1.trans h2).trans h3).trans h4).trans (Below.setCell (Below.refl B w4) HX3.out.hB _)
end Go.Proofs.Ytiamfdnllpiikaa
