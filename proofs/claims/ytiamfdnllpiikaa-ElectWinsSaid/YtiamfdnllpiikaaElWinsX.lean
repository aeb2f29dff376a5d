/- ElectWins: of a fresh group who ticks alone is leader just if most have logs that are not newer. Conditions: none. -/
import Derived.Test.YtiamfdnllpiikaaElWinsW
namespace Go.Proofs.Ytiamfdnllpiikaa
open Go.RowKit
theorem votes_succ (m : Nat) (up : Nat → Bool) : votes (m + 1) up = votes m up + if up m then 1 else 0 := by
  unfold votes
  rw [List.range_succ, List.countP_append, List.countP_singleton]
theorem votes_le (m : Nat) (up : Nat → Bool) : votes m up ≤ m := by
  unfold votes
  have := List.countP_le_length (p := up) (l := List.range m)
  simpa using this
set_option maxRecDepth 100000 in
set_option maxHeartbeats 4000000 in
theorem electWins_at (many who : Int) (ad : Option Addr) (l : List (Int × Int)) (cap : Nat) (w : World) (hl : ItemsAt w ad l.length 2 (fun i => pairC (l.getD i (0, 0)))) (hlm : l.length ≤ maxLen) :
    Calls Try.prog 7 #[.int .i64 many, .int .i64 who, .slice ad l.length cap] w fun e w' => e = .returned (.bool true) ∧ Below w.heap.size w w' := by
  by_cases h1 : many < 1
  · go_enter Try.func7, Try.ntmps7
    go_wp2_with fail
    refine (awake_at _).mono ?_; rintro e w1 ⟨rfl, hb1⟩
    go_wp2_with fail
    go_ret
    exact ⟨rfl, hb1⟩
  have d1 : decide (many < 1) = false := decide_eq_false h1
  by_cases h7 : 7 < many
  · go_enter Try.func7, Try.ntmps7
    go_wp2_with fail
    refine (awake_at _).mono ?_; rintro e w1 ⟨rfl, hb1⟩
    go_wp2_with fail
    go_ret
    exact ⟨rfl, hb1⟩
  have d7 : decide (7 < many) = false := decide_eq_false h7
  by_cases hw0 : who < 0
  · go_enter Try.func7, Try.ntmps7
    go_wp2_with fail
    refine (awake_at _).mono ?_; rintro e w1 ⟨rfl, hb1⟩
    go_wp2_with fail
    go_ret
    exact ⟨rfl, hb1⟩
  have dw : decide (who < 0) = false := decide_eq_false hw0
  obtain ⟨N, hN⟩ : ∃ N : Nat, many = N := ⟨many.toNat, by omega⟩
  have HN1 := Lib.hid (show 1 ≤ N by omega)
  have HN7 := Lib.hid (show N ≤ 7 by omega)
  subst hN
  obtain ⟨k, hk⟩ : ∃ k : Nat, Int.tmod who (N : Int) = k := ⟨(Int.tmod who N).toNat, by
    have := Int.tmod_nonneg (N : Int) (show 0 ≤ who by omega)
    omega⟩
  have hkN : k < N := by
    have := Int.tmod_lt_of_pos who (show (0 : Int) < N by omega)
    omega
  have HKN := Lib.hid hkN
  have hN1 : (1 : Int) ≤ N := by omega
  have hN7 : (N : Int) ≤ 7 := by omega
  clear h1 h7 hw0 hkN
  have HL := Lib.hid hl
  have HLM := Lib.hid hlm
  clear hl hlm
  go_enter Try.func7, Try.ntmps7
  go_wp2_with fail
  refine (awake_at _).mono ?_; rintro e w1 ⟨rfl, hb1⟩
  go_wp2_with fail
  refine (world_at N HN1.out HN7.out ad l cap w1 (HL.out.keep hb1) HLM.out).mono ?_
  rintro e w2 ⟨wb, va, vc, rfl, hW, hb2⟩
  have HB1 := Lib.hid hb1
  have HW0 := Lib.hid hW
  have HB2 := Lib.hid hb2
  obtain ⟨P0, hP0⟩ : ∃ P0, P0 = begun N l va vc := ⟨_, rfl⟩
  have HP0 := Lib.hid hP0
  rw [← hP0] at HW0
  clear hb1 hW hb2 d1 d7 dw hP0
  go_wp2_with fail
  go_loopg [10] 3 (fun g i wr => ∃ m : Nat, m ≤ 3 ∧ g = 3 - m ∧ i = .int .i64 m ∧ Below w1.heap.size w1 wr ∧ WAt w1.heap.size wr wb (P0.ticks k m) ∧ (∃ V, Inv N V (P0.ticks k m)) ∧ (∀ i, i < N → Sane ((P0.ticks k m).at i) m) ∧ (P0.ticks k m).sent.length ≤ 100 * m)
  case atStart => exact ⟨0, by omega, by omega, rfl, HB2.out, HW0.out, ⟨_, by rw [HP0.out]; exact Inv.begun N l va vc⟩, fun i hi => by
      rw [HP0.out]
      show Sane ((begun N l va vc).at i) _
      rw [begun_at l va vc hi]
      exact new_sane (by omega) (by omega) (by omega) (by unfold maxIx; omega) (by rw [vsL_len]; have := HN7.out; omega), by rw [HP0.out]; simp [PW.ticks, begun]⟩
  case round =>
    clear HW0 HB2
    obtain ⟨m, hm0, hgm, rfl, hb, ⟨X, R, hX, hXP⟩, ⟨V, hI⟩, hS, hsl⟩ := hrel
    have hXN : X.ns.length = N := by rw [← pure_len, hXP]; exact hI.n
    have HGM := Lib.hid hgm
    have HB := Lib.hid hb
    have HI := Lib.hid hI
    have HS := Lib.hid hS
    have HSL := Lib.hid hsl
    have HXP := Lib.hid hXP
    have HX := Lib.hid hX
    have HXN := Lib.hid hXN
    clear hgm hb hI hS hsl hXP hX hXN
    by_cases hm : m < 3
    · have hm1 : decide ((m : Int) < 3) = true := decide_eq_true (by omega)
      have hp := play_at HX.out (⟨0, (k : Int), 0, 0⟩ : EvV) (fun i hi => by
        have h1 := HS.out i (by rw [← HXN.out]; exact hi)
        rw [← HXP.out, pure_at hi] at h1
        exact h1.more (by omega)) (by have := HSL.out; rw [← HXP.out] at this; have h2 : X.pure.sent = X.sent := rfl; rw [h2] at this; omega)
      have HP := Lib.hid (show Calls Try.prog 18 #[.pointer (some ⟨wb, 0, none⟩), .agg #[.int .i64 0, .int .i64 k, .int .i64 0, .int .i64 0]] wr fun e w' => e = .returned (.tuple #[]) ∧ (∃ P', WAt w1.heap.size w' wb P' ∧ Played X.pure (⟨0, (k : Int), 0, 0⟩ : EvV) P') ∧ Below w1.heap.size wr w' from hp)
      clear hp
      go_wp2_with fail
      refine HP.out.mono ?_
      rintro e w3 ⟨rfl, ⟨P', hW', hpl⟩, hb3⟩
      rw [HXP.out] at hpl
      have hgo := HI.out.played HN1.out HN7.out HS.out hpl
      have hP' : P' = P0.ticks k (m + 1) := by
        rcases hpl with ⟨_, h⟩ | ⟨h, _⟩ | ⟨h, _⟩ | ⟨h, _⟩ | ⟨h, _⟩
        · rw [h, HI.out.n, turn_self HKN.out]; rfl
        · cases h
        · cases h
        · cases h
        · exact absurd rfl h
      have hlen : P'.sent.length ≤ 100 * (m + 1) := by
        have h1 := HSL.out
        have h2 := tick_len (S := (P0.ticks k m).at k) 0 ((P0.ticks k m).log k).1 ((P0.ticks k m).log k).2
        have hvs := (HI.out.loc k HKN.out).vs
        rw [hvs, vsL_len] at h2
        rw [hP']
        show ((P0.ticks k m).sent ++ _).length ≤ _
        rw [List.length_append]
        have := HN7.out
        omega
      rw [hP'] at hW' hgo hlen
      have HW' := Lib.hid hW'
      have HGO := Lib.hid hgo
      have HLEN := Lib.hid hlen
      have HB3 := Lib.hid hb3
      clear hpl hP' hW' hgo hlen hb3
      go_wp2_with fail
      go_roundg (3 - (m + 1))
      case measure => have := HGM.out; omega
      case rel => exact ⟨m + 1, by omega, rfl, by go_num, HB.out.trans HB3.out, HW'.out, HGO.out.1, fun i hi => by
          rw [show ((m + 1 : Nat) : Int) = (m : Int) + 1 by omega]
          exact HGO.out.2.1 i hi, HLEN.out⟩
    · obtain rfl : m = 3 := by omega
      have HST := Lib.hid (show Stage N k (fun j => l.getD j (0, 0)) (P0.ticks k 3) 0 by rw [HP0.out]; exact Stage.begin HN1.out HN7.out HKN.out l va vc)
      have HWA := Lib.hid (show WAt w1.heap.size wr wb (P0.ticks k 3) from ⟨X, R, HX.out, HXP.out⟩)
      have HIV := Lib.hid (show ∃ V, Inv N V (P0.ticks k 3) from ⟨V, HI.out⟩)
      have HSA := Lib.hid HS.out
      obtain ⟨P3, hP3⟩ : ∃ P3, P3 = P0.ticks k 3 := ⟨_, rfl⟩
      rw [← hP3] at HST HWA HIV HSA
      have HB0 := Lib.hid HB.out
      clear hP3 HX HXP HXN HI HS HSL HGM HB hm hm0 R V X
      go_wp2_with fail
      go_loopg [11] 24 (fun g i wr => ∃ m : Nat, m ≤ 24 ∧ g = 24 - m ∧ i = .int .i64 m ∧ Below w1.heap.size w1 wr ∧ ∃ P, WAt w1.heap.size wr wb P ∧ (∃ V, Inv N V P) ∧ (∀ i, i < N → Sane (P.at i) ((3 + m : Nat) : Int)) ∧ Stage N k (fun j => l.getD j (0, 0)) P m)
      case atStart => exact ⟨0, by omega, by omega, rfl, HB0.out, P3, HWA.out, HIV.out, HSA.out, HST.out⟩
      case round =>
        clear HST HWA HIV HSA HB0 P3
        obtain ⟨m, hm0, hgm, rfl, hb, P, ⟨X, R, hX, rfl⟩, ⟨V, hI⟩, hS, hst⟩ := hrel
        have hXN : X.ns.length = N := by rw [← pure_len]; exact hI.n
        have hsh := hst.short HN7.out
        have hmle : m ≤ X.sent.length := by
          obtain ⟨_, _, D, T, h3, h4, _⟩ := hst
          have h5 : X.sent = D ++ T := h3
          rw [h5, List.length_append]
          omega
        replace hsh : X.sent.length ≤ 24 := hsh
        have HGM := Lib.hid hgm
        have HB := Lib.hid hb
        have HI := Lib.hid hI
        have HS := Lib.hid hS
        have HST := Lib.hid hst
        have HX := Lib.hid hX
        have HXN := Lib.hid hXN
        obtain ⟨vv, nv, lv, sv, dv⟩ := R
        obtain ⟨sa, sc, hsv⟩ : ∃ sa sc, sv = .slice sa X.sent.length sc := own_slice hX.srow
        subst hsv
        have p4 : wr.cell? ⟨wb, 4, none⟩ = some (.slice sa X.sent.length sc) := blk_cell hX.blk 4
        obtain ⟨SL, hSL⟩ : ∃ SL, SL = X.sent.length := ⟨_, rfl⟩
        have HSLE := Lib.hid hSL
        rw [← hSL] at p4 hsh hmle
        clear hgm hb hI hS hst hX hXN hSL
        by_cases hm : m < SL
        · have hm1 : decide ((m : Int) < SL) = true := decide_eq_true (by omega)
          have hm2 : decide ((m : Int) < 1000) = true := decide_eq_true (by omega)
          have hm3 : (0 : Int) ≤ (m : Int) := by omega
          have hm4 : (m : Int) < SL := by omega
          have hmS : m < X.sent.length := by rw [← HSLE.out]; exact hm
          have HMS := Lib.hid hmS
          obtain ⟨gs, cs, he, _⟩ := row_some HX.out.srow (show 0 < X.sent.length by omega)
          injection he with he1 _ he2
          subst he1 he2
          obtain ⟨y, hy⟩ : ∃ y, y = X.sent.getD m default := ⟨_, rfl⟩
          have hcell := fun (j : Nat) (u : Value) (hu : (balC y)[j]? = some u) => row_cell HX.out.srow (balsC_get hmS (j := j) (u := u) (by rw [← hy]; exact hu))
          have s0 : wr.cell? ⟨gs, m * 7, none⟩ = some (.int .i64 y.kind) := hcell 0 _ rfl
          have s1 : wr.cell? ⟨gs, m * 7 + 1, none⟩ = some (.int .i64 y.src) := hcell 1 _ rfl
          have s2 : wr.cell? ⟨gs, m * 7 + 2, none⟩ = some (.int .i64 y.dst) := hcell 2 _ rfl
          have s3 : wr.cell? ⟨gs, m * 7 + 3, none⟩ = some (.int .i64 y.term) := hcell 3 _ rfl
          have s4 : wr.cell? ⟨gs, m * 7 + 4, none⟩ = some (.int .i64 y.index) := hcell 4 _ rfl
          have s5 : wr.cell? ⟨gs, m * 7 + 5, none⟩ = some (.int .i64 y.logTerm) := hcell 5 _ rfl
          have s6 : wr.cell? ⟨gs, m * 7 + 6, none⟩ = some (.bool y.yes) := hcell 6 _ rfl
          have hcm := come_at HX.out y (fun i hi => by
            have h1 := HS.out i (by rw [← HXN.out]; exact hi)
            rw [pure_at hi] at h1
            exact h1.more (by omega)) (by have := HSLE.out; omega)
          have HC := Lib.hid hcm
          have HY := Lib.hid hy
          clear hcell hy hmS hcm
          go_wp2_with fail
          refine HC.out.mono ?_
          rintro e w3 ⟨rfl, hW', hb3⟩
          have hpl : Played X.pure (⟨1, 0, (m : Int), 0⟩ : EvV) (X.pure.come y) := .inr (.inl ⟨rfl, by show (0 : Int) ≤ m; omega, by show (m : Int) < X.sent.length; have := HMS.out; omega, by rw [HY.out]; rfl⟩)
          have hgo := HI.out.played HN1.out HN7.out HS.out hpl
          have hnx := HST.out.next HN1.out HN7.out HKN.out HMS.out
          have hnx' : Stage N k (fun j => l.getD j (0, 0)) (X.pure.come y) (m + 1) := by rw [HY.out]; exact hnx
          have HW' := Lib.hid hW'
          have HGO := Lib.hid hgo
          have HNX := Lib.hid hnx'
          have HB3 := Lib.hid hb3
          clear hpl hW' hgo hnx hnx' hb3
          go_wp2_with fail
          go_roundg (24 - (m + 1))
          case measure => have := HGM.out; omega
          case rel => exact ⟨m + 1, by omega, rfl, by go_num, HB.out.trans HB3.out, _, HW'.out, HGO.out.1, fun i hi => by
              rw [show ((3 + (m + 1) : Nat) : Int) = ((3 + m : Nat) : Int) + 1 by omega]
              exact HGO.out.2.1 i hi, HNX.out⟩
        · obtain rfl : m = SL := by omega
          have hm1 : decide ((m : Int) < (m : Int)) = false := decide_eq_false (by omega)
          have HD := Lib.hid (show (X.pure.at k).role = 3 ↔ N / 2 < votes N (fun j => upB (l.getD k (0, 0)) (l.getD j (0, 0))) from Stage.done HN1.out HN7.out (by have h := HST.out; rw [HSLE.out] at h; exact h))
          obtain ⟨up, hup⟩ : ∃ up : Nat → Bool, up = fun j => upB (l.getD k (0, 0)) (l.getD j (0, 0)) := ⟨_, rfl⟩
          rw [← hup] at HD
          have HUP := Lib.hid hup
          have hlg : ∀ j, j < N → X.logs.getD j (0, 0) = l.getD j (0, 0) := fun j hj => HST.out.2.1 j hj
          have HLG := Lib.hid hlg
          obtain ⟨gl, cl, hlv, _⟩ : ∃ gl cl, lv = .slice (some ⟨gl, 0, none⟩) X.ns.length cl ∧ w1.heap.size ≤ gl := row_some HX.out.lrow (by rw [HXN.out]; exact HN1.out)
          subst hlv
          obtain ⟨W3, hW3⟩ : ∃ W3, W3 = wr := ⟨_, rfl⟩
          rw [← hW3] at HX HB p4 ⊢
          clear hW3 hup hlg
          have hbl := Below.refl W3.heap.size W3
          have HXL : X.logs.length = N := by rw [HX.out.ll, HXN.out]
          go_wp2_with fail
          go_loopg [12, 13] N (fun g v i wr => Below W3.heap.size W3 wr ∧ ∃ m : Nat, m ≤ N ∧ g = N - m ∧ i = .int .i64 m ∧ v = .int .i64 (votes m up))
          case atStart => exact ⟨hbl, 0, by omega, by omega, rfl, rfl⟩
          case round =>
            clear hbl p4 hm1 hm hm0 hmle HGM
            obtain ⟨hb, m, hm0, hgm, rfl, rfl⟩ := hrel
            have HGM := Lib.hid hgm
            clear hgm
            have hmv := votes_le m up
            by_cases hm : m < N
            · have hm1 : decide ((m : Int) < N) = true := decide_eq_true (by omega)
              have hm2 : (0 : Int) ≤ (m : Int) := by omega
              have hm4 : (m : Int) < N := by omega
              have hk2 : (0 : Int) ≤ (k : Int) := by omega
              have hk4 : (k : Int) < N := by have := HKN.out; omega
              obtain ⟨a, ha⟩ : ∃ a, a = l.getD m (0, 0) := ⟨_, rfl⟩
              obtain ⟨b, hbk⟩ : ∃ b, b = l.getD k (0, 0) := ⟨_, rfl⟩
              have hpa := pairs_get (l := X.logs) (i := m) (by rw [HXL]; exact hm)
              rw [HLG.out m hm, ← ha] at hpa
              have hpb := pairs_get (l := X.logs) (i := k) (by rw [HXL]; exact HKN.out)
              rw [HLG.out k HKN.out, ← hbk] at hpb
              have hum : up m = (decide (a.2 < b.2) || (decide (b.2 = a.2) && decide (a.1 ≤ b.1))) := by rw [HUP.out, ha, hbk]; rfl
              have HUM := Lib.hid hum
              have p3 : ∀ W, Below W3.heap.size W3 W → W.cell? ⟨wb, 3, none⟩ = some (.slice (some ⟨gl, 0, none⟩) N cl) := fun W h => by rw [← HXN.out]; exact blk_cell (blk_below HX.out.blk h (blk_lt HX.out.blk)) 3
              have a0 : ∀ W, Below W3.heap.size W3 W → W.cell? ⟨gl, m * 2, none⟩ = some (.int .i64 a.1) := fun W h => cell_keep h (row_cell HX.out.lrow hpa.1)
              have a1 : ∀ W, Below W3.heap.size W3 W → W.cell? ⟨gl, m * 2 + 1, none⟩ = some (.int .i64 a.2) := fun W h => cell_keep h (row_cell HX.out.lrow hpa.2)
              have b0 : ∀ W, Below W3.heap.size W3 W → W.cell? ⟨gl, k * 2, none⟩ = some (.int .i64 b.1) := fun W h => cell_keep h (row_cell HX.out.lrow hpb.1)
              have b1 : ∀ W, Below W3.heap.size W3 W → W.cell? ⟨gl, k * 2 + 1, none⟩ = some (.int .i64 b.2) := fun W h => cell_keep h (row_cell HX.out.lrow hpb.2)
              clear ha hbk hpa hpb hum
              go_upto_region 21 with fail
              change Code.wp _ _ _ _ (wr.alloc (.cells #[.int .i64 a.1, .int .i64 a.2] 42))
              have hk1 : (wr.alloc (.cells #[.int .i64 a.1, .int .i64 a.2] 42)).heap[wr.heap.size]? = some (.cells #[.int .i64 a.1, .int .i64 a.2] 42) := blk_new wr _ rfl
              replace hb := bl_alloc hb (.cells #[.int .i64 a.1, .int .i64 a.2] 42)
              obtain ⟨n1, hn1⟩ : ∃ n1, n1 = wr.heap.size := ⟨_, rfl⟩
              obtain ⟨V1, hV1⟩ : ∃ V1, V1 = wr.alloc (.cells #[.int .i64 a.1, .int .i64 a.2] 42) := ⟨_, rfl⟩
              rw [← hV1] at hb
              rw [← hV1, ← hn1] at hk1 ⊢
              clear hV1 hn1
              go_upto_region 22 with fail
              change Code.wp _ _ _ _ (V1.alloc (.cells #[.int .i64 b.1, .int .i64 b.2] 42))
              have hk2' : (V1.alloc (.cells #[.int .i64 b.1, .int .i64 b.2] 42)).heap[V1.heap.size]? = some (.cells #[.int .i64 b.1, .int .i64 b.2] 42) := blk_new V1 _ rfl
              have hk3 := blk_alloc hk1 (.cells #[.int .i64 b.1, .int .i64 b.2] 42)
              replace hb := bl_alloc hb (.cells #[.int .i64 b.1, .int .i64 b.2] 42)
              obtain ⟨n2, hn2⟩ : ∃ n2, n2 = V1.heap.size := ⟨_, rfl⟩
              obtain ⟨V2, hV2⟩ : ∃ V2, V2 = V1.alloc (.cells #[.int .i64 b.1, .int .i64 b.2] 42) := ⟨_, rfl⟩
              rw [← hV2] at hb hk3
              rw [← hV2, ← hn2] at hk2' ⊢
              clear hV2 hn2 hk1 p3 a0 a1 b0 b1
              have x0 := blk_cell hk3 0
              have x1 := blk_cell hk3 1
              have y0 := blk_cell hk2' 0
              have y1 := blk_cell hk2' 1
              simp only [List.getElem?_toArray, List.getElem?_cons_zero, List.getElem?_cons_succ] at x0 x1 y0 y1
              clear hk2' hk3
              have HB4 := Lib.hid hb
              by_cases c1 : a.2 < b.2
              · have e1 : decide (a.2 < b.2) = true := decide_eq_true c1
                have HU := Lib.hid (show up m = true by rw [HUM.out, e1]; rfl)
                clear c1 hb
                go_wp2_with fail
                go_roundg (N - (m + 1))
                case measure => have := HGM.out; omega
                case rel => exact ⟨HB4.out, m + 1, by omega, rfl, by go_num, by rw [votes_succ, HU.out]; go_num⟩
              · have e1 : decide (a.2 < b.2) = false := decide_eq_false c1
                by_cases c2 : b.2 = a.2
                · have e2 : (b.2 == a.2) = true := by simp [c2]
                  by_cases c3 : a.1 ≤ b.1
                  · have e3 : decide (a.1 ≤ b.1) = true := decide_eq_true c3
                    have HU := Lib.hid (show up m = true by rw [HUM.out, e1, e3, decide_eq_true c2]; rfl)
                    clear c1 c2 c3 hb
                    go_wp2_with fail
                    go_roundg (N - (m + 1))
                    case measure => have := HGM.out; omega
                    case rel => exact ⟨HB4.out, m + 1, by omega, rfl, by go_num, by rw [votes_succ, HU.out]; go_num⟩
                  · have e3 : decide (a.1 ≤ b.1) = false := decide_eq_false c3
                    have HU := Lib.hid (show up m = false by rw [HUM.out, e1, e3]; simp)
                    clear c1 c2 c3 hb
                    go_wp2_with fail
                    go_roundg (N - (m + 1))
                    case measure => have := HGM.out; omega
                    case rel => exact ⟨HB4.out, m + 1, by omega, rfl, by go_num, by rw [votes_succ, HU.out]; go_num⟩
                · have e2 : (b.2 == a.2) = false := by simp [c2]
                  have HU := Lib.hid (show up m = false by rw [HUM.out, e1, decide_eq_false c2]; rfl)
                  clear c1 c2 hb
                  go_wp2_with fail
                  go_roundg (N - (m + 1))
                  case measure => have := HGM.out; omega
                  case rel => exact ⟨HB4.out, m + 1, by omega, rfl, by go_num, by rw [votes_succ, HU.out]; go_num⟩
            · obtain rfl : m = N := by omega
              have hm1 : decide ((m : Int) < (m : Int)) = false := decide_eq_false (by omega)
              have HXr := Lib.hid (HX.out.below hb)
              have HB4 := Lib.hid hb
              have hkX : k < X.ns.length := by rw [HXN.out]; exact HKN.out
              have hk2 : (0 : Int) ≤ (k : Int) := by omega
              have hk4 : (k : Int) < m := by have := HKN.out; omega
              obtain ⟨gn, cn, hnv, _⟩ : ∃ gn cn, nv = .slice (some ⟨gn, 0, none⟩) X.ns.length cn ∧ w1.heap.size ≤ gn := row_some HXr.out.nrow (by rw [HXN.out]; exact HN1.out)
              subst hnv
              obtain ⟨vc2, hvv⟩ := HXr.out.va k hkX
              have hgs := HXr.out.gs hkX hkX
              rw [HXr.out.vs k hkX] at hgs
              obtain ⟨va2, hva2⟩ : ∃ va2, va2 = (X.at k).S.va := ⟨_, rfl⟩
              rw [← hva2] at hgs hvv
              have hrole := role_at (HXr.out.node k hkX)
              obtain ⟨ro, hro⟩ : ∃ ro, ro = (X.at k).S.role := ⟨_, rfl⟩
              rw [← hro] at hrole
              obtain ⟨pb, hpb⟩ : ∃ pb, pb = (X.at k).b := ⟨_, rfl⟩
              rw [← hpb] at hrole
              have p0 : wr.cell? ⟨wb, 0, none⟩ = some (.slice va2 m vc2) := by
                rw [← HXN.out]
                have := blk_cell HXr.out.blk 0
                rw [this]
                exact congrArg some hvv
              have p1 : wr.cell? ⟨wb, 1, none⟩ = some (.slice none 0 0) := blk_cell HXr.out.blk 1
              have p2 : wr.cell? ⟨wb, 2, none⟩ = some (.slice (some ⟨gn, 0, none⟩) m cn) := by rw [← HXN.out]; exact blk_cell HXr.out.blk 2
              have pn : wr.cell? ⟨gn, k, none⟩ = some (.pointer (some ⟨pb, 0, none⟩)) := by rw [hpb]; exact row_cell HXr.out.nrow (row_at hkX)
              have hri := rright_at va2 none (vsL X.ns.length) [] vc2 0 wr hgs.at_ (fun j hj => by simp at hj) (by rw [vsL_len, HXN.out]; have := HN7.out; unfold maxLen; omega) (by simp)
              rw [vsL_len, HXN.out, right_fresh m HN1.out HN7.out] at hri
              have HRI := Lib.hid (show Calls Try.prog 21 #[.agg #[.slice va2 m vc2, .slice none 0 0]] wr fun e w' => e = .returned (.bool true) ∧ Below wr.heap.size wr w' from hri)
              have hdone := HD.out
              rw [pure_at hkX, ← hro] at hdone
              have hv9 := votes_le m up
              obtain ⟨vo, hvo⟩ : ∃ vo, vo = votes m up := ⟨_, rfl⟩
              rw [← hvo] at hdone hv9 ⊢
              have HDN := Lib.hid hdone
              have hq : Int.tdiv (m : Int) 2 = ((m / 2 : Nat) : Int) := by rw [Int.tdiv_eq_ediv_of_nonneg (by omega)]; omega
              obtain ⟨H, hH⟩ : ∃ H, H = m / 2 := ⟨_, rfl⟩
              rw [← hH] at hq
              have HH := Lib.hid hH
              have hH9 : (H : Int) ≤ 7 := by have := HN7.out; omega
              have hH0 : (0 : Int) ≤ (H : Int) := by omega
              have hwr := Lib.hid (show wrap64 (H : Int) = H by unfold wrap64; omega)
              clear hkX hvv hgs hva2 hro hpb hri hdone hvo hH hb
              go_wp2_with fail
              refine hrole.mono ?_; rintro e w5 ⟨rfl, rfl⟩
              go_wp2_with fail
              refine HRI.out.mono ?_; rintro e w6 ⟨rfl, hb6⟩
              have HB6 := Lib.hid hb6
              clear p0 p1 p2 pn hb6
              have hdone := HDN.out
              rw [← HH.out] at hdone
              by_cases hr : ro = 3
              · have e1 : (ro == 3) = true := by simp [hr]
                have e2 : decide ((H : Int) < (vo : Int)) = true := decide_eq_true (by have := hdone.1 hr; omega)
                have E3 := Lib.hid (show H < vo from hdone.1 hr)
                clear hr hdone
                go_wp2_with fail
                go_ret
                exact ⟨by have h := hwr.out; simp [h]; exact E3.out, bl_trans HB1.out (HB.out.trans ((bl_trans HB4.out HB6.out).mono (by have h1 := HX.out.hB; have h2 := blk_lt HX.out.blk; omega)))⟩
              · have e1 : (ro == 3) = false := by simp [hr]
                have e2 : decide ((H : Int) < (vo : Int)) = false := decide_eq_false (fun h => hr (hdone.2 (by omega)))
                have E3 := Lib.hid (show vo ≤ H from Nat.le_of_not_lt fun h => hr (hdone.2 h))
                clear hr hdone
                go_wp2_with fail
                go_ret
                exact ⟨by have h := hwr.out; simp [h]; exact E3.out, bl_trans HB1.out (HB.out.trans ((bl_trans HB4.out HB6.out).mono (by have h1 := HX.out.hB; have h2 := blk_lt HX.out.blk; omega)))⟩
end Go.Proofs.Ytiamfdnllpiikaa
