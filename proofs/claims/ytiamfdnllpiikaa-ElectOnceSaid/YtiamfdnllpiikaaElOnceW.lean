/- ElectOnce: there are never two leaders of one term. Conditions: none. -/
import Derived.Test.YtiamfdnllpiikaaElOnceQ
import Derived.Test.YtiamfdnllpiikaaElWN
import Derived.Test.YtiamfdnllpiikaaElAwake
import Derived.Test.YtiamfdnllpiikaaOpenEv
namespace Go.Proofs.Ytiamfdnllpiikaa
open Go.RowKit
theorem Inv.leads {N : Nat} {W : Cast} {P : PW} (h : Inv N W P) {ld : List (Int × Int)} (hl : ∀ p, p ∈ ld → Won N W p.1 p.2) : Inv N W { P with leads := ld } :=
  ⟨h.n, h.w1, h.loc, h.bal, hl⟩
set_option maxRecDepth 100000 in
set_option maxHeartbeats 4000000 in
theorem electOnce_at (many : Int) (ad : Option Addr) (l : List (Int × Int)) (cap : Nat) (ad2 : Option Addr) (es : List EvV) (cap2 : Nat) (w : World) (hl : ItemsAt w ad l.length 2 (fun i => pairC (l.getD i (0, 0)))) (hlm : l.length ≤ maxLen)
    (he : ItemsAt w ad2 es.length 4 (fun i => (es.getD i default).c)) (hem : es.length ≤ maxLen) :
    Calls Try.prog 6 #[.int .i64 many, .slice ad l.length cap, .slice ad2 es.length cap2] w fun e w' => e = .returned (.bool true) ∧ Below w.heap.size w w' := by
  by_cases h1 : many < 1
  · go_enter Try.func6, Try.ntmps6
    go_wp2_with fail
    refine (awake_at _).mono ?_; rintro e w1 ⟨rfl, hb1⟩
    go_wp2_with fail
    go_ret
    exact ⟨rfl, hb1⟩
  have d1 : decide (many < 1) = false := decide_eq_false h1
  by_cases h7 : 7 < many
  · go_enter Try.func6, Try.ntmps6
    go_wp2_with fail
    refine (awake_at _).mono ?_; rintro e w1 ⟨rfl, hb1⟩
    go_wp2_with fail
    go_ret
    exact ⟨rfl, hb1⟩
  have d7 : decide (7 < many) = false := decide_eq_false h7
  obtain ⟨N, hN⟩ : ∃ N : Nat, many = N := ⟨many.toNat, by omega⟩
  have HN1 := Lib.hid (show 1 ≤ N by omega)
  have HN7 := Lib.hid (show N ≤ 7 by omega)
  subst hN
  clear h1 h7
  have HL := Lib.hid hl
  have HLM := Lib.hid hlm
  have HEV := Lib.hid he
  obtain ⟨EN, hEN⟩ : ∃ EN, EN = es.length := ⟨_, rfl⟩
  have hen9 : (EN : Int) ≤ 9223372036854775807 := by unfold maxLen at hem; omega
  have HEN := Lib.hid hEN
  rw [← hEN]
  clear hl hlm he hem hEN
  go_enter Try.func6, Try.ntmps6
  go_wp2_with fail
  refine (awake_at _).mono ?_; rintro e w1 ⟨rfl, hb1⟩
  go_wp2_with fail
  refine (world_at N HN1.out HN7.out ad l cap w1 (HL.out.keep hb1) HLM.out).mono ?_
  rintro e w2 ⟨wb, va, vc, rfl, hW, hb2⟩
  have HB1 := Lib.hid hb1
  have HW0 := Lib.hid hW
  have HB2 := Lib.hid hb2
  clear hb1 hW hb2 d1 d7
  go_wp2_with fail
  go_loopg [9] EN (fun g i wr => ∃ k : Nat, k ≤ EN ∧ g = EN - k ∧ i = .int .i64 k ∧ Below w1.heap.size w1 wr ∧ ∃ P W, WAt w1.heap.size wr wb P ∧ Inv N W P ∧ (∀ i, i < N → Sane (P.at i) k) ∧ P.leads.length ≤ 7 * k)
  case atStart => exact ⟨0, by omega, by omega, rfl, HB2.out, _, _, HW0.out, Inv.begun N l va vc, fun i hi => by
      rw [begun_at l va vc hi]
      exact new_sane (by omega) (by omega) (by omega) (by unfold maxIx; omega) (by rw [vsL_len]; have := HN7.out; omega), by simp [begun]⟩
  case round =>
    clear HW0 HB2
    obtain ⟨k, hk0, hgk, rfl, hb, P, V, hW, hI, hS, hld⟩ := hrel
    obtain ⟨X, R, hX, rfl⟩ := hW
    have hXN : X.ns.length = N := by rw [← pure_len]; exact hI.n
    have HXN := Lib.hid hXN
    have HGK := Lib.hid hgk
    have HB := Lib.hid hb
    have HX := Lib.hid hX
    have HI := Lib.hid hI
    have HS := Lib.hid hS
    have HLD := Lib.hid hld
    obtain ⟨vv, nv, lv, sv, dv⟩ := R
    obtain ⟨sa, sc, hsv⟩ : ∃ sa sc, sv = .slice sa X.sent.length sc := own_slice hX.srow
    subst hsv
    have p4 : wr.cell? ⟨wb, 4, none⟩ = some (.slice sa X.sent.length sc) := blk_cell hX.blk 4
    clear hgk hb hX hI hS hld hXN
    by_cases hk : k < EN
    · have hk1 : decide ((k : Int) < EN) = true := decide_eq_true (by omega)
      by_cases hk9 : k < 600
      · have hk9d : decide ((k : Int) < 600) = true := decide_eq_true (by omega)
        obtain ⟨SL, hSL⟩ : ∃ SL, SL = X.sent.length := ⟨_, rfl⟩
        rw [← hSL] at p4
        by_cases hsl : SL < 20000
        · have hsd : decide ((SL : Int) < 20000) = true := decide_eq_true (by omega)
          have HSL := Lib.hid (show X.sent.length ≤ 1000000 by omega)
          have hk2 : (0 : Int) ≤ (k : Int) := by omega
          obtain ⟨b1, o1, rfl, hc⟩ := HEV.out k (by rw [← HEN.out]; exact hk)
          obtain ⟨x, hx⟩ : ∃ x, x = es.getD k default := ⟨_, rfl⟩
          simp only [← hx] at hc
          have hbw : Below w.heap.size w wr := bl_trans HB1.out HB.out
          have e0 : wr.cell? ⟨b1, o1 + k * 4, none⟩ = some (.int .i64 x.act) := cell_keep hbw (hc 0 _ rfl)
          have e1 : wr.cell? ⟨b1, o1 + k * 4 + 1, none⟩ = some (.int .i64 x.who) := cell_keep hbw (hc 1 _ rfl)
          have e2 : wr.cell? ⟨b1, o1 + k * 4 + 2, none⟩ = some (.int .i64 x.n) := cell_keep hbw (hc 2 _ rfl)
          have e3 : wr.cell? ⟨b1, o1 + k * 4 + 3, none⟩ = some (.int .i64 x.draw) := cell_keep hbw (hc 3 _ rfl)
          have HK := Lib.hid hk9
          have hp := play_at HX.out x (fun i hi => by
            have h1 := HS.out i (by rw [← HXN.out]; exact hi)
            rw [pure_at hi] at h1
            exact h1.more (by have := HK.out; omega)) HSL.out
          have HP := Lib.hid hp
          clear hx hc hbw hsl hSL hp hk9
          go_wp2_with fail
          refine HP.out.mono ?_
          rintro e w3 ⟨rfl, ⟨P', ⟨X', R', hX', rfl⟩, hpl⟩, hb3⟩
          obtain ⟨⟨V', hI'⟩, hS', hle, hN'⟩ := HI.out.played HN1.out HN7.out HS.out hpl
          have hXN' : X'.ns.length = N := by rw [← pure_len]; exact hN'
          have HI' := Lib.hid hI'
          have HS' := Lib.hid hS'
          have HL' := Lib.hid (show X'.leads.length ≤ 7 * k by
            have := HLD.out
            rw [show X'.leads = X'.pure.leads from rfl, hle]
            exact this)
          have HB3 := Lib.hid hb3
          have hnt := note_at hX' (Won N V') (fun t v v' => Won.one hI'.w1) hI'.led (fun i hi hr => by
            have h1 := hI'.lead (i := i) (by rw [← hXN']; exact hi)
            rw [pure_at hi] at h1
            exact h1 hr) (by have := HL'.out; have := HK.out; omega)
          have HNT := Lib.hid hnt
          clear p4 e0 e1 e2 e3 hpl hI' hS' hle hN' hb3 hnt hX' hXN'
          go_wp2_with fail
          refine HNT.out.mono ?_
          rintro e w4 ⟨rfl, ⟨ld, hW4, hld4, hll4⟩, hb4⟩
          have HW4 := Lib.hid hW4
          have HLD4 := Lib.hid hld4
          have HLL4 := Lib.hid hll4
          have HB4 := Lib.hid hb4
          clear hW4 hld4 hll4 hb4
          go_wp2_with fail
          go_roundg (EN - (k + 1))
          case measure => have := HGK.out; omega
          case rel => exact ⟨k + 1, by omega, rfl, by go_num, (HB.out.trans HB3.out).trans HB4.out, _, V', HW4.out, HI'.out.leads HLD4.out, fun i hi => by
              have h := HS'.out i hi
              rw [show ((k + 1 : Nat) : Int) = (k : Int) + 1 by omega]
              exact h, by have := HLL4.out; have := HL'.out; show ld.length ≤ _; omega⟩
        · have hsd : decide ((SL : Int) < 20000) = false := decide_eq_false (by omega)
          clear hSL hsl
          go_wp2_with fail
          go_ret
          exact ⟨rfl, bl_trans HB1.out HB.out⟩
      · have hk9d : decide ((k : Int) < 600) = false := decide_eq_false (by omega)
        go_wp2_with fail
        go_ret
        exact ⟨rfl, bl_trans HB1.out HB.out⟩
    · have hk1 : decide ((k : Int) < EN) = false := decide_eq_false (by omega)
      go_wp2_with fail
      go_ret
      exact ⟨rfl, bl_trans HB1.out HB.out⟩
end Go.Proofs.Ytiamfdnllpiikaa
