/- slices.Concat; record.Put. Conditions: none. -/
import Derived.Test.YtnmmhggdjlfnfaaSmRec
namespace Go.Proofs.Ytnmmhggdjlfnfaa
open Go.RowKit
structure BV where
  a : Option Addr
  l : List W8
  c : Nat
instance : Inhabited BV := ⟨⟨none, [], 0⟩⟩
structure BV.At (x : BV) (w : World) : Prop where
  at_ : BAt w x.a x.l
  nil : x.a = none → x.c = 0
theorem BV.At.keep {x : BV} {w w' : World} (h : x.At w) (k : Below w.heap.size w w') : x.At w' := ⟨h.at_.keep k, h.nil⟩
abbrev atB (ls : List BV) (j : Nat) : BV := ls.getD j default
/-- A row of rows of bytes. -/
def SAt (w : World) (a : Option Addr) (ls : List BV) : Prop := ∀ j, j < ls.length → ∃ b off, a = some ⟨b, off, none⟩ ∧ w.cell? ⟨b, off + j, none⟩ = some (.slice (atB ls j).a (atB ls j).l.length (atB ls j).c) ∧ (atB ls j).At w
theorem SAt.keep {w w' : World} {a : Option Addr} {ls : List BV} (h : SAt w a ls) (k : Below w.heap.size w w') : SAt w' a ls := fun j hj => by
  obtain ⟨b, off, e, hc, hx⟩ := h j hj
  exact ⟨b, off, e, cell_keep k hc, hx.keep k⟩
def catB (ls : List BV) : Nat → List W8
  | 0 => []
  | k + 1 => catB ls k ++ (atB ls k).l
theorem catB_mono (ls : List BV) : ∀ {k m : Nat}, k ≤ m → (catB ls k).length ≤ (catB ls m).length
  | k, 0, h => by obtain rfl : k = 0 := by omega
                  exact Nat.le_refl _
  | k, m + 1, h => by
    rcases Nat.lt_or_ge k (m + 1) with h1 | h1
    · refine Nat.le_trans (catB_mono ls (k := k) (m := m) (by omega)) ?_
      show _ ≤ (catB ls m ++ _).length
      rw [List.length_append]
      omega
    · obtain rfl : k = m + 1 := by omega
      exact Nat.le_refl _
set_option maxRecDepth 100000 in
set_option maxHeartbeats 1000000 in
theorem grow_at (n : Nat) (w : World) (h0 : 0 < n) (hn : n ≤ 1099511627776) :
    Calls Try.prog 18 #[.slice none 0 0, .int .i64 n] w fun e w' => ∃ v, e = .returned v ∧ w'.ownsRow w.heap.size 5 1 v 0 [] ∧ Below w.heap.size w w' := by
  obtain ⟨i0, hi, hz0, hz1, hz2⟩ := info_parts Try.infoByte
  have hold : (Builtin.firstCells i0.size 0 (.slice none 0 0)).run Try.prog w.drew = .ok ([] : List Value).toArray w.drew := run_firstCells_none w.drew i0.size 0 0 0
  have hrz : ∀ ty, (Builtin.append_ #[25, 3] ty #[.slice none 0 0, .int .i64 (n : Int)]).run Try.prog w =
      .ok (.slice (some ⟨w.heap.size, 0, none⟩) n (grownCap w n 0 5)) (w.drew.alloc (.cells (([] : List Value).toArray ++ Builtin.zeroCells (Value.int .u8 0).cells n ++ Builtin.zeroCells (Value.int .u8 0).cells (grownCap w n 0 5 - n)) 5)) := fun ty => by
    have h := Lib.run_append_grow_zeros w 25 3 ty 5 i0 (.int .u8 0) .i64 .i64 Try.underlying25 Try.underlying3 hi hz0 none 0 0 [] hold n h0 (by omega) (by omega) (by omega) (by rw [hz2]; omega)
      (growslice_fits (by omega) (by rw [hz2]; omega))
    rw [Nat.zero_add] at h
    exact h
  have hGn : n ≤ grownCap w n 0 5 := grownCap_ge w _ _ _
  have hGm : grownCap w n 0 5 ≤ maxLen := grownCap_le_maxLen w n 0 5 (by unfold maxLen; omega)
  obtain ⟨G, hG⟩ : ∃ G, G = grownCap w n 0 5 := ⟨_, rfl⟩
  rw [← hG] at hrz hGn hGm
  have hsz : (([] : List Value).toArray ++ Builtin.zeroCells (Value.int .u8 0).cells n ++ Builtin.zeroCells (Value.int .u8 0).cells (G - n)).size = G * 1 := by
    simp [Builtin.zeroCells, Value.cells]
    omega
  obtain ⟨Z, hZ⟩ : ∃ Z, Z = (([] : List Value).toArray ++ Builtin.zeroCells (Value.int .u8 0).cells n ++ Builtin.zeroCells (Value.int .u8 0).cells (G - n)) := ⟨_, rfl⟩
  rw [← hZ] at hrz hsz
  have HS := Lib.hid hsz
  have HGM := Lib.hid hGm
  have hG9 : (G : Int) ≤ 9223372036854775807 := by unfold maxLen at hGm; omega
  have n1 : decide ((n : Int) < 0) = false := decide_eq_false (by omega)
  have n2 : decide ((0 : Int) < (n : Int)) = true := decide_eq_true (by omega)
  have n3 : decide (0 < n) = true := decide_eq_true h0
  clear hold hG hZ hsz hi hz0 hz1 hz2
  go_enter Try.func18, Try.ntmps18
  go_wp2_with (at_builtin; refine Lib.wpList_append_run _ rfl _ _ _ _ rfl _ _ rfl rfl _ _ (hrz _) ?_)
  go_ret
  have hown : (w.alloc (.cells Z 5)).ownsRow w.heap.size 5 1 (.slice (some ⟨w.heap.size, 0, none⟩) 0 G) 0 [] := World.ownsRow_made w Z G (Nat.le_refl _) HGM.out HS.out
  exact ⟨_, rfl, hown, (bl_alloc (Below.refl _ _) _).drew⟩
set_option maxRecDepth 100000 in
set_option maxHeartbeats 2000000 in
theorem concat_at (a : Option Addr) (ls : List BV) (c : Nat) (w : World) (hl : SAt w a ls) (hm : ls.length ≤ 1000) (h0 : 0 < (catB ls ls.length).length) (hn : (catB ls ls.length).length ≤ 1099511627776) :
    Calls Try.prog 11 #[.slice a ls.length c] w fun e w' => ∃ a' c', e = .returned (.slice a' (catB ls ls.length).length c') ∧ w'.ownsRow w.heap.size 5 1 (.slice a' (catB ls ls.length).length c') (catB ls ls.length).length (bytesV (catB ls ls.length)) ∧ Below w.heap.size w w' := by
  have HL := Lib.hid hl
  obtain ⟨N, hN⟩ : ∃ N, N = ls.length := ⟨_, rfl⟩
  rw [← hN] at hm h0 hn ⊢
  have hm9 : (N : Int) ≤ 1000 := by omega
  have HN := Lib.hid hN
  have H0 := Lib.hid h0
  have HT := Lib.hid hn
  clear hl hN h0 hn
  go_enter Try.func11, Try.ntmps11
  go_wp2_with fail
  go_loopg [3, 11] N (fun g v j wr => Below w.heap.size w wr ∧ ∃ k : Nat, k ≤ N ∧ g = N - k ∧ j = .int .i64 k ∧ v = .int .i64 ((catB ls k).length : Nat))
  case atStart => exact ⟨Below.refl _ _, 0, by omega, by omega, rfl, rfl⟩
  case round =>
    obtain ⟨hb, k, hk0, hgk, rfl, rfl⟩ := hrel
    have HGK := Lib.hid hgk
    clear hgk
    by_cases hk : k < N
    case neg =>
      obtain rfl : k = N := by omega
      have hk1 : decide ((k : Int) < (k : Int)) = false := decide_eq_false (by omega)
      have hk1' : decide (k < k) = false := decide_eq_false (by omega)
      obtain ⟨T, hT⟩ : ∃ T, T = (catB ls k).length := ⟨_, rfl⟩
      rw [← hT] at H0 HT ⊢
      have HTE := Lib.hid hT
      have HB := Lib.hid hb
      have HGR := Lib.hid (grow_at T wr H0.out HT.out)
      clear hT
      go_wp2_with fail
      refine HGR.out.mono ?_
      rintro e w1 ⟨v1, rfl, hr1, hb1⟩
      have HR1 := Lib.hid (row_mono hr1 HB.out.size)
      have HB1 := Lib.hid (bl_trans HB.out hb1)
      clear hr1 hb1 hb HGR
      go_wp2_with fail
      have HB0 := Lib.hid (show w.heap.size ≤ w1.heap.size from HB1.out.size)
      go_loopg [6, 27] k (fun g v j wr => Below w.heap.size w wr ∧ ∃ m : Nat, m ≤ k ∧ g = k - m ∧ j = .int .i64 m ∧ wr.ownsRow w.heap.size 5 1 v (catB ls m).length (bytesV (catB ls m)))
      case atStart => exact ⟨HB1.out, 0, by omega, by omega, rfl, HR1.out⟩
      case round =>
        obtain ⟨hb, m, hm0, hgm, rfl, hrow⟩ := hrel
        have HGM := Lib.hid hgm
        obtain ⟨va, vc, rfl⟩ := own_slice hrow
        have HROW := Lib.hid hrow
        have HBM := Lib.hid hb
        clear hgm hrow
        by_cases hmk : m < k
        case neg =>
          obtain rfl : m = k := by omega
          go_wp2_with fail
          go_ret
          exact ⟨va, vc, rfl, HROW.out, HBM.out⟩
        have hm1 : decide ((m : Int) < k) = true := decide_eq_true (by omega)
        have hm1' : decide (m < k) = true := decide_eq_true hmk
        have hm2 : (0 : Int) ≤ (m : Int) := by omega
        have hm4 : (m : Int) < k := by omega
        have hml : m < ls.length := by rw [← HN.out]; exact hmk
        obtain ⟨b1, o1, ha, hc, hx⟩ := (HL.out.keep hb) m hml
        have hcm := Nat.le_trans (catB_mono ls (k := m + 1) (m := k) hmk) (Nat.le_of_eq HTE.out.symm)
        have hce : (catB ls (m + 1)).length = (catB ls m).length + (atB ls m).l.length := List.length_append ..
        obtain ⟨x, hxe⟩ : ∃ x, x = atB ls m := ⟨_, rfl⟩
        obtain ⟨xa, xl, xc⟩ := x
        rw [← hxe] at hx hc hce
        have HX := Lib.hid hx
        have HCB := Lib.hid (show catB ls (m + 1) = catB ls m ++ xl by show catB ls m ++ (atB ls m).l = _; rw [← hxe])
        obtain ⟨xn, hxn⟩ : ∃ xn, xn = xl.length := ⟨_, rfl⟩
        obtain ⟨s, hs⟩ : ∃ s, s = (catB ls m).length := ⟨_, rfl⟩
        obtain ⟨r, hr⟩ : ∃ r, r = catB ls m := ⟨_, rfl⟩
        simp only [← hxn] at hc hce
        rw [← hs] at hce HROW
        rw [← hr] at HROW HCB
        have HXN := Lib.hid hxn
        have HSM := Lib.hid (show s + xn ≤ 1099511627776 by have := HT.out; omega)
        have HCE := Lib.hid hce
        have hlt : w.heap.size ≤ wr.heap.size := hb.size
        rw [← hs]
        subst ha
        clear hx hxe hs hxn hr hce hcm
        go_wp2_with (at_builtin; go_loud (refine wpList_clone rfl _ _ 25 rfl w.heap.size 5 Try.underlying25 Try.infoByte rfl (by decide) rfl HROW.out rfl (ys := bytesV xl) (by rw [bytesV_len]; have := HXN.out; omega) (fun j u hj => HX.out.at_.cells j u hj) HX.out.nil (bytesV_one xl) (by have h1 := HSM.out; unfold maxLen; omega) (by have h1 := HSM.out; omega) HBM.out.size ?_); intro v1 w4 hown1 hgrow hat1; obtain ⟨va1, vc1, rfl⟩ := own_slice hown1; have HOWN := Lib.hid hown1; have HBW := Lib.hid (HBM.out.trans (own_below HROW.out hgrow HBM.out.size)); clear hown1 hgrow hat1)
        go_roundg (k - (m + 1))
        case measure => have := HGM.out; omega
        case rel => exact ⟨HBW.out, m + 1, by omega, rfl, by go_num, by rw [HCE.out, HCB.out, bytesV_app]; exact HOWN.out⟩
    have hk1 : decide ((k : Int) < N) = true := decide_eq_true (by omega)
    have hk1' : decide (k < N) = true := decide_eq_true hk
    have hk2 : (0 : Int) ≤ (k : Int) := by omega
    have hk4 : (k : Int) < N := by omega
    have hkl : k < ls.length := by rw [← HN.out]; exact hk
    obtain ⟨b1, o1, ha, hc, hx⟩ := (HL.out.keep hb) k hkl
    have hcm := Nat.le_trans (catB_mono ls (k := k + 1) (m := N) hk) HT.out
    have hce : (catB ls (k + 1)).length = (catB ls k).length + (atB ls k).l.length := List.length_append ..
    obtain ⟨s, hs⟩ : ∃ s, s = (catB ls k).length := ⟨_, rfl⟩
    obtain ⟨m, hm2⟩ : ∃ m, m = (atB ls k).l.length := ⟨_, rfl⟩
    obtain ⟨z, hz⟩ : ∃ z, z = (catB ls (k + 1)).length := ⟨_, rfl⟩
    rw [← hm2] at hc hce
    rw [← hz, ← hs] at hce
    rw [← hz] at hcm
    rw [← hs]
    have hsz : (s : Int) + (m : Int) = (z : Int) := by omega
    have hz9 : (z : Int) ≤ 1099511627776 := by omega
    have hz0 : (0 : Int) ≤ (z : Int) := by omega
    have hz1 : decide ((z : Int) < 0) = false := decide_eq_false (by omega)
    have HZ := Lib.hid hz
    subst ha
    clear hx hs hm2 hz hce
    go_wp2_with fail
    go_roundg (N - (k + 1))
    case measure => have := HGK.out; omega
    case rel => exact ⟨hb, k + 1, by omega, rfl, by go_num, by rw [HZ.out]⟩
def lenW (l : List W8) : W32 := BitVec.ofNat 32 l.length
def checkW (l : List W8) : W32 := addC (sumC (wordB (lenW l))) l
/-- Bytes as a record. -/
def recB (l : List W8) : List W8 := wordB (lenW l) ++ wordB (checkW l) ++ l
theorem recB_len (l : List W8) : (recB l).length = 8 + l.length := by
  unfold recB wordB
  simp
  omega
set_option maxRecDepth 100000 in
set_option maxHeartbeats 2000000 in
theorem put_at (a : Option Addr) (l : List W8) (c : Nat) (w : World) (hl : BV.At ⟨a, l, c⟩ w) (hm : l.length ≤ 65536) :
    Calls Try.prog 5 #[.slice a l.length c] w fun e w' => ∃ a' c', e = .returned (.tuple #[.slice a' (recB l).length c', .int .i64 0]) ∧ w'.ownsRow w.heap.size 5 1 (.slice a' (recB l).length c') (recB l).length (bytesV (recB l)) ∧ Below w.heap.size w w' := by
  have HL := Lib.hid hl
  obtain ⟨N, hN⟩ : ∃ N, N = l.length := ⟨_, rfl⟩
  rw [← hN] at hm ⊢
  have hm9 : (N : Int) ≤ 65536 := by omega
  have HN := Lib.hid hN
  have d1 : decide ((65536 : Int) < (N : Int)) = false := decide_eq_false (by omega)
  have d1' : decide (65536 < N) = false := decide_eq_false (by omega)
  have hw := word_at (lenW l) w
  have hle : (((lenW l).toNat : Nat) : Int) = (N : Int) := by unfold lenW; rw [BitVec.toNat_ofNat, ← hN]; omega
  rw [hle] at hw
  have HW := Lib.hid hw
  clear hl hN hw hle
  go_enter Try.func5, Try.ntmps5
  go_wp2_with fail
  refine HW.out.mono ?_
  rintro e w1 ⟨q1, rfl, hq1, hb1⟩
  have HQ1 := Lib.hid hq1
  have HB1 := Lib.hid hb1
  have hsu := sum_at (some ⟨q1, 0, none⟩) (wordB (lenW l)) 4 w1 hq1 (show (4 : Nat) ≤ _ by decide)
  have HSU := Lib.hid (show Calls Try.prog 4 #[.slice (some ⟨q1, 0, none⟩) 4 4] w1 _ from hsu)
  clear hq1 hb1 hsu d1 d1' HW
  go_wp2_with fail
  refine HSU.out.mono ?_
  rintro e w2 ⟨rfl, hb2⟩
  have HB2 := Lib.hid (bl_trans HB1.out hb2)
  have HQ2 := Lib.hid (HQ1.out.keep hb2)
  have had := add_at (sumC (wordB (lenW l))) a l c w2 (HL.out.keep HB2.out).at_ (by have := HN.out; omega)
  rw [← HN.out] at had
  have HAD := Lib.hid had
  clear hb2 had HSU
  go_wp2_with fail
  refine HAD.out.mono ?_
  rintro e w3 ⟨rfl, hb3⟩
  have HB3 := Lib.hid (bl_trans HB2.out hb3)
  have HQ3 := Lib.hid (HQ2.out.keep hb3)
  have HW := Lib.hid (word_at (checkW l) w3)
  clear hb3 HAD
  go_wp2_with fail
  refine HW.out.mono ?_
  rintro e w4 ⟨q2, rfl, hq2, hb4⟩
  have HB4 := Lib.hid (bl_trans HB3.out hb4)
  have HQ4 := Lib.hid (HQ3.out.keep hb4)
  have HR4 := Lib.hid hq2
  clear hb4 hq2 HW
  have HNW := Lib.hid (blk_new w4 (.cells #[.slice (some ⟨q1, 0, none⟩) 4 4, .slice (some ⟨q2, 0, none⟩) 4 4, .slice a N c] 25) rfl)
  have hb5 := bl_alloc (Below.refl w4.heap.size w4) (.cells #[.slice (some ⟨q1, 0, none⟩) 4 4, .slice (some ⟨q2, 0, none⟩) 4 4, .slice a N c] 25)
  obtain ⟨W5, hW5⟩ : ∃ W5, W5 = w4.alloc (.cells #[.slice (some ⟨q1, 0, none⟩) 4 4, .slice (some ⟨q2, 0, none⟩) 4 4, .slice a N c] 25) := ⟨_, rfl⟩
  rw [← hW5] at HNW hb5
  have HW5 := Lib.hid hW5
  have HB5 := Lib.hid (bl_trans HB4.out hb5)
  have hsat : SAt W5 (some ⟨w4.heap.size, 0, none⟩) [⟨some ⟨q1, 0, none⟩, wordB (lenW l), 4⟩, ⟨some ⟨q2, 0, none⟩, wordB (checkW l), 4⟩, ⟨a, l, c⟩] := fun j hj => by
    refine ⟨w4.heap.size, 0, rfl, ?_⟩
    rw [Nat.zero_add, blk_cell HNW.out]
    replace hj : j < 3 := hj
    rcases j with _ | _ | _ | j
    · exact ⟨rfl, HQ4.out.keep hb5, fun h => by cases h⟩
    · exact ⟨rfl, HR4.out.keep hb5, fun h => by cases h⟩
    · exact ⟨by rw [HN.out]; rfl, (HL.out.keep HB4.out).keep hb5⟩
    · omega
  have hcat : catB [⟨some ⟨q1, 0, none⟩, wordB (lenW l), 4⟩, ⟨some ⟨q2, 0, none⟩, wordB (checkW l), 4⟩, ⟨a, l, c⟩] 3 = recB l := rfl
  have hcc := concat_at (some ⟨w4.heap.size, 0, none⟩) _ 3 W5 hsat (by simp) (by show 0 < (recB l).length; rw [recB_len]; omega) (by show (recB l).length ≤ _; rw [recB_len]; have := HN.out; omega)
  have HCC := Lib.hid (show Calls Try.prog 11 #[.slice (some ⟨w4.heap.size, 0, none⟩) 3 3] W5 fun e w' => ∃ a' c', e = .returned (.slice a' (recB l).length c') ∧ w'.ownsRow W5.heap.size 5 1 (.slice a' (recB l).length c') (recB l).length (bytesV (recB l)) ∧ Below W5.heap.size W5 w' from hcc)
  clear hW5 hb5 hsat hcat hcc
  go_wp2_with fail
  rw [← HW5.out]
  refine HCC.out.mono ?_
  rintro e w6 ⟨a', c', rfl, hr6, hb6⟩
  have HR6 := Lib.hid (row_mono hr6 HB5.out.size)
  have HB6 := Lib.hid (bl_trans HB5.out hb6)
  obtain ⟨M, hM⟩ : ∃ M, M = (recB l).length := ⟨_, rfl⟩
  rw [← hM] at HR6 ⊢
  have HME := Lib.hid hM
  clear hr6 hb6 HCC hM
  go_wp2_with fail
  go_ret2
  exact ⟨a', c', by rw [← HME.out]; rfl, by rw [← HME.out]; exact HR6.out, HB6.out⟩
end Go.Proofs.Ytnmmhggdjlfnfaa
