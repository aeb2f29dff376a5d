/- TopSummed. Conditions: none. -/
import Derived.Test.YtnmmhggdjlfnfaaSmScn2
import Derived.Test.YtnmmhggdjlfnfaaSmOpen
import Derived.Lib.SlBytesConst
namespace Go.Proofs.Ytnmmhggdjlfnfaa
open Go.RowKit
def nine : List W8 := [49#8, 50#8, 51#8, 52#8, 53#8, 54#8, 55#8, 56#8, 57#8]
def bodies (ls : List BV) : List (List W8) := ls.map (·.l)
theorem bodies_len (ls : List BV) : (bodies ls).length = ls.length := by simp [bodies]
theorem bodies_at (ls : List BV) {j : Nat} (h : j < ls.length) : atL (bodies ls) j = (atB ls j).l := by
  unfold atL bodies atB
  rw [List.getD_eq_getElem?_getD, List.getElem?_map, List.getD_eq_getElem?_getD, List.getElem?_eq_getElem h]
  rfl
theorem take_bodies (ls : List BV) {k : Nat} (h : k < ls.length) : catR ((bodies ls).take (k + 1)) = catR ((bodies ls).take k) ++ recB (atB ls k).l := by
  rw [List.take_add_one, List.getElem?_eq_getElem (by rw [bodies_len]; exact h), catR_app]
  congr 1
  unfold catR
  simp only [Option.toList, List.map_cons, List.map_nil, List.flatten_cons, List.flatten_nil, List.append_nil]
  congr 1
  have := bodies_at ls h
  unfold atL at this
  rw [List.getD_eq_getElem?_getD, List.getElem?_eq_getElem (by rw [bodies_len]; exact h)] at this
  exact this
/-- The first k records. -/
def ck (ls : List BV) (k : Nat) : List W8 := catR ((bodies ls).take k)
theorem ck_succ (ls : List BV) {k : Nat} (h : k < ls.length) : ck ls (k + 1) = ck ls k ++ recB (atB ls k).l := take_bodies ls h
theorem sum_ck0 (ls : List BV) : sumC (ck ls 0) = 0#32 := by
  have h : ck ls 0 = [] := by unfold ck; rw [List.take_zero]; rfl
  rw [h]
  decide
theorem row_cap {w : World} {B n c : Nat} {e : TypeId} {size : Nat} {a : Option Addr} {xs : List Value} (h : w.ownsRow B e size (.slice a n c) n xs) : n ≤ c ∧ c ≤ maxLen := by
  rcases h.2 with ⟨e, h0⟩ | ⟨g, cap, cur, e, _, _, h1, h2, _⟩
  · injection e with _ _ e3
    rw [e3, h0]
    exact ⟨Nat.le_refl _, by unfold maxLen; omega⟩
  · injection e with _ _ e3
    rw [e3]
    exact ⟨h1, h2⟩
theorem ck_all (ls : List BV) : ck ls ls.length = catR (bodies ls) := by
  unfold ck
  rw [← bodies_len, List.take_length]
set_option maxRecDepth 100000 in
set_option maxHeartbeats 4000000 in
theorem topSummed_at (P : BSV) (w : World) (hs : SAt w P.a P.l) (hmax : P.l.length ≤ maxLen) :
    Calls Try.prog 3 #[.slice P.a P.l.length P.c] w fun e w' => e = .returned (.bool true) ∧ Below w.heap.size w w' := by
  obtain ⟨a, ls, c⟩ := P
  have HS := Lib.hid hs
  obtain ⟨N, hN⟩ : ∃ N, N = ls.length := ⟨_, rfl⟩
  simp only at hmax ⊢
  rw [← hN] at hmax ⊢
  have hm9 : (N : Int) ≤ 9223372036854775807 := by unfold maxLen at hmax; omega
  have HN := Lib.hid hN
  have hk1 := blk_new w (.cells #[.int .u8 49, .int .u8 50, .int .u8 51, .int .u8 52, .int .u8 53, .int .u8 54, .int .u8 55, .int .u8 56, .int .u8 57] 5 (9, 10)) rfl
  have hb1 := bl_alloc (Below.refl w.heap.size w) (.cells #[.int .u8 49, .int .u8 50, .int .u8 51, .int .u8 52, .int .u8 53, .int .u8 54, .int .u8 55, .int .u8 56, .int .u8 57] 5 (9, 10))
  have hbn : BAt (w.alloc (.cells #[.int .u8 49, .int .u8 50, .int .u8 51, .int .u8 52, .int .u8 53, .int .u8 54, .int .u8 55, .int .u8 56, .int .u8 57] 5 (9, 10))) (some ⟨w.heap.size, 0, none⟩) nine := fun j hj => by
    refine ⟨w.heap.size, 0, rfl, ?_⟩
    rw [Nat.zero_add, blk_cell hk1]
    replace hj : j < 9 := hj
    rcases j with _ | _ | _ | _ | _ | _ | _ | _ | _ | j
    all_goals first | rfl | omega
  have hsu := sum_at (some ⟨w.heap.size, 0, none⟩) nine 9 _ hbn (by show 9 ≤ _; omega)
  rw [show ((sumC nine).toNat : Int) = 3808858755 by rw [show sumC nine = 3808858755#32 from sum_nine]; rfl] at hsu
  have HSU := Lib.hid hsu
  have hcv : (convert 25 25 (.slice (some ⟨w.heap.size, 0, none⟩) 9 9)).run Try.prog (w.alloc (.cells #[.int .u8 49, .int .u8 50, .int .u8 51, .int .u8 52, .int .u8 53, .int .u8 54, .int .u8 55, .int .u8 56, .int .u8 57] 5)) = .ok (.slice (some ⟨w.heap.size, 0, none⟩) 9 9) (w.alloc (.cells #[.int .u8 49, .int .u8 50, .int .u8 51, .int .u8 52, .int .u8 53, .int .u8 54, .int .u8 55, .int .u8 56, .int .u8 57] 5 (9, 10))) := Lib.run_convert_bytes_const w 25 5 #[.int .u8 49, .int .u8 50, .int .u8 51, .int .u8 52, .int .u8 53, .int .u8 54, .int .u8 55, .int .u8 56, .int .u8 57] 9 9 Try.underlying25 Try.underlying5
  have HB1 := Lib.hid hb1
  clear hs hN hmax hk1 hb1 hbn hsu
  go_enter Try.func3, Try.ntmps3
  go_wp2_with fail
  refine HSU.out.mono ?_
  rintro e w1 ⟨rfl, hb⟩
  have HB := Lib.hid (bl_trans HB1.out hb)
  have HSZ1 := Lib.hid (show w.heap.size < w1.heap.size by have := hb.size; rw [World.size_alloc] at this; omega)
  clear hb HSU
  by_cases h100 : 100 < N
  case pos =>
    have d1 : decide ((100 : Int) < (N : Int)) = true := decide_eq_true (by omega)
    have d1' : decide (100 < N) = true := decide_eq_true h100
    go_wp2_with fail
    go_ret
    exact ⟨rfl, HB.out⟩
  have d1 : decide ((100 : Int) < (N : Int)) = false := decide_eq_false (by omega)
  have d1' : decide (100 < N) = false := decide_eq_false h100
  have HN1 := Lib.hid (show N ≤ 100 by omega)
  go_wp2_with fail
  clear d1 d1' h100 hcv
  have hN100 : (N : Int) ≤ 100 := by have := HN1.out; omega
  go_loopg [4, 5, 6] N (fun g vb vs vi wr => (Below w.heap.size w wr ∧ w.heap.size < wr.heap.size) ∧ ∃ k : Nat, k ≤ N ∧ g = N - k ∧ vi = .int .i64 k ∧ vs = .int .u32 ((sumC (ck ls k)).toNat : Int) ∧ wr.ownsRow w.heap.size 5 1 vb (ck ls k).length (bytesV (ck ls k)) ∧ (ck ls k).length ≤ 5008 * k ∧ ∀ j, j < k → (atB ls j).l.length ≤ 5000)
  case atStart => exact ⟨⟨HB.out, HSZ1.out⟩, 0, by omega, by omega, rfl, by rw [sum_ck0]; rfl, World.ownsRow_nil _ _ _ _, Nat.le_refl _, fun j hj => by omega⟩
  case round =>
    obtain ⟨⟨hb, hsz⟩, k, hk0, hgk, rfl, rfl, hrow, hlen, hall⟩ := hrel
    have HSZ := Lib.hid hsz
    clear hsz
    obtain ⟨va, vc, rfl⟩ := own_slice hrow
    have HGK := Lib.hid hgk
    have HROW := Lib.hid hrow
    have HLEN := Lib.hid hlen
    have HALL := Lib.hid hall
    have HBR := Lib.hid hb
    clear hgk hrow hlen hall
    by_cases hk : k < N
    case neg =>
      obtain rfl : k = N := by omega
      have hk1 : decide ((k : Int) < (k : Int)) = false := decide_eq_false (by omega)
      have hk1' : decide (k < k) = false := decide_eq_false (by omega)
      have hall' : ∀ j, j < (bodies ls).length → (atL (bodies ls) j).length ≤ 65536 := fun j hj => by
        rw [bodies_len] at hj
        rw [bodies_at ls hj]
        have := HALL.out j (by rw [HN.out]; exact hj)
        omega
      have hca := ck_all ls
      rw [← HN.out] at hca
      obtain ⟨y, hy⟩ : ∃ y, y = ck ls k := ⟨_, rfl⟩
      obtain ⟨L, hL⟩ : ∃ L, L = y.length := ⟨_, rfl⟩
      rw [← hy] at HROW HLEN hca ⊢
      rw [← hL] at HROW HLEN ⊢
      have hb0 : ∃ b0, b0 < wr.heap.size ∧ (0 < (bodies ls).length → va = some ⟨b0, 0, none⟩ ∧ BAt wr va (catR (bodies ls))) := by
        by_cases h0 : 0 < L
        · obtain ⟨g, cap, e, _⟩ := row_some HROW.out h0
          injection e with e1
          refine ⟨g, (HROW.out.lt g (by rw [e1]; rfl)).2, fun _ => ⟨e1, ?_⟩⟩
          rw [← hca]
          exact own_bat HROW.out
        · refine ⟨w.heap.size, HSZ.out, fun h => ?_⟩
          have h8 := catR_len8 (bodies ls)
          rw [← hca, ← hL] at h8
          omega
      obtain ⟨b0, hb0, ha0⟩ := hb0
      obtain ⟨hc1, hc2⟩ := row_cap HROW.out
      have hLk : L ≤ 500800 := by have := HLEN.out; have := HN1.out; omega
      have hsc := scan_at (bodies ls) va b0 0 vc wr ha0 hb0 (by rw [← hca, ← hL]; exact hc1) (by unfold maxLen at hc2; omega) (by rw [← hca, ← hL]; omega) hall'
      rw [← hca, ← hL] at hsc
      have HSC := Lib.hid hsc
      have HY := Lib.hid hy
      have HL := Lib.hid hL
      clear hall' hca hy hL hb0 ha0 hc1 hc2 hsc
      go_wp2_with fail
      refine HSC.out.mono ?_
      rintro e w2 ⟨a', c', bs, rfl, hsa, hbl, hbd, hb2⟩
      have HB2 := Lib.hid (bl_trans HBR.out hb2)
      have HR2 := Lib.hid (own_keep HROW.out hb2)
      rw [bodies_len] at hbl hbd
      have hsm := sameAll_at a' a bs ls c' c w2 hsa (HS.out.keep HB2.out) (by rw [hbl, ← HN.out]; have := HN1.out; omega) hbl.symm (fun j hj => by
        rw [hbl] at hj
        rw [hbd j hj, bodies_at ls hj])
      rw [hbl, ← HN.out] at hsm
      rw [bodies_len, ← HN.out]
      have HSM := Lib.hid hsm
      clear hsa hbl hbd hb2 hsm HSC
      go_wp2_with fail
      refine HSM.out.mono ?_
      rintro e w3 ⟨rfl, hb3⟩
      have HB3 := Lib.hid (bl_trans HB2.out hb3)
      have hsu := sum_at va y vc w3 (own_bat (own_keep HR2.out hb3)) (by rw [← HL.out]; omega)
      rw [← HL.out] at hsu
      have HSU := Lib.hid hsu
      obtain ⟨s1, hs1⟩ : ∃ s1, s1 = sumC y := ⟨_, rfl⟩
      rw [← hs1] at HSU ⊢
      clear hb3 hsu hs1 HSM
      go_wp2_with fail
      refine HSU.out.mono ?_
      rintro e w4 ⟨rfl, hb4⟩
      have HB4 := Lib.hid (bl_trans HB3.out hb4)
      clear hb4
      go_wp2_with fail
      go_ret
      exact ⟨rfl, HB4.out⟩
    have hk1 : decide ((k : Int) < N) = true := decide_eq_true (by omega)
    have hk1' : decide (k < N) = true := decide_eq_true hk
    have hk2 : (0 : Int) ≤ (k : Int) := by omega
    have hk4 : (k : Int) < N := by omega
    have hkl : k < ls.length := by rw [← HN.out]; exact hk
    obtain ⟨b1, o1, ha, hc, hx⟩ := (HS.out.keep hb) k hkl
    have hsucc := ck_succ ls hkl
    obtain ⟨x, hxe⟩ : ∃ x, x = atB ls k := ⟨_, rfl⟩
    rw [← hxe] at hc hx hsucc
    obtain ⟨xa, xl, xc⟩ := x
    obtain ⟨xn, hxn⟩ : ∃ xn, xn = xl.length := ⟨_, rfl⟩
    simp only at hc hsucc
    rw [← hxn] at hc
    have HXN := Lib.hid hxn
    have HXE := Lib.hid hxe
    have HX := Lib.hid hx
    have HSC := Lib.hid hsucc
    obtain ⟨y, hy⟩ : ∃ y, y = ck ls k := ⟨_, rfl⟩
    obtain ⟨L, hL⟩ : ∃ L, L = y.length := ⟨_, rfl⟩
    rw [← hy] at HROW HLEN HSC ⊢
    rw [← hL] at HROW HLEN ⊢
    have HY := Lib.hid hy
    have HL := Lib.hid hL
    subst ha
    clear hx hxe hsucc hy hL hxn
    by_cases h5 : 5000 < xn
    case pos =>
      have d5 : decide ((5000 : Int) < (xn : Int)) = true := decide_eq_true (by omega)
      have d5' : decide (5000 < xn) = true := decide_eq_true h5
      go_wp2_with fail
      go_ret
      exact ⟨rfl, HBR.out⟩
    have d5 : decide ((5000 : Int) < (xn : Int)) = false := decide_eq_false (by omega)
    have d5' : decide (5000 < xn) = false := decide_eq_false h5
    have HPU := Lib.hid (put_at xa xl xc wr HX.out (by have := HXN.out; omega))
    rw [← HXN.out] at HPU
    have H5 := Lib.hid (show xn ≤ 5000 by omega)
    clear h5
    go_wp2_with fail
    refine HPU.out.mono ?_
    rintro e w2 ⟨a2, c2, rfl, hr2, hb2⟩
    obtain ⟨z, hz⟩ : ∃ z, z = recB xl := ⟨_, rfl⟩
    obtain ⟨zn, hzn⟩ : ∃ zn, zn = z.length := ⟨_, rfl⟩
    have hz8 : zn = 8 + xn := by rw [hzn, hz, recB_len, HXN.out]
    rw [← hz] at hr2 HSC
    rw [← hz, ← hzn]
    rw [← hzn] at hr2
    have HZN := Lib.hid hzn
    have HZ8 := Lib.hid hz8
    have HR2 := Lib.hid hr2
    have hs2 := sum_at a2 z c2 w2 (own_bat hr2) (by have := H5.out; omega)
    rw [← hzn] at hs2
    have HS2 := Lib.hid hs2
    have HB2 := Lib.hid (bl_trans HBR.out hb2)
    have HBW2 := Lib.hid hb2
    clear hz hzn hz8 hr2 hs2 hb2 HPU d5 d5'
    go_wp2_with fail
    refine HS2.out.mono ?_
    rintro e w3 ⟨rfl, hb3⟩
    have HJ := Lib.hid (join_at (sumC y) (sumC z) zn w3 (by have := HZ8.out; have := H5.out; omega))
    have HB3 := Lib.hid (bl_trans HB2.out hb3)
    have HBW3 := Lib.hid (bl_trans HBW2.out hb3)
    have HR3 := Lib.hid (own_keep HR2.out hb3)
    obtain ⟨s1, hs1⟩ : ∃ s1, s1 = sumC y := ⟨_, rfl⟩
    obtain ⟨s2, hs2⟩ : ∃ s2, s2 = sumC z := ⟨_, rfl⟩
    obtain ⟨s3, hs3⟩ : ∃ s3, s3 = pow S8 zn s1 ^^^ s2 := ⟨_, rfl⟩
    rw [← hs1, ← hs2, ← hs3] at HJ
    rw [← hs1, ← hs2]
    have HS3 := Lib.hid (show s3 = sumC (y ++ z) by rw [sumC_app, hs3, hs1, hs2, HZN.out])
    clear hb3 HS2 hs1 hs2 hs3
    go_wp2_with fail
    refine HJ.out.mono ?_
    rintro e w4 ⟨rfl, hb4⟩
    have HB4 := Lib.hid (bl_trans HB3.out hb4)
    have HR4 := Lib.hid (own_keep HR3.out hb4)
    have HRW4 := Lib.hid (own_keep HROW.out (bl_trans HBW3.out hb4))
    have HSZ4 := Lib.hid (bl_trans HBW3.out hb4).size
    have hz9 : L + zn ≤ 600000 := by have h1 := HLEN.out; have h2 := HZ8.out; have h3 := H5.out; omega
    clear hb4 HJ
    go_wp2_with (at_builtin; go_loud (refine wpList_clone rfl _ _ 25 rfl w.heap.size 5 Try.underlying25 Try.infoByte rfl (by decide) rfl HRW4.out rfl (ys := bytesV z) (by rw [bytesV_len]; have := HZN.out; omega) (fun j u hj => (own_bat HR4.out).cells j u hj) (own_nil HR4.out) (bytesV_one z) (by unfold maxLen; omega) (by omega) HB4.out.size ?_); intro v1 w5 hown1 hgrow hat1; obtain ⟨va1, vc1, rfl⟩ := own_slice hown1; have HOWN := Lib.hid hown1; have HB5 := Lib.hid (HB4.out.trans (own_below HRW4.out hgrow HB4.out.size)); have HSZ5 := Lib.hid (Nat.lt_of_lt_of_le HSZ.out (Nat.le_trans HSZ4.out hgrow.size)); clear hown1 hgrow hat1)
    go_roundg (N - (k + 1))
    case measure => have := HGK.out; omega
    case rel => exact ⟨⟨HB5.out, HSZ5.out⟩, k + 1, by omega, rfl, by go_num, by rw [HSC.out, HS3.out], by
        rw [HSC.out, List.length_append, bytesV_app, ← HL.out, ← HZN.out]; exact HOWN.out, by
        rw [HSC.out, List.length_append, ← HL.out, ← HZN.out]
        have h1 := HLEN.out; have h2 := HZ8.out; have h3 := H5.out; omega, fun j hj => by
        by_cases e : j = k
        · rw [e, ← HXE.out]; show xl.length ≤ 5000; rw [← HXN.out]; exact H5.out
        · exact HALL.out j (by omega)⟩
end Go.Proofs.Ytnmmhggdjlfnfaa
