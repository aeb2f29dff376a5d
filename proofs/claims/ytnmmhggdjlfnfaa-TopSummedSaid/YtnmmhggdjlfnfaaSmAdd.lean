/- crc: Add, Sum, Join. Conditions: none. -/
import Derived.Test.YtnmmhggdjlfnfaaSmCrc
namespace Go.Proofs.Ytnmmhggdjlfnfaa
open Go.RowKit
/-- Bytes that can be read. -/
def BAt (w : World) (a : Option Addr) (l : List W8) : Prop := ∀ j, j < l.length → ∃ b off, a = some ⟨b, off, none⟩ ∧ w.cell? ⟨b, off + j, none⟩ = some (.int .u8 ((l.getD j 0).toNat : Int))
theorem BAt.keep {w w' : World} {a : Option Addr} {l : List W8} (h : BAt w a l) (k : Below w.heap.size w w') : BAt w' a l := fun j hj => by
  obtain ⟨b, off, e, hc⟩ := h j hj
  exact ⟨b, off, e, cell_keep k hc⟩
theorem u_not (s : W32) : bits .xor .u32 IntKind.u32.max (s.toNat : Int) = ((~~~ s).toNat : Int) := by
  rw [show IntKind.u32.max = ((BitVec.allOnes 32).toNat : Int) from rfl, u_xor, BitVec.allOnes_xor]
theorem take_succ (l : List W8) {k : Nat} (h : k < l.length) : l.take (k + 1) = l.take k ++ [l.getD k 0] := by
  rw [List.take_add_one, List.getD_eq_getElem?_getD, List.getElem?_eq_getElem h]
  rfl
theorem u_idx (r : W32) (x : W8) : bits .xor .u8 ((r.toNat : Int) % 256) (x.toNat : Int) = ((r.setWidth 8 ^^^ x).toNat : Int) := by
  rw [show (r.toNat : Int) % 256 = ((r.toNat % 256 : Nat) : Int) by omega, u8_xor_nat _ _ (by omega) x.isLt, BitVec.toNat_xor, BitVec.toNat_setWidth]
theorem u_eat (r : W32) (x : W8) : bits .xor .u32 ((r.toNat : Int) / 256) ((S8 (BitVec.ofNat 32 (r.setWidth 8 ^^^ x).toNat)).toNat : Int) = ((r >>> 8 ^^^ S8 ((r.setWidth 8 ^^^ x).setWidth 32)).toNat : Int) := by
  rw [show (256 : Int) = 2 ^ 8 from rfl, u_shr, u_xor, BitVec.ofNat_toNat]
set_option maxRecDepth 100000 in
set_option maxHeartbeats 2000000 in
theorem add_at (s : W32) (a : Option Addr) (l : List W8) (c : Nat) (w : World) (hl : BAt w a l) (hm : l.length ≤ 1099511627776) :
    Calls Try.prog 9 #[.int .u32 (s.toNat : Int), .slice a l.length c] w fun e w' => e = .returned (.int .u32 ((addC s l).toNat : Int)) ∧ Below w.heap.size w w' := by
  obtain ⟨Z, hZ1, hZ2⟩ := zeroT
  have HZ1 := Lib.hid hZ1
  have HL := Lib.hid hl
  obtain ⟨N, hN⟩ : ∃ N, N = l.length := ⟨_, rfl⟩
  rw [← hN] at hm ⊢
  have hm9 : (N : Int) ≤ 1099511627776 := by omega
  have HN := Lib.hid hN
  clear hZ1 hl hN
  go_enter Try.func9, Try.ntmps9
  go_wp2_with fail
  refine table_at.mono ?_; rintro e w1 ⟨ct, rfl, hr, hb1⟩
  have HR := Lib.hid hr
  have HB1 := Lib.hid hb1
  have HI := Lib.hid (show (Try.prog.info? 46).map (·.size) = some ct.size by rw [hr.1]; exact (zero_of_info Try.infoT).2)
  have HSZ := Lib.hid (show Z.size = ct.size by rw [hr.1, HZ1.out])
  have HON := Lib.hid (show ct.all (·.oneCell') = true from hr.one)
  have HNW := Lib.hid (blk_new w1 (.cells Z 46) rfl)
  clear hr hb1
  go_wp2_with (refine wpList_store_row rfl 46 _ _ rfl w1.heap.size ct rfl rfl 46 Z HNW.out HI.out HSZ.out HON.out ?_)
  rw [World.setRow_alloc_new, u_not]
  obtain ⟨s', hs'⟩ : ∃ s', s' = ~~~ s := ⟨_, rfl⟩
  rw [← hs']
  have HS' := Lib.hid hs'
  have hk4 := blk_new w1 (.cells ct 46) rfl
  have hb4 := bl_trans HB1.out (bl_alloc (Below.refl w1.heap.size w1) (.cells ct 46))
  obtain ⟨W4, hW4⟩ : ∃ W4, W4 = w1.alloc (.cells ct 46) := ⟨_, rfl⟩
  obtain ⟨q, hq⟩ : ∃ q, q = w1.heap.size := ⟨_, rfl⟩
  rw [← hW4] at hk4 hb4 ⊢
  rw [← hq] at hk4 ⊢
  have HK4 := Lib.hid hk4
  have HB4 := Lib.hid hb4
  clear hk4 hb4 hW4 hq h hZ2 hs'
  go_loopg [6, 14] N (fun g r j wr => Below W4.heap.size W4 wr ∧ ∃ k : Nat, k ≤ N ∧ g = N - k ∧ j = .int .i64 k ∧ r = .int .u32 ((eats s' (l.take k)).toNat : Int))
  case atStart => exact ⟨Below.refl _ _, 0, by omega, by omega, rfl, rfl⟩
  case round =>
    obtain ⟨hb, k, hk0, hgk, rfl, rfl⟩ := hrel
    have HGK := Lib.hid hgk
    clear hgk
    by_cases hk : k < N
    case neg =>
      obtain rfl : k = N := by omega
      have hk1 : decide ((k : Int) < (k : Int)) = false := decide_eq_false (by omega)
      have hk1' : decide (k < k) = false := decide_eq_false (by omega)
      have HE := Lib.hid (show l.take k = l by rw [HN.out, List.take_length])
      obtain ⟨r, hr⟩ : ∃ r, r = eats s' (l.take k) := ⟨_, rfl⟩
      rw [← hr]
      have HR9 := Lib.hid hr
      clear hr
      go_wp2_with fail
      go_ret
      refine ⟨?_, bl_trans HB4.out hb⟩
      rw [u_not, HR9.out, HE.out, HS'.out]
      rfl
    have hk1 : decide ((k : Int) < N) = true := decide_eq_true (by omega)
    have hk1' : decide (k < N) = true := decide_eq_true hk
    have hk2 : (0 : Int) ≤ (k : Int) := by omega
    have hk4 : (k : Int) < N := by omega
    have hkl : k < l.length := by rw [← HN.out]; exact hk
    obtain ⟨b1, o1, ha, hc⟩ := (HL.out.keep (bl_trans HB4.out hb)) k hkl
    obtain ⟨x, hx⟩ : ∃ x, x = l.getD k 0 := ⟨_, rfl⟩
    rw [← hx] at hc
    obtain ⟨r, hr⟩ : ∃ r, r = eats s' (l.take k) := ⟨_, rfl⟩
    rw [← hr]
    have HRE := Lib.hid hr
    have HX := Lib.hid hx
    subst ha
    obtain ⟨i, hi⟩ : ∃ i : Nat, i = (r.setWidth 8 ^^^ x).toNat := ⟨_, rfl⟩
    have hix : bits .xor .u8 ((r.toNat : Int) % 256) (x.toNat : Int) = (i : Int) := by rw [hi]; exact u_idx r x
    have hi4 : i < 256 := by rw [hi]; exact (r.setWidth 8 ^^^ x).isLt
    have hi1 : (0 : Int) ≤ (i : Int) := by omega
    have hi2 : (i : Int) < 256 := by omega
    obtain ⟨y, hy⟩ : ∃ y, y = S8 (BitVec.ofNat 32 i) := ⟨_, rfl⟩
    have hcy : wr.cell? ⟨q, i, none⟩ = some (.int .u32 (y.toNat : Int)) := by
      rw [blk_cell (blk_below HK4.out hb (blk_lt HK4.out)), HR.out.2 i hi4, hy]
      rfl
    obtain ⟨z, hz⟩ : ∃ z, z = eat r x := ⟨_, rfl⟩
    have hfin : bits .xor .u32 ((r.toNat : Int) / 256) (y.toNat : Int) = (z.toNat : Int) := by
      rw [hz, hy, hi, ← eat_eq]
      exact u_eat r x
    have HZ := Lib.hid hz
    clear hr hx hi hy hz
    go_wp2_with fail
    go_roundg (N - (k + 1))
    case measure => have := HGK.out; omega
    case rel => exact ⟨hb, k + 1, by omega, rfl, by go_num, by
        rw [HZ.out, HRE.out, HX.out, take_succ l hkl]
        unfold eats
        rw [List.foldl_append]
        rfl⟩
set_option maxRecDepth 100000 in
theorem sum_at (a : Option Addr) (l : List W8) (c : Nat) (w : World) (hl : BAt w a l) (hm : l.length ≤ 1099511627776) :
    Calls Try.prog 4 #[.slice a l.length c] w fun e w' => e = .returned (.int .u32 ((sumC l).toNat : Int)) ∧ Below w.heap.size w w' := by
  have HA := Lib.hid (add_at 0#32 a l c w hl hm)
  clear hl hm
  go_enter Try.func4, Try.ntmps4
  go_wp2_with fail
  refine HA.out.mono ?_; rintro e w1 ⟨rfl, hb⟩
  go_wp2_with fail
  go_ret
  exact ⟨rfl, hb⟩
theorem pow_odd (f : W32 → W32) (n : Nat) (a : W32) : pow f (2 * n + 1) a = pow (fun x => f (f x)) n (f a) := (pow_two f n (f a)).symm
theorem i_odd (n : Nat) (h : n ≤ 1048576) : bits .and .i64 (n : Int) 1 = ((n % 2 : Nat) : Int) := by
  have h1 : (BitVec.ofInt 64 1).toNat = 2 ^ 1 - 1 := by decide
  have key : (BitVec.ofInt 64 (n : Int) &&& BitVec.ofInt 64 1).toNat = ((n : Int) % ((2 ^ 64 : Nat) : Int)).toNat % 2 ^ 1 := by
    rw [BitVec.toNat_and, BitVec.toNat_ofInt, h1, Nat.and_two_pow_sub_one_eq_mod]
  show IntKind.i64.wrap ((BitVec.ofInt 64 (n : Int) &&& BitVec.ofInt 64 1).toNat : Nat) = _
  rw [key, IntKind.wrap_i64]
  omega
set_option maxRecDepth 100000 in
set_option maxHeartbeats 2000000 in
theorem join_at (a b : W32) (n : Nat) (w : World) (hn : n ≤ 1048576) :
    Calls Try.prog 6 #[.int .u32 (a.toNat : Int), .int .u32 (b.toNat : Int), .int .i64 n] w fun e w' => e = .returned (.tuple #[.int .u32 ((pow S8 n a ^^^ b).toNat : Int), .int .i64 0]) ∧ Below w.heap.size w w' := by
  have h0 : decide ((n : Int) < 0) = false := decide_eq_false (by omega)
  have h1 : decide ((1048576 : Int) < (n : Int)) = false := decide_eq_false (by omega)
  have h1' : decide (1048576 < n) = false := decide_eq_false (by omega)
  have HN := Lib.hid hn
  clear hn
  go_enter Try.func6, Try.ntmps6
  go_wp2_with fail
  refine stepped_at.mono ?_; rintro e w1 ⟨q1, rfl, hm1, hb1⟩
  have HM1 := Lib.hid hm1
  clear hm1
  go_wp2_with fail
  refine (squared_at HM1.out S1_lin).mono ?_; rintro e w2 ⟨q2, rfl, hm2, hb2⟩
  have HM2 := Lib.hid hm2
  replace hb1 := bl_trans hb1 hb2
  clear hm2 hb2 HM1
  go_wp2_with fail
  refine (squared_at HM2.out S2_lin).mono ?_; rintro e w3 ⟨q3, rfl, hm3, hb3⟩
  have HM3 := Lib.hid hm3
  replace hb1 := bl_trans hb1 hb3
  clear hm3 hb3 HM2
  go_wp2_with fail
  refine (squared_at HM3.out S4_lin).mono ?_; rintro e w4 ⟨q4, rfl, hm4, hb4⟩
  have HM4 := Lib.hid (show MatAt w4 q4 S8 from hm4)
  have HB1 := Lib.hid (bl_trans hb1 hb4)
  clear hm4 hb4 HM3 hb1
  go_wp2_with fail
  clear h0 h1 h1'
  go_loopg [0, 2, 8] (n + 1) (fun g va vn vm wr => Below w.heap.size w wr ∧ ∃ (a' : W32) (k q : Nat) (f : W32 → W32), k ≤ 1048576 ∧ g = k + 1 ∧ va = .int .u32 (a'.toNat : Int) ∧ vn = .int .i64 k ∧ vm = .pointer (some ⟨q, 0, none⟩) ∧ MatAt wr q f ∧ LinF f ∧ pow f k a' = pow S8 n a)
  case atStart => exact ⟨HB1.out, a, n, q4, S8, HN.out, rfl, rfl, rfl, rfl, HM4.out, S8_lin, rfl⟩
  case round =>
    obtain ⟨hb, a', k, q, f, hk9, hg, rfl, rfl, rfl, hm, hf, hp⟩ := hrel
    have HG := Lib.hid hg
    have HM := Lib.hid hm
    have HF := Lib.hid hf
    have HP := Lib.hid hp
    have HB := Lib.hid hb
    clear hg hm hf hp hb
    by_cases hk : 0 < k
    case neg =>
      obtain rfl : k = 0 := by omega
      have HR := Lib.hid (show a' = pow S8 n a from HP.out)
      have d1 : decide ((0 : Int) < ((0 : Nat) : Int)) = false := by decide
      go_wp2_with fail
      go_ret2
      refine ⟨?_, HB.out⟩
      rw [u_xor, HR.out]
      rfl
    have d1 : decide ((0 : Int) < (k : Int)) = true := decide_eq_true (by omega)
    have d1' : decide (0 < k) = true := decide_eq_true hk
    obtain ⟨k2, hk2⟩ : ∃ k2, k2 = k / 2 := ⟨_, rfl⟩
    have hs2 : (k : Int) / 2 = (k2 : Int) := by omega
    obtain ⟨k1, hk1⟩ : ∃ k1, k1 = k % 2 := ⟨_, rfl⟩
    have hs1 : bits .and .i64 (k : Int) 1 = (k1 : Int) := by rw [i_odd k hk9, hk1]
    have hk7 : k2 ≤ 1048576 := by omega
    have HT := Lib.hid (times_at HM.out HF.out a')
    by_cases ho : k1 = 1
    · subst ho
      have HK := Lib.hid (show k = 2 * k2 + 1 by omega)
      clear hk1 hk2
      go_wp2_with fail
      refine HT.out.mono ?_
      rintro e w5 ⟨rfl, hbx⟩
      have HS := Lib.hid (squared_at (HM.out.keep hbx) HF.out)
      clear hs1
      go_wp2_with fail
      refine HS.out.mono ?_
      rintro e w6 ⟨q6, rfl, hm6, hb6⟩
      have HM6 := Lib.hid hm6
      have HB6 := Lib.hid (bl_trans HB.out (bl_trans hbx hb6))
      clear hm6 hb6 hbx
      go_wp2_with fail
      go_roundg (k2 + 1)
      case measure => have h1 := HG.out; have h2 := HK.out; omega
      case rel => exact ⟨HB6.out, f a', k2, q6, fun x => f (f x), hk7, rfl, rfl, rfl, rfl, HM6.out, HF.out.comp HF.out, by
          have h1 := HP.out
          rw [HK.out] at h1
          rw [← h1]
          exact (pow_odd f k2 a').symm⟩
    · obtain rfl : k1 = 0 := by omega
      have HK := Lib.hid (show k = 2 * k2 by omega)
      clear hk1 hk2 ho
      have hbx := Below.refl wr.heap.size wr
      have HS := Lib.hid (squared_at (HM.out.keep hbx) HF.out)
      go_wp2_with fail
      refine HS.out.mono ?_
      rintro e w6 ⟨q6, rfl, hm6, hb6⟩
      have HM6 := Lib.hid hm6
      have HB6 := Lib.hid (bl_trans HB.out (bl_trans hbx hb6))
      clear hm6 hb6 hbx
      go_wp2_with fail
      go_roundg (k2 + 1)
      case measure => have h1 := HG.out; have h2 := HK.out; omega
      case rel => exact ⟨HB6.out, a', k2, q6, fun x => f (f x), hk7, rfl, rfl, rfl, rfl, HM6.out, HF.out.comp HF.out, by
          have h1 := HP.out
          rw [HK.out] at h1
          rw [← h1]
          exact pow_two f k2 a'⟩
end Go.Proofs.Ytnmmhggdjlfnfaa
