/- record: word, number, Put. Conditions: none. -/
import Derived.Test.YtnmmhggdjlfnfaaSmApp
namespace Go.Proofs.Ytnmmhggdjlfnfaa
open Go.RowKit
def wordB (x : W32) : List W8 := [(x >>> 24).setWidth 8, (x >>> 16).setWidth 8, (x >>> 8).setWidth 8, x.setWidth 8]
def numB (l : List W8) : W32 := l.foldl (fun n c => n <<< 8 ||| c.setWidth 32) 0#32
theorem num_word (x : W32) : numB (wordB x) = x := by
  apply BitVec.eq_of_getLsbD_eq
  intro k hk
  simp only [numB, wordB, List.foldl_cons, List.foldl_nil, BitVec.getLsbD_or, BitVec.getLsbD_shiftLeft, BitVec.getLsbD_setWidth, BitVec.getLsbD_ushiftRight, BitVec.getLsbD_zero]
  rcases Nat.lt_or_ge k 8 with h | h
  · simp [h, hk]
  · rcases Nat.lt_or_ge k 16 with h2 | h2
    · have e : 8 + (k - 8) = k := by omega
      simp [hk, e, show ¬ k < 8 by omega, show k - 8 < 8 by omega, show k - 8 < 32 by omega]
    · rcases Nat.lt_or_ge k 24 with h3 | h3
      · have e : 16 + (k - 8 - 8) = k := by omega
        simp [hk, e, show ¬ k < 8 by omega, show ¬ k - 8 < 8 by omega, show k - 8 - 8 < 8 by omega, show k - 8 - 8 < 32 by omega, show k - 8 < 32 by omega]
      · have e : 24 + (k - 8 - 8 - 8) = k := by omega
        simp [hk, e, show ¬ k < 8 by omega, show ¬ k - 8 < 8 by omega, show ¬ k - 8 - 8 < 8 by omega, show k - 8 - 8 - 8 < 8 by omega, show k - 8 - 8 - 8 < 32 by omega, show k - 8 - 8 < 32 by omega, show k - 8 < 32 by omega]
theorem u_byte (x : W32) (k : Nat) : (x.toNat : Int) / 2 ^ k % 256 = (((x >>> k).setWidth 8).toNat : Int) := by
  rw [u_shr, BitVec.toNat_setWidth]
  omega
theorem u_byte0 (x : W32) : (x.toNat : Int) % 256 = ((x.setWidth 8).toNat : Int) := by
  rw [BitVec.toNat_setWidth]
  omega
theorem u_w24 (x : W32) : (x.toNat : Int) / (16777216 : Int) = (((x >>> 24).setWidth 8).toNat : Int) := by
  rw [← u_byte]
  have := x.isLt
  omega
theorem u_join (r : W32) (x : W8) : bits .or .u32 ((r.toNat : Int) * 256 % 4294967296) (x.toNat : Int) = ((r <<< 8 ||| x.setWidth 32).toNat : Int) := by
  have hx := x.isLt
  rw [show (r.toNat : Int) * 256 % 4294967296 = ((r.toNat * 256 % 4294967296 : Nat) : Int) by omega, u32_or_nat _ _ (by omega) (by omega), BitVec.toNat_or, BitVec.toNat_shiftLeft, Nat.shiftLeft_eq, BitVec.toNat_setWidth, Nat.mod_eq_of_lt (show x.toNat < 2 ^ 32 by omega)]
set_option maxRecDepth 100000 in
set_option maxHeartbeats 1000000 in
theorem word_at (x : W32) (w : World) :
    Calls Try.prog 10 #[.int .u32 (x.toNat : Int)] w fun e w' => ∃ q, e = .returned (.slice (some ⟨q, 0, none⟩) 4 4) ∧ BAt w' (some ⟨q, 0, none⟩) (wordB x) ∧ Below w.heap.size w w' := by
  go_enter Try.func10, Try.ntmps10
  go_wp2_with fail
  go_ret
  refine ⟨w.heap.size, rfl, fun j hj => ⟨w.heap.size, 0, rfl, ?_⟩, bl_alloc (Below.refl _ _) _⟩
  rw [Nat.zero_add, blk_cell (blk_new w _ rfl)]
  rw [u_w24, show (65536 : Int) = 2 ^ 16 from rfl, show (x.toNat : Int) / 256 % 256 = (x.toNat : Int) / 2 ^ 8 % 256 from rfl, u_byte, u_byte, u_byte0]
  replace hj : j < 4 := hj
  rcases j with _ | _ | _ | _ | j
  · rfl
  · rfl
  · rfl
  · rfl
  · omega
set_option maxRecDepth 100000 in
set_option maxHeartbeats 1000000 in
theorem number_at (a : Option Addr) (l : List W8) (c : Nat) (w : World) (hl : BAt w a l) (hm : l.length ≤ 1099511627776) :
    Calls Try.prog 20 #[.slice a l.length c] w fun e w' => e = .returned (.int .u32 ((numB l).toNat : Int)) ∧ Below w.heap.size w w' := by
  have HL := Lib.hid hl
  obtain ⟨N, hN⟩ : ∃ N, N = l.length := ⟨_, rfl⟩
  rw [← hN] at hm ⊢
  have hm9 : (N : Int) ≤ 1099511627776 := by omega
  have HN := Lib.hid hN
  clear hl hN
  go_enter Try.func20, Try.ntmps20
  go_wp2_with fail
  go_loopg [3, 8] N (fun g r j wr => Below w.heap.size w wr ∧ ∃ k : Nat, k ≤ N ∧ g = N - k ∧ j = .int .i64 k ∧ r = .int .u32 ((numB (l.take k)).toNat : Int))
  case atStart => exact ⟨Below.refl _ _, 0, by omega, by omega, rfl, rfl⟩
  case round =>
    obtain ⟨hb, k, hk0, hgk, rfl, rfl⟩ := hrel
    have HGK := Lib.hid hgk
    clear hgk
    by_cases hk : k < N
    case neg =>
      obtain rfl : k = N := by omega
      have hk1 : decide ((k : Int) < (k : Int)) = false := decide_eq_false (by omega)
      have hk1' : decide (k < k) = false := decide_eq_false (by omega)
      have HE := Lib.hid (show l.take k = l by rw [HN.out, List.take_length])
      go_wp2_with fail
      go_ret
      refine ⟨?_, hb⟩
      rw [HE.out]
      rfl
    have hk1 : decide ((k : Int) < N) = true := decide_eq_true (by omega)
    have hk1' : decide (k < N) = true := decide_eq_true hk
    have hk2 : (0 : Int) ≤ (k : Int) := by omega
    have hk4 : (k : Int) < N := by omega
    have hkl : k < l.length := by rw [← HN.out]; exact hk
    obtain ⟨b1, o1, ha, hc⟩ := (HL.out.keep hb) k hkl
    obtain ⟨x, hx⟩ : ∃ x, x = l.getD k 0 := ⟨_, rfl⟩
    rw [← hx] at hc
    obtain ⟨r, hr⟩ : ∃ r, r = numB (l.take k) := ⟨_, rfl⟩
    rw [← hr]
    have HRE := Lib.hid hr
    have HX := Lib.hid hx
    subst ha
    clear hr hx
    obtain ⟨z, hz⟩ : ∃ z, z = r <<< 8 ||| x.setWidth 32 := ⟨_, rfl⟩
    have hfin : bits .or .u32 ((r.toNat : Int) * 256 % 4294967296) (x.toNat : Int) = (z.toNat : Int) := by rw [hz]; exact u_join r x
    have HZ := Lib.hid hz
    clear hz
    go_wp2_with fail
    go_roundg (N - (k + 1))
    case measure => have := HGK.out; omega
    case rel => exact ⟨hb, k + 1, by omega, rfl, by go_num, by
        rw [HZ.out, HRE.out, HX.out, take_succ l hkl]
        unfold numB
        rw [List.foldl_append]
        rfl⟩
end Go.Proofs.Ytnmmhggdjlfnfaa
