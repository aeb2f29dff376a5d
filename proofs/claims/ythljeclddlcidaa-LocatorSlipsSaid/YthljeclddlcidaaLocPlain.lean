/- The plain mathematics of locators: no program in sight. -/
import Derived.Lib.Bytealg
namespace Go.Proofs.Ythljeclddlcidaa.Loc
def signs : Array UInt8 := #[65, 66, 67, 68, 69, 70, 71, 72, 74, 75, 76, 77, 78, 80, 81, 82, 84, 85, 86, 87, 88, 89, 90, 50, 51, 52, 53, 54, 55, 56, 57]
/-- The sign of a worth. -/
def sgB (d : Int) : UInt8 := signs.getD d.toNat 0
def sg (d : Int) : Int := ((sgB d).toNat : Int)
/-- The sixth worth. -/
def chk (a b c d e : Int) : Int := -(2 * a + 3 * b + 4 * c + 5 * d + 6 * e) % 31
def locS (n : Int) : ByteArray :=
  ⟨#[sgB (n / 31 / 31 / 31 / 31 % 31), sgB (n / 31 / 31 / 31 % 31), sgB (n / 31 / 31 % 31), sgB (n / 31 % 31), sgB (n % 31),
     sgB (chk (n / 31 / 31 / 31 / 31 % 31) (n / 31 / 31 / 31 % 31) (n / 31 / 31 % 31) (n / 31 % 31) (n % 31))]⟩
theorem locS_mk {n d0 d1 d2 d3 d4 s1 s2 s3 s4 s5 : Int} (e0 : n / 31 / 31 / 31 / 31 % 31 = d0) (e1 : n / 31 / 31 / 31 % 31 = d1) (e2 : n / 31 / 31 % 31 = d2) (e3 : n / 31 % 31 = d3) (e4 : n % 31 = d4)
    (h1 : s1 = (0 + 2 * d0) % 31) (h2 : s2 = (s1 + 3 * d1) % 31) (h3 : s3 = (s2 + 4 * d2) % 31) (h4 : s4 = (s3 + 5 * d3) % 31) (h5 : s5 = (s4 + 6 * d4) % 31) :
    locS n = ⟨[sgB d0, sgB d1, sgB d2, sgB d3, sgB d4, sgB (-s5 % 31)].toArray⟩ := by
  have hc : chk d0 d1 d2 d3 d4 = -s5 % 31 := by unfold chk; omega
  unfold locS
  rw [e0, e1, e2, e3, e4, hc]
theorem locS_of {n d0 d1 d2 d3 d4 k : Int} (e0 : n / 31 / 31 / 31 / 31 % 31 = d0) (e1 : n / 31 / 31 / 31 % 31 = d1) (e2 : n / 31 / 31 % 31 = d2) (e3 : n / 31 % 31 = d3) (e4 : n % 31 = d4)
    (h : k = chk d0 d1 d2 d3 d4) : locS n = ⟨[sgB d0, sgB d1, sgB d2, sgB d3, sgB d4, sgB k].toArray⟩ := by
  unfold locS
  rw [e0, e1, e2, e3, e4, h]

/-! Reading. -/
def wvB (b : UInt8) : Int := Go.Lib.indexByte signs.toList b
/-- The worth of a byte given as a number. -/
def wv (x : Int) : Int := wvB x.toNat.toUInt8
theorem wvB_all : ∀ b : UInt8, -1 ≤ wvB b ∧ wvB b < 31 ∧ (0 ≤ wvB b → sgB (wvB b) = b ∧ b.toNat ≤ 90) := by
  have h : ∀ n : Nat, n < 256 → -1 ≤ wvB (UInt8.ofNat n) ∧ wvB (UInt8.ofNat n) < 31 ∧ (0 ≤ wvB (UInt8.ofNat n) → sgB (wvB (UInt8.ofNat n)) = UInt8.ofNat n ∧ (UInt8.ofNat n).toNat ≤ 90) := by decide +kernel
  intro b
  have := h b.toNat b.toNat_lt
  rwa [UInt8.ofNat_toNat] at this
theorem wvB_sgB : ∀ k : Nat, k < 31 → wvB (sgB (k : Int)) = k := by decide +kernel
theorem wv_nat (b : UInt8) : wv (b.toNat : Int) = wvB b := by
  unfold wv
  rw [Int.toNat_natCast]
  congr 1
  simp
theorem wvB_sg {d : Int} (h0 : 0 ≤ d) (h1 : d < 31) : wvB (sgB d) = d := by
  obtain ⟨k, rfl⟩ := Int.eq_ofNat_of_zero_le h0
  exact wvB_sgB k (by omega)
theorem wv_rng (x : Int) : -1 ≤ wv x ∧ wv x < 31 := ⟨(wvB_all _).1, (wvB_all _).2.1⟩

/-- The k-th byte. -/
def bt (s : ByteArray) (k : Nat) : UInt8 := s.data.toList.getD k 0
theorem bt_get (s : ByteArray) (k : Nat) (h : k < s.size) : s[k] = bt s k := by
  unfold bt
  rw [List.getD_eq_getElem?_getD, List.getElem?_eq_getElem (by simpa using h)]
  rfl
/-- The worth of the k-th sign. -/
def wk (s : ByteArray) (k : Nat) : Int := wvB (bt s k)
def okTo (s : ByteArray) (k : Nat) : Prop := ∀ j, j < k → 0 ≤ wk s j
def valTo (s : ByteArray) : Nat → Int
  | 0 => 0
  | k + 1 => valTo s k * 31 + wk s k
def sumTo (s : ByteArray) : Nat → Int
  | 0 => 0
  | k + 1 => (sumTo s k + ((k : Int) + 2) * wk s k) % 31
theorem sumTo_rng (s : ByteArray) (k : Nat) : 0 ≤ sumTo s k ∧ sumTo s k < 31 := by
  cases k with
  | zero => exact ⟨by simp [sumTo], by simp [sumTo]⟩
  | succ k => unfold sumTo; omega
theorem wk_rng (s : ByteArray) (k : Nat) : -1 ≤ wk s k ∧ wk s k < 31 := ⟨(wvB_all _).1, (wvB_all _).2.1⟩
theorem okTo_succ {s : ByteArray} {k : Nat} (h : okTo s k) (hk : 0 ≤ wk s k) : okTo s (k + 1) := by
  intro j hj
  by_cases e : j = k
  · subst e; exact hk
  · exact h j (by omega)
theorem valTo_rng {s : ByteArray} {k : Nat} (h : okTo s k) : 0 ≤ valTo s k ∧ valTo s k < 31 ^ k := by
  induction k with
  | zero => simp [valTo]
  | succ k ih =>
    have i := ih (fun j hj => h j (by omega))
    have a := h k (by omega)
    have b := wk_rng s k
    unfold valTo
    rw [Int.pow_succ]
    omega
/-- Is that a locator? -/
def good (s : ByteArray) : Prop := s.size = 6 ∧ okTo s 6 ∧ (sumTo s 5 + wk s 5) % 31 = 0
open Classical in
noncomputable def rdE (s : ByteArray) : Int := if good s then 0 else 6
open Classical in
noncomputable def rdN (s : ByteArray) : Int := if good s then valTo s 5 else 0
theorem rd_good {s : ByteArray} (h : good s) : rdE s = 0 ∧ rdN s = valTo s 5 := by simp [rdE, rdN, h]
theorem rd_bad {s : ByteArray} (h : ¬ good s) : rdE s = 6 ∧ rdN s = 0 := by simp [rdE, rdN, h]
theorem bad_at {s : ByteArray} {k : Nat} (h : k < 6) (hk : wk s k < 0) : ¬ good s := fun g => by have := g.2.1 k h; omega
theorem good_at {s : ByteArray} (h6 : s.size = 6) (h : okTo s 6) (hs : (sumTo s 5 + wk s 5) % 31 = 0) : good s := ⟨h6, h, hs⟩
theorem high_bad {s : ByteArray} {k : Nat} (h : k < 6) (hk : 90 < (bt s k).toNat) : ¬ good s := by
  refine bad_at h ?_
  by_cases e : 0 ≤ wk s k
  · have := ((wvB_all (bt s k)).2.2 e).2; omega
  · omega
theorem sum_mod (s : ByteArray) : (2 * wk s 0 + 3 * wk s 1 + 4 * wk s 2 + 5 * wk s 3 + 6 * wk s 4 + wk s 5) % 31 = (sumTo s 5 + wk s 5) % 31 := by
  simp only [sumTo]
  omega
end Go.Proofs.Ythljeclddlcidaa.Loc
