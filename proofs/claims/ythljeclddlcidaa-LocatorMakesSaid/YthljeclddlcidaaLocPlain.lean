/- The plain mathematics of locators: no program in sight. -/
namespace Go.Proofs.Ythljeclddlcidaa.Loc
def signs : Array UInt8 := #[65, 66, 67, 68, 69, 70, 71, 72, 74, 75, 76, 77, 78, 80, 81, 82, 84, 85, 86, 87, 88, 89, 90, 50, 51, 52, 53, 54, 55, 56, 57]
/-- The sign of a worth. -/
def sgB (d : Int) : UInt8 := signs.getD d.toNat 0
def sg (d : Int) : Int := ((sgB d).toNat : Int)
/-- The sixth worth. -/
def chk (a b c d e : Int) : Int := -(2 * a + 3 * b + 4 * c + 5 * d + 6 * e) % 31
def locS (n : Int) : ByteArray :=
  ⟨#[sgB (n / 31 / 31 / 31 / 31 % 31), sgB (n / 31 / 31 / 31 % 31), sgB (n / 31 / 31 % 31), sgB (n / 31 % 31), sgB (n % 31),
     sgB (chk (n / 31 / 31 / 31 / 31 % 31) (n / 31 / 31 / 31 % 31) (n / 31 / 31 % 31) (n / 31 % 31) (n % 31))]⟩
theorem locS_mk {n d0 d1 d2 d3 d4 s1 s2 s3 s4 s5 : Int} (e0 : n / 31 / 31 / 31 / 31 % 31 = d0) (e1 : n / 31 / 31 / 31 % 31 = d1) (e2 : n / 31 / 31 % 31 = d2) (e3 : n / 31 % 31 = d3) (e4 : n % 31 = d4)
    (h1 : s1 = (0 + 2 * d0) % 31) (h2 : s2 = (s1 + 3 * d1) % 31) (h3 : s3 = (s2 + 4 * d2) % 31) (h4 : s4 = (s3 + 5 * d3) % 31) (h5 : s5 = (s4 + 6 * d4) % 31) :
    locS n = ⟨[sgB d0, sgB d1, sgB d2, sgB d3, sgB d4, sgB (-s5 % 31)].toArray⟩ := by
  have hc : chk d0 d1 d2 d3 d4 = -s5 % 31 := by unfold chk; omega
  unfold locS
  rw [e0, e1, e2, e3, e4, hc]
theorem locS_of {n d0 d1 d2 d3 d4 k : Int} (e0 : n / 31 / 31 / 31 / 31 % 31 = d0) (e1 : n / 31 / 31 / 31 % 31 = d1) (e2 : n / 31 / 31 % 31 = d2) (e3 : n / 31 % 31 = d3) (e4 : n % 31 = d4)
    (h : k = chk d0 d1 d2 d3 d4) : locS n = ⟨[sgB d0, sgB d1, sgB d2, sgB d3, sgB d4, sgB k].toArray⟩ := by
  unfold locS
  rw [e0, e1, e2, e3, e4, h]
end Go.Proofs.Ythljeclddlcidaa.Loc
