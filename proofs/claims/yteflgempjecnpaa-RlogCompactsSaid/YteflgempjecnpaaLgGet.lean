/- rlog: Get. Conditions: none. -/
import Derived.Test.YteflgempjecnpaaLgG7
namespace Go.Proofs.Yteflgempjecnpaa
open Go.RowKit
def GetPost (w : World) (l : List Ent) (e : Ending) (w' : World) : Prop :=
  ∃ a l' c, e = .returned (.slice a l'.length c) ∧ w'.ownsRow w.heap.size 45 4 (.slice a l'.length c) l'.length (entsC l') ∧ Sames l l' ∧ (∀ j, j < l'.length → Own8 w' (atE l' j).d) ∧ Below w.heap.size w w'
set_option maxRecDepth 100000 in
set_option maxHeartbeats 1000000 in
theorem get_at {B : Nat} {w : World} {p : Nat} {L : List Ent} {com app : Int} {v : Value} (h : GX B w p L com app v) (hG : Good L com app) (i : Int) (h1 : bE L ≤ i) (h2 : i ≤ lastE L) (hL : L.length ≤ 90000) (z : Int) (hz : z = i + 1) :
    Calls Try.prog 18 #[.pointer (some ⟨p, 0, none⟩), .int .i64 z, .int .i64 100000] w fun e w' => GetPost w (L.drop (i + 1 - bE L).toNat) e w' := by
  obtain ⟨ea, ec, rfl⟩ := h.rowE hG.ne
  have hcap : L.length ≤ ec := by
    rcases h.row.2 with ⟨e, h0⟩ | ⟨g', cap, cur, e, _, _, hc, _⟩
    · cases e
    · injection e with _ _ e3
      omega
  have HX := Lib.hid h
  have HG := Lib.hid hG
  have hb := Below.refl w.heap.size w
  have HH := Lib.hid (fun (W : World) (k : Below w.heap.size w W) => has_at (HX.out.below k) HG.out z)
  have HBA := Lib.hid (fun (W : World) (k : Below w.heap.size w W) => base_at (HX.out.below k) HG.out)
  obtain ⟨b, hbe⟩ : ∃ b, b = bE L := ⟨_, rfl⟩
  have HBE := Lib.hid hbe
  have hz1 : decide (z ≤ b) = false := decide_eq_false (by omega)
  have hbm : b ≤ 1099511627776 := by have h3 := hG.top; have h4 := hG.ne; unfold maxI at h3; have : bE L = (atE L 0).ix := rfl; omega
  have hb0 : 0 ≤ b := by have := hG.b0; have : bE L = (atE L 0).ix := rfl; omega
  obtain ⟨k, hk⟩ : ∃ k : Nat, i + 1 - bE L = k := ⟨(i + 1 - bE L).toNat, by omega⟩
  have hkn : (i + 1 - bE L).toNat = k := by omega
  rw [hkn]
  unfold lastE at h2
  by_cases hin : k < L.length
  case neg =>
    have hkl : k = L.length := by omega
    have HR := Lib.hid (show ∀ W, Below w.heap.size w W → GetPost w (L.drop k) (.returned (.slice none 0 0)) W from fun W hW => ⟨none, [], 0, rfl, World.ownsRow_nil _ _ _ _, ⟨by rw [hkl]; simp, fun j hj => by rw [hkl] at hj; simp at hj⟩, fun j hj => by simp at hj, hW⟩)
    have HHF := Lib.hid (show ∀ W, Below w.heap.size w W → Calls Try.prog 43 #[.pointer (some ⟨p, 0, none⟩), .int .i64 z] W fun e w' => e = .returned (.bool false) ∧ Below W.heap.size W w' from fun W k' => by
      have h9 := HH.out W k'
      rw [show decide (bE L ≤ z ∧ z ≤ lastE L) = false from decide_eq_false (by unfold lastE; omega)] at h9
      exact h9)
    rw [← hbe] at HBA
    clear h hG hcap hbe hL h1 h2 hz hin hkl hk hkn
    go_enter Try.func18, Try.ntmps18
    go_wp2_with fail
    refine (HBA.out _ hb).mono ?_; rintro e w1 ⟨rfl, rfl⟩
    go_wp2_with fail
    refine (HHF.out _ hb).mono ?_; rintro e w1 ⟨rfl, hb1⟩
    go_wp2_with fail
    go_ret
    exact HR.out _ hb1
  obtain ⟨M, hM⟩ : ∃ M, M = L.length - k := ⟨_, rfl⟩
  have HHT := Lib.hid (show ∀ W, Below w.heap.size w W → Calls Try.prog 43 #[.pointer (some ⟨p, 0, none⟩), .int .i64 z] W fun e w' => e = .returned (.bool true) ∧ Below W.heap.size W w' from fun W k' => by
    have h9 := HH.out W k'
    rw [show decide (bE L ≤ z ∧ z ≤ lastE L) = true from decide_eq_true (by unfold lastE; omega)] at h9
    exact h9)
  have HF := Lib.hid (show ∀ W, Below w.heap.size w W → Calls Try.prog 44 #[.pointer (some ⟨p, 0, none⟩), .int .i64 z] W fun e w' => e = .returned (.slice (some ⟨ea, k * 4, none⟩) M (ec - k)) ∧ Below W.heap.size W w' from fun W k' => by
    have h9 := from_at (i := z) (k := k) (HX.out.below k') HG.out hin (by omega) hcap
    rw [← hM] at h9
    exact h9)
  have HM := Lib.hid hM
  have HIN := Lib.hid hin
  have HLL := Lib.hid hL
  obtain ⟨c2, hc2⟩ : ∃ c2, c2 = ec - k := ⟨_, rfl⟩
  rw [← hc2] at HF
  have hMc : M ≤ c2 := by omega
  have hM9 : (M : Int) ≤ 90000 := by omega
  have hM0 : M ≤ 90000 := by omega
  have hm1 : decide ((M : Int) < 100000) = true := decide_eq_true (by omega)
  have hm2 : decide (M < 100000) = true := decide_eq_true (by omega)
  rw [← hbe] at HBA
  have hea : EA w (some ⟨ea, k * 4, none⟩) (L.drop k) := fun j hj => ⟨ea, k * 4, rfl, fun m u hu => by
    rw [List.length_drop] at hj
    have hu' : (entC (atE L (k + j)))[m]? = some u := by rw [← atE_drop]; exact hu
    have := HX.out.ent (i := k + j) (by omega) hu'
    rw [show (k + j) * 4 + m = k * 4 + j * 4 + m by omega] at this
    exact this⟩
  obtain ⟨o1, ho1⟩ : ∃ o1, o1 = k * 4 := ⟨_, rfl⟩
  rw [← ho1] at HF hea
  have hlen : M = (L.drop k).length := by rw [List.length_drop, hM]
  have HLEN := Lib.hid hlen
  have HC := Lib.hid (show ∀ W, Below w.heap.size w W → _ from fun W hW => copied_at (some ⟨ea, o1, none⟩) (L.drop k) c2 W (hea.keep hW) (by rw [← hlen]; omega) (fun j hj => by
    rw [atE_drop]
    rw [List.length_drop] at hj
    have h8 := (HX.out.dat (k + j) (by omega)).below hW
    exact ⟨h8.at_, h8.1, h8.2.1⟩))
  rw [← hlen] at HC
  have HO1 := Lib.hid ho1
  clear h hG hcap hbe hL h1 h2 hz hin hk hkn hM hc2 ho1 hea hlen
  go_enter Try.func18, Try.ntmps18
  go_wp2_with fail
  refine (HBA.out _ hb).mono ?_; rintro e w1 ⟨rfl, rfl⟩
  go_wp2_with fail
  refine (HHT.out _ hb).mono ?_; rintro e w1 ⟨rfl, hb1⟩
  go_wp2_with fail
  refine (HF.out _ hb1).mono ?_; rintro e w2 ⟨rfl, hb2⟩
  replace hb := bl_trans hb1 hb2
  clear hb1 hb2
  go_wp2_with fail
  refine (HC.out w2 hb).mono ?_
  rintro e w3 ⟨v, l', rfl, hr, hl, hs, h8, hb3⟩
  go_wp2_with fail
  go_ret
  obtain ⟨va, vc, rfl⟩ := own_slice hr
  refine ⟨va, l', vc, ?_, row_mono (n := l'.length) ?_ hb.size, ⟨hl.trans HLEN.out, fun j hj => hs j (by rw [HLEN.out]; exact hj)⟩, h8, bl_trans hb hb3⟩
  · rw [hl]; rfl
  · rw [hl]; exact hr
end Go.Proofs.Yteflgempjecnpaa
