/- What the reference's SameInts and Has come to. Conditions: none. -/
import Derived.Test.YtmnoacjmdnmddaaDoorTcSeatRef
namespace Go.Proofs.YtmnoacjmdnmddaaDoor
open Go.RowKit

theorem list_ext_getD {xs ys : List Int} (hl : xs.length = ys.length) (h : ∀ j, j < xs.length → xs.getD j 0 = ys.getD j 0) : xs = ys := by
  apply List.ext_getElem hl
  intro j h1 h2
  have := h j h1
  simpa [List.getD, List.getElem?_eq_getElem h1, List.getElem?_eq_getElem h2] using this

set_option maxRecDepth 100000 in
theorem same_any (a b : Option Addr) (xs ys : List Int) (ca cb : Nat) (w : World) (ha : GsAt w a xs) (hb : GsAt w b ys) (hl : xs.length ≤ maxLen) (hl2 : ys.length ≤ maxLen) :
    Calls Tryd.prog 16 #[.slice a xs.length ca, .slice b ys.length cb] w fun e w' => e = .returned (.bool (decide (xs = ys))) ∧ Below w.heap.size w w' := by
  have hl' : (xs.length : Int) ≤ 9223372036854775807 := by unfold maxLen at hl; omega
  have hl2' : (ys.length : Int) ≤ 9223372036854775807 := by unfold maxLen at hl2; omega
  have HX := Lib.hid ha
  have HY := Lib.hid hb
  clear ha hb
  by_cases hle : xs.length = ys.length
  · have e1 : ((xs.length : Int) == (ys.length : Int)) = true := by simp [hle]
    have e2 : ((xs.length : Int) != (ys.length : Int)) = false := by simp [hle]
    go_enter Tryd.func16, Tryd.ntmps16
    go_wp2
    go_loopg [5] xs.length (fun g i wr => Below w.heap.size w wr ∧ ∃ k : Nat, k ≤ xs.length ∧ g = xs.length - k ∧ i = .int .i64 k ∧ ∀ j, j < k → xs.getD j 0 = ys.getD j 0)
    case atStart => exact ⟨Below.refl _ _, 0, by omega, rfl, rfl, fun j hj => by omega⟩
    case round =>
      obtain ⟨hbl, k, k0, hgk, rfl, hsofar⟩ := hrel
      have HGK := Lib.hid hgk
      have HSF := Lib.hid hsofar
      have HBL := Lib.hid hbl
      clear hgk hsofar hbl
      by_cases hk : k < xs.length
      · obtain ⟨b1, o1, h1, c1⟩ := HX.out.keep HBL.out k hk
        obtain ⟨b2, o2, h2, c2⟩ := HY.out.keep HBL.out k (by omega)
        obtain ⟨x, hxe⟩ : ∃ x, x = xs.getD k 0 := ⟨_, rfl⟩
        obtain ⟨y, hye⟩ : ∃ y, y = ys.getD k 0 := ⟨_, rfl⟩
        rw [← hxe] at c1
        rw [← hye] at c2
        have HXE := Lib.hid hxe
        have HYE := Lib.hid hye
        have hk2 : k < ys.length := by omega
        clear hxe hye
        subst h1
        subst h2
        by_cases hxy : x = y
        · have f1 : (x == y) = true := by simp [hxy]
          have f2 : (x != y) = false := by simp [hxy]
          go_wp2
          go_quiet (fail)
          go_wp2
          go_roundg (xs.length - (k + 1))
          case measure => have := HGK.out; omega
          case rel =>
            refine ⟨bl_drewN HBL.out _, k + 1, by omega, rfl, by go_num, fun j hj => ?_⟩
            by_cases hjk : j < k
            · exact HSF.out j hjk
            · obtain rfl : j = k := by omega
              rw [← HXE.out, ← HYE.out, hxy]
        · have f1 : (x == y) = false := by simp [hxy]
          have f2 : (x != y) = true := by simp [hxy]
          go_wp2
          go_quiet (fail)
          go_wp2
          go_ret
          exact ⟨ret_bool (by
            symm
            rw [decide_eq_false_iff_not]
            intro h
            subst h
            exact hxy (HXE.out.trans HYE.out.symm)), bl_drewN HBL.out _⟩
      · obtain rfl : k = xs.length := by omega
        have e := list_ext_getD hle HSF.out
        go_wp2
        go_ret
        exact ⟨ret_bool (by simp [e]), HBL.out⟩
  · have e1 : ((xs.length : Int) == (ys.length : Int)) = false := by rw [beq_eq_false_iff_ne]; omega
    have e2 : ((xs.length : Int) != (ys.length : Int)) = true := by rw [bne_iff_ne]; omega
    go_enter Tryd.func16, Tryd.ntmps16
    go_wp2
    go_ret
    exact ⟨ret_bool (by
      symm
      rw [decide_eq_false_iff_not]
      intro h
      subst h
      exact hle rfl), Below.refl _ _⟩

end Go.Proofs.YtmnoacjmdnmddaaDoor
