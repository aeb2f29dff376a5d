/- The reference's log: Right, right, follow, Last, Term, LastTerm. Conditions: none. -/
import Derived.Test.YteflgempjecnpaaLgG7
namespace Go.Proofs.Yteflgempjecnpaa
open Go.RowKit
set_option maxRecDepth 100000 in
set_option maxHeartbeats 1000000 in
theorem right_at (x : Ent) (w : World) (hm : x.d.bs.length ≤ maxLen) :
    Calls Try.prog 52 #[.agg #[.int .i64 x.ix, .int .i64 x.tm, .int .i64 x.kd, .slice x.d.a x.d.bs.length x.d.c]] w fun e w' => e = .returned (.bool (!oddE x)) ∧ Below w.heap.size w w' := by
  have hmm : (x.d.bs.length : Int) ≤ 9223372036854775807 := by unfold maxLen at hm; omega
  have HB := Lib.hid (bl_alloc (Below.refl w.heap.size w) (.cells #[.int .i64 x.ix, .int .i64 x.tm, .int .i64 x.kd, .slice x.d.a x.d.bs.length x.d.c] 45))
  obtain ⟨n, hn⟩ : ∃ n, n = x.d.bs.length := ⟨_, rfl⟩
  have hE : oddE x = (decide (x.ix < 1) || (!okIx x.ix || (!okIx x.tm || (decide (x.kd < 0) || (decide (7 < x.kd) || decide (4096 < (n : Int))))))) := by rw [hn]; rfl
  unfold okIx maxI at hE
  have HE := Lib.hid hE
  rw [← hn] at hmm HB ⊢
  clear hE hm hn
  by_cases c1 : 1 ≤ x.ix
  case neg =>
    have d1 : decide (1 ≤ x.ix) = false := decide_eq_false c1
    have HR := Lib.hid (show (!oddE x) = false by rw [HE.out, decide_eq_true (show x.ix < 1 by omega)]; rfl)
    clear c1
    go_enter Try.func52, Try.ntmps52
    go_wp2_with fail
    go_ret
    exact ⟨by rw [HR.out]; rfl, HB.out⟩
  have d1 : decide (1 ≤ x.ix) = true := decide_eq_true c1
  have f1 : decide (x.ix < 1) = false := decide_eq_false (by omega)
  have f2 : decide (0 ≤ x.ix) = true := decide_eq_true (by omega)
  by_cases c2 : x.ix ≤ 1099511627776
  case neg =>
    have d2 : decide (x.ix ≤ 1099511627776) = false := decide_eq_false c2
    have HR := Lib.hid (show (!oddE x) = false by rw [HE.out, f1, f2, d2]; rfl)
    clear c1 c2 f1 f2
    go_enter Try.func52, Try.ntmps52
    go_wp2_with fail
    go_ret
    exact ⟨by rw [HR.out]; rfl, HB.out⟩
  have d2 : decide (x.ix ≤ 1099511627776) = true := decide_eq_true c2
  by_cases c3 : 0 ≤ x.tm
  case neg =>
    have d3 : decide (0 ≤ x.tm) = false := decide_eq_false c3
    have HR := Lib.hid (show (!oddE x) = false by rw [HE.out, f1, f2, d2, d3]; rfl)
    clear c1 c2 c3 f1 f2
    go_enter Try.func52, Try.ntmps52
    go_wp2_with fail
    go_ret
    exact ⟨by rw [HR.out]; rfl, HB.out⟩
  have d3 : decide (0 ≤ x.tm) = true := decide_eq_true c3
  by_cases c4 : x.tm ≤ 1099511627776
  case neg =>
    have d4 : decide (x.tm ≤ 1099511627776) = false := decide_eq_false c4
    have HR := Lib.hid (show (!oddE x) = false by rw [HE.out, f1, f2, d2, d3, d4]; rfl)
    clear c1 c2 c3 c4 f1 f2
    go_enter Try.func52, Try.ntmps52
    go_wp2_with fail
    go_ret
    exact ⟨by rw [HR.out]; rfl, HB.out⟩
  have d4 : decide (x.tm ≤ 1099511627776) = true := decide_eq_true c4
  by_cases c5 : 0 ≤ x.kd
  case neg =>
    have d5 : decide (0 ≤ x.kd) = false := decide_eq_false c5
    have HR := Lib.hid (show (!oddE x) = false by rw [HE.out, f1, f2, d2, d3, d4, decide_eq_true (show x.kd < 0 by omega)]; rfl)
    clear c1 c2 c3 c4 c5 f1 f2
    go_enter Try.func52, Try.ntmps52
    go_wp2_with fail
    go_ret
    exact ⟨by rw [HR.out]; rfl, HB.out⟩
  have d5 : decide (0 ≤ x.kd) = true := decide_eq_true c5
  have f5 : decide (x.kd < 0) = false := decide_eq_false (by omega)
  by_cases c6 : x.kd ≤ 7
  case neg =>
    have d6 : decide (x.kd ≤ 7) = false := decide_eq_false c6
    have HR := Lib.hid (show (!oddE x) = false by rw [HE.out, f1, f2, d2, d3, d4, f5, decide_eq_true (show 7 < x.kd by omega)]; rfl)
    clear c1 c2 c3 c4 c5 c6 f1 f2 f5
    go_enter Try.func52, Try.ntmps52
    go_wp2_with fail
    go_ret
    exact ⟨by rw [HR.out]; rfl, HB.out⟩
  have d6 : decide (x.kd ≤ 7) = true := decide_eq_true c6
  have f6 : decide (7 < x.kd) = false := decide_eq_false (by omega)
  by_cases c7 : (n : Int) ≤ 4096
  · have d7 : decide ((n : Int) ≤ 4096) = true := decide_eq_true c7
    have HR := Lib.hid (show (!oddE x) = true by rw [HE.out, f1, f2, d2, d3, d4, f5, f6, decide_eq_false (show ¬ 4096 < (n : Int) by omega)]; rfl)
    clear c1 c2 c3 c4 c5 c6 c7 f1 f2 f5 f6
    go_enter Try.func52, Try.ntmps52
    go_wp2_with fail
    go_ret
    exact ⟨by rw [HR.out]; rfl, HB.out⟩
  · have d7 : decide ((n : Int) ≤ 4096) = false := decide_eq_false c7
    have HR := Lib.hid (show (!oddE x) = false by rw [HE.out, f1, f2, d2, d3, d4, f5, f6, decide_eq_true (show 4096 < (n : Int) by omega)]; rfl)
    clear c1 c2 c3 c4 c5 c6 c7 f1 f2 f5 f6
    go_enter Try.func52, Try.ntmps52
    go_wp2_with fail
    go_ret
    exact ⟨by rw [HR.out]; rfl, HB.out⟩
set_option maxRecDepth 100000 in
set_option maxHeartbeats 2000000 in
theorem rights_at (a : Option Addr) (l : List Ent) (c : Nat) (w : World) (he : EA w a l) (hlm : l.length ≤ maxLen) (hd : ∀ i, i < l.length → (atE l i).d.bs.length ≤ maxLen) :
    Calls Try.prog 46 #[.slice a l.length c] w fun e w' => (∃ b, e = .returned (.bool b) ∧ (b = true → ∀ i, i < l.length → oddE (atE l i) = false)) ∧ Below w.heap.size w w' := by
  have hlm' : (l.length : Int) ≤ 9223372036854775807 := by unfold maxLen at hlm; omega
  have HE := Lib.hid he
  have HD := Lib.hid hd
  obtain ⟨N, hN⟩ : ∃ N, N = l.length := ⟨_, rfl⟩
  have HN := Lib.hid hN
  rw [← hN] at hlm' ⊢
  have hb := Below.refl w.heap.size w
  clear he hlm hN hd
  go_enter Try.func46, Try.ntmps46
  go_wp2_with fail
  go_loopg [3] N (fun g j wr => Below w.heap.size w wr ∧ ∃ k : Nat, k ≤ N ∧ g = N - k ∧ j = .int .i64 k ∧ ∀ i, i < k → oddE (atE l i) = false)
  case atStart => exact ⟨hb, 0, by omega, by omega, rfl, fun i hi => by omega⟩
  case round =>
    clear hb
    obtain ⟨hb, k, hk0, hgk, rfl, hno⟩ := hrel
    have HGK := Lib.hid hgk
    have HNO := Lib.hid hno
    clear hgk hno
    by_cases hk : k < N
    · have hk1 : decide ((k : Int) < N) = true := decide_eq_true (by omega)
      have hk2 : (0 : Int) ≤ (k : Int) := by omega
      have hk4 : (k : Int) < N := by omega
      have hkl : k < l.length := by rw [← HN.out]; exact hk
      obtain ⟨b1, o1, rfl, hc⟩ := (HE.out.keep hb) k hkl
      obtain ⟨x, hx⟩ : ∃ x, x = l.getD k default := ⟨_, rfl⟩
      have HXE := Lib.hid hx
      have hcall := right_at x wr (by rw [hx]; exact HD.out k hkl)
      simp only [← hx] at hc
      have g0 := hc 0 _ rfl
      have g1 := hc 1 _ rfl
      have g2 := hc 2 _ rfl
      have g3 := hc 3 _ rfl
      rw [Nat.add_zero] at g0
      unfold DV.v at g3
      have HC := Lib.hid hcall
      clear hc hx hcall hkl
      cases hod : oddE x with
      | true =>
        have hcc := HC.out
        rw [hod] at hcc
        clear hod
        go_wp2_with fail
        refine hcc.mono ?_; rintro e w1 ⟨rfl, hb1⟩
        go_wp2_with fail
        go_ret
        exact ⟨⟨false, rfl, fun h => by cases h⟩, bl_trans hb hb1⟩
      | false =>
        have hcc := HC.out
        rw [hod] at hcc
        have HO := Lib.hid hod
        clear hod
        go_wp2_with fail
        refine hcc.mono ?_; rintro e w1 ⟨rfl, hb1⟩
        replace hb := bl_trans hb hb1
        clear hb1 g0 g1 g2 g3 hcc
        go_wp2_with fail
        go_roundg (N - (k + 1))
        case measure => have := HGK.out; omega
        case rel => exact ⟨hb, k + 1, by omega, rfl, by go_num, fun j hj => by
            by_cases e : j = k
            · rw [e, show atE l k = x from HXE.out.symm]; exact HO.out
            · exact HNO.out j (by omega)⟩
    · obtain rfl : k = N := by omega
      have hk1 : decide ((k : Int) < (k : Int)) = false := decide_eq_false (by omega)
      go_wp2_with fail
      go_ret
      exact ⟨⟨true, rfl, fun _ i hi => HNO.out i hi⟩, hb⟩
set_option maxRecDepth 100000 in
set_option maxHeartbeats 2000000 in
theorem rfollow_at (a : Option Addr) (l : List Ent) (c : Nat) (i t : Int) (w : World) (he : EA w a l) (hlm : l.length ≤ maxLen) (ho : ∀ j, j < l.length → oddE (atE l j) = false) :
    Calls Try.prog 47 #[.slice a l.length c, .int .i64 i, .int .i64 t] w fun e w' => e = .returned (.bool (followE l i t)) ∧ Below w.heap.size w w' := by
  have hlm' : (l.length : Int) ≤ 9223372036854775807 := by unfold maxLen at hlm; omega
  have HE := Lib.hid he
  have HO := Lib.hid ho
  obtain ⟨N, hN⟩ : ∃ N, N = l.length := ⟨_, rfl⟩
  have HN := Lib.hid hN
  rw [← hN] at hlm' ⊢
  obtain ⟨R, hR⟩ : ∃ R, R = followE l i t := ⟨_, rfl⟩
  rw [← hR]
  have HR0 := Lib.hid (show followE (l.drop 0) (i + (0 : Nat)) t = R by rw [hR]; simp)
  have hb := Below.refl w.heap.size w
  clear he hlm hN ho hR
  go_enter Try.func47, Try.ntmps47
  go_wp2_with fail
  go_loopg [2, 7] N (fun g vt j wr => Below w.heap.size w wr ∧ ∃ k : Nat, k ≤ N ∧ g = N - k ∧ j = .int .i64 k ∧ ∃ t, vt = .int .i64 t ∧ followE (l.drop k) (i + k) t = R)
  case atStart => exact ⟨hb, 0, by omega, by omega, rfl, t, rfl, HR0.out⟩
  case round =>
    clear hb HR0 t
    obtain ⟨hb, k, hk0, hgk, rfl, t, rfl, hR⟩ := hrel
    have HGK := Lib.hid hgk
    have HR := Lib.hid hR
    clear hgk hR
    by_cases hk : k < N
    · have hk1 : decide ((k : Int) < N) = true := decide_eq_true (by omega)
      have hk2 : (0 : Int) ≤ (k : Int) := by omega
      have hk4 : (k : Int) < N := by omega
      have hkl : k < l.length := by rw [← HN.out]; exact hk
      obtain ⟨b1, o1, rfl, hc⟩ := (HE.out.keep hb) k hkl
      obtain ⟨x, hx⟩ : ∃ x, x = l.getD k default := ⟨_, rfl⟩
      have hodd := odd_no (HO.out k hkl)
      rw [show atE l k = x from hx.symm] at hodd
      obtain ⟨x1, x2, x3, x4⟩ := hodd
      unfold maxI at x2 x4
      have hfc := HR.out
      rw [follow_cons hkl, show atE l k = x from hx.symm] at hfc
      have HFC := Lib.hid hfc
      simp only [← hx] at hc
      have g0 := hc 0 _ rfl
      have g1 := hc 1 _ rfl
      rw [Nat.add_zero] at g0
      have hv1 : IntKind.i64.wrap (x.ix - 1) = x.ix - 1 := IntWalk.i64_in _ (by omega)
      have hv2 : IntKind.i64.wrap (x.ix - 1 - k) = x.ix - 1 - k := IntWalk.i64_in _ (by omega)
      clear hc hx hkl hfc
      by_cases c1 : x.ix - 1 - k = i
      · have d1 : (x.ix - 1 - k != i) = false := by simp [c1]
        by_cases c2 : x.tm < t
        · have d2 : decide (x.tm < t) = true := decide_eq_true c2
          have HF := Lib.hid (show R = false by rw [← HFC.out, if_neg (by omega)])
          clear c1 c2
          go_wp2_with fail
          go_ret
          exact ⟨by rw [HF.out]; rfl, hb⟩
        · have d2 : decide (x.tm < t) = false := decide_eq_false c2
          have HF := Lib.hid (show followE (l.drop (k + 1)) (i + (k + 1 : Nat)) x.tm = R by
            rw [← HFC.out, if_pos ⟨by omega, by omega⟩]
            congr 1
            omega)
          clear c1 c2
          go_wp2_with fail
          go_roundg (N - (k + 1))
          case measure => have := HGK.out; omega
          case rel => exact ⟨hb, k + 1, by omega, rfl, by go_num, x.tm, rfl, HF.out⟩
      · have d1 : (x.ix - 1 - k != i) = true := by simp [c1]
        have HF := Lib.hid (show R = false by rw [← HFC.out, if_neg (by omega)])
        clear c1
        go_wp2_with fail
        go_ret
        exact ⟨by rw [HF.out]; rfl, hb⟩
    · obtain rfl : k = N := by omega
      have hk1 : decide ((k : Int) < (k : Int)) = false := decide_eq_false (by omega)
      have HF := Lib.hid (show R = true by rw [← HR.out, HN.out, List.drop_length]; rfl)
      go_wp2_with fail
      go_ret
      exact ⟨by rw [HF.out]; rfl, hb⟩
end Go.Proofs.Yteflgempjecnpaa
