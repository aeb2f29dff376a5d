/- rlog: odd, follow; the searches. Conditions: none. -/
import Derived.Test.YteflgempjecnpaaLgG1
namespace Go.Proofs.Yteflgempjecnpaa
open Go.RowKit

abbrev EA (w : World) (a : Option Addr) (l : List Ent) : Prop := ItemsAt w a l.length 4 (fun i => entC (l.getD i default))
theorem okIx_in (n : Int) : okIx n = decide (inIdx n) := by
  unfold okIx inIdx maxI
  by_cases h1 : 0 ≤ n <;> by_cases h2 : n ≤ 1099511627776 <;> simp [h1, h2]
set_option maxRecDepth 100000 in
set_option maxHeartbeats 1000000 in
theorem odd_at (x : Ent) (w : World) (hm : x.d.bs.length ≤ maxLen) :
    Calls Try.prog 36 #[.agg #[.int .i64 x.ix, .int .i64 x.tm, .int .i64 x.kd, .slice x.d.a x.d.bs.length x.d.c]] w fun e w' => e = .returned (.bool (oddE x)) ∧ Below w.heap.size w w' := by
  have hmm : (x.d.bs.length : Int) ≤ 9223372036854775807 := by unfold maxLen at hm; omega
  have HB := Lib.hid (bl_alloc (Below.refl w.heap.size w) (.cells #[.int .i64 x.ix, .int .i64 x.tm, .int .i64 x.kd, .slice x.d.a x.d.bs.length x.d.c] 45))
  have hw1 := fun W => within_any x.ix W
  have hw2 := fun W => within_any x.tm W
  rw [← okIx_in] at hw1 hw2
  obtain ⟨n, hn⟩ : ∃ n, n = x.d.bs.length := ⟨_, rfl⟩
  have hE : oddE x = (decide (x.ix < 1) || (!okIx x.ix || (!okIx x.tm || (decide (x.kd < 0) || (decide (7 < x.kd) || decide (4096 < (n : Int))))))) := by rw [hn]; rfl
  have HE := Lib.hid hE
  rw [← hn] at hmm HB ⊢
  clear hE hm hn
  by_cases c1 : x.ix < 1
  · have d1 : decide (x.ix < 1) = true := decide_eq_true c1
    have HR := Lib.hid (show oddE x = true by rw [HE.out, d1]; rfl)
    clear c1
    go_enter Try.func36, Try.ntmps36
    go_wp2_with fail
    go_ret
    exact ⟨by rw [HR.out]; rfl, HB.out⟩
  have d1 : decide (x.ix < 1) = false := decide_eq_false c1
  clear c1
  cases c2 : okIx x.ix with
  | false =>
    have HR := Lib.hid (show oddE x = true by rw [HE.out, d1, c2]; rfl)
    rw [c2] at hw1
    clear c2
    go_enter Try.func36, Try.ntmps36
    go_wp2_with fail
    refine (hw1 _).mono ?_; rintro e w1 ⟨rfl, rfl⟩
    go_wp2_with fail
    go_ret
    exact ⟨by rw [HR.out]; rfl, HB.out⟩
  | true =>
  rw [c2] at hw1
  cases c3 : okIx x.tm with
  | false =>
    have HR := Lib.hid (show oddE x = true by rw [HE.out, d1, c2, c3]; rfl)
    rw [c3] at hw2
    clear c2 c3
    go_enter Try.func36, Try.ntmps36
    go_wp2_with fail
    refine (hw1 _).mono ?_; rintro e w1 ⟨rfl, rfl⟩
    go_wp2_with fail
    refine (hw2 _).mono ?_; rintro e w1 ⟨rfl, rfl⟩
    go_wp2_with fail
    go_ret
    exact ⟨by rw [HR.out]; rfl, HB.out⟩
  | true =>
  rw [c3] at hw2
  by_cases c4 : x.kd < 0
  · have d4 : decide (x.kd < 0) = true := decide_eq_true c4
    have HR := Lib.hid (show oddE x = true by rw [HE.out, d1, c2, c3, d4]; rfl)
    clear c2 c3 c4
    go_enter Try.func36, Try.ntmps36
    go_wp2_with fail
    refine (hw1 _).mono ?_; rintro e w1 ⟨rfl, rfl⟩
    go_wp2_with fail
    refine (hw2 _).mono ?_; rintro e w1 ⟨rfl, rfl⟩
    go_wp2_with fail
    go_ret
    exact ⟨by rw [HR.out]; rfl, HB.out⟩
  have d4 : decide (x.kd < 0) = false := decide_eq_false c4
  by_cases c5 : 7 < x.kd
  · have d5 : decide (7 < x.kd) = true := decide_eq_true c5
    have HR := Lib.hid (show oddE x = true by rw [HE.out, d1, c2, c3, d4, d5]; rfl)
    clear c2 c3 c4 c5
    go_enter Try.func36, Try.ntmps36
    go_wp2_with fail
    refine (hw1 _).mono ?_; rintro e w1 ⟨rfl, rfl⟩
    go_wp2_with fail
    refine (hw2 _).mono ?_; rintro e w1 ⟨rfl, rfl⟩
    go_wp2_with fail
    go_ret
    exact ⟨by rw [HR.out]; rfl, HB.out⟩
  have d5 : decide (7 < x.kd) = false := decide_eq_false c5
  obtain ⟨q, hq⟩ : ∃ q, q = decide (4096 < (n : Int)) := ⟨_, rfl⟩
  have HR := Lib.hid (show oddE x = q by rw [HE.out, d1, c2, c3, d4, d5, hq]; rfl)
  have hq' := hq.symm
  clear c2 c3 c4 c5 hq
  go_enter Try.func36, Try.ntmps36
  go_wp2_with fail
  refine (hw1 _).mono ?_; rintro e w1 ⟨rfl, rfl⟩
  go_wp2_with fail
  refine (hw2 _).mono ?_; rintro e w1 ⟨rfl, rfl⟩
  go_wp2_with fail
  go_ret
  exact ⟨by rw [HR.out]; rfl, HB.out⟩
/-- Where the first one is, if there is one. -/
def Found (f : Ent → Bool) (l : List Ent) (e : Ending) : Prop :=
  (∃ k, k < l.length ∧ e = .returned (.int .i64 (k : Nat)) ∧ f (atE l k) = true ∧ ∀ i, i < k → f (atE l i) = false) ∨ (e = .returned (.int .i64 (-1)) ∧ ∀ i, i < l.length → f (atE l i) = false)
set_option maxRecDepth 100000 in
set_option maxHeartbeats 2000000 in
theorem indexOdd_at (a : Option Addr) (l : List Ent) (c : Nat) (w : World) (he : EA w a l) (hlm : l.length ≤ maxLen)
    (hf : ∀ k, k < l.length → ∀ W, Below w.heap.size w W → Calls Try.prog 36 #[.agg #[.int .i64 (atE l k).ix, .int .i64 (atE l k).tm, .int .i64 (atE l k).kd, .slice (atE l k).d.a (atE l k).d.bs.length (atE l k).d.c]] W fun e w' => e = .returned (.bool (oddE (atE l k))) ∧ Below W.heap.size W w') :
    Calls Try.prog 39 #[.slice a l.length c, .func (.func 36) #[] #[]] w fun e w' => Found oddE l e ∧ Below w.heap.size w w' := by
  have hlm' : (l.length : Int) ≤ 9223372036854775807 := by unfold maxLen at hlm; omega
  have HE := Lib.hid he
  have HF := Lib.hid hf
  obtain ⟨N, hN⟩ : ∃ N, N = l.length := ⟨_, rfl⟩
  have HN := Lib.hid hN
  rw [← hN] at hlm' ⊢
  have hb := Below.refl w.heap.size w
  clear he hlm hN hf
  go_enter Try.func39, Try.ntmps39
  go_wp2_with fail
  go_loopg [8] N (fun g i wr => Below w.heap.size w wr ∧ ∃ k : Nat, k ≤ N ∧ g = N - k ∧ i = .int .i64 k ∧ ∀ j, j < k → oddE (atE l j) = false)
  case atStart => exact ⟨hb, 0, by omega, by omega, rfl, fun j hj => by omega⟩
  case round =>
    clear hb
    obtain ⟨hb, k, hk0, hgk, rfl, hno⟩ := hrel
    have HGK := Lib.hid hgk
    have HNO := Lib.hid hno
    clear hgk hno
    by_cases hk : k < N
    · have hk1 : decide ((k : Int) < N) = true := decide_eq_true (by omega)
      have hk2 : (0 : Int) ≤ (k : Int) := by omega
      have hk4 : (k : Int) < N := by omega
      have hkl : k < l.length := by rw [← HN.out]; exact hk
      have HKL := Lib.hid hkl
      obtain ⟨b1, o1, rfl, hc⟩ := (HE.out.keep hb) k hkl
      obtain ⟨x, hx⟩ : ∃ x, x = l.getD k default := ⟨_, rfl⟩
      have HXE := Lib.hid hx
      have hcall := HF.out k hkl wr hb
      rw [show atE l k = x from hx.symm] at hcall
      simp only [← hx] at hc
      have g0 := hc 0 _ rfl
      have g1 := hc 1 _ rfl
      have g2 := hc 2 _ rfl
      have g3 := hc 3 _ rfl
      rw [Nat.add_zero] at g0
      unfold DV.v at g3
      have HC := Lib.hid hcall
      clear hc hx hcall hkl
      by_cases hfx : oddE x = true
      · have hcc := HC.out
        rw [hfx] at hcc
        have HFX := Lib.hid hfx
        clear hfx
        go_wp2_with fail
        refine hcc.mono ?_; rintro e w1 ⟨rfl, hb1⟩
        go_wp2_with fail
        go_ret
        exact ⟨.inl ⟨k, HKL.out, rfl, by rw [show atE l k = x from HXE.out.symm]; exact HFX.out, HNO.out⟩, bl_trans hb hb1⟩
      · have hcc := HC.out
        rw [eq_false_of_ne_true hfx] at hcc
        have HFX := Lib.hid (eq_false_of_ne_true hfx)
        clear hfx
        go_wp2_with fail
        refine hcc.mono ?_; rintro e w1 ⟨rfl, hb1⟩
        replace hb := bl_trans hb hb1
        clear hb1 g0 g1 g2 g3 hcc
        go_wp2_with fail
        go_roundg (N - (k + 1))
        case measure => have := HGK.out; omega
        case rel => exact ⟨hb, k + 1, by omega, rfl, by go_num, fun j hj => by
            by_cases e : j = k
            · rw [e, show atE l k = x from HXE.out.symm]; exact HFX.out
            · exact HNO.out j (by omega)⟩
    · obtain rfl : k = N := by omega
      have hk1 : decide ((k : Int) < (k : Int)) = false := decide_eq_false (by omega)
      go_wp2_with fail
      go_ret
      exact ⟨.inr ⟨rfl, fun i hi => HNO.out i (by rw [HN.out]; exact hi)⟩, hb⟩
/-- Whether there is an odd one. -/
def AnyOdd (l : List Ent) (b : Bool) : Prop := (b = true ∧ ∃ k, k < l.length ∧ oddE (atE l k) = true) ∨ (b = false ∧ ∀ i, i < l.length → oddE (atE l i) = false)
set_option maxRecDepth 100000 in
theorem anyOdd_at (a : Option Addr) (l : List Ent) (c : Nat) (w : World) (he : EA w a l) (hlm : l.length ≤ maxLen) (hd : ∀ i, i < l.length → (atE l i).d.bs.length ≤ maxLen) :
    Calls Try.prog 35 #[.slice a l.length c, .func (.func 36) #[] #[]] w fun e w' => (∃ b, e = .returned (.bool b) ∧ AnyOdd l b) ∧ Below w.heap.size w w' := by
  have HI := Lib.hid (indexOdd_at a l c w he hlm (fun k hk W _ => odd_at _ W (hd k hk)))
  have hlm' : (l.length : Int) ≤ 9223372036854775807 := by unfold maxLen at hlm; omega
  clear he hlm hd
  go_enter Try.func35, Try.ntmps35
  go_wp2_with fail
  refine HI.out.mono ?_
  rintro e w1 ⟨⟨k, hk, rfl, h1, h2⟩ | ⟨rfl, h2⟩, hb⟩
  · have H1 := Lib.hid h1
    have HK := Lib.hid hk
    have hk2 : decide ((0 : Int) ≤ (k : Int)) = true := decide_eq_true (by omega)
    clear h1 h2 hk
    go_wp2_with fail
    go_ret
    exact ⟨⟨true, rfl, .inl ⟨rfl, k, HK.out, H1.out⟩⟩, hb⟩
  · have H2 := Lib.hid h2
    clear h2
    go_wp2_with fail
    go_ret
    exact ⟨⟨false, rfl, .inr ⟨rfl, H2.out⟩⟩, hb⟩
theorem follow_cons {l : List Ent} {k : Nat} {i t : Int} (hk : k < l.length) : followE (l.drop k) i t = if (atE l k).ix - 1 = i ∧ t ≤ (atE l k).tm then followE (l.drop (k + 1)) (atE l k).ix (atE l k).tm else false := by
  rw [List.drop_eq_getElem_cons hk]
  have : atE l k = l[k] := by unfold atE; rw [List.getD_eq_getElem?_getD, List.getElem?_eq_getElem hk]; rfl
  rw [this]
  rfl
set_option maxRecDepth 100000 in
set_option maxHeartbeats 2000000 in
theorem follow_at' (a : Option Addr) (l : List Ent) (c : Nat) (i t : Int) (w : World) (he : EA w a l) (hlm : l.length ≤ maxLen) (ho : ∀ j, j < l.length → oddE (atE l j) = false) :
    Calls Try.prog 37 #[.slice a l.length c, .int .i64 i, .int .i64 t] w fun e w' => e = .returned (.bool (followE l i t)) ∧ Below w.heap.size w w' := by
  have hlm' : (l.length : Int) ≤ 9223372036854775807 := by unfold maxLen at hlm; omega
  have HE := Lib.hid he
  have HO := Lib.hid ho
  obtain ⟨N, hN⟩ : ∃ N, N = l.length := ⟨_, rfl⟩
  have HN := Lib.hid hN
  rw [← hN] at hlm' ⊢
  obtain ⟨R, hR⟩ : ∃ R, R = followE l i t := ⟨_, rfl⟩
  rw [← hR]
  have HR0 := Lib.hid (show followE (l.drop 0) i t = R from hR.symm)
  have hb := Below.refl w.heap.size w
  clear he hlm hN ho hR
  go_enter Try.func37, Try.ntmps37
  go_wp2_with fail
  go_loopg [1, 2, 11] N (fun g vi vt j wr => Below w.heap.size w wr ∧ ∃ k : Nat, k ≤ N ∧ g = N - k ∧ j = .int .i64 k ∧ ∃ i t, vi = .int .i64 i ∧ vt = .int .i64 t ∧ followE (l.drop k) i t = R)
  case atStart => exact ⟨hb, 0, by omega, by omega, rfl, i, t, rfl, rfl, HR0.out⟩
  case round =>
    clear hb HR0 i t
    obtain ⟨hb, k, hk0, hgk, rfl, i, t, rfl, rfl, hR⟩ := hrel
    have HGK := Lib.hid hgk
    have HR := Lib.hid hR
    clear hgk hR
    by_cases hk : k < N
    · have hk1 : decide ((k : Int) < N) = true := decide_eq_true (by omega)
      have hk2 : (0 : Int) ≤ (k : Int) := by omega
      have hk4 : (k : Int) < N := by omega
      have hkl : k < l.length := by rw [← HN.out]; exact hk
      obtain ⟨b1, o1, rfl, hc⟩ := (HE.out.keep hb) k hkl
      obtain ⟨x, hx⟩ : ∃ x, x = l.getD k default := ⟨_, rfl⟩
      have hodd := odd_no (HO.out k hkl)
      rw [show atE l k = x from hx.symm] at hodd
      obtain ⟨x1, x2, x3, x4⟩ := hodd
      unfold maxI at x2 x4
      have hfc := HR.out
      rw [follow_cons hkl, show atE l k = x from hx.symm] at hfc
      have HFC := Lib.hid hfc
      simp only [← hx] at hc
      have g0 := hc 0 _ rfl
      have g1 := hc 1 _ rfl
      have g2 := hc 2 _ rfl
      have g3 := hc 3 _ rfl
      rw [Nat.add_zero] at g0
      unfold DV.v at g3
      clear hc hx hkl hfc
      go_upto_region 4 with fail
      change Code.wp _ _ _ _ (wr.alloc (.cells #[.int .i64 x.ix, .int .i64 x.tm, .int .i64 x.kd, .slice x.d.a x.d.bs.length x.d.c] 45))
      have hk5 : (wr.alloc (.cells #[.int .i64 x.ix, .int .i64 x.tm, .int .i64 x.kd, .slice x.d.a x.d.bs.length x.d.c] 45)).heap[wr.heap.size]? = some (.cells #[.int .i64 x.ix, .int .i64 x.tm, .int .i64 x.kd, .slice x.d.a x.d.bs.length x.d.c] 45) := blk_new wr _ rfl
      replace hb := bl_alloc hb (.cells #[.int .i64 x.ix, .int .i64 x.tm, .int .i64 x.kd, .slice x.d.a x.d.bs.length x.d.c] 45)
      obtain ⟨nb, hnb⟩ : ∃ nb, nb = wr.heap.size := ⟨_, rfl⟩
      obtain ⟨V, hV⟩ : ∃ V, V = wr.alloc (.cells #[.int .i64 x.ix, .int .i64 x.tm, .int .i64 x.kd, .slice x.d.a x.d.bs.length x.d.c] 45) := ⟨_, rfl⟩
      rw [← hV] at hb
      rw [← hV, ← hnb] at hk5 ⊢
      have HK5 := Lib.hid hk5
      have y0 : ∀ W, Below V.heap.size V W → W.cell? ⟨nb, 0, none⟩ = some (.int .i64 x.ix) := fun W h => blk_cell (blk_below HK5.out h (blk_lt HK5.out)) 0
      have y1 : ∀ W, Below V.heap.size V W → W.cell? ⟨nb, 1, none⟩ = some (.int .i64 x.tm) := fun W h => blk_cell (blk_below HK5.out h (blk_lt HK5.out)) 1
      have hbV := Below.refl V.heap.size V
      clear hV hnb hk5 g0 g1 g2 g3
      by_cases c1 : x.ix - 1 = i
      · have d1 : (x.ix - 1 != i) = false := by simp [c1]
        by_cases c2 : x.tm < t
        · have d2 : decide (x.tm < t) = true := decide_eq_true c2
          have HF := Lib.hid (show R = false by rw [← HFC.out, if_neg (by omega)])
          clear c1 c2
          go_wp2_with fail
          go_ret
          exact ⟨by rw [HF.out]; rfl, hb⟩
        · have d2 : decide (x.tm < t) = false := decide_eq_false c2
          have HF := Lib.hid (show followE (l.drop (k + 1)) x.ix x.tm = R by rw [← HFC.out, if_pos ⟨c1, by omega⟩])
          clear c1 c2
          go_upto_region 6 with fail
          refine wp_region_in (Below V.heap.size V) (fun _ => false) (by kernel_rfl) (by kernel_rfl) (by exact hbV.drew) ?_
          intro hne hx
          change wpStg _ _ _ _ _ _ _ _ V.drew
          replace hb := hb.drew
          replace hbV := hbV.drew
          obtain ⟨V2, hV⟩ : ∃ V2, V2 = V.drew := ⟨_, rfl⟩
          rw [← hV] at hb hbV ⊢
          clear hV
          refine stg_seg 6 (by dsimp only [List.take]) (by dsimp only [List.drop]) (by rfl) ?_
          repeat (go_big_quiet_step (fail))
          refine wpQuiet_nil ?_
          refine stg_nil ?_
          clear hne hx
          go_wp2_with fail
          go_roundg (N - (k + 1))
          case measure => have := HGK.out; omega
          case rel => exact ⟨hb, k + 1, by omega, rfl, by go_num, x.ix, x.tm, rfl, rfl, HF.out⟩
      · have d1 : (x.ix - 1 != i) = true := by simp [c1]
        have HF := Lib.hid (show R = false by rw [← HFC.out, if_neg (by omega)])
        clear c1
        go_wp2_with fail
        go_ret
        exact ⟨by rw [HF.out]; rfl, hb⟩
    · obtain rfl : k = N := by omega
      have hk1 : decide ((k : Int) < (k : Int)) = false := decide_eq_false (by omega)
      have HF := Lib.hid (show R = true by rw [← HR.out, HN.out, List.drop_length]; rfl)
      go_wp2_with fail
      go_ret
      exact ⟨by rw [HF.out]; rfl, hb⟩
end Go.Proofs.Yteflgempjecnpaa
