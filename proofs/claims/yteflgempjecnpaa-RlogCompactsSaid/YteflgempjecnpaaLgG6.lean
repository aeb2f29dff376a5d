/- rlog: Compact; what Merge looks for. Conditions: none. -/
import Derived.Test.YteflgempjecnpaaLgG5
namespace Go.Proofs.Yteflgempjecnpaa
open Go.RowKit

theorem ents_at {l : List Ent} {W : World} {a : Option Addr} (h : EA W a l) : ∀ j u, (entsC l)[j]? = some u → ∃ b off, a = some ⟨b, off, none⟩ ∧ W.cell? ⟨b, off + j, none⟩ = some u := fun j u hj => by
  have hlt := (List.getElem?_eq_some_iff.1 hj).1
  rw [entsC_len] at hlt
  obtain ⟨b, off, e, hc⟩ := h (j / 4) (by omega)
  refine ⟨b, off, e, ?_⟩
  have hl4 : (entC (atE l (j / 4))).length = 4 := rfl
  have hj4 : (entC (atE l (j / 4)))[j % 4]? = some ((entC (atE l (j / 4)))[j % 4]'(by rw [hl4]; omega)) := List.getElem?_eq_getElem _
  have h1 := entsC_get (l := l) (i := j / 4) (by omega) hj4
  rw [show j / 4 * 4 + j % 4 = j by omega, hj] at h1
  have h2 := hc (j % 4) _ hj4
  rw [show off + j / 4 * 4 + j % 4 = off + j by omega] at h2
  rw [h2]
  exact h1.symm
set_option maxRecDepth 100000 in
set_option maxHeartbeats 1000000 in
theorem cloneE_at (b off : Nat) (l : List Ent) (c : Nat) (w : World) (he : EA w (some ⟨b, off, none⟩) l) (hm : l.length ≤ 1000000) :
    Calls Try.prog 40 #[.slice (some ⟨b, off, none⟩) l.length c] w fun e w' => ∃ v, e = .returned v ∧ w'.ownsRow w.heap.size 45 4 v l.length (entsC l) ∧ (∃ g, v.ownBlock = some g ∧ w.heap.size ≤ g) ∧ Below w.heap.size w w' := by
  have q22 : ∀ (w : World) (a : Option Addr) (n c n' c' : Nat), (binOp .eql 33 (.slice a n c) (.slice none n' c')).run Try.prog w = .ok (.bool a.isNone) w := fun w a n c n' c' => Lib.run_eql_slice_nil w _ _ a n c n' c' Try.underlying33
  have HE := Lib.hid he
  have HM := Lib.hid hm
  obtain ⟨n, hnn⟩ : ∃ n, n = l.length := ⟨_, rfl⟩
  have HN := Lib.hid hnn
  have hown0 : (w.alloc (.cells #[] 45)).ownsRow w.heap.size 45 4 (.slice (some ⟨w.heap.size, 0, none⟩) 0 0) 0 [] := World.ownsRow_made w #[] 0 (Nat.le_refl _) (by simp) rfl
  have HO := Lib.hid hown0
  have HB := Lib.hid (bl_alloc (Below.refl w.heap.size w) (.cells #[] 45))
  rw [← hnn]
  clear he hm hnn hown0
  go_enter Try.func40, Try.ntmps40
  go_wp2_with (at_builtin; go_loud (refine wpList_clone rfl _ _ 33 rfl w.heap.size 45 Try.underlying33 Try.infoEntry rfl (by decide) rfl HO.out rfl (ys := entsC l) (by rw [entsC_len, HN.out]) (fun j u hj => ents_at (HE.out.keep HB.out) j u hj) (fun h => by cases h) entsC_one (by have h1 := HM.out; have h2 := HN.out; unfold maxLen; omega) (by have h1 := HM.out; have h2 := HN.out; omega) (by simp) ?_); intro v1 w4 hown1 hgrow hat1; obtain ⟨va1, vc1, rfl⟩ := own_slice hown1)
  go_ret
  rw [List.nil_append, Nat.zero_add] at hown1
  rw [Nat.zero_add] at hat1
  refine ⟨.slice va1 n vc1, rfl, hown1, ?_, HB.out.trans (own_below HO.out hgrow (by simp))⟩
  rcases hat1 with h | ⟨g, h, h'⟩
  · exact ⟨w.heap.size, h, Nat.le_refl _⟩
  · exact ⟨g, h, by simp at h'; omega⟩
set_option maxRecDepth 100000 in
set_option maxHeartbeats 1000000 in
theorem unlike_at {B : Nat} {w : World} {p q : Nat} {L : List Ent} {com app : Int} {v : Value} (h : GX B w p L com app v) (hG : Good L com app) (hq : w.cell? ⟨q, 0, none⟩ = some (.pointer (some ⟨p, 0, none⟩))) (x : Ent) :
    Calls Try.prog 38 #[.agg #[.int .i64 x.ix, .int .i64 x.tm, .int .i64 x.kd, .slice x.d.a x.d.bs.length x.d.c], .pointer (some ⟨q, 0, none⟩)] w fun e w' => e = .returned (.bool (unlikeE L x)) ∧ Below w.heap.size w w' := by
  have hb0 := bl_alloc (Below.refl w.heap.size w) (.cells #[.int .i64 x.ix, .int .i64 x.tm, .int .i64 x.kd, .slice x.d.a x.d.bs.length x.d.c] 45)
  have hbk := blk_new w (.cells #[.int .i64 x.ix, .int .i64 x.tm, .int .i64 x.kd, .slice x.d.a x.d.bs.length x.d.c] 45) rfl
  have ht := term_at (h.below hb0) hG x.ix
  have hq0 := cell_keep hb0 hq
  obtain ⟨w0, hw0⟩ : ∃ w0, w0 = w.alloc (.cells #[.int .i64 x.ix, .int .i64 x.tm, .int .i64 x.kd, .slice x.d.a x.d.bs.length x.d.c] 45) := ⟨_, rfl⟩
  rw [← hw0] at hb0 hbk ht hq0
  have HW0 := Lib.hid hw0
  have HB0 := Lib.hid hb0
  have y0 : ∀ W, Below w0.heap.size w0 W → W.cell? ⟨w.heap.size, 0, none⟩ = some (.int .i64 x.ix) := fun W h => blk_cell (blk_below hbk h (blk_lt hbk)) 0
  have y1 : ∀ W, Below w0.heap.size w0 W → W.cell? ⟨w.heap.size, 1, none⟩ = some (.int .i64 x.tm) := fun W h => blk_cell (blk_below hbk h (blk_lt hbk)) 1
  have hbl := Below.refl w0.heap.size w0
  have HT := Lib.hid ht
  have hun : unlikeE L x = (!(termR L x.ix).2 || decide ((termR L x.ix).1 ≠ x.tm)) := by
    unfold unlikeE termR
    cases termE L x.ix with
    | none => simp
    | some t => simp
  have HU := Lib.hid hun
  obtain ⟨tr, htr⟩ : ∃ tr, tr = termR L x.ix := ⟨_, rfl⟩
  rw [← htr] at HT HU
  obtain ⟨tt, ti⟩ := tr
  simp only at HT HU
  clear h hG hq hb0 hw0 ht hun htr
  go_enter Try.func38, Try.ntmps38
  go_upto_region 1 with fail
  rw [← HW0.out]
  go_wp2_with fail
  refine HT.out.mono ?_
  rintro e w1 ⟨rfl, hb1⟩
  cases ti with
  | false =>
    have HV := Lib.hid (show unlikeE L x = true from HU.out.trans rfl)
    go_wp2_with fail
    go_ret
    exact ⟨by rw [HV.out]; rfl, bl_trans HB0.out hb1⟩
  | true =>
    by_cases c : tt = x.tm
    · have d : (tt != x.tm) = false := by simp [c]
      have HV := Lib.hid (show unlikeE L x = false by rw [HU.out]; simp [c])
      clear c
      go_wp2_with fail
      go_ret
      exact ⟨by rw [HV.out]; rfl, bl_trans HB0.out hb1⟩
    · have d : (tt != x.tm) = true := by simp [c]
      have HV := Lib.hid (show unlikeE L x = true by rw [HU.out]; simp [c])
      clear c
      go_wp2_with fail
      go_ret
      exact ⟨by rw [HV.out]; rfl, bl_trans HB0.out hb1⟩
set_option maxRecDepth 100000 in
set_option maxHeartbeats 2000000 in
theorem indexUnlike_at (a : Option Addr) (l : List Ent) (c q : Nat) (L : List Ent) (w : World) (he : EA w a l) (hlm : l.length ≤ maxLen)
    (hf : ∀ k, k < l.length → ∀ W, Below w.heap.size w W → Calls Try.prog 38 #[.agg #[.int .i64 (atE l k).ix, .int .i64 (atE l k).tm, .int .i64 (atE l k).kd, .slice (atE l k).d.a (atE l k).d.bs.length (atE l k).d.c], .pointer (some ⟨q, 0, none⟩)] W fun e w' => e = .returned (.bool (unlikeE L (atE l k))) ∧ Below W.heap.size W w') :
    Calls Try.prog 39 #[.slice a l.length c, .func (.func 38) #[] #[.pointer (some ⟨q, 0, none⟩)]] w fun e w' => Found (unlikeE L) l e ∧ Below w.heap.size w w' := by
  have hlm' : (l.length : Int) ≤ 9223372036854775807 := by unfold maxLen at hlm; omega
  have HE := Lib.hid he
  have HF := Lib.hid hf
  obtain ⟨N, hN⟩ : ∃ N, N = l.length := ⟨_, rfl⟩
  have HN := Lib.hid hN
  rw [← hN] at hlm' ⊢
  have hb := Below.refl w.heap.size w
  clear he hlm hN hf
  go_enter Try.func39, Try.ntmps39
  go_wp2_with fail
  go_loopg [8] N (fun g i wr => Below w.heap.size w wr ∧ ∃ k : Nat, k ≤ N ∧ g = N - k ∧ i = .int .i64 k ∧ ∀ j, j < k → unlikeE L (atE l j) = false)
  case atStart => exact ⟨hb, 0, by omega, by omega, rfl, fun j hj => by omega⟩
  case round =>
    clear hb
    obtain ⟨hb, k, hk0, hgk, rfl, hno⟩ := hrel
    have HGK := Lib.hid hgk
    have HNO := Lib.hid hno
    clear hgk hno
    by_cases hk : k < N
    · have hk1 : decide ((k : Int) < N) = true := decide_eq_true (by omega)
      have hk2 : (0 : Int) ≤ (k : Int) := by omega
      have hk4 : (k : Int) < N := by omega
      have hkl : k < l.length := by rw [← HN.out]; exact hk
      have HKL := Lib.hid hkl
      obtain ⟨b1, o1, rfl, hc⟩ := (HE.out.keep hb) k hkl
      obtain ⟨x, hx⟩ : ∃ x, x = l.getD k default := ⟨_, rfl⟩
      have HXE := Lib.hid hx
      have hcall := HF.out k hkl wr hb
      rw [show atE l k = x from hx.symm] at hcall
      simp only [← hx] at hc
      have g0 := hc 0 _ rfl
      have g1 := hc 1 _ rfl
      have g2 := hc 2 _ rfl
      have g3 := hc 3 _ rfl
      rw [Nat.add_zero] at g0
      unfold DV.v at g3
      have HC := Lib.hid hcall
      clear hc hx hcall hkl
      by_cases hfx : unlikeE L x = true
      · have hcc := HC.out
        rw [hfx] at hcc
        have HFX := Lib.hid hfx
        clear hfx
        go_wp2_with fail
        refine hcc.mono ?_; rintro e w1 ⟨rfl, hb1⟩
        go_wp2_with fail
        go_ret
        exact ⟨.inl ⟨k, HKL.out, rfl, by rw [show atE l k = x from HXE.out.symm]; exact HFX.out, HNO.out⟩, bl_trans hb hb1⟩
      · have hcc := HC.out
        rw [eq_false_of_ne_true hfx] at hcc
        have HFX := Lib.hid (eq_false_of_ne_true hfx)
        clear hfx
        go_wp2_with fail
        refine hcc.mono ?_; rintro e w1 ⟨rfl, hb1⟩
        replace hb := bl_trans hb hb1
        clear hb1 g0 g1 g2 g3 hcc
        go_wp2_with fail
        go_roundg (N - (k + 1))
        case measure => have := HGK.out; omega
        case rel => exact ⟨hb, k + 1, by omega, rfl, by go_num, fun j hj => by
            by_cases e : j = k
            · rw [e, show atE l k = x from HXE.out.symm]; exact HFX.out
            · exact HNO.out j (by omega)⟩
    · obtain rfl : k = N := by omega
      have hk1 : decide ((k : Int) < (k : Int)) = false := decide_eq_false (by omega)
      go_wp2_with fail
      go_ret
      exact ⟨.inr ⟨rfl, fun i hi => HNO.out i (by rw [HN.out]; exact hi)⟩, hb⟩
theorem row_mono {w : World} {B B' : Nat} {e : TypeId} {size : Nat} {v : Value} {n : Nat} {xs : List Value} (h : w.ownsRow B e size v n xs) (hb : B' ≤ B) : w.ownsRow B' e size v n xs :=
  ⟨h.1, by
    rcases h.2 with h1 | ⟨g, cap, cur, h1, h2, h3⟩
    · exact .inl h1
    · exact .inr ⟨g, cap, cur, h1, Nat.le_trans hb h2, h3⟩⟩
/-- Without the bytes of the first one. -/
def bare (L : List Ent) : List Ent := L.set 0 { atE L 0 with d := ⟨none, [], 0⟩ }
theorem bare_len (L : List Ent) : (bare L).length = L.length := by simp [bare]
theorem bare_at (L : List Ent) (i : Nat) : (atE (bare L) i).ix = (atE L i).ix ∧ (atE (bare L) i).tm = (atE L i).tm ∧ (0 < i → atE (bare L) i = atE L i) := by
  unfold bare atE
  rw [List.getD_eq_getElem?_getD, List.getElem?_set]
  by_cases h : 0 = i
  · subst h
    rw [if_pos rfl]
    split
    · exact ⟨rfl, rfl, fun h => absurd h (Nat.lt_irrefl 0)⟩
    · next hh =>
      have : L = [] := List.length_eq_zero_iff.1 (by omega)
      subst this
      exact ⟨rfl, rfl, fun h => absurd h (Nat.lt_irrefl 0)⟩
  · rw [if_neg h, List.getD_eq_getElem?_getD]
    exact ⟨rfl, rfl, fun _ => rfl⟩
theorem Good.drop {L : List Ent} {com app : Int} (h : Good L com app) {k : Nat} (hk : k < L.length) (ha : (atE L 0).ix + k ≤ app) : Good (bare (L.drop k)) com app := by
  have hlen : (bare (L.drop k)).length = L.length - k := by rw [bare_len, List.length_drop]
  have hix : ∀ i, i < L.length - k → (atE (bare (L.drop k)) i).ix = (atE L 0).ix + k + i := fun i hi => by
    rw [(bare_at _ i).1, atE_drop, h.ix (k + i) (by omega)]
    omega
  have h0 := hix 0 (by omega)
  have hb := h.b0
  have ht := h.top
  have hc1 := h.c1
  have hc2 := h.c2
  have hs := h.sz
  refine ⟨by omega, by omega, fun i hi => ?_, by omega, by omega, by omega, h.c1, by omega, fun i hi => ?_⟩
  · rw [hix i (by omega), h0]; omega
  · rw [(bare_at _ i).2.1, atE_drop]
    exact h.tm (k + i) (by omega)
theorem entsC_bare {L : List Ent} (h : 0 < L.length) : (entsC L).set 3 (.slice none 0 0) = entsC (bare L) := by
  cases L with
  | nil => simp at h
  | cons x r => rfl
set_option maxRecDepth 100000 in
set_option maxHeartbeats 2000000 in
theorem compact_at {B : Nat} {w : World} {p : Nat} {L : List Ent} {com app : Int} {v : Value} (h : GX B w p L com app v) (hG : Good L com app) (i : Int) :
    Calls Try.prog 17 #[.pointer (some ⟨p, 0, none⟩), .int .i64 i] w fun e w' => (¬ (bE L ≤ i ∧ i ≤ app) ∧ e = .returned (.int .i64 7) ∧ Below w.heap.size w w') ∨
      ((bE L ≤ i ∧ i ≤ app) ∧ e = .returned (.int .i64 0) ∧ ∃ v', GX B w' p (bare (L.drop (i - bE L).toNat)) com app v' ∧ Good (bare (L.drop (i - bE L).toNat)) com app ∧ Chg (gM p v) w w' ∧ ∃ g, v'.ownBlock = some g ∧ w.heap.size ≤ g) := by
  have HX := Lib.hid h
  have HG := Lib.hid hG
  have hbase := base_at h hG
  obtain ⟨ea, ec, rfl⟩ := h.rowE hG.ne
  obtain ⟨b, hb⟩ : ∃ b, b = bE L := ⟨_, rfl⟩
  rw [← hb] at hbase
  have HBE := Lib.hid hb
  have hbb : (atE L 0).ix = bE L := rfl
  have b1 : 0 ≤ b := by rw [hb]; exact hG.b0
  have c2 : w.cell? ⟨p, 2, none⟩ = some (.int .i64 app) := blk_cell h.blk 2
  rw [← hb]
  clear h hb
  by_cases c1 : i < b
  · have d1 : decide (i < b) = true := decide_eq_true c1
    have HN := Lib.hid (show ¬ (b ≤ i ∧ i ≤ app) by omega)
    clear hG c1 hbb
    go_enter Try.func17, Try.ntmps17
    go_wp2_with fail
    refine hbase.mono ?_; rintro e w1 ⟨rfl, rfl⟩
    go_wp2_with fail
    go_ret
    exact .inl ⟨HN.out, rfl, Below.refl _ _⟩
  have d1 : decide (i < b) = false := decide_eq_false c1
  by_cases c3 : app < i
  · have d2 : decide (app < i) = true := decide_eq_true c3
    have HN := Lib.hid (show ¬ (b ≤ i ∧ i ≤ app) by omega)
    clear hG c1 c3 hbb
    go_enter Try.func17, Try.ntmps17
    go_wp2_with fail
    refine hbase.mono ?_; rintro e w1 ⟨rfl, rfl⟩
    go_wp2_with fail
    go_ret
    exact .inl ⟨HN.out, rfl, Below.refl _ _⟩
  have d2 : decide (app < i) = false := decide_eq_false c3
  have HY := Lib.hid (show b ≤ i ∧ i ≤ app by omega)
  have h1 := hG.c1
  have h2 := hG.c2
  obtain ⟨k, hk⟩ : ∃ k : Nat, i = b + k := ⟨(i - b).toNat, by omega⟩
  have hkl : k < L.length := by have := HBE.out; omega
  have hcl : L.length ≤ ec := by
    rcases HX.out.row.2 with ⟨h1, _⟩ | ⟨g', cap, cur, h1, _, _, h2, _⟩
    · cases h1
    · injection h1 with _ _ h3
      omega
  have HK := Lib.hid hk
  have HKL := Lib.hid hkl
  have hf := from_at (i := i) HX.out HG.out hkl (hk.trans (by rw [HBE.out])) hcl
  have HF := Lib.hid hf
  obtain ⟨N, hN⟩ : ∃ N, N = L.length - k := ⟨_, rfl⟩
  rw [← hN] at HF
  have HN := Lib.hid hN
  obtain ⟨e9, he9⟩ : ∃ e9, e9 = ec - k := ⟨_, rfl⟩
  obtain ⟨k4, hk4⟩ : ∃ k4, k4 = k * 4 := ⟨_, rfl⟩
  rw [← he9, ← hk4] at HF
  have hea : EA w (some ⟨ea, k * 4, none⟩) (L.drop k) := fun j hj => ⟨ea, k * 4, rfl, fun m u hu => by
    rw [List.length_drop] at hj
    have hu' : (entC (atE L (k + j)))[m]? = some u := by rw [← atE_drop]; exact hu
    have := HX.out.ent (i := k + j) (by omega) hu'
    rw [show (k + j) * 4 + m = k * 4 + j * 4 + m by omega] at this
    exact this⟩
  rw [← hk4] at hea
  have HEA := Lib.hid hea
  have HZ := Lib.hid hG.sz
  clear hG c1 c3 hbb h1 h2 hk hkl hcl hf hN hea he9 hk4
  go_enter Try.func17, Try.ntmps17
  go_wp2_with fail
  refine hbase.mono ?_; rintro e w1 ⟨rfl, rfl⟩
  go_wp2_with fail
  refine HF.out.mono ?_; rintro e w2 ⟨rfl, hb2⟩
  have hcl := cloneE_at ea k4 (L.drop k) e9 w2 (HEA.out.keep hb2) (by rw [List.length_drop]; have := HZ.out; omega)
  rw [List.length_drop, ← HN.out] at hcl
  have HC := Lib.hid hcl
  clear hcl c2
  go_wp2_with fail
  refine HC.out.mono ?_; rintro e w3 ⟨v3, rfl, hr3, ⟨g3, hg3, hl3⟩, hb3⟩
  have hrg : ∃ c3, v3 = .slice (some ⟨g3, 0, none⟩) N c3 := by
    rcases hr3.2 with ⟨h1, _⟩ | ⟨g', cap, cur, h1, _⟩
    · rw [h1] at hg3; cases hg3
    · rw [h1] at hg3
      injection hg3 with e1
      exact ⟨cap, by rw [h1]; show _ = Value.slice (some ⟨g3, 0, none⟩) N cap; rw [← e1]⟩
  obtain ⟨c3, rfl⟩ := hrg
  have HR3 := Lib.hid hr3
  have HB2 := Lib.hid hb2
  have HB3 := Lib.hid (bl_trans hb2 hb3)
  have HX3 := Lib.hid (HX.out.below HB3.out)
  have HL3 := Lib.hid (Nat.le_trans hb2.size hl3)
  have p0 := blk_cell HX3.out.blk 0
  have pf := blk_frozen HX3.out.blk
  simp only [List.getElem?_toArray, List.getElem?_cons_zero, List.getElem?_cons_succ] at p0
  clear hr3 hb2 hb3 hl3 hg3
  go_upto_region 4 with fail
  change Code.wp _ _ _ _ (w3.setCell ⟨p, 0, none⟩ (.slice (some ⟨g3, 0, none⟩) N c3))
  have hB : B ≤ w.heap.size := by have h1 := HX.out.hB; have h2 := blk_lt HX.out.blk; omega
  have hlen : (L.drop k).length = N := by rw [List.length_drop, HN.out]
  have hNp : 0 < N := by have := HKL.out; have := HN.out; omega
  have hX4 := HX.out.more (L' := L.drop k) (v' := .slice (some ⟨g3, 0, none⟩) N c3) (w2 := w3) (row := none) (by rw [hlen]; exact row_mono HR3.out (by have := HB3.out.size; have := HB2.out.size; omega)) ⟨HB3.out.os, HB3.out.tape, HB3.out.output, HB3.out.size, fun j hj _ => HB3.out.block j hj⟩ (.inl rfl) (.inr ⟨g3, rfl, HL3.out⟩) (fun j hj => by rw [atE_drop]; rw [hlen] at hj; exact HX.out.dat (k + j) (by have := HN.out; omega))
  have hch : Chg (gM p (.slice (some ⟨ea, 0, none⟩) L.length ec)) w (w3.setCell ⟨p, 0, none⟩ (.slice (some ⟨g3, 0, none⟩) N c3)) := (Chg.of_below HB3.out).set (p := ⟨p, 0, none⟩) (.inl List.mem_cons_self) _
  obtain ⟨W4, hW4⟩ : ∃ W4, W4 = w3.setCell ⟨p, 0, none⟩ (.slice (some ⟨g3, 0, none⟩) N c3) := ⟨_, rfl⟩
  rw [← hW4] at hX4 hch ⊢
  have HX4 := Lib.hid hX4
  have HCH := Lib.hid hch
  have HLEN := Lib.hid hlen
  have hNp' : (0 : Int) < (N : Int) := by omega
  obtain ⟨y, hy⟩ : ∃ y, y = atE (L.drop k) 0 := ⟨_, rfl⟩
  have hrow := HX4.out.row
  rw [hlen] at hrow
  have HROW := Lib.hid hrow
  have s0 : W4.cell? ⟨p, 0, none⟩ = some (.slice (some ⟨g3, 0, none⟩) N c3) := blk_cell HX4.out.blk 0
  have s3 : W4.cell? ⟨g3, 3, none⟩ = some (.slice y.d.a y.d.bs.length y.d.c) := by
    have := row_cell HROW.out (j := 3) (u := y.d.v) (entsC_get (i := 0) (by omega) (j := 3) (by rw [← hy]; rfl))
    exact this
  have sf : ∀ j, W4.frozen? ⟨g3, j, none⟩ = false := fun j => HROW.out.frozenAt j
  clear hW4 hX4 hch hlen hrow hy p0 pf hB
  go_wp2_with fail
  go_ret
  have hst := HROW.out.stored 3 (.slice none 0 0)
  have hgp : g3 ≠ p := by
    intro e
    have := HL3.out
    have := blk_lt HX.out.blk
    omega
  have hk3 : Chg [g3] W4 (W4.setCell ⟨g3, 3, none⟩ (.slice none 0 0)) := (Chg.refl _ W4).set (p := ⟨g3, 3, none⟩) (.inl (by simp)) _
  have hki : (i - b).toNat = k := by rw [HK.out]; omega
  refine .inr ⟨HY.out, rfl, .slice (some ⟨g3, 0, none⟩) N c3, ?_, ?_, ?_, g3, rfl, HL3.out⟩
  · rw [hki]
    refine ⟨blk_far HX4.out.blk (Ne.symm hgp) _, HX4.out.hB, ?_, fun j hj => ?_⟩
    · rw [bare_len, HLEN.out, ← entsC_bare (by rw [HLEN.out]; exact hNp)]
      exact hst.1
    · rw [bare_len] at hj
      by_cases e : j = 0
      · subst e
        have hd0 : (atE (bare (L.drop k)) 0).d = ⟨none, [], 0⟩ := by
          unfold bare atE
          rw [List.getD_eq_getElem?_getD, List.getElem?_set]
          simp only [if_pos]
          rw [if_pos (by rw [HLEN.out]; exact hNp)]
          rfl
        rw [hd0]
        exact own8_nil _
      · rw [(bare_at _ j).2.2 (by omega)]
        refine (HX4.out.dat j hj).keep hk3 (fun x hx => ?_)
        rw [List.mem_singleton.1 hx]
        obtain ⟨cu, hcu⟩ := row_blk HROW.out (g := g3) rfl
        exact ⟨_, _, _, hcu, by decide⟩
  · rw [hki]
    exact HG.out.drop HKL.out (by have h1 := HY.out.2; have h2 := HK.out; have h3 := HBE.out; have h4 : (atE L 0).ix = bE L := rfl; omega)
  · exact HCH.out.trans' hk3 (fun x hx => by rw [List.mem_singleton.1 hx]; exact .inr HL3.out)
end Go.Proofs.Yteflgempjecnpaa
