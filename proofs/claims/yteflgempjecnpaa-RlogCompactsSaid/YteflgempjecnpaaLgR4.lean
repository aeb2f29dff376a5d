/- The reference's log: Compact. Conditions: none. -/
import Derived.Test.YteflgempjecnpaaLgR3
namespace Go.Proofs.Yteflgempjecnpaa
open Go.RowKit
section
variable {B : Nat} {w w' : World} {p : Nat} {b bt : Int} {T : List Ent} {com app : Int} {u : Value}
theorem ents_drop {l : List Ent} {k j : Nat} {u : Value} (h : (entsC (l.drop k))[j]? = some u) : (entsC l)[k * 4 + j]? = some u := by
  have hlt := (List.getElem?_eq_some_iff.1 h).1
  rw [entsC_len, List.length_drop] at hlt
  have hl4 : (entC (atE l (k + j / 4))).length = 4 := rfl
  have hj4 : (entC (atE l (k + j / 4)))[j % 4]? = some ((entC (atE l (k + j / 4)))[j % 4]'(by rw [hl4]; omega)) := List.getElem?_eq_getElem _
  have h1 := entsC_get (l := l) (i := k + j / 4) (by omega) hj4
  have h2 := entsC_get (l := l.drop k) (i := j / 4) (by rw [List.length_drop]; omega) (j := j % 4) (u := (entC (atE l (k + j / 4)))[j % 4]'(by rw [hl4]; omega)) (by rw [atE_drop]; exact hj4)
  rw [show j / 4 * 4 + j % 4 = j by omega, h] at h2
  rw [show (k + j / 4) * 4 + j % 4 = k * 4 + j by omega] at h1
  rw [h1, h2]
theorem good_rdrop {b bt com app : Int} {T : List Ent} (h : Good (hd b bt :: T) com app) {k : Nat} (hk : k ≤ T.length) (ha : b + k ≤ app) {t : Int} (ht : t = (atE (hd b bt :: T) k).tm) : Good (hd (b + k) t :: T.drop k) com app := by
  have hg := h.drop (k := k) (by show k < T.length + 1; omega) ha
  have hb : bare ((hd b bt :: T).drop k) = { atE (hd b bt :: T) k with d := ⟨none, [], 0⟩ } :: T.drop k := by
    cases k with
    | zero => rfl
    | succ k =>
      show bare (T.drop k) = _
      rw [List.drop_eq_getElem_cons (by omega)]
      have : atE (hd b bt :: T) (k + 1) = T[k] := by
        show atE T k = _
        unfold atE
        rw [List.getD_eq_getElem?_getD, List.getElem?_eq_getElem (by omega)]
        rfl
      rw [this]
      rfl
  rw [hb] at hg
  have hix := h.ix k (by show k < T.length + 1; omega)
  refine ⟨hg.ne, hg.sz, fun i hi => ?_, ?_, ?_, ?_, hg.c1, ?_, fun i hi => ?_⟩
  · have := hg.ix i hi
    cases i with
    | zero => show b + k = b + k + _; simp
    | succ i =>
      have h0 : (atE (hd b bt :: T) 0).ix = b := rfl
      have e1 : (atE ({ atE (hd b bt :: T) k with d := ⟨none, [], 0⟩ } :: T.drop k) 0).ix = (atE (hd b bt :: T) k).ix := rfl
      rw [e1, hix, h0] at this
      exact this
  · show 0 ≤ b + k; have := h.b0; have h0 : (atE (hd b bt :: T) 0).ix = b := rfl; omega
  · show b + k + _ ≤ _
    have := hg.top
    have e1 : (atE ({ atE (hd b bt :: T) k with d := ⟨none, [], 0⟩ } :: T.drop k) 0).ix = (atE (hd b bt :: T) k).ix := rfl
    have h0 : (atE (hd b bt :: T) 0).ix = b := rfl
    rw [e1, hix, h0] at this
    exact this
  · exact ha
  · have := hg.c2
    have e1 : (atE ({ atE (hd b bt :: T) k with d := ⟨none, [], 0⟩ } :: T.drop k) 0).ix = (atE (hd b bt :: T) k).ix := rfl
    have h0 : (atE (hd b bt :: T) 0).ix = b := rfl
    rw [e1, hix, h0] at this
    exact this
  · cases i with
    | zero => show 0 ≤ t ∧ t ≤ maxI; rw [ht]; exact h.tm k (by show k < T.length + 1; omega)
    | succ i => exact hg.tm (i + 1) hi
set_option maxRecDepth 100000 in
set_option maxHeartbeats 2000000 in
theorem rcompact_at (h : RX B w p b bt T com app u) (hG : Good (hd b bt :: T) com app) (i : Int) :
    Calls Try.prog 32 #[.pointer (some ⟨p, 0, none⟩), .int .i64 i] w fun e w' => (∃ n : Int, e = .returned (.int .i64 n)) ∧ REnd B w p T u 0 w' := by
  obtain ⟨ua, uc, rfl⟩ := own_slice h.row
  have HX := Lib.hid h
  have HG := Lib.hid hG
  obtain ⟨N, hN⟩ : ∃ N, N = T.length := ⟨_, rfl⟩
  have HN := Lib.hid hN
  have n2 : (N : Int) ≤ 200000 := by have := hG.sz; simp at this; omega
  have b1 : 0 ≤ b := hG.b0
  have b2 : b + N ≤ 1099511627776 := by have := hG.top; simp at this; unfold maxI at this; rw [hN]; exact this
  have c0 : ∀ W, Below w.heap.size w W → W.cell? ⟨p, 0, none⟩ = some (.int .i64 b) := fun W k => blk_cell (blk_below HX.out.blk k (blk_lt HX.out.blk)) 0
  have c1 : ∀ W, Below w.heap.size w W → W.cell? ⟨p, 1, none⟩ = some (.int .i64 bt) := fun W k => blk_cell (blk_below HX.out.blk k (blk_lt HX.out.blk)) 1
  have c2 : ∀ W, Below w.heap.size w W → W.cell? ⟨p, 2, none⟩ = some (.slice ua N uc) := fun W k => by rw [HN.out]; exact blk_cell (blk_below HX.out.blk k (blk_lt HX.out.blk)) 2
  have c3 : ∀ W, Below w.heap.size w W → W.cell? ⟨p, 3, none⟩ = some (.int .i64 com) := fun W k => blk_cell (blk_below HX.out.blk k (blk_lt HX.out.blk)) 3
  have c4 : ∀ W, Below w.heap.size w W → W.cell? ⟨p, 4, none⟩ = some (.int .i64 app) := fun W k => blk_cell (blk_below HX.out.blk k (blk_lt HX.out.blk)) 4
  have pf : ∀ i W, Below w.heap.size w W → W.frozen? ⟨p, i, none⟩ = false := fun i W k => blk_frozen (blk_below HX.out.blk k (blk_lt HX.out.blk)) i
  have hbl := Below.refl w.heap.size w
  have hv1 : IntKind.i64.wrap (b + N) = b + N := IntWalk.i64_in _ (by omega)
  clear h hG hN
  by_cases d1 : i < b
  · have e1 : decide (i < b) = true := decide_eq_true d1
    clear d1
    go_enter Try.func32, Try.ntmps32
    go_wp2_with fail
    go_ret
    exact ⟨⟨7, rfl⟩, .same HX.out HG.out hbl⟩
  have e1 : decide (i < b) = false := decide_eq_false d1
  by_cases d2 : app < i
  · have e2 : decide (app < i) = true := decide_eq_true d2
    clear d1 d2
    go_enter Try.func32, Try.ntmps32
    go_wp2_with fail
    go_ret
    exact ⟨⟨7, rfl⟩, .same HX.out HG.out hbl⟩
  have e2 : decide (app < i) = false := decide_eq_false d2
  obtain ⟨k, hk⟩ : ∃ k : Nat, i = b + k := ⟨(i - b).toNat, by omega⟩
  have hgh := good_hd HG.out
  have hkN : k ≤ N := by have := HN.out; omega
  have HK := Lib.hid hk
  have HKN := Lib.hid hkN
  have HKA := Lib.hid (show b + k ≤ app by omega)
  have hte := fun (W : World) (q : Below w.heap.size w W) => rterm_at (HX.out.below q) HG.out i
  obtain ⟨tr, htr⟩ : ∃ tr, tr = termR (hd b bt :: T) i := ⟨_, rfl⟩
  rw [← htr] at hte
  have HTR := Lib.hid (show tr.1 = (atE (hd b bt :: T) k).tm by
    rw [htr, hd_term, hk]
    by_cases e0 : k = 0
    · subst e0
      rw [if_pos (by omega)]
      rfl
    · rw [if_neg (by omega), if_pos (by rw [← HN.out]; omega)]
      obtain ⟨j, rfl⟩ : ∃ j, k = j + 1 := ⟨k - 1, by omega⟩
      rw [show (b + ((j + 1 : Nat) : Int) - 1 - b).toNat = j by omega]
      rfl)
  obtain ⟨tt, ti⟩ := tr
  simp only at hte HTR
  have hv3 : IntKind.i64.wrap (i - b) = (k : Int) := by rw [IntWalk.i64_in _ (by omega)]; omega
  have hNc : N ≤ uc := by
    rcases HX.out.row.2 with ⟨h1, h2⟩ | ⟨g', cap, cur, h1, _, _, h2, _⟩
    · have := HN.out; omega
    · injection h1 with _ _ h3
      have := HN.out
      omega
  have HNC := Lib.hid hNc
  have hk0 : (0 : Int) ≤ (k : Int) := by omega
  have hk1 : (k : Int) ≤ N := by omega
  clear d1 d2 hk hkN hgh htr hNc
  go_enter Try.func32, Try.ntmps32
  go_wp2_with fail
  refine (hte _ hbl).mono ?_
  rintro e w1 ⟨rfl, hb1⟩
  replace hbl := hb1
  clear hb1 hte
  go_upto_region 4 with fail
  by_cases hku : k < uc
  · obtain ⟨ug, rfl⟩ : ∃ ug, ua = some ⟨ug, 0, none⟩ := by
      rcases HX.out.row.2 with ⟨h1, _⟩ | ⟨g', cap, cur, h1, _⟩
      · injection h1 with _ _ h3; omega
      · injection h1 with h2 _ _; exact ⟨g', h2⟩
    have hku' : (k : Int) < uc := by omega
    have HCELL := Lib.hid (show ∀ W, Below w.heap.size w W → ∀ j u, (entsC (T.drop k))[j]? = some u → ∃ b off, (some ⟨ug, k * 4, none⟩ : Option Addr) = some ⟨b, off, none⟩ ∧ W.cell? ⟨b, off + j, none⟩ = some u from fun W hW j u hj => ⟨ug, k * 4, rfl, row_cell (HX.out.below hW).row (ents_drop hj)⟩)
    refine wp_region_last 16 (Below w.heap.size w) (fun i => i == 1 || i == 13) (by kernel_rfl) (by rfl) (by kernel_rfl) (by kernel_rfl) (by exact hbl.drew) ?_
    simp only [List.take_succ_cons, List.take_zero]
    intro hne hx
    replace hbl := hbl.drew
    change wpStg _ _ _ _ _ _ _ _ w1.drew
    obtain ⟨V, hV⟩ : ∃ V, V = w1.drew := ⟨_, rfl⟩
    rw [← hV] at hbl ⊢
    clear hV
    refine stg_seg 1 (by dsimp only [List.take]) (by dsimp only [List.drop]) (by rfl) ?_
    repeat (go_big_quiet_step (fail))
    refine wpQuiet_nil ?_
    refine stg_loud (by rfl) ?_
    go_wp2_with fail
    have hbl2 := bl_alloc hbl (.cells #[] 45)
    refine lq_in rfl (hbl2) ?_
    refine stg_seg 11 (by dsimp only [List.take]) (by dsimp only [List.drop]) (by rfl) ?_
    repeat (go_big_quiet_step (fail))
    refine wpQuiet_nil ?_
    refine stg_loud (by rfl) ?_
    go_wp2_with (at_builtin; go_loud (refine wpList_clone rfl _ _ 33 rfl V.heap.size 45 Try.underlying33 Try.infoEntry rfl (by decide) rfl (World.ownsRow_made V #[] 0 (Nat.le_refl _) (by simp) rfl) rfl (ys := entsC (T.drop k)) (by rw [entsC_len, List.length_drop]; have h1 := HN.out; have h2 := HKN.out; have h3 := HNC.out; omega) (fun j u hj => HCELL.out _ hbl2 j u hj) (fun h => by cases h) entsC_one (by unfold maxLen; omega) (by omega) (by simp) ?_); intro v6 w6 hown1 hgrow hat1)
    obtain ⟨a6, c6, rfl⟩ := own_slice hown1
    rw [Nat.zero_add] at hown1 hat1
    have hlen : (T.drop k).length = (N - k) := by rw [List.length_drop]; have h1 := HN.out; have h2 := HKN.out; have h3 := HNC.out; omega
    have hat2 : ∃ g, (Value.slice a6 ((N - k)) c6).ownBlock = some g ∧ w.heap.size ≤ g := by
      rcases hat1 with h1 | ⟨g, h1, h2⟩
      · exact ⟨V.heap.size, h1, hbl.size⟩
      · exact ⟨g, h1, by have := hbl.size; simp at h2; omega⟩
    have hb6 : Below w.heap.size w w6 := hbl2.trans (own_below (World.ownsRow_made V #[] 0 (base := w.heap.size) (e := 45) (size := 4) hbl.size (by simp) rfl) hgrow (by have := hbl.size; simp; omega))
    have HOW := Lib.hid (show w6.ownsRow B 45 4 (.slice a6 ((N - k)) c6) (T.drop k).length (entsC (T.drop k)) by
      rw [List.nil_append] at hown1
      rw [hlen]
      exact row_mono hown1 (by have h1 := HX.out.hB; have h2 := blk_lt HX.out.blk; have h3 := hbl.size; omega))
    have HAT := Lib.hid hat2
    have HB6 := Lib.hid hb6
    have hbk := (HX.out.below hb6).blk
    have p0 := blk_cell hbk 0
    have p1 := blk_cell hbk 1
    have p2 := blk_cell hbk 2
    have pf2 := blk_frozen hbk
    simp only [List.getElem?_toArray, List.getElem?_cons_zero, List.getElem?_cons_succ] at p0 p1 p2
    clear hown1 hgrow hat1 hat2 hbk hbl hbl2 hlen c0 c1 c2 c3 c4 pf
    refine lq_in rfl (hb6) ?_
    refine stg_seg 2 (by dsimp only [List.take]) (by dsimp only [List.drop]) (by rfl) ?_
    repeat (go_big_quiet_step (fail))
    refine wpQuiet_nil ?_
    refine stg_nil ?_
    clear hne hx
    intro _ hxx
    clear hxx hb6
    go_wp2_with fail
    go_ret
    obtain ⟨hX, hC⟩ := HX.out.more (T' := T.drop k) (u' := .slice a6 ((N - k)) c6) (w2 := w6) (row := none) HOW.out ⟨HB6.out.os, HB6.out.tape, HB6.out.output, HB6.out.size, fun j hj _ => HB6.out.block j hj⟩ (.inl rfl) (.inr (.inr HAT.out))
    have hX2 := (hX.scal (k := 0) (x := .int .i64 i) (b' := i) rfl).scal (k := 1) (x := .int .i64 tt) (bt' := tt) rfl
    refine ⟨⟨0, rfl⟩, i, tt, T.drop k, com, app, _, hX2, ?_, (hC.set (p := ⟨p, 0, none⟩) (.inl List.mem_cons_self) _).set (p := ⟨p, 1, none⟩) (.inl List.mem_cons_self) _, .inr (.inr HAT.out), by rw [List.length_drop]; omega⟩
    have hgd := good_rdrop HG.out (k := k) (by rw [← HN.out]; exact HKN.out) HKA.out HTR.out
    rw [← HK.out] at hgd
    exact hgd
  · have hkz : T.drop k = [] := by rw [List.drop_eq_nil_iff]; have h1 := HKN.out; have h2 := HNC.out; have h3 := HN.out; omega
    have hku' : (k : Int) = uc := by have h1 := HKN.out; have h2 := HNC.out; omega
    have hku2 : k = uc := by omega
    have hz : N - uc = 0 := by have h1 := HKN.out; have h2 := HNC.out; omega
    refine wp_region_last 16 (Below w.heap.size w) (fun i => i == 1 || i == 13) (by kernel_rfl) (by rfl) (by kernel_rfl) (by kernel_rfl) (by exact hbl.drew) ?_
    simp only [List.take_succ_cons, List.take_zero]
    intro hne hx
    replace hbl := hbl.drew
    change wpStg _ _ _ _ _ _ _ _ w1.drew
    obtain ⟨V, hV⟩ : ∃ V, V = w1.drew := ⟨_, rfl⟩
    rw [← hV] at hbl ⊢
    clear hV
    refine stg_seg 1 (by dsimp only [List.take]) (by dsimp only [List.drop]) (by rfl) ?_
    repeat (go_big_quiet_step (fail))
    refine wpQuiet_nil ?_
    refine stg_loud (by rfl) ?_
    go_wp2_with fail
    have hbl2 := bl_alloc hbl (.cells #[] 45)
    refine lq_in rfl (hbl2) ?_
    refine stg_seg 11 (by dsimp only [List.take]) (by dsimp only [List.drop]) (by rfl) ?_
    repeat (go_big_quiet_step (fail))
    refine wpQuiet_nil ?_
    refine stg_loud (by rfl) ?_
    go_wp2_with (at_builtin; go_loud (refine wpList_clone rfl _ _ 33 rfl V.heap.size 45 Try.underlying33 Try.infoEntry rfl (by decide) rfl (World.ownsRow_made V #[] 0 (Nat.le_refl _) (by simp) rfl) rfl (ys := entsC (T.drop k)) (by rw [entsC_len, List.length_drop]; have h1 := HN.out; have h2 := HKN.out; have h3 := HNC.out; omega) (fun j u hj => by rw [hkz] at hj; simp [entsC] at hj) (fun _ => rfl) entsC_one (by unfold maxLen; omega) (by omega) (by simp) ?_); intro v6 w6 hown1 hgrow hat1)
    obtain ⟨a6, c6, rfl⟩ := own_slice hown1
    rw [Nat.zero_add] at hown1 hat1
    have hlen : (T.drop k).length = 0 := by rw [List.length_drop]; have h1 := HN.out; have h2 := HKN.out; have h3 := HNC.out; omega
    have hat2 : ∃ g, (Value.slice a6 (0) c6).ownBlock = some g ∧ w.heap.size ≤ g := by
      rcases hat1 with h1 | ⟨g, h1, h2⟩
      · exact ⟨V.heap.size, h1, hbl.size⟩
      · exact ⟨g, h1, by have := hbl.size; simp at h2; omega⟩
    have hb6 : Below w.heap.size w w6 := hbl2.trans (own_below (World.ownsRow_made V #[] 0 (base := w.heap.size) (e := 45) (size := 4) hbl.size (by simp) rfl) hgrow (by have := hbl.size; simp; omega))
    have HOW := Lib.hid (show w6.ownsRow B 45 4 (.slice a6 (0) c6) (T.drop k).length (entsC (T.drop k)) by
      rw [List.nil_append] at hown1
      rw [hlen]
      exact row_mono hown1 (by have h1 := HX.out.hB; have h2 := blk_lt HX.out.blk; have h3 := hbl.size; omega))
    have HAT := Lib.hid hat2
    have HB6 := Lib.hid hb6
    have hbk := (HX.out.below hb6).blk
    have p0 := blk_cell hbk 0
    have p1 := blk_cell hbk 1
    have p2 := blk_cell hbk 2
    have pf2 := blk_frozen hbk
    simp only [List.getElem?_toArray, List.getElem?_cons_zero, List.getElem?_cons_succ] at p0 p1 p2
    clear hown1 hgrow hat1 hat2 hbk hbl hbl2 hlen c0 c1 c2 c3 c4 pf
    refine lq_in rfl (hb6) ?_
    refine stg_seg 2 (by dsimp only [List.take]) (by dsimp only [List.drop]) (by rfl) ?_
    repeat (go_big_quiet_step (fail))
    refine wpQuiet_nil ?_
    refine stg_nil ?_
    clear hne hx
    intro _ hxx
    clear hxx hb6
    go_wp2_with fail
    go_ret
    obtain ⟨hX, hC⟩ := HX.out.more (T' := T.drop k) (u' := .slice a6 (0) c6) (w2 := w6) (row := none) HOW.out ⟨HB6.out.os, HB6.out.tape, HB6.out.output, HB6.out.size, fun j hj _ => HB6.out.block j hj⟩ (.inl rfl) (.inr (.inr HAT.out))
    have hX2 := (hX.scal (k := 0) (x := .int .i64 i) (b' := i) rfl).scal (k := 1) (x := .int .i64 tt) (bt' := tt) rfl
    refine ⟨⟨0, rfl⟩, i, tt, T.drop k, com, app, _, hX2, ?_, (hC.set (p := ⟨p, 0, none⟩) (.inl List.mem_cons_self) _).set (p := ⟨p, 1, none⟩) (.inl List.mem_cons_self) _, .inr (.inr HAT.out), by rw [List.length_drop]; omega⟩
    have hgd := good_rdrop HG.out (k := k) (by rw [← HN.out]; exact HKN.out) HKA.out HTR.out
    rw [← HK.out] at hgd
    exact hgd
end
end Go.Proofs.Yteflgempjecnpaa
