/- rlog: Commit, Apply, Reset. Conditions: none. -/
import Derived.Test.YteflgempjecnpaaLgG4
import Derived.Test.YteflgempjecnpaaStagedT
namespace Go.Proofs.Yteflgempjecnpaa
open Go.RowKit
def moveR (i low high : Int) : Bool := decide (low ≤ i) && decide (i ≤ high)
set_option maxRecDepth 100000 in
theorem move_at (p k : Nat) (i low high : Int) (w : World) (u : Value) (hc : w.cell? ⟨p, k, none⟩ = some u) (hu : u.oneCell' = true) (hf : w.frozen? ⟨p, k, none⟩ = false) :
    Calls Try.prog 50 #[.pointer (some ⟨p, k, none⟩), .int .i64 i, .int .i64 low, .int .i64 high] w fun e w' => (moveR i low high = true ∧ e = .returned (.int .i64 0) ∧ w' = w.setCell ⟨p, k, none⟩ (.int .i64 i)) ∨ (moveR i low high = false ∧ e = .returned (.int .i64 7) ∧ w' = w) := by
  by_cases c1 : i < low
  · have d1 : decide (i < low) = true := decide_eq_true c1
    have HR := Lib.hid (show moveR i low high = false by unfold moveR; simp; omega)
    clear c1
    go_enter Try.func50, Try.ntmps50
    go_wp2_with fail
    go_ret
    exact .inr ⟨HR.out, rfl, rfl⟩
  · have d1 : decide (i < low) = false := decide_eq_false c1
    by_cases c2 : high < i
    · have d2 : decide (high < i) = true := decide_eq_true c2
      have HR := Lib.hid (show moveR i low high = false by unfold moveR; simp; omega)
      clear c1 c2
      go_enter Try.func50, Try.ntmps50
      go_wp2_with fail
      go_ret
      exact .inr ⟨HR.out, rfl, rfl⟩
    · have d2 : decide (high < i) = false := decide_eq_false c2
      have HR := Lib.hid (show moveR i low high = true by unfold moveR; simp; omega)
      clear c1 c2
      go_enter Try.func50, Try.ntmps50
      go_wp2_with fail
      go_ret
      exact .inl ⟨HR.out, rfl, rfl⟩
section
variable {B : Nat} {w : World} {p : Nat} {L : List Ent} {com app : Int} {v : Value}
set_option maxRecDepth 100000 in
set_option maxHeartbeats 1000000 in
theorem commit_at (h : GX B w p L com app v) (hG : Good L com app) (i : Int) :
    Calls Try.prog 28 #[.pointer (some ⟨p, 0, none⟩), .int .i64 i] w fun e w' => (∃ n : Int, e = .returned (.int .i64 n)) ∧ GEnd B w p L v 0 w' := by
  have HX := Lib.hid h
  have HG := Lib.hid hG
  have c1 : ∀ W, Below w.heap.size w W → W.cell? ⟨p, 1, none⟩ = some (.int .i64 com) := fun W k => blk_cell (blk_below HX.out.blk k (blk_lt HX.out.blk)) 1
  have hbl := Below.refl w.heap.size w
  clear h hG
  go_enter Try.func28, Try.ntmps28
  go_wp2_with fail
  refine wp_region_last2 10 (Below w.heap.size w) (fun i => i == 9) (by kernel_rfl) (by rfl) (by kernel_rfl) (by kernel_rfl) (by kernel_rfl) (by exact hbl.drew) ?_
  simp only [List.take_succ_cons, List.take_zero, List.cons_append, List.nil_append]
  intro hne hx
  replace hbl := hbl.drew
  change wpStg _ _ _ _ _ _ _ _ w.drew
  obtain ⟨V, hV⟩ : ∃ V, V = w.drew := ⟨_, rfl⟩
  rw [← hV] at hbl ⊢
  clear hV
  refine stg_seg 9 (by dsimp only [List.take]) (by dsimp only [List.drop]) (by rfl) ?_
  repeat (go_big_quiet_step (fail))
  refine wpQuiet_nil ?_
  refine stg_loud (by rfl) ?_
  go_wp2_with fail
  refine (last_at (HX.out.below hbl) HG.out).mono ?_
  rintro e w2 ⟨rfl, hb2⟩
  replace hbl := bl_trans hbl hb2
  clear hb2
  go_wp2_with fail
  refine lq_in rfl (hbl) ?_
  refine stg_nil ?_
  clear hne hx
  intro hxx
  clear hxx
  have hm := move_at p 1 i com (lastE L) w2 (.int .i64 com) (c1 _ hbl) rfl (blk_frozen (HX.out.below hbl).blk 1)
  clear c1
  go_wp2_with fail
  refine hm.mono ?_
  rintro e w3 (⟨hr, rfl, rfl⟩ | ⟨hr, rfl, rfl⟩)
  · have HR := Lib.hid hr
    clear hr
    go_wp2_with fail
    show wpList _ _ _ _ _ _
    go_wp2_with fail
    go_ret
    refine ⟨⟨0, rfl⟩, L, i, app, v, (HX.out.below hbl).places (c := 1) (u := .int .i64 i) rfl, ?_, (Chg.of_below hbl).set (p := ⟨p, 1, none⟩) (.inl List.mem_cons_self) _, .inl rfl, Nat.le_refl _⟩
    have hr := HR.out
    have hg := HG.out
    unfold moveR at hr
    simp only [Bool.and_eq_true, decide_eq_true_eq] at hr
    have h1 := hg.c0
    have h2 := hg.c1
    have h3 := hg.c2
    have h4 : lastE L = (atE L 0).ix + L.length - 1 := rfl
    exact ⟨hg.ne, hg.sz, hg.ix, hg.b0, hg.top, by omega, by omega, by omega, hg.tm⟩
  · clear hr
    go_wp2_with fail
    show wpList _ _ _ _ _ _
    go_wp2_with fail
    go_ret
    exact ⟨⟨7, rfl⟩, .same HX.out HG.out hbl⟩
set_option maxRecDepth 100000 in
set_option maxHeartbeats 1000000 in
theorem apply_at (h : GX B w p L com app v) (hG : Good L com app) (i : Int) :
    Calls Try.prog 30 #[.pointer (some ⟨p, 0, none⟩), .int .i64 i] w fun e w' => (∃ n : Int, e = .returned (.int .i64 n)) ∧ GEnd B w p L v 0 w' := by
  have HX := Lib.hid h
  have HG := Lib.hid hG
  have c1 : ∀ W, Below w.heap.size w W → W.cell? ⟨p, 1, none⟩ = some (.int .i64 com) := fun W k => blk_cell (blk_below HX.out.blk k (blk_lt HX.out.blk)) 1
  have c2 : ∀ W, Below w.heap.size w W → W.cell? ⟨p, 2, none⟩ = some (.int .i64 app) := fun W k => blk_cell (blk_below HX.out.blk k (blk_lt HX.out.blk)) 2
  have hbl := Below.refl w.heap.size w
  clear h hG
  go_enter Try.func30, Try.ntmps30
  go_wp2_with fail
  refine wp_region_last2 12 (Below w.heap.size w) (fun _ => false) (by kernel_rfl) (by rfl) (by kernel_rfl) (by kernel_rfl) (by kernel_rfl) (by exact hbl.drew) ?_
  simp only [List.take_succ_cons, List.take_zero, List.cons_append, List.nil_append]
  intro hne hx
  replace hbl := hbl.drew
  change wpStg _ _ _ _ _ _ _ _ w.drew
  obtain ⟨V, hV⟩ : ∃ V, V = w.drew := ⟨_, rfl⟩
  rw [← hV] at hbl ⊢
  clear hV
  refine stg_seg 12 (by dsimp only [List.take]) (by dsimp only [List.drop]) (by rfl) ?_
  repeat (go_big_quiet_step (fail))
  refine wpQuiet_nil ?_
  refine stg_nil ?_
  clear hne hx
  intro hxx
  clear hxx
  have hm := move_at p 2 i app com V (.int .i64 app) (c2 _ hbl) rfl (blk_frozen (HX.out.below hbl).blk 2)
  clear c1 c2
  go_wp2_with fail
  refine hm.mono ?_
  rintro e w3 (⟨hr, rfl, rfl⟩ | ⟨hr, rfl, rfl⟩)
  · have HR := Lib.hid hr
    clear hr
    go_wp2_with fail
    show wpList _ _ _ _ _ _
    go_wp2_with fail
    go_ret
    refine ⟨⟨0, rfl⟩, L, com, i, v, (HX.out.below hbl).places (c := 2) (u := .int .i64 i) rfl, ?_, (Chg.of_below hbl).set (p := ⟨p, 2, none⟩) (.inl List.mem_cons_self) _, .inl rfl, Nat.le_refl _⟩
    have hr := HR.out
    have hg := HG.out
    unfold moveR at hr
    simp only [Bool.and_eq_true, decide_eq_true_eq] at hr
    have h1 := hg.c0
    have h2 := hg.c1
    have h3 := hg.c2
    have h4 : lastE L = (atE L 0).ix + L.length - 1 := rfl
    exact ⟨hg.ne, hg.sz, hg.ix, hg.b0, hg.top, by omega, by omega, by omega, hg.tm⟩
  · clear hr
    go_wp2_with fail
    show wpList _ _ _ _ _ _
    go_wp2_with fail
    go_ret
    exact ⟨⟨7, rfl⟩, .same HX.out HG.out hbl⟩
theorem good_one {i t : Int} (hi : inIdx i) (ht : inIdx t) : Good [⟨i, t, 0, ⟨none, [], 0⟩⟩] i i := by
  unfold inIdx at hi ht
  refine ⟨Nat.le_refl _, by simp, fun j hj => ?_, hi.1, by unfold maxI; show i + _ ≤ _; simp; omega, Int.le_refl _, Int.le_refl _, by show i ≤ i + _; simp, fun j hj => ?_⟩
  · have : j = 0 := by simpa using hj
    subst this
    show i = i + _
    simp
  · have : j = 0 := by simpa using hj
    subst this
    exact ht
set_option maxRecDepth 100000 in
set_option maxHeartbeats 1000000 in
theorem reset_at (h : GX B w p L com app v) (hG : Good L com app) (i t : Int) :
    Calls Try.prog 33 #[.pointer (some ⟨p, 0, none⟩), .int .i64 i, .int .i64 t] w fun e w' => (∃ n : Int, e = .returned (.int .i64 n)) ∧ GEnd B w p L v 0 w' := by
  have HX := Lib.hid h
  have HG := Lib.hid hG
  clear h hG
  by_cases hok : inIdx i ∧ inIdx t
  case neg =>
    have hn := new_bad i t w hok
    clear hok
    go_enter Try.func33, Try.ntmps33
    go_wp2_with fail
    refine hn.mono ?_
    rintro e w1 ⟨rfl, rfl⟩
    go_wp2_with fail
    go_ret
    exact ⟨⟨1, rfl⟩, .same HX.out HG.out (Below.refl _ _)⟩
  have hn := new_ok i t w hok.1 hok.2
  have HOK := Lib.hid hok
  have hbn : Below w.heap.size w (newWorld w i t) := bl_alloc (bl_alloc (Below.refl _ _) _) _
  have hk0 : (newWorld w i t).heap[w.heap.size]? = some (.cells #[.int .i64 i, .int .i64 t, .int .i64 0, .slice none 0 0] 45) := blk_alloc (blk_new w _ rfl) _
  have hk1 : (newWorld w i t).heap[w.heap.size + 1]? = some (.cells #[.slice (some ⟨w.heap.size, 0, none⟩) 1 1, .int .i64 i, .int .i64 i] 65) := blk_new _ _ (by simp)
  have hn' : Calls Try.prog 20 #[.int .i64 i, .int .i64 t] w fun e w' => e = .returned (.tuple #[.pointer (some ⟨w.heap.size + 1, 0, none⟩), .int .i64 0]) ∧ newWorld w i t = w' := hn
  obtain ⟨W, hW⟩ : ∃ W, W = newWorld w i t := ⟨_, rfl⟩
  rw [← hW] at hn' hbn hk0 hk1
  obtain ⟨n0, hn0⟩ : ∃ n0, n0 = w.heap.size := ⟨_, rfl⟩
  obtain ⟨n1, hn1⟩ : ∃ n1, n1 = w.heap.size + 1 := ⟨_, rfl⟩
  rw [← hn0] at hk0
  rw [← hn1] at hn' hk1
  rw [← hn0] at hk1
  have HN := Lib.hid hn'
  have HB := Lib.hid hbn
  have HK0 := Lib.hid hk0
  have HN0 := Lib.hid hn0
  have HXW := Lib.hid (HX.out.below hbn)
  have f0 := blk_cell hk1 0
  have f1 := blk_cell hk1 1
  have f2 := blk_cell hk1 2
  have p0 := blk_cell HXW.out.blk 0
  have p1 := blk_cell HXW.out.blk 1
  have p2 := blk_cell HXW.out.blk 2
  have pf := blk_frozen HXW.out.blk
  simp only [List.getElem?_toArray, List.getElem?_cons_zero, List.getElem?_cons_succ] at f0 f1 f2 p0 p1 p2
  obtain ⟨va, vc, rfl⟩ := own_slice HX.out.row
  clear hn hn' hok hbn hk0 hk1 hW hn0 hn1
  go_enter Try.func33, Try.ntmps33
  go_wp2_with fail
  refine HN.out.mono ?_
  rintro e w1 ⟨rfl, rfl⟩
  by_cases c : i < com
  · have d : decide (i < com) = true := decide_eq_true c
    clear c
    go_wp2_with fail
    go_ret
    exact ⟨⟨7, rfl⟩, .same HX.out HG.out HB.out⟩
  · have d : decide (i < com) = false := decide_eq_false c
    clear c
    go_wp2_with fail
    go_ret
    refine ⟨⟨0, rfl⟩, [⟨i, t, 0, ⟨none, [], 0⟩⟩], i, i, .slice (some ⟨n0, 0, none⟩) 1 1, ⟨blk_set (blk_set (blk_set HXW.out.blk 0 _) 1 _) 2 _, HXW.out.hB, ?_, fun j hj => ?_⟩, good_one HOK.out.1 HOK.out.2, ?_, .inr ⟨n0, rfl, by rw [HN0.out]; exact Nat.le_refl _⟩, by have := HG.out.ne; simp; omega⟩
    · have hlt := blk_lt HX.out.blk
      have hB := HX.out.hB
      have hnp : n0 ≠ p := by rw [HN0.out]; omega
      refine ⟨rfl, .inr ⟨n0, 1, #[.int .i64 i, .int .i64 t, .int .i64 0, .slice none 0 0], rfl, by rw [HN0.out]; omega, ?_, Nat.le_refl _, by unfold maxLen; omega, rfl, rfl⟩⟩
      exact blk_far (blk_far (blk_far HK0.out hnp _) hnp _) hnp _
    · have : j = 0 := by simpa using hj
      subst this
      exact own8_nil _
    · exact (((Chg.of_below (L := gM p (.slice va L.length vc)) HB.out).set (p := ⟨p, 0, none⟩) (.inl List.mem_cons_self) _).set (p := ⟨p, 1, none⟩) (.inl List.mem_cons_self) _).set (p := ⟨p, 2, none⟩) (.inl List.mem_cons_self) _
end
end Go.Proofs.Yteflgempjecnpaa
