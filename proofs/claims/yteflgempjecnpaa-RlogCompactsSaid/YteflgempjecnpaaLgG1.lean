/- rlog: base, First, Last, has, from, Term, tail. Conditions: none. -/
import Derived.Test.YteflgempjecnpaaLgMem
import Derived.Test.YteflgempjecnpaaStaged
import Derived.Test.YteflgempjecnpaaStagedL
namespace Go.Proofs.Yteflgempjecnpaa
open Go.RowKit

abbrev bE (L : List Ent) : Int := (atE L 0).ix
def lastE (L : List Ent) : Int := bE L + L.length - 1
section
variable {B : Nat} {w : World} {p : Nat} {L : List Ent} {com app : Int} {v : Value}
theorem GX.rowE (h : GX B w p L com app v) (hn : 1 ≤ L.length) : ∃ e c, v = .slice (some ⟨e, 0, none⟩) L.length c := by
  obtain ⟨g, c, e, _⟩ := row_some h.row (by omega)
  exact ⟨g, c, e⟩
theorem GX.ent {e c : Nat} (h : GX B w p L com app (.slice (some ⟨e, 0, none⟩) L.length c)) {i : Nat} (hi : i < L.length) {j : Nat} {u : Value} (hu : (entC (atE L i))[j]? = some u) : w.cell? ⟨e, i * 4 + j, none⟩ = some u :=
  row_cell h.row (entsC_get hi hu)
set_option maxRecDepth 100000 in
theorem base_at (h : GX B w p L com app v) (hG : Good L com app) :
    Calls Try.prog 41 #[.pointer (some ⟨p, 0, none⟩)] w fun e w' => e = .returned (.int .i64 (bE L)) ∧ w = w' := by
  obtain ⟨e, c, rfl⟩ := h.rowE hG.ne
  have HX := Lib.hid h
  have HG := Lib.hid hG
  obtain ⟨N, hN⟩ : ∃ N, N = L.length := ⟨_, rfl⟩
  obtain ⟨b, hb⟩ : ∃ b, b = bE L := ⟨_, rfl⟩
  have HN := Lib.hid hN
  have HBE := Lib.hid hb
  have n1 : (1 : Int) ≤ N := by have := hG.ne; omega
  have n2 : (N : Int) ≤ 200000 := by have := hG.sz; omega
  have b1 : 0 ≤ b := by rw [hb]; exact hG.b0
  have b2 : b + (N - 1) ≤ 1099511627776 := by rw [hb, hN]; exact hG.top
  have c0 : ∀ W, Below w.heap.size w W → W.cell? ⟨p, 0, none⟩ = some (.slice (some ⟨e, 0, none⟩) N c) := fun W k => by rw [HN.out]; exact blk_cell (blk_below HX.out.blk k (blk_lt HX.out.blk)) 0
  have c1 : ∀ W, Below w.heap.size w W → W.cell? ⟨p, 1, none⟩ = some (.int .i64 com) := fun W k => blk_cell (blk_below HX.out.blk k (blk_lt HX.out.blk)) 1
  have c2 : ∀ W, Below w.heap.size w W → W.cell? ⟨p, 2, none⟩ = some (.int .i64 app) := fun W k => blk_cell (blk_below HX.out.blk k (blk_lt HX.out.blk)) 2
  have e0 : ∀ W, Below w.heap.size w W → W.cell? ⟨e, 0, none⟩ = some (.int .i64 b) := fun W k => by rw [HBE.out]; have h2 := HX.out.ent (i := 0) (j := 0) (by have := HG.out.ne; omega) rfl; exact cell_keep k h2
  have hbl := Below.refl w.heap.size w
  clear h hG hN hb
  go_enter Try.func41, Try.ntmps41
  go_wp2_with fail
  go_ret
  exact ⟨by rw [HBE.out]; rfl, rfl⟩
set_option maxRecDepth 100000 in
theorem first_at (h : GX B w p L com app v) (hG : Good L com app) :
    Calls Try.prog 14 #[.pointer (some ⟨p, 0, none⟩)] w fun e w' => e = .returned (.int .i64 (bE L + 1)) ∧ w = w' := by
  have hba := base_at h hG
  obtain ⟨e, c, rfl⟩ := h.rowE hG.ne
  have HX := Lib.hid h
  have HG := Lib.hid hG
  obtain ⟨N, hN⟩ : ∃ N, N = L.length := ⟨_, rfl⟩
  obtain ⟨b, hb⟩ : ∃ b, b = bE L := ⟨_, rfl⟩
  have HN := Lib.hid hN
  have HBE := Lib.hid hb
  have n1 : (1 : Int) ≤ N := by have := hG.ne; omega
  have n2 : (N : Int) ≤ 200000 := by have := hG.sz; omega
  have b1 : 0 ≤ b := by rw [hb]; exact hG.b0
  have b2 : b + (N - 1) ≤ 1099511627776 := by rw [hb, hN]; exact hG.top
  have c0 : ∀ W, Below w.heap.size w W → W.cell? ⟨p, 0, none⟩ = some (.slice (some ⟨e, 0, none⟩) N c) := fun W k => by rw [HN.out]; exact blk_cell (blk_below HX.out.blk k (blk_lt HX.out.blk)) 0
  have c1 : ∀ W, Below w.heap.size w W → W.cell? ⟨p, 1, none⟩ = some (.int .i64 com) := fun W k => blk_cell (blk_below HX.out.blk k (blk_lt HX.out.blk)) 1
  have c2 : ∀ W, Below w.heap.size w W → W.cell? ⟨p, 2, none⟩ = some (.int .i64 app) := fun W k => blk_cell (blk_below HX.out.blk k (blk_lt HX.out.blk)) 2
  have e0 : ∀ W, Below w.heap.size w W → W.cell? ⟨e, 0, none⟩ = some (.int .i64 b) := fun W k => by rw [HBE.out]; have h2 := HX.out.ent (i := 0) (j := 0) (by have := HG.out.ne; omega) rfl; exact cell_keep k h2
  have hbl := Below.refl w.heap.size w
  clear h hG hN hb
  rw [← HBE.out] at hba ⊢
  go_enter Try.func14, Try.ntmps14
  go_wp2_with fail
  refine hba.mono ?_; rintro e w1 ⟨rfl, rfl⟩
  go_wp2_with fail
  go_ret
  exact ⟨rfl, rfl⟩
set_option maxRecDepth 100000 in
theorem com_at (h : GX B w p L com app v) (hG : Good L com app) :
    Calls Try.prog 24 #[.pointer (some ⟨p, 0, none⟩)] w fun e w' => e = .returned (.int .i64 com) ∧ w = w' := by
  obtain ⟨e, c, rfl⟩ := h.rowE hG.ne
  have HX := Lib.hid h
  have HG := Lib.hid hG
  obtain ⟨N, hN⟩ : ∃ N, N = L.length := ⟨_, rfl⟩
  obtain ⟨b, hb⟩ : ∃ b, b = bE L := ⟨_, rfl⟩
  have HN := Lib.hid hN
  have HBE := Lib.hid hb
  have n1 : (1 : Int) ≤ N := by have := hG.ne; omega
  have n2 : (N : Int) ≤ 200000 := by have := hG.sz; omega
  have b1 : 0 ≤ b := by rw [hb]; exact hG.b0
  have b2 : b + (N - 1) ≤ 1099511627776 := by rw [hb, hN]; exact hG.top
  have c0 : ∀ W, Below w.heap.size w W → W.cell? ⟨p, 0, none⟩ = some (.slice (some ⟨e, 0, none⟩) N c) := fun W k => by rw [HN.out]; exact blk_cell (blk_below HX.out.blk k (blk_lt HX.out.blk)) 0
  have c1 : ∀ W, Below w.heap.size w W → W.cell? ⟨p, 1, none⟩ = some (.int .i64 com) := fun W k => blk_cell (blk_below HX.out.blk k (blk_lt HX.out.blk)) 1
  have c2 : ∀ W, Below w.heap.size w W → W.cell? ⟨p, 2, none⟩ = some (.int .i64 app) := fun W k => blk_cell (blk_below HX.out.blk k (blk_lt HX.out.blk)) 2
  have e0 : ∀ W, Below w.heap.size w W → W.cell? ⟨e, 0, none⟩ = some (.int .i64 b) := fun W k => by rw [HBE.out]; have h2 := HX.out.ent (i := 0) (j := 0) (by have := HG.out.ne; omega) rfl; exact cell_keep k h2
  have hbl := Below.refl w.heap.size w
  clear h hG hN hb
  go_enter Try.func24, Try.ntmps24
  go_wp2_with fail
  go_ret
  exact ⟨rfl, rfl⟩
set_option maxRecDepth 100000 in
theorem app_at (h : GX B w p L com app v) (hG : Good L com app) :
    Calls Try.prog 16 #[.pointer (some ⟨p, 0, none⟩)] w fun e w' => e = .returned (.int .i64 app) ∧ w = w' := by
  obtain ⟨e, c, rfl⟩ := h.rowE hG.ne
  have HX := Lib.hid h
  have HG := Lib.hid hG
  obtain ⟨N, hN⟩ : ∃ N, N = L.length := ⟨_, rfl⟩
  obtain ⟨b, hb⟩ : ∃ b, b = bE L := ⟨_, rfl⟩
  have HN := Lib.hid hN
  have HBE := Lib.hid hb
  have n1 : (1 : Int) ≤ N := by have := hG.ne; omega
  have n2 : (N : Int) ≤ 200000 := by have := hG.sz; omega
  have b1 : 0 ≤ b := by rw [hb]; exact hG.b0
  have b2 : b + (N - 1) ≤ 1099511627776 := by rw [hb, hN]; exact hG.top
  have c0 : ∀ W, Below w.heap.size w W → W.cell? ⟨p, 0, none⟩ = some (.slice (some ⟨e, 0, none⟩) N c) := fun W k => by rw [HN.out]; exact blk_cell (blk_below HX.out.blk k (blk_lt HX.out.blk)) 0
  have c1 : ∀ W, Below w.heap.size w W → W.cell? ⟨p, 1, none⟩ = some (.int .i64 com) := fun W k => blk_cell (blk_below HX.out.blk k (blk_lt HX.out.blk)) 1
  have c2 : ∀ W, Below w.heap.size w W → W.cell? ⟨p, 2, none⟩ = some (.int .i64 app) := fun W k => blk_cell (blk_below HX.out.blk k (blk_lt HX.out.blk)) 2
  have e0 : ∀ W, Below w.heap.size w W → W.cell? ⟨e, 0, none⟩ = some (.int .i64 b) := fun W k => by rw [HBE.out]; have h2 := HX.out.ent (i := 0) (j := 0) (by have := HG.out.ne; omega) rfl; exact cell_keep k h2
  have hbl := Below.refl w.heap.size w
  clear h hG hN hb
  go_enter Try.func16, Try.ntmps16
  go_wp2_with fail
  go_ret
  exact ⟨rfl, rfl⟩
set_option maxRecDepth 100000 in
theorem last_at (h : GX B w p L com app v) (hG : Good L com app) :
    Calls Try.prog 15 #[.pointer (some ⟨p, 0, none⟩)] w fun e w' => e = .returned (.int .i64 (lastE L)) ∧ Below w.heap.size w w' := by
  obtain ⟨e, c, rfl⟩ := h.rowE hG.ne
  have HX := Lib.hid h
  have HG := Lib.hid hG
  obtain ⟨N, hN⟩ : ∃ N, N = L.length := ⟨_, rfl⟩
  obtain ⟨b, hb⟩ : ∃ b, b = bE L := ⟨_, rfl⟩
  have HN := Lib.hid hN
  have HBE := Lib.hid hb
  have n1 : (1 : Int) ≤ N := by have := hG.ne; omega
  have n2 : (N : Int) ≤ 200000 := by have := hG.sz; omega
  have b1 : 0 ≤ b := by rw [hb]; exact hG.b0
  have b2 : b + (N - 1) ≤ 1099511627776 := by rw [hb, hN]; exact hG.top
  have c0 : ∀ W, Below w.heap.size w W → W.cell? ⟨p, 0, none⟩ = some (.slice (some ⟨e, 0, none⟩) N c) := fun W k => by rw [HN.out]; exact blk_cell (blk_below HX.out.blk k (blk_lt HX.out.blk)) 0
  have c1 : ∀ W, Below w.heap.size w W → W.cell? ⟨p, 1, none⟩ = some (.int .i64 com) := fun W k => blk_cell (blk_below HX.out.blk k (blk_lt HX.out.blk)) 1
  have c2 : ∀ W, Below w.heap.size w W → W.cell? ⟨p, 2, none⟩ = some (.int .i64 app) := fun W k => blk_cell (blk_below HX.out.blk k (blk_lt HX.out.blk)) 2
  have e0 : ∀ W, Below w.heap.size w W → W.cell? ⟨e, 0, none⟩ = some (.int .i64 b) := fun W k => by rw [HBE.out]; have h2 := HX.out.ent (i := 0) (j := 0) (by have := HG.out.ne; omega) rfl; exact cell_keep k h2
  have hbl := Below.refl w.heap.size w
  clear h hG hN hb
  have hba := fun (W : World) (k : Below w.heap.size w W) => (show Calls Try.prog 41 #[.pointer (some ⟨p, 0, none⟩)] W fun e w' => e = .returned (.int .i64 b) ∧ W = w' from by rw [HBE.out]; exact base_at (HX.out.below k) HG.out)
  have hv1 : IntKind.i64.wrap (b + N) = b + N := IntWalk.i64_in _ (by omega)
  have hv2 : IntKind.i64.wrap (b + N - 1) = b + N - 1 := IntWalk.i64_in _ (by omega)
  have HLA := Lib.hid (show b + N - 1 = lastE L by unfold lastE; rw [← HBE.out, ← HN.out])
  go_enter Try.func15, Try.ntmps15
  go_wp2_with fail
  refine wp_region_in (Below w.heap.size w) (fun i => i == 1) (by kernel_rfl) (by kernel_rfl) (by exact hbl.drew) ?_
  intro hne hx
  replace hbl := hbl.drew
  change wpStg _ _ _ _ _ _ _ _ w.drew
  obtain ⟨V, hV⟩ : ∃ V, V = w.drew := ⟨_, rfl⟩
  rw [← hV] at hbl ⊢
  clear hV
  refine stg_seg 1 (by dsimp only [List.take]) (by dsimp only [List.drop]) (by rfl) ?_
  repeat (go_big_quiet_step (fail))
  refine wpQuiet_nil ?_
  refine stg_loud (by rfl) ?_
  go_wp2_with fail
  refine (hba _ hbl).mono ?_; rintro e w1 ⟨rfl, rfl⟩
  go_wp2_with fail
  refine lq_in rfl (hbl) ?_
  refine stg_seg 8 (by dsimp only [List.take]) (by dsimp only [List.drop]) (by rfl) ?_
  repeat (go_big_quiet_step (fail))
  refine wpQuiet_nil ?_
  refine stg_nil ?_
  clear hne hx
  go_wp2_with fail
  go_ret
  exact ⟨by rw [← HLA.out]; rfl, hbl⟩
set_option maxRecDepth 100000 in
theorem has_at (h : GX B w p L com app v) (hG : Good L com app) (i : Int) :
    Calls Try.prog 43 #[.pointer (some ⟨p, 0, none⟩), .int .i64 i] w fun e w' => e = .returned (.bool (decide (bE L ≤ i ∧ i ≤ lastE L))) ∧ Below w.heap.size w w' := by
  obtain ⟨e, c, rfl⟩ := h.rowE hG.ne
  have HX := Lib.hid h
  have HG := Lib.hid hG
  obtain ⟨N, hN⟩ : ∃ N, N = L.length := ⟨_, rfl⟩
  obtain ⟨b, hb⟩ : ∃ b, b = bE L := ⟨_, rfl⟩
  have HN := Lib.hid hN
  have HBE := Lib.hid hb
  have n1 : (1 : Int) ≤ N := by have := hG.ne; omega
  have n2 : (N : Int) ≤ 200000 := by have := hG.sz; omega
  have b1 : 0 ≤ b := by rw [hb]; exact hG.b0
  have b2 : b + (N - 1) ≤ 1099511627776 := by rw [hb, hN]; exact hG.top
  have c0 : ∀ W, Below w.heap.size w W → W.cell? ⟨p, 0, none⟩ = some (.slice (some ⟨e, 0, none⟩) N c) := fun W k => by rw [HN.out]; exact blk_cell (blk_below HX.out.blk k (blk_lt HX.out.blk)) 0
  have c1 : ∀ W, Below w.heap.size w W → W.cell? ⟨p, 1, none⟩ = some (.int .i64 com) := fun W k => blk_cell (blk_below HX.out.blk k (blk_lt HX.out.blk)) 1
  have c2 : ∀ W, Below w.heap.size w W → W.cell? ⟨p, 2, none⟩ = some (.int .i64 app) := fun W k => blk_cell (blk_below HX.out.blk k (blk_lt HX.out.blk)) 2
  have e0 : ∀ W, Below w.heap.size w W → W.cell? ⟨e, 0, none⟩ = some (.int .i64 b) := fun W k => by rw [HBE.out]; have h2 := HX.out.ent (i := 0) (j := 0) (by have := HG.out.ne; omega) rfl; exact cell_keep k h2
  have hbl := Below.refl w.heap.size w
  clear h hG hN hb
  have hba := fun (W : World) (k : Below w.heap.size w W) => (show Calls Try.prog 41 #[.pointer (some ⟨p, 0, none⟩)] W fun e w' => e = .returned (.int .i64 b) ∧ W = w' from by rw [HBE.out]; exact base_at (HX.out.below k) HG.out)
  have hv1 : IntKind.i64.wrap (b + N) = b + N := IntWalk.i64_in _ (by omega)
  have hv2 : IntKind.i64.wrap (b + N - 1) = b + N - 1 := IntWalk.i64_in _ (by omega)
  have hla := fun (W : World) (k : Below w.heap.size w W) => (show Calls Try.prog 15 #[.pointer (some ⟨p, 0, none⟩)] W fun e w' => e = .returned (.int .i64 (b + N - 1)) ∧ Below W.heap.size W w' from by
    have h1 := last_at (HX.out.below k) HG.out
    unfold lastE at h1
    rw [← HBE.out, ← HN.out] at h1
    exact h1)
  have HLA := Lib.hid (show lastE L = b + N - 1 by unfold lastE; rw [← HBE.out, ← HN.out])
  by_cases c1 : b ≤ i
  · have d1 : decide (b ≤ i) = true := decide_eq_true c1
    by_cases c2 : i ≤ b + N - 1
    · have d2 : decide (i ≤ b + N - 1) = true := decide_eq_true c2
      have HR := Lib.hid (show decide (bE L ≤ i ∧ i ≤ lastE L) = true by rw [HLA.out, ← HBE.out]; simp [c1, c2])
      clear c1 c2
      go_enter Try.func43, Try.ntmps43
      go_wp2_with fail
      refine (hba _ hbl).mono ?_; rintro e w1 ⟨rfl, rfl⟩
      go_wp2_with fail
      refine (hla _ hbl).mono ?_; rintro e w1 ⟨rfl, hb1⟩
      go_wp2_with fail
      go_ret
      exact ⟨by rw [HR.out]; rfl, hb1⟩
    · have d2 : decide (i ≤ b + N - 1) = false := decide_eq_false c2
      have HR := Lib.hid (show decide (bE L ≤ i ∧ i ≤ lastE L) = false by rw [HLA.out, ← HBE.out]; simp [c1, c2])
      clear c1 c2
      go_enter Try.func43, Try.ntmps43
      go_wp2_with fail
      refine (hba _ hbl).mono ?_; rintro e w1 ⟨rfl, rfl⟩
      go_wp2_with fail
      refine (hla _ hbl).mono ?_; rintro e w1 ⟨rfl, hb1⟩
      go_wp2_with fail
      go_ret
      exact ⟨by rw [HR.out]; rfl, hb1⟩
  · have d1 : decide (b ≤ i) = false := decide_eq_false c1
    have HR := Lib.hid (show decide (bE L ≤ i ∧ i ≤ lastE L) = false by rw [← HBE.out]; simp [c1])
    clear c1
    go_enter Try.func43, Try.ntmps43
    go_wp2_with fail
    refine (hba _ hbl).mono ?_; rintro e w1 ⟨rfl, rfl⟩
    go_wp2_with fail
    go_ret
    exact ⟨by rw [HR.out]; rfl, hbl⟩
set_option maxRecDepth 100000 in
theorem from_at {e c : Nat} (h : GX B w p L com app (.slice (some ⟨e, 0, none⟩) L.length c)) (hG : Good L com app) {i : Int} {k : Nat} (hk : k < L.length) (hi : i = bE L + k) (hc : L.length ≤ c) :
    Calls Try.prog 44 #[.pointer (some ⟨p, 0, none⟩), .int .i64 i] w fun e' w' => e' = .returned (.slice (some ⟨e, k * 4, none⟩) (L.length - k) (c - k)) ∧ Below w.heap.size w w' := by
  have HX := Lib.hid h
  have HG := Lib.hid hG
  obtain ⟨N, hN⟩ : ∃ N, N = L.length := ⟨_, rfl⟩
  obtain ⟨b, hb⟩ : ∃ b, b = bE L := ⟨_, rfl⟩
  have HN := Lib.hid hN
  have HBE := Lib.hid hb
  have n1 : (1 : Int) ≤ N := by have := hG.ne; omega
  have n2 : (N : Int) ≤ 200000 := by have := hG.sz; omega
  have b1 : 0 ≤ b := by rw [hb]; exact hG.b0
  have b2 : b + (N - 1) ≤ 1099511627776 := by rw [hb, hN]; exact hG.top
  rw [← hb] at hi
  rw [← hN] at hk hc
  have c0 : ∀ W, Below w.heap.size w W → W.cell? ⟨p, 0, none⟩ = some (.slice (some ⟨e, 0, none⟩) N c) := fun W k => by rw [HN.out]; exact blk_cell (blk_below HX.out.blk k (blk_lt HX.out.blk)) 0
  have hbl := Below.refl w.heap.size w
  have hba := fun (W : World) (k : Below w.heap.size w W) => (show Calls Try.prog 41 #[.pointer (some ⟨p, 0, none⟩)] W fun e w' => e = .returned (.int .i64 b) ∧ W = w' from by rw [HBE.out]; exact base_at (HX.out.below k) HG.out)
  have hv1 : IntKind.i64.wrap (b + N) = b + N := IntWalk.i64_in _ (by omega)
  have hv2 : IntKind.i64.wrap (b + N - 1) = b + N - 1 := IntWalk.i64_in _ (by omega)
  have hv3 : b + (k : Int) - b = k := by omega
  have hk2 : (0 : Int) ≤ (k : Int) := by omega
  have hk3 : (k : Int) ≤ N := by omega
  have hk4 : (k : Int) < c := by omega
  have hk5 : k < c := by omega
  subst hi
  clear h hG hN hb
  rw [← HN.out]
  go_enter Try.func44, Try.ntmps44
  go_wp2_with fail
  refine wp_region_in (Below w.heap.size w) (fun i => i == 6) (by kernel_rfl) (by kernel_rfl) (by exact hbl.drew) ?_
  intro hne hx
  replace hbl := hbl.drew
  change wpStg _ _ _ _ _ _ _ _ w.drew
  obtain ⟨V, hV⟩ : ∃ V, V = w.drew := ⟨_, rfl⟩
  rw [← hV] at hbl ⊢
  clear hV
  refine stg_seg 6 (by dsimp only [List.take]) (by dsimp only [List.drop]) (by rfl) ?_
  repeat (go_big_quiet_step (fail))
  refine wpQuiet_nil ?_
  refine stg_loud (by rfl) ?_
  go_wp2_with fail
  refine (hba _ hbl).mono ?_; rintro e w1 ⟨rfl, rfl⟩
  go_wp2_with fail
  refine lq_in rfl (hbl) ?_
  refine stg_seg 3 (by dsimp only [List.take]) (by dsimp only [List.drop]) (by rfl) ?_
  repeat (go_big_quiet_step (fail))
  refine wpQuiet_nil ?_
  refine stg_nil ?_
  clear hne hx
  go_wp2_with fail
  go_ret
  exact ⟨rfl, hbl⟩
/-- What Term tells. -/
def termR (L : List Ent) (i : Int) : Int × Bool := match termE L i with | some t => (t, true) | none => (0, false)
set_option maxRecDepth 100000 in
theorem term_at (h : GX B w p L com app v) (hG : Good L com app) (i : Int) :
    Calls Try.prog 13 #[.pointer (some ⟨p, 0, none⟩), .int .i64 i] w fun e w' => e = .returned (.tuple #[.int .i64 (termR L i).1, .bool (termR L i).2]) ∧ Below w.heap.size w w' := by
  have hh := has_at h hG i
  by_cases hi : bE L ≤ i ∧ i ≤ lastE L
  · rw [decide_eq_true hi] at hh
    have HH := Lib.hid hh
    obtain ⟨e, c, rfl⟩ := h.rowE hG.ne
    have hne := hG.ne
    unfold lastE at hi
    obtain ⟨k, hk⟩ : ∃ k : Nat, i = bE L + k := ⟨(i - bE L).toNat, by omega⟩
    have hkl : k < L.length := by omega
    have hcl : L.length ≤ c := by
      rcases h.row.2 with ⟨h1, _⟩ | ⟨g', cap, cur, h1, _, _, h2, _⟩
      · cases h1
      · injection h1 with _ _ h3
        omega
    have hf := fun (W : World) (k' : Below w.heap.size w W) => from_at (h.below k') hG hkl hk hcl
    have HF := Lib.hid hf
    have HX := Lib.hid h
    have HT := Lib.hid (show termR L i = ((atE L k).tm, true) by
      unfold termR
      have hbe : bE L = (atE L 0).ix := rfl
      rw [term_some (by omega), show (i - (atE L 0).ix).toNat = k by omega])
    have e1 : ∀ W, Below w.heap.size w W → W.cell? ⟨e, k * 4 + 1, none⟩ = some (.int .i64 (atE L k).tm) := fun W k' => cell_keep k' (HX.out.ent hkl (j := 1) rfl)
    obtain ⟨N, hN⟩ : ∃ N, N = L.length := ⟨_, rfl⟩
    rw [← hN] at HF hkl hcl
    have n0 : 0 < N - k := by omega
    have n1 : (0 : Int) < ((N - k : Nat) : Int) := by omega
    obtain ⟨M, hM⟩ : ∃ M, M = N - k := ⟨_, rfl⟩
    rw [← hM] at HF n0 n1
    clear hi hh h hf hne hk hkl hcl hN hM
    go_enter Try.func13, Try.ntmps13
    go_wp2_with fail
    refine HH.out.mono ?_; rintro e1 w1 ⟨rfl, hb1⟩
    go_wp2_with fail
    refine (HF.out _ hb1).mono ?_; rintro e2 w2 ⟨rfl, hb2⟩
    replace hb1 := bl_trans hb1 hb2
    clear hb2
    go_wp2_with fail
    go_ret2
    exact ⟨by rw [HT.out]; rfl, hb1⟩
  · rw [decide_eq_false hi] at hh
    have HH := Lib.hid hh
    have HT := Lib.hid (show termR L i = (0, false) by
      unfold termR
      have hbe : bE L = (atE L 0).ix := rfl
      rw [term_none (by unfold lastE at hi; intro h; exact hi ⟨h.1, by omega⟩)])
    clear hi hh h hG
    go_enter Try.func13, Try.ntmps13
    go_wp2_with fail
    refine HH.out.mono ?_; rintro e1 w1 ⟨rfl, hb1⟩
    go_wp2_with fail
    go_ret2
    exact ⟨by rw [HT.out]; rfl, hb1⟩
end
end Go.Proofs.Yteflgempjecnpaa
