/- The reference's log: Last, Term, LastTerm, Commit, Apply, Reset. Conditions: none. -/
import Derived.Test.YteflgempjecnpaaLgR1
namespace Go.Proofs.Yteflgempjecnpaa
open Go.RowKit
def hd (b bt : Int) : Ent := ⟨b, bt, 0, ⟨none, [], 0⟩⟩
structure RX (B : Nat) (w : World) (p : Nat) (b bt : Int) (T : List Ent) (com app : Int) (u : Value) : Prop where
  blk : w.heap[p]? = some (.cells #[.int .i64 b, .int .i64 bt, u, .int .i64 com, .int .i64 app] 58 (0, 0))
  hB : B ≤ p
  row : w.ownsRow B 45 4 u T.length (entsC T)
def REnd (B : Nat) (w : World) (p : Nat) (T : List Ent) (u : Value) (n : Nat) (w' : World) : Prop :=
  ∃ b bt T' com' app' u', RX B w' p b bt T' com' app' u' ∧ Good (hd b bt :: T') com' app' ∧ Chg (gM p u) w w' ∧ (u'.ownBlock = none ∨ u'.ownBlock = u.ownBlock ∨ ∃ g, u'.ownBlock = some g ∧ w.heap.size ≤ g) ∧ T'.length ≤ T.length + n
section
variable {B : Nat} {w w' : World} {p : Nat} {b bt : Int} {T : List Ent} {com app : Int} {u : Value}
theorem RX.below (h : RX B w p b bt T com app u) (k : Below w.heap.size w w') : RX B w' p b bt T com app u := ⟨blk_below h.blk k (blk_lt h.blk), h.hB, own_keep h.row k⟩
theorem RX.keep (h : RX B w p b bt T com app u) {M : List Nat} (k : Chg M w w') (hp : ¬ p ∈ M) (hv : ∀ g, u.ownBlock = some g → ¬ g ∈ M) : RX B w' p b bt T com app u :=
  ⟨k.blk h.blk hp, h.hB, ownsRow_blk h.row fun g hg => k.block g (h.row.lt g hg).2 (hv g hg)⟩
theorem REnd.same {n : Nat} (h : RX B w p b bt T com app u) (hG : Good (hd b bt :: T) com app) (k : Below w.heap.size w w') : REnd B w p T u n w' :=
  ⟨b, bt, T, com, app, u, h.below k, hG, .of_below k, .inr (.inl rfl), by omega⟩
theorem RX.lo (h : RX B w p b bt T com app u) : ∀ x, x ∈ gM p u → B ≤ x := by
  intro x hx
  rcases List.mem_cons.1 hx with rfl | hx
  · exact h.hB
  · exact (h.row.lt x (by simpa using hx)).1
theorem RX.bl (h : RX B w p b bt T com app u) (k : Chg (gM p u) w w') : Below B w w' := k.to_below (by have := h.hB; have := blk_lt h.blk; omega) h.lo
set_option maxRecDepth 100000 in
theorem rlast_at (h : RX B w p b bt T com app u) (hG : Good (hd b bt :: T) com app) :
    Calls Try.prog 23 #[.pointer (some ⟨p, 0, none⟩)] w fun e w' => e = .returned (.int .i64 (b + T.length)) ∧ Below w.heap.size w w' := by
  obtain ⟨ua, uc, rfl⟩ := own_slice h.row
  have HX := Lib.hid h
  have HG := Lib.hid hG
  obtain ⟨N, hN⟩ : ∃ N, N = T.length := ⟨_, rfl⟩
  have HN := Lib.hid hN
  have n2 : (N : Int) ≤ 200000 := by have := hG.sz; simp at this; omega
  have b1 : 0 ≤ b := hG.b0
  have b2 : b + N ≤ 1099511627776 := by have := hG.top; simp at this; unfold maxI at this; rw [hN]; exact this
  have c0 : ∀ W, Below w.heap.size w W → W.cell? ⟨p, 0, none⟩ = some (.int .i64 b) := fun W k => blk_cell (blk_below HX.out.blk k (blk_lt HX.out.blk)) 0
  have c1 : ∀ W, Below w.heap.size w W → W.cell? ⟨p, 1, none⟩ = some (.int .i64 bt) := fun W k => blk_cell (blk_below HX.out.blk k (blk_lt HX.out.blk)) 1
  have c2 : ∀ W, Below w.heap.size w W → W.cell? ⟨p, 2, none⟩ = some (.slice ua N uc) := fun W k => by rw [HN.out]; exact blk_cell (blk_below HX.out.blk k (blk_lt HX.out.blk)) 2
  have c3 : ∀ W, Below w.heap.size w W → W.cell? ⟨p, 3, none⟩ = some (.int .i64 com) := fun W k => blk_cell (blk_below HX.out.blk k (blk_lt HX.out.blk)) 3
  have c4 : ∀ W, Below w.heap.size w W → W.cell? ⟨p, 4, none⟩ = some (.int .i64 app) := fun W k => blk_cell (blk_below HX.out.blk k (blk_lt HX.out.blk)) 4
  have hbl := Below.refl w.heap.size w
  have hv1 : IntKind.i64.wrap (b + N) = b + N := IntWalk.i64_in _ (by omega)
  clear h hG hN
  rw [← HN.out]
  go_enter Try.func23, Try.ntmps23
  go_wp2_with fail
  refine wp_region_in (Below w.heap.size w) (fun _ => false) (by kernel_rfl) (by kernel_rfl) (by exact hbl.drew) ?_
  intro hne hx
  replace hbl := hbl.drew
  change wpStg _ _ _ _ _ _ _ _ w.drew
  obtain ⟨V, hV⟩ : ∃ V, V = w.drew := ⟨_, rfl⟩
  rw [← hV] at hbl ⊢
  clear hV
  refine stg_seg 11 (by dsimp only [List.take]) (by dsimp only [List.drop]) (by rfl) ?_
  repeat (go_big_quiet_step (fail))
  refine wpQuiet_nil ?_
  refine stg_nil ?_
  clear hne hx
  go_wp2_with fail
  go_ret
  exact ⟨rfl, hbl⟩
theorem hd_term (b bt : Int) (T : List Ent) (i : Int) : termR (hd b bt :: T) i = if i = b then (bt, true) else if b < i ∧ i ≤ b + T.length then ((atE T (i - 1 - b).toNat).tm, true) else (0, false) := by
  unfold termR termE
  have e0 : (atE (hd b bt :: T) 0).ix = b := rfl
  rw [e0]
  by_cases h1 : i = b
  · subst h1
    rw [if_pos (by simp; omega), if_pos rfl]
    simp [hd, atE]
  · rw [if_neg h1]
    by_cases h2 : b < i ∧ i ≤ b + T.length
    · rw [if_pos (by simp; omega), if_pos h2]
      obtain ⟨k, hk⟩ : ∃ k : Nat, i - b = k + 1 := ⟨(i - b - 1).toNat, by omega⟩
      rw [show (i - b).toNat = k + 1 by omega, show (i - 1 - b).toNat = k by omega]
      rfl
    · rw [if_neg (by simp; omega), if_neg h2]
set_option maxRecDepth 100000 in
set_option maxHeartbeats 1000000 in
theorem rterm_at (h : RX B w p b bt T com app u) (hG : Good (hd b bt :: T) com app) (i : Int) :
    Calls Try.prog 49 #[.pointer (some ⟨p, 0, none⟩), .int .i64 i] w fun e w' => e = .returned (.tuple #[.int .i64 (termR (hd b bt :: T) i).1, .bool (termR (hd b bt :: T) i).2]) ∧ Below w.heap.size w w' := by
  have hla := fun (W : World) (k : Below w.heap.size w W) => rlast_at (h.below k) hG
  obtain ⟨ua, uc, rfl⟩ := own_slice h.row
  have HX := Lib.hid h
  have HG := Lib.hid hG
  obtain ⟨N, hN⟩ : ∃ N, N = T.length := ⟨_, rfl⟩
  have HN := Lib.hid hN
  have n2 : (N : Int) ≤ 200000 := by have := hG.sz; simp at this; omega
  have b1 : 0 ≤ b := hG.b0
  have b2 : b + N ≤ 1099511627776 := by have := hG.top; simp at this; unfold maxI at this; rw [hN]; exact this
  have c0 : ∀ W, Below w.heap.size w W → W.cell? ⟨p, 0, none⟩ = some (.int .i64 b) := fun W k => blk_cell (blk_below HX.out.blk k (blk_lt HX.out.blk)) 0
  have c1 : ∀ W, Below w.heap.size w W → W.cell? ⟨p, 1, none⟩ = some (.int .i64 bt) := fun W k => blk_cell (blk_below HX.out.blk k (blk_lt HX.out.blk)) 1
  have c2 : ∀ W, Below w.heap.size w W → W.cell? ⟨p, 2, none⟩ = some (.slice ua N uc) := fun W k => by rw [HN.out]; exact blk_cell (blk_below HX.out.blk k (blk_lt HX.out.blk)) 2
  have c3 : ∀ W, Below w.heap.size w W → W.cell? ⟨p, 3, none⟩ = some (.int .i64 com) := fun W k => blk_cell (blk_below HX.out.blk k (blk_lt HX.out.blk)) 3
  have c4 : ∀ W, Below w.heap.size w W → W.cell? ⟨p, 4, none⟩ = some (.int .i64 app) := fun W k => blk_cell (blk_below HX.out.blk k (blk_lt HX.out.blk)) 4
  have hbl := Below.refl w.heap.size w
  have hv1 : IntKind.i64.wrap (b + N) = b + N := IntWalk.i64_in _ (by omega)
  clear h hG hN
  rw [← HN.out] at hla
  have HT := Lib.hid (hd_term b bt T i)
  by_cases c : i = b
  · have d : (i == b) = true := by simp [c]
    have HR := Lib.hid (show termR (hd b bt :: T) i = (bt, true) by rw [HT.out, if_pos c])
    clear c
    go_enter Try.func49, Try.ntmps49
    go_wp2_with fail
    go_ret2
    exact ⟨by rw [HR.out]; rfl, hbl⟩
  have d : (i == b) = false := by simp [c]
  by_cases c5 : i < b
  · have d5 : decide (i < b) = true := decide_eq_true c5
    have HR := Lib.hid (show termR (hd b bt :: T) i = (0, false) by rw [HT.out, if_neg c, if_neg (by omega)])
    clear c c5
    go_enter Try.func49, Try.ntmps49
    go_wp2_with fail
    go_ret2
    exact ⟨by rw [HR.out]; rfl, hbl⟩
  have d5 : decide (i < b) = false := decide_eq_false c5
  by_cases c6 : b + N < i
  · have d6 : decide (b + N < i) = true := decide_eq_true c6
    have HR := Lib.hid (show termR (hd b bt :: T) i = (0, false) by rw [HT.out, if_neg c, if_neg (by rw [← HN.out]; omega)])
    clear c c5 c6
    go_enter Try.func49, Try.ntmps49
    go_wp2_with fail
    refine (hla _ hbl).mono ?_; rintro e w1 ⟨rfl, hb1⟩
    go_wp2_with fail
    go_ret2
    exact ⟨by rw [HR.out]; rfl, hb1⟩
  have d6 : decide (b + N < i) = false := decide_eq_false c6
  obtain ⟨k, hk⟩ : ∃ k : Nat, i = b + k + 1 := ⟨(i - b - 1).toNat, by omega⟩
  have hkN : k < T.length := by rw [← HN.out]; omega
  have HR := Lib.hid (show termR (hd b bt :: T) i = ((atE T k).tm, true) by rw [HT.out, if_neg c, if_pos (by rw [← HN.out]; omega), show (i - 1 - b).toNat = k by omega])
  obtain ⟨ug, uc', he, _⟩ := row_some HX.out.row (by omega)
  injection he with he1 _ he2
  subst he1 he2
  obtain ⟨x, hx⟩ : ∃ x, x = atE T k := ⟨_, rfl⟩
  have e1 : ∀ W, Below w.heap.size w W → W.cell? ⟨ug, k * 4 + 1, none⟩ = some (.int .i64 x.tm) := fun W h => by rw [hx]; exact cell_keep h (row_cell HX.out.row (entsC_get hkN (j := 1) rfl))
  rw [← hx] at HR
  have hv5 : IntKind.i64.wrap (i - 1) = i - 1 := IntWalk.i64_in _ (by omega)
  have hv6 : IntKind.i64.wrap (i - 1 - b) = (k : Int) := by rw [IntWalk.i64_in _ (by omega)]; omega
  have hk2 : (0 : Int) ≤ (k : Int) := by omega
  have hk4 : (k : Int) < N := by have := HN.out; omega
  clear c c5 c6 hx hk hkN
  go_enter Try.func49, Try.ntmps49
  go_wp2_with fail
  refine (hla _ hbl).mono ?_; rintro e w1 ⟨rfl, hb1⟩
  clear hla
  replace hbl := hb1
  clear hb1
  go_wp2_with fail
  refine wp_region_in (Below w.heap.size w) (fun _ => false) (by kernel_rfl) (by kernel_rfl) (by exact hbl.drew) ?_
  intro hne hx
  replace hbl := hbl.drew
  change wpStg _ _ _ _ _ _ _ _ w1.drew
  obtain ⟨V, hV⟩ : ∃ V, V = w1.drew := ⟨_, rfl⟩
  rw [← hV] at hbl ⊢
  clear hV
  refine stg_seg 16 (by dsimp only [List.take]) (by dsimp only [List.drop]) (by rfl) ?_
  repeat (go_big_quiet_step (fail))
  refine wpQuiet_nil ?_
  refine stg_nil ?_
  clear hne hx
  go_wp2_with fail
  go_ret2
  exact ⟨by rw [HR.out]; rfl, hbl⟩
set_option maxRecDepth 100000 in
theorem rlastterm_at (h : RX B w p b bt T com app u) (hG : Good (hd b bt :: T) com app) :
    Calls Try.prog 48 #[.pointer (some ⟨p, 0, none⟩)] w fun e w' => e = .returned (.int .i64 (termR (hd b bt :: T) (b + T.length)).1) ∧ Below w.heap.size w w' := by
  have hla := rlast_at h hG
  have HX := Lib.hid h
  have HG := Lib.hid hG
  clear h hG
  go_enter Try.func48, Try.ntmps48
  go_wp2_with fail
  refine hla.mono ?_; rintro e w1 ⟨rfl, hb1⟩
  clear hla
  have hte := rterm_at (HX.out.below hb1) HG.out (b + T.length)
  go_wp2_with fail
  refine hte.mono ?_; rintro e w2 ⟨rfl, hb2⟩
  clear hte
  go_wp2_with fail
  go_ret
  exact ⟨rfl, bl_trans hb1 hb2⟩
end
end Go.Proofs.Yteflgempjecnpaa
