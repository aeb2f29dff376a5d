/- The reference's node: says. Conditions: none. -/
import Derived.Test.YtiamfdnllpiikaaElRefA
namespace Go.Proofs.Ytiamfdnllpiikaa
open Go.RowKit

def sideIx (y : Bool) : Nat := if y then 10 else 11
/-- The world behind 'n.Yes = append(n.Yes, src)', and the like for No. -/
theorem ref_said {w W2 : World} {b : Nat} {S : Nd} {L : List Nat} {yv nv : Value} (h : RefX w b S L yv nv) (y : Bool) (src : Int) {v' : Value}
    (hg : w.grownBy W2 (if y then yv else nv).ownBlock) (hown : W2.ownsRow 0 3 1 v' ((S.side y).length + 1) (((S.side y) ++ [src]).map (.int .i64)))
    (hv' : v'.ownBlock = (if y then yv else nv).ownBlock ∨ ∃ g, v'.ownBlock = some g ∧ w.heap.size ≤ g) (hl : (S.side y).length < 1000) :
    RefAt (W2.setCell ⟨b, sideIx y, none⟩ v') b (S.more y src) (v'.ownBlock.toList ++ L) ∧ Chg L w (W2.setCell ⟨b, sideIx y, none⟩ v') ∧ ∀ x, x ∈ v'.ownBlock.toList ++ L → x ∈ L ∨ w.heap.size ≤ x := by
  have hside : Own w (if y then yv else nv) (S.side y) L := by cases y; exact h.no; exact h.yes
  have hothr : Own w (if y then nv else yv) (S.side !y) L := by cases y; exact h.yes; exact h.no
  have hap : Apart (if y then nv else yv) (if y then yv else nv) := by cases y; exact h.apart; exact h.apart.symm
  have k2 : Chg L w W2 := (Chg.refl L w).grown hg (fun k hk => .inl (hside.2 k hk))
  have k3 : Chg L w (W2.setCell ⟨b, sideIx y, none⟩ v') := k2.set (.inl h.inb) _
  have hL : ∀ x, x ∈ v'.ownBlock.toList ++ L → x ∈ L ∨ w.heap.size ≤ x := by
    intro x hx
    rcases List.mem_append.1 hx with hx | hx
    · have hx' : v'.ownBlock = some x := by simpa using hx
      rcases hv' with e | ⟨g, e, hg'⟩
      · exact .inl (hside.2 x (by rw [← e]; exact hx'))
      · rw [hx'] at e
        cases e
        exact .inr hg'
    · exact .inl hx
  have hkeep0 : ∀ {g : Nat} {o : Obj}, w.heap[g]? = some o → (if y then yv else nv).ownBlock ≠ some g → W2.heap[g]? = some o := by
    intro g o hgo hne
    rw [hg.block g (blk_lt hgo) (Ne.symm hne)]
    exact hgo
  have hblk : W2.heap[b]? = some (.cells (refC S yv nv) 70 (0, 0)) := hkeep0 h.blk (fun e => ref_own_ne h.blk hside e rfl)
  have hm2 : ∀ g, v'.ownBlock = some g → g ≠ b := by
    intro g e
    rcases hv' with e' | ⟨g', e', hg'⟩
    · exact ref_own_ne h.blk hside (by rw [← e']; exact e)
    · rw [e] at e'
      cases e'
      have := blk_lt h.blk
      omega
  have hnew : Own (W2.setCell ⟨b, sideIx y, none⟩ v') v' (S.side y ++ [src]) (v'.ownBlock.toList ++ L) :=
    ⟨ownsRow_blk (by rw [List.length_append]; exact hown) (fun g e => Below.heap_setCell _ _ _ _ (fun e2 => hm2 g e e2)), fun g e => by rw [e]; simp⟩
  have hold : Own (W2.setCell ⟨b, sideIx y, none⟩ v') (if y then nv else yv) (S.side !y) (v'.ownBlock.toList ++ L) := by
    refine ⟨(hothr.keep fun g e => ?_).1, fun g e => List.mem_append_right _ (hothr.2 g e)⟩
    obtain ⟨cur, hc⟩ := hothr.cells e
    rw [hc]
    refine blk_far (hkeep0 hc (fun e2 => ?_)) (ref_own_ne h.blk hothr e) _
    rcases hap with h3 | h3 | h3
    · rw [h3] at e; cases e
    · rw [h3] at e2; cases e2
    · exact h3 (e.trans e2.symm)
  have hap' : Apart (if y then nv else yv) v' := hap.grown hothr.1 hv'
  have hlow : ∀ x, x ∈ v'.ownBlock.toList ++ L → x < (W2.setCell ⟨b, sideIx y, none⟩ v').heap.size := by
    intro x hx
    have hs : (W2.setCell ⟨b, sideIx y, none⟩ v').heap.size = W2.heap.size := by simp [World.setCell]
    rw [hs]
    rcases List.mem_append.1 hx with hx | hx
    · exact (hown.lt x (by simpa using hx)).2
    · exact Nat.lt_of_lt_of_le (h.low x hx) hg.size
  refine ⟨?_, k3, hL⟩
  have hvs := (h.vs.more hL).keep (k3.wider (fun x hx => List.mem_append_right _ hx))
  have hls := (h.ls.more hL).keep (k3.wider (fun x hx => List.mem_append_right _ hx))
  cases y with
  | true =>
    refine ⟨v', nv, blk_set hblk 10 _, hvs, hls, h.vl, h.ll, hnew, hold, hap'.symm, List.mem_append_right _ h.inb, ?_, h.nl, hlow⟩
    show (S.yes ++ [src]).length ≤ 1000
    rw [List.length_append]
    exact hl
  | false =>
    refine ⟨yv, v', blk_set hblk 11 _, hvs, hls, h.vl, h.ll, hold, hnew, hap', List.mem_append_right _ h.inb, h.yl, ?_, hlow⟩
    show (S.no ++ [src]).length ≤ 1000
    rw [List.length_append]
    exact hl
theorem own_slice {w : World} {base : Nat} {e : TypeId} {size : Nat} {v : Value} {n : Nat} {xs : List Value} (h : w.ownsRow base e size v n xs) : ∃ a c, v = .slice a n c := by
  rcases h.2 with ⟨rfl, h0⟩ | ⟨g, cap, cur, rfl, _⟩
  · exact ⟨none, 0, by rw [h0]⟩
  · exact ⟨_, _, rfl⟩
set_option maxRecDepth 100000 in
set_option maxHeartbeats 2000000 in
theorem rsays_at {b : Nat} {S : Nd} {L : List Nat} {w : World} (h : RefAt w b S L) (hy9 : S.yes.length < 1000) (hn9 : S.no.length < 1000) (src : Int) (y : Bool) :
    Calls Try.prog 49 #[.pointer (some ⟨b, 0, none⟩), .int .i64 src, .bool y] w fun e w' => e = .returned (.tuple #[]) ∧ MovesR w b (S.says src y) L w' := by
  obtain ⟨yv, nv, hx⟩ := h
  obtain ⟨ya, yc, rfl, hyg, hyc, hym⟩ := hx.yes.gs
  obtain ⟨na, nc, rfl, hng, hnc, hnm⟩ := hx.no.gs
  have hA1 := has_at ya S.yes yc src w hyg (by unfold maxLen; omega)
  have hA2 := has_at na S.no nc src w hng (by unfold maxLen; omega)
  have HX := Lib.hid hx
  have c0 := hx.cell 0
  have c1 := hx.cell 1
  have c2 := hx.cell 2
  have c3 := hx.cell 3
  have c4 := hx.cell 4
  have c5 := hx.cell 5
  have c6 := hx.cell 6
  have c7 := hx.cell 7
  have c8 := hx.cell 8
  have c9 := hx.cell 9
  have c10 := hx.cell 10
  have c11 := hx.cell 11
  have fz := hx.frozen
  simp only [refC, List.getElem?_toArray, List.getElem?_cons_zero, List.getElem?_cons_succ] at c0 c1 c2 c3 c4 c5 c6 c7 c8 c9 c10 c11
  clear hx
  by_cases h1 : src ∈ S.yes
  · rw [decide_eq_true h1] at hA1
    have HS := Lib.hid (show S.says src y = S by unfold Nd.says; rw [if_pos (.inl h1)])
    clear h1
    go_enter Try.func49, Try.ntmps49
    go_wp2_with fail
    refine hA1.mono ?_; rintro e w1 ⟨rfl, rfl⟩
    go_wp2_with fail
    refine hA2.mono ?_; rintro e w1 ⟨rfl, rfl⟩
    go_wp2_with fail
    try simp only [Exit.inBlock, Exit.then]
    first
      | refine bodyPost_end (results_none rfl _ _ _) rfl ?_
      | refine bodyPost_ret (results_none rfl _ _ _) rfl ?_
    rw [HS.out]
    exact ⟨rfl, L, ⟨_, _, HX.out⟩, Chg.refl _ _, fun x hx => .inl hx⟩
  rw [decide_eq_false h1] at hA1
  by_cases h2 : src ∈ S.no
  · rw [decide_eq_true h2] at hA2
    have HS := Lib.hid (show S.says src y = S by unfold Nd.says; rw [if_pos (.inr h2)])
    clear h1 h2
    go_enter Try.func49, Try.ntmps49
    go_wp2_with fail
    refine hA1.mono ?_; rintro e w1 ⟨rfl, rfl⟩
    go_wp2_with fail
    refine hA2.mono ?_; rintro e w1 ⟨rfl, rfl⟩
    go_wp2_with fail
    try simp only [Exit.inBlock, Exit.then]
    first
      | refine bodyPost_end (results_none rfl _ _ _) rfl ?_
      | refine bodyPost_ret (results_none rfl _ _ _) rfl ?_
    rw [HS.out]
    exact ⟨rfl, L, ⟨_, _, HX.out⟩, Chg.refl _ _, fun x hx => .inl hx⟩
  rw [decide_eq_false h2] at hA2
  have HS := Lib.hid (show S.more y src = S.says src y by unfold Nd.says Nd.more; simp [h1, h2])
  clear h1 h2
  cases y with
  | true =>
    go_enter Try.func49, Try.ntmps49
    go_wp2_with fail
    refine hA1.mono ?_; rintro e w1 ⟨rfl, rfl⟩
    go_wp2_with fail
    refine hA2.mono ?_; rintro e w1 ⟨rfl, rfl⟩
    go_wp2_with (at_builtin; go_loud (refine wpList_appm rfl _ _ 29 rfl 0 3 Try.underlying29 Try.infoInt rfl (by decide) rfl HX.out.yes.1 rfl [.int .i64 src] rfl (by simp [Value.oneCell']) (by unfold maxLen; omega) (by omega) (Nat.zero_le _) ?_); intro v1 w4 hown1 hgrow hat1; replace hgrow : w.grownBy w4 (Value.slice ya S.yes.length yc).ownBlock := hgrow; replace hat1 : v1.ownBlock = (Value.slice ya S.yes.length yc).ownBlock ∨ ∃ g, v1.ownBlock = some g ∧ w.heap.size ≤ g := hat1; have hb4 := (hgrow.block b (blk_lt HX.out.blk) (fun e => ref_own_ne HX.out.blk HX.out.yes e.symm rfl)).trans HX.out.blk; have hfr := blk_frozen hb4; have d10 := blk_cell hb4 10; simp only [refC, List.getElem?_toArray, List.getElem?_cons_zero, List.getElem?_cons_succ] at d10; obtain ⟨va1, vc1, rfl⟩ := own_slice hown1)
    try simp only [Exit.inBlock, Exit.then]
    first
      | refine bodyPost_end (results_none rfl _ _ _) rfl ?_
      | refine bodyPost_ret (results_none rfl _ _ _) rfl ?_
    obtain ⟨hN, hC, hL⟩ := ref_said HX.out true src hgrow (by rw [List.map_append]; exact hown1) hat1 hy9
    rw [← HS.out]
    exact ⟨rfl, _, hN, hC, hL⟩
  | false =>
    go_enter Try.func49, Try.ntmps49
    go_wp2_with fail
    refine hA1.mono ?_; rintro e w1 ⟨rfl, rfl⟩
    go_wp2_with fail
    refine hA2.mono ?_; rintro e w1 ⟨rfl, rfl⟩
    go_wp2_with (at_builtin; go_loud (refine wpList_appm rfl _ _ 29 rfl 0 3 Try.underlying29 Try.infoInt rfl (by decide) rfl HX.out.no.1 rfl [.int .i64 src] rfl (by simp [Value.oneCell']) (by unfold maxLen; omega) (by omega) (Nat.zero_le _) ?_); intro v1 w4 hown1 hgrow hat1; replace hgrow : w.grownBy w4 (Value.slice na S.no.length nc).ownBlock := hgrow; replace hat1 : v1.ownBlock = (Value.slice na S.no.length nc).ownBlock ∨ ∃ g, v1.ownBlock = some g ∧ w.heap.size ≤ g := hat1; have hb4 := (hgrow.block b (blk_lt HX.out.blk) (fun e => ref_own_ne HX.out.blk HX.out.no e.symm rfl)).trans HX.out.blk; have hfr := blk_frozen hb4; have d10 := blk_cell hb4 11; simp only [refC, List.getElem?_toArray, List.getElem?_cons_zero, List.getElem?_cons_succ] at d10; obtain ⟨va1, vc1, rfl⟩ := own_slice hown1)
    try simp only [Exit.inBlock, Exit.then]
    first
      | refine bodyPost_end (results_none rfl _ _ _) rfl ?_
      | refine bodyPost_ret (results_none rfl _ _ _) rfl ?_
    obtain ⟨hN, hC, hL⟩ := ref_said HX.out false src hgrow (by rw [List.map_append]; exact hown1) hat1 hn9
    rw [← HS.out]
    exact ⟨rfl, _, hN, hC, hL⟩
end Go.Proofs.Ytiamfdnllpiikaa
