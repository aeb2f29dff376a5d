/- Who sits beside a seat: seat.Beside, the reference's Beside. Conditions: none. -/
import Derived.Test.YtndagalglenbnaaDoorSeatSide
import Derived.Test.YtndagalglenbnaaDoorSeatLabel
namespace Go.Proofs.YtndagalglenbnaaDoor
open Go.RowKit

theorem Tryd.infoInt : (Tryd.prog.info? 3).map (fun i => (i.zero, i.size, i.bytes)) = some (some (.int .i64 0), 1, 8) := by kernel_rfl

/-- What a slice of one's own holds. -/
theorem gs_own {w : World} {base : Nat} {v : Value} {n : Nat} {xs : List Int} (h : w.ownsRow base 3 1 v n (xs.map (.int .i64))) : ∃ ad cap, v = .slice ad xs.length cap ∧ GsAt w ad xs ∧ xs.length ≤ maxLen := by
  have hl : xs.length = n := by have := h.1; simpa using this
  rcases h.2 with ⟨rfl, h0⟩ | ⟨g, cap, cur, rfl, _, _, h1, h2, _⟩
  · obtain rfl : n = 0 := h0
    have : xs = [] := by simpa using hl
    subst this
    exact ⟨none, 0, rfl, fun j hj => by simp at hj, by simp⟩
  · subst hl
    refine ⟨some ⟨g, 0, none⟩, cap, rfl, fun j hj => ⟨g, 0, rfl, ?_⟩, by omega⟩
    have hc := h.cells (g := g) rfl j (.int .i64 (xs.getD j 0)) (by simp [List.getD, List.getElem?_eq_getElem hj])
    have hadd : (⟨g, 0, none⟩ : Addr).add j = ⟨g, 0 + j, none⟩ := by unfold Addr.add; split <;> simp_all
    rw [← hadd]
    exact hc

open Classical in
/-- The group of a place. -/
noncomputable def grpK (gs : List Int) (c : Int) : Nat := if h : ∃ k, GrpAt gs c k then h.choose else 0
theorem grpK_at {rows : Int} {gs : List Int} (hR : RightL rows gs) {c : Int} (h0 : 0 ≤ c) (h1 : c < total gs) : GrpAt gs c (grpK gs c) := by
  have h := grp_ex (gs := gs) h0 gs.length (Nat.le_refl _) h1
  unfold grpK
  rw [dif_pos h]
  exact h.choose_spec

/-- Does one sit to the left in the group? to the right? -/
def lefty (gs : List Int) (c : Int) (k : Nat) : Prop := sumK gs k < c
def righty (gs : List Int) (c : Int) (k : Nat) : Prop := c + 1 < sumK gs (k + 1)
open Classical in
/-- Who sits beside. -/
noncomputable def besL (rows : Int) (gs : List Int) (n : Int) : List Int :=
  if hasL rows gs n then (if lefty gs (n % total gs) (grpK gs (n % total gs)) then [n - 1] else []) ++ (if righty gs (n % total gs) (grpK gs (n % total gs)) then [n + 1] else []) else []

/-- What a call that tells a list of ints comes to. -/
def Tells (w : World) (xs : List Int) (e : Ending) (w' : World) : Prop := ∃ ad cap, e = .returned (.slice ad xs.length cap) ∧ GsAt w' ad xs ∧ Below w.heap.size w w'
theorem tells_own {w w' : World} {base : Nat} {v u : Value} {n : Nat} {xs : List Int} (h : w'.ownsRow base 3 1 v n (xs.map (.int .i64))) (he : u = v) (hb : Below w.heap.size w w') : Tells w xs (.returned u) w' := by
  subst he
  obtain ⟨ad, cap, hv, hg, _⟩ := gs_own h
  exact ⟨ad, cap, by rw [hv], hg, hb⟩

set_option maxRecDepth 100000 in
set_option maxHeartbeats 2000000 in
theorem beside_any (rows : Int) (a : Option Addr) (gs : List Int) (cap : Nat) (n : Int) (w : World) (hg : GsAt w a gs) (hlm : gs.length ≤ maxLen) :
    Calls Tryd.prog 12 #[.agg #[.int .i64 rows, .slice a gs.length cap], .int .i64 n] w (Tells w (besL rows gs n)) := by
  have hb1 := bl_alloc (Below.refl w.heap.size w) (.cells #[.int .i64 rows, .slice a gs.length cap] 24)
  have HB := Lib.hid hb1
  have HG := Lib.hid (hg.keep hb1)
  by_cases h : hasL rows gs n
  · have hR := h.right
    have ht := hR.tot
    have hc := mod_rng (n := n) ht.1
    have hk := grpK_at hR hc.1 hc.2
    have h0 := h.1
    have h9 : n ≤ 600 := by have := h.2; have := (countL_rng rows gs).2; omega
    obtain ⟨k, hke⟩ : ∃ k, k = grpK gs (n % total gs) := ⟨_, rfl⟩
    have hbl : besL rows gs n = (open Classical in (if lefty gs (n % total gs) k then [n - 1] else []) ++ (if righty gs (n % total gs) k then [n + 1] else [])) := by
      unfold besL; rw [if_pos h, hke]
    rw [← hke] at hk
    have HH := Lib.hid (has_y rows a gs cap n _ (hg.keep hb1) hlm h)
    have HR := Lib.hid hR
    have HK := Lib.hid hk
    have hsm := sumK_rng hR.2.2.2.2.1 k (by have := hk.1; omega)
    have hsm2 := sumK_rng hR.2.2.2.2.1 (k + 1) (by have := hk.1; omega)
    have hkl := hk.1
    have hl4 := hR.2.2.2.1
    obtain ⟨xs, hxs⟩ : ∃ xs, xs = besL rows gs n := ⟨_, rfl⟩
    rw [← hxs]
    rw [← hxs] at hbl
    unfold lefty righty at hbl
    obtain ⟨c, hce⟩ : ∃ c, c = n % total gs := ⟨_, rfl⟩
    obtain ⟨y, hye⟩ : ∃ y, y = sumK gs k := ⟨_, rfl⟩
    obtain ⟨z, hze⟩ : ∃ z, z = sumK gs (k + 1) := ⟨_, rfl⟩
    have hkk := hk
    unfold GrpAt at hkk
    rw [← hce, ← hye, ← hze] at hkk
    rw [← hce] at hc
    rw [← hye] at hsm
    rw [← hze] at hsm2
    rw [← hce, ← hye, ← hze] at hbl
    have HBE := Lib.hid hbl
    have HS := Lib.hid (fun (W : World) (hgW : GsAt W a gs) => sides_any rows a gs cap n W hgW hR h0 h9 k hk)
    have HCE := Lib.hid hce
    have HYE := Lib.hid hye
    have HZE := Lib.hid hze
    clear hg hb1 h hR hk hke hbl hxs hce hye hze
    go_enter Tryd.func12, Tryd.ntmps12
    go_wp2_with fail
    refine HH.out.mono ?_; rintro e w1 ⟨rfl, hb2⟩
    have hblk := blk_below (blk_new w (.cells #[.int .i64 rows, .slice a gs.length cap] 24) rfl) hb2 (by simp)
    have q0 : w1.cell? ⟨w.heap.size, 0, none⟩ = some (.int .i64 rows) := blk_cell hblk 0
    have q1 : w1.cell? ⟨w.heap.size, 1, none⟩ = some (.slice a gs.length cap) := blk_cell hblk 1
    have HG1 := Lib.hid (HG.out.keep hb2)
    have HB2 := Lib.hid (bl_trans HB.out hb2)
    clear hblk hb2
    go_wp2_with fail
    refine (HS.out _ HG1.out).mono ?_; rw [← HCE.out, ← HYE.out, ← HZE.out]; rintro e w2 ⟨rfl, hb3⟩
    have HB3 := Lib.hid (bl_trans HB2.out hb3)
    clear hb3 q0 q1
    by_cases hL : y < c <;> by_cases hr : c + 1 < z
    · have HE := Lib.hid (show xs = [n - 1] ++ [n + 1] by rw [HBE.out, if_pos hL, if_pos hr])
      have d1 : 0 < c - y := by omega
      have d2 : 0 < z - 1 - c := by omega
      go_wp2_with (first
        | (at_builtin; refine wpList_app rfl _ _ 22 rfl w.heap.size 3 Tryd.underlying22 Tryd.infoInt rfl (by decide) rfl (World.ownsRow_nil _ _ _ _) rfl [.int .i64 (n - 1)] rfl (by simp [Value.oneCell']) (by unfold maxLen; omega) (by omega) (HB3.out.size) ?_; intro v' w' hown1 hgrow1)
        | (at_builtin; refine wpList_app rfl _ _ 22 rfl w.heap.size 3 Tryd.underlying22 Tryd.infoInt rfl (by decide) rfl hown1 rfl [.int .i64 (n + 1)] rfl (by simp [Value.oneCell']) (by unfold maxLen; omega) (by omega) (Nat.le_trans HB3.out.size hgrow1.size) ?_; intro v'' w'' hown' hgrow))
      have HB4 := Lib.hid (bl_trans' HB3.out (own_below (World.ownsRow_nil _ w.heap.size 3 1) hgrow1 HB3.out.size) (Nat.le_refl _))
      have hbl := own_below hown1 hgrow HB4.out.size
      go_ret
      rw [HE.out]
      exact tells_own (xs := [n - 1] ++ [n + 1]) hown' rfl (bl_trans' HB4.out hbl (Nat.le_refl _))
    · have HE := Lib.hid (show xs = [n - 1] ++ [] by rw [HBE.out, if_pos hL, if_neg hr])
      have d1 : 0 < c - y := by omega
      have d2 : ¬ 0 < z - 1 - c := by omega
      go_wp2_with (at_builtin; refine wpList_app rfl _ _ 22 rfl w.heap.size 3 Tryd.underlying22 Tryd.infoInt rfl (by decide) rfl (World.ownsRow_nil _ _ _ _) rfl [.int .i64 (n - 1)] rfl (by simp [Value.oneCell']) (by unfold maxLen; omega) (by omega) (HB3.out.size) ?_; intro v' w' hown' hgrow)
      have hbl := own_below (World.ownsRow_nil _ w.heap.size 3 1) hgrow HB3.out.size
      go_ret
      rw [HE.out]
      exact tells_own (xs := [n - 1] ++ []) hown' rfl (bl_trans' HB3.out hbl (Nat.le_refl _))
    · have HE := Lib.hid (show xs = [] ++ [n + 1] by rw [HBE.out, if_neg hL, if_pos hr])
      have d1 : ¬ 0 < c - y := by omega
      have d2 : 0 < z - 1 - c := by omega
      go_wp2_with (at_builtin; refine wpList_app rfl _ _ 22 rfl w.heap.size 3 Tryd.underlying22 Tryd.infoInt rfl (by decide) rfl (World.ownsRow_nil _ _ _ _) rfl [.int .i64 (n + 1)] rfl (by simp [Value.oneCell']) (by unfold maxLen; omega) (by omega) (HB3.out.size) ?_; intro v' w' hown' hgrow)
      have hbl := own_below (World.ownsRow_nil _ w.heap.size 3 1) hgrow HB3.out.size
      go_ret
      rw [HE.out]
      exact tells_own (xs := [] ++ [n + 1]) hown' rfl (bl_trans' HB3.out hbl (Nat.le_refl _))
    · have HE := Lib.hid (show xs = [] ++ [] by rw [HBE.out, if_neg hL, if_neg hr])
      have d1 : ¬ 0 < c - y := by omega
      have d2 : ¬ 0 < z - 1 - c := by omega
      go_wp2
      go_ret
      rw [HE.out]
      exact tells_own (xs := [] ++ []) (World.ownsRow_nil _ w.heap.size 3 1) rfl HB3.out
  · have hbl : besL rows gs n = [] := by unfold besL; rw [if_neg h]
    have HH := Lib.hid (has_n rows a gs cap n _ (hg.keep hb1) hlm h)
    rw [hbl]
    clear hg hb1 h hbl
    go_enter Tryd.func12, Tryd.ntmps12
    go_wp2_with (go_at_call 25; refine HH.out.mono ?_; rintro e w1 ⟨rfl, hb2⟩)
    go_ret
    exact tells_own (xs := []) (World.ownsRow_nil _ w.heap.size 3 1) rfl (bl_trans HB.out hb2)
end Go.Proofs.YtndagalglenbnaaDoor
