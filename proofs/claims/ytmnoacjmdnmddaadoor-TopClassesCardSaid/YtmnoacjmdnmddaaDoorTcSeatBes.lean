/- Who sits beside a seat: seat.Beside, the reference's Beside. Conditions: none. -/
import Derived.Test.YtmnoacjmdnmddaaDoorTcSeatSide
import Derived.Test.YtmnoacjmdnmddaaDoorSeatLabel
namespace Go.Proofs.YtmnoacjmdnmddaaDoor
open Go.RowKit

theorem Tryd.infoInt : (Tryd.prog.info? 3).map (fun i => (i.zero, i.size, i.bytes)) = some (some (.int .i64 0), 1, 8) := by kernel_rfl

/-- What a slice of one's own holds. -/
theorem gs_own {w : World} {base : Nat} {v : Value} {n : Nat} {xs : List Int} (h : w.ownsRow base 3 1 v n (xs.map (.int .i64))) : ∃ ad cap, v = .slice ad xs.length cap ∧ GsAt w ad xs ∧ xs.length ≤ maxLen := by
  have hl : xs.length = n := by have := h.1; simpa using this
  rcases h.2 with ⟨rfl, h0⟩ | ⟨g, cap, cur, rfl, _, _, h1, h2, _⟩
  · obtain rfl : n = 0 := h0
    have : xs = [] := by simpa using hl
    subst this
    exact ⟨none, 0, rfl, fun j hj => by simp at hj, by simp⟩
  · subst hl
    refine ⟨some ⟨g, 0, none⟩, cap, rfl, fun j hj => ⟨g, 0, rfl, ?_⟩, by omega⟩
    have hc := h.cells (g := g) rfl j (.int .i64 (xs.getD j 0)) (by simp [List.getD, List.getElem?_eq_getElem hj])
    have hadd : (⟨g, 0, none⟩ : Addr).add j = ⟨g, 0 + j, none⟩ := by unfold Addr.add; split <;> simp_all
    rw [← hadd]
    exact hc

open Classical in
/-- The group of a place. -/
noncomputable def grpK (gs : List Int) (c : Int) : Nat := if h : ∃ k, GrpAt gs c k then h.choose else 0
theorem grpK_at {rows : Int} {gs : List Int} (hR : RightL rows gs) {c : Int} (h0 : 0 ≤ c) (h1 : c < total gs) : GrpAt gs c (grpK gs c) := by
  have h := grp_ex (gs := gs) h0 gs.length (Nat.le_refl _) h1
  unfold grpK
  rw [dif_pos h]
  exact h.choose_spec

/-- Does one sit to the left in the group? to the right? -/
def lefty (gs : List Int) (c : Int) (k : Nat) : Prop := sumK gs k < c
def righty (gs : List Int) (c : Int) (k : Nat) : Prop := c + 1 < sumK gs (k + 1)
open Classical in
/-- Who sits beside. -/
noncomputable def besL (rows : Int) (gs : List Int) (n : Int) : List Int :=
  if hasL rows gs n then (if lefty gs (n % total gs) (grpK gs (n % total gs)) then [n - 1] else []) ++ (if righty gs (n % total gs) (grpK gs (n % total gs)) then [n + 1] else []) else []

/-- What a call that tells a list of ints comes to. -/
def Tells (w : World) (xs : List Int) (e : Ending) (w' : World) : Prop := ∃ ad cap, e = .returned (.slice ad xs.length cap) ∧ GsAt w' ad xs ∧ Below w.heap.size w w'
theorem tells_own {w w' : World} {base : Nat} {v u : Value} {n : Nat} {xs : List Int} (h : w'.ownsRow base 3 1 v n (xs.map (.int .i64))) (he : u = v) (hb : Below w.heap.size w w') : Tells w xs (.returned u) w' := by
  subst he
  obtain ⟨ad, cap, hv, hg, _⟩ := gs_own h
  exact ⟨ad, cap, by rw [hv], hg, hb⟩

end Go.Proofs.YtmnoacjmdnmddaaDoor
