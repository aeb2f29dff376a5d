/- The reference's Best. Conditions: none. -/
import Derived.Test.YtmnoacjmdnmddaaDoorTcSeatBestP
namespace Go.Proofs.YtmnoacjmdnmddaaDoor
open Go.RowKit

/-- What a call that tells a list of ints and an error's number comes to. -/
def Tells2 (w : World) (p : List Int × Int) (e : Ending) (w' : World) : Prop := ∃ ad cap, e = .returned (.tuple #[.slice ad p.1.length cap, .int .i64 p.2]) ∧ GsAt w' ad p.1 ∧ Below w.heap.size w w' ∧ ∀ x, ad = some x → w.heap.size ≤ x.block
theorem gs_own2 {w : World} {base : Nat} {v : Value} {n : Nat} {xs : List Int} (h : w.ownsRow base 3 1 v n (xs.map (.int .i64))) : ∃ ad cap, v = .slice ad xs.length cap ∧ GsAt w ad xs ∧ xs.length ≤ cap ∧ cap ≤ maxLen := by
  have hl : xs.length = n := by have := h.1; simpa using this
  rcases h.2 with ⟨rfl, h0⟩ | ⟨g, cap, cur, rfl, _, _, h1, h2, _⟩
  · obtain rfl : n = 0 := h0
    have : xs = [] := by simpa using hl
    subst this
    exact ⟨none, 0, rfl, fun j hj => by simp at hj, by simp, by simp⟩
  · obtain ⟨ad, cap', hv, hg, _⟩ := gs_own h
    have hc : cap' = cap := by injection hv with _ _ hc; exact hc.symm
    subst hc
    exact ⟨ad, cap', hv, hg, by omega, by omega⟩
theorem ret_sl {a : Option Addr} {n n' c : Nat} {x : Int} (h : n = n') : Ending.returned (.tuple #[.slice a n c, .int .i64 x]) = .returned (.tuple #[.slice a n' c, .int .i64 x]) := by rw [h]
theorem tells2_nil {w w' : World} {c : Int} {p : List Int × Int} (hp : p = ([], c)) (hb : Below w.heap.size w w') : Tells2 w p (.returned (.tuple #[.slice none 0 0, .int .i64 c])) w' := by
  subst hp
  exact ⟨none, 0, rfl, fun j hj => by simp at hj, hb, fun x hx => by cases hx⟩

end Go.Proofs.YtmnoacjmdnmddaaDoor
