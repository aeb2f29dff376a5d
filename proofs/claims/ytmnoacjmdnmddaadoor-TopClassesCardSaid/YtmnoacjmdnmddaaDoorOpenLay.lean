/- A Layout that came in by value, opened. Conditions: none. -/
import Derived.Test.YtmnoacjmdnmddaaDoorSeatBase
import Derived.ProofKit
import Derived.OpenShut
import Derived.Deep.Slices
namespace Go.Proofs.YtmnoacjmdnmddaaDoor
open Go.ChangeShapes Go.WideShapes Go.ChangeAt Go.RowKit
open Go.Deep (open_slice1)

theorem Tryd.cellsInt : Tryd.prog.cellsOf 3 = 1 := by kernel_rfl
theorem Tryd.cellsInts : Tryd.prog.cellsOf 22 = 1 := by kernel_rfl
theorem Tryd.cellsLayout : Tryd.prog.cellsOf 24 = 2 := by kernel_rfl

/-- What a slice of ints in memory holds. -/
theorem trod_gs {H : Type} {enc : TypeId × Value → H} {w : World} {base : Nat} {sp : Nat → Bool} {hd : Bool} {fuel : Nat} {cs : List Value} {x : DataW H × List MemPlace}
    (h : DataW.trod enc Tryd.prog w base sp hd fuel 22 cs = some x) : ∃ (ad : Option Addr) (gs : List Int) (cap : Nat), cs = [.slice ad gs.length cap] ∧ GsAt w ad gs ∧ gs.length ≤ maxLen := by
  rcases open_slice1 Tryd.underlying22 Tryd.cellsInt h with ⟨rfl, _⟩ | ⟨a, len, cap, m, n, V, D, Pl, rfl, _, hlc, hcm, hm, _, hx⟩
  · exact ⟨none, [], 0, rfl, fun j hj => by simp at hj, by simp⟩
  · have hlm : len ≤ m := by rw [hm]; split <;> omega
    refine ⟨some a, (List.range len).map fun i => match V i with | .int _ k => k | _ => 0, cap, by simp, ?_, by simp; omega⟩
    intro j hj
    have hj' : j < len := by simpa using hj
    obtain ⟨hc, ht⟩ := hx j (by omega)
    obtain ⟨k, e, _, _⟩ := DataW.trod_int Tryd.underlying3 ht
    have hVj : V j = .int .i64 k := by simpa using e
    have h0 := (hx 0 (by omega)).1
    have hs : a.spot = none := by
      have h0' : w.cell? a = some (V 0) := by simpa [Addr.add] using h0
      unfold World.cell? at h0'
      split at h0'
      · split at h0'
        · cases h0'
        · cases hh : a.spot with
          | none => rfl
          | some _ => simp_all
      · cases h0'
    obtain ⟨b, off, spot⟩ := a
    simp only at hs
    subst hs
    refine ⟨b, off, rfl, ?_⟩
    have e1 : (⟨b, off, none⟩ : Addr).add j = ⟨b, off + j, none⟩ := by
      unfold Addr.add
      split
      · next h => subst h; rfl
      · rfl
    rw [e1] at hc
    rw [hc, hVj]
    congr 1
    simp [List.getD, List.getElem?_map, List.getElem?_range hj', hVj]

structure Lay where
  rows : Int
  ad : Option Addr
  gs : List Int
  cap : Nat

set_option maxRecDepth 100000 in
theorem openLay {H : Type} {enc : TypeId × Value → H} {W : World} {r : Reach} {base b0 : Nat} {sp : Nat → Bool} {hd : Bool} {v : Value} {d : DataW H} {ps : List MemPlace}
    (hv : Value.okWide Tryd.prog W r b0 24 v) (h : DataW.Trod enc Tryd.prog W base sp hd 24 v d ps) :
    ∃ p : Lay, v = .agg #[.int .i64 p.rows, .slice p.ad p.gs.length p.cap] ∧ GsAt W p.ad p.gs ∧ p.gs.length ≤ maxLen := by
  obtain ⟨cs, rfl, hsz⟩ := okWide_struct Tryd.underlying24 hv
  rw [Tryd.cellsLayout] at hsz
  obtain ⟨fuel, hf⟩ := h
  obtain ⟨y0, y1, n, _, _, h0, h1⟩ := trod_struct2 Tryd.underlying24 hf
  obtain ⟨⟨c0, c1, rfl⟩⟩ : Nonempty (∃ c0 c1, cs = #[c0, c1]) := by
    obtain ⟨l⟩ := cs
    match l, hsz with
    | [c0, c1], _ => exact ⟨⟨c0, c1, rfl⟩⟩
  rw [Tryd.cellsInt] at h0
  rw [Tryd.cellsInts] at h1
  obtain ⟨a, e0, _, w0⟩ := DataW.trod_int Tryd.underlying3 h0
  obtain ⟨ad, gs, cap, e1, hg, hl⟩ := trod_gs h1
  have e0' : c0 = .int .i64 a := by simpa [Value.cells] using e0
  have e1' : c1 = .slice ad gs.length cap := by simpa [Value.cells] using e1
  exact ⟨⟨a, ad, gs, cap⟩, by rw [e0', e1'], hg, hl⟩
end Go.Proofs.YtmnoacjmdnmddaaDoor
