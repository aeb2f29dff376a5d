/- A pair of ints that came in by value, opened. Conditions: none. -/
import Derived.Test.YtndagalglenbnaaDoorOpenLay
namespace Go.Proofs.YtndagalglenbnaaDoor
open Go.ChangeShapes Go.WideShapes Go.ChangeAt Go.RowKit

theorem Tryd.cellsPair : Tryd.prog.cellsOf 42 = 2 := by kernel_rfl

theorem trod_pair {H : Type} {enc : TypeId × Value → H} {w : World} {base : Nat} {sp : Nat → Bool} {hd : Bool} {fuel : Nat} {cs : List Value} {x : DataW H × List MemPlace}
    (h : DataW.trod enc Tryd.prog w base sp hd fuel 42 cs = some x) : ∃ a b : Int, cs = [.int .i64 a, .int .i64 b] ∧ (Lit.int .i64 a).wf = true ∧ (Lit.int .i64 b).wf = true := by
  obtain ⟨xs, m, _, _, hl, hn, hx⟩ := DataW.trod_array Tryd.underlying42 h
  rw [Tryd.cellsPair] at hl
  match cs, hl with
  | [c0, c1], _ =>
    have h0 := hx 0 (by omega)
    have h1 := hx 1 (by omega)
    rw [Tryd.cellsInt] at h0 h1
    match xs, hn with
    | [x0, x1], _ =>
      obtain ⟨a, e0, _, w0⟩ := DataW.trod_int Tryd.underlying3 (by simpa using h0)
      obtain ⟨b, e1, _, w1⟩ := DataW.trod_int Tryd.underlying3 (by simpa using h1)
      simp at e0 e1
      exact ⟨a, b, by rw [e0, e1], w0, w1⟩

theorem okWide_arr {P : Program} {w : World} {r : Reach} {base : Nat} {t : TypeId} {v : Value} {n : Nat} {e : TypeId} (ht : P.underlying t = some (.array n e)) (h : Value.okWide P w r base t v) : ∃ cs, v = .agg cs ∧ cs.size = P.cellsOf t := by
  simp only [Value.okWide, ht] at h
  obtain ⟨cs, h1, h2, _⟩ := h
  exact ⟨cs, h1, h2⟩

theorem openPair {H : Type} {enc : TypeId × Value → H} {W : World} {r : Reach} {base b0 : Nat} {sp : Nat → Bool} {hd : Bool} {v : Value} {d : DataW H} {ps : List MemPlace}
    (hv : Value.okWide Tryd.prog W r b0 42 v) (h : DataW.Trod enc Tryd.prog W base sp hd 42 v d ps) :
    ∃ p : Int × Int, v = .agg #[.int .i64 p.1, .int .i64 p.2] ∧ (Lit.int .i64 p.1).wf = true ∧ (Lit.int .i64 p.2).wf = true := by
  obtain ⟨cs, rfl, _⟩ := okWide_arr Tryd.underlying42 hv
  obtain ⟨fuel, hf⟩ := h
  obtain ⟨a, b, e, wa, wb⟩ := trod_pair hf
  refine ⟨(a, b), ?_, wa, wb⟩
  congr 1
  apply Array.toList_inj.1
  simpa [Value.cells] using e
end Go.Proofs.YtndagalglenbnaaDoor
