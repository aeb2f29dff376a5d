/- What parameters of logs and of events hold. Conditions: none. -/
import Derived.Test.YtiamfdnllpiikaaElPure
import Derived.ProofKit
import Derived.OpenShut
import Derived.Deep.Slices
import Derived.Test.YtiamfdnllpiikaaOpenEl
import Derived.Test.YtiamfdnllpiikaaElWP
namespace Go.Proofs.Ytiamfdnllpiikaa
open Go.ChangeShapes Go.WideShapes Go.ChangeAt Go.RowKit
open Go.Deep (open_slice1 open_slice)
theorem Try.cellsEvent : Try.prog.cellsOf 59 = 4 := by kernel_rfl
section
variable {H : Type} {enc : TypeId × Value → H} {w : World} {base : Nat} {sp : Nat → Bool} {hd : Bool} {fuel : Nat} {cs : List Value} {x : DataW H × List MemPlace}
theorem trod_ev (h : DataW.trod enc Try.prog w base sp hd fuel 59 cs = some x) : ∃ s : EvV, cs = s.c ∧ True := by
  obtain ⟨hl, n, hf⟩ := trod_fields Try.underlying59 h
  rw [Try.cellsEvent] at hl
  match cs, hl with
  | [c0, c1, c2, c3], _ =>
    obtain ⟨y0, h0⟩ := hf 0 3 0 1 rfl Try.cellsInt
    obtain ⟨y1, h1⟩ := hf 1 3 1 1 rfl Try.cellsInt
    obtain ⟨y2, h2⟩ := hf 2 3 2 1 rfl Try.cellsInt
    obtain ⟨y3, h3⟩ := hf 3 3 3 1 rfl Try.cellsInt
    obtain ⟨a0, e0, _⟩ := trod_i h0
    obtain ⟨a1, e1, _⟩ := trod_i h1
    obtain ⟨a2, e2, _⟩ := trod_i h2
    obtain ⟨a3, e3, _⟩ := trod_i h3
    simp at e0 e1 e2 e3
    exact ⟨⟨a0, a1, a2, a3⟩, by rw [e0, e1, e2, e3]; rfl, trivial⟩
theorem trod_log (h : DataW.trod enc Try.prog w base sp hd fuel 42 cs = some x) : ∃ s : Int × Int, cs = pairC s ∧ True := by
  obtain ⟨a, b, e⟩ := trod_pair h
  exact ⟨(a, b), e, trivial⟩
end
structure LogsV where
  ad : Option Addr
  l : List (Int × Int)
  cap : Nat
structure LogsV.At (p : LogsV) (w : World) : Prop where
  at_ : ItemsAt w p.ad p.l.length 2 (fun i => pairC (p.l.getD i (0, 0)))
  max : p.l.length ≤ maxLen
theorem openLogs {H : Type} {enc : TypeId × Value → H} {W : World} {r : Reach} {base b0 : Nat} {sp : Nat → Bool} {hd : Bool} {v : Value} {d : DataW H} {ps : List MemPlace}
    (hv : Value.okWide Try.prog W r b0 49 v) (h : DataW.Trod enc Try.prog W base sp hd 49 v d ps) :
    ∃ p : LogsV, v = .slice p.ad p.l.length p.cap ∧ p.At W := by
  obtain ⟨fuel, hf⟩ := h
  obtain ⟨ad, l, cap, e, hg, hl, hF⟩ := open_items (α := Int × Int) (c := pairC) (F := fun _ => True) Try.underlying49 Try.cellsPair (by omega) (fun h => trod_log h) hf
  refine ⟨⟨ad, l, cap⟩, ?_, ⟨hg, hl⟩⟩
  obtain ⟨a, n, c, rfl⟩ := okWide_slice Try.underlying49 hv
  simpa [Value.cells] using e
structure EvsV where
  ad : Option Addr
  l : List EvV
  cap : Nat
structure EvsV.At (p : EvsV) (w : World) : Prop where
  at_ : ItemsAt w p.ad p.l.length 4 (fun i => (p.l.getD i default).c)
  max : p.l.length ≤ maxLen
theorem openEvs {H : Type} {enc : TypeId × Value → H} {W : World} {r : Reach} {base b0 : Nat} {sp : Nat → Bool} {hd : Bool} {v : Value} {d : DataW H} {ps : List MemPlace}
    (hv : Value.okWide Try.prog W r b0 50 v) (h : DataW.Trod enc Try.prog W base sp hd 50 v d ps) :
    ∃ p : EvsV, v = .slice p.ad p.l.length p.cap ∧ p.At W := by
  obtain ⟨fuel, hf⟩ := h
  obtain ⟨ad, l, cap, e, hg, hl, hF⟩ := open_items (α := EvV) (c := EvV.c) (F := fun _ => True) Try.underlying50 Try.cellsEvent (by omega) (fun h => trod_ev h) hf
  refine ⟨⟨ad, l, cap⟩, ?_, ⟨hg, hl⟩⟩
  obtain ⟨a, n, c, rfl⟩ := okWide_slice Try.underlying50 hv
  simpa [Value.cells] using e
end Go.Proofs.Ytiamfdnllpiikaa
