/- Rows of rows of bytes that come in, opened. Conditions: none. -/
import Derived.Test.YtnmmhggdjlfnfaaSmPut
import Derived.ProofKit
import Derived.OpenShut
import Derived.Deep.Slices
namespace Go.Proofs.Ytnmmhggdjlfnfaa
open Go.ChangeShapes Go.WideShapes Go.ChangeAt Go.RowKit
open Go.Deep (open_slice1 open_slice)
theorem Try.cellsByte : Try.prog.cellsOf 5 = 1 := by kernel_rfl
theorem Try.cellsBytes : Try.prog.cellsOf 25 = 1 := by kernel_rfl
section
variable {H : Type} {enc : TypeId × Value → H} {w : World} {base : Nat} {sp : Nat → Bool} {hd : Bool} {fuel : Nat} {cs : List Value} {x : DataW H × List MemPlace}
theorem addr_plain {a : Addr} {v : Value} (h : w.cell? a = some v) : a.spot = none := by
  unfold World.cell? at h
  split at h
  · split at h
    · cases h
    · cases hh : a.spot with
      | none => rfl
      | some _ => simp_all
  · cases h
theorem choose_below {α : Type} [Inhabited α] {p : Nat → α → Prop} {n : Nat} (h : ∀ i, i < n → ∃ a, p i a) : ∃ l : List α, l.length = n ∧ ∀ i, i < n → p i (l.getD i default) := by
  induction n with
  | zero => exact ⟨[], rfl, fun i hi => by omega⟩
  | succ n ih =>
    obtain ⟨l, hl, hp⟩ := ih (fun i hi => h i (by omega))
    obtain ⟨a, ha⟩ := h n (by omega)
    refine ⟨l ++ [a], by simp [hl], fun i hi => ?_⟩
    by_cases hin : i < n
    · have := hp i hin
      rw [List.getD_eq_getElem?_getD, List.getElem?_append_left (by omega), ← List.getD_eq_getElem?_getD]
      exact this
    · obtain rfl : i = n := by omega
      rw [List.getD_eq_getElem?_getD, List.getElem?_append_right (by omega), hl]
      simpa using ha
/-- Items of some cells each, in a row. -/
def ItemsAt (w : World) (a : Option Addr) (n size : Nat) (c : Nat → List Value) : Prop := ∀ i, i < n → ∃ b off, a = some ⟨b, off, none⟩ ∧ ∀ j u, (c i)[j]? = some u → w.cell? ⟨b, off + i * size + j, none⟩ = some u
theorem ItemsAt.keep {w w' : World} {a : Option Addr} {n size : Nat} {c : Nat → List Value} (h : ItemsAt w a n size c) (hb : Below w.heap.size w w') : ItemsAt w' a n size c := fun i hi => by
  obtain ⟨b, off, e, hc⟩ := h i hi
  exact ⟨b, off, e, fun j u hu => cell_keep hb (hc j u hu)⟩
theorem open_items {α : Type} [Inhabited α] {t e : TypeId} {size : Nat} {c : α → List Value} {F : α → Prop} (ht : Try.prog.underlying t = some (.slice e)) (hce : Try.prog.cellsOf e = size) (hs0 : 0 < size)
    (one : ∀ {fuel : Nat} {cs : List Value} {x : DataW H × List MemPlace}, DataW.trod enc Try.prog w base sp hd fuel e cs = some x → ∃ s : α, cs = c s ∧ F s)
    (h : DataW.trod enc Try.prog w base sp hd fuel t cs = some x) : ∃ (ad : Option Addr) (l : List α) (cap : Nat), cs = [.slice ad l.length cap] ∧ ItemsAt w ad l.length size (fun i => c (l.getD i default)) ∧ l.length ≤ maxLen ∧ (∀ i, i < l.length → F (l.getD i default)) ∧ (ad = none → cap = 0) ∧ l.length ≤ cap ∧ ((x.1 = .nil ∧ l.length = 0) ∨ ∃ es sp, x.1 = .slice es sp ∧ es.length = l.length) := by
  rcases open_slice ht h with ⟨rfl, rfl⟩ | ⟨a, len, cap, m, n, D, Pl, rfl, _, hlc, hcm, hm, rfl, hx⟩
  · exact ⟨none, [], 0, rfl, fun j hj => by simp at hj, by simp, fun i hi => by simp at hi, fun _ => rfl, by simp, .inl ⟨rfl, rfl⟩⟩
  · have hlm : len ≤ m := by rw [hm]; split <;> omega
    have each : ∀ i, i < len → ∃ s : α, (w.cells? base (a.add (i * size)) size = some (c s) ∧ (c s).length = size) ∧ F s := fun i hi => by
      obtain ⟨cs', h1, h2⟩ := hx i (by omega)
      rw [hce] at h1
      obtain ⟨s, rfl, hF⟩ := one h2
      exact ⟨s, ⟨h1, (World.cells?_some h1).2.1⟩, hF⟩
    obtain ⟨l, hl, hp⟩ := choose_below each
    refine ⟨some a, l, cap, by rw [hl], ?_, by omega, fun i hi => (hp i (by omega)).2, (fun h => by cases h), by omega, .inr ⟨_, _, rfl, by simp [hl]⟩⟩
    intro i hi
    have hi' : i < len := by omega
    have hs : a.spot = none := by
      obtain ⟨⟨h1, h3⟩, _⟩ := hp 0 (by omega)
      obtain ⟨_, _, h2⟩ := World.cells?_some h1
      have h4 := h2 0 hs0
      rw [List.getElem?_eq_getElem (by omega)] at h4
      exact addr_plain (w := w) (by simpa [Addr.add] using h4)
    obtain ⟨b, off, spot⟩ := a
    simp only at hs
    subst hs
    refine ⟨b, off, rfl, fun j u hu => ?_⟩
    obtain ⟨⟨h1, h3⟩, _⟩ := hp i hi'
    obtain ⟨_, _, h2⟩ := World.cells?_some h1
    have hj : j < size := by
      have := (List.getElem?_eq_some_iff.1 hu).1
      rw [← h3]
      exact this
    have h4 := h2 j hj
    rw [addr_add, addr_add] at h4
    rw [h4]
    exact hu
theorem trod_bytes (h : DataW.trod enc Try.prog w base sp hd fuel 25 cs = some x) : ∃ d : BV, cs = [.slice d.a d.l.length d.c] ∧ d.At w := by
  rcases open_slice1 Try.underlying25 Try.cellsByte h with ⟨rfl, _⟩ | ⟨a, len, cap, m, n, V, D, Pl, rfl, _, hlc, hcm, hm, _, hx⟩
  · exact ⟨⟨none, [], 0⟩, rfl, fun j hj => by simp at hj, fun _ => rfl⟩
  · have hlm : len ≤ m := by rw [hm]; split <;> omega
    refine ⟨⟨some a, (List.range len).map fun i => match V i with | .int _ k => BitVec.ofInt 8 k | _ => 0, cap⟩, by simp, ?_, fun h => by cases h⟩
    intro j hj
    have hj' : j < len := by simpa using hj
    obtain ⟨hc, ht⟩ := hx j (by omega)
    obtain ⟨k, e, _, hw⟩ := DataW.trod_int Try.underlying5 ht
    have hVj : V j = .int .u8 k := by simpa using e
    have h0 := (hx 0 (by omega)).1
    have hs : a.spot = none := addr_plain (w := w) (v := V 0) (by simpa [Addr.add] using h0)
    obtain ⟨b, off, spot⟩ := a
    simp only at hs
    subst hs
    refine ⟨b, off, rfl, ?_⟩
    rw [addr_add] at hc
    rw [hc, hVj]
    have h1 : 0 ≤ k ∧ k < 256 := by
      simp [Lit.wf, IntKind.bits, IntKind.signed, IntKind.max, IntKind.min] at hw
      omega
    simp [List.getD, List.getElem?_map, List.getElem?_range hj', hVj]
    omega
end
/-- A row of rows of bytes. -/
structure BSV where
  a : Option Addr
  l : List BV
  c : Nat
theorem openBss {H : Type} {enc : TypeId × Value → H} {W : World} {r : Reach} {base b0 : Nat} {sp : Nat → Bool} {hd : Bool} {v : Value} {d : DataW H} {ps : List MemPlace}
    (hv : Value.okWide Try.prog W r b0 22 v) (h : DataW.Trod enc Try.prog W base sp hd 22 v d ps) :
    ∃ p : BSV, v = .slice p.a p.l.length p.c ∧ SAt W p.a p.l ∧ p.l.length ≤ maxLen := by
  obtain ⟨fuel, hf⟩ := h
  obtain ⟨ad, l, cap, e, hg, hl, hF, hnl, hcap, hd2⟩ := open_items (α := BV) (c := fun d => [.slice d.a d.l.length d.c]) (F := fun s => s.At W) Try.underlying22 Try.cellsBytes (by omega) (fun h => trod_bytes h) hf
  obtain ⟨a, n, c, rfl⟩ := okWide_slice Try.underlying22 hv
  refine ⟨⟨ad, l, cap⟩, by simpa [Value.cells] using e, fun j hj => ?_, hl⟩
  obtain ⟨b, off, e2, hc⟩ := hg j hj
  have := hc 0 _ rfl
  rw [Nat.mul_one, Nat.add_zero] at this
  exact ⟨b, off, e2, this, hF j hj⟩
end Go.Proofs.Ytnmmhggdjlfnfaa
