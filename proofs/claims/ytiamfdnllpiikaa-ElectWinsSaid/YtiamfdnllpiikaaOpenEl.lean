/- What comes in by value, opened: hard states, groups, those who run, ballots, steps. Conditions: none. -/
import Derived.Test.YtiamfdnllpiikaaElPure
import Derived.ProofKit
import Derived.OpenShut
import Derived.Deep.Slices
namespace Go.Proofs.Ytiamfdnllpiikaa
open Go.ChangeShapes Go.WideShapes Go.ChangeAt Go.RowKit
open Go.Deep (open_slice1 open_slice)

theorem Try.cellsInt : Try.prog.cellsOf 3 = 1 := by kernel_rfl
theorem Try.cellsBool : Try.prog.cellsOf 4 = 1 := by kernel_rfl
theorem Try.cellsInts : Try.prog.cellsOf 29 = 1 := by kernel_rfl
theorem Try.cellsPair : Try.prog.cellsOf 42 = 2 := by kernel_rfl
theorem Try.cellsHard : Try.prog.cellsOf 23 = 2 := by kernel_rfl
theorem Try.cellsGroup : Try.prog.cellsOf 31 = 2 := by kernel_rfl
theorem Try.cellsWho : Try.prog.cellsOf 38 = 6 := by kernel_rfl
theorem Try.cellsBallot : Try.prog.cellsOf 44 = 7 := by kernel_rfl
theorem Try.cellsStep : Try.prog.cellsOf 46 = 13 := by kernel_rfl

section
variable {H : Type} {enc : TypeId × Value → H} {w : World} {base : Nat} {sp : Nat → Bool} {hd : Bool} {fuel : Nat} {cs : List Value} {x : DataW H × List MemPlace}
theorem trod_fields {t : TypeId} {fs : Array Field} (ht : Try.prog.underlying t = some (.struct fs)) (h : DataW.trod enc Try.prog w base sp hd fuel t cs = some x) :
    cs.length = Try.prog.cellsOf t ∧ ∃ n, ∀ (i : Nat) (ty : TypeId) (off c : Nat), (fs[i]?.map fun f => (f.type, f.offset)) = some (ty, off) → Try.prog.cellsOf ty = c → ∃ y, DataW.trod enc Try.prog w base sp hd n ty ((cs.drop off).take c) = some y := by
  obtain ⟨xs, n, _, _, hl, hn, hf⟩ := DataW.trod_struct ht h
  refine ⟨hl, n, fun i ty off c hi hc => ?_⟩
  cases hfi : fs[i]? with
  | none => rw [hfi] at hi; cases hi
  | some f =>
  rw [hfi] at hi
  simp only [Option.map_some, Option.some.injEq, Prod.mk.injEq] at hi
  obtain ⟨rfl, rfl⟩ := hi
  subst hc
  have hlt : i < xs.length := by
    rw [hn]
    have := Array.getElem?_eq_some_iff.1 hfi
    exact this.1
  exact ⟨xs[i], by rw [hf i f hfi, List.getElem?_eq_getElem hlt]⟩
theorem trod_i (h : DataW.trod enc Try.prog w base sp hd fuel 3 cs = some x) : ∃ n : Int, cs = [.int .i64 n] ∧ (Lit.int .i64 n).wf = true := by
  obtain ⟨a, e, _, hw⟩ := DataW.trod_int Try.underlying3 h
  exact ⟨a, e, hw⟩
theorem addr_plain {a : Addr} {v : Value} (h : w.cell? a = some v) : a.spot = none := by
  unfold World.cell? at h
  split at h
  · split at h
    · cases h
    · cases hh : a.spot with
      | none => rfl
      | some _ => simp_all
  · cases h
theorem addr_add (b off j : Nat) : (⟨b, off, none⟩ : Addr).add j = ⟨b, off + j, none⟩ := by
  unfold Addr.add
  split
  · next h => subst h; rfl
  · rfl
/-- What a slice of ints in memory holds. -/
theorem trod_gs (h : DataW.trod enc Try.prog w base sp hd fuel 29 cs = some x) : ∃ (ad : Option Addr) (gs : List Int) (cap : Nat), cs = [.slice ad gs.length cap] ∧ GsAt w ad gs ∧ gs.length ≤ maxLen := by
  rcases open_slice1 Try.underlying29 Try.cellsInt h with ⟨rfl, _⟩ | ⟨a, len, cap, m, n, V, D, Pl, rfl, _, hlc, hcm, hm, _, hx⟩
  · exact ⟨none, [], 0, rfl, fun j hj => by simp at hj, by simp⟩
  · have hlm : len ≤ m := by rw [hm]; split <;> omega
    refine ⟨some a, (List.range len).map fun i => match V i with | .int _ k => k | _ => 0, cap, by simp, ?_, by simp; omega⟩
    intro j hj
    have hj' : j < len := by simpa using hj
    obtain ⟨hc, ht⟩ := hx j (by omega)
    obtain ⟨k, e, _, _⟩ := DataW.trod_int Try.underlying3 ht
    have hVj : V j = .int .i64 k := by simpa using e
    have h0 := (hx 0 (by omega)).1
    have hs : a.spot = none := addr_plain (w := w) (v := V 0) (by simpa [Addr.add] using h0)
    obtain ⟨b, off, spot⟩ := a
    simp only at hs
    subst hs
    refine ⟨b, off, rfl, ?_⟩
    rw [addr_add] at hc
    rw [hc, hVj]
    congr 1
    simp [List.getD, List.getElem?_map, List.getElem?_range hj', hVj]
theorem trod_hard (h : DataW.trod enc Try.prog w base sp hd fuel 23 cs = some x) : ∃ a b : Int, cs = [.int .i64 a, .int .i64 b] ∧ (Lit.int .i64 a).wf = true ∧ (Lit.int .i64 b).wf = true := by
  obtain ⟨hl, n, hf⟩ := trod_fields Try.underlying23 h
  rw [Try.cellsHard] at hl
  match cs, hl with
  | [c0, c1], _ =>
    obtain ⟨y0, h0⟩ := hf 0 3 0 1 rfl Try.cellsInt
    obtain ⟨y1, h1⟩ := hf 1 3 1 1 rfl Try.cellsInt
    obtain ⟨a, e0, w0⟩ := trod_i h0
    obtain ⟨b, e1, w1⟩ := trod_i h1
    simp at e0 e1
    exact ⟨a, b, by rw [e0, e1], w0, w1⟩
structure GroupV where
  va : Option Addr
  vs : List Int
  vc : Nat
  la : Option Addr
  ls : List Int
  lc : Nat
def GroupV.c (g : GroupV) : List Value := [.slice g.va g.vs.length g.vc, .slice g.la g.ls.length g.lc]
structure GroupV.At (g : GroupV) (w : World) : Prop where
  hv : GsAt w g.va g.vs
  hl : GsAt w g.la g.ls
  vm : g.vs.length ≤ maxLen
  lm : g.ls.length ≤ maxLen
theorem trod_group (h : DataW.trod enc Try.prog w base sp hd fuel 31 cs = some x) : ∃ g : GroupV, cs = g.c ∧ g.At w := by
  obtain ⟨hl, n, hf⟩ := trod_fields Try.underlying31 h
  rw [Try.cellsGroup] at hl
  match cs, hl with
  | [c0, c1], _ =>
    obtain ⟨y0, h0⟩ := hf 0 29 0 1 rfl Try.cellsInts
    obtain ⟨y1, h1⟩ := hf 1 29 1 1 rfl Try.cellsInts
    obtain ⟨va, vs, vc, e0, gv, mv⟩ := trod_gs h0
    obtain ⟨la, ls, lc, e1, gl, ml⟩ := trod_gs h1
    simp at e0 e1
    exact ⟨⟨va, vs, vc, la, ls, lc⟩, by rw [e0, e1]; rfl, gv, gl, mv, ml⟩
structure WhoV where
  id : Int
  term : Int
  vote : Int
  g : GroupV
  pat : Int
def WhoV.c (o : WhoV) : List Value := [.int .i64 o.id, .int .i64 o.term, .int .i64 o.vote] ++ o.g.c ++ [.int .i64 o.pat]
theorem trod_who (h : DataW.trod enc Try.prog w base sp hd fuel 38 cs = some x) : ∃ o : WhoV, cs = o.c ∧ o.g.At w := by
  obtain ⟨hl, n, hf⟩ := trod_fields Try.underlying38 h
  rw [Try.cellsWho] at hl
  match cs, hl with
  | [c0, c1, c2, c3, c4, c5], _ =>
    obtain ⟨y0, h0⟩ := hf 0 3 0 1 rfl Try.cellsInt
    obtain ⟨y1, h1⟩ := hf 1 23 1 2 rfl Try.cellsHard
    obtain ⟨y2, h2⟩ := hf 2 31 3 2 rfl Try.cellsGroup
    obtain ⟨y3, h3⟩ := hf 3 3 5 1 rfl Try.cellsInt
    obtain ⟨i, e0, _⟩ := trod_i h0
    obtain ⟨t, v, e1, _, _⟩ := trod_hard h1
    obtain ⟨g, e2, hg⟩ := trod_group h2
    obtain ⟨p, e3, _⟩ := trod_i h3
    simp [GroupV.c] at e0 e1 e2 e3
    exact ⟨⟨i, t, v, g, p⟩, by rw [e0, e1.1, e1.2, e2.1, e2.2, e3]; rfl, hg⟩
theorem trod_ballot (h : DataW.trod enc Try.prog w base sp hd fuel 44 cs = some x) : ∃ b : Bal, cs = [.int .i64 b.kind, .int .i64 b.src, .int .i64 b.dst, .int .i64 b.term, .int .i64 b.index, .int .i64 b.logTerm, .bool b.yes] := by
  obtain ⟨hl, n, hf⟩ := trod_fields Try.underlying44 h
  rw [Try.cellsBallot] at hl
  match cs, hl with
  | [c0, c1, c2, c3, c4, c5, c6], _ =>
    obtain ⟨y0, h0⟩ := hf 0 3 0 1 rfl Try.cellsInt
    obtain ⟨y1, h1⟩ := hf 1 3 1 1 rfl Try.cellsInt
    obtain ⟨y2, h2⟩ := hf 2 3 2 1 rfl Try.cellsInt
    obtain ⟨y3, h3⟩ := hf 3 3 3 1 rfl Try.cellsInt
    obtain ⟨y4, h4⟩ := hf 4 3 4 1 rfl Try.cellsInt
    obtain ⟨y5, h5⟩ := hf 5 3 5 1 rfl Try.cellsInt
    obtain ⟨y6, h6⟩ := hf 6 4 6 1 rfl Try.cellsBool
    obtain ⟨a0, e0, _⟩ := trod_i h0
    obtain ⟨a1, e1, _⟩ := trod_i h1
    obtain ⟨a2, e2, _⟩ := trod_i h2
    obtain ⟨a3, e3, _⟩ := trod_i h3
    obtain ⟨a4, e4, _⟩ := trod_i h4
    obtain ⟨a5, e5, _⟩ := trod_i h5
    obtain ⟨a6, e6, _⟩ := DataW.trod_bool Try.underlying4 h6
    simp at e0 e1 e2 e3 e4 e5 e6
    exact ⟨⟨a0, a1, a2, a3, a4, a5, a6⟩, by rw [e0, e1, e2, e3, e4, e5, e6]⟩
theorem trod_pair (h : DataW.trod enc Try.prog w base sp hd fuel 42 cs = some x) : ∃ a b : Int, cs = [.int .i64 a, .int .i64 b] := by
  obtain ⟨xs, m, _, _, hl, hn, hx⟩ := DataW.trod_array Try.underlying42 h
  rw [Try.cellsPair] at hl
  match cs, hl with
  | [c0, c1], _ =>
    have h0 := hx 0 (by omega)
    have h1 := hx 1 (by omega)
    rw [Try.cellsInt] at h0 h1
    match xs, hn with
    | [x0, x1], _ =>
      obtain ⟨a, e0, _⟩ := trod_i (by simpa using h0)
      obtain ⟨b, e1, _⟩ := trod_i (by simpa using h1)
      simp at e0 e1
      exact ⟨a, b, by rw [e0, e1]⟩
structure StepV where
  act : Int
  draw : Int
  last : Int
  lt : Int
  b : Bal
  g : GroupV
def StepV.c (s : StepV) : List Value := [.int .i64 s.act, .int .i64 s.draw, .int .i64 s.last, .int .i64 s.lt, .int .i64 s.b.kind, .int .i64 s.b.src, .int .i64 s.b.dst, .int .i64 s.b.term, .int .i64 s.b.index, .int .i64 s.b.logTerm, .bool s.b.yes] ++ s.g.c
theorem trod_step (h : DataW.trod enc Try.prog w base sp hd fuel 46 cs = some x) : ∃ s : StepV, cs = s.c ∧ s.g.At w := by
  obtain ⟨hl, n, hf⟩ := trod_fields Try.underlying46 h
  rw [Try.cellsStep] at hl
  match cs, hl with
  | [c0, c1, c2, c3, c4, c5, c6, c7, c8, c9, c10, c11, c12], _ =>
    obtain ⟨y0, h0⟩ := hf 0 3 0 1 rfl Try.cellsInt
    obtain ⟨y1, h1⟩ := hf 1 3 1 1 rfl Try.cellsInt
    obtain ⟨y2, h2⟩ := hf 2 42 2 2 rfl Try.cellsPair
    obtain ⟨y3, h3⟩ := hf 3 44 4 7 rfl Try.cellsBallot
    obtain ⟨y4, h4⟩ := hf 4 31 11 2 rfl Try.cellsGroup
    obtain ⟨a0, e0, _⟩ := trod_i h0
    obtain ⟨a1, e1, _⟩ := trod_i h1
    obtain ⟨l0, l1, e2⟩ := trod_pair h2
    obtain ⟨b, e3⟩ := trod_ballot h3
    obtain ⟨g, e4, hg⟩ := trod_group h4
    simp [GroupV.c] at e0 e1 e2 e3 e4
    obtain ⟨e20, e21⟩ := e2
    obtain ⟨e30, e31, e32, e33, e34, e35, e36⟩ := e3
    obtain ⟨e40, e41⟩ := e4
    exact ⟨⟨a0, a1, l0, l1, b, g⟩, by rw [e0, e1, e20, e21, e30, e31, e32, e33, e34, e35, e36, e40, e41]; rfl, hg⟩
theorem choose_below {α : Type} [Inhabited α] {p : Nat → α → Prop} {n : Nat} (h : ∀ i, i < n → ∃ a, p i a) : ∃ l : List α, l.length = n ∧ ∀ i, i < n → p i (l.getD i default) := by
  induction n with
  | zero => exact ⟨[], rfl, fun i hi => by omega⟩
  | succ n ih =>
    obtain ⟨l, hl, hp⟩ := ih (fun i hi => h i (by omega))
    obtain ⟨a, ha⟩ := h n (by omega)
    refine ⟨l ++ [a], by simp [hl], fun i hi => ?_⟩
    by_cases hin : i < n
    · have := hp i hin
      rw [List.getD_eq_getElem?_getD, List.getElem?_append_left (by omega), ← List.getD_eq_getElem?_getD]
      exact this
    · obtain rfl : i = n := by omega
      rw [List.getD_eq_getElem?_getD, List.getElem?_append_right (by omega), hl]
      simpa using ha
/-- Items of some cells each, in a row. -/
def ItemsAt (w : World) (a : Option Addr) (n size : Nat) (c : Nat → List Value) : Prop := ∀ i, i < n → ∃ b off, a = some ⟨b, off, none⟩ ∧ ∀ j u, (c i)[j]? = some u → w.cell? ⟨b, off + i * size + j, none⟩ = some u
theorem ItemsAt.keep {w w' : World} {a : Option Addr} {n size : Nat} {c : Nat → List Value} (h : ItemsAt w a n size c) (hb : Below w.heap.size w w') : ItemsAt w' a n size c := fun i hi => by
  obtain ⟨b, off, e, hc⟩ := h i hi
  exact ⟨b, off, e, fun j u hu => cell_keep hb (hc j u hu)⟩
theorem open_items {α : Type} [Inhabited α] {t e : TypeId} {size : Nat} {c : α → List Value} {F : α → Prop} (ht : Try.prog.underlying t = some (.slice e)) (hce : Try.prog.cellsOf e = size) (hs0 : 0 < size)
    (one : ∀ {fuel : Nat} {cs : List Value} {x : DataW H × List MemPlace}, DataW.trod enc Try.prog w base sp hd fuel e cs = some x → ∃ s : α, cs = c s ∧ F s)
    (h : DataW.trod enc Try.prog w base sp hd fuel t cs = some x) : ∃ (ad : Option Addr) (l : List α) (cap : Nat), cs = [.slice ad l.length cap] ∧ ItemsAt w ad l.length size (fun i => c (l.getD i default)) ∧ l.length ≤ maxLen ∧ ∀ i, i < l.length → F (l.getD i default) := by
  rcases open_slice ht h with ⟨rfl, _⟩ | ⟨a, len, cap, m, n, D, Pl, rfl, _, hlc, hcm, hm, _, hx⟩
  · exact ⟨none, [], 0, rfl, fun j hj => by simp at hj, by simp, fun i hi => by simp at hi⟩
  · have hlm : len ≤ m := by rw [hm]; split <;> omega
    have each : ∀ i, i < len → ∃ s : α, (w.cells? base (a.add (i * size)) size = some (c s) ∧ (c s).length = size) ∧ F s := fun i hi => by
      obtain ⟨cs', h1, h2⟩ := hx i (by omega)
      rw [hce] at h1
      obtain ⟨s, rfl, hF⟩ := one h2
      exact ⟨s, ⟨h1, (World.cells?_some h1).2.1⟩, hF⟩
    obtain ⟨l, hl, hp⟩ := choose_below each
    refine ⟨some a, l, cap, by rw [hl], ?_, by omega, fun i hi => (hp i (by omega)).2⟩
    intro i hi
    have hi' : i < len := by omega
    have hs : a.spot = none := by
      obtain ⟨⟨h1, h3⟩, _⟩ := hp 0 (by omega)
      obtain ⟨_, _, h2⟩ := World.cells?_some h1
      have h4 := h2 0 hs0
      rw [List.getElem?_eq_getElem (by omega)] at h4
      exact addr_plain (w := w) (by simpa [Addr.add] using h4)
    obtain ⟨b, off, spot⟩ := a
    simp only at hs
    subst hs
    refine ⟨b, off, rfl, fun j u hu => ?_⟩
    obtain ⟨⟨h1, h3⟩, _⟩ := hp i hi'
    obtain ⟨_, _, h2⟩ := World.cells?_some h1
    have hj : j < size := by
      have := (List.getElem?_eq_some_iff.1 hu).1
      rw [← h3]
      exact this
    have h4 := h2 j hj
    rw [addr_add, addr_add] at h4
    rw [h4]
    exact hu
end

theorem openHard {H : Type} {enc : TypeId × Value → H} {W : World} {r : Reach} {base b0 : Nat} {sp : Nat → Bool} {hd : Bool} {v : Value} {d : DataW H} {ps : List MemPlace}
    (hv : Value.okWide Try.prog W r b0 23 v) (h : DataW.Trod enc Try.prog W base sp hd 23 v d ps) :
    ∃ p : Int × Int, v = .agg #[.int .i64 p.1, .int .i64 p.2] ∧ (Lit.int .i64 p.1).wf = true := by
  obtain ⟨cs, rfl, hsz⟩ := okWide_struct Try.underlying23 hv
  obtain ⟨fuel, hf⟩ := h
  obtain ⟨a, b, e, wa, wb⟩ := trod_hard hf
  refine ⟨(a, b), ?_, wa⟩
  congr 1
  apply Array.toList_inj.1
  simpa [Value.cells] using e
theorem openWho {H : Type} {enc : TypeId × Value → H} {W : World} {r : Reach} {base b0 : Nat} {sp : Nat → Bool} {hd : Bool} {v : Value} {d : DataW H} {ps : List MemPlace}
    (hv : Value.okWide Try.prog W r b0 38 v) (h : DataW.Trod enc Try.prog W base sp hd 38 v d ps) :
    ∃ p : WhoV, v = .agg p.c.toArray ∧ p.g.At W := by
  obtain ⟨cs, rfl, hsz⟩ := okWide_struct Try.underlying38 hv
  obtain ⟨fuel, hf⟩ := h
  obtain ⟨o, e, hg⟩ := trod_who hf
  refine ⟨o, ?_, hg⟩
  congr 1
  apply Array.toList_inj.1
  simpa [Value.cells] using e
structure IntsV where
  ad : Option Addr
  gs : List Int
  cap : Nat
theorem openGs {H : Type} {enc : TypeId × Value → H} {W : World} {r : Reach} {base b0 : Nat} {sp : Nat → Bool} {hd : Bool} {v : Value} {d : DataW H} {ps : List MemPlace}
    (hv : Value.okWide Try.prog W r b0 29 v) (h : DataW.Trod enc Try.prog W base sp hd 29 v d ps) :
    ∃ p : IntsV, v = .slice p.ad p.gs.length p.cap ∧ GsAt W p.ad p.gs ∧ p.gs.length ≤ maxLen := by
  obtain ⟨fuel, hf⟩ := h
  obtain ⟨ad, gs, cap, e, hg, hl⟩ := trod_gs hf
  refine ⟨⟨ad, gs, cap⟩, ?_, hg, hl⟩
  obtain ⟨a, n, c, rfl⟩ := okWide_slice Try.underlying29 hv
  simpa [Value.cells] using e
instance : Inhabited GroupV := ⟨⟨none, [], 0, none, [], 0⟩⟩
instance : Inhabited Bal := ⟨⟨0, 0, 0, 0, 0, 0, false⟩⟩
instance : Inhabited StepV := ⟨⟨0, 0, 0, 0, default, default⟩⟩
structure StepsV where
  ad : Option Addr
  l : List StepV
  cap : Nat
structure StepsV.At (p : StepsV) (w : World) : Prop where
  at_ : ItemsAt w p.ad p.l.length 13 (fun i => (p.l.getD i default).c)
  max : p.l.length ≤ maxLen
  gs : ∀ i, i < p.l.length → (p.l.getD i default).g.At w
theorem openSteps {H : Type} {enc : TypeId × Value → H} {W : World} {r : Reach} {base b0 : Nat} {sp : Nat → Bool} {hd : Bool} {v : Value} {d : DataW H} {ps : List MemPlace}
    (hv : Value.okWide Try.prog W r b0 41 v) (h : DataW.Trod enc Try.prog W base sp hd 41 v d ps) :
    ∃ p : StepsV, v = .slice p.ad p.l.length p.cap ∧ p.At W := by
  obtain ⟨fuel, hf⟩ := h
  obtain ⟨ad, l, cap, e, hg, hl, hF⟩ := open_items (α := StepV) (c := StepV.c) (F := fun s => s.g.At W) Try.underlying41 Try.cellsStep (by omega) (fun h => trod_step h) hf
  refine ⟨⟨ad, l, cap⟩, ?_, ⟨hg, hl, hF⟩⟩
  obtain ⟨a, n, c, rfl⟩ := okWide_slice Try.underlying41 hv
  simpa [Value.cells] using e
end Go.Proofs.Ytiamfdnllpiikaa
