/- What comes in by value, opened: steps of logs and their entries. Conditions: none. -/
import Derived.Test.YteflgempjecnpaaAid
import Derived.ProofKit
import Derived.OpenShut
import Derived.Deep.Slices
namespace Go.Proofs.Yteflgempjecnpaa
open Go.ChangeShapes Go.WideShapes Go.ChangeAt Go.RowKit
open Go.Deep (open_slice1 open_slice)

theorem Try.cellsInt : Try.prog.cellsOf 3 = 1 := by kernel_rfl
theorem Try.cellsByte : Try.prog.cellsOf 5 = 1 := by kernel_rfl
theorem Try.cellsBytes : Try.prog.cellsOf 43 = 1 := by kernel_rfl
theorem Try.cellsEntry : Try.prog.cellsOf 45 = 4 := by kernel_rfl
theorem Try.cellsEntries : Try.prog.cellsOf 33 = 1 := by kernel_rfl
theorem Try.cellsStep : Try.prog.cellsOf 35 = 4 := by kernel_rfl
section
variable {H : Type} {enc : TypeId × Value → H} {w : World} {base : Nat} {sp : Nat → Bool} {hd : Bool} {fuel : Nat} {cs : List Value} {x : DataW H × List MemPlace}
theorem trod_fields {t : TypeId} {fs : Array Field} (ht : Try.prog.underlying t = some (.struct fs)) (h : DataW.trod enc Try.prog w base sp hd fuel t cs = some x) :
    cs.length = Try.prog.cellsOf t ∧ ∃ n, ∀ (i : Nat) (ty : TypeId) (off c : Nat), (fs[i]?.map fun f => (f.type, f.offset)) = some (ty, off) → Try.prog.cellsOf ty = c → ∃ y, DataW.trod enc Try.prog w base sp hd n ty ((cs.drop off).take c) = some y := by
  obtain ⟨xs, n, _, _, hl, hn, hf⟩ := DataW.trod_struct ht h
  refine ⟨hl, n, fun i ty off c hi hc => ?_⟩
  cases hfi : fs[i]? with
  | none => rw [hfi] at hi; cases hi
  | some f =>
  rw [hfi] at hi
  simp only [Option.map_some, Option.some.injEq, Prod.mk.injEq] at hi
  obtain ⟨rfl, rfl⟩ := hi
  subst hc
  have hlt : i < xs.length := by
    rw [hn]
    have := Array.getElem?_eq_some_iff.1 hfi
    exact this.1
  exact ⟨xs[i], by rw [hf i f hfi, List.getElem?_eq_getElem hlt]⟩
theorem trod_i (h : DataW.trod enc Try.prog w base sp hd fuel 3 cs = some x) : ∃ n : Int, cs = [.int .i64 n] ∧ (Lit.int .i64 n).wf = true := by
  obtain ⟨a, e, _, hw⟩ := DataW.trod_int Try.underlying3 h
  exact ⟨a, e, hw⟩
theorem addr_plain {a : Addr} {v : Value} (h : w.cell? a = some v) : a.spot = none := by
  unfold World.cell? at h
  split at h
  · split at h
    · cases h
    · cases hh : a.spot with
      | none => rfl
      | some _ => simp_all
  · cases h
theorem addr_add (b off j : Nat) : (⟨b, off, none⟩ : Addr).add j = ⟨b, off + j, none⟩ := by
  unfold Addr.add
  split
  · next h => subst h; rfl
  · rfl
theorem choose_below {α : Type} [Inhabited α] {p : Nat → α → Prop} {n : Nat} (h : ∀ i, i < n → ∃ a, p i a) : ∃ l : List α, l.length = n ∧ ∀ i, i < n → p i (l.getD i default) := by
  induction n with
  | zero => exact ⟨[], rfl, fun i hi => by omega⟩
  | succ n ih =>
    obtain ⟨l, hl, hp⟩ := ih (fun i hi => h i (by omega))
    obtain ⟨a, ha⟩ := h n (by omega)
    refine ⟨l ++ [a], by simp [hl], fun i hi => ?_⟩
    by_cases hin : i < n
    · have := hp i hin
      rw [List.getD_eq_getElem?_getD, List.getElem?_append_left (by omega), ← List.getD_eq_getElem?_getD]
      exact this
    · obtain rfl : i = n := by omega
      rw [List.getD_eq_getElem?_getD, List.getElem?_append_right (by omega), hl]
      simpa using ha
/-- Items of some cells each, in a row. -/
def ItemsAt (w : World) (a : Option Addr) (n size : Nat) (c : Nat → List Value) : Prop := ∀ i, i < n → ∃ b off, a = some ⟨b, off, none⟩ ∧ ∀ j u, (c i)[j]? = some u → w.cell? ⟨b, off + i * size + j, none⟩ = some u
theorem ItemsAt.keep {w w' : World} {a : Option Addr} {n size : Nat} {c : Nat → List Value} (h : ItemsAt w a n size c) (hb : Below w.heap.size w w') : ItemsAt w' a n size c := fun i hi => by
  obtain ⟨b, off, e, hc⟩ := h i hi
  exact ⟨b, off, e, fun j u hu => cell_keep hb (hc j u hu)⟩
theorem open_items {α : Type} [Inhabited α] {t e : TypeId} {size : Nat} {c : α → List Value} {F : α → Prop} (ht : Try.prog.underlying t = some (.slice e)) (hce : Try.prog.cellsOf e = size) (hs0 : 0 < size)
    (one : ∀ {fuel : Nat} {cs : List Value} {x : DataW H × List MemPlace}, DataW.trod enc Try.prog w base sp hd fuel e cs = some x → ∃ s : α, cs = c s ∧ F s)
    (h : DataW.trod enc Try.prog w base sp hd fuel t cs = some x) : ∃ (ad : Option Addr) (l : List α) (cap : Nat), cs = [.slice ad l.length cap] ∧ ItemsAt w ad l.length size (fun i => c (l.getD i default)) ∧ l.length ≤ maxLen ∧ (∀ i, i < l.length → F (l.getD i default)) ∧ (ad = none → cap = 0) ∧ l.length ≤ cap ∧ ((x.1 = .nil ∧ l.length = 0) ∨ ∃ es sp, x.1 = .slice es sp ∧ es.length = l.length) := by
  rcases open_slice ht h with ⟨rfl, rfl⟩ | ⟨a, len, cap, m, n, D, Pl, rfl, _, hlc, hcm, hm, rfl, hx⟩
  · exact ⟨none, [], 0, rfl, fun j hj => by simp at hj, by simp, fun i hi => by simp at hi, fun _ => rfl, by simp, .inl ⟨rfl, rfl⟩⟩
  · have hlm : len ≤ m := by rw [hm]; split <;> omega
    have each : ∀ i, i < len → ∃ s : α, (w.cells? base (a.add (i * size)) size = some (c s) ∧ (c s).length = size) ∧ F s := fun i hi => by
      obtain ⟨cs', h1, h2⟩ := hx i (by omega)
      rw [hce] at h1
      obtain ⟨s, rfl, hF⟩ := one h2
      exact ⟨s, ⟨h1, (World.cells?_some h1).2.1⟩, hF⟩
    obtain ⟨l, hl, hp⟩ := choose_below each
    refine ⟨some a, l, cap, by rw [hl], ?_, by omega, fun i hi => (hp i (by omega)).2, (fun h => by cases h), by omega, .inr ⟨_, _, rfl, by simp [hl]⟩⟩
    intro i hi
    have hi' : i < len := by omega
    have hs : a.spot = none := by
      obtain ⟨⟨h1, h3⟩, _⟩ := hp 0 (by omega)
      obtain ⟨_, _, h2⟩ := World.cells?_some h1
      have h4 := h2 0 hs0
      rw [List.getElem?_eq_getElem (by omega)] at h4
      exact addr_plain (w := w) (by simpa [Addr.add] using h4)
    obtain ⟨b, off, spot⟩ := a
    simp only at hs
    subst hs
    refine ⟨b, off, rfl, fun j u hu => ?_⟩
    obtain ⟨⟨h1, h3⟩, _⟩ := hp i hi'
    obtain ⟨_, _, h2⟩ := World.cells?_some h1
    have hj : j < size := by
      have := (List.getElem?_eq_some_iff.1 hu).1
      rw [← h3]
      exact this
    have h4 := h2 j hj
    rw [addr_add, addr_add] at h4
    rw [h4]
    exact hu
/-- Bytes at an address. -/
structure DV where
  a : Option Addr
  bs : List Int
  c : Nat
instance : Inhabited DV := ⟨⟨none, [], 0⟩⟩
def DV.v (d : DV) : Value := .slice d.a d.bs.length d.c
def DV.At (d : DV) (w : World) : Prop := ∀ j, j < d.bs.length → ∃ b off, d.a = some ⟨b, off, none⟩ ∧ w.cell? ⟨b, off + j, none⟩ = some (.int .u8 (d.bs.getD j 0))
structure Ent where
  ix : Int
  tm : Int
  kd : Int
  d : DV
instance : Inhabited Ent := ⟨⟨0, 0, 0, default⟩⟩
def entC (e : Ent) : List Value := [.int .i64 e.ix, .int .i64 e.tm, .int .i64 e.kd, e.d.v]
theorem trod_bytes (h : DataW.trod enc Try.prog w base sp hd fuel 43 cs = some x) : ∃ d : DV, cs = [d.v] ∧ d.At w ∧ d.bs.length ≤ maxLen ∧ (d.a = none → d.c = 0) := by
  rcases open_slice1 Try.underlying43 Try.cellsByte h with ⟨rfl, _⟩ | ⟨a, len, cap, m, n, V, D, Pl, rfl, _, hlc, hcm, hm, _, hx⟩
  · exact ⟨⟨none, [], 0⟩, rfl, fun j hj => by simp at hj, by simp, fun _ => rfl⟩
  · have hlm : len ≤ m := by rw [hm]; split <;> omega
    refine ⟨⟨some a, (List.range len).map fun i => match V i with | .int _ k => k | _ => 0, cap⟩, by simp [DV.v], ?_, by simp; omega, fun h => by cases h⟩
    intro j hj
    have hj' : j < len := by simpa using hj
    obtain ⟨hc, ht⟩ := hx j (by omega)
    obtain ⟨k, e, _, _⟩ := DataW.trod_int Try.underlying5 ht
    have hVj : V j = .int .u8 k := by simpa using e
    have h0 := (hx 0 (by omega)).1
    have hs : a.spot = none := addr_plain (w := w) (v := V 0) (by simpa [Addr.add] using h0)
    obtain ⟨b, off, spot⟩ := a
    simp only at hs
    subst hs
    refine ⟨b, off, rfl, ?_⟩
    rw [addr_add] at hc
    rw [hc, hVj]
    congr 1
    simp [List.getD, List.getElem?_map, List.getElem?_range hj', hVj]
theorem trod_ent (h : DataW.trod enc Try.prog w base sp hd fuel 45 cs = some x) : ∃ e : Ent, cs = entC e ∧ (e.d.At w ∧ e.d.bs.length ≤ maxLen ∧ (e.d.a = none → e.d.c = 0)) := by
  obtain ⟨hl, n, hf⟩ := trod_fields Try.underlying45 h
  rw [Try.cellsEntry] at hl
  match cs, hl with
  | [c0, c1, c2, c3], _ =>
    obtain ⟨y0, h0⟩ := hf 0 3 0 1 rfl Try.cellsInt
    obtain ⟨y1, h1⟩ := hf 1 3 1 1 rfl Try.cellsInt
    obtain ⟨y2, h2⟩ := hf 2 3 2 1 rfl Try.cellsInt
    obtain ⟨y3, h3⟩ := hf 3 43 3 1 rfl Try.cellsBytes
    obtain ⟨a0, e0, _⟩ := trod_i h0
    obtain ⟨a1, e1, _⟩ := trod_i h1
    obtain ⟨a2, e2, _⟩ := trod_i h2
    obtain ⟨d, e3, hd⟩ := trod_bytes h3
    simp at e0 e1 e2 e3
    exact ⟨⟨a0, a1, a2, d⟩, by rw [e0, e1, e2, e3]; rfl, hd⟩
/-- Entries in a row. -/
structure EV where
  a : Option Addr
  l : List Ent
  c : Nat
instance : Inhabited EV := ⟨⟨none, [], 0⟩⟩
def EV.v (e : EV) : Value := .slice e.a e.l.length e.c
structure EV.At (e : EV) (w : World) : Prop where
  at_ : ItemsAt w e.a e.l.length 4 (fun i => entC (e.l.getD i default))
  max : e.l.length ≤ maxLen
  d : ∀ i, i < e.l.length → (e.l.getD i default).d.At w ∧ (e.l.getD i default).d.bs.length ≤ maxLen ∧ ((e.l.getD i default).d.a = none → (e.l.getD i default).d.c = 0)
  nil : e.a = none → e.c = 0
  cap : e.l.length ≤ e.c
theorem DV.At.keep {d : DV} {w w' : World} (h : d.At w) (k : Below w.heap.size w w') : d.At w' := fun j hj => by
  obtain ⟨b, off, e, hc⟩ := h j hj
  exact ⟨b, off, e, cell_keep k hc⟩
theorem EV.At.keep {e : EV} {w w' : World} (h : e.At w) (k : Below w.heap.size w w') : e.At w' := ⟨h.at_.keep k, h.max, fun i hi => ⟨(h.d i hi).1.keep k, (h.d i hi).2⟩, h.nil, h.cap⟩
theorem trod_entries (h : DataW.trod enc Try.prog w base sp hd fuel 33 cs = some x) : ∃ e : EV, cs = [e.v] ∧ e.At w := by
  obtain ⟨ad, l, cap, e, hg, hl, hF, hnl, hcap, _⟩ := open_items (α := Ent) (c := entC) (F := fun e => e.d.At w ∧ e.d.bs.length ≤ maxLen ∧ (e.d.a = none → e.d.c = 0)) Try.underlying33 Try.cellsEntry (by omega) (fun h => trod_ent h) h
  exact ⟨⟨ad, l, cap⟩, e, hg, hl, hF, hnl, hcap⟩
structure StV where
  act : Int
  i : Int
  tm : Int
  e : EV
instance : Inhabited StV := ⟨⟨0, 0, 0, default⟩⟩
def StV.c (s : StV) : List Value := [.int .i64 s.act, .int .i64 s.i, .int .i64 s.tm, s.e.v]
structure StV.At (s : StV) (w : World) : Prop where
  e : s.e.At w
  wi : (Lit.int .i64 s.i).wf = true
  wt : (Lit.int .i64 s.tm).wf = true
theorem trod_st (h : DataW.trod enc Try.prog w base sp hd fuel 35 cs = some x) : ∃ s : StV, cs = s.c ∧ s.At w := by
  obtain ⟨hl, n, hf⟩ := trod_fields Try.underlying35 h
  rw [Try.cellsStep] at hl
  match cs, hl with
  | [c0, c1, c2, c3], _ =>
    obtain ⟨y0, h0⟩ := hf 0 3 0 1 rfl Try.cellsInt
    obtain ⟨y1, h1⟩ := hf 1 3 1 1 rfl Try.cellsInt
    obtain ⟨y2, h2⟩ := hf 2 3 2 1 rfl Try.cellsInt
    obtain ⟨y3, h3⟩ := hf 3 33 3 1 rfl Try.cellsEntries
    obtain ⟨a0, e0, _⟩ := trod_i h0
    obtain ⟨a1, e1, w1⟩ := trod_i h1
    obtain ⟨a2, e2, w2⟩ := trod_i h2
    obtain ⟨d, e3, hd⟩ := trod_entries h3
    simp at e0 e1 e2 e3
    exact ⟨⟨a0, a1, a2, d⟩, by rw [e0, e1, e2, e3]; rfl, hd, w1, w2⟩
end
structure StsV where
  a : Option Addr
  l : List StV
  c : Nat
structure StsV.At (p : StsV) (w : World) : Prop where
  at_ : ItemsAt w p.a p.l.length 4 (fun i => (p.l.getD i default).c)
  max : p.l.length ≤ maxLen
  s : ∀ i, i < p.l.length → (p.l.getD i default).At w
  nil : p.a = none → p.c = 0
  cap : p.l.length ≤ p.c
theorem openSts {H : Type} {enc : TypeId × Value → H} {W : World} {r : Reach} {base b0 : Nat} {sp : Nat → Bool} {hd : Bool} {v : Value} {d : DataW H} {ps : List MemPlace}
    (hv : Value.okWide Try.prog W r b0 32 v) (h : DataW.Trod enc Try.prog W base sp hd 32 v d ps) :
    ∃ p : StsV, v = .slice p.a p.l.length p.c ∧ p.At W ∧ ((d = .nil ∧ p.l.length = 0) ∨ ∃ es sp, d = .slice es sp ∧ es.length = p.l.length) := by
  obtain ⟨fuel, hf⟩ := h
  obtain ⟨ad, l, cap, e, hg, hl, hF, hnl, hcap, hd2⟩ := open_items (α := StV) (c := StV.c) (F := fun s => s.At W) Try.underlying32 Try.cellsStep (by omega) (fun h => trod_st h) hf
  refine ⟨⟨ad, l, cap⟩, ?_, ⟨hg, hl, hF, hnl, hcap⟩, hd2⟩
  obtain ⟨a, n, c, rfl⟩ := okWide_slice Try.underlying32 hv
  simpa [Value.cells] using e
theorem openSt {H : Type} {enc : TypeId × Value → H} {W : World} {r : Reach} {base b0 : Nat} {sp : Nat → Bool} {hd : Bool} {v : Value} {d : DataW H} {ps : List MemPlace}
    (hv : Value.okWide Try.prog W r b0 35 v) (h : DataW.Trod enc Try.prog W base sp hd 35 v d ps) :
    ∃ p : StV, v = .agg p.c.toArray ∧ p.At W := by
  obtain ⟨cs, rfl, hsz⟩ := okWide_struct Try.underlying35 hv
  obtain ⟨fuel, hf⟩ := h
  obtain ⟨o, e, hg⟩ := trod_st hf
  refine ⟨o, ?_, hg⟩
  congr 1
  apply Array.toList_inj.1
  simpa [Value.cells] using e
end Go.Proofs.Yteflgempjecnpaa
