/- What comes in by value, opened: a flight's setting, its steps. Conditions: none. -/
import Derived.Test.YtmnoacjmdnmddaaDoorTcNew
import Derived.Test.YtmnoacjmdnmddaaDoorOpenLay
import Derived.ProofKit
import Derived.OpenShut
import Derived.Deep.Slices
namespace Go.Proofs.YtmnoacjmdnmddaaDoor
open Go.ChangeShapes Go.WideShapes Go.ChangeAt Go.RowKit
open Go.Deep (open_slice1 open_slice)

theorem Tryd.cellsFloat : Tryd.prog.cellsOf 33 = 1 := by kernel_rfl
theorem Tryd.cellsFloats : Tryd.prog.cellsOf 25 = 1 := by kernel_rfl
theorem Tryd.cellsStr : Tryd.prog.cellsOf 9 = 1 := by kernel_rfl
theorem Tryd.cellsSetting : Tryd.prog.cellsOf 27 = 4 := by kernel_rfl
theorem Tryd.cellsStep : Tryd.prog.cellsOf 39 = 5 := by kernel_rfl
section
variable {H : Type} {enc : TypeId × Value → H} {w : World} {base : Nat} {sp : Nat → Bool} {hd : Bool} {fuel : Nat} {cs : List Value} {x : DataW H × List MemPlace}
theorem trod_fields {t : TypeId} {fs : Array Field} (ht : Tryd.prog.underlying t = some (.struct fs)) (h : DataW.trod enc Tryd.prog w base sp hd fuel t cs = some x) :
    cs.length = Tryd.prog.cellsOf t ∧ ∃ n, ∀ (i : Nat) (ty : TypeId) (off c : Nat), (fs[i]?.map fun f => (f.type, f.offset)) = some (ty, off) → Tryd.prog.cellsOf ty = c → ∃ y, DataW.trod enc Tryd.prog w base sp hd n ty ((cs.drop off).take c) = some y := by
  obtain ⟨xs, n, _, _, hl, hn, hf⟩ := DataW.trod_struct ht h
  refine ⟨hl, n, fun i ty off c hi hc => ?_⟩
  cases hfi : fs[i]? with
  | none => rw [hfi] at hi; cases hi
  | some f =>
  rw [hfi] at hi
  simp only [Option.map_some, Option.some.injEq, Prod.mk.injEq] at hi
  obtain ⟨rfl, rfl⟩ := hi
  subst hc
  have hlt : i < xs.length := by
    rw [hn]
    have := Array.getElem?_eq_some_iff.1 hfi
    exact this.1
  exact ⟨xs[i], by rw [hf i f hfi, List.getElem?_eq_getElem hlt]⟩
theorem trod_i (h : DataW.trod enc Tryd.prog w base sp hd fuel 3 cs = some x) : ∃ n : Int, cs = [.int .i64 n] ∧ (Lit.int .i64 n).wf = true := by
  obtain ⟨a, e, _, hw⟩ := DataW.trod_int Tryd.underlying3 h
  exact ⟨a, e, hw⟩
theorem addr_plain {a : Addr} {v : Value} (h : w.cell? a = some v) : a.spot = none := by
  unfold World.cell? at h
  split at h
  · split at h
    · cases h
    · cases hh : a.spot with
      | none => rfl
      | some _ => simp_all
  · cases h
theorem addr_plus (b off j : Nat) : (⟨b, off, none⟩ : Addr).add j = ⟨b, off + j, none⟩ := by
  unfold Addr.add
  split
  · next h => subst h; rfl
  · rfl
theorem choose_below {α : Type} [Inhabited α] {p : Nat → α → Prop} {n : Nat} (h : ∀ i, i < n → ∃ a, p i a) : ∃ l : List α, l.length = n ∧ ∀ i, i < n → p i (l.getD i default) := by
  induction n with
  | zero => exact ⟨[], rfl, fun i hi => by omega⟩
  | succ n ih =>
    obtain ⟨l, hl, hp⟩ := ih (fun i hi => h i (by omega))
    obtain ⟨a, ha⟩ := h n (by omega)
    refine ⟨l ++ [a], by simp [hl], fun i hi => ?_⟩
    by_cases hin : i < n
    · have := hp i hin
      rw [List.getD_eq_getElem?_getD, List.getElem?_append_left (by omega), ← List.getD_eq_getElem?_getD]
      exact this
    · obtain rfl : i = n := by omega
      rw [List.getD_eq_getElem?_getD, List.getElem?_append_right (by omega), hl]
      simpa using ha
/-- Items of some cells each, in a row. -/
def ItemsAt (w : World) (a : Option Addr) (n size : Nat) (c : Nat → List Value) : Prop := ∀ i, i < n → ∃ b off, a = some ⟨b, off, none⟩ ∧ ∀ j u, (c i)[j]? = some u → w.cell? ⟨b, off + i * size + j, none⟩ = some u
theorem ItemsAt.keep {w w' : World} {a : Option Addr} {n size : Nat} {c : Nat → List Value} (h : ItemsAt w a n size c) (hb : Below w.heap.size w w') : ItemsAt w' a n size c := fun i hi => by
  obtain ⟨b, off, e, hc⟩ := h i hi
  exact ⟨b, off, e, fun j u hu => cell_keep hb (hc j u hu)⟩
theorem open_items {α : Type} [Inhabited α] {t e : TypeId} {size : Nat} {c : α → List Value} {F : α → Prop} (ht : Tryd.prog.underlying t = some (.slice e)) (hce : Tryd.prog.cellsOf e = size) (hs0 : 0 < size)
    (one : ∀ {fuel : Nat} {cs : List Value} {x : DataW H × List MemPlace}, DataW.trod enc Tryd.prog w base sp hd fuel e cs = some x → ∃ s : α, cs = c s ∧ F s)
    (h : DataW.trod enc Tryd.prog w base sp hd fuel t cs = some x) : ∃ (ad : Option Addr) (l : List α) (cap : Nat), cs = [.slice ad l.length cap] ∧ ItemsAt w ad l.length size (fun i => c (l.getD i default)) ∧ l.length ≤ maxLen ∧ (∀ i, i < l.length → F (l.getD i default)) ∧ (ad = none → cap = 0) ∧ l.length ≤ cap ∧ cap ≤ maxLen := by
  rcases open_slice ht h with ⟨rfl, rfl⟩ | ⟨a, len, cap, m, n, D, Pl, rfl, _, hlc, hcm, hm, rfl, hx⟩
  · exact ⟨none, [], 0, rfl, fun j hj => by simp at hj, by simp, fun i hi => by simp at hi, fun _ => rfl, by simp, by simp⟩
  · have hlm : len ≤ m := by rw [hm]; split <;> omega
    have each : ∀ i, i < len → ∃ s : α, (w.cells? base (a.add (i * size)) size = some (c s) ∧ (c s).length = size) ∧ F s := fun i hi => by
      obtain ⟨cs', h1, h2⟩ := hx i (by omega)
      rw [hce] at h1
      obtain ⟨s, rfl, hF⟩ := one h2
      exact ⟨s, ⟨h1, (World.cells?_some h1).2.1⟩, hF⟩
    obtain ⟨l, hl, hp⟩ := choose_below each
    refine ⟨some a, l, cap, by rw [hl], ?_, by omega, fun i hi => (hp i (by omega)).2, (fun h => by cases h), by omega, hcm⟩
    intro i hi
    have hi' : i < len := by omega
    have hs : a.spot = none := by
      obtain ⟨⟨h1, h3⟩, _⟩ := hp 0 (by omega)
      obtain ⟨_, _, h2⟩ := World.cells?_some h1
      have h4 := h2 0 hs0
      rw [List.getElem?_eq_getElem (by omega)] at h4
      exact addr_plain (w := w) (by simpa [Addr.add] using h4)
    obtain ⟨b, off, spot⟩ := a
    simp only at hs
    subst hs
    refine ⟨b, off, rfl, fun j u hu => ?_⟩
    obtain ⟨⟨h1, h3⟩, _⟩ := hp i hi'
    obtain ⟨_, _, h2⟩ := World.cells?_some h1
    have hj : j < size := by
      have := (List.getElem?_eq_some_iff.1 hu).1
      rw [← h3]
      exact this
    have h4 := h2 j hj
    rw [addr_plus, addr_plus] at h4
    rw [h4]
    exact hu
set_option maxRecDepth 100000 in
theorem trod_float (h : DataW.trod enc Tryd.prog w base sp hd fuel 33 cs = some x) : ∃ p : Nat, cs = [.float .f64 p] := by
  cases fuel with
  | zero => simp [DataW.trod] at h
  | succ n =>
    unfold DataW.trod at h
    rw [Tryd.underlying33] at h
    split at h <;> simp_all
set_option maxRecDepth 100000 in
theorem trod_gs2 (h : DataW.trod enc Tryd.prog w base sp hd fuel 22 cs = some x) : ∃ (ad : Option Addr) (gs : List Int) (cap : Nat), cs = [.slice ad gs.length cap] ∧ GsAt w ad gs ∧ gs.length ≤ maxLen ∧ (ad = none → cap = 0) := by
  obtain ⟨ad, l, cap, e, hg, hl, _, hnl, _⟩ := open_items (α := Int) (c := fun k => [.int .i64 k]) (F := fun _ => True) Tryd.underlying22 Tryd.cellsInt (by omega) (fun h => by
    obtain ⟨n, e, _⟩ := trod_i h
    exact ⟨n, e, trivial⟩) h
  refine ⟨ad, l, cap, e, fun j hj => ?_, hl, hnl⟩
  obtain ⟨b, off, e, hc⟩ := hg j hj
  refine ⟨b, off, e, ?_⟩
  have := hc 0 _ rfl
  simpa using this
set_option maxRecDepth 100000 in
theorem trod_fs (h : DataW.trod enc Tryd.prog w base sp hd fuel 25 cs = some x) : ∃ (ad : Option Addr) (ps : List Nat) (cap : Nat), cs = [.slice ad ps.length cap] ∧ FsAt w ad ps ∧ ps.length ≤ maxLen ∧ ps.length ≤ cap ∧ cap ≤ maxLen := by
  obtain ⟨ad, l, cap, e, hg, hl, _, hnl, hlc, hcm⟩ := open_items (α := Nat) (c := fun k => [.float .f64 k]) (F := fun _ => True) Tryd.underlying25 Tryd.cellsFloat (by omega) (fun h => by
    obtain ⟨n, e⟩ := trod_float h
    exact ⟨n, e, trivial⟩) h
  refine ⟨ad, l, cap, e, fun j hj => ?_, hl, hlc, hcm⟩
  obtain ⟨b, off, e, hc⟩ := hg j hj
  refine ⟨b, off, e, ?_⟩
  have := hc 0 _ rfl
  simpa using this
structure Sett where
  num : Int
  rows : Int
  ad : Option Addr
  gs : List Int
  cap : Nat
  pa : Option Addr
  ps : List Nat
  pc : Nat
def Sett.c (s : Sett) : List Value := [.int .i64 s.num, .int .i64 s.rows, .slice s.ad s.gs.length s.cap, .slice s.pa s.ps.length s.pc]
structure Sett.At (s : Sett) (w : World) : Prop where
  g : GsAt w s.ad s.gs
  gl : s.gs.length ≤ maxLen
  gn : s.ad = none → s.cap = 0
  p : FsAt w s.pa s.ps
  pl : s.ps.length ≤ maxLen
  pc : s.ps.length ≤ s.pc
  pm : s.pc ≤ maxLen
set_option maxRecDepth 100000 in
theorem trod_sett (h : DataW.trod enc Tryd.prog w base sp hd fuel 27 cs = some x) : ∃ s : Sett, cs = s.c ∧ s.At w := by
  obtain ⟨hl, n, hf⟩ := trod_fields Tryd.underlying27 h
  rw [Tryd.cellsSetting] at hl
  match cs, hl with
  | [c0, c1, c2, c3], _ =>
    obtain ⟨y0, h0⟩ := hf 0 3 0 1 rfl Tryd.cellsInt
    obtain ⟨y1, h1⟩ := hf 1 24 1 2 rfl Tryd.cellsLayout
    obtain ⟨y2, h2⟩ := hf 2 25 3 1 rfl Tryd.cellsFloats
    obtain ⟨a0, e0, _⟩ := trod_i h0
    obtain ⟨hl', n', hf'⟩ := trod_fields Tryd.underlying24 h1
    obtain ⟨z0, g0⟩ := hf' 0 3 0 1 rfl Tryd.cellsInt
    obtain ⟨z1, g1⟩ := hf' 1 22 1 1 rfl Tryd.cellsInts
    obtain ⟨a1, e1, _⟩ := trod_i g0
    obtain ⟨ad, gs, cap, e2, hg, hgl, hgn⟩ := trod_gs2 g1
    obtain ⟨pa, ps, pc, e3, hp, hpl, hpc, hpm⟩ := trod_fs h2
    simp at e0 e1 e2 e3
    exact ⟨⟨a0, a1, ad, gs, cap, pa, ps, pc⟩, by rw [e0, e1, e2, e3]; rfl, hg, hgl, hgn, hp, hpl, hpc, hpm⟩
structure Stp where
  act : Int
  own : Int
  cls : Int
  many : Int
  lab : ByteArray
instance : Inhabited Stp := ⟨⟨0, 0, 0, 0, ByteArray.empty⟩⟩
def Stp.c (s : Stp) : List Value := [.int .i64 s.act, .int .i64 s.own, .int .i64 s.cls, .int .i64 s.many, .string s.lab]
def Stp.Ok (s : Stp) : Prop := (Lit.int .i64 s.own).wf = true ∧ s.lab.size ≤ maxLen
set_option maxRecDepth 100000 in
theorem trod_stp (h : DataW.trod enc Tryd.prog w base sp hd fuel 39 cs = some x) : ∃ s : Stp, cs = s.c ∧ s.Ok := by
  obtain ⟨hl, n, hf⟩ := trod_fields Tryd.underlying39 h
  rw [Tryd.cellsStep] at hl
  match cs, hl with
  | [c0, c1, c2, c3, c4], _ =>
    obtain ⟨y0, h0⟩ := hf 0 3 0 1 rfl Tryd.cellsInt
    obtain ⟨y1, h1⟩ := hf 1 3 1 1 rfl Tryd.cellsInt
    obtain ⟨y2, h2⟩ := hf 2 3 2 1 rfl Tryd.cellsInt
    obtain ⟨y3, h3⟩ := hf 3 3 3 1 rfl Tryd.cellsInt
    obtain ⟨y4, h4⟩ := hf 4 9 4 1 rfl Tryd.cellsStr
    obtain ⟨a0, e0, _⟩ := trod_i h0
    obtain ⟨a1, e1, w1⟩ := trod_i h1
    obtain ⟨a2, e2, _⟩ := trod_i h2
    obtain ⟨a3, e3, _⟩ := trod_i h3
    obtain ⟨s, e4, _, w4⟩ := DataW.trod_string Tryd.underlying9 h4
    simp at e0 e1 e2 e3 e4
    exact ⟨⟨a0, a1, a2, a3, s⟩, by rw [e0, e1, e2, e3, e4]; rfl, w1, w4⟩
end
structure StpsV where
  a : Option Addr
  l : List Stp
  c : Nat
structure StpsV.At (p : StpsV) (w : World) : Prop where
  at_ : ItemsAt w p.a p.l.length 5 (fun i => (p.l.getD i default).c)
  max : p.l.length ≤ maxLen
  s : ∀ i, i < p.l.length → (p.l.getD i default).Ok
set_option maxRecDepth 100000 in
theorem openStps {H : Type} {enc : TypeId × Value → H} {W : World} {r : Reach} {base b0 : Nat} {sp : Nat → Bool} {hd : Bool} {v : Value} {d : DataW H} {ps : List MemPlace}
    (hv : Value.okWide Tryd.prog W r b0 28 v) (h : DataW.Trod enc Tryd.prog W base sp hd 28 v d ps) :
    ∃ p : StpsV, v = .slice p.a p.l.length p.c ∧ p.At W := by
  obtain ⟨fuel, hf⟩ := h
  obtain ⟨ad, l, cap, e, hg, hl, hF, _⟩ := open_items (α := Stp) (c := Stp.c) (F := Stp.Ok) Tryd.underlying28 Tryd.cellsStep (by omega) (fun h => trod_stp h) hf
  refine ⟨⟨ad, l, cap⟩, ?_, ⟨hg, hl, hF⟩⟩
  obtain ⟨a, n, c, rfl⟩ := okWide_slice Tryd.underlying28 hv
  simpa [Value.cells] using e
set_option maxRecDepth 100000 in
theorem openSett {H : Type} {enc : TypeId × Value → H} {W : World} {r : Reach} {base b0 : Nat} {sp : Nat → Bool} {hd : Bool} {v : Value} {d : DataW H} {ps : List MemPlace}
    (hv : Value.okWide Tryd.prog W r b0 27 v) (h : DataW.Trod enc Tryd.prog W base sp hd 27 v d ps) :
    ∃ p : Sett, v = .agg #[.int .i64 p.num, .int .i64 p.rows, .slice p.ad p.gs.length p.cap, .slice p.pa p.ps.length p.pc] ∧ p.At W := by
  obtain ⟨cs, rfl, hsz⟩ := okWide_struct Tryd.underlying27 hv
  obtain ⟨fuel, hf⟩ := h
  obtain ⟨o, e, hg⟩ := trod_sett hf
  refine ⟨o, ?_, hg⟩
  congr 1
  apply Array.toList_inj.1
  simpa [Value.cells, Sett.c] using e
end Go.Proofs.YtmnoacjmdnmddaaDoor
