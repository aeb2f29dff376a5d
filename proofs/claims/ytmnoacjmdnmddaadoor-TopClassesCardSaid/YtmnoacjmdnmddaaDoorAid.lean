/- Small laws of the walk that several proofs of this seat share: an operation whose run is known; a call of a function value. Conditions: none. -/
import Derived.Test.YtmnoacjmdnmddaaDoorRows
import Derived.WalkKit
import Derived.WalkSpells
import Derived.WalkLawsBesides
import Derived.Lib.Hide
import Derived.Deep.LoopGhost
import Derived.Deep.QuietTactic
import Derived.BigQuiet
import Derived.Deep.RegionLaw
import Derived.Deep.RegionHeld3
import Derived.Deep.RegionWith
import Derived.Deep.DeepCutAuto
import Derived.Deep.DeepFit
namespace Go.Proofs.YtmnoacjmdnmddaaDoor
open Go.RowKit

/-- An operation of which it is known what it comes to. -/
theorem wpList_exec {P : Program} {ops : Array Oper} {Q : Exit → Act → World → Prop} {a : Act} {w w' : World} {rest : List Oper} {o : Oper} (hg : o.guard = none) (v : Value)
    (hrun : (execOp a.eval o).run P w = .ok (.value v) w') (h : wpList P ops Q rest (a.put o.dst v) w') : wpList P ops Q (o :: rest) a w :=
  wpList_plain hg fun K hK => by
    unfold Oper.wp
    rw [hrun]
    exact hK _ _ h

theorem wpList_index {P : Program} {ops : Array Oper} {Q : Exit → Act → World → Prop} {a : Act} {w : World} {rest : List Oper} {o : Oper} (hg : o.guard = none) (t : TypeId) (x i : Operand)
    (ho : o.op = .index t x i) (v : Value) (hrun : (Instr.index t (a.eval x) (a.eval i)).run P w = .ok v w) (h : wpList P ops Q rest (a.put o.dst v) w) : wpList P ops Q (o :: rest) a w :=
  wpList_exec hg v (by simp only [execOp, ho, Sem.run_bind, hrun, Result.andThen_ok, Sem.run_pure]) h

theorem wpList_convert {P : Program} {ops : Array Oper} {Q : Exit → Act → World → Prop} {a : Act} {w w' : World} {rest : List Oper} {o : Oper} (hg : o.guard = none) (s t : TypeId) (x : Operand)
    (ho : o.op = .convert s t x) (v : Value) (hrun : (convert s t (a.eval x)).run P w = .ok v w') (h : wpList P ops Q rest (a.put o.dst v) w') : wpList P ops Q (o :: rest) a w :=
  wpList_exec hg v (by simp only [execOp, ho, Sem.run_bind, hrun, Result.andThen_ok, Sem.run_pure]) h

/-- A contract under which the call returns a value. -/
theorem wpList_calls {P : Program} {ops : Array Oper} {Q : Exit → Act → World → Prop} {a : Act} {w : World} {rest : List Oper} {o : Oper} (hg : o.guard = none) (f : FuncId) (args : Array Value)
    (hx : (execOp a.eval o).run P w = .ok (.enter f args) w) {R : Value → World → Prop} (hc : Calls P f args w fun e w' => ∃ v, e = .returned v ∧ R v w')
    (h : ∀ v w', R v w' → wpList P ops Q rest (a.put o.dst v) w') : wpList P ops Q (o :: rest) a w :=
  wpList_plain hg fun K hK => by
    unfold Oper.wp
    rw [hx, Oper.upon_enter]
    refine hc.mono ?_
    rintro e w' ⟨v, rfl, hr⟩
    exact hK _ _ (h v w' hr)

theorem below_cells {B : Nat} {W w1 : World} (hb : Below B W w1) : (∀ b o, b < B → w1.cell? ⟨b, o, none⟩ = W.cell? ⟨b, o, none⟩) ∧ (∀ b o, b < B → w1.frozen? ⟨b, o, none⟩ = W.frozen? ⟨b, o, none⟩) :=
  ⟨fun b o h => hb.cell (p := ⟨b, o, none⟩) h, fun b o h => hb.frozen (p := ⟨b, o, none⟩) h⟩

theorem bl_alloc {W w1 : World} (h : Below W.heap.size W w1) (o : Obj) : Below W.heap.size W (w1.alloc o) := h.alloc h.size _
theorem bl_drew {W w1 : World} (h : Below W.heap.size W w1) : Below W.heap.size W w1.drew := h.drew
theorem bl_drewN {W w1 : World} (h : Below W.heap.size W w1) (n : Nat) : Below W.heap.size W (w1.drewN n) := ⟨h.os, h.tape, h.output, h.size, h.block⟩
theorem bl_set {W w1 : World} (h : Below W.heap.size W w1) {p : Addr} (hp : W.heap.size ≤ p.block) (u : Value) : Below W.heap.size W (w1.setCell p u) := h.setCell hp u
theorem bl_trans {W w1 w2 : World} (h : Below W.heap.size W w1) (k : Below w1.heap.size w1 w2) : Below W.heap.size W w2 := h.trans (k.mono h.size)
theorem bl_trans' {B : Nat} {W w1 w2 : World} (h : Below W.heap.size W w1) (k : Below B w1 w2) (hB : W.heap.size ≤ B) : Below W.heap.size W w2 := h.trans (k.mono hB)

theorem grown_trans {a b c : World} {row : Option Nat} (h : a.grownBy b row) (k : b.grownBy c row) : a.grownBy c row :=
  ⟨k.os.trans h.os, k.tape.trans h.tape, k.output.trans h.output, Nat.le_trans h.size k.size, fun i hi hne => (k.block i (Nat.lt_of_lt_of_le hi h.size) hne).trans (h.block i hi hne)⟩

theorem own_below {W w1 : World} {base : Nat} {E : TypeId} {size n : Nat} {v : Value} {xs : List Value} (hown : W.ownsRow base E size v n xs) (hg : W.grownBy w1 v.ownBlock) (hb : base ≤ W.heap.size) : Below base W w1 :=
  (Below.refl base W).grown hg hb (fun k hk => (hown.lt k hk).1)

theorem own_drew {W : World} {base : Nat} {E : TypeId} {size n : Nat} {v : Value} {xs : List Value} (hown : W.ownsRow base E size v n xs) (k : Nat) : (W.drewN k).ownsRow base E size v n xs := hown

/-- 'out = append(out, x)': x lies in the newest block. -/
theorem wpList_app {P : Program} {W : World} {ops : Array Oper} {rest : List Oper} {o : Oper} {a : Act} {Q : Exit → Act → World → Prop} (hgd : o.guard = none) (s x : Operand) (T : TypeId)
    (ho : o.op = .call { callee := .builtin .append, args := #[s, x], argTypes := #[T, T] })
    (base : Nat) (E : TypeId) {z : Value} {size bytes : Nat} (hT : P.underlying T = some (.slice E)) (hinfo : (P.info? E).map (fun i => (i.zero, i.size, i.bytes)) = some (some z, size, bytes))
    (hzs : z.cells.size = size) (hsz : 0 < size) {v : Value} (hs : a.eval s = v) {n : Nat} {xs : List Value} (hown : W.ownsRow base E size v n xs)
    (hx : a.eval x = .slice (some ⟨W.heap.size, 0, none⟩) 1 1) (cs : List Value) {tb : TypeId} {fz : Nat × Nat} (hcs : cs.length = size) (h1 : ∀ u ∈ cs, u.oneCell' = true)
    (hm : n + 1 ≤ maxLen) (hb : (n + 1) * bytes ≤ 140737488355328) (hbase : base ≤ W.heap.size)
    (h : ∀ v' w', w'.ownsRow base E size v' (n + 1) (xs ++ cs) → W.grownBy w' v.ownBlock → wpList P ops Q rest (a.put o.dst v') w') :
    wpList P ops Q (o :: rest) a (W.alloc (.cells cs.toArray tb fz)) := by
  obtain ⟨i0, hi, hz0, hz1, hz2⟩ := info_parts hinfo
  have hcell : ∀ j u, cs[j]? = some u → (W.alloc (.cells cs.toArray tb fz)).cell? ((⟨W.heap.size, 0, none⟩ : Addr).add j) = some u := by
    intro j u hj
    have hadd : (⟨W.heap.size, 0, none⟩ : Addr).add j = ⟨W.heap.size, j, none⟩ := by unfold Addr.add; split <;> simp_all
    rw [hadd, cell_of_row _ W.heap.size j cs.toArray tb fz (heap_alloc_new W _)]
    simpa using hj
  exact wpList_append_own _ hgd s x T ho base E i0 z size bytes hT hi hz0 hz1 hz2 hzs hsz v n xs hs (hown.alloc _) ⟨W.heap.size, 0, none⟩ 1 1 cs hx (by rw [hcs]; simp) hcell h1 hm hb (by simp; omega)
    (fun v' w' h2 h3 _ => h v' w' h2 (grown_trans (World.grownBy_alloc W _ _) h3))

theorem blk_lt {w : World} {g : Nat} {o : Obj} (h : w.heap[g]? = some o) : g < w.heap.size := (Array.getElem?_eq_some_iff.1 h).1
theorem blk_alloc {w : World} {g : Nat} {x : Obj} (h : w.heap[g]? = some x) (o : Obj) : (w.alloc o).heap[g]? = some x := (Below.heap_alloc w o g (blk_lt h)).trans h
theorem blk_new (w : World) (o : Obj) {g : Nat} (h : g = w.heap.size) : (w.alloc o).heap[g]? = some o := by rw [h]; exact heap_alloc_new w o
theorem blk_set {w : World} {g : Nat} {cs : Array Value} {t : TypeId} {fz : Nat × Nat} (h : w.heap[g]? = some (.cells cs t fz)) (i : Nat) (u : Value) : (w.setCell ⟨g, i, none⟩ u).heap[g]? = some (.cells (cs.setIfInBounds i u) t fz) := by
  simp [World.setCell, Array.getElem?_modify, h]
theorem blk_far {w : World} {g : Nat} {x : Obj} (h : w.heap[g]? = some x) {p : Addr} (hp : g ≠ p.block) (u : Value) : (w.setCell p u).heap[g]? = some x := (Below.heap_setCell w p u g hp).trans h
theorem blk_below {w w' : World} {B g : Nat} {x : Obj} (h : w.heap[g]? = some x) (hb : Below B w w') (hg : g < B) : w'.heap[g]? = some x := (hb.block g hg).trans h
theorem blk_frozen {w : World} {g : Nat} {cs : Array Value} {t : TypeId} (h : w.heap[g]? = some (.cells cs t (0, 0))) (i : Nat) : w.frozen? ⟨g, i, none⟩ = false := by simp [World.frozen?, h]
theorem blk_cell {w : World} {g : Nat} {cs : Array Value} {t : TypeId} {fz : Nat × Nat} (h : w.heap[g]? = some (.cells cs t fz)) (i : Nat) : w.cell? ⟨g, i, none⟩ = cs[i]? := cell_of_row w g i cs t fz h

/-- The world with another thing in block g. -/
def putObj (w : World) (g : Nat) (o : Obj) : World := { w with heap := w.heap.setIfInBounds g o }
theorem put_same {w : World} {g : Nat} {o : Obj} (h : g < w.heap.size) : (putObj w g o).heap[g]? = some o := by simp [putObj, h]
theorem put_far {w : World} {g k : Nat} {o : Obj} (h : k ≠ g) : (putObj w g o).heap[k]? = w.heap[k]? := by
  simp only [putObj, Array.getElem?_setIfInBounds]
  rw [if_neg (by omega)]
theorem put_size {w : World} {g : Nat} {o : Obj} : (putObj w g o).heap.size = w.heap.size := by simp [putObj]
theorem bl_put {W w1 : World} (h : Below W.heap.size W w1) {g : Nat} (hg : W.heap.size ≤ g) (o : Obj) : Below W.heap.size W (putObj w1 g o) :=
  h.trans ⟨rfl, rfl, rfl, by simp [putObj], fun k hk => put_far (by omega)⟩
theorem run_next_put {P : Program} {w : World} {g : Nat} {s : ByteArray} {pos : Nat} (hg : w.heap[g]? = some (.stringIter s pos)) (ty : TypeId) (h : pos < s.size) :
    (Instr.next (.pointer (some ⟨g, 0, none⟩)) true ty).run P w = .ok (.tuple #[.bool true, .int .i64 pos, .int .i32 (Utf8.decode s pos).1]) (putObj w g (.stringIter s (pos + (Utf8.decode s pos).2))) := by
  simp [Instr.next, getObj, setObj, Sem.run, hg, h, goInt, putObj]
theorem run_next_stop {P : Program} {w : World} {g : Nat} {s : ByteArray} {pos : Nat} (hg : w.heap[g]? = some (.stringIter s pos)) (ty : TypeId) (h : ¬ pos < s.size) :
    (Instr.next (.pointer (some ⟨g, 0, none⟩)) true ty).run P w = .ok (.tuple #[.bool false]) w := by
  simp [Instr.next, getObj, Sem.run, hg, h]
theorem wpList_next {P : Program} {ops : Array Oper} {Q : Exit → Act → World → Prop} {a : Act} {w w' : World} {rest : List Oper} {o : Oper} (hg : o.guard = none) (x : Operand)
    (ho : o.op = .next x true) (v : Value) (hrun : (Instr.next (a.eval x) true o.type).run P w = .ok v w') (h : wpList P ops Q rest (a.put o.dst v) w') : wpList P ops Q (o :: rest) a w :=
  wpList_exec hg v (by simp only [execOp, ho, Sem.run_bind, hrun, Result.andThen_ok, Sem.run_pure]) h

/-- Quiet callees inside a region that draws its order: contracts with the caller's world on the left; a second region behind a first. -/
theorem quiet_left {P : Program} {f : FuncId} {args : Array Value} {w : World} {n : Nat} {v : Value}
    (h : Calls P f args (w.drewN n) fun e w' => e = .returned v ∧ w.drewN n = w') : Calls P f args (w.drewN n) fun e w'' => e = .returned v ∧ ∃ m, w'' = w.drewN m :=
  h.mono fun _ _ ⟨he, hm⟩ => ⟨he, n, hm.symm⟩
theorem quiet_add {P : Program} {f : FuncId} {args : Array Value} {w : World} {a n : Nat} {v : Value}
    (h : Calls P f args (w.drewN (a + n)) fun e w' => e = .returned v ∧ ∃ m, w' = (w.drewN (a + n)).drewN m) :
    Calls P f args (w.drewN (a + n)) fun e w'' => e = .returned v ∧ ∃ m, w'' = w.drewN (a + m) :=
  h.mono fun _ _ ⟨he, m, hm⟩ => ⟨he, n + m, by rw [hm, World.drewN_drewN, Nat.add_assoc]⟩
theorem quiet_add_left {P : Program} {f : FuncId} {args : Array Value} {w : World} {a n : Nat} {v : Value}
    (h : Calls P f args (w.drewN (a + n)) fun e w' => e = .returned v ∧ w.drewN (a + n) = w') :
    Calls P f args (w.drewN (a + n)) fun e w'' => e = .returned v ∧ ∃ m, w'' = w.drewN (a + m) :=
  h.mono fun _ _ ⟨he, hm⟩ => ⟨he, n, hm.symm⟩
theorem cell_keep {w w' : World} (hb : Below w.heap.size w w') {a : Addr} {v : Value} (h : w.cell? a = some v) : w'.cell? a = some v := (hb.cell (World.block_lt_of_cell? w a h)).trans h

theorem ret_int {k : IntKind} {a b : Int} (h : a = b) : Ending.returned (.int k a) = .returned (.int k b) := by rw [h]
theorem ret2_int {k l : IntKind} {a b c d : Int} (h : a = b) (h2 : c = d) : Ending.returned (.tuple #[.int k a, .int l c]) = .returned (.tuple #[.int k b, .int l d]) := by rw [h, h2]
theorem ret_bool {a b : Bool} (h : a = b) : Ending.returned (.bool a) = .returned (.bool b) := by rw [h]
end Go.Proofs.YtmnoacjmdnmddaaDoor
