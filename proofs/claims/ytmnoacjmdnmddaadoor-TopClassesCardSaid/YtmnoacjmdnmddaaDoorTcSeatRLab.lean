/- The reference's Label. Conditions: none. -/
import Derived.Laws.BytesArg
import Derived.Test.YtmnoacjmdnmddaaDoorSeatLabel
import Derived.Test.YtmnoacjmdnmddaaDoorTcSeatBesR
import Derived.Test.YtmnoacjmdnmddaaDoorStaged
namespace Go.Proofs.YtmnoacjmdnmddaaDoor
open Go.RowKit

theorem Tryd.infoByte : (Tryd.prog.info? 5).map (fun i => (i.zero, i.size, i.bytes)) = some (some (.int .u8 0), 1, 1) := by kernel_rfl

/-- 'out = append(out, x, y, ..)': the new ones lie in the newest block. -/
theorem wpList_appm {P : Program} {W : World} {ops : Array Oper} {rest : List Oper} {o : Oper} {a : Act} {Q : Exit → Act → World → Prop} (hgd : o.guard = none) (s x : Operand) (T : TypeId)
    (ho : o.op = .call { callee := .builtin .append, args := #[s, x], argTypes := #[T, T] })
    (base : Nat) (E : TypeId) {z : Value} {size bytes : Nat} (hT : P.underlying T = some (.slice E)) (hinfo : (P.info? E).map (fun i => (i.zero, i.size, i.bytes)) = some (some z, size, bytes))
    (hzs : z.cells.size = size) (hsz : 0 < size) {v : Value} (hs : a.eval s = v) {n m : Nat} {xs : List Value} (hown : W.ownsRow base E size v n xs)
    (hx : a.eval x = .slice (some ⟨W.heap.size, 0, none⟩) m m) (cs : List Value) {tb : TypeId} {fz : Nat × Nat} (hcs : cs.length = m * size) (h1 : ∀ u ∈ cs, u.oneCell' = true)
    (hm : n + m ≤ maxLen) (hb : (n + m) * bytes ≤ 140737488355328) (hbase : base ≤ W.heap.size)
    (h : ∀ v' w', w'.ownsRow base E size v' (n + m) (xs ++ cs) → W.grownBy w' v.ownBlock → wpList P ops Q rest (a.put o.dst v') w') :
    wpList P ops Q (o :: rest) a (W.alloc (.cells cs.toArray tb fz)) := by
  obtain ⟨i0, hi, hz0, hz1, hz2⟩ := info_parts hinfo
  have hcell : ∀ j u, cs[j]? = some u → (W.alloc (.cells cs.toArray tb fz)).cell? ((⟨W.heap.size, 0, none⟩ : Addr).add j) = some u := by
    intro j u hj
    have hadd : (⟨W.heap.size, 0, none⟩ : Addr).add j = ⟨W.heap.size, j, none⟩ := by unfold Addr.add; split <;> simp_all
    rw [hadd, cell_of_row _ W.heap.size j cs.toArray tb fz (heap_alloc_new W _)]
    simpa using hj
  exact wpList_append_own _ hgd s x T ho base E i0 z size bytes hT hi hz0 hz1 hz2 hzs hsz v n xs hs (hown.alloc _) ⟨W.heap.size, 0, none⟩ m m cs hx hcs hcell h1 hm hb (by simp; omega)
    (fun v' w' h2 h3 _ => h v' w' h2 (grown_trans (World.grownBy_alloc W _ _) h3))

/-- string(b), b of one's own. -/
theorem run_own_string {w : World} {base : Nat} {v : Value} {n : Nat} {xs : List Int} (h : w.ownsRow base 5 1 v n (xs.map (.int .u8))) :
    (convert 130 9 v).run Tryd.prog w = .ok (.string (strOfNums xs)) w := by
  have hl : xs.length = n := by have := h.1; simpa using this
  rcases h.2 with ⟨rfl, h0⟩ | ⟨g, cap, cur, rfl, _, _, h1, h2, _⟩
  · obtain rfl : n = 0 := h0
    have : xs = [] := by simpa using hl
    subst this
    exact run_convert_bytes_nil w 130 5 Tryd.underlying130 Tryd.underlying5 0 0 9 Tryd.underlying9
  · refine run_convert_bytes_arg w 130 5 Tryd.underlying130 Tryd.underlying5 g 0 n cap xs hl ?_ 9 Tryd.underlying9
    intro i hi
    have hc := h.cells (g := g) rfl i (.int .u8 (xs.getD i 0)) (by simp [List.getD, List.getElem?_eq_getElem (show i < xs.length by omega)])
    have hadd : (⟨g, 0, none⟩ : Addr).add i = ⟨g, 0 + i, none⟩ := by unfold Addr.add; split <;> simp_all
    rw [← hadd]
    exact hc

set_option maxRecDepth 100000 in
theorem run_index_letter (c : Nat) (h : c < 10) (w : World) :
    (Instr.index 9 (.string { data := #[65, 66, 67, 68, 69, 70, 71, 72, 74, 75] }) (.int .i64 (c : Int))).run Tryd.prog w = .ok (.int .u8 (letter c).toNat) w := by
  have h' : c = 0 ∨ c = 1 ∨ c = 2 ∨ c = 3 ∨ c = 4 ∨ c = 5 ∨ c = 6 ∨ c = 7 ∨ c = 8 ∨ c = 9 := by omega
  rcases h' with h' | h' | h' | h' | h' | h' | h' | h' | h' | h' <;> (subst h'; clear h; exact (by kernel_rfl : _ = _))

theorem name_all : ∀ r : Nat, r < 60 → ∀ c : Nat, c < 10 → (if r + 1 < 10 then strOfNums [48 + ((r : Int) + 1) % 10, ((letter c).toNat : Int)] else strOfNums ([48 + ((r : Int) + 1) / 10] ++ [48 + ((r : Int) + 1) % 10, ((letter c).toNat : Int)])) = nameS r c := by decide +kernel
theorem name_lo {r c : Nat} (hc : c < 10) (h : r + 1 < 10) : strOfNums [48 + ((r : Int) + 1) % 10, ((letter c).toNat : Int)] = nameS r c := by
  have := name_all r (by omega) c hc
  rwa [if_pos h] at this
theorem name_hi {r c : Nat} (hc : c < 10) (h : ¬ r + 1 < 10) (h2 : r < 60) : strOfNums ([48 + ((r : Int) + 1) / 10] ++ [48 + ((r : Int) + 1) % 10, ((letter c).toNat : Int)]) = nameS r c := by
  have := name_all r h2 c hc
  rwa [if_neg h] at this

theorem ret_lab {a b : ByteArray} (h : a = b) : Ending.returned (.tuple #[.string a, .int .i64 0]) = .returned (.tuple #[.string b, .int .i64 0]) := by rw [h]

end Go.Proofs.YtmnoacjmdnmddaaDoor
