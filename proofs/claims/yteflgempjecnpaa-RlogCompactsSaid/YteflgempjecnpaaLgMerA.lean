/- RlogMerged: its parts. Conditions: none. -/
import Derived.Test.YteflgempjecnpaaLgMerP
import Derived.Deep.RegionLaw
import Derived.Deep.DeepCutAuto
import Derived.Deep.DeepMust
namespace Go.Proofs.Yteflgempjecnpaa
open Go.RowKit
theorem fresh_px (w : World) : PX w.heap.size (freshWorld w 0 0) (w.heap.size + 1) (w.heap.size + 2) 0 := by
  have e1 : ∀ o, (w.alloc o).heap.size = w.heap.size + 1 := fun o => by simp
  have e2 : (newWorld w 0 0).heap.size = w.heap.size + 2 := newWorld_size w 0 0
  have h1 : (freshWorld w 0 0).heap[w.heap.size]? = some (.cells #[.int .i64 0, .int .i64 0, .int .i64 0, .slice none 0 0] 45 (0, 0)) :=
    blk_below (B := w.heap.size + 1) (blk_new w _ rfl) ((bl_alloc (bl_alloc (Below.refl _ _) _) _).mono (by rw [e1]; omega)) (by omega)
  have h2 : (freshWorld w 0 0).heap[w.heap.size + 1]? = some (.cells #[.slice (some ⟨w.heap.size, 0, none⟩) 1 1, .int .i64 0, .int .i64 0] 65 (0, 0)) := by
    have h := blk_new (w.alloc (.cells #[.int .i64 0, .int .i64 0, .int .i64 0, .slice none 0 0] 45)) (.cells #[.slice (some ⟨w.heap.size, 0, none⟩) 1 1, .int .i64 0, .int .i64 0] 65) rfl
    rw [e1] at h
    exact blk_below (w := newWorld w 0 0) (B := w.heap.size + 2) h ((bl_alloc (Below.refl (newWorld w 0 0).heap.size _) _).mono (by rw [e2]; omega)) (by omega)
  have h3 : (freshWorld w 0 0).heap[w.heap.size + 2]? = some (.cells #[.int .i64 0, .int .i64 0, .slice none 0 0, .int .i64 0, .int .i64 0] 58 (0, 0)) := by
    have h := blk_new (newWorld w 0 0) (.cells (refNewCells 0 0) 58) rfl
    rw [e2] at h
    exact h
  have i0 : inIdx 0 := by unfold inIdx; omega
  refine ⟨[⟨0, 0, 0, ⟨none, [], 0⟩⟩], 0, 0, _, 0, 0, [], 0, 0, .slice none 0 0, ⟨h2, by omega, ⟨rfl, .inr ⟨_, 1, _, rfl, Nat.le_refl _, h1, Nat.le_refl _, by unfold maxLen; omega, rfl, rfl⟩⟩, fun j hj => ?_⟩, good_one i0 i0, ⟨h3, by omega, World.ownsRow_nil _ _ _ _⟩, good_one i0 i0, (fun g _ h => by cases h), by simp, by simp⟩
  have : j = 0 := by simpa using hj
  subst this
  exact own8_nil _
theorem StsV.At.keep {P : StsV} {w w' : World} (h : P.At w) (k : Below w.heap.size w w') : P.At w' :=
  ⟨h.at_.keep k, h.max, fun i hi => ⟨(h.s i hi).e.keep k, (h.s i hi).wi, (h.s i hi).wt⟩, h.nil, h.cap⟩
theorem Try.infoStep : (Try.prog.info? 35).map (fun i => (i.zero, i.size, i.bytes)) = some (some (.agg #[.int .i64 0, .int .i64 0, .int .i64 0, .slice none 0 0]), 4, 48) := by kernel_rfl
/-- 'append(a, b...)' at a step of a region that draws its order. -/
theorem step_clone {P : Program} {W : World} {ops : Array Oper} {o : Oper} {a : Act} {K : Act → World → Prop} {Q : Exit → Act → World → Prop} {X : Prop} (hgd : o.guard = none) (s x : Operand) (T : TypeId)
    (ho : o.op = .call { callee := .builtin .append, args := #[s, x], argTypes := #[T, T] })
    (base : Nat) (E : TypeId) {z : Value} {size bytes : Nat} (hT : P.underlying T = some (.slice E)) (hinfo : (P.info? E).map (fun i => (i.zero, i.size, i.bytes)) = some (some z, size, bytes))
    (hzs : z.cells.size = size) (hsz : 0 < size) {v : Value} (hs : a.eval s = v) {n m c : Nat} {xs ys : List Value} (hown : W.ownsRow base E size v n xs)
    {ad : Option Addr} (hx : a.eval x = .slice ad m c) (hys : ys.length = m * size) (hcell : ∀ j u, ys[j]? = some u → ∃ b off, ad = some ⟨b, off, none⟩ ∧ W.cell? ⟨b, off + j, none⟩ = some u) (hnil : ad = none → c = 0) (h1 : ∀ u ∈ ys, u.oneCell' = true)
    (hm : n + m ≤ maxLen) (hb : (n + m) * bytes ≤ 140737488355328) (hbase : base ≤ W.heap.size)
    (h : ∀ v' w', w'.ownsRow base E size v' (n + m) (xs ++ ys) → W.grownBy w' v.ownBlock → (v'.ownBlock = v.ownBlock ∨ ∃ g, v'.ownBlock = some g ∧ W.heap.size ≤ g) → K (a.put o.dst v') w') :
    if Region.wanted o (yielded ops a.tmps) = true then Oper.wp P o a W K Q else X := by
  have hw : Region.wanted o (yielded ops a.tmps) = true := by simp [Region.wanted, hgd]
  rw [if_pos hw]
  obtain ⟨i0, hi, hz0, hz1, hz2⟩ := info_parts hinfo
  cases ad with
  | none =>
    have hm0 : m = 0 := by
      cases m with
      | zero => rfl
      | succ m =>
        have : 0 < ys.length := by rw [hys]; exact Nat.mul_pos (by omega) hsz
        obtain ⟨b, off, e, _⟩ := hcell 0 ys[0] (by rw [List.getElem?_eq_getElem this])
        cases e
    subst hm0
    have hc0 := hnil rfl
    subst hc0
    have hy : ys = [] := List.eq_nil_of_length_eq_zero (by rw [hys]; simp)
    subst hy
    have hr := run_append_owned_none (P := P) W base T o.type E i0 size hT hi v n xs hown
    unfold Oper.wp execOp
    simp only [ho, resolve, invoke, builtin, Sem.run_bind, Sem.run_pure, Result.andThen_ok, List.map_toArray, List.map_cons, List.map_nil, hs, hx, hr]
    exact h v W (by simpa using hown) ⟨rfl, rfl, rfl, Nat.le_refl _, fun _ _ _ => rfl⟩ (.inl rfl)
  | some a' =>
    have hcell' : ∀ j u, ys[j]? = some u → W.cell? (a'.add j) = some u := fun j u hj => by
      obtain ⟨b', off', e, hc⟩ := hcell j u hj
      injection e with e
      rw [e, addr_add]
      exact hc
    obtain ⟨v', w', hr, h2, h3, h4, h5⟩ := run_append_own_at (P := P) W base T o.type E i0 z size bytes hT hi hz0 hz1 hz2 hzs hsz v n xs hown a' m c ys hys hcell' h1 hm hb hbase
    unfold Oper.wp execOp
    simp only [ho, resolve, invoke, builtin, Sem.run_bind, Sem.run_pure, Result.andThen_ok, List.map_toArray, List.map_cons, List.map_nil, hs, hx, hr]
    refine h v' w' h2 h3 ?_
    rcases h5 with h5 | h5
    · exact .inl h5
    · exact .inr ⟨_, h5, Nat.le_refl _⟩
def stsC (l : List StV) : List Value := l.flatMap StV.c
theorem stsC_len (l : List StV) : (stsC l).length = l.length * 4 := by
  induction l with
  | nil => rfl
  | cons x r ih =>
    show (x.c ++ stsC r).length = _
    rw [List.length_append, ih, List.length_cons]
    show 4 + r.length * 4 = _
    omega
theorem stsC_get : ∀ {l : List StV} {i : Nat}, i < l.length → ∀ {j : Nat} {u : Value}, ((atS l i).c)[j]? = some u → (stsC l)[i * 4 + j]? = some u
  | [], i, h, _, _, _ => by simp at h
  | x :: r, i, h, j, u, hu => by
    have hl : ∀ y : StV, (y.c).length = 4 := fun _ => rfl
    have hj : j < 4 := by
      have := (List.getElem?_eq_some_iff.1 hu).1
      rw [hl] at this
      exact this
    show (x.c ++ stsC r)[i * 4 + j]? = some u
    cases i with
    | zero =>
      rw [Nat.zero_mul, Nat.zero_add, List.getElem?_append_left (by rw [hl]; exact hj)]
      exact hu
    | succ i =>
      rw [List.getElem?_append_right (by rw [hl]; omega), hl, show (i + 1) * 4 + j - 4 = i * 4 + j by omega]
      exact stsC_get (by simpa using h) hu
theorem stsC_one {l : List StV} : ∀ u ∈ stsC l, u.oneCell' = true := fun u hu => by
  unfold stsC at hu
  obtain ⟨x, _, hx⟩ := List.mem_flatMap.1 hu
  simp only [StV.c, List.mem_cons, List.not_mem_nil, or_false] at hx
  rcases hx with rfl | rfl | rfl | rfl <;> rfl
theorem stsC_cells {w : World} {a : Option Addr} {l : List StV} (h : ItemsAt w a l.length 4 (fun i => (atS l i).c)) : ∀ j u, (stsC l)[j]? = some u → ∃ b off, a = some ⟨b, off, none⟩ ∧ w.cell? ⟨b, off + j, none⟩ = some u := fun j u hj => by
  have hlt := (List.getElem?_eq_some_iff.1 hj).1
  rw [stsC_len] at hlt
  obtain ⟨k, r, hk, hr⟩ : ∃ k r, j = k * 4 + r ∧ r < 4 := ⟨j / 4, j % 4, by omega, by omega⟩
  obtain ⟨b, off, e, hc⟩ := h k (by omega)
  obtain ⟨u', hu'⟩ : ∃ u', ((atS l k).c)[r]? = some u' := ⟨_, List.getElem?_eq_getElem (show r < 4 from hr)⟩
  have h2 := stsC_get (l := l) (i := k) (by omega) hu'
  rw [← hk, hj] at h2
  injection h2 with h2
  subst h2
  exact ⟨b, off, e, by rw [hk, ← Nat.add_assoc]; exact hc r u hu'⟩
/-- A row of the call's own as items. -/
theorem own_items {w : World} {B : Nat} {a : Option Addr} {l : List StV} {c : Nat} (h : w.ownsRow B 35 4 (.slice a l.length c) l.length (stsC l)) : ItemsAt w a l.length 4 (fun i => (atS l i).c) := fun i hi => by
  obtain ⟨g, cap, he, _⟩ := row_some h (by omega)
  injection he with he _ hc
  subst he hc
  refine ⟨g, 0, rfl, fun j u hu => ?_⟩
  rw [Nat.zero_add]
  exact row_cell h (stsC_get hi hu)
theorem lensTo_app {l r : List StV} {k : Nat} (h : k ≤ l.length) : lensTo (l ++ r) k = lensTo l k := by
  induction k with
  | zero => rfl
  | succ k ih =>
    show lensTo (l ++ r) k + (atS (l ++ r) k).e.l.length = lensTo l k + (atS l k).e.l.length
    rw [ih (by omega)]
    congr 3
    unfold atS
    rw [List.getD_eq_getElem?_getD, List.getD_eq_getElem?_getD, List.getElem?_append_left (by omega)]
theorem atS_last {l : List StV} {x : StV} {i : Nat} (h : i < (l ++ [x]).length) : (i < l.length ∧ atS (l ++ [x]) i = atS l i) ∨ atS (l ++ [x]) i = x := by
  simp at h
  unfold atS
  rw [List.getD_eq_getElem?_getD, List.getD_eq_getElem?_getD]
  by_cases c : i < l.length
  · exact .inl ⟨c, by rw [List.getElem?_append_left c]⟩
  · have : i = l.length := by omega
    subst this
    right
    simp
section
variable {w V : World} {o o2 : Obj}
theorem bk1 {cs : Array Value} {t : TypeId} : (w.drew.alloc (.cells cs t)).heap[w.heap.size]? = some (.cells cs t (0, 0)) := blk_new w.drew _ rfl
theorem bk2 {cs : Array Value} {t : TypeId} : ((w.drew.alloc o).alloc (.cells cs t)).heap[w.heap.size + 1]? = some (.cells cs t (0, 0)) := by
  have h := blk_new (w.drew.alloc o) (.cells cs t) rfl
  rw [show (w.drew.alloc o).heap.size = w.heap.size + 1 by simp] at h
  exact h
theorem bk3 {cs : Array Value} {t : TypeId} : ((w.drew.alloc (.cells cs t)).alloc o2).heap[w.heap.size]? = some (.cells cs t (0, 0)) := by
  have e : (w.drew.alloc (.cells cs t)).heap.size = w.heap.size + 1 := by simp
  exact blk_below (B := w.heap.size + 1) (bk1 (w := w)) ((bl_alloc (Below.refl (w.drew.alloc (.cells cs t)).heap.size _) _).mono (by rw [e]; omega)) (by omega)
theorem own_empty {B g : Nat} (hg : B ≤ g) (hk : V.heap[g]? = some (.cells #[] 35 (0, 0))) : V.ownsRow B 35 4 (.slice (some ⟨g, 0, none⟩) 0 0) 0 [] :=
  ⟨rfl, .inr ⟨g, 0, #[], rfl, hg, hk, Nat.le_refl _, by unfold maxLen; omega, rfl, rfl⟩⟩
theorem cells_blk {g : Nat} {cs : Array Value} {t : TypeId} {fz : Nat × Nat} (hk : V.heap[g]? = some (.cells cs t fz)) : ∀ (j : Nat) (u : Value), cs.toList[j]? = some u → ∃ b off, (some ⟨g, 0, none⟩ : Option Addr) = some ⟨b, off, none⟩ ∧ V.cell? ⟨b, off + j, none⟩ = some u := fun j u hj => by
  refine ⟨g, 0, rfl, ?_⟩
  rw [Nat.zero_add, blk_cell hk]
  simpa using hj
end
theorem four_one {a b c : Int} {d : Option Addr} {n k : Nat} : ∀ u ∈ ([.int .i64 a, .int .i64 b, .int .i64 c, .slice d n k] : List Value), u.oneCell' = true := fun u hu => by
  simp only [List.mem_cons, List.not_mem_nil, or_false] at hu
  rcases hu with rfl | rfl | rfl | rfl <;> rfl
/-- How many entries steps and one more have. -/
theorem much_of {w w0 : World} {B : Nat} {a8 : Option Addr} {n en c8 : Nat} {pl : List StV} {act i tm : Int} {ea : Option Addr} {l : List Ent} {ec : Nat} (hown : w.ownsRow B 35 4 (.slice a8 (n + 1) c8) (n + 1) (stsC pl ++ [.int .i64 act, .int .i64 i, .int .i64 tm, .slice ea en ec]))
    (hb : Below w0.heap.size w0 w) (hn : n = pl.length) (hen : en = l.length) (hmax : n + 1 ≤ maxLen) (hp : ∀ i, i < pl.length → (atS pl i).e.At w0) (hs : EV.At ⟨ea, l, ec⟩ w0) :
    Calls Try.prog 10 #[.slice a8 (n + 1) c8] w fun e w' => (∃ b, e = .returned (.bool b) ∧ (b = false → ∀ k, k ≤ pl.length → k ≤ 100 → lensTo pl k ≤ 5000)) ∧ Below w.heap.size w w' := by
  subst hn hen
  have e1 : stsC pl ++ [.int .i64 act, .int .i64 i, .int .i64 tm, .slice ea l.length ec] = stsC (pl ++ [⟨act, i, tm, ⟨ea, l, ec⟩⟩]) := by simp [stsC, StV.c, EV.v]
  have e2 : pl.length + 1 = (pl ++ [(⟨act, i, tm, ⟨ea, l, ec⟩⟩ : StV)]).length := by simp
  rw [e1, e2] at hown
  rw [e2]
  refine (much_at a8 _ c8 w (own_items hown) (by rw [← e2]; exact hmax) (fun j hj => ?_)).mono ?_
  · rcases atS_last hj with ⟨h1, h2⟩ | h2
    · rw [h2]; exact (hp j h1).keep hb
    · rw [h2]; exact hs.keep hb
  · rintro e w' ⟨⟨b, rfl, h⟩, hb'⟩
    exact ⟨⟨b, rfl, fun hf k hk hk' => by rw [← lensTo_app (r := [⟨act, i, tm, ⟨ea, l, ec⟩⟩]) hk]; exact h hf k (by rw [← e2]; omega) hk'⟩, hb'⟩
end Go.Proofs.Yteflgempjecnpaa
