/- TopClasses: what the sums and the names lie in. Conditions: none. -/
import Derived.Test.YtmnoacjmdnmddaaDoorTcLawP
namespace Go.Proofs.YtmnoacjmdnmddaaDoor
open Go.RowKit Go.Maps
open Go.WideMaps (keyOf_string_mk)
/-- The world behind W0: only the sums' row and the names' map have turned. -/
structure Cnt (W0 : World) (B0 sb nb n : Nat) (rows : Int) (gs : List Int) (xs : List Int) (m : Nat) (T : List Int) (W : World) : Prop where
  chg : Chg [sb, nb] W0 W
  sums : W.ownsRow B0 3 1 (.slice (some ⟨sb, 0, none⟩) n n) n (intsV xs)
  nm : ∃ D : DataW Unit, W.ownsMap Tryd.prog 9 (plainElem Tryd.prog 4) nb m D ∧ NmOk rows gs D T
section
variable {W0 : World} {B0 sb nb n : Nat} {rows : Int} {gs xs : List Int} {m : Nat} {T : List Int} {W W' : World}
theorem Cnt.keep (h : Cnt W0 B0 sb nb n rows gs xs m T W) (k : Below W.heap.size W W') : Cnt W0 B0 sb nb n rows gs xs m T W' := by
  obtain ⟨D, hD, hN⟩ := h.nm
  exact ⟨h.chg.below k, own_keep h.sums k, D, map_keep hD k, hN⟩
theorem Cnt.drew (h : Cnt W0 B0 sb nb n rows gs xs m T W) : Cnt W0 B0 sb nb n rows gs xs m T W.drew := h.keep (Below.refl _ _).drew
theorem Cnt.ne (h : Cnt W0 B0 sb nb n rows gs xs m T W) : sb ≠ nb := by
  obtain ⟨D, hD, hN⟩ := h.nm
  exact fun e => row_map hD h.sums (by rw [← e]; rfl)
theorem Cnt.store (h : Cnt W0 B0 sb nb n rows gs xs m T W) (c : Nat) (y : Int) : Cnt W0 B0 sb nb n rows gs (xs.set c y) m T (W.setCell ⟨sb, c, none⟩ (.int .i64 y)) := by
  obtain ⟨D, hD, hN⟩ := h.nm
  have h1 := (h.sums.stored c (.int .i64 y)).1
  refine ⟨h.chg.set (.inl (by simp)) _, ?_, D, map_blk hD (Below.heap_setCell _ _ _ _ (Ne.symm h.ne)), hN⟩
  have e : intsV (xs.set c y) = (intsV xs).set c (.int .i64 y) := by
    unfold intsV
    rw [List.map_set]
  rw [e]
  exact h1
theorem Cnt.put (h : Cnt W0 B0 sb nb n rows gs xs m T W) {D : DataW Unit} (hD : W.ownsMap Tryd.prog 9 (plainElem Tryd.prog 4) nb m D) (hN : NmOk rows gs D T) {y : Int} (hy : hasL rows gs y) {d : DataW Unit} (h1 : W'.ownsMap Tryd.prog 9 (plainElem Tryd.prog 4) nb (m + 1) (D.put (keyS gs y) d)) (h2 : W.grownBy W' (some nb)) :
    Cnt W0 B0 sb nb n rows gs xs (m + 1) (T ++ [y]) W' := by
  refine ⟨h.chg.grown h2 (fun k e => .inl (by injection e with e; simp [e])), ownsRow_blk h.sums fun g hg => h2.block g (h.sums.lt g hg).2 fun e => ?_, _, h1, hN.put hD.isMap hy d⟩
  have e1 : sb = g := by simpa [Value.ownBlock] using hg
  exact h.ne (by rw [e1]; simpa using e)
theorem Cnt.mono (h : Cnt W0 B0 sb nb n rows gs xs m T W) {m' : Nat} (hm : m ≤ m') : Cnt W0 B0 sb nb n rows gs xs m' T W := by
  obtain ⟨D, hD, hN⟩ := h.nm
  exact ⟨h.chg, h.sums, D, hD.mono hm, hN⟩
/-- A cell that holds nothing of a map stays. -/
theorem Cnt.row (h : Cnt W0 B0 sb nb n rows gs xs m T W) {B : Nat} {e : TypeId} {size k : Nat} {v : Value} {ys : List Value} (hr : W0.ownsRow B e size v k ys) (h1 : v.ownBlock ≠ some sb) (h2 : v.ownBlock ≠ some nb) : W.ownsRow B e size v k ys :=
  ownsRow_blk hr fun g hg => h.chg.block g (hr.lt g hg).2 fun hm => by
    rcases List.mem_cons.1 hm with rfl | hm
    · exact h1 hg
    · have : g = nb := by simpa using hm
      subst this
      exact h2 hg
end
theorem plainElem_bool_inv {P : Program} {e : TypeId} (he : P.underlying e = some .bool) {v : Value} {z : DataW Unit × List MemPlace} (h : plainElem P e v = some z) : ∃ x, v = .bool x ∧ z = (.lit (.bool x), []) := by
  unfold plainElem at h
  rw [he] at h
  cases v <;> simp at h
  exact ⟨_, rfl, h.symm⟩
/-- A label of a seat that was not told is not there. -/
theorem Cnt.look {W0 : World} {B0 sb nb n : Nat} {rows : Int} {gs xs : List Int} {m : Nat} {T : List Int} {W : World} (h : Cnt W0 B0 sb nb n rows gs xs m T W) {y : Int} (hy : hasL rows gs y) (hT : ¬ y ∈ T) :
    (Instr.lookup 48 (.map (some nb)) (.string (labS (total gs) y)) false).run Tryd.prog W = .ok (.bool false) W := by
  obtain ⟨D, hD, hN⟩ := h.nm
  obtain ⟨v, ps, hrun, hv⟩ := hD.lookup (string_keyed Tryd.underlying9) Tryd.underlying48 (Tryd.zeroValue4 W) (plainElem_bool Tryd.underlying4 false) (keyOf_string_mk Tryd.underlying9 (labS_size hy))
  have e : has D (keyS gs y) = false := by
    cases e : has D (keyS gs y) with
    | false => rfl
    | true => exact absurd ((hN y hy).1 e) hT
  have e2 : D.atKey (.string (labS (total gs) y).data.toList) (.lit (.bool false)) = .lit (.bool false) := atKey_of_not_has e _
  rw [e2] at hv
  obtain ⟨x, rfl, hx⟩ := plainElem_bool_inv Tryd.underlying4 hv
  have hx1 := (Prod.mk.inj hx).1
  have hx2 : false = x := by simpa using hx1
  rw [hrun, ← hx2]
end Go.Proofs.YtmnoacjmdnmddaaDoor
