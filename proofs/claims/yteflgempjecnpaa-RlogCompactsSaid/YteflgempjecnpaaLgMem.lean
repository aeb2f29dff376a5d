/- Logs in memory. Conditions: none. -/
import Derived.Test.YteflgempjecnpaaLgPure
import Derived.Test.YteflgempjecnpaaLogNew
import Derived.Deep.AppendLies
import Derived.Maps.AppendAt
namespace Go.Proofs.Yteflgempjecnpaa
open Go.RowKit

theorem Try.infoEntry : (Try.prog.info? 45).map (fun i => (i.zero, i.size, i.bytes)) = some (some (.agg #[.int .i64 0, .int .i64 0, .int .i64 0, .slice none 0 0]), 4, 48) := by kernel_rfl
theorem Try.infoByte : (Try.prog.info? 5).map (fun i => (i.zero, i.size, i.bytes)) = some (some (.int .u8 0), 1, 1) := by kernel_rfl
/-! Worlds that differ in some blocks, and new ones. -/
structure Chg (L : List Nat) (w w' : World) : Prop where
  os : w'.os = w.os
  tape : w'.tape = w.tape
  output : w'.output = w.output
  size : w.heap.size ≤ w'.heap.size
  block : ∀ k, k < w.heap.size → ¬ k ∈ L → w'.heap[k]? = w.heap[k]?
theorem Chg.refl (L : List Nat) (w : World) : Chg L w w := ⟨rfl, rfl, rfl, Nat.le_refl _, fun _ _ _ => rfl⟩
theorem Chg.trans' {L L' : List Nat} {a b c : World} (h : Chg L a b) (k : Chg L' b c) (hL : ∀ x, x ∈ L' → x ∈ L ∨ a.heap.size ≤ x) : Chg L a c :=
  ⟨k.os.trans h.os, k.tape.trans h.tape, k.output.trans h.output, Nat.le_trans h.size k.size, fun i hi hn => (k.block i (Nat.lt_of_lt_of_le hi h.size) (fun hm => by
    rcases hL i hm with h1 | h1
    · exact hn h1
    · omega)).trans (h.block i hi hn)⟩
theorem Chg.trans {L : List Nat} {a b c : World} (h : Chg L a b) (k : Chg L b c) : Chg L a c := h.trans' k fun x hx => .inl hx
theorem Chg.of_below {L : List Nat} {w w' : World} (h : Below w.heap.size w w') : Chg L w w' := ⟨h.os, h.tape, h.output, h.size, fun k hk _ => h.block k hk⟩
theorem Chg.to_below {w w' : World} {B : Nat} {L : List Nat} (h : Chg L w w') (hB : B ≤ w.heap.size) (hL : ∀ x, x ∈ L → B ≤ x) : Below B w w' :=
  ⟨h.os, h.tape, h.output, h.size, fun k hk => h.block k (by omega) (fun hm => by have := hL k hm; omega)⟩
theorem Chg.set {L : List Nat} {w w1 : World} (h : Chg L w w1) {p : Addr} (hp : p.block ∈ L ∨ w.heap.size ≤ p.block) (u : Value) : Chg L w (w1.setCell p u) :=
  h.trans' (L' := [p.block]) ⟨rfl, rfl, rfl, by simp [World.setCell], fun k _ hk => Below.heap_setCell _ _ _ _ (fun e => hk (by simp [e]))⟩ (fun x hx => by
    have : x = p.block := by simpa using hx
    subst this; exact hp)
theorem Chg.below {L : List Nat} {w w1 w2 : World} (h : Chg L w w1) (k : Below w1.heap.size w1 w2) : Chg L w w2 := h.trans (.of_below k)
theorem Chg.blk {L : List Nat} {w w' : World} (h : Chg L w w') {g : Nat} {o : Obj} (hg : w.heap[g]? = some o) (hn : ¬ g ∈ L) : w'.heap[g]? = some o := (h.block g (blk_lt hg) hn).trans hg
theorem Chg.drew {L : List Nat} {w w1 : World} (h : Chg L w w1) : Chg L w w1.drew := ⟨h.os, h.tape, h.output, h.size, h.block⟩
theorem Chg.grown {L : List Nat} {w w1 w2 : World} {row : Option Nat} (h : Chg L w w1) (hg : w1.grownBy w2 row) (hr : ∀ k, row = some k → k ∈ L ∨ w.heap.size ≤ k) : Chg L w w2 :=
  h.trans' (L' := row.toList) ⟨hg.os, hg.tape, hg.output, hg.size, fun k hk hn => hg.block k hk (fun e => hn (by rw [← e]; simp))⟩ (fun x hx => hr x (by simpa using hx))
theorem ownsRow_blk {w w' : World} {base : Nat} {e : TypeId} {size : Nat} {v : Value} {n : Nat} {xs : List Value} (h : w.ownsRow base e size v n xs) (hb : ∀ g, v.ownBlock = some g → w'.heap[g]? = w.heap[g]?) : w'.ownsRow base e size v n xs := by
  refine ⟨h.1, ?_⟩
  rcases h.2 with h1 | ⟨g, cap, cur, h1, h2, h3, h4⟩
  · exact Or.inl h1
  · exact Or.inr ⟨g, cap, cur, h1, h2, (hb g (by rw [h1]; rfl)).trans h3, h4⟩
theorem own_keep {w w' : World} {base : Nat} {e : TypeId} {size : Nat} {v : Value} {n : Nat} {xs : List Value} (h : w.ownsRow base e size v n xs) (k : Below w.heap.size w w') : w'.ownsRow base e size v n xs :=
  ownsRow_blk h fun g hg => k.block g (h.lt g hg).2
theorem own_slice {w : World} {base : Nat} {e : TypeId} {size : Nat} {v : Value} {n : Nat} {xs : List Value} (h : w.ownsRow base e size v n xs) : ∃ a c, v = .slice a n c := by
  rcases h.2 with ⟨rfl, h0⟩ | ⟨g, cap, cur, rfl, _⟩
  · exact ⟨none, 0, by rw [h0]⟩
  · exact ⟨_, _, rfl⟩
theorem row_blk {w : World} {B : Nat} {e : TypeId} {size : Nat} {v : Value} {n : Nat} {xs : List Value} (h : w.ownsRow B e size v n xs) {g : Nat} (hg : v.ownBlock = some g) : ∃ cur, w.heap[g]? = some (.cells cur e (0, 0)) := by
  rcases h.2 with ⟨rfl, _⟩ | ⟨g', cap, cur, rfl, _, hh, _⟩
  · cases hg
  · have : g' = g := by simpa [Value.ownBlock] using hg
    subst this
    exact ⟨cur, hh⟩
theorem row_wb {w : World} {B wb : Nat} {e : TypeId} {size : Nat} {v : Value} {n : Nat} {xs : List Value} {cs : Array Value} {t : TypeId} {fz : Nat × Nat} (h : w.ownsRow B e size v n xs) (hb : w.heap[wb]? = some (.cells cs t fz)) (he : t ≠ e) : v.ownBlock ≠ some wb := by
  intro hg
  obtain ⟨c, hc⟩ := row_blk h hg
  rw [hb] at hc
  injection hc with hc
  injection hc with _ h2 _
  exact he h2
theorem row_some {w : World} {B : Nat} {e : TypeId} {size : Nat} {v : Value} {n : Nat} {xs : List Value} (h : w.ownsRow B e size v n xs) (hn : 0 < n) : ∃ g cap, v = .slice (some ⟨g, 0, none⟩) n cap ∧ B ≤ g := by
  rcases h.2 with ⟨rfl, h0⟩ | ⟨g', cap, cur, rfl, hb, _⟩
  · omega
  · exact ⟨g', cap, rfl, hb⟩
theorem row_cell {w : World} {B : Nat} {e : TypeId} {size : Nat} {n cap g : Nat} {xs : List Value} (h : w.ownsRow B e size (.slice (some ⟨g, 0, none⟩) n cap) n xs) {j : Nat} {u : Value} (hu : xs[j]? = some u) : w.cell? ⟨g, j, none⟩ = some u := by
  have := h.cells (g := g) rfl j u hu
  rw [addr_add, Nat.zero_add] at this
  exact this
def entsC (l : List Ent) : List Value := l.flatMap entC
theorem entsC_get : ∀ {l : List Ent} {i : Nat}, i < l.length → ∀ {j : Nat} {u : Value}, (entC (atE l i))[j]? = some u → (entsC l)[i * 4 + j]? = some u
  | [], i, h, _, _, _ => by simp at h
  | x :: r, i, h, j, u, hu => by
    have hl : ∀ y : Ent, (entC y).length = 4 := fun _ => rfl
    have hj : j < 4 := by
      have := (List.getElem?_eq_some_iff.1 hu).1
      rw [hl] at this
      exact this
    show (entC x ++ entsC r)[i * 4 + j]? = some u
    cases i with
    | zero =>
      rw [Nat.zero_mul, Nat.zero_add, List.getElem?_append_left (by rw [hl]; exact hj)]
      exact hu
    | succ i =>
      rw [List.getElem?_append_right (by rw [hl]; omega), hl, show (i + 1) * 4 + j - 4 = i * 4 + j by omega]
      exact entsC_get (by simpa using h) hu
theorem entsC_one {l : List Ent} : ∀ u ∈ entsC l, u.oneCell' = true := fun u hu => by
  unfold entsC at hu
  obtain ⟨x, _, hx⟩ := List.mem_flatMap.1 hu
  simp only [entC, List.mem_cons, List.not_mem_nil, or_false] at hx
  rcases hx with rfl | rfl | rfl | rfl <;> rfl
theorem entsC_len (l : List Ent) : (entsC l).length = l.length * 4 := by
  induction l with
  | nil => rfl
  | cons x r ih =>
    show (entC x ++ entsC r).length = _
    rw [List.length_append, ih, List.length_cons]
    show 4 + r.length * 4 = _
    omega
/-- Bytes of one's own, that nothing changes any more. -/
def Own8 (w : World) (d : DV) : Prop := d.bs.length ≤ 1000000 ∧ (d.a = none → d.c = 0) ∧ (d.bs = [] ∨ ∃ b off cs, d.a = some ⟨b, off, none⟩ ∧ w.heap[b]? = some (.cells cs 5 (0, 0)) ∧ ∀ j, j < d.bs.length → cs[off + j]? = some (.int .u8 (d.bs.getD j 0)))
theorem own8_nil (w : World) : Own8 w ⟨none, [], 0⟩ := ⟨by simp, fun _ => rfl, .inl rfl⟩
theorem Own8.at_ {w : World} {d : DV} (h : Own8 w d) : d.At w := fun j hj => by
  rcases h.2.2 with h | ⟨b, off, cs, e, hb, hc⟩
  · rw [h] at hj; simp at hj
  · exact ⟨b, off, e, by rw [blk_cell hb]; exact hc j hj⟩
/-- At block p stands a log with the entries L. -/
structure GX (B : Nat) (w : World) (p : Nat) (L : List Ent) (com app : Int) (v : Value) : Prop where
  blk : w.heap[p]? = some (.cells #[v, .int .i64 com, .int .i64 app] 65 (0, 0))
  hB : B ≤ p
  row : w.ownsRow B 45 4 v L.length (entsC L)
  dat : ∀ i, i < L.length → Own8 w (atE L i).d
def gM (p : Nat) (v : Value) : List Nat := p :: v.ownBlock.toList
theorem Own8.keep {w w' : World} {d : DV} {M : List Nat} (h : Own8 w d) (k : Chg M w w') (hM : ∀ x, x ∈ M → ∃ cs t fz, w.heap[x]? = some (.cells cs t fz) ∧ t ≠ 5) : Own8 w' d := by
  obtain ⟨l1, l2, h⟩ := h
  refine ⟨l1, l2, ?_⟩
  rcases h with h | ⟨b, off, cs, e, hb, hc⟩
  · exact .inl h
  · refine .inr ⟨b, off, cs, e, k.blk hb (fun hm => ?_), hc⟩
    obtain ⟨cs', t, fz, h1, h2⟩ := hM b hm
    rw [hb] at h1
    injection h1 with h1
    injection h1 with _ h3 _
    exact h2 h3.symm
theorem Own8.below {w w' : World} {d : DV} (h : Own8 w d) (k : Below w.heap.size w w') : Own8 w' d := h.keep (M := []) (.of_below k) (fun x hx => by cases hx)
section
variable {B : Nat} {w w' : World} {p : Nat} {L : List Ent} {com app : Int} {v : Value}
theorem GX.ty (h : GX B w p L com app v) : ∀ x, x ∈ gM p v → ∃ cs t fz, w.heap[x]? = some (.cells cs t fz) ∧ t ≠ 5 := by
  intro x hx
  rcases List.mem_cons.1 hx with rfl | hx
  · exact ⟨_, _, _, h.blk, by decide⟩
  · obtain ⟨c, hc⟩ := row_blk h.row (by simpa using hx)
    exact ⟨_, _, _, hc, by decide⟩
theorem GX.below (h : GX B w p L com app v) (k : Below w.heap.size w w') : GX B w' p L com app v :=
  ⟨blk_below h.blk k (blk_lt h.blk), h.hB, own_keep h.row k, fun i hi => (h.dat i hi).below k⟩
theorem GX.keep (h : GX B w p L com app v) {M : List Nat} (k : Chg M w w') (hM : ∀ x, x ∈ M → ∃ cs t fz, w.heap[x]? = some (.cells cs t fz) ∧ t ≠ 5) (hp : ¬ p ∈ M) (hv : ∀ g, v.ownBlock = some g → ¬ g ∈ M) : GX B w' p L com app v :=
  ⟨k.blk h.blk hp, h.hB, ownsRow_blk h.row fun g hg => k.block g (h.row.lt g hg).2 (hv g hg), fun i hi => (h.dat i hi).keep k hM⟩
/-- The places have moved. -/
theorem GX.places (h : GX B w p L com app v) {c : Nat} {u : Value} {com' app' : Int} (hc : (#[v, .int .i64 com, .int .i64 app] : Array Value).setIfInBounds c u = #[v, .int .i64 com', .int .i64 app']) : GX B (w.setCell ⟨p, c, none⟩ u) p L com' app' v := by
  have k : Chg [p] w (w.setCell ⟨p, c, none⟩ u) := (Chg.refl _ w).set (.inl (by simp)) _
  refine ⟨by rw [← hc]; exact blk_set h.blk c u, h.hB, ownsRow_blk h.row fun g hg => k.block g (h.row.lt g hg).2 (fun hm => row_wb h.row h.blk (by decide) (by rw [List.mem_singleton.1 hm] at hg; exact hg)), fun i hi => (h.dat i hi).keep k (fun x hx => ?_)⟩
  rw [List.mem_singleton.1 hx]
  exact ⟨_, _, _, h.blk, by decide⟩
theorem GX.lo (h : GX B w p L com app v) : ∀ x, x ∈ gM p v → B ≤ x := by
  intro x hx
  rcases List.mem_cons.1 hx with rfl | hx
  · exact h.hB
  · exact (h.row.lt x (by simpa using hx)).1
theorem GX.bl (h : GX B w p L com app v) (k : Chg (gM p v) w w') : Below B w w' := k.to_below (by have := h.hB; have := blk_lt h.blk; omega) h.lo
end
end Go.Proofs.Yteflgempjecnpaa
