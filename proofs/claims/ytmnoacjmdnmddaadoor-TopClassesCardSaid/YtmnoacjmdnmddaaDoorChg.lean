/- Worlds that differ in some blocks. Conditions: none. -/
import Derived.Test.YtmnoacjmdnmddaaDoorTcSeatBest
import Derived.Test.YtmnoacjmdnmddaaDoorTcSeatFind
namespace Go.Proofs.YtmnoacjmdnmddaaDoor
open Go.RowKit
/-! Worlds that differ in some blocks, and new ones. -/
structure Chg (L : List Nat) (w w' : World) : Prop where
  os : w'.os = w.os
  tape : w'.tape = w.tape
  output : w'.output = w.output
  size : w.heap.size ≤ w'.heap.size
  block : ∀ k, k < w.heap.size → ¬ k ∈ L → w'.heap[k]? = w.heap[k]?
theorem Chg.refl (L : List Nat) (w : World) : Chg L w w := ⟨rfl, rfl, rfl, Nat.le_refl _, fun _ _ _ => rfl⟩
theorem Chg.trans' {L L' : List Nat} {a b c : World} (h : Chg L a b) (k : Chg L' b c) (hL : ∀ x, x ∈ L' → x ∈ L ∨ a.heap.size ≤ x) : Chg L a c :=
  ⟨k.os.trans h.os, k.tape.trans h.tape, k.output.trans h.output, Nat.le_trans h.size k.size, fun i hi hn => (k.block i (Nat.lt_of_lt_of_le hi h.size) (fun hm => by
    rcases hL i hm with h1 | h1
    · exact hn h1
    · omega)).trans (h.block i hi hn)⟩
theorem Chg.trans {L : List Nat} {a b c : World} (h : Chg L a b) (k : Chg L b c) : Chg L a c := h.trans' k fun x hx => .inl hx
theorem Chg.of_below {L : List Nat} {w w' : World} (h : Below w.heap.size w w') : Chg L w w' := ⟨h.os, h.tape, h.output, h.size, fun k hk _ => h.block k hk⟩
theorem Chg.to_below {w w' : World} {B : Nat} {L : List Nat} (h : Chg L w w') (hB : B ≤ w.heap.size) (hL : ∀ x, x ∈ L → B ≤ x) : Below B w w' :=
  ⟨h.os, h.tape, h.output, h.size, fun k hk => h.block k (by omega) (fun hm => by have := hL k hm; omega)⟩
theorem Chg.set {L : List Nat} {w w1 : World} (h : Chg L w w1) {p : Addr} (hp : p.block ∈ L ∨ w.heap.size ≤ p.block) (u : Value) : Chg L w (w1.setCell p u) :=
  h.trans' (L' := [p.block]) ⟨rfl, rfl, rfl, by simp [World.setCell], fun k _ hk => Below.heap_setCell _ _ _ _ (fun e => hk (by simp [e]))⟩ (fun x hx => by
    have : x = p.block := by simpa using hx
    subst this; exact hp)
theorem Chg.below {L : List Nat} {w w1 w2 : World} (h : Chg L w w1) (k : Below w1.heap.size w1 w2) : Chg L w w2 := h.trans (.of_below k)
theorem Chg.blk {L : List Nat} {w w' : World} (h : Chg L w w') {g : Nat} {o : Obj} (hg : w.heap[g]? = some o) (hn : ¬ g ∈ L) : w'.heap[g]? = some o := (h.block g (blk_lt hg) hn).trans hg
theorem Chg.drew {L : List Nat} {w w1 : World} (h : Chg L w w1) : Chg L w w1.drew := ⟨h.os, h.tape, h.output, h.size, h.block⟩
theorem Chg.grown {L : List Nat} {w w1 w2 : World} {row : Option Nat} (h : Chg L w w1) (hg : w1.grownBy w2 row) (hr : ∀ k, row = some k → k ∈ L ∨ w.heap.size ≤ k) : Chg L w w2 :=
  h.trans' (L' := row.toList) ⟨hg.os, hg.tape, hg.output, hg.size, fun k hk hn => hg.block k hk (fun e => hn (by rw [← e]; simp))⟩ (fun x hx => hr x (by simpa using hx))
theorem addr_add (b off j : Nat) : (⟨b, off, none⟩ : Addr).add j = ⟨b, off + j, none⟩ := by
  unfold Addr.add
  split
  · next h => subst h; rfl
  · rfl
theorem ownsRow_blk {w w' : World} {base : Nat} {e : TypeId} {size : Nat} {v : Value} {n : Nat} {xs : List Value} (h : w.ownsRow base e size v n xs) (hb : ∀ g, v.ownBlock = some g → w'.heap[g]? = w.heap[g]?) : w'.ownsRow base e size v n xs := by
  refine ⟨h.1, ?_⟩
  rcases h.2 with h1 | ⟨g, cap, cur, h1, h2, h3, h4⟩
  · exact Or.inl h1
  · exact Or.inr ⟨g, cap, cur, h1, h2, (hb g (by rw [h1]; rfl)).trans h3, h4⟩
theorem own_slice {w : World} {base : Nat} {e : TypeId} {size : Nat} {v : Value} {n : Nat} {xs : List Value} (h : w.ownsRow base e size v n xs) : ∃ a c, v = .slice a n c := by
  rcases h.2 with ⟨rfl, h0⟩ | ⟨g, cap, cur, rfl, _⟩
  · exact ⟨none, 0, by rw [h0]⟩
  · exact ⟨_, _, rfl⟩
theorem row_blk {w : World} {B : Nat} {e : TypeId} {size : Nat} {v : Value} {n : Nat} {xs : List Value} (h : w.ownsRow B e size v n xs) {g : Nat} (hg : v.ownBlock = some g) : ∃ cur, w.heap[g]? = some (.cells cur e (0, 0)) := by
  rcases h.2 with ⟨rfl, _⟩ | ⟨g', cap, cur, rfl, _, hh, _⟩
  · cases hg
  · have : g' = g := by simpa [Value.ownBlock] using hg
    subst this
    exact ⟨cur, hh⟩
theorem row_wb {w : World} {B wb : Nat} {e : TypeId} {size : Nat} {v : Value} {n : Nat} {xs : List Value} {cs : Array Value} {t : TypeId} {fz : Nat × Nat} (h : w.ownsRow B e size v n xs) (hb : w.heap[wb]? = some (.cells cs t fz)) (he : t ≠ e) : v.ownBlock ≠ some wb := by
  intro hg
  obtain ⟨c, hc⟩ := row_blk h hg
  rw [hb] at hc
  injection hc with hc
  injection hc with _ h2 _
  exact he h2
theorem row_some {w : World} {B : Nat} {e : TypeId} {size : Nat} {v : Value} {n : Nat} {xs : List Value} (h : w.ownsRow B e size v n xs) (hn : 0 < n) : ∃ g cap, v = .slice (some ⟨g, 0, none⟩) n cap ∧ B ≤ g := by
  rcases h.2 with ⟨rfl, h0⟩ | ⟨g', cap, cur, rfl, hb, _⟩
  · omega
  · exact ⟨g', cap, rfl, hb⟩
theorem row_cell {w : World} {B : Nat} {e : TypeId} {size : Nat} {n cap g : Nat} {xs : List Value} (h : w.ownsRow B e size (.slice (some ⟨g, 0, none⟩) n cap) n xs) {j : Nat} {u : Value} (hu : xs[j]? = some u) : w.cell? ⟨g, j, none⟩ = some u := by
  have := h.cells (g := g) rfl j u hu
  rw [addr_add, Nat.zero_add] at this
  exact this
end Go.Proofs.YtmnoacjmdnmddaaDoor
