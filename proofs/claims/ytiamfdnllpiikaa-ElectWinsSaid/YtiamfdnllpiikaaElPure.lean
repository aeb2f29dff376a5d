/- A node of an election, plain: what a tick, a ballot, a word of a leader does. Conditions: none. -/
import Derived.Test.YtiamfdnllpiikaaBMap
namespace Go.Proofs.Ytiamfdnllpiikaa
open Go.RowKit

structure Nd where
  id : Int
  pat : Int
  term : Int
  vote : Int
  role : Int
  leader : Int
  waited : Int
  limit : Int
  vs : List Int
  ls : List Int
  yes : List Int
  no : List Int
  va : Option Addr
  vc : Nat
  la : Option Addr
  lc : Nat
structure Bal where
  kind : Int
  src : Int
  dst : Int
  term : Int
  index : Int
  logTerm : Int
  yes : Bool

/-- The greatest term. -/
def maxIx : Int := 1099511627776
namespace Nd
def win (S : Nd) : Bool := winsB S.vs S.ls S.yes
def lost (S : Nd) : Bool := lostB S.vs S.ls S.no
def down (S : Nd) (t : Int) : Nd := { S with term := t, vote := 0, role := 0, leader := 0, yes := [], no := [] }
def alone (S : Nd) (r : Int) : Nd := { S with role := r, yes := [S.id], no := [] }
def lead (S : Nd) : Nd := { S with role := 3, leader := S.id }
def all (S : Nd) (kind term last lt : Int) : List Bal := (S.vs.filter fun v => decide (v ≠ S.id)).map fun v => ⟨kind, S.id, v, term, last, lt, false⟩
def stand (S : Nd) : Nd := ({ S with term := S.term + 1, vote := S.id } : Nd).alone 2
def run (S : Nd) (last lt : Int) : Nd × List Bal :=
  if maxIx ≤ S.term then ({ S with role := 0 }, [])
  else if S.stand.win = true then (S.stand.lead, []) else (S.stand, S.stand.all 3 (S.term + 1) last lt)
def wait (S : Nd) : Nd := { S with waited := S.waited + 1 }
def hope (S : Nd) (draw : Int) : Nd := ({ S with waited := 0, limit := S.pat + max draw 0 % S.pat, leader := 0 } : Nd).alone 1
def tick (S : Nd) (draw last lt : Int) : Nd × List Bal :=
  if S.role = 3 then (S, [])
  else if S.waited + 1 < S.limit ∨ ¬ S.id ∈ S.vs then (S.wait, [])
  else if (S.hope draw).win = true then (S.hope draw).run last lt else (S.hope draw, (S.hope draw).all 1 (S.term + 1) last lt)
def says (S : Nd) (src : Int) (y : Bool) : Nd :=
  if src ∈ S.yes ∨ src ∈ S.no then S else if y then { S with yes := S.yes ++ [src] } else { S with no := S.no ++ [src] }
/-- What answers come to. -/
def counted (S : Nd) (last lt : Int) : Nd × List Bal :=
  if S.win = true then (if S.role = 1 then S.run last lt else (S.lead, [])) else if S.lost = true then ({ S with role := 0 }, []) else (S, [])
def other (S : Nd) (src : Int) : Bool := decide (1 ≤ src) && decide (src ≤ 15) && decide (src ≠ S.id)
def voteFor (S : Nd) (src : Int) : Nd := { S with vote := src, waited := 0, role := if S.role = 1 then 0 else S.role }
/-- Its log ends no newer than the ballot says. -/
def oldB (b : Bal) (last lt : Int) : Bool := decide (lt < b.logTerm) || (decide (b.logTerm = lt) && decide (last ≤ b.index))
def take (S : Nd) (b : Bal) (last lt : Int) : Nd × List Bal :=
  if b.dst ≠ S.id ∨ S.other b.src = false ∨ b.term < 0 ∨ maxIx < b.term then (S, [])
  else if b.kind = 1 then
    if S.term < b.term ∧ oldB b last lt = true ∧ (S.leader = 0 ∨ S.pat ≤ S.waited) then (S, [⟨2, S.id, b.src, b.term, 0, 0, true⟩]) else (S, [⟨2, S.id, b.src, S.term, 0, 0, false⟩])
  else if b.kind = 2 then
    if S.term < b.term ∧ b.yes = false then (S.down b.term, [])
    else if S.role = 1 ∧ (b.yes = false ∨ b.term = S.term + 1) then (S.says b.src b.yes).counted last lt
    else (S, [])
  else if b.kind = 3 then
    let T := if S.term < b.term then S.down b.term else S
    if b.term = T.term ∧ (T.vote = 0 ∨ T.vote = b.src) ∧ oldB b last lt = true then (T.voteFor b.src, [⟨4, S.id, b.src, T.term, 0, 0, true⟩]) else (T, [⟨4, S.id, b.src, T.term, 0, 0, false⟩])
  else if b.kind = 4 then
    if S.term < b.term then (S.down b.term, [])
    else if S.role = 2 ∧ b.term = S.term then (((S.says b.src b.yes).counted last lt).1, [])
    else (S, [])
  else (S, [])
def heard (S : Nd) (src term : Int) : Nd × Bool :=
  if S.other src = false ∨ term < S.term ∨ maxIx < term ∨ (term = S.term ∧ S.role = 3) then (S, false)
  else ({ (if S.term < term then S.down term else S) with role := 0, leader := src, waited := 0 }, true)
def join (S : Nd) (vs ls : List Int) (va : Option Addr) (vc : Nat) (la : Option Addr) (lc : Nat) : Nd × Int := if rightG vs ls = true then ({ S with vs := vs, ls := ls, va := va, vc := vc, la := la, lc := lc }, 0) else (S, 1)
end Nd
/-- A new node, if there may be one. -/
def newOk (id term vote pat : Int) (vs ls : List Int) : Bool :=
  decide (1 ≤ id) && decide (id ≤ 15) && decide (0 ≤ term) && decide (term ≤ maxIx) && decide (0 ≤ vote) && decide (vote ≤ 15) && decide (1 ≤ pat) && decide (pat ≤ 1000) && rightG vs ls
def newNd (id term vote pat : Int) (vs ls : List Int) (va : Option Addr) (vc : Nat) (la : Option Addr) (lc : Nat) : Nd := ⟨id, pat, term, vote, 0, 0, 0, pat, vs, ls, [], [], va, vc, la, lc⟩

/-! Worlds that differ in some blocks, and new ones. -/
structure Chg (L : List Nat) (w w' : World) : Prop where
  os : w'.os = w.os
  tape : w'.tape = w.tape
  output : w'.output = w.output
  size : w.heap.size ≤ w'.heap.size
  block : ∀ k, k < w.heap.size → ¬ k ∈ L → w'.heap[k]? = w.heap[k]?
theorem Chg.refl (L : List Nat) (w : World) : Chg L w w := ⟨rfl, rfl, rfl, Nat.le_refl _, fun _ _ _ => rfl⟩
theorem Chg.trans' {L L' : List Nat} {a b c : World} (h : Chg L a b) (k : Chg L' b c) (hL : ∀ x, x ∈ L' → x ∈ L ∨ a.heap.size ≤ x) : Chg L a c :=
  ⟨k.os.trans h.os, k.tape.trans h.tape, k.output.trans h.output, Nat.le_trans h.size k.size, fun i hi hn => (k.block i (Nat.lt_of_lt_of_le hi h.size) (fun hm => by
    rcases hL i hm with h1 | h1
    · exact hn h1
    · omega)).trans (h.block i hi hn)⟩
theorem Chg.trans {L : List Nat} {a b c : World} (h : Chg L a b) (k : Chg L b c) : Chg L a c := h.trans' k fun x hx => .inl hx
theorem Chg.of_below {L : List Nat} {w w' : World} (h : Below w.heap.size w w') : Chg L w w' := ⟨h.os, h.tape, h.output, h.size, fun k hk _ => h.block k hk⟩
theorem Chg.to_below {w w' : World} {B : Nat} {L : List Nat} (h : Chg L w w') (hB : B ≤ w.heap.size) (hL : ∀ x, x ∈ L → B ≤ x) : Below B w w' :=
  ⟨h.os, h.tape, h.output, h.size, fun k hk => h.block k (by omega) (fun hm => by have := hL k hm; omega)⟩
theorem Chg.set {L : List Nat} {w w1 : World} (h : Chg L w w1) {p : Addr} (hp : p.block ∈ L ∨ w.heap.size ≤ p.block) (u : Value) : Chg L w (w1.setCell p u) :=
  h.trans' (L' := [p.block]) ⟨rfl, rfl, rfl, by simp [World.setCell], fun k _ hk => Below.heap_setCell _ _ _ _ (fun e => hk (by simp [e]))⟩ (fun x hx => by
    have : x = p.block := by simpa using hx
    subst this; exact hp)
theorem Chg.put {L : List Nat} {w w1 : World} (h : Chg L w w1) {g : Nat} (hp : g ∈ L ∨ w.heap.size ≤ g) (o : Obj) : Chg L w (putObj w1 g o) :=
  h.trans' (L' := [g]) ⟨rfl, rfl, rfl, by simp [putObj], fun k _ hk => put_far (fun e => hk (by simp [e]))⟩ (fun x hx => by
    have : x = g := by simpa using hx
    subst this; exact hp)
theorem Chg.alloc {L : List Nat} {w w1 : World} (h : Chg L w w1) (o : Obj) : Chg L w (w1.alloc o) := h.trans (.of_below (bl_alloc (Below.refl _ _) o))
theorem Chg.drew {L : List Nat} {w w1 : World} (h : Chg L w w1) : Chg L w w1.drew := ⟨h.os, h.tape, h.output, h.size, h.block⟩
theorem Chg.below {L : List Nat} {w w1 w2 : World} (h : Chg L w w1) (k : Below w1.heap.size w1 w2) : Chg L w w2 := h.trans (.of_below k)
theorem Chg.blk {L : List Nat} {w w' : World} (h : Chg L w w') {g : Nat} {o : Obj} (hg : w.heap[g]? = some o) (hn : ¬ g ∈ L) : w'.heap[g]? = some o := (h.block g (blk_lt hg) hn).trans hg
theorem Chg.cell {L : List Nat} {w w' : World} (h : Chg L w w') {b i : Nat} {v : Value} (hc : w.cell? ⟨b, i, none⟩ = some v) (hn : ¬ b ∈ L) : w'.cell? ⟨b, i, none⟩ = some v := by
  rw [World.cell?_of_block (w := w) (h.block b (World.block_lt_of_cell? w _ hc) hn)]
  exact hc
theorem Chg.grown {L : List Nat} {w w1 w2 : World} {row : Option Nat} (h : Chg L w w1) (hg : w1.grownBy w2 row) (hr : ∀ k, row = some k → k ∈ L ∨ w.heap.size ≤ k) : Chg L w w2 :=
  h.trans' (L' := row.toList) ⟨hg.os, hg.tape, hg.output, hg.size, fun k hk hn => hg.block k hk (fun e => hn (by rw [← e]; simp))⟩ (fun x hx => hr x (by simpa using hx))

/-- A list of ints at an address that lies in none of some blocks. -/
def GsOut (w : World) (a : Option Addr) (gs : List Int) (L : List Nat) : Prop := ∀ j, j < gs.length → ∃ b off, a = some ⟨b, off, none⟩ ∧ ¬ b ∈ L ∧ w.cell? ⟨b, off + j, none⟩ = some (.int .i64 (gs.getD j 0))
theorem GsOut.at_ {w : World} {a : Option Addr} {gs : List Int} {L : List Nat} (h : GsOut w a gs L) : GsAt w a gs := fun j hj => by
  obtain ⟨b, off, e, _, hc⟩ := h j hj
  exact ⟨b, off, e, hc⟩
theorem GsOut.keep {w w' : World} {a : Option Addr} {gs : List Int} {L : List Nat} (h : GsOut w a gs L) (k : Chg L w w') : GsOut w' a gs L := fun j hj => by
  obtain ⟨b, off, e, hn, hc⟩ := h j hj
  exact ⟨b, off, e, hn, k.cell hc hn⟩
theorem GsOut.more {w : World} {a : Option Addr} {gs : List Int} {L L' : List Nat} (h : GsOut w a gs L) (hL : ∀ x, x ∈ L' → x ∈ L ∨ w.heap.size ≤ x) : GsOut w a gs L' := fun j hj => by
  obtain ⟨b, off, e, hn, hc⟩ := h j hj
  refine ⟨b, off, e, fun hm => ?_, hc⟩
  have hlt := World.block_lt_of_cell? w _ hc
  rcases hL b hm with h1 | h1
  · exact hn h1
  · simp at hlt; omega

/-- Two slices that lie in rows of their own. -/
def Apart (u v : Value) : Prop := u.ownBlock = none ∨ v.ownBlock = none ∨ u.ownBlock ≠ v.ownBlock
theorem Apart.symm {u v : Value} (h : Apart u v) : Apart v u := by
  rcases h with h | h | h
  · exact .inr (.inl h)
  · exact .inl h
  · exact .inr (.inr (Ne.symm h))
theorem Apart.row {u v : Value} (h : Apart u v) : u.ownBlock = none ∨ u.ownBlock ≠ v.ownBlock := by
  rcases h with h | h | h
  · exact .inl h
  · by_cases e : u.ownBlock = none
    · exact .inl e
    · exact .inr (by rw [h]; exact e)
  · exact .inr h
theorem Apart.grown {W : World} {b : Nat} {e : TypeId} {s n : Nat} {u v v' : Value} {xs : List Value} (h : Apart u v) (hu : W.ownsRow b e s u n xs) (hv : v'.ownBlock = v.ownBlock ∨ ∃ g, v'.ownBlock = some g ∧ W.heap.size ≤ g) : Apart u v' := by
  rcases hv with hv | ⟨g, hv, hg⟩
  · unfold Apart at *; rw [hv]; exact h
  · cases hub : u.ownBlock with
    | none => exact .inl hub
    | some k =>
      have := (hu.lt k hub).2
      refine .inr (.inr ?_)
      rw [hub, hv]
      intro e
      injection e with e
      omega
theorem apart_nil (v : Value) : Apart (.slice none 0 0) v := .inl rfl

/-- A list of ints of one's own, in one of some blocks. -/
def Own (w : World) (v : Value) (xs : List Int) (L : List Nat) : Prop := w.ownsRow 0 3 1 v xs.length (xs.map (.int .i64)) ∧ ∀ g, v.ownBlock = some g → g ∈ L
theorem own_nil (w : World) (L : List Nat) : Own w (.slice none 0 0) [] L := ⟨World.ownsRow_nil _ _ _ _, fun g h => by cases h⟩
theorem ownsRow_blk {w w' : World} {base : Nat} {e : TypeId} {size : Nat} {v : Value} {n : Nat} {xs : List Value} (h : w.ownsRow base e size v n xs) (hb : ∀ g, v.ownBlock = some g → w'.heap[g]? = w.heap[g]?) : w'.ownsRow base e size v n xs := by
  refine ⟨h.1, ?_⟩
  rcases h.2 with h1 | ⟨g, cap, cur, h1, h2, h3, h4⟩
  · exact Or.inl h1
  · exact Or.inr ⟨g, cap, cur, h1, h2, (hb g (by rw [h1]; rfl)).trans h3, h4⟩
theorem Own.keep {w w' : World} {v : Value} {xs : List Int} {L : List Nat} (h : Own w v xs L) (hb : ∀ g, v.ownBlock = some g → w'.heap[g]? = w.heap[g]?) : Own w' v xs L := ⟨ownsRow_blk h.1 hb, h.2⟩
theorem Own.cells {w : World} {v : Value} {xs : List Int} {L : List Nat} (h : Own w v xs L) {g : Nat} (hg : v.ownBlock = some g) : ∃ cur, w.heap[g]? = some (.cells cur 3 (0, 0)) := by
  rcases h.1.2 with ⟨rfl, _⟩ | ⟨g', cap, cur, rfl, _, hh, _⟩
  · cases hg
  · have : g' = g := by simpa [Value.ownBlock] using hg
    subst this
    exact ⟨cur, hh⟩
theorem Own.gs {w : World} {v : Value} {xs : List Int} {L : List Nat} (h : Own w v xs L) : ∃ ad cap, v = .slice ad xs.length cap ∧ GsAt w ad xs ∧ xs.length ≤ cap ∧ cap ≤ maxLen := by
  rcases h.1.2 with ⟨rfl, h0⟩ | ⟨g, cap, cur, rfl, _, _, h1, h2, _⟩
  · have : xs = [] := List.length_eq_zero_iff.1 h0
    subst this
    exact ⟨none, 0, rfl, fun j hj => by simp at hj, by simp, by simp⟩
  · refine ⟨some ⟨g, 0, none⟩, cap, rfl, fun j hj => ⟨g, 0, rfl, ?_⟩, h1, h2⟩
    have hc := h.1.cells (g := g) rfl j (.int .i64 (xs.getD j 0)) (by simp [List.getD, List.getElem?_eq_getElem hj])
    have hadd : (⟨g, 0, none⟩ : Addr).add j = ⟨g, 0 + j, none⟩ := by unfold Addr.add; split <;> simp_all
    rw [← hadd]
    exact hc
end Go.Proofs.Ytiamfdnllpiikaa
