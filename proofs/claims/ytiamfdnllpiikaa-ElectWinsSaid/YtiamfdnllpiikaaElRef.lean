/- The reference's node of an election in memory; the small methods. Conditions: none. -/
import Derived.Test.YtiamfdnllpiikaaElRun
namespace Go.Proofs.Ytiamfdnllpiikaa
open Go.RowKit

def refC (S : Nd) (yv nv : Value) : Array Value :=
  #[.int .i64 S.id, .int .i64 S.term, .int .i64 S.vote, .slice S.va S.vs.length S.vc, .slice S.la S.ls.length S.lc, .int .i64 S.pat, .int .i64 S.role, .int .i64 S.leader, .int .i64 S.waited, .int .i64 S.limit, yv, nv]
structure RefX (w : World) (b : Nat) (S : Nd) (L : List Nat) (yv nv : Value) : Prop where
  blk : w.heap[b]? = some (.cells (refC S yv nv) 70 (0, 0))
  vs : GsOut w S.va S.vs L
  ls : GsOut w S.la S.ls L
  vl : S.vs.length ≤ maxLen
  ll : S.ls.length ≤ maxLen
  yes : Own w yv S.yes L
  no : Own w nv S.no L
  apart : Apart yv nv
  inb : b ∈ L
  yl : S.yes.length ≤ 1000
  nl : S.no.length ≤ 1000
  low : ∀ x, x ∈ L → x < w.heap.size
/-- AT BLOCK b STANDS THE REFERENCE'S NODE IN THE STATE S; what of it changes lies in the blocks L. -/
def RefAt (w : World) (b : Nat) (S : Nd) (L : List Nat) : Prop := ∃ yv nv, RefX w b S L yv nv
section
variable {w w' : World} {b : Nat} {S : Nd} {L : List Nat} {yv nv : Value}
theorem RefX.cell (h : RefX w b S L yv nv) (i : Nat) : w.cell? ⟨b, i, none⟩ = (refC S yv nv)[i]? := blk_cell h.blk i
theorem RefX.frozen (h : RefX w b S L yv nv) (i : Nat) : w.frozen? ⟨b, i, none⟩ = false := blk_frozen h.blk i
theorem ref_own_ne (hb : w.heap[b]? = some (.cells (refC S yv nv) 70 (0, 0))) {v : Value} {xs : List Int} {L : List Nat} (ho : Own w v xs L) {g : Nat} (hg : v.ownBlock = some g) : g ≠ b := by
  obtain ⟨cur, hc⟩ := ho.cells hg
  rintro rfl
  rw [hb] at hc
  injection hc with hc
  injection hc with _ h2 _
  revert h2
  decide
theorem RefX.keep (h : RefX w b S L yv nv) {L' : List Nat} (k : Chg L' w w') (hd : ∀ x, x ∈ L' → x < w.heap.size → ¬ x ∈ L) (hv : GsOut w S.va S.vs L') (hl : GsOut w S.la S.ls L') : RefX w' b S L yv nv := by
  have hin : ∀ {g : Nat} {o : Obj}, w.heap[g]? = some o → g ∈ L → w'.heap[g]? = some o := fun {g o} hg hm => k.blk hg (fun hx => hd g hx (blk_lt hg) hm)
  have hown : ∀ {v : Value} {xs : List Int}, Own w v xs L → Own w' v xs L := fun {v xs} ho => ho.keep fun g hg => by
    obtain ⟨cur, hc⟩ := ho.cells hg
    rw [hc]
    exact hin hc (ho.2 g hg)
  refine ⟨hin h.blk h.inb, ?_, ?_, h.vl, h.ll, hown h.yes, hown h.no, h.apart, h.inb, h.yl, h.nl, fun x hx => Nat.lt_of_lt_of_le (h.low x hx) k.size⟩
  · intro j hj
    obtain ⟨g, off, e, hn, hc⟩ := h.vs j hj
    obtain ⟨g', off', e', hn', hc'⟩ := hv j hj
    have e2 := e
    rw [e'] at e2
    obtain ⟨rfl, rfl⟩ : g' = g ∧ off' = off := by simpa using e2
    exact ⟨g', off', e', hn, k.cell hc hn'⟩
  · intro j hj
    obtain ⟨g, off, e, hn, hc⟩ := h.ls j hj
    obtain ⟨g', off', e', hn', hc'⟩ := hl j hj
    have e2 := e
    rw [e'] at e2
    obtain ⟨rfl, rfl⟩ : g' = g ∧ off' = off := by simpa using e2
    exact ⟨g', off', e', hn, k.cell hc hn'⟩
theorem RefX.below (h : RefX w b S L yv nv) (k : Below w.heap.size w w') : RefX w' b S L yv nv :=
  h.keep (L' := []) (.of_below k) (fun x hx => by cases hx) (h.vs.more (by simp)) (h.ls.more (by simp))
theorem RefAt.below (h : RefAt w b S L) (k : Below w.heap.size w w') : RefAt w' b S L := by
  obtain ⟨yv, nv, hx⟩ := h
  exact ⟨yv, nv, hx.below k⟩
theorem RefAt.low (h : RefAt w b S L) : ∀ x, x ∈ L → x < w.heap.size := by
  obtain ⟨yv, nv, hx⟩ := h
  exact hx.low
theorem RefAt.inb (h : RefAt w b S L) : b ∈ L := by
  obtain ⟨yv, nv, hx⟩ := h
  exact hx.inb
/-- The node alone has changed: its cells, maybe its lists. -/
theorem RefX.put (h : RefX w b S L yv nv) {S' : Nd} {yv' nv' : Value} {L' : List Nat} (k : Chg [b] w w') (hb : w'.heap[b]? = some (.cells (refC S' yv' nv') 70 (0, 0))) (h1 : S'.vs = S.vs ∧ S'.va = S.va) (h2 : S'.ls = S.ls ∧ S'.la = S.la)
    (hL : ∀ x, x ∈ L → x ∈ L') (hL2 : ∀ x, x ∈ L' → x ∈ L ∨ w.heap.size ≤ x ∧ x < w'.heap.size) (hy : Own w' yv' S'.yes L') (hn : Own w' nv' S'.no L') (ha : Apart yv' nv') (hyl : S'.yes.length ≤ 1000) (hnl : S'.no.length ≤ 1000) : RefX w' b S' L' yv' nv' := by
  have hkL : Chg L w w' := ⟨k.os, k.tape, k.output, k.size, fun i hi hn => k.block i hi (fun hm => hn (by rw [List.mem_singleton.1 hm]; exact h.inb))⟩
  have hmore : ∀ x, x ∈ L' → x ∈ L ∨ w.heap.size ≤ x := fun x hx => (hL2 x hx).imp id (·.1)
  exact ⟨hb, by rw [h1.1, h1.2]; exact (h.vs.more hmore).keep ⟨k.os, k.tape, k.output, k.size, fun i hi hn => k.block i hi (fun hm => hn (by rw [List.mem_singleton.1 hm]; exact hL _ h.inb))⟩, by rw [h2.1, h2.2]; exact (h.ls.more hmore).keep ⟨k.os, k.tape, k.output, k.size, fun i hi hn => k.block i hi (fun hm => hn (by rw [List.mem_singleton.1 hm]; exact hL _ h.inb))⟩, by rw [h1.1]; exact h.vl, by rw [h2.1]; exact h.ll, hy, hn, ha, hL _ h.inb, hyl, hnl, fun x hx => by
    rcases hL2 x hx with h3 | h3
    · exact Nat.lt_of_lt_of_le (h.low x h3) k.size
    · exact h3.2⟩
theorem RefX.own (h : RefX w b S L yv nv) (k : Chg [b] w w') {v : Value} {xs : List Int} (ho : Own w v xs L) : Own w' v xs L := ho.keep fun g hg => by
  obtain ⟨cur, hc⟩ := ho.cells hg
  exact k.block g (blk_lt hc) (fun hm => (ref_own_ne h.blk ho hg) (List.mem_singleton.1 hm))
/-- The scalars alone have changed. -/
theorem RefX.scal (h : RefX w b S L yv nv) {S' : Nd} (k : Chg [b] w w') (hb : w'.heap[b]? = some (.cells (refC S' yv nv) 70 (0, 0))) (h1 : S'.vs = S.vs ∧ S'.va = S.va) (h2 : S'.ls = S.ls ∧ S'.la = S.la) (h3 : S'.yes = S.yes) (h4 : S'.no = S.no) : RefX w' b S' L yv nv :=
  h.put k hb h1 h2 (fun x hx => hx) (fun x hx => .inl hx) (by rw [h3]; exact h.own k h.yes) (by rw [h4]; exact h.own k h.no) h.apart (by rw [h3]; exact h.yl) (by rw [h4]; exact h.nl)
/-- Nobody has said anything. -/
theorem RefX.none (h : RefX w b S L yv nv) {S' : Nd} (k : Chg [b] w w') (hb : w'.heap[b]? = some (.cells (refC S' (.slice none 0 0) (.slice none 0 0)) 70 (0, 0))) (h1 : S'.vs = S.vs ∧ S'.va = S.va) (h2 : S'.ls = S.ls ∧ S'.la = S.la) (h3 : S'.yes = []) (h4 : S'.no = []) : RefX w' b S' L (.slice none 0 0) (.slice none 0 0) :=
  h.put k hb h1 h2 (fun x hx => hx) (fun x hx => .inl hx) (by rw [h3]; exact own_nil _ _) (by rw [h4]; exact own_nil _ _) (apart_nil _) (by rw [h3]; decide) (by rw [h4]; decide)
end
theorem Chg.up1 {b : Nat} {L : List Nat} {w w' : World} (k : Chg [b] w w') (h : b ∈ L) : Chg L w w' := ⟨k.os, k.tape, k.output, k.size, fun i hi hn => k.block i hi (fun hm => hn (by rw [List.mem_singleton.1 hm]; exact h))⟩
/-- The same for every world that has only grown. -/
def MovesR (w : World) (b : Nat) (S' : Nd) (L : List Nat) (w' : World) : Prop := ∃ L', RefAt w' b S' L' ∧ Chg L w w' ∧ ∀ x, x ∈ L' → x ∈ L ∨ w.heap.size ≤ x
def SendsR (w : World) (b : Nat) (S' : Nd) (L : List Nat) (out : List Bal) (e : Ending) (w' : World) : Prop :=
  ∃ v, e = .returned v ∧ ∃ L', RefAt w' b S' L' ∧ Chg L w w' ∧ (∀ x, x ∈ L' → x ∈ L ∨ w.heap.size ≤ x) ∧ Bals w w' v out ∧ ∀ g, v.ownBlock = some g → ¬ g ∈ L'
theorem SendsR.none {w : World} {b : Nat} {S' : Nd} {L L' : List Nat} {w' : World} (h : RefAt w' b S' L') (k : Chg L w w') (hL : ∀ x, x ∈ L' → x ∈ L ∨ w.heap.size ≤ x) : SendsR w b S' L [] (.returned (.slice none 0 0)) w' :=
  ⟨_, rfl, L', h, k, hL, World.ownsRow_nil _ _ _ _, fun g hg => by cases hg⟩
theorem SendsR.some {w w1 w2 : World} {b : Nat} {S' : Nd} {L L' : List Nat} {out : List Bal} {v : Value} (h : RefAt w1 b S' L') (k : Chg L w w1) (hL : ∀ x, x ∈ L' → x ∈ L ∨ w.heap.size ≤ x)
    (hv : Bals w1 w2 v out) (kb : Below w1.heap.size w1 w2) : SendsR w b S' L out (.returned v) w2 :=
  ⟨v, rfl, L', h.below kb, k.below kb, hL, ⟨hv.1, by
    rcases hv.2 with h1 | ⟨g, cap, cur, h1, h2, h3⟩
    · exact .inl h1
    · exact .inr ⟨g, cap, cur, h1, Nat.le_trans k.size h2, h3⟩⟩, fun g hg hm => by
    have h1 := (hv.lt g hg).1
    have h2 := h.low g hm
    omega⟩
end Go.Proofs.Ytiamfdnllpiikaa
