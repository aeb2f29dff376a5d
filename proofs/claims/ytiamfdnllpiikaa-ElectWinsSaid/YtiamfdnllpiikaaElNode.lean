/- A node of an election in memory; the small methods. Conditions: none. -/
import Derived.Test.YtiamfdnllpiikaaElPure
namespace Go.Proofs.Ytiamfdnllpiikaa
open Go.RowKit

def nodeC (S : Nd) (m : Nat) : Array Value :=
  #[.int .i64 S.id, .int .i64 S.pat, .int .i64 S.term, .int .i64 S.vote, .slice S.va S.vs.length S.vc, .slice S.la S.ls.length S.lc, .int .i64 S.role, .int .i64 S.leader, .int .i64 S.waited, .int .i64 S.limit, .map (some m)]
structure NodeX (w : World) (b : Nat) (S : Nd) (L : List Nat) (m : Nat) (es : Array MapEntry) (clock : Nat) (yv nv : Value) : Prop where
  blk : w.heap[b]? = some (.cells (nodeC S m) 74 (0, 0))
  vs : GsOut w S.va S.vs L
  ls : GsOut w S.la S.ls L
  vl : S.vs.length ≤ maxLen
  ll : S.ls.length ≤ maxLen
  map : w.heap[m]? = some (.map es clock)
  keys : AllB es.toList
  gy : (findB es.toList true).getD (.slice none 0 0) = yv
  gn : (findB es.toList false).getD (.slice none 0 0) = nv
  yes : Own w yv S.yes L
  no : Own w nv S.no L
  apart : Apart yv nv
  inb : b ∈ L
  inm : m ∈ L
  yl : S.yes.length ≤ 1000
  nl : S.no.length ≤ 1000
  low : ∀ x, x ∈ L → x < w.heap.size
/-- AT BLOCK b STANDS A NODE IN THE STATE S; what of it changes lies in the blocks L. -/
def NodeAt (w : World) (b : Nat) (S : Nd) (L : List Nat) : Prop := ∃ m es clock yv nv, NodeX w b S L m es clock yv nv

section
variable {w w' : World} {b : Nat} {S : Nd} {L : List Nat} {m clock : Nat} {es : Array MapEntry} {yv nv : Value}
theorem NodeX.cell (h : NodeX w b S L m es clock yv nv) (i : Nat) : w.cell? ⟨b, i, none⟩ = (nodeC S m)[i]? := blk_cell h.blk i
theorem NodeX.frozen (h : NodeX w b S L m es clock yv nv) (i : Nat) : w.frozen? ⟨b, i, none⟩ = false := blk_frozen h.blk i
theorem NodeX.bm (h : NodeX w b S L m es clock yv nv) : b ≠ m := fun e => by
  have h1 := h.blk
  rw [e, h.map] at h1
  cases h1
theorem NodeX.own_ne (h : NodeX w b S L m es clock yv nv) {v : Value} {xs : List Int} (ho : Own w v xs L) {g : Nat} (hg : v.ownBlock = some g) : g ≠ b ∧ g ≠ m := by
  obtain ⟨cur, hc⟩ := ho.cells hg
  constructor
  · rintro rfl
    rw [h.blk] at hc
    cases hc
  · rintro rfl
    rw [h.map] at hc
    cases hc
/-- Other blocks alone have changed. -/
theorem NodeX.keep (h : NodeX w b S L m es clock yv nv) {L' : List Nat} (k : Chg L' w w') (hd : ∀ x, x ∈ L' → x < w.heap.size → ¬ x ∈ L) (hv : GsOut w S.va S.vs L') (hl : GsOut w S.la S.ls L') : NodeX w' b S L m es clock yv nv := by
  have hin : ∀ {g : Nat} {o : Obj}, w.heap[g]? = some o → g ∈ L → w'.heap[g]? = some o := fun {g o} hg hm => k.blk hg (fun hx => hd g hx (blk_lt hg) hm)
  have hown : ∀ {v : Value} {xs : List Int}, Own w v xs L → Own w' v xs L := fun {v xs} ho => ho.keep fun g hg => by
    obtain ⟨cur, hc⟩ := ho.cells hg
    rw [hc]
    exact hin hc (ho.2 g hg)
  refine ⟨hin h.blk h.inb, ?_, ?_, h.vl, h.ll, hin h.map h.inm, h.keys, h.gy, h.gn, hown h.yes, hown h.no, h.apart, h.inb, h.inm, h.yl, h.nl, fun x hx => Nat.lt_of_lt_of_le (h.low x hx) k.size⟩
  · intro j hj
    obtain ⟨g, off, e, hn, hc⟩ := h.vs j hj
    obtain ⟨g', off', e', hn', hc'⟩ := hv j hj
    have e2 := e
    rw [e'] at e2
    obtain ⟨rfl, rfl⟩ : g' = g ∧ off' = off := by simpa using e2
    exact ⟨g', off', e', hn, k.cell hc hn'⟩
  · intro j hj
    obtain ⟨g, off, e, hn, hc⟩ := h.ls j hj
    obtain ⟨g', off', e', hn', hc'⟩ := hl j hj
    have e2 := e
    rw [e'] at e2
    obtain ⟨rfl, rfl⟩ : g' = g ∧ off' = off := by simpa using e2
    exact ⟨g', off', e', hn, k.cell hc hn'⟩
theorem NodeX.below (h : NodeX w b S L m es clock yv nv) (k : Below w.heap.size w w') : NodeX w' b S L m es clock yv nv :=
  h.keep (L' := []) (.of_below k) (fun x hx => by cases hx) (h.vs.more (by simp)) (h.ls.more (by simp))
theorem NodeAt.below (h : NodeAt w b S L) (k : Below w.heap.size w w') : NodeAt w' b S L := by
  obtain ⟨m, es, clock, yv, nv, hx⟩ := h
  exact ⟨m, es, clock, yv, nv, hx.below k⟩
/-- The scalars alone have changed. -/
theorem NodeX.scal (h : NodeX w b S L m es clock yv nv) {S' : Nd} (k : Chg [b] w w') (hb : w'.heap[b]? = some (.cells (nodeC S' m) 74 (0, 0))) (h1 : S'.vs = S.vs ∧ S'.va = S.va) (h2 : S'.ls = S.ls ∧ S'.la = S.la) (h3 : S'.yes = S.yes) (h4 : S'.no = S.no) : NodeX w' b S' L m es clock yv nv := by
  have hkL : Chg L w w' := ⟨k.os, k.tape, k.output, k.size, fun i hi hn => k.block i hi (fun hm => hn (by rw [List.mem_singleton.1 hm]; exact h.inb))⟩
  have hown : ∀ {v : Value} {xs : List Int}, Own w v xs L → Own w' v xs L := fun {v xs} ho => ho.keep fun g hg => by
    obtain ⟨cur, hc⟩ := ho.cells hg
    exact k.block g (blk_lt hc) (fun hm => (h.own_ne ho hg).1 (List.mem_singleton.1 hm))
  refine ⟨hb, by rw [h1.1, h1.2]; exact h.vs.keep hkL, by rw [h2.1, h2.2]; exact h.ls.keep hkL, by rw [h1.1]; exact h.vl, by rw [h2.1]; exact h.ll, ?_, h.keys, h.gy, h.gn, by rw [h3]; exact hown h.yes, by rw [h4]; exact hown h.no, h.apart, h.inb, h.inm, by rw [h3]; exact h.yl, by rw [h4]; exact h.nl, fun x hx => Nat.lt_of_lt_of_le (h.low x hx) k.size⟩
  exact k.blk h.map (fun hm => h.bm (List.mem_singleton.1 hm).symm)
end

/-- What a call that changes a node comes to. -/
def Moves (w : World) (b : Nat) (S' : Nd) (L : List Nat) (w' : World) : Prop := ∃ L', NodeAt w' b S' L' ∧ Chg L w w' ∧ ∀ x, x ∈ L' → x ∈ L ∨ w.heap.size ≤ x

theorem role_at {b : Nat} {S : Nd} {L : List Nat} {w : World} (h : NodeAt w b S L) :
    Calls Try.prog 12 #[.pointer (some ⟨b, 0, none⟩)] w fun e w' => e = .returned (.int .i64 S.role) ∧ w = w' := by
  obtain ⟨m, es, clock, yv, nv, hx⟩ := h
  have c6 := hx.cell 6
  simp only [nodeC] at c6
  clear hx
  go_enter Try.func12, Try.ntmps12
  go_wp2_with fail
  go_ret
  exact ⟨rfl, rfl⟩
theorem leader_at {b : Nat} {S : Nd} {L : List Nat} {w : World} (h : NodeAt w b S L) :
    Calls Try.prog 14 #[.pointer (some ⟨b, 0, none⟩)] w fun e w' => e = .returned (.int .i64 S.leader) ∧ w = w' := by
  obtain ⟨m, es, clock, yv, nv, hx⟩ := h
  have c7 := hx.cell 7
  simp only [nodeC] at c7
  clear hx
  go_enter Try.func14, Try.ntmps14
  go_wp2_with fail
  go_ret
  exact ⟨rfl, rfl⟩
theorem hard_at {b : Nat} {S : Nd} {L : List Nat} {w : World} (h : NodeAt w b S L) :
    Calls Try.prog 13 #[.pointer (some ⟨b, 0, none⟩)] w fun e w' => e = .returned (.agg #[.int .i64 S.term, .int .i64 S.vote]) ∧ Below w.heap.size w w' := by
  obtain ⟨m, es, clock, yv, nv, hx⟩ := h
  have c2 := hx.cell 2
  have c3 := hx.cell 3
  have hlt := blk_lt hx.blk
  simp only [nodeC] at c2 c3
  clear hx
  go_enter Try.func13, Try.ntmps13
  go_wp2_with fail
  exact bodyPost_ret (v := .agg #[.int .i64 S.term, .int .i64 S.vote]) (by simp [results, Try.results13, go_sem]) rfl ⟨rfl, bl_alloc (Below.refl _ _) _⟩
end Go.Proofs.Ytiamfdnllpiikaa
