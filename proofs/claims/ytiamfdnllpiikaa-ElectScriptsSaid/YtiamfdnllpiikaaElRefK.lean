/- Both nodes side by side. Conditions: none. -/
import Derived.Test.YtiamfdnllpiikaaElRefI
import Derived.Test.YtiamfdnllpiikaaElRefJ
import Derived.Test.YtiamfdnllpiikaaElRefG
namespace Go.Proofs.Ytiamfdnllpiikaa
open Go.RowKit

/-- Both nodes stand in the state S; w0 is the world before both. -/
structure Two (w0 w : World) (b c : Nat) (S : Nd) (L R : List Nat) : Prop where
  below : Below w0.heap.size w0 w
  n : NodeAt w b S L
  r : RefAt w c S R
  grp : Grp w0 S
  l0 : ∀ x, x ∈ L → w0.heap.size ≤ x
  r0 : ∀ x, x ∈ R → w0.heap.size ≤ x
  dis : ∀ x, x ∈ L → ¬ x ∈ R
/-- The first has gone on, the other one not yet. -/
structure Half (w0 w : World) (b c : Nat) (S S' : Nd) (L R : List Nat) : Prop where
  below : Below w0.heap.size w0 w
  n : NodeAt w b S' L
  r : RefAt w c S R
  grp : Grp w0 S'
  l0 : ∀ x, x ∈ L → w0.heap.size ≤ x
  r0 : ∀ x, x ∈ R → w0.heap.size ≤ x
  dis : ∀ x, x ∈ L → ¬ x ∈ R
theorem Two.grow {w0 w w' : World} {b c : Nat} {S : Nd} {L R : List Nat} (h : Two w0 w b c S L R) (k : Below w.heap.size w w') : Two w0 w' b c S L R :=
  ⟨bl_trans h.below k, h.n.below k, h.r.below k, h.grp, h.l0, h.r0, h.dis⟩
theorem Half.grow {w0 w w' : World} {b c : Nat} {S S' : Nd} {L R : List Nat} (h : Half w0 w b c S S' L R) (k : Below w.heap.size w w') : Half w0 w' b c S S' L R :=
  ⟨bl_trans h.below k, h.n.below k, h.r.below k, h.grp, h.l0, h.r0, h.dis⟩
theorem Two.half {w0 w w' : World} {b c : Nat} {S S' : Nd} {L R L' : List Nat} (h : Two w0 w b c S L R) (hn : NodeAt w' b S' L') (k : Chg L w w') (hL : ∀ x, x ∈ L' → x ∈ L ∨ w.heap.size ≤ x) (hg : Grp w0 S') : Half w0 w' b c S S' L' R :=
  ⟨h.below.trans (k.to_below h.below.size h.l0), hn, h.r.keepL h.grp h.below k h.dis h.l0, hg,
    fun x hx => by
      rcases hL x hx with h1 | h1
      · exact h.l0 x h1
      · exact Nat.le_trans h.below.size h1,
    h.r0, fun x hx hr => by
      rcases hL x hx with h1 | h1
      · exact h.dis x h1 hr
      · have := h.r.low x hr; omega⟩
theorem Half.two {w0 w w' : World} {b c : Nat} {S S' : Nd} {L R R' : List Nat} (h : Half w0 w b c S S' L R) (hn : RefAt w' c S' R') (k : Chg R w w') (hR : ∀ x, x ∈ R' → x ∈ R ∨ w.heap.size ≤ x) : Two w0 w' b c S' L R' :=
  ⟨h.below.trans (k.to_below h.below.size h.r0), h.n.keepR h.grp h.below k (fun x hr hl => h.dis x hl hr) h.r0, hn, h.grp, h.l0,
    fun x hx => by
      rcases hR x hx with h1 | h1
      · exact h.r0 x h1
      · exact Nat.le_trans h.below.size h1,
    fun x hx hr => by
      rcases hR x hr with h1 | h1
      · exact h.dis x hx h1
      · have := h.n.low x hx; omega⟩
/-- A row that was made before stands while only other blocks change. -/
theorem Bals.keepR {w0 w w' : World} {v : Value} {l : List Bal} {R : List Nat} (h : Bals w0 w v l) (k : Chg R w w') (hR : ∀ x, x ∈ R → x < w0.heap.size) : Bals w0 w' v l :=
  ownsRow_blk h fun g hg => k.block g (h.lt g hg).2 (fun hm => by have h1 := (h.lt g hg).1; have h2 := hR g hm; omega)
theorem Two.apart {w0 w : World} {b c : Nat} {S : Nd} {L R : List Nat} (h : Two w0 w b c S L R) {g : Nat} (hg : w0.heap.size ≤ g) (hL : ¬ g ∈ L) : True := trivial
end Go.Proofs.Ytiamfdnllpiikaa
