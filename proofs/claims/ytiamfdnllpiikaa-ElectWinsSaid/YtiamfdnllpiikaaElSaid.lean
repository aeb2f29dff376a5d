/- elect: a node that another has said yes or no to, in memory. Conditions: none. -/
import Derived.Test.YtiamfdnllpiikaaStagedL
import Derived.Test.YtiamfdnllpiikaaElTick
namespace Go.Proofs.Ytiamfdnllpiikaa
open Go.RowKit

theorem Chg.wider {L L' : List Nat} {w w' : World} (h : Chg L w w') (hL : ∀ x, x ∈ L → x ∈ L') : Chg L' w w' := ⟨h.os, h.tape, h.output, h.size, fun k hk hn => h.block k hk fun hm => hn (hL k hm)⟩
def Nd.more (S : Nd) (y : Bool) (src : Int) : Nd := if y then { S with yes := S.yes ++ [src] } else { S with no := S.no ++ [src] }
def Nd.side (S : Nd) (y : Bool) : List Int := if y then S.yes else S.no

/-- The world behind 'n.said[y] = append(n.said[y], src)'. -/
theorem NodeX.said {w W2 : World} {b : Nat} {S : Nd} {L : List Nat} {m clock : Nat} {es : Array MapEntry} {yv nv : Value} (h : NodeX w b S L m es clock yv nv) (y : Bool) (src : Int) {v' : Value} {es' : Array MapEntry} {ck' : Nat}
    (hg : w.grownBy W2 (if y then yv else nv).ownBlock) (hown : W2.ownsRow 0 3 1 v' ((S.side y).length + 1) (((S.side y) ++ [src]).map (.int .i64)))
    (hv' : v'.ownBlock = (if y then yv else nv).ownBlock ∨ ∃ g, v'.ownBlock = some g ∧ w.heap.size ≤ g)
    (hk : AllB es'.toList) (h1 : findB es'.toList y = some v') (h2 : findB es'.toList (!y) = findB es.toList (!y)) (hl : (S.side y).length < 1000) :
    NodeAt (putObj W2 m (.map es' ck')) b (S.more y src) (v'.ownBlock.toList ++ L) ∧ Chg L w (putObj W2 m (.map es' ck')) ∧ ∀ x, x ∈ v'.ownBlock.toList ++ L → x ∈ L ∨ w.heap.size ≤ x := by
  have hside : Own w (if y then yv else nv) (S.side y) L := by cases y; exact h.no; exact h.yes
  have hothr : Own w (if y then nv else yv) (S.side !y) L := by cases y; exact h.yes; exact h.no
  have hap : Apart (if y then nv else yv) (if y then yv else nv) := by cases y; exact h.apart; exact h.apart.symm
  have k2 : Chg L w W2 := (Chg.refl L w).grown hg (fun k hk => .inl (hside.2 k hk))
  have k3 : Chg L w (putObj W2 m (.map es' ck')) := k2.put (.inl h.inm) _
  have hL : ∀ x, x ∈ v'.ownBlock.toList ++ L → x ∈ L ∨ w.heap.size ≤ x := by
    intro x hx
    rcases List.mem_append.1 hx with hx | hx
    · have hx' : v'.ownBlock = some x := by simpa using hx
      rcases hv' with e | ⟨g, e, hg'⟩
      · exact .inl (hside.2 x (by rw [← e]; exact hx'))
      · rw [hx'] at e
        cases e
        exact .inr hg'
    · exact .inl hx
  have hkeep : ∀ {g : Nat} {o : Obj}, w.heap[g]? = some o → (if y then yv else nv).ownBlock ≠ some g → g ≠ m → (putObj W2 m (.map es' ck')).heap[g]? = some o := by
    intro g o hgo hne hgm
    rw [put_far hgm, hg.block g (blk_lt hgo) (Ne.symm hne)]
    exact hgo
  have hblk : (putObj W2 m (.map es' ck')).heap[b]? = some (.cells (nodeC S m) 74 (0, 0)) := hkeep h.blk (fun e => (h.own_ne hside e).1 rfl) h.bm
  have hmap : (putObj W2 m (.map es' ck')).heap[m]? = some (.map es' ck') := put_same (Nat.lt_of_lt_of_le (blk_lt h.map) hg.size)
  have hm2 : ∀ g, v'.ownBlock = some g → g ≠ m := by
    intro g e
    rcases hv' with e' | ⟨g', e', hg'⟩
    · exact (h.own_ne hside (by rw [← e']; exact e)).2
    · rw [e] at e'
      cases e'
      have := blk_lt h.map
      omega
  have hnew : Own (putObj W2 m (.map es' ck')) v' (S.side y ++ [src]) (v'.ownBlock.toList ++ L) :=
    ⟨ownsRow_blk (by rw [List.length_append]; exact hown) (fun g e => put_far (hm2 g e)), fun g e => by rw [e]; simp⟩
  have hold : Own (putObj W2 m (.map es' ck')) (if y then nv else yv) (S.side !y) (v'.ownBlock.toList ++ L) := by
    refine ⟨(hothr.keep fun g e => ?_).1, fun g e => List.mem_append_right _ (hothr.2 g e)⟩
    obtain ⟨cur, hc⟩ := hothr.cells e
    rw [hc]
    refine hkeep hc (fun e2 => ?_) (h.own_ne hothr e).2
    rcases hap with h3 | h3 | h3
    · rw [h3] at e; cases e
    · rw [h3] at e2; cases e2
    · exact h3 (e.trans e2.symm)
  have hap' : Apart (if y then nv else yv) v' := hap.grown hothr.1 hv'
  have hlow : ∀ x, x ∈ v'.ownBlock.toList ++ L → x < (putObj W2 m (.map es' ck')).heap.size := by
    intro x hx
    have hs : (putObj W2 m (.map es' ck')).heap.size = W2.heap.size := by simp [putObj]
    rw [hs]
    rcases List.mem_append.1 hx with hx | hx
    · exact (hown.lt x (by simpa using hx)).2
    · exact Nat.lt_of_lt_of_le (h.low x hx) hg.size
  refine ⟨?_, k3, hL⟩
  have hvs := (h.vs.more hL).keep (k3.wider (fun x hx => List.mem_append_right _ hx))
  have hls := (h.ls.more hL).keep (k3.wider (fun x hx => List.mem_append_right _ hx))
  cases y with
  | true =>
    refine ⟨m, es', ck', v', nv, hblk, hvs, hls, h.vl, h.ll, hmap, hk, by rw [h1]; rfl, by rw [show findB es'.toList false = findB es.toList false from h2]; exact h.gn, hnew, hold, hap'.symm, List.mem_append_right _ h.inb, List.mem_append_right _ h.inm, ?_, h.nl, hlow⟩
    show (S.yes ++ [src]).length ≤ 1000
    rw [List.length_append]
    exact hl
  | false =>
    refine ⟨m, es', ck', yv, v', hblk, hvs, hls, h.vl, h.ll, hmap, hk, by rw [show findB es'.toList true = findB es.toList true from h2]; exact h.gy, by rw [h1]; rfl, hold, hnew, hap', List.mem_append_right _ h.inb, List.mem_append_right _ h.inm, h.yl, ?_, hlow⟩
    show (S.no ++ [src]).length ≤ 1000
    rw [List.length_append]
    exact hl
end Go.Proofs.Ytiamfdnllpiikaa
