/- What stays within bounds whatever a node does; its term and vote. Conditions: none. -/
import Derived.Test.YtiamfdnllpiikaaElPure
namespace Go.Proofs.Ytiamfdnllpiikaa
open Go.RowKit

structure Sane (S : Nd) (k : Int) : Prop where
  p1 : 1 ≤ S.pat
  p9 : S.pat ≤ 1000
  t0 : 0 ≤ S.term
  t9 : S.term ≤ maxIx
  vl : S.vs.length ≤ 15
  w0 : 0 ≤ S.waited
  w9 : S.waited ≤ k
  yl : (S.yes.length : Int) ≤ k + 1
  nl : (S.no.length : Int) ≤ k + 1
theorem Sane.more {S : Nd} {k k' : Int} (h : Sane S k) (hk : k ≤ k') : Sane S k' :=
  ⟨h.p1, h.p9, h.t0, h.t9, h.vl, h.w0, by have := h.w9; omega, by have := h.yl; omega, by have := h.nl; omega⟩
/-- The term never falls; a vote once given stays. -/
def Stay (S S' : Nd) : Prop := S.term ≤ S'.term ∧ (S'.term = S.term → S.vote ≠ 0 → S'.vote = S.vote)
theorem Stay.refl (S : Nd) : Stay S S := ⟨Int.le_refl _, fun _ _ => rfl⟩
theorem Stay.same {S S' : Nd} (h : S'.term = S.term) (k : S'.vote = S.vote) : Stay S S' := ⟨by omega, fun _ _ => k⟩
theorem Stay.up {S S' : Nd} (h : S.term < S'.term) : Stay S S' := ⟨by omega, fun e => by omega⟩
theorem Stay.trans {S S' S'' : Nd} (h : Stay S S') (k : Stay S' S'') : Stay S S'' := ⟨Int.le_trans h.1 k.1, fun e hv => by
  have h1 := h.1
  have h2 := k.1
  have e1 := h.2 (by omega) hv
  rw [k.2 (by omega) (by rw [e1]; exact hv), e1]⟩

/-- Both. -/
structure Fit (S S' : Nd) (k : Int) : Prop where
  sane : Sane S' (k + 1)
  stay : Stay S S'
theorem Fit.scal {S S' : Nd} {k : Int} (h : Sane S k) (h1 : S'.pat = S.pat) (h2 : S'.term = S.term) (h3 : S'.vote = S.vote) (h4 : S'.vs = S.vs) (h5 : S'.yes = S.yes) (h6 : S'.no = S.no) (h7 : 0 ≤ S'.waited) (h8 : S'.waited ≤ k + 1) : Fit S S' k :=
  ⟨⟨by rw [h1]; exact h.p1, by rw [h1]; exact h.p9, by rw [h2]; exact h.t0, by rw [h2]; exact h.t9, by rw [h4]; exact h.vl, h7, h8, by rw [h5]; have := h.yl; omega, by rw [h6]; have := h.nl; omega⟩, .same h2 h3⟩
theorem Fit.refl {S : Nd} {k : Int} (h : Sane S k) : Fit S S k := ⟨h.more (by omega), .refl S⟩
theorem down_fit {S : Nd} {k : Int} (h : Sane S k) {t : Int} (h1 : S.term < t) (h2 : t ≤ maxIx) : Fit S (S.down t) k := by
  have ht := h.t0
  have hy := h.yl
  have hw := h.w9
  have hw0 := h.w0
  exact ⟨⟨h.p1, h.p9, by show 0 ≤ t; omega, h2, h.vl, h.w0, by show S.waited ≤ k + 1; omega, by simp [Nd.down]; omega, by simp [Nd.down]; omega⟩, .up h1⟩
theorem run_fit {S : Nd} {k : Int} (h : Sane S k) (last lt : Int) : Fit S (S.run last lt).1 k := by
  have ht := h.t0
  have hw := h.w9
  have hw0 := h.w0
  unfold Nd.run
  by_cases hm : maxIx ≤ S.term
  · rw [if_pos hm]
    exact .scal h rfl rfl rfl rfl rfl rfl h.w0 (by show S.waited ≤ k + 1; omega)
  · rw [if_neg hm]
    have hs : Fit S S.stand k := ⟨⟨h.p1, h.p9, by show 0 ≤ S.term + 1; omega, by show S.term + 1 ≤ maxIx; omega, h.vl, h.w0, by show S.waited ≤ k + 1; omega, by simp [Nd.stand, Nd.alone]; omega, by simp [Nd.stand, Nd.alone]; omega⟩, .up (by show S.term < S.term + 1; omega)⟩
    by_cases hn : S.stand.win = true
    · rw [if_pos hn]
      exact ⟨⟨hs.sane.p1, hs.sane.p9, hs.sane.t0, hs.sane.t9, hs.sane.vl, hs.sane.w0, hs.sane.w9, hs.sane.yl, hs.sane.nl⟩, ⟨hs.stay.1, hs.stay.2⟩⟩
    · rw [if_neg hn]
      exact hs
theorem says_fit {S : Nd} {k : Int} (h : Sane S k) (src : Int) (y : Bool) : Sane (S.says src y) (k + 1) ∧ (S.says src y).term = S.term ∧ (S.says src y).vote = S.vote := by
  have hy := h.yl
  have hn := h.nl
  have hw := h.w9
  unfold Nd.says
  split
  · exact ⟨h.more (by omega), rfl, rfl⟩
  · split
    · exact ⟨⟨h.p1, h.p9, h.t0, h.t9, h.vl, h.w0, by show S.waited ≤ k + 1; omega, by simp; omega, by show (S.no.length : Int) ≤ _; omega⟩, rfl, rfl⟩
    · exact ⟨⟨h.p1, h.p9, h.t0, h.t9, h.vl, h.w0, by show S.waited ≤ k + 1; omega, by show (S.yes.length : Int) ≤ _; omega, by simp; omega⟩, rfl, rfl⟩
theorem run_fit0 {S : Nd} {k : Int} (h : Sane S k) (h0 : S.waited ≤ k) (last lt : Int) : Fit S (S.run last lt).1 k := run_fit h last lt
/-- Running leaves the waiting as it is, and begins the answers anew. -/
theorem run_sane {S : Nd} {k : Int} (h : Sane S (k + 1)) (hk : 0 ≤ k) (last lt : Int) : Sane (S.run last lt).1 (k + 1) := by
  have ht := h.t0
  unfold Nd.run
  by_cases hm : maxIx ≤ S.term
  · rw [if_pos hm]
    exact ⟨h.p1, h.p9, h.t0, h.t9, h.vl, h.w0, h.w9, h.yl, h.nl⟩
  · rw [if_neg hm]
    have hs : Sane S.stand (k + 1) := ⟨h.p1, h.p9, by show 0 ≤ S.term + 1; omega, by show S.term + 1 ≤ maxIx; omega, h.vl, h.w0, h.w9, by simp [Nd.stand, Nd.alone]; omega, by simp [Nd.stand, Nd.alone]; omega⟩
    by_cases hn : S.stand.win = true
    · rw [if_pos hn]
      exact ⟨hs.p1, hs.p9, hs.t0, hs.t9, hs.vl, hs.w0, hs.w9, hs.yl, hs.nl⟩
    · rw [if_neg hn]
      exact hs
theorem run_stay {S : Nd} (last lt : Int) : Stay S (S.run last lt).1 := by
  unfold Nd.run
  split
  · exact .same rfl rfl
  · split
    · exact .up (by show S.term < S.term + 1; omega)
    · exact .up (by show S.term < S.term + 1; omega)
theorem counted_fit {S : Nd} {k : Int} (h : Sane S (k + 1)) (hk : 0 ≤ k) (last lt : Int) : Sane (S.counted last lt).1 (k + 1) ∧ Stay S (S.counted last lt).1 := by
  unfold Nd.counted
  split
  · split
    · exact ⟨run_sane h hk last lt, run_stay last lt⟩
    · exact ⟨⟨h.p1, h.p9, h.t0, h.t9, h.vl, h.w0, h.w9, h.yl, h.nl⟩, .same rfl rfl⟩
  · split
    · exact ⟨⟨h.p1, h.p9, h.t0, h.t9, h.vl, h.w0, h.w9, h.yl, h.nl⟩, .same rfl rfl⟩
    · exact ⟨h, .refl S⟩
theorem tick_fit {S : Nd} {k : Int} (h : Sane S k) (draw last lt : Int) : Fit S (S.tick draw last lt).1 k := by
  have hw := h.w9
  have hw0 := h.w0
  have hn := h.nl
  unfold Nd.tick
  split
  · exact .refl h
  · split
    · exact .scal h rfl rfl rfl rfl rfl rfl (by show 0 ≤ S.waited + 1; omega) (by show S.waited + 1 ≤ k + 1; omega)
    · have hh : Sane (S.hope draw) k := ⟨h.p1, h.p9, h.t0, h.t9, h.vl, by show (0 : Int) ≤ 0; omega, by show (0 : Int) ≤ k; omega, by simp [Nd.hope, Nd.alone]; omega, by simp [Nd.hope, Nd.alone]; omega⟩
      have hst : Stay S (S.hope draw) := .same rfl rfl
      split
      · have := run_fit hh last lt
        exact ⟨this.sane, hst.trans this.stay⟩
      · exact ⟨hh.more (by omega), hst⟩
theorem heard_fit {S : Nd} {k : Int} (h : Sane S k) (src term : Int) : Fit S (S.heard src term).1 k := by
  have hw := h.w9
  have hw0 := h.w0
  unfold Nd.heard
  split
  · exact .refl h
  · next hc =>
    split
    · next hd =>
      have hf := down_fit h hd (by
        refine Int.not_lt.1 fun h9 => hc ?_
        exact .inr (.inr (.inl h9)))
      exact ⟨⟨hf.sane.p1, hf.sane.p9, hf.sane.t0, hf.sane.t9, hf.sane.vl, by show (0 : Int) ≤ 0; omega, by show (0 : Int) ≤ k + 1; omega, hf.sane.yl, hf.sane.nl⟩, ⟨hf.stay.1, hf.stay.2⟩⟩
    · exact .scal h rfl rfl rfl rfl rfl rfl (by show (0 : Int) ≤ 0; omega) (by show (0 : Int) ≤ k + 1; omega)
theorem take_fit {S : Nd} {k : Int} (h : Sane S k) (x : Bal) (last lt : Int) : Fit S (S.take x last lt).1 k := by
  have hw := h.w9
  have hw0 := h.w0
  unfold Nd.take
  split
  · exact .refl h
  · next hc =>
    have ht9 : x.term ≤ maxIx := Int.not_lt.1 fun h9 => hc (.inr (.inr (.inr h9)))
    split
    · split <;> exact .refl h
    · split
      · split
        · next hd => exact down_fit h hd.1 ht9
        · split
          · obtain ⟨h1, h2, h3⟩ := says_fit h x.src x.yes
            obtain ⟨h4, h5⟩ := counted_fit h1 (by omega) last lt
            exact ⟨h4, (Stay.same h2 h3).trans h5⟩
          · exact .refl h
      · split
        · have hT : Fit S (if S.term < x.term then S.down x.term else S) k := by
            split
            · next hd => exact down_fit h hd ht9
            · exact .refl h
          generalize (if S.term < x.term then S.down x.term else S) = T at hT
          simp only
          split
          · next hv =>
            refine ⟨⟨hT.sane.p1, hT.sane.p9, hT.sane.t0, hT.sane.t9, hT.sane.vl, by show (0 : Int) ≤ 0; omega, by show (0 : Int) ≤ k + 1; omega, hT.sane.yl, hT.sane.nl⟩, hT.stay.1, fun e hv0 => ?_⟩
            have e2 := hT.stay.2 e hv0
            show x.src = S.vote
            rcases hv.2.1 with h0 | h0
            · exact absurd (e2 ▸ h0) hv0
            · rw [← h0, e2]
          · exact hT
        · split
          · split
            · next hd => exact down_fit h hd ht9
            · split
              · obtain ⟨h1, h2, h3⟩ := says_fit h x.src x.yes
                obtain ⟨h4, h5⟩ := counted_fit h1 (by omega) last lt
                exact ⟨h4, (Stay.same h2 h3).trans h5⟩
              · exact .refl h
          · exact .refl h
theorem new_sane {id term vote pat : Int} {vs ls : List Int} {va : Option Addr} {vc : Nat} {la : Option Addr} {lc : Nat} (h1 : 1 ≤ pat) (h9 : pat ≤ 1000) (h2 : 0 ≤ term) (h3 : term ≤ maxIx) (hv : vs.length ≤ 15) :
    Sane (newNd id term vote pat vs ls va vc la lc) 0 := ⟨h1, h9, h2, h3, hv, Int.le_refl _, Int.le_refl _, by simp [newNd], by simp [newNd]⟩
end Go.Proofs.Ytiamfdnllpiikaa
