/- What was merged is there. Conditions: none. -/
import Derived.Test.YteflgempjecnpaaLgMuch
namespace Go.Proofs.Yteflgempjecnpaa
open Go.RowKit
/-- Entries that stand in a log. -/
def InLog (L : List Ent) (i t : Int) (l : List Ent) : Prop :=
  (∀ j, j < l.length → oddE (atE l j) = false) ∧ followE l i t = true ∧
    ((i < bE L ∧ i ≤ bE L - l.length) ∨ ∃ d i2 t2, Cut L i t l d i2 t2 ∧ termE L i2 = some t2 ∧ ∀ j, d ≤ j → j < l.length → unlikeE L (atE l j) = false)
theorem Cut.eq {L : List Ent} {i t : Int} {l : List Ent} {d d' : Nat} {i2 t2 i2' t2' : Int} (h : Cut L i t l d i2 t2) (k : Cut L i t l d' i2' t2') : d = d' ∧ i2 = i2' ∧ t2 = t2' := by
  rcases h with ⟨h1, h2, h3, h4, h5, h6⟩ | ⟨h1, h2, h3, h4⟩ <;> rcases k with ⟨k1, k2, k3, k4, k5, k6⟩ | ⟨k1, k2, k3, k4⟩
  · exact ⟨by rw [h3, k3], by rw [h4, k4], by rw [h5, k5]⟩
  · omega
  · omega
  · exact ⟨by rw [h2, k2], by rw [h3, k3], by rw [h4, k4]⟩
theorem InLog.again {L : List Ent} {com i t : Int} {l : List Ent} {n e : Int} {put : Option Nat} (h : InLog L i t l) (k : MR L com i t l n e put) : n = 0 ∧ e = 0 ∧ put = none := by
  obtain ⟨ho, hf, hc⟩ := h
  rcases k with ⟨hb, _⟩ | ⟨_, _, hk⟩
  · exfalso
    rcases hb with ⟨j, hj, hjo⟩ | hb
    · rw [ho j hj] at hjo; cases hjo
    · rw [hf] at hb; cases hb
  rcases hk with ⟨k1, k2, k3, k4, k5⟩ | ⟨k1, k2, k3, _⟩ | ⟨d, i2, t2, hC, hk⟩
  · exact ⟨k3, k4, k5⟩
  · exfalso
    rcases hc with ⟨c1, c2⟩ | ⟨d, i2, t2, hC, _⟩
    · exact k2 c2
    · rcases hC with ⟨h1, h2, h3, h4, h5, h6⟩ | ⟨h1, _⟩
      · rw [← h3] at k3; omega
      · omega
  · rcases hc with ⟨c1, c2⟩ | ⟨d', i2', t2', hC', ht, hu⟩
    · exfalso
      rcases hC with ⟨h1, h2, _⟩ | ⟨h1, _⟩ <;> omega
    · obtain ⟨rfl, rfl, rfl⟩ := hC.eq hC'
      rcases hk with ⟨k1, _⟩ | ⟨_, _, k2, k3, k4⟩ | ⟨_, m, m1, m2, m3, _⟩
      · exact absurd ht k1
      · exact ⟨k2, k3, k4⟩
      · rw [hu m m1 m2] at m3; cases m3
theorem InLog.term {L : List Ent} {i t : Int} {l : List Ent} (h : InLog L i t l) {k : Nat} (hk : k < l.length) (hx : bE L + 1 ≤ (atE l k).ix) : termE L (atE l k).ix = some (atE l k).tm := by
  obtain ⟨ho, hf, hc⟩ := h
  have h1 := follow_at hf k hk
  rcases hc with ⟨c1, c2⟩ | ⟨d, i2, t2, hC, ht, hu⟩
  · omega
  · refine like_term (hu k ?_ hk)
    rcases hC with ⟨q1, q2, q3, _⟩ | ⟨q1, q2, _⟩
    · omega
    · omega
theorem MR.stays {L : List Ent} {com i t : Int} {l : List Ent} {n : Int} (k : MR L com i t l n 0 none) : InLog L i t l := by
  rcases k with ⟨_, _, he, _⟩ | ⟨ho, hf, hk⟩
  · omega
  refine ⟨ho, hf, ?_⟩
  rcases hk with ⟨k1, k2, _⟩ | ⟨_, _, _, _, he, _⟩ | ⟨d, i2, t2, hC, hk⟩
  · exact .inl ⟨k1, k2⟩
  · omega
  · rcases hk with ⟨_, _, he, _⟩ | ⟨ht, hu, _⟩ | ⟨_, m, _, _, _, _, hm⟩
    · omega
    · exact .inr ⟨d, i2, t2, hC, ht, hu⟩
    · rcases hm with ⟨_, _, he, _⟩ | ⟨_, _, _, hp⟩
      · omega
      · cases hp
theorem like_of {L : List Ent} {x : Ent} (h : termE L x.ix = some x.tm) : unlikeE L x = false := by
  unfold unlikeE
  simpa using h
theorem MR.puts {L : List Ent} {com app i t : Int} {l l' : List Ent} {n e : Int} {m : Nat} (hG : Good L com app) (k : MR L com i t l n e (some m)) (hs : Sames (l.drop m) l') (hG2 : Good (L.take ((atE l m).ix - bE L).toNat ++ l') com app) :
    e = 0 ∧ InLog (L.take ((atE l m).ix - bE L).toNat ++ l') i t l ∧ bE (L.take ((atE l m).ix - bE L).toNat ++ l') = bE L := by
  rcases k with ⟨_, _, _, hp⟩ | ⟨ho, hf, hk⟩
  · cases hp
  rcases hk with ⟨_, _, _, _, hp⟩ | ⟨_, _, _, _, _, hp⟩ | ⟨d, i2, t2, hC, hk⟩
  · cases hp
  · cases hp
  rcases hk with ⟨_, _, _, hp⟩ | ⟨_, _, _, _, hp⟩ | ⟨ht, m', hd, hm, _, hu, hk⟩
  · cases hp
  · cases hp
  rcases hk with ⟨_, _, _, hp⟩ | ⟨hcm, _, he, hp⟩
  · cases hp
  injection hp with hp
  subst hp
  have hpl := put_place hG hf hC ht hd hm hu
  have hc0 := hG.c0
  have hc1 := hG.c1
  have hb : bE L = (atE L 0).ix := rfl
  obtain ⟨q, hq⟩ : ∃ q : Nat, (atE l m).ix = bE L + q := ⟨((atE l m).ix - bE L).toNat, by omega⟩
  rw [show ((atE l m).ix - bE L).toNat = q by omega] at hG2 ⊢
  have hql : q ≤ L.length := by omega
  have hq1 : 1 ≤ q := by omega
  have hlen : (L.take q).length = q := by rw [List.length_take]; omega
  have hl' : l'.length = l.length - m := by rw [hs.1, List.length_drop]
  have h0 : atE (L.take q ++ l') 0 = atE L 0 := by rw [atE_app, if_pos (by omega), atE_take (by omega)]
  have hbE : bE (L.take q ++ l') = bE L := by show (atE (L.take q ++ l') 0).ix = _; rw [h0]
  have hLL : (L.take q ++ l').length = q + (l.length - m) := by rw [List.length_append, hlen, hl']
  have low : ∀ z : Int, ∀ s, termE L z = some s → z < bE L + q → termE (L.take q ++ l') z = some s := fun z s h hz => by
    have hin := term_in h
    rw [term_some (by rw [← hb]; omega)] at h
    rw [term_some (by rw [h0, ← hb, hLL]; omega), h0, atE_app, if_pos (by rw [hlen, ← hb]; omega), atE_take (by rw [← hb]; omega)]
    exact h
  refine ⟨he, ⟨ho, hf, .inr ⟨d, i2, t2, ?_, ?_, fun j hj hjl => like_of ?_⟩⟩, hbE⟩
  · rcases hC with ⟨c1, c2, c3, c4, c5, c6⟩ | ⟨c1, c2, c3, c4⟩
    · exact .inl ⟨by rw [hbE]; exact c1, by rw [hbE]; exact c2, by rw [hbE]; exact c3, by rw [hbE]; exact c4, by rw [h0]; exact c5, by rw [h0]; exact c6⟩
    · exact .inr ⟨by rw [hbE]; exact c1, c2, c3, c4⟩
  · refine low i2 t2 ht ?_
    have h1 := follow_at hf m hm
    rcases hC with ⟨c1, c2, c3, c4, c5, c6⟩ | ⟨c1, c2, c3, c4⟩ <;> omega
  · have h1 := follow_at hf m hm
    have h2 := follow_at hf j hjl
    by_cases hjm : j < m
    · exact low _ _ (like_term (hu j hj hjm)) (by omega)
    · rw [term_some (by rw [h0, ← hb, hLL]; omega), h0, atE_app, if_neg (by rw [hlen, ← hb]; omega), hlen]
      have h3 := (hs.2 (j - m) (by rw [List.length_drop]; omega)).tm
      rw [atE_drop, show m + (j - m) = j by omega] at h3
      rw [show ((atE l j).ix - (atE L 0).ix).toNat - q = j - m by rw [← hb]; omega, h3]
theorem MR.errs {L : List Ent} {com i t : Int} {l : List Ent} {n e : Int} {put : Option Nat} (k : MR L com i t l n e put) (h : e ≠ 0) : (e = 1 ∨ e = 7 ∨ e = 9) ∧ put = none := by
  rcases k with ⟨_, _, he, hp⟩ | ⟨_, _, hk⟩
  · exact ⟨.inl he, hp⟩
  rcases hk with ⟨_, _, _, he, _⟩ | ⟨_, _, _, _, he, hp⟩ | ⟨d, i2, t2, hC, hk⟩
  · exact absurd he h
  · exact ⟨.inr (.inl he), hp⟩
  rcases hk with ⟨_, _, he, hp⟩ | ⟨_, _, _, he, _⟩ | ⟨ht, m', hd, hm, _, hu, hk⟩
  · exact ⟨.inr (.inl he), hp⟩
  · exact absurd he h
  rcases hk with ⟨_, _, he, hp⟩ | ⟨_, _, he, _⟩
  · exact ⟨.inr (.inr he), hp⟩
  · exact absurd he h
/-- A merge that was right: behind it stands a log in which the entries are. -/
theorem merged_end {B : Nat} {w w' : World} {p : Nat} {L : List Ent} {com app : Int} {v : Value} {i t : Int} {l : List Ent} {e : Ending} (h : GX B w p L com app v) (hG : Good L com app) (hw : B ≤ w.heap.size) (k : MPost B w p L com app v i t l e w') :
    ∃ n er : Int, e = .returned (.tuple #[.int .i64 n, .int .i64 er]) ∧ Below B w w' ∧ ((er ≠ 0 ∧ (er = 1 ∨ er = 7 ∨ er = 9)) ∨ (er = 0 ∧ ∃ L' v', GX B w' p L' com app v' ∧ Good L' com app ∧ InLog L' i t l ∧ L'.length ≤ L.length + l.length)) := by
  obtain ⟨n, er, put, he, hM, hE⟩ := k
  refine ⟨n, er, he, ?_⟩
  by_cases hz : er = 0
  · subst hz
    cases put with
    | none => exact ⟨Below.mono hE hw, .inr ⟨rfl, L, v, h.below hE, hG, hM.stays, by omega⟩⟩
    | some m =>
      obtain ⟨l', v', hs, hX, hG', hC, hg⟩ := hE
      refine ⟨h.bl hC, .inr ⟨rfl, _, v', hX, hG', (hM.puts hG hs hG').2.1, ?_⟩⟩
      have := hs.1
      rw [List.length_drop] at this
      rw [List.length_append, List.length_take]
      omega
  · obtain ⟨h1, rfl⟩ := hM.errs hz
    exact ⟨Below.mono hE hw, .inl ⟨hz, h1⟩⟩
/-- Merged again. -/
theorem again_end {B : Nat} {w w' : World} {p : Nat} {L : List Ent} {com app : Int} {v : Value} {i t : Int} {l : List Ent} {e : Ending} (hI : InLog L i t l) (k : MPost B w p L com app v i t l e w') :
    e = .returned (.tuple #[.int .i64 0, .int .i64 0]) ∧ Below w.heap.size w w' := by
  obtain ⟨n, er, put, he, hM, hE⟩ := k
  obtain ⟨rfl, rfl, rfl⟩ := hI.again hM
  exact ⟨he, hE⟩
end Go.Proofs.Yteflgempjecnpaa
