/- elect: run. Conditions: none. -/
import Derived.StillTailTactics
import Derived.Test.YtiamfdnllpiikaaElAll
namespace Go.Proofs.Ytiamfdnllpiikaa
open Go.RowKit

/-- A node has moved, and these ballots came out, in a row of their own. -/
def Sends (w : World) (b : Nat) (S' : Nd) (L : List Nat) (out : List Bal) (e : Ending) (w' : World) : Prop :=
  ∃ v, e = .returned v ∧ ∃ L', NodeAt w' b S' L' ∧ Chg L w w' ∧ (∀ x, x ∈ L' → x ∈ L ∨ w.heap.size ≤ x) ∧ Bals w w' v out ∧ ∀ g, v.ownBlock = some g → ¬ g ∈ L'
theorem NodeAt.low {w : World} {b : Nat} {S : Nd} {L : List Nat} (h : NodeAt w b S L) : ∀ x, x ∈ L → x < w.heap.size := by
  obtain ⟨m, es, clock, yv, nv, hx⟩ := h
  exact hx.low
theorem NodeAt.inb {w : World} {b : Nat} {S : Nd} {L : List Nat} (h : NodeAt w b S L) : b ∈ L := by
  obtain ⟨m, es, clock, yv, nv, hx⟩ := h
  exact hx.inb
/-- Some scalars of the node have changed. -/
theorem NodeAt.scal {w w' : World} {b : Nat} {S : Nd} {L : List Nat} (h : NodeAt w b S L) {S' : Nd} (k : Chg [b] w w') (hb : ∀ m, w.heap[b]? = some (.cells (nodeC S m) 74 (0, 0)) → w'.heap[b]? = some (.cells (nodeC S' m) 74 (0, 0)))
    (h1 : S'.vs = S.vs ∧ S'.va = S.va) (h2 : S'.ls = S.ls ∧ S'.la = S.la) (h3 : S'.yes = S.yes) (h4 : S'.no = S.no) : NodeAt w' b S' L ∧ Chg L w w' := by
  obtain ⟨m, es, clock, yv, nv, hx⟩ := h
  exact ⟨⟨m, es, clock, yv, nv, hx.scal k (hb m hx.blk) h1 h2 h3 h4⟩, k.up hx.inb⟩
theorem Sends.none {w : World} {b : Nat} {S' : Nd} {L L' : List Nat} {w' : World} (h : NodeAt w' b S' L') (k : Chg L w w') (hL : ∀ x, x ∈ L' → x ∈ L ∨ w.heap.size ≤ x) : Sends w b S' L [] (.returned (.slice none 0 0)) w' :=
  ⟨_, rfl, L', h, k, hL, World.ownsRow_nil _ _ _ _, fun g hg => by cases hg⟩
/-- New ballots, once the node stands. -/
theorem Sends.some {w w1 w2 : World} {b : Nat} {S' : Nd} {L L' : List Nat} {out : List Bal} {v : Value} (h : NodeAt w1 b S' L') (k : Chg L w w1) (hL : ∀ x, x ∈ L' → x ∈ L ∨ w.heap.size ≤ x)
    (hv : Bals w1 w2 v out) (kb : Below w1.heap.size w1 w2) : Sends w b S' L out (.returned v) w2 :=
  ⟨v, rfl, L', h.below kb, k.below kb, hL, ⟨hv.1, by
    rcases hv.2 with h1 | ⟨g, cap, cur, h1, h2, h3⟩
    · exact .inl h1
    · exact .inr ⟨g, cap, cur, h1, Nat.le_trans k.size h2, h3⟩⟩, fun g hg hm => by
    have h1 := (hv.lt g hg).1
    have h2 := h.low g hm
    omega⟩
theorem Moves.trans {w w1 w2 : World} {L L1 L2 : List Nat} (k : Chg L w w1) (hL : ∀ x, x ∈ L1 → x ∈ L ∨ w.heap.size ≤ x) (k2 : Chg L1 w1 w2) (hL2 : ∀ x, x ∈ L2 → x ∈ L1 ∨ w1.heap.size ≤ x) : Chg L w w2 ∧ ∀ x, x ∈ L2 → x ∈ L ∨ w.heap.size ≤ x :=
  ⟨k.trans' k2 hL, fun x hx => by
    rcases hL2 x hx with h | h
    · exact hL x h
    · exact .inr (Nat.le_trans k.size h)⟩

theorem run_pure_no {S : Nd} (h : maxIx ≤ S.term) (last lt : Int) : S.run last lt = ({ S with role := 0 }, []) := by unfold Nd.run; rw [if_pos h]
theorem run_pure_win {S : Nd} (h : ¬ maxIx ≤ S.term) (hw : S.stand.win = true) (last lt : Int) : S.run last lt = (S.stand.lead, []) := by unfold Nd.run; rw [if_neg h, if_pos hw]
theorem run_pure_ask {S : Nd} (h : ¬ maxIx ≤ S.term) (hw : ¬ S.stand.win = true) (last lt : Int) : S.run last lt = (S.stand, S.stand.all 3 (S.term + 1) last lt) := by unfold Nd.run; rw [if_neg h, if_neg hw]

set_option maxRecDepth 100000 in
set_option maxHeartbeats 1000000 in
theorem run_at {b : Nat} {S : Nd} {L : List Nat} {w : World} (h : NodeAt w b S L) (h0 : 0 ≤ S.term) (hv : S.vs.length ≤ 1000) (last lt : Int) :
    Calls Try.prog 33 #[.pointer (some ⟨b, 0, none⟩), .int .i64 last, .int .i64 lt] w fun e w' => Sends w b (S.run last lt).1 L (S.run last lt).2 e w' := by
  have HH := Lib.hid h
  obtain ⟨m, es, clock, yv, nv, hx⟩ := h
  have c0 := hx.cell 0
  have c1 := hx.cell 1
  have c2 := hx.cell 2
  have c3 := hx.cell 3
  have c4 := hx.cell 4
  have c5 := hx.cell 5
  have c6 := hx.cell 6
  have c7 := hx.cell 7
  have c8 := hx.cell 8
  have c9 := hx.cell 9
  have c10 := hx.cell 10
  have fz := hx.frozen
  simp only [nodeC, List.getElem?_toArray, List.getElem?_cons_zero, List.getElem?_cons_succ] at c0 c1 c2 c3 c4 c5 c6 c7 c8 c9 c10
  have HX := Lib.hid hx
  by_cases hm : maxIx ≤ S.term
  · rw [run_pure_no hm]
    unfold maxIx at hm
    clear hx
    go_enter Try.func33, Try.ntmps33
    go_wp2_with fail
    go_ret
    obtain ⟨h1, h2⟩ := HH.out.scal (S' := { S with role := 0 }) ((Chg.refl _ _).set (by simp) _) (fun m h => blk_set h 6 _) ⟨rfl, rfl⟩ ⟨rfl, rfl⟩ rfl rfl
    exact Sends.none h1 h2 (fun x hx => .inl hx)
  · have hm' : ¬ (1099511627776 : Int) ≤ S.term := hm
    have hb := Below.refl w.heap.size w
    have HM := Lib.hid hm
    clear hm hx
    go_enter Try.func33, Try.ntmps33
    go_wp2_with fail
    replace hb := hb.drew
    go_still_tail 14, (by kernel_rfl)
    go_wp2_with fail
    obtain ⟨h1, k1⟩ := HH.out.scal (S' := { S with term := S.term + 1, vote := S.id }) (((Chg.refl _ w).set (p := ⟨b, 2, none⟩) (by simp) (.int .i64 (S.term + 1))).set (p := ⟨b, 3, none⟩) (by simp) (.int .i64 S.id)).drew (fun m h => blk_set (blk_set h 2 _) 3 _) ⟨rfl, rfl⟩ ⟨rfl, rfl⟩ rfl rfl
    refine (alone_at h1 2).mono ?_; rintro e w2 ⟨rfl, L2, h2, k2, hL2⟩
    obtain ⟨k2, hL2⟩ := Moves.trans k1 (fun x hx => .inl hx) k2 hL2
    replace h2 : NodeAt w2 b S.stand L2 := h2
    rw [show (({ S with term := S.term + 1, vote := S.id } : Nd).alone 2).win = S.stand.win from rfl]
    have HR := Lib.hid (fun h => run_pure_win (Int.not_le.2 HM.out) h last lt)
    have HA := Lib.hid (fun h => run_pure_ask (Int.not_le.2 HM.out) h last lt)
    have HN := Lib.hid h2
    have HK := Lib.hid k2
    have HL := Lib.hid hL2
    obtain ⟨S', hS⟩ : ∃ S', S' = S.stand := ⟨_, rfl⟩
    have HT := Lib.hid (show S'.id = S.id ∧ S'.term = S.term + 1 ∧ S'.vs = S.vs by rw [hS]; exact ⟨rfl, rfl, rfl⟩)
    rw [← hS] at HN HR HA h2 ⊢
    clear hS h1 k1 k2 hL2 c0 c1 c2 c3 c4 c5 c6 c7 c8 c9 c10 fz hb HX HH
    obtain ⟨m, es, clock, yv, nv, hx⟩ := h2
    have c0 := hx.cell 0
    have c1 := hx.cell 1
    have c2 := hx.cell 2
    have c3 := hx.cell 3
    have c4 := hx.cell 4
    have c5 := hx.cell 5
    have c6 := hx.cell 6
    have c7 := hx.cell 7
    have c8 := hx.cell 8
    have c9 := hx.cell 9
    have c10 := hx.cell 10
    have fz := hx.frozen
    simp only [nodeC, List.getElem?_toArray, List.getElem?_cons_zero, List.getElem?_cons_succ] at c0 c1 c2 c3 c4 c5 c6 c7 c8 c9 c10
    clear hx
    by_cases hw : S'.win = true
    · rw [hw]
      go_wp2_with fail
      go_ret
      rw [HR.out hw]
      obtain ⟨h1, k1⟩ := HN.out.scal (S' := S'.lead) (((Chg.refl _ w2).set (p := ⟨b, 6, none⟩) (by simp) (.int .i64 3)).set (p := ⟨b, 7, none⟩) (by simp) (.int .i64 S'.id)) (fun m h => blk_set (blk_set h 6 _) 7 _) ⟨rfl, rfl⟩ ⟨rfl, rfl⟩ rfl rfl
      obtain ⟨k3, hL3⟩ := Moves.trans HK.out HL.out k1 (fun x hx => .inl hx)
      exact Sends.none h1 k3 hL3
    · rw [eq_false_of_ne_true hw]
      go_wp2_with fail
      refine (all_at HN.out (by rw [HT.out.2.2]; exact hv) 3 S'.term last lt).mono ?_; rintro e w3 ⟨v, rfl, hbv, hb⟩
      go_wp2_with fail
      go_ret
      rw [HA.out hw, ← HT.out.2.1]
      exact Sends.some HN.out HK.out HL.out hbv hb
end Go.Proofs.Ytiamfdnllpiikaa
