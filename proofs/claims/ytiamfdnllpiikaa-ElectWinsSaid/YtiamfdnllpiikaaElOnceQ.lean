/- One leader to a term: what stays so whatever happens. Conditions: none. -/
import Derived.Test.YtiamfdnllpiikaaElOnceP
import Derived.Test.YtiamfdnllpiikaaElWW
namespace Go.Proofs.Ytiamfdnllpiikaa
open Go.RowKit

/-- At whom a node has cast its vote in a term. -/
abbrev Cast := Nat → Int → Int → Prop
structure Loc (N : Nat) (W : Cast) (i : Nat) (S : Nd) : Prop where
  id : S.id = (i : Int) + 1
  vs : S.vs = vsL N
  ls : S.ls = []
  t : ∀ t v, W i t v → t ≤ S.term
  v1 : S.vote ≠ 0 → W i S.term S.vote
  v2 : ∀ v, W i S.term v → v = S.vote ∧ v ≠ 0
  yes : S.role = 2 ∨ S.role = 3 → ∀ j : Nat, j < N → (j : Int) + 1 ∈ S.yes → W j S.term S.id
  top : S.role = 3 → S.win = true
def Won (N : Nat) (W : Cast) (t v : Int) : Prop := ∃ ys, winsB (vsL N) [] ys = true ∧ ∀ j : Nat, j < N → (j : Int) + 1 ∈ ys → W j t v
structure Inv (N : Nat) (W : Cast) (P : PW) : Prop where
  n : P.ns.length = N
  w1 : ∀ j t v v', W j t v → W j t v' → v = v'
  loc : ∀ i, i < N → Loc N W i (P.at i)
  bal : ∀ b, b ∈ P.sent → b.kind = 4 → b.yes = true → ∀ j : Nat, j < N → b.src = (j : Int) + 1 → W j b.term b.dst
  led : ∀ p, p ∈ P.leads → Won N W p.1 p.2
theorem Won.more {N : Nat} {W W' : Cast} {t v : Int} (h : Won N W t v) (hW : ∀ j t v, W j t v → W' j t v) : Won N W' t v := by
  obtain ⟨ys, h1, h2⟩ := h
  exact ⟨ys, h1, fun j hj hy => hW _ _ _ (h2 j hj hy)⟩
theorem two_filters {p q : Int → Bool} : ∀ {l : List Int}, (∀ x, x ∈ l → p x = true → q x = true → False) → (l.filter p).length + (l.filter q).length ≤ l.length
  | [], _ => by simp
  | x :: r, h => by
    have ih := two_filters (l := r) (p := p) (q := q) (fun y hy => h y (List.mem_cons_of_mem _ hy))
    have hx := h x List.mem_cons_self
    simp only [List.filter_cons, List.length_cons]
    cases hp : p x with
    | true =>
      cases hq : q x with
      | true => exact absurd (hx hp hq) id
      | false => simp only [if_true, List.length_cons, Bool.false_eq_true, if_false]; omega
    | false =>
      cases hq : q x with
      | true => simp only [if_true, List.length_cons, Bool.false_eq_true, if_false]; omega
      | false => simp only [Bool.false_eq_true, if_false]; omega
theorem vsL_mem {N : Nat} {x : Int} (h : x ∈ vsL N) : ∃ j : Nat, j < N ∧ x = (j : Int) + 1 := by
  unfold vsL at h
  obtain ⟨j, hj, rfl⟩ := List.mem_map.1 h
  exact ⟨j, by simpa using hj, rfl⟩
theorem Won.one {N : Nat} {W : Cast} (w1 : ∀ j t v v', W j t v → W j t v' → v = v') {t v v' : Int} (h : Won N W t v) (h' : Won N W t v') : v = v' := by
  obtain ⟨ys, h1, h2⟩ := h
  obtain ⟨zs, h3, h4⟩ := h'
  unfold winsB cntV at h1 h3
  simp only [Bool.and_eq_true, decide_eq_true_eq, vsL_len] at h1 h3
  apply Decidable.byContradiction
  intro hne
  have hz := two_filters (l := vsL N) (p := fun v => decide (v ∈ ys)) (q := fun v => decide (v ∈ zs)) (fun x hx hp hq => by
    obtain ⟨j, hj, rfl⟩ := vsL_mem hx
    exact hne (w1 _ _ _ _ (h2 j hj (by simpa using hp)) (h4 j hj (by simpa using hq))))
  rw [vsL_len] at hz
  omega
/-- The votes, with the one that node k has now. -/
def Cast.with (W : Cast) (k : Nat) (S' : Nd) : Cast := fun j t v => W j t v ∨ (j = k ∧ t = S'.term ∧ v = S'.vote ∧ v ≠ 0)
theorem pat_set {P : PW} {k i : Nat} (hk : k < P.ns.length) (S' : Nd) (sent : List Bal) : (⟨P.ns.set k S', P.logs, sent, P.leads⟩ : PW).at i = if i = k then S' else P.at i := by
  unfold PW.at
  show (P.ns.set k S').getD i default = _
  rw [List.getD_eq_getElem?_getD, List.getD_eq_getElem?_getD, List.getElem?_set]
  by_cases h : k = i
  · subst h; simp [hk]
  · rw [if_neg h, if_neg (fun e => h e.symm)]
theorem Inv.step {N : Nat} {W : Cast} {P : PW} (h : Inv N W P) {k : Nat} (hk : k < N) {S' : Nd} {out : List Bal} (hi : S'.id = (P.at k).id) (hvs : S'.vs = vsL N) (hls : S'.ls = []) (st : Stay (P.at k) S')
    (hyes : S'.role = 2 ∨ S'.role = 3 → ∀ j : Nat, j < N → (j : Int) + 1 ∈ S'.yes → W.with k S' j S'.term S'.id) (htop : S'.role = 3 → S'.win = true)
    (hout : ∀ b, b ∈ out → b.kind = 4 → b.yes = true → ∀ j : Nat, j < N → b.src = (j : Int) + 1 → W.with k S' j b.term b.dst) : Inv N (W.with k S') (P.gone k (S', out)) := by
  have hl := h.loc k hk
  have hkn : k < P.ns.length := by rw [h.n]; exact hk
  have hat : ∀ i, (P.gone k (S', out)).at i = if i = k then S' else P.at i := fun i => pat_set hkn S' _
  have hmono : ∀ j t v, W j t v → W.with k S' j t v := fun j t v hw => .inl hw
  have hsame : ∀ v, W k S'.term v → v = S'.vote ∧ v ≠ 0 := fun v hw => by
    have h1 := hl.t _ _ hw
    have h2 := st.1
    have he : S'.term = (P.at k).term := by omega
    rw [he] at hw
    obtain ⟨h3, h4⟩ := hl.v2 v hw
    exact ⟨by rw [h3]; exact (st.2 he (by rw [← h3]; exact h4)).symm, h4⟩
  refine ⟨by show (P.ns.set k S').length = N; rw [List.length_set]; exact h.n, ?_, ?_, ?_, fun p hp => (h.led p hp).more hmono⟩
  · rintro j t v v' (h1 | ⟨rfl, rfl, rfl, h1⟩) (h2 | ⟨e1, e2, e3, h2⟩)
    · exact h.w1 j t v v' h1 h2
    · subst e1 e2 e3
      exact (hsame v h1).1
    · exact (hsame v' h2).1.symm
    · exact e3.symm
  · intro i hi'
    rw [hat]
    by_cases e : i = k
    · subst e
      rw [if_pos rfl]
      refine ⟨hi.trans hl.id, hvs, hls, ?_, fun hv => .inr ⟨rfl, rfl, rfl, hv⟩, ?_, hyes, htop⟩
      · rintro t v (h1 | ⟨_, rfl, _, _⟩)
        · exact Int.le_trans (hl.t t v h1) st.1
        · exact Int.le_refl _
      · rintro v (h1 | ⟨_, _, rfl, h1⟩)
        · exact hsame v h1
        · exact ⟨rfl, h1⟩
    · rw [if_neg e]
      have hl' := h.loc i hi'
      refine ⟨hl'.id, hl'.vs, hl'.ls, ?_, fun hv => .inl (hl'.v1 hv), ?_, fun hr j hj hy => .inl (hl'.yes hr j hj hy), hl'.top⟩
      · rintro t v (h1 | ⟨rfl, _⟩)
        · exact hl'.t t v h1
        · exact absurd rfl e
      · rintro v (h1 | ⟨rfl, _⟩)
        · exact hl'.v2 v h1
        · exact absurd rfl e
  · intro b hb h4 hy j hj hs
    rcases List.mem_append.1 hb with hb | hb
    · exact .inl (h.bal b hb h4 hy j hj hs)
    · exact hout b hb h4 hy j hj hs
theorem Inv.tick {N : Nat} {W : Cast} {P : PW} (h : Inv N W P) {k : Nat} (hk : k < N) (st : Stay (P.at k) ((P.at k).tick 0 0 0).1 → True) (draw last lt : Int) (hst : Stay (P.at k) ((P.at k).tick draw last lt).1) :
    Inv N (W.with k ((P.at k).tick draw last lt).1) (P.gone k ((P.at k).tick draw last lt)) := by
  have hl := h.loc k hk
  have ht := tick_ticks (P.at k) draw last lt
  refine h.step hk ht.id (ht.g.1.trans hl.vs) (ht.g.2.2.1.trans hl.ls) hst (fun hr j hj hy => ?_) (fun hr => ?_) (fun b hb h4 => absurd h4 (ht.out b hb))
  · rcases ht.up hr with ⟨k1, k2, k3⟩ | ⟨k1, k2⟩
    · rw [k3] at hy
      rw [k2, ht.id]
      exact .inl (hl.yes k1 j hj hy)
    · rw [k2] at hy
      have e := List.mem_singleton.1 hy
      have hid := hl.id
      exact .inr ⟨by omega, rfl, by rw [k1, ht.id], by rw [ht.id]; omega⟩
  · rcases ht.top hr with ⟨k1, k2⟩ | k1
    · have := hl.top k1
      unfold Nd.win at this ⊢
      rw [ht.g.1, ht.g.2.2.1, k2]
      exact this
    · exact k1
theorem Inv.take {N : Nat} {W : Cast} {P : PW} (h : Inv N W P) {k : Nat} (hk : k < N) {x : Bal} (hx : x ∈ P.sent) (last lt : Int) (hst : Stay (P.at k) ((P.at k).take x last lt).1) :
    Inv N (W.with k ((P.at k).take x last lt).1) (P.gone k ((P.at k).take x last lt)) := by
  have hl := h.loc k hk
  have ht := take_takes (P.at k) x last lt
  refine h.step hk ht.id (ht.g.1.trans hl.vs) (ht.g.2.2.1.trans hl.ls) hst (fun hr j hj hy => ?_) (fun hr => ?_) (fun b hb h4 hy j hj hs => ?_)
  · rcases ht.up hr with ⟨k1, k2, k3⟩ | ⟨k1, k2⟩
    · rw [k2, ht.id]
      rcases k3 _ hy with k4 | ⟨k4, k5, k6, k7, k8⟩
      · exact .inl (hl.yes k1 j hj k4)
      · have := h.bal x hx k5 k6 j hj k4.symm
        rw [k7, k8] at this
        exact .inl this
    · rw [k2] at hy
      have e := List.mem_singleton.1 hy
      have hid := hl.id
      exact .inr ⟨by omega, rfl, by rw [k1, ht.id], by rw [ht.id]; omega⟩
  · rcases ht.top hr with ⟨k1, k2⟩ | k1
    · have := hl.top k1
      unfold Nd.win at this ⊢
      rw [ht.g.1, ht.g.2.2.1, k2]
      exact this
    · exact k1
  · obtain ⟨e1, e2, e3, e4⟩ := ht.out b hb h4 hy
    have hid := hl.id
    exact .inr ⟨by omega, e2, e3, by rw [e3]; exact e4⟩
theorem heard_low (S : Nd) (src term : Int) : (S.heard src term).1 = S ∨ (S.heard src term).1.role = 0 := by
  unfold Nd.heard
  split
  · exact .inl rfl
  · exact .inr rfl
theorem heard_id (S : Nd) (src term : Int) : (S.heard src term).1.id = S.id := by
  unfold Nd.heard
  split
  · rfl
  · split <;> rfl
theorem Inv.heard {N : Nat} {W : Cast} {P : PW} (h : Inv N W P) {k : Nat} (hk : k < N) (src term : Int) (hst : Stay (P.at k) ((P.at k).heard src term).1) :
    Inv N (W.with k ((P.at k).heard src term).1) (P.heard k src term) := by
  have hl := h.loc k hk
  have hg := heard_g (P.at k) src term
  have := h.step hk (S' := ((P.at k).heard src term).1) (out := []) (heard_id _ _ _) (hg.1.trans hl.vs) (hg.2.2.1.trans hl.ls) hst (fun hr j hj hy => ?_) (fun hr => ?_) (fun b hb => by simp at hb)
  · unfold PW.gone at this
    rw [List.append_nil] at this
    exact this
  · rcases heard_low (P.at k) src term with e | e
    · rw [e] at hr hy ⊢
      exact .inl (hl.yes hr j hj hy)
    · rw [e] at hr
      rcases hr with hr | hr <;> cases hr
  · rcases heard_low (P.at k) src term with e | e
    · rw [e] at hr ⊢
      exact hl.top hr
    · rw [e] at hr
      cases hr
theorem Inv.renewed {N : Nat} {W : Cast} {P : PW} (h : Inv N W P) {k : Nat} (hk : k < N) (va : Option Addr) (vc : Nat) : ∃ W', Inv N W' (P.renewed k va vc) := by
  have hl := h.loc k hk
  have := h.step hk (S' := newNd ((k : Int) + 1) (P.at k).term (P.at k).vote 3 (vsL P.ns.length) [] va vc none 0) (out := []) hl.id.symm (by rw [h.n]; rfl) rfl (Stay.same rfl rfl) (fun hr => by rcases hr with hr | hr <;> cases hr) (fun hr => by cases hr) (fun b hb => by simp at hb)
  unfold PW.gone at this
  rw [List.append_nil] at this
  exact ⟨_, this⟩
theorem sane_set {P : PW} {k : Nat} {N c : Nat} (hn : P.ns.length = N) (hk : k < N) (hs : ∀ i, i < N → Sane (P.at i) c) {S' : Nd} (h' : Sane S' ((c : Int) + 1)) {sent : List Bal} : ∀ i, i < N → Sane ((⟨P.ns.set k S', P.logs, sent, P.leads⟩ : PW).at i) ((c : Int) + 1) := by
  intro i hi
  rw [pat_set (by omega)]
  split
  · exact h'
  · exact (hs i hi).more (by omega)
theorem bal_mem {l : List Bal} {i : Nat} (h : i < l.length) : l.getD i default ∈ l := by
  rw [List.getD_eq_getElem?_getD, List.getElem?_eq_getElem h]
  exact List.getElem_mem h
/-- WHATEVER HAPPENS, IT STAYS SO. -/
theorem Inv.played {N : Nat} {W : Cast} {P P' : PW} (h : Inv N W P) (h1 : 1 ≤ N) (h7 : N ≤ 7) {c : Nat} (hs : ∀ i, i < N → Sane (P.at i) c) {x : EvV} (hp : Played P x P') :
    (∃ W', Inv N W' P') ∧ (∀ i, i < N → Sane (P'.at i) ((c : Int) + 1)) ∧ P'.leads = P.leads ∧ P'.ns.length = N := by
  have htn : x.turn P.ns.length < N := by rw [h.n]; exact (turn_eq x (by omega)).1
  rcases hp with ⟨_, rfl⟩ | ⟨_, h2, h3, rfl⟩ | ⟨_, va, vc, rfl⟩ | ⟨_, h2, h3, rfl⟩ | ⟨_, rfl⟩
  · have hf := tick_fit (hs _ htn) x.draw (P.log (x.turn P.ns.length)).1 (P.log (x.turn P.ns.length)).2
    have hi := h.tick htn (fun _ => trivial) x.draw (P.log (x.turn P.ns.length)).1 (P.log (x.turn P.ns.length)).2 hf.stay
    exact ⟨⟨_, hi⟩, sane_set h.n htn hs hf.sane, rfl, hi.n⟩
  · unfold PW.come
    split
    · exact ⟨⟨_, h⟩, fun i hi => (hs i hi).more (by omega), rfl, h.n⟩
    · next hno =>
      have hb : P.sent.getD x.n.toNat default ∈ P.sent := bal_mem (by omega)
      obtain ⟨b, hbe⟩ : ∃ b, b = P.sent.getD x.n.toNat default := ⟨_, rfl⟩
      rw [← hbe] at hno hb ⊢
      have hk : (b.dst - 1).toNat < N := by
        have hn := h.n
        rw [hn] at hno
        omega
      have hf := take_fit (hs _ hk) b (P.log (b.dst - 1).toNat).1 (P.log (b.dst - 1).toNat).2
      have hi := h.take hk hb (P.log (b.dst - 1).toNat).1 (P.log (b.dst - 1).toNat).2 hf.stay
      exact ⟨⟨_, hi⟩, sane_set h.n hk hs hf.sane, rfl, hi.n⟩
  · obtain ⟨W', hi⟩ := h.renewed htn va vc
    refine ⟨⟨W', hi⟩, sane_set h.n htn hs ?_, rfl, hi.n⟩
    have hs0 := hs _ htn
    exact (new_sane (by omega) (by omega) hs0.t0 hs0.t9 (by rw [vsL_len, h.n]; omega)).more (by omega)
  · have hf := heard_fit (hs _ htn) (P.leads.getD x.n.toNat (0, 0)).2 (P.leads.getD x.n.toNat (0, 0)).1
    have hi := h.heard htn (P.leads.getD x.n.toNat (0, 0)).2 (P.leads.getD x.n.toNat (0, 0)).1 hf.stay
    exact ⟨⟨_, hi⟩, sane_set h.n htn hs hf.sane, rfl, hi.n⟩
  · exact ⟨⟨_, h⟩, fun i hi => (hs i hi).more (by omega), rfl, h.n⟩
theorem begun_at {N : Nat} (l : List (Int × Int)) (va : Option Addr) (vc : Nat) {i : Nat} (hi : i < N) : (begun N l va vc).at i = newNd ((i : Int) + 1) 0 0 3 (vsL N) [] va vc none 0 := by
  unfold begun begunNs PW.at
  rw [List.getD_eq_getElem?_getD, List.getElem?_map, List.getElem?_range hi]
  rfl
theorem Inv.begun (N : Nat) (l : List (Int × Int)) (va : Option Addr) (vc : Nat) : Inv N (fun _ _ _ => False) (begun N l va vc) := by
  refine ⟨by simp [Proofs.Ytiamfdnllpiikaa.begun, begunNs], fun _ _ _ _ h => h.elim, fun i hi => ?_, fun b hb => (by cases hb), fun p hp => (by cases hp)⟩
  rw [begun_at l va vc hi]
  exact ⟨rfl, rfl, rfl, fun _ _ h => h.elim, fun h => absurd rfl h, fun _ h => h.elim, fun hr => (by rcases hr with hr | hr <;> cases hr), fun hr => (by cases hr)⟩
/-- Who leads has won. -/
theorem Inv.lead {N : Nat} {W : Cast} {P : PW} (h : Inv N W P) {i : Nat} (hi : i < N) (hr : (P.at i).role = 3) : Won N W (P.at i).term ((i : Int) + 1) := by
  have hl := h.loc i hi
  have hw := hl.top hr
  unfold Nd.win at hw
  rw [hl.vs, hl.ls] at hw
  refine ⟨_, hw, fun j hj hy => ?_⟩
  have := hl.yes (.inr hr) j hj hy
  rw [hl.id] at this
  exact this
end Go.Proofs.Ytiamfdnllpiikaa
