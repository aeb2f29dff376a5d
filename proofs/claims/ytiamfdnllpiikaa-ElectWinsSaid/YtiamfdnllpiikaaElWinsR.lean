/- Who stands in a fresh group: from ballot to ballot. Conditions: none. -/
import Derived.Test.YtiamfdnllpiikaaElWinsQ
namespace Go.Proofs.Ytiamfdnllpiikaa
open Go.RowKit

def pot (N : Nat) (S : Nd) : Nat := if S.role = 1 then 2 * (N - 1) else 0
structure MeStep (N k : Nat) (lg : Nat → Int × Int) (S S' : Nd) (out T : List Bal) : Prop where
  id : S'.id = (k : Int) + 1
  me : S'.role ≠ 0 → Me N k (fun j => upB (lg k) (lg j)) S'
  goes : Goes N k (fun j => upB (lg k) (lg j)) S' (T ++ out)
  ask : ∀ b, b ∈ out → Ask N k lg 3 b
  size : out.length + out.countP is3 + pot N S' ≤ pot N S
section
variable {N k : Nat} {lg : Nat → Int × Int} {S S' : Nd} {b : Bal} {T : List Bal}
theorem MeStep.none (hid : S'.id = (k : Int) + 1) (hme : S'.role ≠ 0 → Me N k (fun j => upB (lg k) (lg j)) S') (hgo : Goes N k (fun j => upB (lg k) (lg j)) S' T) (hp : pot N S' ≤ pot N S) : MeStep N k lg S S' [] T :=
  ⟨hid, hme, (by rw [List.append_nil]; exact hgo), fun b hb => (by cases hb), (by simpa using hp)⟩
theorem pot_low (h : S'.role ≠ 1) : pot N S' ≤ pot N S := by
  unfold pot
  rw [if_neg h]
  omega
theorem me_two (h1 : 1 ≤ N) (h7 : N ≤ 7) (hk : k < N) (hid : S.id = (k : Int) + 1) (hme : S.role ≠ 0 → Me N k (fun j => upB (lg k) (lg j)) S) (hgo : Goes N k (fun j => upB (lg k) (lg j)) S (b :: T)) (hb : Ans N k (fun j => upB (lg k) (lg j)) 2 0 b) :
    MeStep N k lg S (S.take b (lg k).1 (lg k).2).1 (S.take b (lg k).1 (lg k).2).2 T := by
  obtain ⟨j, hj, hjk, hs, hy, ht⟩ := hb.src
  have ht01 : (b.yes = true ∧ b.term = 1) ∨ (b.yes = false ∧ b.term = 0) := by
    cases hu : upB (lg k) (lg j) with
    | true => exact .inl ⟨by rw [hy, hu], by rw [ht]; simp [hu]⟩
    | false => exact .inr ⟨by rw [hy, hu], by rw [ht]; simp [hu]⟩
  have hS01 : 0 ≤ S.term := by
    rcases hgo with ⟨_, t, _⟩ | ⟨_, t, _⟩ | ⟨_, t, _⟩ | ⟨_, t | t, _⟩ <;> omega
  rw [t2 (not_bad h7 hj hjk hid hb.dst hs (by omega) (by omega)) hb.kind, if_neg (by rintro ⟨a, c⟩; rcases ht01 with ⟨d, _⟩ | ⟨_, d⟩; rw [c] at d; cases d; omega)]
  rcases hgo with ⟨r, t, w, hk2, hp⟩ | ⟨r, t, w, hp⟩ | ⟨r, t, hv⟩ | ⟨r, t, hv⟩
  · rw [if_pos ⟨r, by rcases ht01 with ⟨_, d⟩ | ⟨d, _⟩; exact .inr (by omega); exact .inl d⟩, hs, hy]
    obtain ⟨m1, m2, m3⟩ := (hme (by rw [r]; decide)).says hj
    have hro := says_ro S ((j : Int) + 1) (upB (lg k) (lg j))
    have hte := (says_id S ((j : Int) + 1) (upB (lg k) (lg j))).2
    obtain ⟨S1, hS1⟩ : ∃ S1, S1 = S.says ((j : Int) + 1) (upB (lg k) (lg j)) := ⟨_, rfl⟩
    rw [← hS1] at hro hte ⊢
    have hm : Me N k (fun j => upB (lg k) (lg j)) S1 := by rw [hS1]; exact m1
    have hyes : upB (lg k) (lg j) = true → ((j : Int) + 1) ∈ S1.yes := by rw [hS1]; exact m2
    have hold : ∀ y, y ∈ S.yes → y ∈ S1.yes := by rw [hS1]; exact m3
    clear hS1 m1 m2 m3
    rw [r] at hro
    rw [t] at hte
    unfold Nd.counted
    by_cases hw : S1.win = true
    · rw [if_pos hw, if_pos hro]
      have hst := hm.stand hk (up_self _)
      have hst1 : S1.stand.term = 1 := by show S1.term + 1 = 1; omega
      unfold Nd.run
      rw [if_neg (by unfold maxIx; omega)]
      by_cases hsw : S1.stand.win = true
      · rw [if_pos hsw]
        exact .none hst.id (fun _ => ⟨hst.id, hst.vs, hst.ls, hst.yes, hst.no, hst.own⟩) (.inr (.inr (.inl ⟨rfl, hst1, me_win hst hsw⟩))) (pot_low (by show (3 : Int) ≠ 1; decide))
      · rw [if_neg hsw]
        have e1 : S1.term + 1 = 1 := by omega
        rw [e1]
        obtain ⟨a1, a2⟩ := all_ask (lg := lg) hst (kind := 3)
        refine ⟨hst.id, fun _ => hst, .inr (.inl ⟨rfl, hst1, by simpa using hsw, fun i hi hik _ => .inl ?_⟩), a1, ?_⟩
        · obtain ⟨x, hx, hd⟩ := a2 i hi hik
          exact ⟨x, List.mem_append_right _ hx, (a1 x hx).kind, hd⟩
        · show (S1.stand.all 3 1 (lg k).1 (lg k).2).length + (S1.stand.all 3 1 (lg k).1 (lg k).2).countP is3 + pot N S1.stand ≤ pot N S
          rw [all_cnt]
          have h2 := all_len hst hk (kind := 3) (term := 1) (l := (lg k).1) (t := (lg k).2)
          unfold pot
          rw [if_pos r, if_neg (by show ¬ ((2 : Int) = 1); decide)]
          omega
    · rw [if_neg hw]
      by_cases hl : S1.lost = true
      · rw [if_pos hl]
        exact .none hm.id (fun h => absurd rfl h) (.inr (.inr (.inr ⟨rfl, .inl hte, me_lost hm hl⟩))) (pot_low (by show (0 : Int) ≠ 1; decide))
      · rw [if_neg hl]
        refine .none hm.id (fun _ => hm) (.inl ⟨hro, hte, by simpa using hw, fun x hx => hk2 x (List.mem_cons_of_mem _ hx), fun i hi hik hu => ?_⟩) (by unfold pot; rw [if_pos r, if_pos hro]; exact Nat.le_refl _)
        rcases hp i hi hik hu with ⟨x, hx, hsx⟩ | hin
        · rcases List.mem_cons.1 hx with e | hx
          · subst e
            have e2 : i = j := by omega
            subst e2
            exact .inr (hyes hu)
          · exact .inl ⟨x, hx, hsx⟩
        · exact .inr (hold _ hin)
  · rw [if_neg (by rintro ⟨a, _⟩; omega)]
    refine .none hid hme (.inr (.inl ⟨r, t, w, fun i hi hik hu => ?_⟩)) (Nat.le_refl _)
    rcases hp i hi hik hu with ⟨x, hx, h3, hd⟩ | ⟨x, hx, h4, hd⟩ | hin
    · rcases List.mem_cons.1 hx with e | hx
      · subst e; rw [hb.kind] at h3; cases h3
      · exact .inl ⟨x, hx, h3, hd⟩
    · rcases List.mem_cons.1 hx with e | hx
      · subst e; rw [hb.kind] at h4; cases h4
      · exact .inr (.inl ⟨x, hx, h4, hd⟩)
    · exact .inr (.inr hin)
  · rw [if_neg (by rintro ⟨a, _⟩; omega)]
    exact .none hid hme (.inr (.inr (.inl ⟨r, t, hv⟩))) (Nat.le_refl _)
  · rw [if_neg (by rintro ⟨a, _⟩; omega)]
    exact .none hid hme (.inr (.inr (.inr ⟨r, t, hv⟩))) (Nat.le_refl _)
theorem me_four (h7 : N ≤ 7) (hid : S.id = (k : Int) + 1) (hme : S.role ≠ 0 → Me N k (fun j => upB (lg k) (lg j)) S) (hgo : Goes N k (fun j => upB (lg k) (lg j)) S (b :: T)) (hb : Ans N k (fun j => upB (lg k) (lg j)) 4 1 b) :
    MeStep N k lg S (S.take b (lg k).1 (lg k).2).1 (S.take b (lg k).1 (lg k).2).2 T := by
  obtain ⟨j, hj, hjk, hs, hy, ht⟩ := hb.src
  have ht1 : b.term = 1 := by rw [ht]; split <;> rfl
  rw [t4 (not_bad h7 hj hjk hid hb.dst hs (by omega) (by omega)) hb.kind, ht1]
  rcases hgo with ⟨r, t, w, hk2, hp⟩ | ⟨r, t, w, hp⟩ | ⟨r, t, hv⟩ | ⟨r, t, hv⟩
  · have := hk2 b List.mem_cons_self
    rw [hb.kind] at this
    cases this
  · rw [if_neg (by omega), if_pos ⟨r, t.symm⟩, hs, hy]
    obtain ⟨m1, m2, m3⟩ := (hme (by rw [r]; decide)).says hj
    have hro := says_ro S ((j : Int) + 1) (upB (lg k) (lg j))
    have hte := (says_id S ((j : Int) + 1) (upB (lg k) (lg j))).2
    obtain ⟨S1, hS1⟩ : ∃ S1, S1 = S.says ((j : Int) + 1) (upB (lg k) (lg j)) := ⟨_, rfl⟩
    rw [← hS1] at hro hte ⊢
    have hm : Me N k (fun j => upB (lg k) (lg j)) S1 := by rw [hS1]; exact m1
    have hyes : upB (lg k) (lg j) = true → ((j : Int) + 1) ∈ S1.yes := by rw [hS1]; exact m2
    have hold : ∀ y, y ∈ S.yes → y ∈ S1.yes := by rw [hS1]; exact m3
    clear hS1 m1 m2 m3
    rw [r] at hro
    rw [t] at hte
    unfold Nd.counted
    by_cases hw : S1.win = true
    · rw [if_pos hw, if_neg (by omega)]
      exact .none hm.id (fun _ => ⟨hm.id, hm.vs, hm.ls, hm.yes, hm.no, hm.own⟩) (.inr (.inr (.inl ⟨rfl, hte, me_win hm hw⟩))) (pot_low (by show (3 : Int) ≠ 1; decide))
    · rw [if_neg hw]
      by_cases hl : S1.lost = true
      · rw [if_pos hl]
        exact .none hm.id (fun h => absurd rfl h) (.inr (.inr (.inr ⟨rfl, .inr hte, me_lost hm hl⟩))) (pot_low (by show (0 : Int) ≠ 1; decide))
      · rw [if_neg hl]
        refine .none hm.id (fun _ => hm) (.inr (.inl ⟨hro, hte, by simpa using hw, fun i hi hik hu => ?_⟩)) (pot_low (S' := S1) (by rw [hro]; decide))
        rcases hp i hi hik hu with ⟨x, hx, h3, hd⟩ | ⟨x, hx, h4, hd⟩ | hin
        · rcases List.mem_cons.1 hx with e | hx
          · subst e; rw [hb.kind] at h3; cases h3
          · exact .inl ⟨x, hx, h3, hd⟩
        · rcases List.mem_cons.1 hx with e | hx
          · subst e
            have e2 : i = j := by omega
            subst e2
            exact .inr (.inr (hyes hu))
          · exact .inr (.inl ⟨x, hx, h4, hd⟩)
        · exact .inr (.inr (hold _ hin))
  · rw [if_neg (by omega), if_neg (by rintro ⟨a, _⟩; omega)]
    exact .none hid hme (.inr (.inr (.inl ⟨r, t, hv⟩))) (Nat.le_refl _)
  · rcases t with t | t
    · rw [if_pos (by omega)]
      exact .none hid (fun h => absurd rfl h) (.inr (.inr (.inr ⟨rfl, .inr rfl, hv⟩))) (pot_low (by show (0 : Int) ≠ 1; decide))
    · rw [if_neg (by omega), if_neg (by rintro ⟨a, _⟩; omega)]
      exact .none hid hme (.inr (.inr (.inr ⟨r, .inr t, hv⟩))) (Nat.le_refl _)
end
theorem gone_at {P : PW} {N k i : Nat} (hn : P.ns.length = N) (hk : k < N) (r : Nd × List Bal) : (P.gone k r).at i = if i = k then r.1 else P.at i := pat_set (by omega) _ _
/-- From ballot to ballot. -/
theorem Stage.next {N k : Nat} {lg : Nat → Int × Int} {P : PW} {i : Nat} (h1 : 1 ≤ N) (h7 : N ≤ 7) (hk : k < N) (h : Stage N k lg P i) (hi : i < P.sent.length) : Stage N k lg (P.come (P.sent.getD i default)) (i + 1) := by
  obtain ⟨hn, hl, D, T, hs, hD, hh⟩ := h
  cases T with
  | nil => rw [hs, List.append_nil] at hi; omega
  | cons b T =>
  have hb : P.sent.getD i default = b := by
    rw [hs, List.getD_eq_getElem?_getD, List.getElem?_append_right (by omega), hD, Nat.sub_self]
    rfl
  rw [hb]
  have come : ∀ j, j < N → b.dst = (j : Int) + 1 → P.come b = P.gone j ((P.at j).take b (lg j).1 (lg j).2) := fun j hj hd => by
    unfold PW.come PW.take
    rw [if_neg (by rw [hn]; omega), show (b.dst - 1).toNat = j by omega, hl j hj]
  have stat : ∀ j r, j < N → (P.gone j r).ns.length = N ∧ (∀ i, i < N → (P.gone j r).log i = lg i) := fun j r hj => ⟨by show (P.ns.set j r.1).length = N; rw [List.length_set]; exact hn, fun i hi => hl i hi⟩
  have sent : ∀ j r, (P.gone j r).sent = (D ++ [b]) ++ (T ++ r.2) := fun j r => by
    show P.sent ++ r.2 = _
    rw [hs]
    simp
  have hDl : (D ++ [b]).length = i + 1 := by simp [hD]
  -- two kinds of stages
  have two : P2 N k lg P D (b :: T) → Stage N k lg (P.come b) (i + 1) := by
    intro h2
    have hmsg := h2.msg b List.mem_cons_self
    have hsz := h2.size
    rw [List.length_cons, List.countP_cons] at hsz
    by_cases ha : b.dst = (k : Int) + 1
    · have hne : ¬ Ask N k lg 3 b := fun hq => by
        obtain ⟨j, _, hjk, e⟩ := hq.dst
        omega
      have hm : MeStep N k lg (P.at k) ((P.at k).take b (lg k).1 (lg k).2).1 ((P.at k).take b (lg k).1 (lg k).2).2 T := by
        rcases hmsg with hm | hm | hm
        · exact me_two h1 h7 hk h2.id h2.me h2.goes hm
        · exact absurd hm hne
        · exact me_four h7 h2.id h2.me h2.goes hm
      rw [come k hk ha]
      obtain ⟨r, hr⟩ : ∃ r, r = (P.at k).take b (lg k).1 (lg k).2 := ⟨_, rfl⟩
      rw [← hr] at hm ⊢
      have hat := fun i => gone_at (i := i) hn hk r
      refine ⟨(stat k r hk).1, (stat k r hk).2, D ++ [b], T ++ r.2, sent k r, hDl, .inr ⟨fun x hx => ?_, fun j hj hjk => ?_, ?_, ?_, ?_, ?_⟩⟩
      · rcases List.mem_append.1 hx with hx | hx
        · exact h2.msg x (List.mem_cons_of_mem _ hx)
        · exact .inr (.inl (hm.ask x hx))
      · rw [hat, if_neg hjk]; exact h2.oth j hj hjk
      · rw [hat, if_pos rfl]; exact hm.id
      · rw [hat, if_pos rfl]; exact hm.me
      · rw [hat, if_pos rfl]; exact hm.goes
      · rw [hat, if_pos rfl, List.length_append, List.length_append, List.countP_append]
        have := hm.size
        unfold pot at this
        simp only [List.length_cons, List.length_nil]
        omega
    · have hq : Ask N k lg 3 b := by
        rcases hmsg with hm | hm | hm
        · exact absurd hm.dst ha
        · exact hm
        · exact absurd hm.dst ha
      obtain ⟨j, hj, hjk, hd⟩ := hq.dst
      obtain ⟨o1, o2⟩ := oth_ask3 h1 h7 hk hj hjk (h2.oth j hj hjk) hq hd
      have hoid := (h2.oth j hj hjk).id
      rw [come j hj hd]
      obtain ⟨r, hr⟩ : ∃ r, r = (P.at j).take b (lg j).1 (lg j).2 := ⟨_, rfl⟩
      rw [← hr] at o1 o2 ⊢
      have hat := fun i => gone_at (i := i) hn hj r
      have hans : Ans N k (fun j => upB (lg k) (lg j)) 4 1 ⟨4, (P.at j).id, b.src, 1, 0, 0, upB (lg k) (lg j)⟩ := ⟨rfl, hq.src, j, hj, hjk, hoid, rfl, by simp⟩
      refine ⟨(stat j r hj).1, (stat j r hj).2, D ++ [b], T ++ r.2, sent j r, hDl, .inr ⟨fun x hx => ?_, fun i hi hik => ?_, ?_, ?_, ?_, ?_⟩⟩
      · rcases List.mem_append.1 hx with hx | hx
        · exact h2.msg x (List.mem_cons_of_mem _ hx)
        · rw [o2] at hx
          rw [List.mem_singleton.1 hx]
          exact .inr (.inr hans)
      · rw [hat]
        split
        · next e => rw [e]; exact o1
        · exact h2.oth i hi hik
      · rw [hat, if_neg (Ne.symm hjk)]; exact h2.id
      · rw [hat, if_neg (Ne.symm hjk)]; exact h2.me
      · rw [hat, if_neg (Ne.symm hjk), o2]
        rcases h2.goes with ⟨r1, t, w, hk2, hp⟩ | ⟨r1, t, w, hp⟩ | hx | hx
        · have := hk2 b List.mem_cons_self
          rw [hq.kind] at this
          cases this
        · refine .inr (.inl ⟨r1, t, w, fun i hi hik hu => ?_⟩)
          rcases hp i hi hik hu with ⟨x, hx, h3, hdx⟩ | ⟨x, hx, h4, hsx⟩ | hin
          · rcases List.mem_cons.1 hx with e | hx
            · subst e
              have e2 : i = j := by omega
              subst e2
              exact .inr (.inl ⟨_, List.mem_append_right _ (List.mem_singleton.2 rfl), rfl, hoid⟩)
            · exact .inl ⟨x, List.mem_append_left _ hx, h3, hdx⟩
          · rcases List.mem_cons.1 hx with e | hx
            · subst e; rw [hq.kind] at h4; cases h4
            · exact .inr (.inl ⟨x, List.mem_append_left _ hx, h4, hsx⟩)
          · exact .inr (.inr hin)
        · exact .inr (.inr (.inl hx))
        · exact .inr (.inr (.inr hx))
      · rw [hat, if_neg (Ne.symm hjk), o2, List.length_append, List.length_append, List.countP_append]
        have e3 : is3 b = true := by unfold is3; rw [hq.kind]; rfl
        rw [e3] at hsz
        have e4 : [(⟨4, (P.at j).id, b.src, 1, 0, 0, upB (lg k) (lg j)⟩ : Bal)].countP is3 = 0 := rfl
        rw [e4]
        simp only [if_true, List.length_cons, List.length_nil] at hsz ⊢
        omega
  rcases hh with hB | h2
  · obtain ⟨A, C, hac, hA, hC, hcov, hl1, hl2⟩ := hB.ac
    cases A with
    | nil =>
      refine two (hB.two (fun x hx => ?_))
      rw [hac, List.nil_append] at hx
      rw [(hC x hx).kind]
      decide
    | cons a A =>
      rw [List.cons_append] at hac
      injection hac with e1 e2
      subst e1 e2
      have hq := hA b List.mem_cons_self
      obtain ⟨j, hj, hjk, hd⟩ := hq.dst
      obtain ⟨ho, hot⟩ := hB.oth j hj hjk
      have o := oth_ask1 h1 h7 hk hj hjk ho hot hq hd
      rw [come j hj hd, o]
      obtain ⟨r, hr⟩ : ∃ r : Nd × List Bal, r = (P.at j, [⟨2, (P.at j).id, b.src, if upB (lg k) (lg j) then 1 else 0, 0, 0, upB (lg k) (lg j)⟩]) := ⟨_, rfl⟩
      rw [← hr]
      have hat := fun i => gone_at (i := i) hn hj r
      have hat2 : ∀ i, (P.gone j r).at i = P.at i := fun i => by
        rw [hat]
        split
        · next e => rw [e, hr]
        · rfl
      refine ⟨(stat j r hj).1, (stat j r hj).2, D ++ [b], (A ++ C) ++ r.2, sent j r, hDl, .inl ⟨⟨A, C ++ r.2, by simp, fun x hx => hA x (List.mem_cons_of_mem _ hx), fun x hx => ?_, fun i hi hik => ?_, ?_, ?_⟩, fun i hi hik => ?_, ?_, ?_, ?_, ?_⟩⟩
      · rcases List.mem_append.1 hx with hx | hx
        · exact hC x hx
        · rw [hr] at hx
          rw [List.mem_singleton.1 hx]
          exact ⟨rfl, hq.src, j, hj, hjk, ho.id, rfl, rfl⟩
      · rcases hcov i hi hik with ⟨x, hx, e⟩ | ⟨x, hx, e⟩
        · rcases List.mem_cons.1 hx with e2 | hx
          · subst e2
            have e3 : i = j := by omega
            subst e3
            exact .inr ⟨_, List.mem_append_right _ (by rw [hr]; exact List.mem_singleton.2 rfl), ho.id⟩
          · exact .inl ⟨x, hx, e⟩
        · exact .inr ⟨x, List.mem_append_left _ hx, e⟩
      · simp only [List.length_append, List.length_cons, List.length_nil] at hl1 ⊢
        omega
      · rw [hr]
        simp only [List.length_append, List.length_cons, List.length_nil]
        omega
      · rw [hat2]; exact hB.oth i hi hik
      · rw [hat2]; exact hB.me
      · rw [hat2]; exact hB.role
      · rw [hat2]; exact hB.term
      · rw [hat2]; exact hB.win
  · exact two h2
end Go.Proofs.Ytiamfdnllpiikaa
