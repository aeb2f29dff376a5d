/- A region that draws its order, walked once in the order of the text: operations that yield one value in every world of a class, and between them some that write, each of which waits for the one ahead. Conditions: none. -/
import Derived.Test.YtmnoacjmdnmddaaDoorAid
namespace Go.Proofs.YtmnoacjmdnmddaaDoor
open Go.RowKit

section staged
variable {P : Program} {ops : Array Oper} {md : Region.Mode} {C : World → Prop} {L : Nat → Bool}

/-- Whether an operation may enter a function. -/
def mayEnter (o : Oper) : Bool :=
  match o.op with
  | .call { callee := .builtin .append, .. } | .call { callee := .builtin .cap, .. } | .call { callee := .builtin .len, .. } | .call { callee := .builtin .max, .. } | .call { callee := .builtin .min, .. } => false
  | .call _ | .go _ | .defer _ | .send .. | .recv .. | .select .. => true
  | _ => false

def Result.noEnter (r : Result Next) : Prop := ∀ f args w', r ≠ .ok (.enter f args) w'
theorem run_value_not {s : Sem Value} {w : World} : Result.noEnter ((do pure (Next.value (← s)) : Sem Next).run P w) := by
  intro f args w' h
  rw [Sem.run_bind] at h
  cases hs : s.run P w with
  | ok v w1 => rw [hs] at h; simp [Sem.run_pure] at h
  | halt x w1 => rw [hs] at h; simp at h
theorem run_skip_not {s : Sem Unit} {w : World} : Result.noEnter ((do s; pure Next.skip : Sem Next).run P w) := by
  intro f args w' h
  rw [Sem.run_bind] at h
  cases hs : s.run P w with
  | ok v w1 => rw [hs] at h; simp [Sem.run_pure] at h
  | halt x w1 => rw [hs] at h; simp at h

theorem bind_not {α : Type} {s : Sem α} {k : α → Sem Next} {w : World} (h : ∀ x w, Result.noEnter ((k x).run P w)) : Result.noEnter ((s >>= k).run P w) := by
  intro f args w' hr
  rw [Sem.run_bind] at hr
  cases hs : s.run P w with
  | ok v w1 => rw [hs] at hr; exact h v w1 f args w' hr
  | halt x w1 => rw [hs] at hr; simp at hr
theorem pure_value_not {v : Value} {w : World} : Result.noEnter ((pure (Next.value v) : Sem Next).run P w) := by
  intro f args w' h
  simp [Sem.run_pure] at h

theorem no_enter {o : Oper} (h : mayEnter o = false) (ρ : Operand → Value) (w : World) : Result.noEnter ((execOp ρ o).run P w) := by
  obtain ⟨dst, op, type, pos, after, guard⟩ := o
  cases op <;> simp only [execOp] <;> try first | exact run_value_not | exact run_skip_not
  case move => intro f args w' h; simp [Sem.run_pure] at h
  case assign => intro f args w' h; simp [Sem.run_pure] at h
  case pick c x y =>
    intro f args w' h
    rw [Sem.run_bind] at h
    cases hs : (asBool (ρ c)).run P w with
    | ok v w1 => rw [hs] at h; simp [Sem.run_pure] at h
    | halt x w1 => rw [hs] at h; simp at h
  case nilCheck x =>
    split
    · intro f args w' h; simp [runtimePanic, Sem.run] at h
    · intro f args w' h; simp [runtimePanic, Sem.run] at h
    · intro f args w' h; simp [runtimePanic, Sem.run] at h
    · split
      · intro f args w' h; simp [runtimePanic, Sem.run] at h
      · refine bind_not fun p w1 => bind_not fun x w2 => ?_
        split
        · refine bind_not fun _ w3 => pure_value_not
        · exact pure_value_not
      · exact pure_value_not
    · exact pure_value_not
  case call c =>
    obtain ⟨callee, args, ats⟩ := c
    cases callee <;> simp [mayEnter] at h
    case builtin b =>
      cases b <;> simp [mayEnter] at h
      case append => exact run_value_not (s := Builtin.append_ ats type (args.map ρ))
      case cap => exact run_value_not (s := Builtin.cap_ ats type (args.map ρ))
      case len => exact run_value_not (s := Builtin.len_ ats type (args.map ρ))
      case max => exact run_value_not (s := Builtin.max_ ats type (args.map ρ))
      case min => exact run_value_not (s := Builtin.min_ ats type (args.map ρ))
  all_goals simp [mayEnter] at h


/-- Operation o leaves v in its slot and the world as it is, in every world of C; or it is passed over. -/
def Yld (P : Program) (ops : Array Oper) (C : World → Prop) (q : Bool) (o : Oper) (v : Value) (a : Act) : Prop :=
  (Region.wanted o (yielded ops a.tmps) = true ∧ q = true ∧ mayEnter o = false ∧ ∀ w, C w → o.quietAt P a C w v) ∨ (Region.wanted o (yielded ops a.tmps) = false ∧ v = undef)

theorem Yld.of_same {q : Bool} {o : Oper} {v : Value} {a a' : Act} (hy : Yld P ops C q o v a) (he : execOp a'.eval o = execOp a.eval o)
    (hw : Region.wanted o (yielded ops a'.tmps) = Region.wanted o (yielded ops a.tmps)) : Yld P ops C q o v a' := by
  unfold Yld Oper.quietAt at *
  rw [he, hw]
  exact hy

theorem quiet_eq {o : Oper} {a : Act} {w : World} {u v : Value} (hn : mayEnter o = false) (h : o.quietAt P a C w u) (k : o.quietAt P a C w v) : u = v := by
  unfold Oper.quietAt at *
  have hne := no_enter (P := P) hn a.eval w
  generalize (execOp a.eval o).run P w = r at *
  cases r with
  | ok n w' =>
    cases n <;> simp only [Oper.quietUpon] at h k
    case value x => rw [← h.2, k.2]
    case skip => rw [h.2, k.2]
    case enter f args => exact absurd rfl (hne f args w')
  | halt x w' => simp only [Oper.quietUpon] at h

theorem Yld.uniq {q : Bool} {o : Oper} {u v : Value} {a : Act} {w : World} (hw : C w) (h : Yld P ops C q o u a) (k : Yld P ops C q o v a) : u = v := by
  rcases h with ⟨h1, _, hn, h2⟩ | ⟨h1, h2⟩ <;> rcases k with ⟨k1, _, _, k2⟩ | ⟨k1, k2⟩
  · exact quiet_eq hn (h2 w hw) (k2 w hw)
  · rw [h1] at k1; cases k1
  · rw [h1] at k1; cases k1
  · rw [h2, k2]

/-- Operation number i comes up. -/
def sOp (P : Program) (ops : Array Oper) (C : World → Prop) (L : Nat → Bool) (i : Nat) (K : Act → World → Prop) (a : Act) (w : World) : Prop :=
  match ops[i]? with
  | none => K a w
  | some o => if L i = true ∧ Region.wanted o (yielded ops a.tmps) = true then o.wp P a w (fun a' w' => (∃ v, a' = a.put o.dst v) ∧ C w' ∧ K a' w') (fun _ _ _ => False) else ∃ v, Yld P ops C (!L i) o v a ∧ K (a.put o.dst v) w

theorem Oper.wp_mono2 {o : Oper} {a : Act} {w : World} {K K' : Act → World → Prop} {Q' : Exit → Act → World → Prop} (h : ∀ a w, K a w → K' a w) (hh : o.wp P a w K (fun _ _ _ => False)) : o.wp P a w K' Q' := by
  unfold Oper.wp at *
  generalize (execOp a.eval o).run P w = r at *
  cases r with
  | ok n w' =>
    cases n <;> simp only [Oper.upon] at hh ⊢
    case enter f args =>
      refine hh.mono fun e w'' he => ?_
      cases e with
      | returned v => exact h _ _ he
      | panicked c => exact he.elim
      | outgrown => obtain ⟨_, _, h0⟩ := he; exact h0.elim
    case row row args => exact Rows.mono hh fun _ _ he => h _ _ he
    all_goals exact h _ _ hh
  | halt x w' => cases x <;> simp only [Oper.upon] at hh

theorem Oper.wp_mono2' {o : Oper} {a : Act} {w : World} {K K' : Act → World → Prop} (hh : o.wp P a w (fun a' w' => (∃ v, a' = a.put o.dst v) ∧ C w' ∧ K a' w') (fun _ _ _ => False)) (h : ∀ a w, C w → K a w → K' a w) :
    o.wp P a w (fun a' w' => (∃ v, a' = a.put o.dst v) ∧ C w' ∧ K' a' w') (fun _ _ _ => False) := Oper.wp_mono2 (fun a' w' ⟨h1, h2, h3⟩ => ⟨h1, h2, h _ _ h2 h3⟩) hh

theorem Oper.wp_out {o : Oper} {a : Act} {w : World} {K : Act → World → Prop} (hh : o.wp P a w K (fun _ _ _ => False)) : ∃ a' w', K a' w' := by
  unfold Oper.wp at *
  generalize (execOp a.eval o).run P w = r at *
  cases r with
  | ok n w' =>
    cases n <;> simp only [Oper.upon] at hh
    case enter f args =>
      obtain ⟨e, w'', fr, he, _⟩ := hh []
      cases e with
      | returned v => exact ⟨_, _, he⟩
      | panicked c => exact he.elim
      | outgrown => obtain ⟨_, _, h0⟩ := he; exact h0.elim
    case row row args =>
      obtain ⟨v, w'', he, _⟩ := hh default []
      exact ⟨_, _, he⟩
    all_goals exact ⟨_, _, hh⟩
  | halt x w' => cases x <;> simp only [Oper.upon] at hh

theorem sOp_mono {i : Nat} {a : Act} {w : World} {K K' : Act → World → Prop} (hw : C w) (h : ∀ a w, C w → K a w → K' a w) (hh : sOp P ops C L i K a w) : sOp P ops C L i K' a w := by
  unfold sOp at *
  split
  · rename_i ho; simp only [ho] at hh; exact h _ _ hw hh
  · rename_i o ho
    simp only [ho] at hh
    split
    · rename_i hc; rw [if_pos hc] at hh; exact Oper.wp_mono2 (fun a' w' ⟨h1, h2, h3⟩ => ⟨h1, h2, h _ _ h2 h3⟩) hh
    · rename_i hc
      rw [if_neg hc] at hh
      obtain ⟨v, h1, h2⟩ := hh
      exact ⟨v, h1, h _ _ hw h2⟩

/-- Whatever order is picked from here on. -/
def wpAnyS (P : Program) (md : Region.Mode) (ops : Array Oper) (C : World → Prop) (L : Nat → Bool) (Q : Act → World → Prop) : Nat → Array Bool → Act → World → Prop
  | 0, listed, a, w => Region.ready md ops listed = [] ∧ Q a w
  | fuel + 1, listed, a, w => (Region.ready md ops listed = [] → Q a w) ∧ ∀ i ∈ Region.ready md ops listed, sOp P ops C L i (wpAnyS P md ops C L Q fuel (listed.setIfInBounds i true)) a w

theorem wpOp_of_sOp {i : Nat} {a : Act} {w : World} {K K' : Act → World → Prop} {Q' : Exit → Act → World → Prop} (hw : C w) (h : ∀ a w, C w → K a w → K' a w) (hh : sOp P ops C L i K a w) : wpOp P ops Q' i K' a w := by
  unfold sOp at hh
  unfold wpOp
  split
  · rename_i ho; simp only [ho] at hh; exact h _ _ hw hh
  · rename_i o ho
    simp only [ho] at hh
    by_cases hc : L i = true ∧ Region.wanted o (yielded ops a.tmps) = true
    · rw [if_pos hc] at hh
      rw [if_pos hc.2]
      exact .inl (Oper.wp_mono2 (fun a' w' ⟨_, h2, h3⟩ => h _ _ h2 h3) hh)
    · rw [if_neg hc] at hh
      obtain ⟨v, hy, hK⟩ := hh
      rcases hy with ⟨h1, _, hn, h2⟩ | ⟨h1, h2⟩
      · rw [if_pos h1]
        refine .inl ?_
        have h3 := h2 w hw
        have hne := no_enter (P := P) hn a.eval w
        unfold Oper.quietAt at h3
        unfold Oper.wp
        generalize (execOp a.eval o).run P w = r at *
        cases r with
        | ok n w' =>
          cases n <;> simp only [Oper.quietUpon] at h3 <;> simp only [Oper.upon]
          case value u => obtain ⟨e1, e2⟩ := h3; rw [e1, e2]; exact h _ _ hw hK
          case skip => obtain ⟨e1, e2⟩ := h3; rw [e1, ← e2]; exact h _ _ hw hK
          case enter f args => exact absurd rfl (hne f args w')
        | halt x w' => simp only [Oper.quietUpon] at h3
      · rw [if_neg (by rw [h1]; simp)]
        subst h2
        exact h _ _ hw hK

theorem wpAny_of_S {Q : Act → World → Prop} {Q' : Exit → Act → World → Prop} (hQ : ∀ a w, C w → Q a w → Q' .normal a w) : ∀ (fuel : Nat) (listed : Array Bool) (a : Act) (w : World), C w →
    wpAnyS P md ops C L Q fuel listed a w → wpAny P md ops Q' fuel listed a w
  | 0, _, _, _, hw, h => ⟨h.1, hQ _ _ hw h.2⟩
  | fuel + 1, _, _, _, hw, h => ⟨fun h0 => hQ _ _ hw (h.1 h0), fun i hi => wpOp_of_sOp hw (fun a' w' hw' => wpAny_of_S hQ fuel _ a' w' hw') (h.2 i hi)⟩

theorem Yld.sOp {i : Nat} {o : Oper} {v : Value} {a : Act} {w : World} (hi : ops[i]? = some o) (hy : Yld P ops C (!L i) o v a) {K : Act → World → Prop} (h : K (a.put o.dst v) w) : sOp P ops C L i K a w := by
  unfold Go.Proofs.YtmnoacjmdnmddaaDoor.sOp
  simp only [hi]
  rw [if_neg]
  · exact ⟨v, hy, h⟩
  · rintro ⟨h1, h2⟩
    rcases hy with ⟨_, h3, _⟩ | ⟨h3, _⟩
    · rw [h1] at h3; cases h3
    · rw [h2] at h3; cases h3

/-- One operation oj, apart from oi, whose value is fixed: it makes no difference which comes first. -/
theorem sOp_put {j : Nat} {q : Bool} {oi oj : Oper} {v : Value} (hj : ops[j]? = some oj) (hap : oi.apart ops oj = true) (hsi : ∀ cs b, oi.op ≠ .select cs b) (hsj : ∀ cs b, oj.op ≠ .select cs b)
    {K : Act → World → Prop} {a : Act} {w : World} (hy : Yld P ops C q oi v a) (h : sOp P ops C L j K (a.put oi.dst v) w) :
    sOp P ops C L j (fun a' w' => Yld P ops C q oi v a' ∧ K (a'.put oi.dst v) w') a w := by
  obtain ⟨h1, h2, h3⟩ := Oper.apart_spec hap
  have keep : ∀ (a : Act), Yld P ops C q oi v a → ∀ u, Yld P ops C q oi v (a.put oj.dst u) := fun a hy u =>
    hy.of_same (execOp_put oi hsi a oj.dst u h3) (wanted_put oi a oj.dst u h3)
  unfold sOp at *
  simp only [hj] at *
  rw [wanted_put oj a oi.dst v h1] at h
  split
  · rename_i hc
    rw [if_pos hc] at h
    unfold Oper.wp at *
    rw [execOp_put oj hsj a oi.dst v h1] at h
    generalize (execOp a.eval oj).run P w = r at *
    have put (u : Value) {w' : World} (hh : (∃ x, (a.put oi.dst v).put oj.dst u = (a.put oi.dst v).put oj.dst x) ∧ C w' ∧ K ((a.put oi.dst v).put oj.dst u) w') :
        (∃ x, a.put oj.dst u = a.put oj.dst x) ∧ C w' ∧ Yld P ops C q oi v (a.put oj.dst u) ∧ K ((a.put oj.dst u).put oi.dst v) w' :=
      ⟨⟨u, rfl⟩, hh.2.1, keep a hy u, by rw [← Act.put_comm a v u h2]; exact hh.2.2⟩
    cases r with
    | ok n w' =>
      cases n <;> simp only [Oper.upon] at h ⊢
      case value u => exact put u h
      case skip => exact put undef h
      case defer d =>
        obtain ⟨⟨x, hx⟩, _⟩ := h
        have hd : ∀ (b : Act) (t : Option Tmp) (y : Value), (b.put t y).defers = b.defers := fun b t y => by cases t <;> rfl
        have := congrArg Act.defers hx
        simp only [hd] at this
        exact absurd this (List.cons_ne_self _ _)
      case enter f args =>
        refine h.mono fun e w'' he => ?_
        cases e with
        | returned u => exact put u he
        | panicked c => exact he
        | outgrown => exact he
      case row row args => exact Rows.mono h fun u w'' he => put u he
    | halt x w' => cases x <;> simp only [Oper.upon] at h
  · rename_i hc
    rw [if_neg hc] at h
    obtain ⟨u, hu, hK⟩ := h
    refine ⟨u, ?_, keep a hy u, by rw [← Act.put_comm a v u h2]; exact hK⟩
    exact hu.of_same (execOp_put oj hsj a oi.dst v h1).symm (wanted_put oj a oi.dst v h1).symm

/-- An operation that yields one value may be taken first. -/
theorem wpAnyS_first {Q : Act → World → Prop} {i : Nat} {oi : Oper} {v : Value} (hi : ops[i]? = some oi) (hsel : ∀ (j : Nat) (o : Oper) cs b, ops[j]? = some o → o.op ≠ .select cs b) :
    ∀ (fuel : Nat) (listed : Array Bool) (a : Act) (w : World), C w →
      (∀ j oj, ops[j]? = some oj → j ≠ i → listed.getD j true = false → (∀ e ∈ oj.after, Region.binds md e = true → e.on ≠ i) → oi.apart ops oj = true) →
      i ∈ Region.ready md ops listed → Yld P ops C (!L i) oi v a →
      wpAnyS P md ops C L Q fuel (listed.setIfInBounds i true) (a.put oi.dst v) w → wpAnyS P md ops C L Q (fuel + 1) listed a w := by
  intro fuel
  induction fuel with
  | zero =>
    intro listed a w hw _ hr hy H
    refine ⟨fun h => (by rw [h] at hr; cases hr), fun j hj => ?_⟩
    by_cases hji : j = i
    · subst hji; exact hy.sOp hi H
    · have := ready_mono hj hji
      rw [H.1] at this
      cases this
  | succ fuel ih =>
    intro listed a w hw hfree hr hy H
    refine ⟨fun h => (by rw [h] at hr; cases hr), fun j hj => ?_⟩
    by_cases hji : j = i
    · subst hji; exact hy.sOp hi H
    · have h1 := H.2 j (ready_mono hj hji)
      obtain ⟨hjun, oj, hoj, hall⟩ := mem_ready.1 hj
      have hnot : ∀ e ∈ oj.after, Region.binds md e = true → e.on ≠ i := fun e he hb heq => by
        have h1 := hall e he hb
        have h0 := (mem_ready.1 hr).1
        rw [heq] at h1
        rcases Nat.lt_or_ge i listed.size with h' | h'
        · simp [h'] at h0 h1; rw [h0] at h1; cases h1
        · simp [Array.getElem?_eq_none h'] at h1
      have h2 := sOp_put hoj (hfree j oj hoj hji hjun hnot) (fun cs b => hsel i oi cs b hi) (fun cs b => hsel j oj cs b hoj) hy h1
      have hfree' : ∀ k ok, ops[k]? = some ok → k ≠ i → (listed.setIfInBounds j true).getD k true = false →
          (∀ e ∈ ok.after, Region.binds md e = true → e.on ≠ i) → oi.apart ops ok = true := fun k ok hk hki hun hno => by
        refine hfree k ok hk hki ?_ hno
        by_cases hjk : j = k
        · subst hjk; exact hjun
        · rw [getD_set_ne true hjk] at hun; exact hun
      refine sOp_mono hw (fun a' w' hw' h3 => ih (listed.setIfInBounds j true) a' w' hw' hfree' (ready_mono hr (Ne.symm hji)) h3.1 ?_) h2
      rw [Array.setIfInBounds_comm _ _ hji]
      exact h3.2

/-! Who waits for whom. -/
def maskOf (md : Region.Mode) (acc : Array Nat) : List Edge → Nat
  | [] => 0
  | e :: r => (if Region.binds md e then 2 ^ e.on ||| acc.getD e.on 0 else 0) ||| maskOf md acc r
def ancGo (md : Region.Mode) : List Oper → Array Nat → Array Nat
  | [], acc => acc
  | o :: l, acc => ancGo md l (acc.push (maskOf md acc o.after.toList))
/-- Whoever came up, all ahead of it came up. -/
def Heads (md : Region.Mode) (ops : Array Oper) (listed : Array Bool) : Prop := ∀ j oj, ops[j]? = some oj → listed.getD j false = true → ∀ e ∈ oj.after, Region.binds md e = true → listed.getD e.on false = true

theorem maskOf_bit {acc : Array Nat} {i : Nat} : ∀ {l : List Edge}, (maskOf md acc l).testBit i = true → ∃ e ∈ l, Region.binds md e = true ∧ (e.on = i ∨ (acc.getD e.on 0).testBit i = true)
  | [], h => by simp [maskOf] at h
  | e :: r, h => by
    unfold maskOf at h
    rw [Nat.testBit_or, Bool.or_eq_true] at h
    rcases h with h | h
    · split at h
      · rename_i hb
        rw [Nat.testBit_or, Bool.or_eq_true, Nat.testBit_two_pow] at h
        exact ⟨e, List.mem_cons_self .., hb, h.imp (by simp) id⟩
      · simp at h
    · obtain ⟨e', h1, h2⟩ := maskOf_bit h
      exact ⟨e', List.mem_cons_of_mem _ h1, h2⟩

theorem anc_spec (listed : Array Bool) (hin : Heads md ops listed) : ∀ (l : List Oper) (acc : Array Nat), (∀ j, l[j]? = ops[acc.size + j]?) →
    (∀ j oj, ops[j]? = some oj → j < acc.size → ∀ i, (acc.getD j 0).testBit i = true → (∀ e ∈ oj.after, Region.binds md e = true → listed.getD e.on false = true) → listed.getD i false = true) →
    ∀ j oj, ops[j]? = some oj → ∀ i, ((ancGo md l acc).getD j 0).testBit i = true → (∀ e ∈ oj.after, Region.binds md e = true → listed.getD e.on false = true) → listed.getD i false = true
  | [], acc, hl, hacc, j, oj, hj, i, hb, hd => by
    rcases Nat.lt_or_ge j acc.size with h | h
    · exact hacc j oj hj h i hb hd
    · have := hl (j - acc.size)
      rw [show acc.size + (j - acc.size) = j by omega, hj] at this
      simp at this
  | o :: l, acc, hl, hacc, j, oj, hj, i, hb, hd => by
    refine anc_spec listed hin l (acc.push (maskOf md acc o.after.toList)) (fun j => ?_) ?_ j oj hj i hb hd
    · have := hl (j + 1)
      simpa [Nat.add_assoc, Nat.add_comm 1 j] using this
    · intro j oj hj hlt i hb hd
      rcases Nat.lt_or_ge j acc.size with h | h
      · refine hacc j oj hj h i ?_ hd
        rw [Array.getD_eq_getD_getElem?, Array.getElem?_push_lt h] at hb
        rw [Array.getD_eq_getD_getElem?, Array.getElem?_eq_getElem h]
        exact hb
      · have hje : j = acc.size := by simp at hlt; omega
        subst hje
        have ho : ops[acc.size]? = some o := by simpa using (hl 0).symm
        rw [ho] at hj
        cases hj
        rw [Array.getD_eq_getD_getElem?, Array.getElem?_push_size] at hb
        obtain ⟨e, he, hbi, hor⟩ := maskOf_bit hb
        have hel := hd e (by simpa using he) hbi
        rcases hor with rfl | hbit
        · exact hel
        · rcases Nat.lt_or_ge e.on acc.size with h2 | h2
          · obtain ⟨oe, hoe⟩ : ∃ oe, ops[e.on]? = some oe := by
              have : acc.size < ops.size := (Array.getElem?_eq_some_iff.1 ho).1
              exact ⟨ops[e.on], Array.getElem?_eq_getElem (by omega)⟩
            exact hacc e.on oe hoe h2 i hbit (hin e.on oe hoe hel)
          · rw [Array.getD_eq_getD_getElem?, Array.getElem?_eq_none h2] at hbit
            simp at hbit

theorem Heads.more {listed : Array Bool} (h : Heads md ops listed) {i : Nat} (hi : i ∈ Region.ready md ops listed) : Heads md ops (listed.setIfInBounds i true) := by
  obtain ⟨_, oi, hoi, hall⟩ := mem_ready.1 hi
  have up : ∀ k, listed.getD k false = true → (listed.setIfInBounds i true).getD k false = true := fun k hk => by
    by_cases e : i = k
    · subst e
      rcases Nat.lt_or_ge i listed.size with h' | h'
      · simp [h']
      · simp [Array.getElem?_eq_none h'] at hk
    · rw [getD_set_ne false e]; exact hk
  intro j oj hj hl e he hb
  by_cases e1 : i = j
  · subst e1
    rw [hoi] at hj
    cases hj
    exact up _ (hall e he hb)
  · rw [getD_set_ne false e1] at hl
    exact up _ (h j oj hj hl e he hb)

theorem wp_shift {o : Oper} {a : Act} {w : World} {dst : Option Tmp} {u : Value} {X Y : Act → World → Prop} (he : execOp (a.put dst u).eval o = execOp a.eval o)
    (h : o.wp P a w (fun a' w' => (∃ v, a' = a.put o.dst v) ∧ C w' ∧ X a' w') (fun _ _ _ => False)) (hxy : ∀ v w', C w' → X (a.put o.dst v) w' → Y ((a.put dst u).put o.dst v) w') :
    o.wp P (a.put dst u) w (fun a' w' => (∃ v, a' = (a.put dst u).put o.dst v) ∧ C w' ∧ Y a' w') (fun _ _ _ => False) := by
  unfold Oper.wp at *
  rw [he]
  generalize (execOp a.eval o).run P w = r at *
  have put (v : Value) {w' : World} (hh : (∃ x, a.put o.dst v = a.put o.dst x) ∧ C w' ∧ X (a.put o.dst v) w') :
      (∃ x, (a.put dst u).put o.dst v = (a.put dst u).put o.dst x) ∧ C w' ∧ Y ((a.put dst u).put o.dst v) w' := ⟨⟨v, rfl⟩, hh.2.1, hxy v _ hh.2.1 hh.2.2⟩
  cases r with
  | ok n w' =>
    cases n <;> simp only [Oper.upon] at h ⊢
    case value u => exact put u h
    case skip => exact put undef h
    case defer d =>
      obtain ⟨⟨x, hx⟩, _⟩ := h
      have hd : ∀ (b : Act) (t : Option Tmp) (y : Value), (b.put t y).defers = b.defers := fun b t y => by cases t <;> rfl
      have := congrArg Act.defers hx
      simp only [hd] at this
      exact absurd this (List.cons_ne_self _ _)
    case enter f args =>
      refine h.mono fun e w'' he => ?_
      cases e with
      | returned u => exact put u he
      | panicked c => exact he
      | outgrown => exact he
    case row row args => exact Rows.mono h fun u w'' he => put u he
  | halt x w' => cases x <;> simp only [Oper.upon] at h

/-- An operation that writes may be taken first, if all others that write wait for it. -/
theorem wpAnyS_loud {Q : Act → World → Prop} {i : Nat} {oi : Oper} (hi : ops[i]? = some oi) (hL : L i = true) (hsel : ∀ (j : Nat) (o : Oper) cs b, ops[j]? = some o → o.op ≠ .select cs b) :
    ∀ (fuel : Nat) (listed : Array Bool) (a : Act) (w : World), C w → Heads md ops listed →
      (∀ j oj, ops[j]? = some oj → j ≠ i → listed.getD j true = false → L j = true → ((ancGo md ops.toList #[]).getD j 0).testBit i = true) →
      (∀ j oj, ops[j]? = some oj → j ≠ i → listed.getD j true = false → (∀ e ∈ oj.after, Region.binds md e = true → e.on ≠ i) → oi.apart ops oj = true) →
      i ∈ Region.ready md ops listed → Region.wanted oi (yielded ops a.tmps) = true →
      oi.wp P a w (fun a' w' => (∃ v, a' = a.put oi.dst v) ∧ C w' ∧ wpAnyS P md ops C L Q fuel (listed.setIfInBounds i true) a' w') (fun _ _ _ => False) → wpAnyS P md ops C L Q (fuel + 1) listed a w := by
  intro fuel
  induction fuel with
  | zero =>
    intro listed a w hw _ _ _ hr hwa H
    refine ⟨fun h => (by rw [h] at hr; cases hr), fun j hj => ?_⟩
    by_cases hji : j = i
    · subst hji
      unfold sOp
      simp only [hi]
      rw [if_pos ⟨hL, hwa⟩]
      exact H
    · obtain ⟨a1, w1, _, _, h1⟩ := Oper.wp_out H
      have := ready_mono hj hji
      rw [h1.1] at this
      cases this
  | succ fuel ih =>
    intro listed a w hw hin hord hfree hr hwa H
    refine ⟨fun h => (by rw [h] at hr; cases hr), fun j hj => ?_⟩
    by_cases hji : j = i
    · subst hji
      unfold sOp
      simp only [hi]
      rw [if_pos ⟨hL, hwa⟩]
      exact H
    · obtain ⟨hjun, oj, hoj, hall⟩ := mem_ready.1 hj
      have hun : listed.getD i false = false := by
        have h0 := (mem_ready.1 hr).1
        rcases Nat.lt_or_ge i listed.size with h' | h'
        · simp [h'] at h0 ⊢; exact h0
        · simp [Array.getElem?_eq_none h']
      have hLj : L j = false := by
        by_cases h : L j = true
        · have := anc_spec listed hin ops.toList #[] (by simp) (fun j oj _ hlt => by simp at hlt) j oj hoj i (hord j oj hoj hji hjun h) hall
          rw [hun] at this
          cases this
        · simpa using h
      have hnot : ∀ e ∈ oj.after, Region.binds md e = true → e.on ≠ i := fun e he hb heq => by
        have h1 := hall e he hb
        rw [heq, hun] at h1
        cases h1
      have hap := hfree j oj hoj hji hjun hnot
      obtain ⟨p1, p2, p3⟩ := Oper.apart_spec hap
      have hsi := fun cs b => hsel i oi cs b hi
      have hsj := fun cs b => hsel j oj cs b hoj
      have open_ : ∀ (b : Act) (w1 : World) (K : Act → World → Prop), sOp P ops C L j K b w1 → ∃ u, Yld P ops C (!L j) oj u b ∧ K (b.put oj.dst u) w1 := by
        intro b w1 K h
        unfold sOp at h
        simp only [hoj] at h
        rw [if_neg (by rw [hLj]; simp)] at h
        exact h
      obtain ⟨a1, w1, ⟨v1, rfl⟩, hC1, h1⟩ := Oper.wp_out H
      obtain ⟨u, hu, _⟩ := open_ _ _ _ (h1.2 j (ready_mono hj hji))
      have hua : Yld P ops C (!L j) oj u a := hu.of_same (execOp_put oj hsj a oi.dst v1 p1).symm (wanted_put oj a oi.dst v1 p1).symm
      refine hua.sOp hoj (ih (listed.setIfInBounds j true) (a.put oj.dst u) w hw (hin.more hj) ?_ ?_ (ready_mono hr (Ne.symm hji)) ?_ ?_)
      · intro k ok hk hki hkun hLk
        refine hord k ok hk hki ?_ hLk
        by_cases hjk : j = k
        · subst hjk; exact hjun
        · rw [getD_set_ne true hjk] at hkun; exact hkun
      · intro k ok hk hki hkun hno
        refine hfree k ok hk hki ?_ hno
        by_cases hjk : j = k
        · subst hjk; exact hjun
        · rw [getD_set_ne true hjk] at hkun; exact hkun
      · rw [wanted_put oi a oj.dst u p3]; exact hwa
      · refine wp_shift (execOp_put oi hsi a oj.dst u p3) H ?_
        intro v w' hC' hX
        obtain ⟨u', hu', hK⟩ := open_ _ _ _ (hX.2 j (ready_mono hj hji))
        have hu'a : Yld P ops C (!L j) oj u' a := hu'.of_same (execOp_put oj hsj a oi.dst v p1).symm (wanted_put oj a oi.dst v p1).symm
        obtain rfl := Yld.uniq hw hua hu'a
        rw [Array.setIfInBounds_comm _ _ hji, ← Act.put_comm a v u p2]
        exact hK

/-! The walk in the order of the text. -/
/-- What a writing operation leaves, and what goes on. -/
def LQ (C : World → Prop) (a : Act) (K : Act → World → Prop) : Exit → Act → World → Prop
  | .normal, a', w' => a'.defers = a.defers ∧ C w' ∧ K a' w'
  | _, _, _ => False
def wpStg (P : Program) (ops : Array Oper) (C : World → Prop) (L : Nat → Bool) (Q : Act → World → Prop) : List Oper → Nat → Act → World → Prop
  | [], _, a, w => Q a w
  | o :: rest, k, a, w =>
    if L k = true then wpList P ops (LQ C a (wpStg P ops C L Q rest (k + 1))) [o] a w
    else if Region.wanted o (yielded ops a.tmps) then o.quiet P a C (fun a' => wpStg P ops C L Q rest (k + 1) a' w) else wpStg P ops C L Q rest (k + 1) (a.put o.dst undef) w

theorem wp_put_form {o : Oper} {a : Act} {w : World} {K : Act → World → Prop} (h : o.wp P a w (LQ C a K .normal) (LQ C a K)) :
    o.wp P a w (fun a' w' => (∃ v, a' = a.put o.dst v) ∧ C w' ∧ K a' w') (fun _ _ _ => False) := by
  unfold Oper.wp at *
  generalize (execOp a.eval o).run P w = r at *
  cases r with
  | ok n w' =>
    cases n <;> simp only [Oper.upon] at h ⊢
    case value u => exact ⟨⟨u, rfl⟩, h.2⟩
    case skip => exact ⟨⟨undef, rfl⟩, h.2⟩
    case defer d =>
      have hd : ∀ (b : Act) (t : Option Tmp) (y : Value), (b.put t y).defers = b.defers := fun b t y => by cases t <;> rfl
      have := h.1
      simp only [hd] at this
      exact absurd this (List.cons_ne_self _ _)
    case enter f args =>
      refine h.mono fun e w'' he => ?_
      cases e with
      | returned u => exact ⟨⟨u, rfl⟩, he.2⟩
      | panicked c => exact he
      | outgrown => obtain ⟨_, _, h0⟩ := he; exact h0.elim
    case row row args => exact Rows.mono h fun u w'' he => ⟨⟨u, rfl⟩, he.2⟩
  | halt x w' => cases x <;> simp only [Oper.upon] at h; exact h

/-- May the region be walked so? -/
def stgFrom (ops : Array Oper) (L : Nat → Bool) (A : Array Nat) : Nat → Nat → Array Bool → Bool
  | 0, _, listed => (Region.ready .any ops listed).isEmpty
  | fuel + 1, k, listed =>
    (Region.ready .any ops listed).contains k && Region.free .any ops listed k &&
    (if L k then (List.range ops.size).all (fun j => j ≤ k || !L j || (A.getD j 0).testBit k) else !((ops[k]?).map mayEnter).getD true) &&
    stgFrom ops L A fuel (k + 1) (listed.setIfInBounds k true)
def stgB (ops : Array Oper) (L : Nat → Bool) : Bool := Region.noSelect ops && stgFrom ops L (ancGo .any ops.toList #[]) ops.size 0 (Array.replicate ops.size false)

theorem wpAnyS_stg {Q : Act → World → Prop} (hs : Region.noSelect ops = true) : ∀ (l : List Oper) (k : Nat) (listed : Array Bool) (a : Act) (w : World), (∀ j, l[j]? = ops[k + j]?) → C w → Heads .any ops listed →
    (∀ j, j < k → listed.getD j true = true) → listed.size = ops.size → 
    stgFrom ops L (ancGo .any ops.toList #[]) l.length k listed = true → wpStg P ops C L Q l k a w → wpAnyS P .any ops C L Q l.length listed a w
  | [], _, _, _, _, hl, hw, hin, hdone, hsz, hB, h => ⟨by simpa [stgFrom] using hB, h⟩
  | o :: l, k, listed, a, w, hl, hw, hin, hdone, hsz, hB, h => by
    have h0 : ops[k]? = some o := by simpa using (hl 0).symm
    simp only [List.length_cons, stgFrom, Bool.and_eq_true] at hB
    obtain ⟨⟨⟨hr, hf⟩, hk⟩, hB'⟩ := hB
    have hr' : k ∈ Region.ready .any ops listed := by simpa using hr
    have hkl : k < listed.size := by rw [hsz]; exact (Array.getElem?_eq_some_iff.1 h0).1
    have next : ∀ a' w', C w' → wpStg P ops C L Q l (k + 1) a' w' → wpAnyS P .any ops C L Q l.length (listed.setIfInBounds k true) a' w' := fun a' w' hw' h' =>
      wpAnyS_stg hs l (k + 1) _ a' w' (fun j => by have := hl (j + 1); simpa [Nat.add_assoc, Nat.add_comm 1 j] using this) hw' (hin.more hr')
        (fun j hj => by
          by_cases e : k = j
          · subst e; simp [hkl]
          · rw [getD_set_ne true e]; exact hdone j (by omega)) (by simp [hsz]) hB' h'
    have hsel := Region.noSelect_spec hs
    have hfree := Region.free_spec h0 hf
    unfold wpStg at h
    by_cases hL : L k = true
    · rw [if_pos hL] at h hk
      unfold wpList at h
      by_cases hwa : Region.wanted o (yielded ops a.tmps) = true
      · rw [if_pos hwa] at h
        have h1 : o.wp P a w (LQ C a (wpStg P ops C L Q l (k + 1)) .normal) (LQ C a (wpStg P ops C L Q l (k + 1))) := by
          rcases h with h | ⟨_, a0, w0, h⟩
          · exact h
          · exact h.elim
        refine wpAnyS_loud h0 hL hsel l.length listed a w hw hin ?_ hfree hr' hwa (Oper.wp_mono2' (wp_put_form h1) next)
        intro j oj hj hjk hjun hLj
        rw [List.all_eq_true] at hk
        have := hk j (List.mem_range.2 (Array.getElem?_eq_some_iff.1 hj).1)
        simp only [Bool.or_eq_true, decide_eq_true_eq, hLj, Bool.not_true, Bool.false_eq_true, or_false] at this
        rcases this with h3 | h3
        · have := hdone j (by omega)
          rw [hjun] at this
          cases this
        · exact h3
      · rw [if_neg hwa] at h
        exact wpAnyS_first h0 hsel l.length listed a w hw hfree hr' (.inr ⟨by simpa using hwa, rfl⟩) (next _ _ hw h.2.2)
    · rw [if_neg hL] at h hk
      have hme : mayEnter o = false := by simpa [h0] using hk
      by_cases hwa : Region.wanted o (yielded ops a.tmps) = true
      · rw [if_pos hwa] at h
        obtain ⟨v, h1, h2⟩ := h
        exact wpAnyS_first h0 hsel l.length listed a w hw hfree hr' (.inl ⟨hwa, by simpa using hL, hme, h1⟩) (next _ _ hw h2)
      · rw [if_neg hwa] at h
        exact wpAnyS_first h0 hsel l.length listed a w hw hfree hr' (.inr ⟨by simpa using hwa, rfl⟩) (next _ _ hw h)

/-- THE REGION. -/
theorem wp_region_stg {id : Nat} {Q : Exit → Act → World → Prop} {a : Act} {w : World} {l : List Oper} (C : World → Prop) (L : Nat → Bool) (hm : P.follows .mixedOrders = true) (hB : stgB l.toArray L = true) (hC : C { w with drawn := w.drawn + 1 })
    (h : wpStg P l.toArray C L (fun a' w' => C w' → Q .normal a' w') l 0 a { w with drawn := w.drawn + 1 }) : (Code.region id l.toArray true).wp P Q a w := by
  simp only [stgB, Bool.and_eq_true] at hB
  refine wp_region_any hm (wpAny_of_S (C := C) (L := L) (Q := fun a' w' => C w' → Q .normal a' w') (fun _ _ hw' h => h hw') _ _ _ _ hC ?_)
  have := wpAnyS_stg (P := P) (C := C) (L := L) (Q := fun a' w' => C w' → Q .normal a' w') hB.1 l 0 (Array.replicate l.toArray.size false) a _ (by simp) hC
    (fun j oj _ hl => by simp [Array.getElem?_replicate] at hl; split at hl <;> simp at hl) (fun j hj => by omega) (by simp) (by simpa using hB.2) h
  simpa using this

/-- A stretch of operations that only read. -/
theorem stg_seg {Q : Act → World → Prop} (n : Nat) : ∀ {l seg tail : List Oper} {k : Nat} {a : Act} {w : World}, l.take n = seg → l.drop n = tail → (List.range n).all (fun i => !L (k + i)) = true →
    wpQuiet P ops C (fun a' => wpStg P ops C L Q tail (k + n) a' w) seg a → wpStg P ops C L Q l k a w := by
  induction n with
  | zero => intro l seg tail k a w h1 h2 _ h; subst h1; subst h2; exact h
  | succ n ih =>
    intro l seg tail k a w h1 h2 hL h
    cases l with
    | nil =>
      simp at h1 h2
      subst h1; subst h2
      simpa [wpQuiet, wpStg] using h
    | cons o rest =>
      simp only [List.take_succ_cons] at h1
      simp only [List.drop_succ_cons] at h2
      subst h1
      have hk : L k = false := by
        have := List.all_eq_true.1 hL 0 (List.mem_range.2 (by omega))
        simpa using this
      have hL' : (List.range n).all (fun i => !L (k + 1 + i)) = true := by
        rw [List.all_eq_true]
        intro i hi
        have := List.all_eq_true.1 hL (i + 1) (List.mem_range.2 (by have := List.mem_range.1 hi; omega))
        rw [show k + 1 + i = k + (i + 1) by omega]
        exact this
      unfold wpStg
      rw [if_neg (by rw [hk]; simp)]
      unfold wpQuiet at h
      have next : ∀ a', wpQuiet P ops C (fun a' => wpStg P ops C L Q tail (k + (n + 1)) a' w) (rest.take n) a' → wpStg P ops C L Q rest (k + 1) a' w := fun a' h' => ih rfl h2 hL' (by rw [show k + 1 + n = k + (n + 1) by omega]; exact h')
      split
      · rename_i hwa; rw [if_pos hwa] at h; exact Oper.quiet_mono next h
      · rename_i hwa; rw [if_neg hwa] at h; exact next _ h
/-- One that writes. -/
theorem stg_loud {Q : Act → World → Prop} {o : Oper} {rest : List Oper} {k : Nat} {a : Act} {w : World} (hL : L k = true) (h : wpList P ops (LQ C a (wpStg P ops C L Q rest (k + 1))) [o] a w) : wpStg P ops C L Q (o :: rest) k a w := by
  unfold wpStg
  rw [if_pos hL]
  exact h
theorem stg_nil {Q : Act → World → Prop} {k : Nat} {a : Act} {w : World} (h : Q a w) : wpStg P ops C L Q [] k a w := h

/-- A world of a class. -/
structure Wd (C : World → Prop) where
  w : World
  h : C w
/-- The region over a class that is named by a property. -/
theorem wp_region_in {id : Nat} {Q : Exit → Act → World → Prop} {a : Act} {w : World} {l : List Oper} (C0 : World → Prop) (L : Nat → Bool) (hm : P.follows .mixedOrders = true) (hB : stgB l.toArray L = true) (hC : C0 { w with drawn := w.drawn + 1 })
    (h : Nonempty (Wd C0) → (∀ x : Wd C0, C0 x.w) → wpStg P l.toArray (fun w' => ∃ x : Wd C0, w' = x.w) L (fun a' w' => Q .normal a' w') l 0 a { w with drawn := w.drawn + 1 }) : (Code.region id l.toArray true).wp P Q a w := by
  refine wp_region_stg (fun w' => ∃ x : Wd C0, w' = x.w) L hm hB ⟨⟨_, hC⟩, rfl⟩ ?_
  have h' := h ⟨⟨_, hC⟩⟩ (fun x => x.h)
  have mono : ∀ (l : List Oper) (ops : Array Oper) (k : Nat) (a : Act) (w : World), wpStg P ops (fun w' => ∃ x : Wd C0, w' = x.w) L (fun a' w' => Q .normal a' w') l k a w → wpStg P ops (fun w' => ∃ x : Wd C0, w' = x.w) L (fun a' w' => (∃ x : Wd C0, w' = x.w) → Q .normal a' w') l k a w := by
    intro l ops
    induction l with
    | nil => intro k a w h _; exact h
    | cons o rest ih =>
      intro k a w h
      unfold wpStg at h ⊢
      split
      · rename_i hL
        rw [if_pos hL] at h
        unfold wpList at h ⊢
        split
        · rename_i hwa
          rw [if_pos hwa] at h
          rcases h with h | ⟨_, a0, w0, h⟩
          · refine .inl ?_
            have h1 := wp_put_form h
            exact Oper.wp_mono2 (fun a' w' ⟨⟨v, hv⟩, h2, h3⟩ => ⟨by rw [hv]; cases o.dst <;> rfl, h2, ih _ _ _ h3⟩) h1
          · exact h.elim
        · rename_i hwa
          rw [if_neg hwa] at h
          exact ⟨h.1, h.2.1, ih _ _ _ h.2.2⟩
      · rename_i hL
        rw [if_neg hL] at h
        split
        · rename_i hwa; rw [if_pos hwa] at h; exact Oper.quiet_mono (fun a' h' => ih _ _ _ h') h
        · rename_i hwa; rw [if_neg hwa] at h; exact ih _ _ _ h
  exact mono l l.toArray 0 a _ h'
/-- Behind a writing operation. -/
theorem lq_in {C0 : World → Prop} {a a' : Act} {w' : World} {K : Act → World → Prop} (hd : a'.defers = a.defers) (hC : C0 w') (h : K a' w') : LQ (fun w' => ∃ x : Wd C0, w' = x.w) a K .normal a' w' := ⟨hd, ⟨⟨w', hC⟩, rfl⟩, h⟩
end staged
end Go.Proofs.YtmnoacjmdnmddaaDoor
