/- A region that draws its order, whose last operation waits for all others and may write over what they read. Conditions: none. -/
import Derived.Test.YtmnoacjmdnmddaaDoorStaged
namespace Go.Proofs.YtmnoacjmdnmddaaDoor
open Go.RowKit

section last
variable {P : Program} {md : Region.Mode} {l : List Oper} {o : Oper} {Q' : Exit → Act → World → Prop}

/-- What goes on behind all but the last. -/
def QL (P : Program) (ops : Array Oper) (Q' : Exit → Act → World → Prop) (o : Oper) : Exit → Act → World → Prop
  | .normal, a, w => wpList P ops Q' [o] a w
  | _, _, _ => False
theorem Oper.wp_monoL {ops : Array Oper} {o' : Oper} {a : Act} {w : World} {K K' : Act → World → Prop} (h : ∀ a w, K a w → K' a w) (hh : o'.wp P a w K (QL P ops Q' o)) : o'.wp P a w K' Q' := by
  unfold Oper.wp at *
  generalize (execOp a.eval o').run P w = r at *
  cases r with
  | ok n w' =>
    cases n <;> simp only [Oper.upon] at hh ⊢
    case enter f args =>
      refine hh.mono fun e w'' he => ?_
      cases e with
      | returned v => exact h _ _ he
      | panicked c => exact he.elim
      | outgrown => obtain ⟨_, _, h0⟩ := he; exact h0.elim
    case row row args => exact Rows.mono hh fun _ _ he => h _ _ he
    all_goals exact h _ _ hh
  | halt x w' =>
    cases x <;> simp only [Oper.upon] at hh
    exact hh.elim
/-- Guards and edges point back; the last waits for all. -/
def lastB (md : Region.Mode) (l : List Oper) (o : Oper) : Bool :=
  (List.range (l.length + 1)).all (fun i => ((l ++ [o])[i]?.map (fun x => x.after.all (fun e => decide (e.on < i)) && (match x.guard with | none => true | some (j, _) => decide (j < l.length)))).getD true) &&
  (List.range l.length).all (fun i => ((ancGo md (l ++ [o]) #[]).getD l.length 0).testBit i)
theorem full_lt {i : Nat} (h : i < l.length) : (l ++ [o]).toArray[i]? = l.toArray[i]? := by
  simp [List.getElem?_append_left h]
theorem full_at : (l ++ [o]).toArray[l.length]? = some o := by simp
theorem push_getD {l' : Array Bool} {i : Nat} (d : Bool) (h : i < l'.size) : (l'.push false).getD i d = l'.getD i d := by
  rw [Array.getD_eq_getD_getElem?, Array.getD_eq_getD_getElem?, Array.getElem?_push_lt h, Array.getElem?_eq_getElem h]
theorem push_getDf {l' : Array Bool} (i : Nat) : (l'.push false).getD i false = l'.getD i false := by
  rcases Nat.lt_or_ge i l'.size with h | h
  · exact push_getD _ h
  · rw [Array.getD_eq_getD_getElem?, Array.getD_eq_getD_getElem?, Array.getElem?_eq_none h]
    rcases Nat.lt_or_ge l'.size i with h2 | h2
    · rw [Array.getElem?_eq_none (by simp; omega)]
    · obtain rfl : i = l'.size := by omega
      rw [Array.getElem?_push_size]; rfl
theorem ready_lt {l' : Array Bool} {i : Nat} (hs : l'.size = l.length) (h : i < l.length) : i ∈ Region.ready md (l ++ [o]).toArray (l'.push false) ↔ i ∈ Region.ready md l.toArray l' := by
  rw [mem_ready, mem_ready, full_lt h, push_getD _ (by omega)]
  simp only [push_getDf]
theorem wanted_lt (hB : lastB md l o = true) {i : Nat} {x : Oper} (hx : l[i]? = some x) (tmps : Array Value) : Region.wanted x (yielded (l ++ [o]).toArray tmps) = Region.wanted x (yielded l.toArray tmps) := by
  simp only [lastB, Bool.and_eq_true] at hB
  have hil : i < l.length := (List.getElem?_eq_some_iff.1 hx).1
  have h := List.all_eq_true.1 hB.1 i (List.mem_range.2 (by omega))
  rw [List.getElem?_append_left hil, hx] at h
  simp only [Option.map_some, Option.getD_some, Bool.and_eq_true] at h
  unfold Region.wanted
  cases hg : x.guard with
  | none => rfl
  | some p =>
    obtain ⟨j, want⟩ := p
    have h2 := h.2
    rw [hg] at h2
    have hj : j < l.length := by simpa using h2
    simp only
    unfold yielded
    rw [full_lt hj]

theorem not_stuck (hB : lastB md l o = true) {l' : Array Bool} (hs : l'.size = l.length) : Region.ready md (l ++ [o]).toArray (l'.push false) ≠ [] := by
  intro h0
  simp only [lastB, Bool.and_eq_true] at hB
  have key : ∀ i, i ≤ l.length → (l'.push false).getD i true = true := by
    intro i
    induction i using Nat.strongRecOn with
    | _ i ih =>
      intro hi
      obtain ⟨x, hx⟩ : ∃ x, (l ++ [o])[i]? = some x := ⟨_, List.getElem?_eq_getElem (show i < (l ++ [o]).length by simp; omega)⟩
      have h := List.all_eq_true.1 hB.1 i (List.mem_range.2 (by omega))
      rw [hx] at h
      simp only [Option.map_some, Option.getD_some, Bool.and_eq_true, Array.all_eq_true_iff_forall_mem] at h
      cases hg : (l'.push false).getD i true with
      | true => rfl
      | false =>
        have : i ∈ Region.ready md (l ++ [o]).toArray (l'.push false) := by
          rw [mem_ready]
          refine ⟨hg, x, by rw [List.getElem?_toArray]; exact hx, fun e he _ => ?_⟩
          have hlt : e.on < i := by simpa using h.1 e he
          have h1 := ih e.on hlt (by omega)
          have hsz : e.on < (l'.push false).size := by simp; omega
          rw [Array.getD_eq_getD_getElem?, Array.getElem?_eq_getElem hsz] at h1 ⊢
          exact h1
        rw [h0] at this
        cases this
  have := key l.length (Nat.le_refl _)
  rw [Array.getD_eq_getD_getElem?, ← hs, Array.getElem?_push_size] at this
  cases this
theorem all_done (hB : lastB md l o = true) {l' : Array Bool} (hin : Heads md (l ++ [o]).toArray (l'.push false)) (hi : l.length ∈ Region.ready md (l ++ [o]).toArray (l'.push false)) :
    ∀ i, i < l.length → l'.getD i false = true := by
  intro i hil
  simp only [lastB, Bool.and_eq_true] at hB
  have h := List.all_eq_true.1 hB.2 i (List.mem_range.2 hil)
  obtain ⟨_, oj, hoj, hall⟩ := mem_ready.1 hi
  have := anc_spec (l'.push false) hin (l ++ [o]) #[] (by simp) (fun j oj _ hlt => by simp at hlt) l.length oj hoj i h hall
  rwa [push_getDf] at this
theorem none_left {l' : Array Bool} (h : ∀ i, i < l.length → l'.getD i false = true) (hs : l'.size = l.length) : Region.ready md l.toArray l' = [] := by
  rw [List.eq_nil_iff_forall_not_mem]
  intro i hi
  obtain ⟨h0, oj, hoj, _⟩ := mem_ready.1 hi
  have hil : i < l.length := by simpa using (Array.getElem?_eq_some_iff.1 hoj).1
  have h1 := h i hil
  rw [Array.getD_eq_getD_getElem?, Array.getElem?_eq_getElem (by omega)] at h0 h1
  simp at h0 h1
  rw [h0] at h1
  cases h1
theorem none_left_full {l' : Array Bool} (h : ∀ i, i < l.length → l'.getD i false = true) (hs : l'.size = l.length) : Region.ready md (l ++ [o]).toArray ((l'.push false).setIfInBounds l.length true) = [] := by
  rw [List.eq_nil_iff_forall_not_mem]
  intro i hi
  obtain ⟨h0, oj, hoj, _⟩ := mem_ready.1 hi
  have hil : i < l.length + 1 := by simpa using (Array.getElem?_eq_some_iff.1 hoj).1
  by_cases hn : l.length = i
  · subst hn
    rw [Array.getD_eq_getD_getElem?, Array.getElem?_setIfInBounds_self_of_lt (by simp; omega)] at h0
    cases h0
  · rw [getD_set_ne true hn, push_getD _ (by omega)] at h0
    have h1 := h i (by omega)
    rw [Array.getD_eq_getD_getElem?, Array.getElem?_eq_getElem (by omega)] at h0 h1
    simp at h0 h1
    rw [h0] at h1
    cases h1
theorem wpAny_last (hB : lastB md l o = true) : ∀ (fuel : Nat) (l' : Array Bool) (a : Act) (w : World), l'.size = l.length → Heads md (l ++ [o]).toArray (l'.push false) →
    wpAny P md l.toArray (QL P (l ++ [o]).toArray Q' o) fuel l' a w → wpAny P md (l ++ [o]).toArray Q' (fuel + 1) (l'.push false) a w := by
  intro fuel
  induction fuel with
  | zero =>
    intro l' a w hs hin H
    refine ⟨fun h0 => absurd h0 (not_stuck hB hs), fun i hi => ?_⟩
    by_cases hil : i < l.length
    · have := (ready_lt hs hil).1 hi
      rw [H.1] at this
      cases this
    · obtain ⟨_, oj, hoj, _⟩ := mem_ready.1 hi
      obtain rfl : i = l.length := by
        have : i < l.length + 1 := by simpa using (Array.getElem?_eq_some_iff.1 hoj).1
        omega
      have hd := all_done hB hin hi
      have H2 : wpList P (l ++ [o]).toArray Q' [o] a w := H.2
      unfold wpOp
      rw [full_at]
      unfold wpList at H2
      simp only
      split
      · rename_i hw; rw [if_pos hw] at H2
        refine H2.imp (fun h => Oper.wp_mono (fun a w h => ⟨none_left_full hd hs, h⟩) h) id
      · rename_i hw; rw [if_neg hw] at H2
        exact ⟨none_left_full hd hs, H2⟩
  | succ fuel ih =>
    intro l' a w hs hin H
    refine ⟨fun h0 => absurd h0 (not_stuck hB hs), fun i hi => ?_⟩
    by_cases hil : i < l.length
    · have hr := (ready_lt hs hil).1 hi
      have H2 := H.2 i hr
      have hx : l[i]? = some l[i] := List.getElem?_eq_getElem hil
      have hset : (l'.push false).setIfInBounds i true = (l'.setIfInBounds i true).push false := by
        apply Array.ext_getElem?
        intro j
        simp only [Array.getElem?_setIfInBounds, Array.getElem?_push, Array.size_push, Array.size_setIfInBounds]
        by_cases hij : i = j
        · subst hij
          have h1 : ¬ i = l'.size := by omega
          have h2 : i < l'.size := by omega
          have h3 : i < l'.size + 1 := by omega
          simp [h1, h2, h3]
        · simp [hij]
      have hin' := hin.more hi
      rw [hset] at hin'
      have hK : ∀ a w, wpAny P md l.toArray (QL P (l ++ [o]).toArray Q' o) fuel (l'.setIfInBounds i true) a w → wpAny P md (l ++ [o]).toArray Q' (fuel + 1) ((l'.push false).setIfInBounds i true) a w := by
        intro a w h
        rw [hset]
        exact ih _ a w (by simpa using hs) hin' h
      unfold wpOp at H2 ⊢
      rw [full_lt hil]
      rw [show l.toArray[i]? = some l[i] by rw [List.getElem?_toArray]; exact hx] at H2 ⊢
      simp only at H2 ⊢
      rw [wanted_lt hB hx]
      split
      · rename_i hw
        rw [if_pos hw] at H2
        rcases H2 with h | ⟨_, a0, w0, h⟩
        · exact .inl (Oper.wp_monoL hK h)
        · exact h.elim
      · rename_i hw
        rw [if_neg hw] at H2
        exact hK _ _ H2
    · obtain ⟨_, oj, hoj, _⟩ := mem_ready.1 hi
      obtain rfl : i = l.length := by
        have : i < l.length + 1 := by simpa using (Array.getElem?_eq_some_iff.1 hoj).1
        omega
      have hd := all_done hB hin hi
      have H2 : wpList P (l ++ [o]).toArray Q' [o] a w := H.1 (none_left hd hs)
      have hfin : ∀ a w, Q' .normal a w → wpAny P md (l ++ [o]).toArray Q' (fuel + 1) ((l'.push false).setIfInBounds l.length true) a w := fun a w h =>
        ⟨fun _ => h, fun i hi => by rw [none_left_full hd hs] at hi; cases hi⟩
      unfold wpOp
      rw [full_at]
      unfold wpList at H2
      simp only
      split
      · rename_i hw; rw [if_pos hw] at H2
        exact H2.imp (fun h => Oper.wp_mono hfin h) id
      · rename_i hw; rw [if_neg hw] at H2
        exact hfin _ _ H2

/-- THE REGION: all but the last in the order of the text over a class of worlds; then the last. -/
theorem wp_region_last {id : Nat} {Q : Exit → Act → World → Prop} {a : Act} {w : World} {ops : List Oper} (n : Nat) (C0 : World → Prop) (L : Nat → Bool) (hm : P.follows .mixedOrders = true) (hl : ops.take n ++ [o] = ops) (hB : stgB (ops.take n).toArray L = true)
    (hE : lastB .any (ops.take n) o = true) (hC : C0 { w with drawn := w.drawn + 1 })
    (h : Nonempty (Wd C0) → (∀ x : Wd C0, C0 x.w) → wpStg P (ops.take n).toArray (fun w' => ∃ x : Wd C0, w' = x.w) L (fun a' w' => (∃ x : Wd C0, w' = x.w) → wpList P ops.toArray Q [o] a' w') (ops.take n) 0 a { w with drawn := w.drawn + 1 }) : (Code.region id ops.toArray true).wp P Q a w := by
  have hB' := hB
  simp only [stgB, Bool.and_eq_true] at hB'
  have hCC : (fun w' => ∃ x : Wd C0, w' = x.w) { w with drawn := w.drawn + 1 } := ⟨⟨_, hC⟩, rfl⟩
  have h1 := h ⟨⟨_, hC⟩⟩ (fun x => x.h)
  have h2 := wpAnyS_stg (P := P) (C := fun w' => ∃ x : Wd C0, w' = x.w) (L := L) hB'.1 (ops.take n) 0 (Array.replicate (ops.take n).toArray.size false) a _ (by simp) hCC
    (fun j oj _ hl => by simp [Array.getElem?_replicate] at hl; split at hl <;> simp at hl) (fun j hj => by omega) (by simp) (by simpa using hB'.2) h1
  have h3 := wpAny_of_S (md := .any) (Q' := QL P ops.toArray Q o) (fun a' w' hw' h => h hw') _ _ _ _ hCC h2
  refine wp_region_any hm ?_
  have hsz : ops.toArray.size = (ops.take n).length + 1 := by
    have := congrArg List.length hl
    simpa using this.symm
  have h4 := wpAny_last (P := P) (Q' := Q) hE (ops.take n).length (Array.replicate (ops.take n).toArray.size false) a _ (by simp) (by
    intro j oj _ hl
    rw [push_getDf] at hl
    simp [Array.getElem?_replicate] at hl
    split at hl <;> simp at hl) (by rw [hl]; simpa using h3)
  rw [hl] at h4
  rw [hsz]
  have he : (Array.replicate (ops.take n).toArray.size false).push false = Array.replicate ((ops.take n).length + 1) false := by
    simp [Array.replicate_succ]
  rw [he] at h4
  exact h4
end last
end Go.Proofs.YtmnoacjmdnmddaaDoor
