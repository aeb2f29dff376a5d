/- A drawn region in a round of a range over a function, walked by the laws of a plain one. Conditions: none. -/
import Derived.Test.YtnmmhggdjlfnfaaStagedL
import Derived.OrdersIn
import Derived.TacticsIn
namespace Go.Proofs.Ytnmmhggdjlfnfaa
section
variable {P : Program} {md : Region.Mode}
def isDefer (o : Oper) : Bool := match o.op with | .defer _ => true | _ => false
theorem nd_spec {l : List Oper} (h : l.all (fun x => !isDefer x) = true) : ∀ (i : Nat) (o : Oper), l.toArray[i]? = some o → ∀ c, o.op ≠ .defer c := fun i o ho c hc => by
  have hm : o ∈ l := by
    rw [List.getElem?_toArray] at ho
    exact List.mem_of_getElem? ho
  have := List.all_eq_true.1 h o hm
  unfold isDefer at this
  rw [hc] at this
  cases this
theorem rowsIn_wide {n : Nat} {row : String} {args : Array Value} {w : World} {R : Value → World → Prop} (r : Nat) (h : Rows P row args w R) : RowsIn (Fence.wide.inRound r) n P row args w R := fun c cs _ => by
  obtain ⟨v, w', h1, h2⟩ := h c cs
  exact ⟨v, w', h1, stepsIn_wide.2 h2⟩
theorem wpIn_of_wp {n r : Nat} {o : Oper} {a : Act} {w : World} {K : Act → World → Prop} {Q : Exit → Act → World → Prop} (hd : ∀ c, o.op ≠ .defer c) (h : o.wp P a w K Q) : o.wpIn (Fence.wide.inRound r) n P a w K Q := by
  unfold Oper.wpIn
  refine ⟨fun _ _ => trivial, ?_⟩
  rw [show (Fence.wide.inRound r).round = some r from rfl, Oper.semAt_some r a.eval o hd]
  unfold Oper.wp at h
  generalize (execOp a.eval o).run P w = res at *
  cases res with
  | ok x w' =>
    cases x <;> simp only [Oper.upon] at h <;> simp only [Oper.uponIn]
    case enter f args => exact ⟨fun h => (by cases h), callsIn_wide.2 h⟩
    case row row args => exact ⟨fun h => (by cases h), rowsIn_wide r h⟩
    all_goals exact h
  | halt x w' => cases x <;> simp only [Oper.upon] at h <;> simp only [Oper.uponIn]; exact h
theorem wpAnyIn_of_wpAny {n r : Nat} {ops : Array Oper} {Q : Exit → Act → World → Prop} (hnd : ∀ (i : Nat) (o : Oper), ops[i]? = some o → ∀ c, o.op ≠ .defer c) (hno : ¬ LetsOut Q) :
    ∀ (fuel : Nat) (listed : Array Bool) (a : Act) (w : World), wpAny P md ops Q fuel listed a w → wpAnyIn (Fence.wide.inRound r) n P md ops Q fuel listed a w
  | 0, _, _, _, h => h
  | fuel + 1, listed, a, w, h => ⟨h.1, fun i hi => by
    have h2 := h.2 i hi
    unfold wpOp at h2
    unfold wpOpIn
    cases ho : ops[i]? with
    | none => rw [ho] at h2; exact wpAnyIn_of_wpAny hnd hno fuel _ a w h2
    | some o =>
      rw [ho] at h2
      simp only at h2 ⊢
      split
      · next hw =>
        rw [if_pos hw] at h2
        rcases h2 with h2 | ⟨_, h2⟩
        · exact wpIn_of_wp (hnd i o ho) (Oper.wp_mono (fun a w h => wpAnyIn_of_wpAny hnd hno fuel _ a w h) h2)
        · exact absurd h2 hno
      · next hw =>
        rw [if_neg hw] at h2
        exact ⟨fun _ _ => trivial, wpAnyIn_of_wpAny hnd hno fuel _ _ w h2⟩⟩
/-- THE REGION: all but the last in the order of the text over a class of worlds; then the last. -/
theorem wpIn_region_last {id m r : Nat} {o : Oper} {Q : Exit → Act → World → Prop} {a : Act} {w : World} {ops : List Oper} (n : Nat) (C0 : World → Prop) (L : Nat → Bool) (hnd : ops.all (fun x => !isDefer x) = true) (hno : ¬ LetsOut Q) (hm : P.follows .mixedOrders = true) (hl : ops.take n ++ [o] = ops) (hB : stgB (ops.take n).toArray L = true)
    (hE : lastB .any (ops.take n) o = true) (hC : C0 { w with drawn := w.drawn + 1 })
    (h : Nonempty (Wd C0) → (∀ x : Wd C0, C0 x.w) → wpStg P (ops.take n).toArray (fun w' => ∃ x : Wd C0, w' = x.w) L (fun a' w' => (∃ x : Wd C0, w' = x.w) → wpList P ops.toArray Q [o] a' w') (ops.take n) 0 a { w with drawn := w.drawn + 1 }) : (Code.region id ops.toArray true).wpIn (Fence.wide.inRound r) m P Q a w := by
  have hB' := hB
  simp only [stgB, Bool.and_eq_true] at hB'
  have hCC : (fun w' => ∃ x : Wd C0, w' = x.w) { w with drawn := w.drawn + 1 } := ⟨⟨_, hC⟩, rfl⟩
  have h1 := h ⟨⟨_, hC⟩⟩ (fun x => x.h)
  have h2 := wpAnyS_stg (P := P) (C := fun w' => ∃ x : Wd C0, w' = x.w) (L := L) hB'.1 (ops.take n) 0 (Array.replicate (ops.take n).toArray.size false) a _ (by simp) hCC
    (fun j oj _ hl => by simp [Array.getElem?_replicate] at hl; split at hl <;> simp at hl) (fun j hj => by omega) (by simp) (by simpa using hB'.2) h1
  have h3 := wpAny_of_S (md := .any) (Q' := QL P ops.toArray Q o) (fun a' w' hw' h => h hw') _ _ _ _ hCC h2
  refine wpIn_region_any hm (wpAnyIn_of_wpAny (nd_spec hnd) hno _ _ _ _ ?_)
  have hsz : ops.toArray.size = (ops.take n).length + 1 := by
    have := congrArg List.length hl
    simpa using this.symm
  have h4 := wpAny_last (P := P) (Q' := Q) hE (ops.take n).length (Array.replicate (ops.take n).toArray.size false) a _ (by simp) (by
    intro j oj _ hl
    rw [push_getDf] at hl
    simp [Array.getElem?_replicate] at hl
    split at hl <;> simp at hl) (by rw [hl]; simpa using h3)
  rw [hl] at h4
  rw [hsz]
  have he : (Array.replicate (ops.take n).toArray.size false).push false = Array.replicate ((ops.take n).length + 1) false := by
    simp [Array.replicate_succ]
  rw [he] at h4
  exact h4
end
end Go.Proofs.Ytnmmhggdjlfnfaa
