/- A range over a function whose iterator keeps a state of its own in one box. Conditions: none. -/
import Derived.Test.YtnmmhggdjlfnfaaSmSame
import Derived.RangeFuncNested
import Derived.RangeFuncBound
import Derived.RangeFuncCalls
import Derived.RangeFuncLeaves
import Derived.Shelf.Abstract
import Derived.Shelf.RegionOpen
import Derived.OwnWalkIn
import Derived.TacticsInMore
import Derived.LoopNIn
import Derived.LoopIn
namespace Go.Proofs.Ytnmmhggdjlfnfaa
open Go.RowKit
section
variable {P : Program} {n : Nat}
/-- What an iterator promises that keeps its state in block Bx, has N things to tell, and stops for nothing. -/
def Iter (P : Program) (n : Nat) (gf : Nat) (lb : Array Value) (encs : Nat → Array Value) (Kp : World → World → Prop) (N Bx : Nat) (w : World) : Prop :=
  ∀ (l : Nat) (J : Nat → World → Prop) (W : World), Below w.heap.size w W → (∀ k A B, J k A → A.grownBy B (some Bx) → J k B) →
    (∀ k A, J k A → k < N → YieldAt Fence.wide (n - 1) P l (encs k) A fun e B => e = .returned (.bool true) ∧ J (k + 1) B ∧ Kp A B) → J 0 W →
    CallsIn Fence.wide n P gf (#[.func (.yield l) #[] #[]] ++ lb) W fun e B => (∃ v, e = .returned v) ∧ J N B
/-- How a round's body is left. -/
def roundEnd (B : Nat) (Kp : World → World → Prop) (I : Nat → World → Prop) (k : Nat) (W : World) : Exit → Act → World → Prop
  | .normal, _, V => KeepsFrom B W V ∧ Kp W V ∧ I (k + 1) V
  | _, _, _ => False
theorem grown_alloc (A : World) (o : Obj) (r : Option Nat) : A.grownBy (A.alloc o) r := ⟨rfl, rfl, rfl, by simp, fun k hk _ => Below.heap_alloc A o k hk⟩
theorem range_law {g : Operand} {ps : Array Tmp} {assign body : Code} {Q : Exit → Act → World → Prop} {a : Act} {w : World} {gf : Nat} {lb : Array Value} {encs : Nat → Array Value} {Kp : World → World → Prop} {N Bx : Nat}
    (hg : a.eval g = .func (.func gf) #[] lb) (eg : ∀ args w, (callFunc gf args).run P w = .ok (.enter gf args) w) (hseq : Iter P (n - 1) gf lb encs Kp N Bx w) (hBx : Bx < w.heap.size)
    (hKt : ∀ {A B C : World}, Kp A B → Kp B C → Kp A C) (hKb : ∀ (W : World) (l : Nat) (o o' : Obj), w.heap.size ≤ l → W.heap[l]? = some o → o.isCells = false → Kp W (W.putObj l o')) (hps : ∀ k, (encs k).size = ps.size)
    (I : Nat → World → Prop) (hI : ∀ k A B, I k A → A.grownBy B (some Bx) → I k B) (hIo : ∀ k A l (o o' : Obj), I k A → w.heap.size ≤ l → A.heap[l]? = some o → o.isCells = false → I k (A.putObj l o')) (h0 : I 0 w) (a₁ : Nat → Act)
    (hassign : ∀ (l k : Nat) (W : World) (K : Act → World → Prop), K (a₁ k) W → assign.wpIn (Fence.wide.inRound l) (n - 1 - 1) P (Exit.then K (fun _ _ _ => False)) { tmps := (ps.zip (encs k)).foldl (fun t (p, v) => t.setIfInBounds p v) a.tmps, defers := [] } W)
    (hbody : ∀ (l k : Nat) (W : World), I k W → k < N → body.wpIn (Fence.wide.inRound l) (n - 1 - 1) P (roundEnd w.heap.size Kp I k W) (a₁ k) W)
    (hdone : ∀ (D : Nat) (W : World), w.heap.size ≤ D → I N W → W.heap[D]? = some (.deferred (some [])) → Q .normal { a with defers := { target := .collected D, args := #[] } :: a.defers } W) :
    (Code.rangeFunc g ps assign body).wpIn Fence.wide n P Q a w := by
  refine wpIn_rangeFunc ?_
  intro fn hfn
  obtain ⟨R, hR⟩ : ∃ R : LoopState → Loop, R = fun st => { state := st, pending := none, fn, tmps := a.tmps, params := ps, assign, body, defers := w.heap.size } := ⟨_, rfl⟩
  obtain ⟨V, hV⟩ : ∃ V, (w.alloc (.deferred (some []))).alloc (.loop (R .ready)) = V := ⟨_, rfl⟩
  have hL : V.heap[w.heap.size + 1]? = some (.loop (R .ready)) := by
    rw [← hV]
    have := World.alloc_heap_new (w.alloc (.deferred (some []))) (.loop (R .ready))
    rwa [World.size_alloc] at this
  have hD : V.heap[w.heap.size]? = some (.deferred (some [])) := by
    rw [← hV]
    exact (Below.heap_alloc _ _ _ (by simp)).trans (World.alloc_heap_new w _)
  have hIV : I 0 V := by rw [← hV]; exact hI _ _ _ (hI _ _ _ h0 (grown_alloc _ _ _)) (grown_alloc _ _ _)
  have hbV : Below w.heap.size w V := by rw [← hV]; exact bl_alloc (bl_alloc (Below.refl _ w) _) _
  refine ⟨w.heap.size + 1, [{ target := .collected w.heap.size, args := #[] }], V, { target := .fn (.func gf) lb, args := #[.func (.yield (w.heap.size + 1)) #[] #[]] }, V, gf,
    #[.func (.yield (w.heap.size + 1)) #[] #[]] ++ lb, V, ?_, ?_, fun _ _ => trivial, ?_, (fun h => by cases h), ?_⟩
  · rw [← hV, hR]
    exact run_enterLoop_outer _ _ _ _ _
  · simp only [resolve, hg]
    simp [go_sem]
  · simp [invoke, go_sem, eg]
  refine (hseq (w.heap.size + 1) (fun k W => I k W ∧ W.heap[w.heap.size + 1]? = some (.loop (R .ready)) ∧ W.heap[w.heap.size]? = some (.deferred (some []))) V hbV ?_ ?_ ⟨hIV, hL, hD⟩).mono ?_
  · rintro k A B ⟨h1, h2, h3⟩ hgr
    exact ⟨hI k A B h1 hgr, (hgr.block _ (Array.getElem?_eq_some_iff.1 h2).1 (by intro e; injection e with e; omega)).trans h2, (hgr.block _ (Array.getElem?_eq_some_iff.1 h3).1 (by intro e; injection e with e; omega)).trans h3⟩
  · rintro k A ⟨h1, h2, h3⟩ hk
    have hlt : w.heap.size + 1 < A.heap.size := (Array.getElem?_eq_some_iff.1 h2).1
    have hy := run_yield (P := P) (args := encs k) h2 (by rw [hR]; exact hps k)
    rw [hR] at hy
    refine ⟨fn, _, assign, body, hy, roundIn_of_wpIn hfn (hassign _ k A _ ⟨_, run_beginRound h2 (by rw [hR]), ?_⟩)⟩
    obtain ⟨A2, hA2⟩ : ∃ A2, A2 = A.putObj (w.heap.size + 1) (.loop { R .ready with state := .busy }) := ⟨_, rfl⟩
    have hl2 : A2.heap[w.heap.size + 1]? = some (.loop { R .ready with state := .busy }) := by rw [hA2]; exact World.putObj_heap_same hlt
    have hd2 : A2.heap[w.heap.size]? = some (.deferred (some [])) := by rw [hA2]; exact (World.putObj_heap_other (by omega)).trans h3
    have hi2 : I k A2 := by rw [hA2]; exact hIo k A _ _ _ h1 (by omega) h2 rfl
    have hk2 : Kp A A2 := by rw [hA2]; exact hKb _ _ _ _ (by omega) h2 rfl
    rw [← hA2]
    refine wpIn_mono (hbody _ k A2 hi2 hk) ?_
    rintro e a3 B hp
    cases e with
    | normal =>
      obtain ⟨q1, q2, q3⟩ := hp
      have hl3 := q1.same _ _ (by omega) hl2 rfl
      have hd3 := q1.same _ _ (Nat.le_refl _) hd2 rfl
      have hend := run_endRound (P := P) none hl3
      refine ⟨_, _, hend, rfl, ⟨hIo _ _ _ _ _ q3 (by omega) hl3 rfl, ?_, (World.putObj_heap_other (by omega)).trans hd3⟩, hKt (hKt hk2 q2) (hKb _ _ _ _ (by omega) hl3 rfl)⟩
      rw [World.putObj_heap_same (Array.getElem?_eq_some_iff.1 hl3).1, hR]
      rfl
    | _ => exact hp.elim
  · rintro e B ⟨⟨v, rfl⟩, h1, h2, h3⟩
    have hend := run_endLoop (P := P) h2 (by rw [hR]; simp)
    have hpe : (R .ready).pending = none := by rw [hR]
    rw [hpe] at hend
    exact ⟨none, _, hend, hdone _ _ (Nat.le_refl _) (hIo _ _ _ _ _ h1 (by omega) h2 rfl) ((World.putObj_heap_other (by omega)).trans h3)⟩
end
end Go.Proofs.Ytnmmhggdjlfnfaa
