/- A map whose keys are truth values: what a look-up, a store, a clearing come to. Conditions: none. -/
import Derived.Test.YtiamfdnllpiikaaQuorum3
namespace Go.Proofs.Ytiamfdnllpiikaa
open Go.RowKit

def isKey (e : MapEntry) (b : Bool) : Bool := match e.key with | .bool c => c == b | _ => false
theorem isKey_of {e : MapEntry} {b c : Bool} (h : e.key = .bool c) : isKey e b = (c == b) := by simp [isKey, h]
def findB (es : List MapEntry) (b : Bool) : Option Value := (es.find? fun e => isKey e b).map (·.val)
theorem findB_cons (e : MapEntry) (r : List MapEntry) (b : Bool) : findB (e :: r) b = if isKey e b = true then some e.val else findB r b := by
  unfold findB
  rw [List.find?_cons]
  cases isKey e b <;> simp
def AllB (es : List MapEntry) : Prop := ∀ e ∈ es, ∃ c, e.key = .bool c

theorem findNow_B {b : Bool} : ∀ {es : List MapEntry} (i : Nat), AllB es → ∃ r, Instr.findNow .bool (.bool b) es i = some r ∧ r.map (·.2) = findB es b ∧
    ∀ j v, r = some (j, v) → ∃ n e, j = i + n ∧ es[n]? = some e ∧ e.key = .bool b ∧ ∀ n', n' < n → ∀ e', es[n']? = some e' → e'.key ≠ .bool b
  | [], i, _ => ⟨none, rfl, rfl, fun j v h => by cases h⟩
  | e :: es, i, h => by
    obtain ⟨c, hc⟩ := h e (List.mem_cons_self ..)
    by_cases hbc : b = c
    · subst hbc
      refine ⟨some (i, e.val), by simp [Instr.findNow, hc, Instr.sameNow], by rw [findB_cons, isKey_of hc]; simp, fun j v hj => ?_⟩
      simp only [Option.some.injEq, Prod.mk.injEq] at hj
      exact ⟨0, e, by omega, rfl, hc, fun n' hn' => by omega⟩
    · obtain ⟨r, h1, h2, h3⟩ := findNow_B (b := b) (i + 1) (fun e' he' => h e' (List.mem_cons_of_mem _ he'))
      have hbc' : (b == c) = false := by simpa using hbc
      have hcb' : (c == b) = false := by simpa using Ne.symm hbc
      refine ⟨r, by simp [Instr.findNow, hc, Instr.sameNow, hbc', h1], by rw [findB_cons, isKey_of hc, hcb']; simpa using h2, fun j v hj => ?_⟩
      obtain ⟨n, e', a1, a2, a3, a4⟩ := h3 j v hj
      refine ⟨n + 1, e', by omega, a2, a3, fun n' hn' e'' he'' => ?_⟩
      cases n' with
      | zero =>
        simp at he''
        subst he''
        rw [hc]
        simp [Ne.symm hbc]
      | succ n' => exact a4 n' (by omega) e'' he''

section
variable {P : Program} {w : World} {m : Nat} {es : Array MapEntry} {clock : Nat} {T K E : TypeId}

theorem run_lookB {b : Bool} {z : Value} (hT : P.underlying T = some (.map K E)) (hK : P.underlying K = some .bool) (hz : (zeroValue E).run P w = .ok z w) (hm : w.heap[m]? = some (.map es clock)) (hall : AllB es.toList) :
    (Instr.lookup T (.map (some m)) (.bool b) false).run P w = .ok ((findB es.toList b).getD z) w := by
  obtain ⟨r, h1, h2, _⟩ := findNow_B (b := b) 0 hall
  have hck : ∀ e, (Instr.checkKey e 10000 K (.bool b)).run P w = .ok () w := by
    intro e
    show (Instr.checkKey e (9999 + 1) K (.bool b)).run P w = .ok () w
    rw [Instr.checkKey]
    simp only [Sem.run_bind, run_underlying hK, Result.andThen_ok]
    rfl
  have hgo : (getObj m).run P w = .ok (.map es clock) w := by simp [getObj, Sem.run, hm]
  have hfk : (Instr.findKey K (.bool b) es.toList).run P w = .ok r w := by
    simp only [Instr.findKey, Sem.run_bind, run_underlying hK, Result.andThen_ok, h1, Sem.run_pure]
  unfold Instr.lookup
  simp only [Sem.run_bind, run_underlying hT, Result.andThen_ok, hgo, Sem.run_pure, hck, hfk]
  cases r with
  | none =>
    simp at h2
    simp only [Sem.run_bind, hz, Result.andThen_ok, Sem.run_pure, ← h2]
    rfl
  | some p =>
    simp at h2
    simp only [Sem.run_bind, Result.andThen_ok, Sem.run_pure, ← h2]
    rfl

/-- The entries behind a store. -/
theorem run_putB {b : Bool} {v : Value} (hT : P.underlying T = some (.map K E)) (hK : P.underlying K = some .bool) (hm : w.heap[m]? = some (.map es clock)) (hall : AllB es.toList) :
    ∃ es' clock', (Instr.mapUpdate T (.map (some m)) (.bool b) v).run P w = .ok () (putObj w m (.map es' clock')) ∧ AllB es'.toList ∧ findB es'.toList b = some v ∧ findB es'.toList (!b) = findB es.toList (!b) := by
  obtain ⟨r, h1, h2, h3⟩ := findNow_B (b := b) 0 hall
  have hck : (Instr.checkKey false 10000 K (.bool b)).run P w = .ok () w := by
    show (Instr.checkKey false (9999 + 1) K (.bool b)).run P w = .ok () w
    rw [Instr.checkKey]
    simp only [Sem.run_bind, run_underlying hK, Result.andThen_ok]
    rfl
  have hgo : (getObj m).run P w = .ok (.map es clock) w := by simp [getObj, Sem.run, hm]
  have hfk : (Instr.findKey K (.bool b) es.toList).run P w = .ok r w := by
    simp only [Instr.findKey, Sem.run_bind, run_underlying hK, Result.andThen_ok, h1, Sem.run_pure]
  have hset : ∀ o, (setObj m o).run P w = .ok () (putObj w m o) := fun o => by simp [setObj, Sem.run, hm, putObj]
  unfold Instr.mapUpdate
  simp only [Sem.run_bind, run_underlying hT, Result.andThen_ok, hgo, hck, hfk]
  cases r with
  | none =>
    simp at h2
    refine ⟨_, _, hset _, ?_, ?_, ?_⟩
    · intro e he
      simp at he
      rcases he with he | he
      · exact hall e (by simpa using he)
      · subst he; exact ⟨b, rfl⟩
    · unfold findB at *
      simp only [Array.toList_push, List.find?_append]
      have : List.find? (fun e => isKey e b) es.toList = none := by simpa using h2.symm
      rw [this]
      simp [isKey]
    · unfold findB
      simp only [Array.toList_push, List.find?_append]
      cases hh : List.find? (fun e => isKey e !b) es.toList with
      | some x => simp
      | none => simp [isKey]
  | some p =>
    obtain ⟨j, v0⟩ := p
    obtain ⟨n, e, rfl, a2, a3, a4⟩ := h3 j v0 rfl
    simp only [Nat.zero_add] at *
    have hn : n < es.toList.length := (List.getElem?_eq_some_iff.1 a2).1
    have hks : (Instr.keyThatStays (((es[n]?).map (·.key)).getD (.bool b)) (.bool b)).run P w = .ok (.bool b) w := by
      have : es[n]? = some e := by simpa using a2
      rw [this]
      simp [Instr.keyThatStays, Instr.sameBits, a3, Sem.run_pure]
    simp only [Sem.run_bind, hks, Result.andThen_ok]
    have hsp : es.toList = es.toList.take n ++ e :: es.toList.drop (n + 1) := by
      rw [← List.getElem?_eq_some_iff.1 a2 |>.2, ← List.drop_eq_getElem_cons hn, List.take_append_drop]
    have hmo : (es.modify n fun e => { e with key := .bool b, val := v }).toList = es.toList.take n ++ { e with key := .bool b, val := v } :: es.toList.drop (n + 1) := by
      rw [Array.toList_modify, List.modify_eq_take_drop]
      congr 1
      rw [List.drop_eq_getElem_cons hn]
      simp only [List.modifyHead_cons]
      rw [List.getElem?_eq_some_iff.1 a2 |>.2]
    have hpre : ∀ e' ∈ es.toList.take n, isKey e' b = false := by
      intro e' he'
      obtain ⟨i, hi, hie⟩ := List.getElem_of_mem he'
      have hin : i < n := by simp at hi; omega
      rw [List.getElem_take] at hie
      have h5 := a4 i hin e' (by rw [List.getElem?_eq_getElem (by omega), hie])
      obtain ⟨c, hc⟩ := hall e' (List.mem_of_mem_take he')
      rw [isKey_of hc]
      rw [hc] at h5
      simpa using h5
    have hpn : List.find? (fun e => isKey e b) (es.toList.take n) = none := by
      rw [List.find?_eq_none]
      intro x hx
      simp [hpre x hx]
    refine ⟨_, _, hset _, ?_, ?_, ?_⟩
    · intro x hx
      rw [hmo] at hx
      rcases List.mem_append.1 hx with hx | hx
      · exact hall x (List.mem_of_mem_take hx)
      · rcases List.mem_cons.1 hx with rfl | hx
        · exact ⟨b, rfl⟩
        · exact hall x (List.mem_of_mem_drop hx)
    · unfold findB
      rw [hmo, List.find?_append, hpn]
      simp [isKey]
    · unfold findB
      rw [hmo]
      conv => rhs; rw [hsp]
      rw [List.find?_append, List.find?_append, List.find?_cons, List.find?_cons]
      have k1 : isKey e (!b) = false := by rw [isKey_of a3]; simp
      simp only [k1]
      simp [isKey]
end
end Go.Proofs.Ytiamfdnllpiikaa
