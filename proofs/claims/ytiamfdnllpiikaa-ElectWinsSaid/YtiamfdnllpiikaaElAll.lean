/- elect: all; ballots in memory. Conditions: none. -/
import Derived.Test.YtiamfdnllpiikaaElAlone
namespace Go.Proofs.Ytiamfdnllpiikaa
open Go.RowKit

theorem Try.infoBal : (Try.prog.info? 44).map (fun i => (i.zero, i.size, i.bytes)) = some (some (.agg #[.int .i64 0, .int .i64 0, .int .i64 0, .int .i64 0, .int .i64 0, .int .i64 0, .bool false]), 7, 56) := by kernel_rfl
theorem info_parts {i : Option TypeInfo} {z : Value} {size bytes : Nat} (h : i.map (fun i => (i.zero, i.size, i.bytes)) = some (some z, size, bytes)) : ∃ i0, i = some i0 ∧ i0.zero = some z ∧ i0.size = size ∧ i0.bytes = bytes := by
  cases i with
  | none => cases h
  | some i0 => simp at h; exact ⟨i0, rfl, h.1, h.2.1, h.2.2⟩
/-- 'out = append(out, x, ..)': the new ones lie in the newest block; where the new row lies. -/
theorem wpList_appm {P : Program} {W : World} {ops : Array Oper} {rest : List Oper} {o : Oper} {a : Act} {Q : Exit → Act → World → Prop} (hgd : o.guard = none) (s x : Operand) (T : TypeId)
    (ho : o.op = .call { callee := .builtin .append, args := #[s, x], argTypes := #[T, T] })
    (base : Nat) (E : TypeId) {z : Value} {size bytes : Nat} (hT : P.underlying T = some (.slice E)) (hinfo : (P.info? E).map (fun i => (i.zero, i.size, i.bytes)) = some (some z, size, bytes))
    (hzs : z.cells.size = size) (hsz : 0 < size) {v : Value} (hs : a.eval s = v) {n m : Nat} {xs : List Value} (hown : W.ownsRow base E size v n xs)
    (hx : a.eval x = .slice (some ⟨W.heap.size, 0, none⟩) m m) (cs : List Value) {tb : TypeId} {fz : Nat × Nat} (hcs : cs.length = m * size) (h1 : ∀ u ∈ cs, u.oneCell' = true)
    (hm : n + m ≤ maxLen) (hb : (n + m) * bytes ≤ 140737488355328) (hbase : base ≤ W.heap.size)
    (h : ∀ v' w', w'.ownsRow base E size v' (n + m) (xs ++ cs) → W.grownBy w' v.ownBlock → (v'.ownBlock = v.ownBlock ∨ ∃ g, v'.ownBlock = some g ∧ W.heap.size ≤ g) → wpList P ops Q rest (a.put o.dst v') w') :
    wpList P ops Q (o :: rest) a (W.alloc (.cells cs.toArray tb fz)) := by
  obtain ⟨i0, hi, hz0, hz1, hz2⟩ := info_parts hinfo
  have hcell : ∀ j u, cs[j]? = some u → (W.alloc (.cells cs.toArray tb fz)).cell? ((⟨W.heap.size, 0, none⟩ : Addr).add j) = some u := by
    intro j u hj
    have hadd : (⟨W.heap.size, 0, none⟩ : Addr).add j = ⟨W.heap.size, j, none⟩ := by unfold Addr.add; split <;> simp_all
    rw [hadd, cell_of_row _ W.heap.size j cs.toArray tb fz (heap_alloc_new W _)]
    simpa using hj
  refine wpList_append_own_at _ hgd s x T ho base E i0 z size bytes hT hi hz0 hz1 hz2 hzs hsz v n xs hs (hown.alloc _) ⟨W.heap.size, 0, none⟩ m m cs hx hcs hcell h1 hm hb (by simp; omega) ?_
  intro v' w' h2 h3 _ h5
  refine h v' w' h2 (grown_trans (World.grownBy_alloc W _ _) h3) ?_
  rcases h5 with h5 | h5
  · exact .inl h5
  · exact .inr ⟨_, h5, by simp⟩
def balC (x : Bal) : List Value := [.int .i64 x.kind, .int .i64 x.src, .int .i64 x.dst, .int .i64 x.term, .int .i64 x.index, .int .i64 x.logTerm, .bool x.yes]
def balsC (l : List Bal) : List Value := l.flatMap balC
/-- Ballots of one's own, in a new block. -/
def Bals (w0 w : World) (v : Value) (l : List Bal) : Prop := w.ownsRow w0.heap.size 44 7 v l.length (balsC l)
theorem own_keep {w w' : World} {base : Nat} {e : TypeId} {size : Nat} {v : Value} {n : Nat} {xs : List Value} (h : w.ownsRow base e size v n xs) (k : Below w.heap.size w w') : w'.ownsRow base e size v n xs :=
  ownsRow_blk h fun g hg => k.block g (h.lt g hg).2

def allTo (S : Nd) (k : Nat) (kind term last lt : Int) : List Bal := ((S.vs.take k).filter fun v => decide (v ≠ S.id)).map fun v => ⟨kind, S.id, v, term, last, lt, false⟩
theorem allTo_succ (S : Nd) {k : Nat} (hk : k < S.vs.length) (kind term last lt : Int) : allTo S (k + 1) kind term last lt = allTo S k kind term last lt ++ if S.vs.getD k 0 = S.id then [] else [⟨kind, S.id, S.vs.getD k 0, term, last, lt, false⟩] := by
  unfold allTo
  rw [List.take_succ_eq_append_getElem hk, List.filter_append, List.map_append, List.getD_eq_getElem?_getD, List.getElem?_eq_getElem hk]
  congr 1
  by_cases h : S.vs[k] = S.id <;> simp [h]
theorem allTo_len (S : Nd) (k : Nat) (kind term last lt : Int) : (allTo S k kind term last lt).length ≤ k := by
  unfold allTo
  rw [List.length_map]
  exact Nat.le_trans (List.length_filter_le _ _) (by simp; omega)

set_option maxRecDepth 100000 in
set_option maxHeartbeats 1000000 in
theorem all_at {b : Nat} {S : Nd} {L : List Nat} {w : World} (h : NodeAt w b S L) (hv : S.vs.length ≤ 1000) (kind term last lt : Int) :
    Calls Try.prog 34 #[.pointer (some ⟨b, 0, none⟩), .int .i64 kind, .int .i64 term, .int .i64 last, .int .i64 lt] w fun e w' => ∃ v, e = .returned v ∧ Bals w w' v (S.all kind term last lt) ∧ Below w.heap.size w w' := by
  obtain ⟨m, es, clock, yv, nv, hx⟩ := h
  have hcB : ∀ (i : Nat) (W : World), Below w.heap.size w W → W.cell? ⟨b, i, none⟩ = (nodeC S m)[i]? := fun i W h => (hx.below h).cell i
  have c0 := hcB 0
  have c1 := hcB 1
  have c2 := hcB 2
  have c3 := hcB 3
  have c4 := hcB 4
  have c5 := hcB 5
  have c6 := hcB 6
  have c7 := hcB 7
  have c8 := hcB 8
  have c9 := hcB 9
  have c10 := hcB 10
  have fz : ∀ (i : Nat) (W : World), Below w.heap.size w W → W.frozen? ⟨b, i, none⟩ = false := fun i W h => (hx.below h).frozen i
  simp only [nodeC, List.getElem?_toArray, List.getElem?_cons_zero, List.getElem?_cons_succ] at c0 c1 c2 c3 c4 c5 c6 c7 c8 c9 c10
  clear hcB
  have hat := hx.vs.at_
  have HAS := Lib.hid (fun k (hk : k < S.vs.length) => allTo_succ S hk kind term last lt)
  have HAL := Lib.hid (fun k => allTo_len S k kind term last lt)
  have HAE := Lib.hid (show allTo S S.vs.length kind term last lt = S.all kind term last lt by unfold allTo Nd.all; rw [List.take_length])
  obtain ⟨va, hva⟩ : ∃ va, va = S.va := ⟨_, rfl⟩
  obtain ⟨N, hN⟩ : ∃ N, N = S.vs.length := ⟨_, rfl⟩
  rw [← hva] at c4 hat
  rw [← hN] at c4 hv HAS HAE
  have HV := Lib.hid hat
  have HN := Lib.hid hN
  have hN1 : (N : Int) ≤ 1000 := by omega
  have hb := Below.refl w.heap.size w
  clear hat hva hx hN c1 c2 c3 c5 c6 c7 c8 c9 c10
  go_enter Try.func34, Try.ntmps34
  go_wp2_with fail
  go_loopg [11, 20] N (fun g v i wr => Below w.heap.size w wr ∧ ∃ k : Nat, k ≤ N ∧ g = N - k ∧ i = .int .i64 k ∧ Bals w wr v (allTo S k kind term last lt))
  case atStart => exact ⟨hb, 0, by omega, rfl, rfl, World.ownsRow_nil _ _ _ _⟩
  case round =>
    clear hb
    obtain ⟨hb, k, k0, hgk, rfl, hown⟩ := hrel
    have HGK := Lib.hid hgk
    have HO := Lib.hid hown
    have HO2 := Lib.hid (show wr.ownsRow w.heap.size 44 7 _ _ _ from hown)
    clear hgk hown
    by_cases hk : k < N
    · obtain ⟨b1, o1, rfl, hc⟩ := HV.out k (by rw [← HN.out]; exact hk)
      have q : ∀ W, Below w.heap.size w W → W.cell? ⟨b1, o1 + k, none⟩ = some (.int .i64 (S.vs.getD k 0)) := fun W h => cell_keep h hc
      have hS := HAS.out k hk
      obtain ⟨x, hx⟩ : ∃ x, x = S.vs.getD k 0 := ⟨_, rfl⟩
      rw [← hx] at q hS
      have hk1 : (k : Int) < N := by omega
      have hk2 : (0 : Int) ≤ (k : Int) := by omega
      clear hc hx
      by_cases hi : x = S.id
      · rw [if_pos hi, List.append_nil] at hS
        have HS := Lib.hid hS
        have e1 : (x != S.id) = false := by simp [hi]
        clear hS hi
        go_wp2_with fail
        go_roundg (N - (k + 1))
        case measure => have := HGK.out; omega
        case rel => exact ⟨hb, k + 1, by omega, rfl, by go_num, by rw [HS.out]; exact HO.out⟩
      · rw [if_neg hi] at hS
        have HS := Lib.hid hS
        have e1 : (x != S.id) = true := by simp [hi]
        have hAl := HAL.out k
        clear hS hi
        go_wp2_with (at_builtin; go_loud (refine wpList_appm rfl _ _ 32 rfl w.heap.size 44 Try.underlying32 Try.infoBal rfl (by decide) rfl HO2.out rfl [.int .i64 kind, .int .i64 S.id, .int .i64 x, .int .i64 term, .int .i64 last, .int .i64 lt, .bool false] rfl (by simp [Value.oneCell']) (by unfold maxLen; omega) (by omega) hb.size ?_); intro v1 w4 hown1 hgrow _)
        replace hb := bl_trans' hb (own_below HO2.out hgrow hb.size) (Nat.le_refl _)
        clear hgrow
        go_roundg (N - (k + 1))
        case measure => have := HGK.out; omega
        case rel => exact ⟨hb, k + 1, by omega, rfl, by go_num, by rw [HS.out]; unfold Bals; rw [List.length_append, show balsC (allTo S k kind term last lt ++ [⟨kind, S.id, x, term, last, lt, false⟩]) = balsC (allTo S k kind term last lt) ++ balC ⟨kind, S.id, x, term, last, lt, false⟩ by simp [balsC]]; exact hown1⟩
    · obtain rfl : k = N := by omega
      go_wp2_with fail
      go_ret
      exact ⟨_, rfl, by rw [← HAE.out]; exact HO.out, hb⟩
end Go.Proofs.Ytiamfdnllpiikaa
