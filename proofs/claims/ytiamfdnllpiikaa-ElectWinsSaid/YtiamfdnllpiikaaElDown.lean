/- elect: other, down, alone. Conditions: none. -/
import Derived.Test.YtiamfdnllpiikaaElNode
namespace Go.Proofs.Ytiamfdnllpiikaa
open Go.RowKit

theorem other_at {b : Nat} {S : Nd} {L : List Nat} {w : World} (h : NodeAt w b S L) (x : Int) :
    Calls Try.prog 35 #[.pointer (some ⟨b, 0, none⟩), .int .i64 x] w fun e w' => e = .returned (.bool (S.other x)) ∧ w = w' := by
  obtain ⟨m, es, clock, yv, nv, hx⟩ := h
  have c0 := hx.cell 0
  simp only [nodeC, List.getElem?_toArray, List.getElem?_cons_zero, List.getElem?_cons_succ] at c0
  clear hx
  have HE := Lib.hid (show S.other x = (decide (1 ≤ x) && decide (x ≤ 15) && decide (x ≠ S.id)) from rfl)
  by_cases h1 : 1 ≤ x
  · by_cases h2 : x ≤ 15
    · by_cases h3 : x = S.id
      · have e3 : (x != S.id) = false := by simp [h3]
        have e4 : (x == S.id) = true := by simp [h3]
        have HN := Lib.hid (show S.other x = false by rw [HE.out]; simp [h3])
        clear h3
        go_enter Try.func35, Try.ntmps35
        go_wp2_with fail
        go_ret
        exact ⟨ret_bool HN.out.symm, rfl⟩
      · have e3 : (x != S.id) = true := by simp [h3]
        have e4 : (x == S.id) = false := by simp [h3]
        have HN := Lib.hid (show S.other x = true by rw [HE.out]; simp [h1, h2, h3])
        clear h3
        go_enter Try.func35, Try.ntmps35
        go_wp2_with fail
        go_ret
        exact ⟨ret_bool HN.out.symm, rfl⟩
    · have HN := Lib.hid (show S.other x = false by rw [HE.out]; simp [h2])
      go_enter Try.func35, Try.ntmps35
      go_wp2_with fail
      go_ret
      exact ⟨ret_bool HN.out.symm, rfl⟩
  · have HN := Lib.hid (show S.other x = false by rw [HE.out]; simp [h1])
    go_enter Try.func35, Try.ntmps35
    go_wp2_with fail
    go_ret
    exact ⟨ret_bool HN.out.symm, rfl⟩

theorem wpList_clearB {P : Program} {ops : Array Oper} {Q : Exit → Act → World → Prop} {a : Act} {w : World} {rest : List Oper} {o : Oper} (hg : o.guard = none) (x : Operand) (T : TypeId) {K E : TypeId}
    (ho : o.op = .call { callee := .builtin .clear, args := #[x], argTypes := #[T] }) (hT : P.underlying T = some (.map K E)) {m clock : Nat} {es : Array MapEntry} (hx : a.eval x = .map (some m)) (hm : w.heap[m]? = some (.map es clock))
    (h : wpList P ops Q rest (a.put o.dst (.tuple #[])) (putObj w m (.map #[] clock))) : wpList P ops Q (o :: rest) a w := by
  refine wpList_exec hg (.tuple #[]) (w' := putObj w m (.map #[] clock)) ?_ h
  have hrun : (Builtin.clear_ #[T] o.type #[.map (some m)]).run P w = .ok (.tuple #[]) (putObj w m (.map #[] clock)) := by
    have hgo : (getObj m).run P w = .ok (.map es clock) w := by simp [getObj, Sem.run, hm]
    have hset : (setObj m (.map #[] clock)).run P w = .ok () (putObj w m (.map #[] clock)) := by simp [setObj, Sem.run, hm, putObj]
    simp [Builtin.clear_, Sem.run_bind, run_underlying hT, Result.andThen_ok, hgo, hset, Sem.run_pure]
  unfold execOp
  simp only [ho, resolve, invoke, builtin, Sem.run_bind, Sem.run_pure, Result.andThen_ok, List.map_toArray, List.map_cons, List.map_nil, hx, hrun]

theorem NodeX.cleared {w : World} {b : Nat} {S : Nd} {L : List Nat} {m clock : Nat} {es : Array MapEntry} {yv nv : Value} (h : NodeX w b S L m es clock yv nv) :
    NodeX (putObj w m (.map #[] clock)) b { S with yes := [], no := [] } L m #[] clock (.slice none 0 0) (.slice none 0 0) ∧ Chg L w (putObj w m (.map #[] clock)) := by
  have k : Chg [m] w (putObj w m (.map #[] clock)) := (Chg.refl _ _).put (by simp) _
  have kL : Chg L w (putObj w m (.map #[] clock)) := (Chg.refl _ _).put (.inl h.inm) _
  refine ⟨⟨k.blk h.blk (by simp; exact h.bm), h.vs.keep kL, h.ls.keep kL, h.vl, h.ll, put_same (blk_lt h.map), ?_, rfl, rfl, own_nil _ _, own_nil _ _, apart_nil _, h.inb, h.inm, by simp, by simp, fun x hx => Nat.lt_of_lt_of_le (h.low x hx) kL.size⟩, kL⟩
  intro e he
  simp at he
theorem Chg.up {b : Nat} {L : List Nat} {w w' : World} (k : Chg [b] w w') (h : b ∈ L) : Chg L w w' :=
  ⟨k.os, k.tape, k.output, k.size, fun i hi hn => k.block i hi (fun hm => hn (by rw [List.mem_singleton.1 hm]; exact h))⟩

set_option maxRecDepth 100000 in
theorem down_at {b : Nat} {S : Nd} {L : List Nat} {w : World} (h : NodeAt w b S L) (t : Int) :
    Calls Try.prog 36 #[.pointer (some ⟨b, 0, none⟩), .int .i64 t] w fun e w' => e = .returned (.tuple #[]) ∧ Moves w b (S.down t) L w' := by
  obtain ⟨m, es, clock, yv, nv, hx⟩ := h
  have c0 := hx.cell 0
  have c1 := hx.cell 1
  have c2 := hx.cell 2
  have c3 := hx.cell 3
  have c4 := hx.cell 4
  have c5 := hx.cell 5
  have c6 := hx.cell 6
  have c7 := hx.cell 7
  have c8 := hx.cell 8
  have c9 := hx.cell 9
  have c10 := hx.cell 10
  have fz := hx.frozen
  simp only [nodeC, List.getElem?_toArray, List.getElem?_cons_zero, List.getElem?_cons_succ] at c0 c1 c2 c3 c4 c5 c6 c7 c8 c9 c10
  have HX := Lib.hid hx
  clear hx
  go_enter Try.func36, Try.ntmps36
  go_wp2_with ((with_reducible show wpList _ _ _ (⟨none, Op.call _, _, _, _, _⟩ :: _) _ _); refine wpList_clearB rfl (.tmp 18) 72 rfl Try.underlying72 (m := m) (es := es) (clock := clock) rfl ?_ ?_)
  · exact blk_far (blk_far (blk_far (blk_far HX.out.map HX.out.bm.symm _) HX.out.bm.symm _) HX.out.bm.symm _) HX.out.bm.symm _
  · go_end0
    have k : Chg [b] w ((((w.setCell ⟨b, 2, none⟩ (.int .i64 t)).setCell ⟨b, 3, none⟩ (.int .i64 0)).setCell ⟨b, 6, none⟩ (.int .i64 0)).setCell ⟨b, 7, none⟩ (.int .i64 0)) :=
      ((((Chg.refl _ _).set (by simp) _).set (by simp) _).set (by simp) _).set (by simp) _
    have h1 := HX.out.scal (S' := { S with term := t, vote := 0, role := 0, leader := 0 }) k (blk_set (blk_set (blk_set (blk_set HX.out.blk 2 _) 3 _) 6 _) 7 _) ⟨rfl, rfl⟩ ⟨rfl, rfl⟩ rfl rfl
    obtain ⟨h2, h3⟩ := h1.cleared
    exact ⟨rfl, L, ⟨m, _, _, _, _, h2⟩, (k.up HX.out.inb).trans h3, fun x hx => .inl hx⟩
end Go.Proofs.Ytiamfdnllpiikaa
