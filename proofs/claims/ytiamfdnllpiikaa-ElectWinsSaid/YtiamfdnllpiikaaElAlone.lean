/- elect: alone. Conditions: none. -/
import Derived.Test.YtiamfdnllpiikaaElDown
namespace Go.Proofs.Ytiamfdnllpiikaa
open Go.RowKit

theorem wpList_skip {P : Program} {ops : Array Oper} {Q : Exit → Act → World → Prop} {a : Act} {w w' : World} {rest : List Oper} {o : Oper} (hg : o.guard = none)
    (hrun : (execOp a.eval o).run P w = .ok .skip w') (h : wpList P ops Q rest (a.put o.dst undef) w') : wpList P ops Q (o :: rest) a w :=
  wpList_plain hg fun K hK => by
    unfold Oper.wp
    rw [hrun]
    exact hK _ _ h
theorem zeroInts (w : World) : (zeroValue 29).run Try.prog w = .ok (.slice none 0 0) w := by kernel_rfl
theorem NodeX.lookT {w : World} {b : Nat} {S : Nd} {L : List Nat} {m clock : Nat} {es : Array MapEntry} {yv nv : Value} (h : NodeX w b S L m es clock yv nv) {W : World} (k : Below w.heap.size w W) :
    (Instr.lookup 72 (.map (some m)) (.bool true) false).run Try.prog W = .ok yv W := by
  rw [run_lookB Try.underlying72 Try.underlying4 (zeroInts W) (h.below k).map h.keys, h.gy]
theorem NodeX.lookF {w : World} {b : Nat} {S : Nd} {L : List Nat} {m clock : Nat} {es : Array MapEntry} {yv nv : Value} (h : NodeX w b S L m es clock yv nv) {W : World} (k : Below w.heap.size w W) :
    (Instr.lookup 72 (.map (some m)) (.bool false) false).run Try.prog W = .ok nv W := by
  rw [run_lookB Try.underlying72 Try.underlying4 (zeroInts W) (h.below k).map h.keys, h.gn]

set_option maxRecDepth 100000 in
set_option maxHeartbeats 1000000 in
theorem alone_at {b : Nat} {S : Nd} {L : List Nat} {w : World} (h : NodeAt w b S L) (r : Int) :
    Calls Try.prog 32 #[.pointer (some ⟨b, 0, none⟩), .int .i64 r] w fun e w' => e = .returned (.bool (S.alone r).win) ∧ Moves w b (S.alone r) L w' := by
  obtain ⟨m, es, clock, yv, nv, hx⟩ := h
  have hcB : ∀ (i : Nat) (W : World), Below w.heap.size w W → W.cell? ⟨b, i, none⟩ = (nodeC S m)[i]? := fun i W h => (hx.below h).cell i
  have c0 := hcB 0
  have c1 := hcB 1
  have c2 := hcB 2
  have c3 := hcB 3
  have c4 := hcB 4
  have c5 := hcB 5
  have c6 := hcB 6
  have c7 := hcB 7
  have c8 := hcB 8
  have c9 := hcB 9
  have c10 := hcB 10
  have fz : ∀ (i : Nat) (W : World), Below w.heap.size w W → W.frozen? ⟨b, i, none⟩ = false := fun i W h => (hx.below h).frozen i
  simp only [nodeC, List.getElem?_toArray, List.getElem?_cons_zero, List.getElem?_cons_succ] at c0 c1 c2 c3 c4 c5 c6 c7 c8 c9 c10
  clear hcB
  have hmm := @run_makeMap Try.prog
  have HX := Lib.hid hx
  have hal : ∀ o, Below w.heap.size w (w.alloc o) := fun o => bl_alloc (Below.refl _ _) o
  have hal2 : ∀ o o', Below w.heap.size w ((w.alloc o).alloc o') := fun o o' => bl_alloc (hal o) o'
  obtain ⟨W2, hW2⟩ : ∃ W2, W2 = (w.alloc (.map #[] 0)).alloc (.cells #[.int .i64 S.id] 3) := ⟨_, rfl⟩
  have hm2 : W2.heap[w.heap.size]? = some (.map #[] 0) := by rw [hW2]; exact blk_alloc (blk_new w _ rfl) _
  have hg2 : W2.heap[w.heap.size + 1]? = some (.cells #[.int .i64 S.id] 3) := by rw [hW2]; exact blk_new _ _ (by simp)
  have hb2 : Below w.heap.size w W2 := by rw [hW2]; exact hal2 _ _
  obtain ⟨es', ck', hmu, hk', ht', hf'⟩ := run_putB (P := Try.prog) (T := 72) (b := true) (v := .slice (some ⟨w.heap.size + 1, 0, none⟩) 1 1) Try.underlying72 Try.underlying4 hm2 (by intro e he; simp at he)
  have hb3 : Below w.heap.size w (putObj W2 w.heap.size (.map es' ck')) := bl_put hb2 (Nat.le_refl _) _
  have hm3 := put_same (o := .map es' ck') (blk_lt hm2)
  have hg3 := (put_far (w := W2) (o := .map es' ck') (show w.heap.size + 1 ≠ w.heap.size by omega)).trans hg2
  obtain ⟨W3, hW3⟩ : ∃ W3, W3 = putObj W2 w.heap.size (.map es' ck') := ⟨_, rfl⟩
  rw [← hW3] at hmu hb3 hm3 hg3
  rw [hW2] at hmu
  have HM := Lib.hid (And.intro hk' (And.intro ht' hf'))
  have HM3 := Lib.hid hm3
  have HG3 := Lib.hid hg3
  clear hx hW2 hm2 hg2 hb2 hk' ht' hf' hW3 hm3 hg3
  go_enter Try.func32, Try.ntmps32
  go_wp2_with fail
  have hlt := blk_lt HX.out.blk
  have k : Chg [b] w ((W3.setCell ⟨b, 6, none⟩ (.int .i64 r)).setCell ⟨b, 10, none⟩ (.map (some w.heap.size))) := ((Chg.of_below hb3).set (by simp) _).set (by simp) _
  have k' : Chg [b, w.heap.size, w.heap.size + 1] w ((W3.setCell ⟨b, 6, none⟩ (.int .i64 r)).setCell ⟨b, 10, none⟩ (.map (some w.heap.size))) := k.up (by simp)
  have hL : ∀ x, x ∈ [b, w.heap.size, w.heap.size + 1] → x ∈ L ∨ w.heap.size ≤ x := by
    intro x hx
    simp only [List.mem_cons, List.not_mem_nil, or_false] at hx
    rcases hx with rfl | rfl | rfl
    · exact .inl HX.out.inb
    · exact .inr (Nat.le_refl _)
    · exact .inr (Nat.le_succ _)
  have hlo : ∀ x, x ∈ [b, w.heap.size, w.heap.size + 1] → x < ((W3.setCell ⟨b, 6, none⟩ (.int .i64 r)).setCell ⟨b, 10, none⟩ (.map (some w.heap.size))).heap.size := by
    intro x hx
    have hs : ((W3.setCell ⟨b, 6, none⟩ (.int .i64 r)).setCell ⟨b, 10, none⟩ (.map (some w.heap.size))).heap.size = W3.heap.size := by simp [World.setCell]
    have h3 := blk_lt HG3.out
    rw [hs]
    simp only [List.mem_cons, List.not_mem_nil, or_false] at hx
    rcases hx with rfl | rfl | rfl <;> omega
  have hN : NodeX ((W3.setCell ⟨b, 6, none⟩ (.int .i64 r)).setCell ⟨b, 10, none⟩ (.map (some w.heap.size))) b (S.alone r) [b, w.heap.size, w.heap.size + 1] w.heap.size es' ck' (.slice (some ⟨w.heap.size + 1, 0, none⟩) 1 1) (.slice none 0 0) := by
    obtain ⟨a1, a2, a3⟩ := HM.out
    refine ⟨blk_set (blk_set (HX.out.below hb3).blk 6 _) 10 _, (HX.out.vs.more hL).keep k', (HX.out.ls.more hL).keep k', HX.out.vl, HX.out.ll, blk_far (blk_far HM3.out (show w.heap.size ≠ b by omega) _) (show w.heap.size ≠ b by omega) _, a1, by rw [a2]; rfl, ?_, ?_, own_nil _ _, (apart_nil _).symm, List.mem_cons_self, List.mem_cons_of_mem _ List.mem_cons_self, (show (1 : Nat) ≤ 1000 by omega), (show (0 : Nat) ≤ 1000 by omega), hlo⟩
    · have := a3
      simp only [Bool.not_true] at this
      rw [this]
      rfl
    · refine ⟨⟨by simp [Nd.alone], .inr ⟨w.heap.size + 1, 1, #[.int .i64 S.id], rfl, Nat.zero_le _, blk_far (blk_far HG3.out (show w.heap.size + 1 ≠ b by omega) _) (show w.heap.size + 1 ≠ b by omega) _, ?_, ?_, ?_, ?_⟩⟩, ?_⟩
      · exact Nat.le_refl _
      · unfold maxLen; omega
      · rfl
      · simp [Nd.alone]
      intro g hg
      have : w.heap.size + 1 = g := by simpa [Value.ownBlock] using hg
      subst this
      simp
  have HN := Lib.hid hN
  have HK := Lib.hid (And.intro (k.up HX.out.inb) hL)
  clear k k' hL hN hb3 hmu hlt hlo
  obtain ⟨w5, hw5⟩ : ∃ w5, w5 = ((W3.setCell ⟨b, 6, none⟩ (.int .i64 r)).setCell ⟨b, 10, none⟩ (.map (some w.heap.size))) := ⟨_, rfl⟩
  rw [← hw5] at HN HK ⊢
  clear hw5 c0 c1 c2 c3 c4 c5 c6 c7 c8 c9 c10 fz
  have hcB : ∀ (i : Nat) (W' : World), Below w5.heap.size w5 W' → W'.cell? ⟨b, i, none⟩ = (nodeC (S.alone r) w.heap.size)[i]? := fun i W' h => (HN.out.below h).cell i
  have r0 := hcB 0
  have r1 := hcB 1
  have r2 := hcB 2
  have r3 := hcB 3
  have r4 := hcB 4
  have r5 := hcB 5
  have r6 := hcB 6
  have r7 := hcB 7
  have r8 := hcB 8
  have r9 := hcB 9
  have r10 := hcB 10
  have rz : ∀ (i : Nat) (W' : World), Below w5.heap.size w5 W' → W'.frozen? ⟨b, i, none⟩ = false := fun i W' h => (HN.out.below h).frozen i
  simp only [nodeC, List.getElem?_toArray, List.getElem?_cons_zero, List.getElem?_cons_succ] at r0 r1 r2 r3 r4 r5 r6 r7 r8 r9 r10
  clear hcB
  have rl := fun W' (h : Below w5.heap.size w5 W') => HN.out.lookT h
  have hb := Below.refl w5.heap.size w5
  refine wp_region_in (Below w5.heap.size w5) (fun i => i == 9) (by kernel_rfl) (by kernel_rfl) (by exact hb.drew) ?_
  intro hne hx
  replace hb := hb.drew
  refine stg_seg 9 (by dsimp only [List.take]) (by dsimp only [List.drop]) (by rfl) ?_
  repeat (go_big_quiet_step (fail))
  refine wpQuiet_nil ?_
  refine stg_loud (by rfl) ?_
  go_wp2_with fail
  obtain ⟨ga, gc, ge, hgs, _, _⟩ := (HN.out.below hb).yes.gs
  refine (qwins_at S.va S.la S.vs S.ls S.vc S.lc (some ⟨w.heap.size + 1, 0, none⟩) [S.id] 1 _ (HN.out.below hb).vs.at_ (HN.out.below hb).ls.at_ HN.out.vl HN.out.ll (by injection ge with e1 e2 e3; rw [e1]; exact hgs) (by unfold maxLen; simp)).mono ?_; rintro e w6 ⟨rfl, hb2⟩
  replace hb := bl_trans hb hb2
  clear hb2 hgs ge
  go_wp2_with fail
  refine lq_in rfl (hb) ?_
  refine stg_seg 1 (by dsimp only [List.take]) (by dsimp only [List.drop]) (by rfl) ?_
  repeat (go_big_quiet_step (fail))
  refine wpQuiet_nil ?_
  refine stg_nil ?_
  clear hne hx
  go_wp2_with fail
  go_ret
  exact ⟨rfl, _, ⟨_, _, _, _, _, HN.out.below hb⟩, HK.out.1.below hb, HK.out.2⟩
end Go.Proofs.Ytiamfdnllpiikaa
