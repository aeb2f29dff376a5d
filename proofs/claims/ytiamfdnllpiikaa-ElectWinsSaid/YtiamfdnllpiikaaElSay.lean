/- elect: say. Conditions: none. -/
import Derived.Test.YtiamfdnllpiikaaElSaid
namespace Go.Proofs.Ytiamfdnllpiikaa
open Go.RowKit

/-- What 'say' answers. -/
def Nd.outc (S : Nd) : Int := if S.win = true then 1 else if S.lost = true then 2 else 0

/-- The second half: who has won. -/
def SayEnd (w0 : World) (b : Nat) (S' : Nd) (L : List Nat) (e : Ending) (w' : World) : Prop := e = .returned (.int .i64 S'.outc) ∧ Moves w0 b S' L w'


theorem Try.infoInt : (Try.prog.info? 3).map (fun i => (i.zero, i.size, i.bytes)) = some (some (.int .i64 0), 1, 8) := by kernel_rfl
set_option maxRecDepth 100000 in
set_option maxHeartbeats 2000000 in
theorem say_at {b : Nat} {S : Nd} {L : List Nat} {w : World} (h : NodeAt w b S L) (hy9 : S.yes.length < 1000) (hn9 : S.no.length < 1000) (src : Int) (y : Bool) :
    Calls Try.prog 40 #[.pointer (some ⟨b, 0, none⟩), .int .i64 src, .bool y] w fun e w' => SayEnd w b (S.says src y) L e w' := by
  have HH := Lib.hid h
  obtain ⟨m, es, clock, yv, nv, hx⟩ := h
  have HX := Lib.hid hx
  obtain ⟨ya, yc, hye, hyg, hyc, hym⟩ := hx.yes.gs
  obtain ⟨na, nc, hne', hng, hnc, hnm⟩ := hx.no.gs
  have hA1 := contains_at ya S.yes yc src w hyg (by unfold maxLen; omega)
  have hA2 := contains_at na S.no nc src w hng (by unfold maxLen; omega)
  rw [← hye] at hA1
  rw [← hne'] at hA2
  have hb := Below.refl w.heap.size w
  have c0 := hx.cell 0
  have c1 := hx.cell 1
  have c2 := hx.cell 2
  have c3 := hx.cell 3
  have c4 := hx.cell 4
  have c5 := hx.cell 5
  have c6 := hx.cell 6
  have c7 := hx.cell 7
  have c8 := hx.cell 8
  have c9 := hx.cell 9
  have c10 := hx.cell 10
  have fz := hx.frozen
  simp only [nodeC, List.getElem?_toArray, List.getElem?_cons_zero, List.getElem?_cons_succ] at c0 c1 c2 c3 c4 c5 c6 c7 c8 c9 c10
  have rlt := hx.lookT hb
  have rlf := hx.lookF hb
  clear hx hye hne'
  by_cases h1 : src ∈ S.yes
  · have h2 : src ∈ S.yes := h1
    rw [decide_eq_true h1] at hA1
    go_enter Try.func40, Try.ntmps40
    go_wp2_with fail
    refine hA1.mono ?_; rintro e w1 ⟨rfl, rfl⟩
    go_wp2_with fail
    have HN := HH
    have HC := Lib.hid (Chg.refl L w)
    have HL := Lib.hid (fun (x : Nat) (hx : x ∈ L) => (.inl hx : x ∈ L ∨ w.heap.size ≤ x))
    have HS := Lib.hid (show S = S.says src y by unfold Nd.says; simp [h1, h2])
    clear hb rlt rlf c0 c1 c2 c3 c4 c5 c6 c7 c8 c9 c10 fz
    obtain ⟨S', hS'⟩ : ∃ S', S' = S := ⟨_, rfl⟩
    rw [← hS'] at HN
    have HS' := Lib.hid (hS'.trans HS.out)
    clear hS'
    obtain ⟨m', es1, clock1, yv1, nv1, hx⟩ := HN.out
    have HX1 := Lib.hid hx
    obtain ⟨ya1, yc1, hye1, hyg1, _, _⟩ := hx.yes.gs
    obtain ⟨na1, nc1, hne1, hng1, _, _⟩ := hx.no.gs
    have HWI := Lib.hid (fun (W : World) (h : Below w.heap.size w W) => qwins_at S'.va S'.la S'.vs S'.ls S'.vc S'.lc ya1 S'.yes yc1 W (hx.below h).vs.at_ (hx.below h).ls.at_ hx.vl hx.ll (hyg1.keep h) (by have := hx.yl; unfold maxLen; omega))
    have HLO := Lib.hid (fun (W : World) (h : Below w.heap.size w W) => qlost_at S'.va S'.la S'.vs S'.ls S'.vc S'.lc na1 S'.no nc1 W (hx.below h).vs.at_ (hx.below h).ls.at_ hx.vl hx.ll (hng1.keep h) (by have := hx.nl; unfold maxLen; omega))
    rw [← hye1] at HWI
    rw [← hne1] at HLO
    clear hye1 hne1 hyg1 hng1
    have hcB : ∀ (i : Nat) (W' : World), Below w.heap.size w W' → W'.cell? ⟨b, i, none⟩ = (nodeC (S') m')[i]? := fun i W' h => (hx.below h).cell i
    have r0 := hcB 0
    have r1 := hcB 1
    have r2 := hcB 2
    have r3 := hcB 3
    have r4 := hcB 4
    have r5 := hcB 5
    have r6 := hcB 6
    have r7 := hcB 7
    have r8 := hcB 8
    have r9 := hcB 9
    have r10 := hcB 10
    have rz : ∀ (i : Nat) (W' : World), Below w.heap.size w W' → W'.frozen? ⟨b, i, none⟩ = false := fun i W' h => (hx.below h).frozen i
    simp only [nodeC, List.getElem?_toArray, List.getElem?_cons_zero, List.getElem?_cons_succ] at r0 r1 r2 r3 r4 r5 r6 r7 r8 r9 r10
    clear hcB
    have rlt := fun W' (h : Below w.heap.size w W') => hx.lookT h
    have rlf := fun W' (h : Below w.heap.size w W') => hx.lookF h
    clear hx
    have hb := Below.refl w.heap.size w
    refine wp_region_in (Below w.heap.size w) (fun i => i == 9) (by kernel_rfl) (by kernel_rfl) (by exact hb.drew) ?_
    intro hne hx
    replace hb := hb.drew
    refine stg_seg 9 (by dsimp only [List.take]) (by dsimp only [List.drop]) (by rfl) ?_
    repeat (go_big_quiet_step (fail))
    refine wpQuiet_nil ?_
    refine stg_loud (by rfl) ?_
    go_wp2_with fail
    refine (HWI.out _ hb).mono ?_; rintro e w5 ⟨rfl, hb2⟩
    replace hb := bl_trans hb hb2; clear hb2
    go_wp2_with fail
    refine lq_in rfl (hb) ?_
    refine stg_seg 1 (by dsimp only [List.take]) (by dsimp only [List.drop]) (by rfl) ?_
    repeat (go_big_quiet_step (fail))
    refine wpQuiet_nil ?_
    refine stg_nil ?_
    clear hne hx
    by_cases hwin : winsB S'.vs S'.ls S'.yes = true
    · have HO := Lib.hid (show S'.outc = 1 by unfold Nd.outc Nd.win; rw [if_pos hwin])
      rw [hwin]
      go_wp2_with fail
      go_ret
      refine ⟨?_, ?_⟩
      · rw [← HS'.out, HO.out]; rfl
      · rw [← HS'.out]; exact ⟨_, HN.out.below hb, HC.out.below hb, HL.out⟩
    rw [eq_false_of_ne_true hwin]
    go_wp2_with fail
    refine wp_region_in (Below w.heap.size w) (fun i => i == 9) (by kernel_rfl) (by kernel_rfl) (by exact hb.drew) ?_
    intro hne hx
    replace hb := hb.drew
    refine stg_seg 9 (by dsimp only [List.take]) (by dsimp only [List.drop]) (by rfl) ?_
    repeat (go_big_quiet_step (fail))
    refine wpQuiet_nil ?_
    refine stg_loud (by rfl) ?_
    go_wp2_with fail
    refine (HLO.out _ hb).mono ?_; rintro e w6 ⟨rfl, hb2⟩
    replace hb := bl_trans hb hb2; clear hb2
    go_wp2_with fail
    refine lq_in rfl (hb) ?_
    refine stg_seg 1 (by dsimp only [List.take]) (by dsimp only [List.drop]) (by rfl) ?_
    repeat (go_big_quiet_step (fail))
    refine wpQuiet_nil ?_
    refine stg_nil ?_
    clear hne hx
    by_cases hlo : lostB S'.vs S'.ls S'.no = true
    · have HO := Lib.hid (show S'.outc = 2 by unfold Nd.outc Nd.win Nd.lost; rw [if_neg hwin, if_pos hlo])
      rw [hlo]
      go_wp2_with fail
      go_ret
      refine ⟨?_, ?_⟩
      · rw [← HS'.out, HO.out]; rfl
      · rw [← HS'.out]; exact ⟨_, HN.out.below hb, HC.out.below hb, HL.out⟩
    · have HO := Lib.hid (show S'.outc = 0 by unfold Nd.outc Nd.win Nd.lost; rw [if_neg hwin, if_neg hlo])
      rw [eq_false_of_ne_true hlo]
      go_wp2_with fail
      go_ret
      refine ⟨?_, ?_⟩
      · rw [← HS'.out, HO.out]; rfl
      · rw [← HS'.out]; exact ⟨_, HN.out.below hb, HC.out.below hb, HL.out⟩
  by_cases h2 : src ∈ S.no
  · rw [decide_eq_false h1] at hA1
    rw [decide_eq_true h2] at hA2
    go_enter Try.func40, Try.ntmps40
    go_wp2_with fail
    refine hA1.mono ?_; rintro e w1 ⟨rfl, rfl⟩
    go_wp2_with fail
    refine hA2.mono ?_; rintro e w1 ⟨rfl, rfl⟩
    go_wp2_with fail
    have HN := HH
    have HC := Lib.hid (Chg.refl L w)
    have HL := Lib.hid (fun (x : Nat) (hx : x ∈ L) => (.inl hx : x ∈ L ∨ w.heap.size ≤ x))
    have HS := Lib.hid (show S = S.says src y by unfold Nd.says; simp [h1, h2])
    clear hb rlt rlf c0 c1 c2 c3 c4 c5 c6 c7 c8 c9 c10 fz
    obtain ⟨S', hS'⟩ : ∃ S', S' = S := ⟨_, rfl⟩
    rw [← hS'] at HN
    have HS' := Lib.hid (hS'.trans HS.out)
    clear hS'
    obtain ⟨m', es1, clock1, yv1, nv1, hx⟩ := HN.out
    have HX1 := Lib.hid hx
    obtain ⟨ya1, yc1, hye1, hyg1, _, _⟩ := hx.yes.gs
    obtain ⟨na1, nc1, hne1, hng1, _, _⟩ := hx.no.gs
    have HWI := Lib.hid (fun (W : World) (h : Below w.heap.size w W) => qwins_at S'.va S'.la S'.vs S'.ls S'.vc S'.lc ya1 S'.yes yc1 W (hx.below h).vs.at_ (hx.below h).ls.at_ hx.vl hx.ll (hyg1.keep h) (by have := hx.yl; unfold maxLen; omega))
    have HLO := Lib.hid (fun (W : World) (h : Below w.heap.size w W) => qlost_at S'.va S'.la S'.vs S'.ls S'.vc S'.lc na1 S'.no nc1 W (hx.below h).vs.at_ (hx.below h).ls.at_ hx.vl hx.ll (hng1.keep h) (by have := hx.nl; unfold maxLen; omega))
    rw [← hye1] at HWI
    rw [← hne1] at HLO
    clear hye1 hne1 hyg1 hng1
    have hcB : ∀ (i : Nat) (W' : World), Below w.heap.size w W' → W'.cell? ⟨b, i, none⟩ = (nodeC (S') m')[i]? := fun i W' h => (hx.below h).cell i
    have r0 := hcB 0
    have r1 := hcB 1
    have r2 := hcB 2
    have r3 := hcB 3
    have r4 := hcB 4
    have r5 := hcB 5
    have r6 := hcB 6
    have r7 := hcB 7
    have r8 := hcB 8
    have r9 := hcB 9
    have r10 := hcB 10
    have rz : ∀ (i : Nat) (W' : World), Below w.heap.size w W' → W'.frozen? ⟨b, i, none⟩ = false := fun i W' h => (hx.below h).frozen i
    simp only [nodeC, List.getElem?_toArray, List.getElem?_cons_zero, List.getElem?_cons_succ] at r0 r1 r2 r3 r4 r5 r6 r7 r8 r9 r10
    clear hcB
    have rlt := fun W' (h : Below w.heap.size w W') => hx.lookT h
    have rlf := fun W' (h : Below w.heap.size w W') => hx.lookF h
    clear hx
    have hb := Below.refl w.heap.size w
    refine wp_region_in (Below w.heap.size w) (fun i => i == 9) (by kernel_rfl) (by kernel_rfl) (by exact hb.drew) ?_
    intro hne hx
    replace hb := hb.drew
    refine stg_seg 9 (by dsimp only [List.take]) (by dsimp only [List.drop]) (by rfl) ?_
    repeat (go_big_quiet_step (fail))
    refine wpQuiet_nil ?_
    refine stg_loud (by rfl) ?_
    go_wp2_with fail
    refine (HWI.out _ hb).mono ?_; rintro e w5 ⟨rfl, hb2⟩
    replace hb := bl_trans hb hb2; clear hb2
    go_wp2_with fail
    refine lq_in rfl (hb) ?_
    refine stg_seg 1 (by dsimp only [List.take]) (by dsimp only [List.drop]) (by rfl) ?_
    repeat (go_big_quiet_step (fail))
    refine wpQuiet_nil ?_
    refine stg_nil ?_
    clear hne hx
    by_cases hwin : winsB S'.vs S'.ls S'.yes = true
    · have HO := Lib.hid (show S'.outc = 1 by unfold Nd.outc Nd.win; rw [if_pos hwin])
      rw [hwin]
      go_wp2_with fail
      go_ret
      refine ⟨?_, ?_⟩
      · rw [← HS'.out, HO.out]; rfl
      · rw [← HS'.out]; exact ⟨_, HN.out.below hb, HC.out.below hb, HL.out⟩
    rw [eq_false_of_ne_true hwin]
    go_wp2_with fail
    refine wp_region_in (Below w.heap.size w) (fun i => i == 9) (by kernel_rfl) (by kernel_rfl) (by exact hb.drew) ?_
    intro hne hx
    replace hb := hb.drew
    refine stg_seg 9 (by dsimp only [List.take]) (by dsimp only [List.drop]) (by rfl) ?_
    repeat (go_big_quiet_step (fail))
    refine wpQuiet_nil ?_
    refine stg_loud (by rfl) ?_
    go_wp2_with fail
    refine (HLO.out _ hb).mono ?_; rintro e w6 ⟨rfl, hb2⟩
    replace hb := bl_trans hb hb2; clear hb2
    go_wp2_with fail
    refine lq_in rfl (hb) ?_
    refine stg_seg 1 (by dsimp only [List.take]) (by dsimp only [List.drop]) (by rfl) ?_
    repeat (go_big_quiet_step (fail))
    refine wpQuiet_nil ?_
    refine stg_nil ?_
    clear hne hx
    by_cases hlo : lostB S'.vs S'.ls S'.no = true
    · have HO := Lib.hid (show S'.outc = 2 by unfold Nd.outc Nd.win Nd.lost; rw [if_neg hwin, if_pos hlo])
      rw [hlo]
      go_wp2_with fail
      go_ret
      refine ⟨?_, ?_⟩
      · rw [← HS'.out, HO.out]; rfl
      · rw [← HS'.out]; exact ⟨_, HN.out.below hb, HC.out.below hb, HL.out⟩
    · have HO := Lib.hid (show S'.outc = 0 by unfold Nd.outc Nd.win Nd.lost; rw [if_neg hwin, if_neg hlo])
      rw [eq_false_of_ne_true hlo]
      go_wp2_with fail
      go_ret
      refine ⟨?_, ?_⟩
      · rw [← HS'.out, HO.out]; rfl
      · rw [← HS'.out]; exact ⟨_, HN.out.below hb, HC.out.below hb, HL.out⟩
  rw [decide_eq_false h1] at hA1
  rw [decide_eq_false h2] at hA2
  cases y with
  | true =>
    go_enter Try.func40, Try.ntmps40
    go_wp2_with fail
    refine hA1.mono ?_; rintro e w1 ⟨rfl, rfl⟩
    go_wp2_with fail
    refine hA2.mono ?_; rintro e w1 ⟨rfl, rfl⟩
    go_wp2_with fail
    have hl0 : ∀ W : World, (W.cell? ⟨b, 10, none⟩ = some (.map (some m)) ∧ W.heap[m]? = some (.map es clock)) → (Instr.lookup 72 (.map (some m)) (.bool true) false).run Try.prog W = .ok yv W := fun W h => by
      rw [run_lookB Try.underlying72 Try.underlying4 (zeroInts W) h.2 HX.out.keys, HX.out.gy]
    refine wp_region_last 14 (fun W => W.cell? ⟨b, 10, none⟩ = some (.map (some m)) ∧ W.heap[m]? = some (.map es clock)) (fun i => i == 12 || i == 13) (by kernel_rfl) (by rfl) (by kernel_rfl) (by kernel_rfl) (by exact ⟨c10, HX.out.map⟩) ?_
    simp only [List.take_succ_cons, List.take_zero]
    intro hne hx
    have rc10 : ∀ W : World, (W.cell? ⟨b, 10, none⟩ = some (.map (some m)) ∧ W.heap[m]? = some (.map es clock)) → W.cell? ⟨b, 10, none⟩ = some (.map (some m)) := fun W h => h.1
    change wpStg _ _ _ _ _ _ _ _ w.drew
    have HX0 := Lib.hid (HX.out.below hb.drew)
    have HK0 := Lib.hid (Chg.of_below (L := L) hb.drew)
    obtain ⟨W0, hW0⟩ : ∃ W0, W0 = w.drew := ⟨_, rfl⟩
    have d10 : W0.cell? ⟨b, 10, none⟩ = some (.map (some m)) := by rw [hW0]; exact c10
    rw [← hW0] at HX0 HK0 ⊢
    clear hW0 c0 c1 c2 c3 c4 c5 c6 c7 c8 c9 c10 fz rlt rlf
    refine stg_seg 12 (by dsimp only [List.take]) (by dsimp only [List.drop]) (by rfl) ?_
    repeat (go_big_quiet_step (fail))
    refine wpQuiet_nil ?_
    refine stg_loud (by rfl) ?_
    go_wp2_with fail
    refine lq_in rfl (⟨blk_cell (blk_alloc HX0.out.blk _) 10, blk_alloc HX0.out.map _⟩) ?_
    refine stg_loud (by rfl) ?_
    go_wp2_with (at_builtin; go_loud (refine wpList_appm rfl _ _ 29 rfl 0 3 Try.underlying29 Try.infoInt rfl (by decide) rfl HX0.out.yes.1 rfl [.int .i64 src] rfl (by simp [Value.oneCell']) (by unfold maxLen; omega) (by omega) (Nat.zero_le _) ?_); intro v1 w4 hown1 hgrow hat1; replace hgrow : W0.grownBy w4 yv.ownBlock := hgrow; replace hat1 : v1.ownBlock = yv.ownBlock ∨ ∃ g, v1.ownBlock = some g ∧ W0.heap.size ≤ g := hat1)
    have hfar : ∀ {g : Nat} {o : Obj}, W0.heap[g]? = some o → yv.ownBlock ≠ some g → w4.heap[g]? = some o := fun {g o} h hn => (hgrow.block g (blk_lt h) (Ne.symm hn)).trans h
    have hmw := hfar HX0.out.map (fun e => (HX0.out.own_ne HX0.out.yes e).2 rfl)
    have hbw := hfar HX0.out.blk (fun e => (HX0.out.own_ne HX0.out.yes e).1 rfl)
    refine lq_in rfl (⟨blk_cell hbw 10, hmw⟩) ?_
    refine stg_nil ?_
    clear hne hx
    intro _ hxx
    clear hxx
    obtain ⟨es', ck', hmu, hk', ht', hf'⟩ := run_putB (P := Try.prog) (T := 72) (b := true) (v := v1) Try.underlying72 Try.underlying4 hmw HX0.out.keys
    obtain ⟨hN, hC, hL⟩ := HX0.out.said true src (v' := v1) (es' := es') (ck' := ck') hgrow (by rw [List.map_append]; exact hown1) hat1 hk' ht' hf' hy9
    have HN := Lib.hid hN
    obtain ⟨hC, hL⟩ := Moves.trans HK0.out (fun x hx => .inl hx) hC hL
    have HC := Lib.hid hC
    have HL := Lib.hid hL
    have HS := Lib.hid (show S.more true src = S.says src true by unfold Nd.says Nd.more; simp [h1, h2])
    clear hN hC hL hk' ht' hf' hmw hbw hfar hgrow hat1 hown1 hb
    go_wp2_with fail
    clear hmu hl0 rc10 d10
    obtain ⟨W1, hW1⟩ : ∃ W1, W1 = (putObj w4 m (.map es' ck')) := ⟨_, rfl⟩
    rw [← hW1] at HN HC ⊢
    clear hW1
    obtain ⟨S', hS'⟩ : ∃ S', S' = S.more true src := ⟨_, rfl⟩
    rw [← hS'] at HN
    have HS' := Lib.hid (hS'.trans HS.out)
    clear hS'
    obtain ⟨m', es1, clock1, yv1, nv1, hx⟩ := HN.out
    have HX1 := Lib.hid hx
    obtain ⟨ya1, yc1, hye1, hyg1, _, _⟩ := hx.yes.gs
    obtain ⟨na1, nc1, hne1, hng1, _, _⟩ := hx.no.gs
    have HWI := Lib.hid (fun (W : World) (h : Below W1.heap.size W1 W) => qwins_at S'.va S'.la S'.vs S'.ls S'.vc S'.lc ya1 S'.yes yc1 W (hx.below h).vs.at_ (hx.below h).ls.at_ hx.vl hx.ll (hyg1.keep h) (by have := hx.yl; unfold maxLen; omega))
    have HLO := Lib.hid (fun (W : World) (h : Below W1.heap.size W1 W) => qlost_at S'.va S'.la S'.vs S'.ls S'.vc S'.lc na1 S'.no nc1 W (hx.below h).vs.at_ (hx.below h).ls.at_ hx.vl hx.ll (hng1.keep h) (by have := hx.nl; unfold maxLen; omega))
    rw [← hye1] at HWI
    rw [← hne1] at HLO
    clear hye1 hne1 hyg1 hng1
    have hcB : ∀ (i : Nat) (W' : World), Below W1.heap.size W1 W' → W'.cell? ⟨b, i, none⟩ = (nodeC (S') m')[i]? := fun i W' h => (hx.below h).cell i
    have r0 := hcB 0
    have r1 := hcB 1
    have r2 := hcB 2
    have r3 := hcB 3
    have r4 := hcB 4
    have r5 := hcB 5
    have r6 := hcB 6
    have r7 := hcB 7
    have r8 := hcB 8
    have r9 := hcB 9
    have r10 := hcB 10
    have rz : ∀ (i : Nat) (W' : World), Below W1.heap.size W1 W' → W'.frozen? ⟨b, i, none⟩ = false := fun i W' h => (hx.below h).frozen i
    simp only [nodeC, List.getElem?_toArray, List.getElem?_cons_zero, List.getElem?_cons_succ] at r0 r1 r2 r3 r4 r5 r6 r7 r8 r9 r10
    clear hcB
    have rlt := fun W' (h : Below W1.heap.size W1 W') => hx.lookT h
    have rlf := fun W' (h : Below W1.heap.size W1 W') => hx.lookF h
    clear hx
    have hb := Below.refl W1.heap.size W1
    refine wp_region_in (Below W1.heap.size W1) (fun i => i == 9) (by kernel_rfl) (by kernel_rfl) (by exact hb.drew) ?_
    intro hne hx
    replace hb := hb.drew
    refine stg_seg 9 (by dsimp only [List.take]) (by dsimp only [List.drop]) (by rfl) ?_
    repeat (go_big_quiet_step (fail))
    refine wpQuiet_nil ?_
    refine stg_loud (by rfl) ?_
    go_wp2_with fail
    refine (HWI.out _ hb).mono ?_; rintro e w5 ⟨rfl, hb2⟩
    replace hb := bl_trans hb hb2; clear hb2
    go_wp2_with fail
    refine lq_in rfl (hb) ?_
    refine stg_seg 1 (by dsimp only [List.take]) (by dsimp only [List.drop]) (by rfl) ?_
    repeat (go_big_quiet_step (fail))
    refine wpQuiet_nil ?_
    refine stg_nil ?_
    clear hne hx
    by_cases hwin : winsB S'.vs S'.ls S'.yes = true
    · have HO := Lib.hid (show S'.outc = 1 by unfold Nd.outc Nd.win; rw [if_pos hwin])
      rw [hwin]
      go_wp2_with fail
      go_ret
      refine ⟨?_, ?_⟩
      · rw [← HS'.out, HO.out]; rfl
      · rw [← HS'.out]; exact ⟨_, HN.out.below hb, HC.out.below hb, HL.out⟩
    rw [eq_false_of_ne_true hwin]
    go_wp2_with fail
    refine wp_region_in (Below W1.heap.size W1) (fun i => i == 9) (by kernel_rfl) (by kernel_rfl) (by exact hb.drew) ?_
    intro hne hx
    replace hb := hb.drew
    refine stg_seg 9 (by dsimp only [List.take]) (by dsimp only [List.drop]) (by rfl) ?_
    repeat (go_big_quiet_step (fail))
    refine wpQuiet_nil ?_
    refine stg_loud (by rfl) ?_
    go_wp2_with fail
    refine (HLO.out _ hb).mono ?_; rintro e w6 ⟨rfl, hb2⟩
    replace hb := bl_trans hb hb2; clear hb2
    go_wp2_with fail
    refine lq_in rfl (hb) ?_
    refine stg_seg 1 (by dsimp only [List.take]) (by dsimp only [List.drop]) (by rfl) ?_
    repeat (go_big_quiet_step (fail))
    refine wpQuiet_nil ?_
    refine stg_nil ?_
    clear hne hx
    by_cases hlo : lostB S'.vs S'.ls S'.no = true
    · have HO := Lib.hid (show S'.outc = 2 by unfold Nd.outc Nd.win Nd.lost; rw [if_neg hwin, if_pos hlo])
      rw [hlo]
      go_wp2_with fail
      go_ret
      refine ⟨?_, ?_⟩
      · rw [← HS'.out, HO.out]; rfl
      · rw [← HS'.out]; exact ⟨_, HN.out.below hb, HC.out.below hb, HL.out⟩
    · have HO := Lib.hid (show S'.outc = 0 by unfold Nd.outc Nd.win Nd.lost; rw [if_neg hwin, if_neg hlo])
      rw [eq_false_of_ne_true hlo]
      go_wp2_with fail
      go_ret
      refine ⟨?_, ?_⟩
      · rw [← HS'.out, HO.out]; rfl
      · rw [← HS'.out]; exact ⟨_, HN.out.below hb, HC.out.below hb, HL.out⟩
  | false =>
    go_enter Try.func40, Try.ntmps40
    go_wp2_with fail
    refine hA1.mono ?_; rintro e w1 ⟨rfl, rfl⟩
    go_wp2_with fail
    refine hA2.mono ?_; rintro e w1 ⟨rfl, rfl⟩
    go_wp2_with fail
    have hl0 : ∀ W : World, (W.cell? ⟨b, 10, none⟩ = some (.map (some m)) ∧ W.heap[m]? = some (.map es clock)) → (Instr.lookup 72 (.map (some m)) (.bool false) false).run Try.prog W = .ok nv W := fun W h => by
      rw [run_lookB Try.underlying72 Try.underlying4 (zeroInts W) h.2 HX.out.keys, HX.out.gn]
    refine wp_region_last 14 (fun W => W.cell? ⟨b, 10, none⟩ = some (.map (some m)) ∧ W.heap[m]? = some (.map es clock)) (fun i => i == 12 || i == 13) (by kernel_rfl) (by rfl) (by kernel_rfl) (by kernel_rfl) (by exact ⟨c10, HX.out.map⟩) ?_
    simp only [List.take_succ_cons, List.take_zero]
    intro hne hx
    have rc10 : ∀ W : World, (W.cell? ⟨b, 10, none⟩ = some (.map (some m)) ∧ W.heap[m]? = some (.map es clock)) → W.cell? ⟨b, 10, none⟩ = some (.map (some m)) := fun W h => h.1
    change wpStg _ _ _ _ _ _ _ _ w.drew
    have HX0 := Lib.hid (HX.out.below hb.drew)
    have HK0 := Lib.hid (Chg.of_below (L := L) hb.drew)
    obtain ⟨W0, hW0⟩ : ∃ W0, W0 = w.drew := ⟨_, rfl⟩
    have d10 : W0.cell? ⟨b, 10, none⟩ = some (.map (some m)) := by rw [hW0]; exact c10
    rw [← hW0] at HX0 HK0 ⊢
    clear hW0 c0 c1 c2 c3 c4 c5 c6 c7 c8 c9 c10 fz rlt rlf
    refine stg_seg 12 (by dsimp only [List.take]) (by dsimp only [List.drop]) (by rfl) ?_
    repeat (go_big_quiet_step (fail))
    refine wpQuiet_nil ?_
    refine stg_loud (by rfl) ?_
    go_wp2_with fail
    refine lq_in rfl (⟨blk_cell (blk_alloc HX0.out.blk _) 10, blk_alloc HX0.out.map _⟩) ?_
    refine stg_loud (by rfl) ?_
    go_wp2_with (at_builtin; go_loud (refine wpList_appm rfl _ _ 29 rfl 0 3 Try.underlying29 Try.infoInt rfl (by decide) rfl HX0.out.no.1 rfl [.int .i64 src] rfl (by simp [Value.oneCell']) (by unfold maxLen; omega) (by omega) (Nat.zero_le _) ?_); intro v1 w4 hown1 hgrow hat1; replace hgrow : W0.grownBy w4 nv.ownBlock := hgrow; replace hat1 : v1.ownBlock = nv.ownBlock ∨ ∃ g, v1.ownBlock = some g ∧ W0.heap.size ≤ g := hat1)
    have hfar : ∀ {g : Nat} {o : Obj}, W0.heap[g]? = some o → nv.ownBlock ≠ some g → w4.heap[g]? = some o := fun {g o} h hn => (hgrow.block g (blk_lt h) (Ne.symm hn)).trans h
    have hmw := hfar HX0.out.map (fun e => (HX0.out.own_ne HX0.out.no e).2 rfl)
    have hbw := hfar HX0.out.blk (fun e => (HX0.out.own_ne HX0.out.no e).1 rfl)
    refine lq_in rfl (⟨blk_cell hbw 10, hmw⟩) ?_
    refine stg_nil ?_
    clear hne hx
    intro _ hxx
    clear hxx
    obtain ⟨es', ck', hmu, hk', ht', hf'⟩ := run_putB (P := Try.prog) (T := 72) (b := false) (v := v1) Try.underlying72 Try.underlying4 hmw HX0.out.keys
    obtain ⟨hN, hC, hL⟩ := HX0.out.said false src (v' := v1) (es' := es') (ck' := ck') hgrow (by rw [List.map_append]; exact hown1) hat1 hk' ht' hf' hn9
    have HN := Lib.hid hN
    obtain ⟨hC, hL⟩ := Moves.trans HK0.out (fun x hx => .inl hx) hC hL
    have HC := Lib.hid hC
    have HL := Lib.hid hL
    have HS := Lib.hid (show S.more false src = S.says src false by unfold Nd.says Nd.more; simp [h1, h2])
    clear hN hC hL hk' ht' hf' hmw hbw hfar hgrow hat1 hown1 hb
    go_wp2_with fail
    clear hmu hl0 rc10 d10
    obtain ⟨W1, hW1⟩ : ∃ W1, W1 = (putObj w4 m (.map es' ck')) := ⟨_, rfl⟩
    rw [← hW1] at HN HC ⊢
    clear hW1
    obtain ⟨S', hS'⟩ : ∃ S', S' = S.more false src := ⟨_, rfl⟩
    rw [← hS'] at HN
    have HS' := Lib.hid (hS'.trans HS.out)
    clear hS'
    obtain ⟨m', es1, clock1, yv1, nv1, hx⟩ := HN.out
    have HX1 := Lib.hid hx
    obtain ⟨ya1, yc1, hye1, hyg1, _, _⟩ := hx.yes.gs
    obtain ⟨na1, nc1, hne1, hng1, _, _⟩ := hx.no.gs
    have HWI := Lib.hid (fun (W : World) (h : Below W1.heap.size W1 W) => qwins_at S'.va S'.la S'.vs S'.ls S'.vc S'.lc ya1 S'.yes yc1 W (hx.below h).vs.at_ (hx.below h).ls.at_ hx.vl hx.ll (hyg1.keep h) (by have := hx.yl; unfold maxLen; omega))
    have HLO := Lib.hid (fun (W : World) (h : Below W1.heap.size W1 W) => qlost_at S'.va S'.la S'.vs S'.ls S'.vc S'.lc na1 S'.no nc1 W (hx.below h).vs.at_ (hx.below h).ls.at_ hx.vl hx.ll (hng1.keep h) (by have := hx.nl; unfold maxLen; omega))
    rw [← hye1] at HWI
    rw [← hne1] at HLO
    clear hye1 hne1 hyg1 hng1
    have hcB : ∀ (i : Nat) (W' : World), Below W1.heap.size W1 W' → W'.cell? ⟨b, i, none⟩ = (nodeC (S') m')[i]? := fun i W' h => (hx.below h).cell i
    have r0 := hcB 0
    have r1 := hcB 1
    have r2 := hcB 2
    have r3 := hcB 3
    have r4 := hcB 4
    have r5 := hcB 5
    have r6 := hcB 6
    have r7 := hcB 7
    have r8 := hcB 8
    have r9 := hcB 9
    have r10 := hcB 10
    have rz : ∀ (i : Nat) (W' : World), Below W1.heap.size W1 W' → W'.frozen? ⟨b, i, none⟩ = false := fun i W' h => (hx.below h).frozen i
    simp only [nodeC, List.getElem?_toArray, List.getElem?_cons_zero, List.getElem?_cons_succ] at r0 r1 r2 r3 r4 r5 r6 r7 r8 r9 r10
    clear hcB
    have rlt := fun W' (h : Below W1.heap.size W1 W') => hx.lookT h
    have rlf := fun W' (h : Below W1.heap.size W1 W') => hx.lookF h
    clear hx
    have hb := Below.refl W1.heap.size W1
    refine wp_region_in (Below W1.heap.size W1) (fun i => i == 9) (by kernel_rfl) (by kernel_rfl) (by exact hb.drew) ?_
    intro hne hx
    replace hb := hb.drew
    refine stg_seg 9 (by dsimp only [List.take]) (by dsimp only [List.drop]) (by rfl) ?_
    repeat (go_big_quiet_step (fail))
    refine wpQuiet_nil ?_
    refine stg_loud (by rfl) ?_
    go_wp2_with fail
    refine (HWI.out _ hb).mono ?_; rintro e w5 ⟨rfl, hb2⟩
    replace hb := bl_trans hb hb2; clear hb2
    go_wp2_with fail
    refine lq_in rfl (hb) ?_
    refine stg_seg 1 (by dsimp only [List.take]) (by dsimp only [List.drop]) (by rfl) ?_
    repeat (go_big_quiet_step (fail))
    refine wpQuiet_nil ?_
    refine stg_nil ?_
    clear hne hx
    by_cases hwin : winsB S'.vs S'.ls S'.yes = true
    · have HO := Lib.hid (show S'.outc = 1 by unfold Nd.outc Nd.win; rw [if_pos hwin])
      rw [hwin]
      go_wp2_with fail
      go_ret
      refine ⟨?_, ?_⟩
      · rw [← HS'.out, HO.out]; rfl
      · rw [← HS'.out]; exact ⟨_, HN.out.below hb, HC.out.below hb, HL.out⟩
    rw [eq_false_of_ne_true hwin]
    go_wp2_with fail
    refine wp_region_in (Below W1.heap.size W1) (fun i => i == 9) (by kernel_rfl) (by kernel_rfl) (by exact hb.drew) ?_
    intro hne hx
    replace hb := hb.drew
    refine stg_seg 9 (by dsimp only [List.take]) (by dsimp only [List.drop]) (by rfl) ?_
    repeat (go_big_quiet_step (fail))
    refine wpQuiet_nil ?_
    refine stg_loud (by rfl) ?_
    go_wp2_with fail
    refine (HLO.out _ hb).mono ?_; rintro e w6 ⟨rfl, hb2⟩
    replace hb := bl_trans hb hb2; clear hb2
    go_wp2_with fail
    refine lq_in rfl (hb) ?_
    refine stg_seg 1 (by dsimp only [List.take]) (by dsimp only [List.drop]) (by rfl) ?_
    repeat (go_big_quiet_step (fail))
    refine wpQuiet_nil ?_
    refine stg_nil ?_
    clear hne hx
    by_cases hlo : lostB S'.vs S'.ls S'.no = true
    · have HO := Lib.hid (show S'.outc = 2 by unfold Nd.outc Nd.win Nd.lost; rw [if_neg hwin, if_pos hlo])
      rw [hlo]
      go_wp2_with fail
      go_ret
      refine ⟨?_, ?_⟩
      · rw [← HS'.out, HO.out]; rfl
      · rw [← HS'.out]; exact ⟨_, HN.out.below hb, HC.out.below hb, HL.out⟩
    · have HO := Lib.hid (show S'.outc = 0 by unfold Nd.outc Nd.win Nd.lost; rw [if_neg hwin, if_neg hlo])
      rw [eq_false_of_ne_true hlo]
      go_wp2_with fail
      go_ret
      refine ⟨?_, ?_⟩
      · rw [← HS'.out, HO.out]; rfl
      · rw [← HS'.out]; exact ⟨_, HN.out.below hb, HC.out.below hb, HL.out⟩
end Go.Proofs.Ytiamfdnllpiikaa
