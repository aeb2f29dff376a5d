/- elect: answer, vote, counted. Conditions: none. -/
import Derived.Test.YtiamfdnllpiikaaElSay
namespace Go.Proofs.Ytiamfdnllpiikaa
open Go.RowKit

set_option maxRecDepth 100000 in
set_option maxHeartbeats 2000000 in
theorem answer_at {b : Nat} {S : Nd} {L : List Nat} {w : World} (h : NodeAt w b S L) (x : Bal) (kind term : Int) (y : Bool) :
    Calls Try.prog 37 #[.pointer (some ⟨b, 0, none⟩), .agg #[.int .i64 x.kind, .int .i64 x.src, .int .i64 x.dst, .int .i64 x.term, .int .i64 x.index, .int .i64 x.logTerm, .bool x.yes], .int .i64 kind, .int .i64 term, .bool y] w fun e w' => ∃ v, e = .returned v ∧ Bals w w' v [⟨kind, S.id, x.src, term, 0, 0, y⟩] ∧ Below w.heap.size w w' := by
  obtain ⟨m, es, clock, yv, nv, hx⟩ := h
  have hb0 := bl_alloc (Below.refl w.heap.size w) (.cells #[.int .i64 x.kind, .int .i64 x.src, .int .i64 x.dst, .int .i64 x.term, .int .i64 x.index, .int .i64 x.logTerm, .bool x.yes] 44)
  have hx0 := hx.below hb0
  have hblk := blk_new w (.cells #[.int .i64 x.kind, .int .i64 x.src, .int .i64 x.dst, .int .i64 x.term, .int .i64 x.index, .int .i64 x.logTerm, .bool x.yes] 44) rfl
  obtain ⟨w0, hw0⟩ : ∃ w0, w0 = w.alloc (.cells #[.int .i64 x.kind, .int .i64 x.src, .int .i64 x.dst, .int .i64 x.term, .int .i64 x.index, .int .i64 x.logTerm, .bool x.yes] 44) := ⟨_, rfl⟩
  rw [← hw0] at hb0 hx0 hblk
  have HW0 := Lib.hid hw0
  have HB0 := Lib.hid hb0
  have q1 : ∀ W, Below w0.heap.size w0 W → W.cell? ⟨w.heap.size, 1, none⟩ = some (.int .i64 x.src) := fun W h => blk_cell (blk_below hblk h (blk_lt hblk)) 1
  have hcB : ∀ (i : Nat) (W' : World), Below w0.heap.size w0 W' → W'.cell? ⟨b, i, none⟩ = (nodeC (S) m)[i]? := fun i W' h => (hx0.below h).cell i
  have r0 := hcB 0
  have r1 := hcB 1
  have r2 := hcB 2
  have r3 := hcB 3
  have r4 := hcB 4
  have r5 := hcB 5
  have r6 := hcB 6
  have r7 := hcB 7
  have r8 := hcB 8
  have r9 := hcB 9
  have r10 := hcB 10
  have rz : ∀ (i : Nat) (W' : World), Below w0.heap.size w0 W' → W'.frozen? ⟨b, i, none⟩ = false := fun i W' h => (hx0.below h).frozen i
  simp only [nodeC, List.getElem?_toArray, List.getElem?_cons_zero, List.getElem?_cons_succ] at r0 r1 r2 r3 r4 r5 r6 r7 r8 r9 r10
  clear hcB
  clear hx hx0 hblk hw0 hb0
  have hb := Below.refl w0.heap.size w0
  go_enter Try.func37, Try.ntmps37
  go_wp2_with fail
  rw [← HW0.out]
  refine wp_region_in (Below w0.heap.size w0) (fun i => i == 10) (by kernel_rfl) (by kernel_rfl) (by exact hb.drew) ?_
  intro hne hx
  replace hb := hb.drew
  refine stg_seg 10 (by dsimp only [List.take]) (by dsimp only [List.drop]) (by rfl) ?_
  repeat (go_big_quiet_step (fail))
  refine wpQuiet_nil ?_
  refine stg_loud (by rfl) ?_
  go_wp2_with fail
  have hb' := bl_alloc hb (.cells #[.int .i64 kind, .int .i64 S.id, .int .i64 x.src, .int .i64 term, .int .i64 0, .int .i64 0, .bool y] 44)
  refine lq_in rfl (hb') ?_
  refine stg_seg 1 (by dsimp only [List.take]) (by dsimp only [List.drop]) (by rfl) ?_
  repeat (go_big_quiet_step (fail))
  refine wpQuiet_nil ?_
  refine stg_nil ?_
  clear hne hx
  go_wp2_with fail
  go_ret
  refine ⟨_, rfl, ?_, bl_trans HB0.out hb'⟩
  refine ⟨rfl, .inr ⟨w0.heap.size, 1, #[.int .i64 kind, .int .i64 S.id, .int .i64 x.src, .int .i64 term, .int .i64 0, .int .i64 0, .bool y], rfl, HB0.out.size, blk_new _ _ rfl, Nat.le_refl _, by unfold maxLen; omega, rfl, rfl⟩⟩

def Nd.votes (S : Nd) (x : Bal) (old : Bool) : Bool := decide (x.term = S.term) && (decide (S.vote = 0) || decide (S.vote = x.src)) && old
def VoteEnd (w : World) (b : Nat) (S : Nd) (L : List Nat) (x : Bal) (old : Bool) (e : Ending) (w' : World) : Prop :=
  e = .returned (.bool (S.votes x old)) ∧ Moves w b (if S.votes x old = true then S.voteFor x.src else S) L w'
set_option maxRecDepth 100000 in
set_option maxHeartbeats 2000000 in
theorem vote_at {b : Nat} {S : Nd} {L : List Nat} {w : World} (h : NodeAt w b S L) (x : Bal) (old : Bool) :
    Calls Try.prog 38 #[.pointer (some ⟨b, 0, none⟩), .agg #[.int .i64 x.kind, .int .i64 x.src, .int .i64 x.dst, .int .i64 x.term, .int .i64 x.index, .int .i64 x.logTerm, .bool x.yes], .bool old] w fun e w' => VoteEnd w b S L x old e w' := by
  obtain ⟨m, es, clock, yv, nv, hx⟩ := h
  have hb0 := bl_alloc (Below.refl w.heap.size w) (.cells #[.int .i64 x.kind, .int .i64 x.src, .int .i64 x.dst, .int .i64 x.term, .int .i64 x.index, .int .i64 x.logTerm, .bool x.yes] 44)
  have hx0 := hx.below hb0
  have hblk := blk_new w (.cells #[.int .i64 x.kind, .int .i64 x.src, .int .i64 x.dst, .int .i64 x.term, .int .i64 x.index, .int .i64 x.logTerm, .bool x.yes] 44) rfl
  obtain ⟨w0, hw0⟩ : ∃ w0, w0 = w.alloc (.cells #[.int .i64 x.kind, .int .i64 x.src, .int .i64 x.dst, .int .i64 x.term, .int .i64 x.index, .int .i64 x.logTerm, .bool x.yes] 44) := ⟨_, rfl⟩
  rw [← hw0] at hb0 hx0 hblk
  have HW0 := Lib.hid hw0
  have HB0 := Lib.hid hb0
  have HN0 := Lib.hid (show NodeAt w0 b S L from ⟨m, es, clock, yv, nv, hx0⟩)
  have q0 : ∀ W, Below w0.heap.size w0 W → W.cell? ⟨w.heap.size, 0, none⟩ = some (.int .i64 x.kind) := fun W h => blk_cell (blk_below hblk h (blk_lt hblk)) 0
  have q1 : ∀ W, Below w0.heap.size w0 W → W.cell? ⟨w.heap.size, 1, none⟩ = some (.int .i64 x.src) := fun W h => blk_cell (blk_below hblk h (blk_lt hblk)) 1
  have q2 : ∀ W, Below w0.heap.size w0 W → W.cell? ⟨w.heap.size, 2, none⟩ = some (.int .i64 x.dst) := fun W h => blk_cell (blk_below hblk h (blk_lt hblk)) 2
  have q3 : ∀ W, Below w0.heap.size w0 W → W.cell? ⟨w.heap.size, 3, none⟩ = some (.int .i64 x.term) := fun W h => blk_cell (blk_below hblk h (blk_lt hblk)) 3
  have q4 : ∀ W, Below w0.heap.size w0 W → W.cell? ⟨w.heap.size, 4, none⟩ = some (.int .i64 x.index) := fun W h => blk_cell (blk_below hblk h (blk_lt hblk)) 4
  have q5 : ∀ W, Below w0.heap.size w0 W → W.cell? ⟨w.heap.size, 5, none⟩ = some (.int .i64 x.logTerm) := fun W h => blk_cell (blk_below hblk h (blk_lt hblk)) 5
  have q6 : ∀ W, Below w0.heap.size w0 W → W.cell? ⟨w.heap.size, 6, none⟩ = some (.bool x.yes) := fun W h => blk_cell (blk_below hblk h (blk_lt hblk)) 6
  have hcB : ∀ (i : Nat) (W' : World), Below w0.heap.size w0 W' → W'.cell? ⟨b, i, none⟩ = (nodeC (S) m)[i]? := fun i W' h => (hx0.below h).cell i
  have r0 := hcB 0
  have r1 := hcB 1
  have r2 := hcB 2
  have r3 := hcB 3
  have r4 := hcB 4
  have r5 := hcB 5
  have r6 := hcB 6
  have r7 := hcB 7
  have r8 := hcB 8
  have r9 := hcB 9
  have r10 := hcB 10
  have rz : ∀ (i : Nat) (W' : World), Below w0.heap.size w0 W' → W'.frozen? ⟨b, i, none⟩ = false := fun i W' h => (hx0.below h).frozen i
  simp only [nodeC, List.getElem?_toArray, List.getElem?_cons_zero, List.getElem?_cons_succ] at r0 r1 r2 r3 r4 r5 r6 r7 r8 r9 r10
  clear hcB
  have hlt0 := blk_lt hblk
  have hbn : b ≠ w.heap.size := fun e => by have := blk_lt hx.blk; omega
  clear hx hx0 hblk hw0 hb0
  have hb := Below.refl w0.heap.size w0
  by_cases ht : x.term = S.term
  · have e1 : (x.term != S.term) = false := by simp [ht]
    cases old with
    | false =>
      have HV := Lib.hid (show S.votes x false = false by unfold Nd.votes; simp)
      by_cases h0 : S.vote = 0
      · have e2 : (S.vote != 0) = false := by simp [h0]
        clear ht h0
        go_enter Try.func38, Try.ntmps38
        go_wp2_with fail
        rw [← HW0.out]
        refine wp_region_in (Below w0.heap.size w0) (fun _ => false) (by kernel_rfl) (by kernel_rfl) (by exact hb.drew) ?_
        intro hne hx
        replace hb := hb.drew
        refine stg_seg 30 (by dsimp only [List.take]) (by dsimp only [List.drop]) (by rfl) ?_
        repeat (go_big_quiet_step (fail))
        refine wpQuiet_nil ?_
        refine stg_nil ?_
        clear hne hx
        go_wp2_with fail
        go_ret
        refine ⟨by rw [HV.out]; rfl, ?_⟩
        rw [HV.out]
        exact ⟨L, HN0.out.below hb, .of_below (bl_trans HB0.out hb), fun x hx => .inl hx⟩
      · have e2 : (S.vote != 0) = true := by simp [h0]
        by_cases h1 : S.vote = x.src
        · have e3 : (S.vote != x.src) = false := by simp [h1]
          clear ht h0 h1
          go_enter Try.func38, Try.ntmps38
          go_wp2_with fail
          rw [← HW0.out]
          refine wp_region_in (Below w0.heap.size w0) (fun _ => false) (by kernel_rfl) (by kernel_rfl) (by exact hb.drew) ?_
          intro hne hx
          replace hb := hb.drew
          refine stg_seg 30 (by dsimp only [List.take]) (by dsimp only [List.drop]) (by rfl) ?_
          repeat (go_big_quiet_step (fail))
          refine wpQuiet_nil ?_
          refine stg_nil ?_
          clear hne hx
          go_wp2_with fail
          go_ret
          refine ⟨by rw [HV.out]; rfl, ?_⟩
          rw [HV.out]
          exact ⟨L, HN0.out.below hb, .of_below (bl_trans HB0.out hb), fun x hx => .inl hx⟩
        · have e3 : (S.vote != x.src) = true := by simp [h1]
          clear ht h0 h1
          go_enter Try.func38, Try.ntmps38
          go_wp2_with fail
          rw [← HW0.out]
          refine wp_region_in (Below w0.heap.size w0) (fun _ => false) (by kernel_rfl) (by kernel_rfl) (by exact hb.drew) ?_
          intro hne hx
          replace hb := hb.drew
          refine stg_seg 30 (by dsimp only [List.take]) (by dsimp only [List.drop]) (by rfl) ?_
          repeat (go_big_quiet_step (fail))
          refine wpQuiet_nil ?_
          refine stg_nil ?_
          clear hne hx
          go_wp2_with fail
          go_ret
          refine ⟨by rw [HV.out]; rfl, ?_⟩
          rw [HV.out]
          exact ⟨L, HN0.out.below hb, .of_below (bl_trans HB0.out hb), fun x hx => .inl hx⟩
    | true =>
      by_cases h0 : S.vote = 0
      · have e2 : (S.vote != 0) = false := by simp [h0]
        have HV := Lib.hid (show S.votes x true = true by unfold Nd.votes; simp [ht, h0])
        clear ht h0
        go_enter Try.func38, Try.ntmps38
        go_wp2_with fail
        rw [← HW0.out]
        refine wp_region_in (Below w0.heap.size w0) (fun _ => false) (by kernel_rfl) (by kernel_rfl) (by exact hb.drew) ?_
        intro hne hx
        have d1 := q1 w0 hb
        have d3 := r3 w0 hb
        have d6 := r6 w0 hb
        have d8 := r8 w0 hb
        have dz := fun i => rz i w0 hb
        replace hb := hb.drew
        refine stg_seg 30 (by dsimp only [List.take]) (by dsimp only [List.drop]) (by rfl) ?_
        repeat (go_big_quiet_step (fail))
        refine wpQuiet_nil ?_
        refine stg_nil ?_
        clear hne hx
        clear q0 q1 q2 q3 q4 q5 q6 r0 r1 r2 r3 r4 r5 r6 r7 r8 r9 r10 rz
        by_cases hr : S.role = 1
        · have e5 : (S.role == 1) = true := by simp [hr]
          have HS := Lib.hid (show S.voteFor x.src = { S with vote := x.src, waited := 0, role := 0 } by unfold Nd.voteFor; rw [if_pos hr])
          clear hr
          go_wp2_with fail
          go_ret
          refine ⟨by rw [HV.out]; rfl, ?_⟩
          rw [HV.out, if_pos rfl, HS.out]
          obtain ⟨h1, k1⟩ := HN0.out.scal (S' := { S with vote := x.src, waited := 0, role := 0 }) ((((Chg.refl _ w0).set (p := ⟨b, 3, none⟩) (by simp) (.int .i64 x.src)).set (p := ⟨b, 8, none⟩) (by simp) (.int .i64 0)).set (p := ⟨b, 6, none⟩) (by simp) (.int .i64 0)).drew (fun m h => blk_set (blk_set (blk_set h 3 _) 8 _) 6 _) ⟨rfl, rfl⟩ ⟨rfl, rfl⟩ rfl rfl
          exact ⟨L, h1, (Chg.of_below HB0.out).trans k1, fun x hx => .inl hx⟩
        · have e5 : (S.role == 1) = false := by simp [hr]
          have HS := Lib.hid (show S.voteFor x.src = { S with vote := x.src, waited := 0 } by unfold Nd.voteFor; rw [if_neg hr])
          clear hr
          go_wp2_with fail
          go_ret
          refine ⟨by rw [HV.out]; rfl, ?_⟩
          rw [HV.out, if_pos rfl, HS.out]
          obtain ⟨h1, k1⟩ := HN0.out.scal (S' := { S with vote := x.src, waited := 0 }) (((Chg.refl _ w0).set (p := ⟨b, 3, none⟩) (by simp) (.int .i64 x.src)).set (p := ⟨b, 8, none⟩) (by simp) (.int .i64 0)).drew (fun m h => blk_set (blk_set h 3 _) 8 _) ⟨rfl, rfl⟩ ⟨rfl, rfl⟩ rfl rfl
          exact ⟨L, h1, (Chg.of_below HB0.out).trans k1, fun x hx => .inl hx⟩
      · have e2 : (S.vote != 0) = true := by simp [h0]
        by_cases h1 : S.vote = x.src
        · have e3 : (S.vote != x.src) = false := by simp [h1]
          have HV := Lib.hid (show S.votes x true = true by unfold Nd.votes; simp [ht, h1])
          clear ht h0 h1
          go_enter Try.func38, Try.ntmps38
          go_wp2_with fail
          rw [← HW0.out]
          refine wp_region_in (Below w0.heap.size w0) (fun _ => false) (by kernel_rfl) (by kernel_rfl) (by exact hb.drew) ?_
          intro hne hx
          have d1 := q1 w0 hb
          have d3 := r3 w0 hb
          have d6 := r6 w0 hb
          have d8 := r8 w0 hb
          have dz := fun i => rz i w0 hb
          replace hb := hb.drew
          refine stg_seg 30 (by dsimp only [List.take]) (by dsimp only [List.drop]) (by rfl) ?_
          repeat (go_big_quiet_step (fail))
          refine wpQuiet_nil ?_
          refine stg_nil ?_
          clear hne hx
          clear q0 q1 q2 q3 q4 q5 q6 r0 r1 r2 r3 r4 r5 r6 r7 r8 r9 r10 rz
          by_cases hr : S.role = 1
          · have e5 : (S.role == 1) = true := by simp [hr]
            have HS := Lib.hid (show S.voteFor x.src = { S with vote := x.src, waited := 0, role := 0 } by unfold Nd.voteFor; rw [if_pos hr])
            clear hr
            go_wp2_with fail
            go_ret
            refine ⟨by rw [HV.out]; rfl, ?_⟩
            rw [HV.out, if_pos rfl, HS.out]
            obtain ⟨h1, k1⟩ := HN0.out.scal (S' := { S with vote := x.src, waited := 0, role := 0 }) ((((Chg.refl _ w0).set (p := ⟨b, 3, none⟩) (by simp) (.int .i64 x.src)).set (p := ⟨b, 8, none⟩) (by simp) (.int .i64 0)).set (p := ⟨b, 6, none⟩) (by simp) (.int .i64 0)).drew (fun m h => blk_set (blk_set (blk_set h 3 _) 8 _) 6 _) ⟨rfl, rfl⟩ ⟨rfl, rfl⟩ rfl rfl
            exact ⟨L, h1, (Chg.of_below HB0.out).trans k1, fun x hx => .inl hx⟩
          · have e5 : (S.role == 1) = false := by simp [hr]
            have HS := Lib.hid (show S.voteFor x.src = { S with vote := x.src, waited := 0 } by unfold Nd.voteFor; rw [if_neg hr])
            clear hr
            go_wp2_with fail
            go_ret
            refine ⟨by rw [HV.out]; rfl, ?_⟩
            rw [HV.out, if_pos rfl, HS.out]
            obtain ⟨h1, k1⟩ := HN0.out.scal (S' := { S with vote := x.src, waited := 0 }) (((Chg.refl _ w0).set (p := ⟨b, 3, none⟩) (by simp) (.int .i64 x.src)).set (p := ⟨b, 8, none⟩) (by simp) (.int .i64 0)).drew (fun m h => blk_set (blk_set h 3 _) 8 _) ⟨rfl, rfl⟩ ⟨rfl, rfl⟩ rfl rfl
            exact ⟨L, h1, (Chg.of_below HB0.out).trans k1, fun x hx => .inl hx⟩
        · have e3 : (S.vote != x.src) = true := by simp [h1]
          have HV := Lib.hid (show S.votes x true = false by unfold Nd.votes; simp [ht, h0, h1])
          clear ht h0 h1
          go_enter Try.func38, Try.ntmps38
          go_wp2_with fail
          rw [← HW0.out]
          refine wp_region_in (Below w0.heap.size w0) (fun _ => false) (by kernel_rfl) (by kernel_rfl) (by exact hb.drew) ?_
          intro hne hx
          replace hb := hb.drew
          refine stg_seg 30 (by dsimp only [List.take]) (by dsimp only [List.drop]) (by rfl) ?_
          repeat (go_big_quiet_step (fail))
          refine wpQuiet_nil ?_
          refine stg_nil ?_
          clear hne hx
          go_wp2_with fail
          go_ret
          refine ⟨by rw [HV.out]; rfl, ?_⟩
          rw [HV.out]
          exact ⟨L, HN0.out.below hb, .of_below (bl_trans HB0.out hb), fun x hx => .inl hx⟩
  · have e1 : (x.term != S.term) = true := by simp [ht]
    have HV := Lib.hid (show S.votes x old = false by unfold Nd.votes; simp [ht])
    clear ht
    go_enter Try.func38, Try.ntmps38
    go_wp2_with fail
    rw [← HW0.out]
    refine wp_region_in (Below w0.heap.size w0) (fun _ => false) (by kernel_rfl) (by kernel_rfl) (by exact hb.drew) ?_
    intro hne hx
    replace hb := hb.drew
    refine stg_seg 30 (by dsimp only [List.take]) (by dsimp only [List.drop]) (by rfl) ?_
    repeat (go_big_quiet_step (fail))
    refine wpQuiet_nil ?_
    refine stg_nil ?_
    clear hne hx
    go_wp2_with fail
    go_ret
    refine ⟨by rw [HV.out]; rfl, ?_⟩
    rw [HV.out]
    exact ⟨L, HN0.out.below hb, .of_below (bl_trans HB0.out hb), fun x hx => .inl hx⟩
end Go.Proofs.Ytiamfdnllpiikaa
