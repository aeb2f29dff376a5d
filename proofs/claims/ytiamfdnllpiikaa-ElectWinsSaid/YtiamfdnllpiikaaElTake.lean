/- elect: Take. Conditions: none. -/
import Derived.Deep.DeepCutAuto
import Derived.Test.YtiamfdnllpiikaaElJoin
namespace Go.Proofs.Ytiamfdnllpiikaa
open Go.RowKit
theorem take_no {S : Nd} {x : Bal} {last lt : Int} (h : x.dst ≠ S.id ∨ S.other x.src = false ∨ x.term < 0 ∨ maxIx < x.term) : S.take x last lt = (S, []) := by unfold Nd.take; rw [if_pos h]

theorem take_pre {S : Nd} {x : Bal} {last lt : Int} (h : ¬ (x.dst ≠ S.id ∨ S.other x.src = false ∨ x.term < 0 ∨ maxIx < x.term)) (hk : x.kind = 1) :
    S.take x last lt = if S.term < x.term ∧ Nd.oldB x last lt = true ∧ (S.leader = 0 ∨ S.pat ≤ S.waited) then (S, [⟨2, S.id, x.src, x.term, 0, 0, true⟩]) else (S, [⟨2, S.id, x.src, S.term, 0, 0, false⟩]) := by unfold Nd.take; rw [if_neg h, if_pos hk]
theorem take_presay {S : Nd} {x : Bal} {last lt : Int} (h : ¬ (x.dst ≠ S.id ∨ S.other x.src = false ∨ x.term < 0 ∨ maxIx < x.term)) (hk : x.kind = 2) :
    S.take x last lt = if S.term < x.term ∧ x.yes = false then (S.down x.term, []) else if S.role = 1 ∧ (x.yes = false ∨ x.term = S.term + 1) then (S.says x.src x.yes).counted last lt else (S, []) := by
  unfold Nd.take; rw [if_neg h, if_neg (by omega), if_pos hk]
theorem take_say {S : Nd} {x : Bal} {last lt : Int} (h : ¬ (x.dst ≠ S.id ∨ S.other x.src = false ∨ x.term < 0 ∨ maxIx < x.term)) (hk : x.kind = 4) :
    S.take x last lt = if S.term < x.term then (S.down x.term, []) else if S.role = 2 ∧ x.term = S.term then (((S.says x.src x.yes).counted last lt).1, []) else (S, []) := by
  unfold Nd.take; rw [if_neg h, if_neg (by omega), if_neg (by omega), if_neg (by omega), if_pos hk]
theorem take_other {S : Nd} {x : Bal} {last lt : Int} (h1 : ¬ x.kind = 1) (h2 : ¬ x.kind = 2) (h3 : ¬ x.kind = 3) (h4 : ¬ x.kind = 4) : S.take x last lt = (S, []) := by
  unfold Nd.take; rw [if_neg h1, if_neg h2, if_neg h3, if_neg h4]; split <;> rfl
theorem says_same (S : Nd) (src : Int) (y : Bool) : (S.says src y).term = S.term ∧ (S.says src y).vs = S.vs := by unfold Nd.says; split; exact ⟨rfl, rfl⟩; split <;> exact ⟨rfl, rfl⟩
def Nd.asked (S : Nd) (x : Bal) : Nd := if S.term < x.term then S.down x.term else S
theorem take_ask {S : Nd} {x : Bal} {last lt : Int} (h : ¬ (x.dst ≠ S.id ∨ S.other x.src = false ∨ x.term < 0 ∨ maxIx < x.term)) (hk : x.kind = 3) :
    S.take x last lt = (if (S.asked x).votes x (Nd.oldB x last lt) = true then (S.asked x).voteFor x.src else S.asked x, [⟨4, S.id, x.src, (S.asked x).term, 0, 0, (S.asked x).votes x (Nd.oldB x last lt)⟩]) := by
  unfold Nd.take
  rw [if_neg h, if_neg (by omega), if_neg (by omega), if_pos hk]
  simp only
  rw [show (if S.term < x.term then S.down x.term else S) = S.asked x from rfl]
  by_cases hv : (S.asked x).votes x (Nd.oldB x last lt) = true
  · rw [if_pos (by unfold Nd.votes at hv; simp at hv; exact ⟨hv.1.1, hv.1.2, hv.2⟩), if_pos hv, hv]
  · rw [if_neg (fun hc => hv (by unfold Nd.votes; simp; exact ⟨⟨hc.1, hc.2.1⟩, hc.2.2⟩)), if_neg hv, eq_false_of_ne_true hv]
set_option maxRecDepth 100000 in
set_option maxHeartbeats 4000000 in
theorem take_at {b : Nat} {S : Nd} {L : List Nat} {w : World} (h : NodeAt w b S L) (h0 : 0 ≤ S.term) (ht9 : S.term ≤ maxIx) (hv : S.vs.length ≤ 1000) (hy9 : S.yes.length < 1000) (hn9 : S.no.length < 1000) (x : Bal) (last lt : Int) :
    Calls Try.prog 16 #[.pointer (some ⟨b, 0, none⟩), .agg #[.int .i64 x.kind, .int .i64 x.src, .int .i64 x.dst, .int .i64 x.term, .int .i64 x.index, .int .i64 x.logTerm, .bool x.yes], .int .i64 last, .int .i64 lt] w fun e w' => Sends w b (S.take x last lt).1 L (S.take x last lt).2 e w' := by
  have h9 := h.low
  obtain ⟨m, es, clock, yv, nv, hx⟩ := h
  have hb0 := bl_alloc (Below.refl w.heap.size w) (.cells #[.int .i64 x.kind, .int .i64 x.src, .int .i64 x.dst, .int .i64 x.term, .int .i64 x.index, .int .i64 x.logTerm, .bool x.yes] 44)
  have hx0 := hx.below hb0
  have hblk := blk_new w (.cells #[.int .i64 x.kind, .int .i64 x.src, .int .i64 x.dst, .int .i64 x.term, .int .i64 x.index, .int .i64 x.logTerm, .bool x.yes] 44) rfl
  obtain ⟨w0, hw0⟩ : ∃ w0, w0 = w.alloc (.cells #[.int .i64 x.kind, .int .i64 x.src, .int .i64 x.dst, .int .i64 x.term, .int .i64 x.index, .int .i64 x.logTerm, .bool x.yes] 44) := ⟨_, rfl⟩
  rw [← hw0] at hb0 hx0 hblk
  have HW0 := Lib.hid hw0
  have HB0 := Lib.hid hb0
  have HBK := Lib.hid hblk
  have HN0 := Lib.hid (show NodeAt w0 b S L from ⟨m, es, clock, yv, nv, hx0⟩)
  have q0 : ∀ W, Below w0.heap.size w0 W → W.cell? ⟨w.heap.size, 0, none⟩ = some (.int .i64 x.kind) := fun W h => blk_cell (blk_below hblk h (blk_lt hblk)) 0
  have q1 : ∀ W, Below w0.heap.size w0 W → W.cell? ⟨w.heap.size, 1, none⟩ = some (.int .i64 x.src) := fun W h => blk_cell (blk_below hblk h (blk_lt hblk)) 1
  have q2 : ∀ W, Below w0.heap.size w0 W → W.cell? ⟨w.heap.size, 2, none⟩ = some (.int .i64 x.dst) := fun W h => blk_cell (blk_below hblk h (blk_lt hblk)) 2
  have q3 : ∀ W, Below w0.heap.size w0 W → W.cell? ⟨w.heap.size, 3, none⟩ = some (.int .i64 x.term) := fun W h => blk_cell (blk_below hblk h (blk_lt hblk)) 3
  have q4 : ∀ W, Below w0.heap.size w0 W → W.cell? ⟨w.heap.size, 4, none⟩ = some (.int .i64 x.index) := fun W h => blk_cell (blk_below hblk h (blk_lt hblk)) 4
  have q5 : ∀ W, Below w0.heap.size w0 W → W.cell? ⟨w.heap.size, 5, none⟩ = some (.int .i64 x.logTerm) := fun W h => blk_cell (blk_below hblk h (blk_lt hblk)) 5
  have q6 : ∀ W, Below w0.heap.size w0 W → W.cell? ⟨w.heap.size, 6, none⟩ = some (.bool x.yes) := fun W h => blk_cell (blk_below hblk h (blk_lt hblk)) 6
  have hcB : ∀ (i : Nat) (W' : World), Below w0.heap.size w0 W' → W'.cell? ⟨b, i, none⟩ = (nodeC (S) m)[i]? := fun i W' h => (hx0.below h).cell i
  have r0 := hcB 0
  have r1 := hcB 1
  have r2 := hcB 2
  have r3 := hcB 3
  have r4 := hcB 4
  have r5 := hcB 5
  have r6 := hcB 6
  have r7 := hcB 7
  have r8 := hcB 8
  have r9 := hcB 9
  have r10 := hcB 10
  have rz : ∀ (i : Nat) (W' : World), Below w0.heap.size w0 W' → W'.frozen? ⟨b, i, none⟩ = false := fun i W' h => (hx0.below h).frozen i
  simp only [nodeC, List.getElem?_toArray, List.getElem?_cons_zero, List.getElem?_cons_succ] at r0 r1 r2 r3 r4 r5 r6 r7 r8 r9 r10
  clear hcB
  have hlt0 := blk_lt hblk
  have hbn : b ≠ w.heap.size := fun e => by have := blk_lt hx.blk; omega
  clear hx hx0 hblk hw0 hb0
  have hb := Below.refl w0.heap.size w0
  have HNB := Lib.hid (show ¬ w.heap.size ∈ L from fun hm => by have := h9 _ hm; omega)
  have HO := Lib.hid (fun (W : World) (h : Below w0.heap.size w0 W) => other_at (HN0.out.below h) x.src)
  by_cases hd : x.dst = S.id
  case neg =>
    have e1 : (x.dst != S.id) = true := by simp [hd]
    have HS := Lib.hid (take_no (S := S) (x := x) (last := last) (lt := lt) (.inl hd))
    clear hd
    go_enter Try.func16, Try.ntmps16
    go_wp2_with fail
    rw [← HW0.out]
    refine wp_region_in (Below w0.heap.size w0) (fun i => i == 11) (by kernel_rfl) (by kernel_rfl) (by exact hb.drew) ?_
    intro hne hx
    replace hb := hb.drew
    refine stg_seg 11 (by dsimp only [List.take]) (by dsimp only [List.drop]) (by rfl) ?_
    repeat (go_big_quiet_step (fail))
    refine wpQuiet_nil ?_
    refine stg_loud (by rfl) ?_
    go_wp2_with fail
    refine lq_in rfl (hb) ?_
    refine stg_seg 12 (by dsimp only [List.take]) (by dsimp only [List.drop]) (by rfl) ?_
    repeat (go_big_quiet_step (fail))
    refine wpQuiet_nil ?_
    refine stg_nil ?_
    clear hne hx
    go_wp2_with fail
    go_ret
    rw [HS.out]
    exact Sends.none (HN0.out.below hb) (.of_below (bl_trans HB0.out hb)) (fun x hx => .inl hx)
  have e1 : (x.dst != S.id) = false := by simp [hd]
  by_cases ho : S.other x.src = false
  · rw [ho] at HO
    have HS := Lib.hid (take_no (S := S) (x := x) (last := last) (lt := lt) (.inr (.inl ho)))
    clear hd ho
    go_enter Try.func16, Try.ntmps16
    go_wp2_with fail
    rw [← HW0.out]
    refine wp_region_in (Below w0.heap.size w0) (fun i => i == 11) (by kernel_rfl) (by kernel_rfl) (by exact hb.drew) ?_
    intro hne hx
    replace hb := hb.drew
    refine stg_seg 11 (by dsimp only [List.take]) (by dsimp only [List.drop]) (by rfl) ?_
    repeat (go_big_quiet_step (fail))
    refine wpQuiet_nil ?_
    refine stg_loud (by rfl) ?_
    go_wp2_with fail
    refine (HO.out _ hb).mono ?_; rintro e w2 ⟨rfl, rfl⟩
    go_wp2_with fail
    refine lq_in rfl (hb) ?_
    refine stg_seg 12 (by dsimp only [List.take]) (by dsimp only [List.drop]) (by rfl) ?_
    repeat (go_big_quiet_step (fail))
    refine wpQuiet_nil ?_
    refine stg_nil ?_
    clear hne hx
    go_wp2_with fail
    go_ret
    rw [HS.out]
    exact Sends.none (HN0.out.below hb) (.of_below (bl_trans HB0.out hb)) (fun x hx => .inl hx)
  rw [eq_true_of_ne_false ho] at HO
  by_cases h1 : x.term < 0
  · have HS := Lib.hid (take_no (S := S) (x := x) (last := last) (lt := lt) (.inr (.inr (.inl h1))))
    clear hd ho
    go_enter Try.func16, Try.ntmps16
    go_wp2_with fail
    rw [← HW0.out]
    refine wp_region_in (Below w0.heap.size w0) (fun i => i == 11) (by kernel_rfl) (by kernel_rfl) (by exact hb.drew) ?_
    intro hne hx
    replace hb := hb.drew
    refine stg_seg 11 (by dsimp only [List.take]) (by dsimp only [List.drop]) (by rfl) ?_
    repeat (go_big_quiet_step (fail))
    refine wpQuiet_nil ?_
    refine stg_loud (by rfl) ?_
    go_wp2_with fail
    refine (HO.out _ hb).mono ?_; rintro e w2 ⟨rfl, rfl⟩
    go_wp2_with fail
    refine lq_in rfl (hb) ?_
    refine stg_seg 12 (by dsimp only [List.take]) (by dsimp only [List.drop]) (by rfl) ?_
    repeat (go_big_quiet_step (fail))
    refine wpQuiet_nil ?_
    refine stg_nil ?_
    clear hne hx
    go_wp2_with fail
    go_ret
    rw [HS.out]
    exact Sends.none (HN0.out.below hb) (.of_below (bl_trans HB0.out hb)) (fun x hx => .inl hx)
  have g1 : decide (x.term < 0) = false := decide_eq_false h1
  by_cases h2 : maxIx < x.term
  · have HS := Lib.hid (take_no (S := S) (x := x) (last := last) (lt := lt) (.inr (.inr (.inr h2))))
    clear hd ho
    unfold maxIx at h2
    go_enter Try.func16, Try.ntmps16
    go_wp2_with fail
    rw [← HW0.out]
    refine wp_region_in (Below w0.heap.size w0) (fun i => i == 11) (by kernel_rfl) (by kernel_rfl) (by exact hb.drew) ?_
    intro hne hx
    replace hb := hb.drew
    refine stg_seg 11 (by dsimp only [List.take]) (by dsimp only [List.drop]) (by rfl) ?_
    repeat (go_big_quiet_step (fail))
    refine wpQuiet_nil ?_
    refine stg_loud (by rfl) ?_
    go_wp2_with fail
    refine (HO.out _ hb).mono ?_; rintro e w2 ⟨rfl, rfl⟩
    go_wp2_with fail
    refine lq_in rfl (hb) ?_
    refine stg_seg 12 (by dsimp only [List.take]) (by dsimp only [List.drop]) (by rfl) ?_
    repeat (go_big_quiet_step (fail))
    refine wpQuiet_nil ?_
    refine stg_nil ?_
    clear hne hx
    go_wp2_with fail
    go_ret
    rw [HS.out]
    exact Sends.none (HN0.out.below hb) (.of_below (bl_trans HB0.out hb)) (fun x hx => .inl hx)
  have g2 : decide (1099511627776 < x.term) = false := decide_eq_false h2
  have HG := Lib.hid (show ¬ (x.dst ≠ S.id ∨ S.other x.src = false ∨ x.term < 0 ∨ maxIx < x.term) by rintro (h | h | h | h); exact h hd; exact ho h; exact h1 h; exact h2 h)
  clear hd ho h1 h2
  go_enter Try.func16, Try.ntmps16
  go_wp2_with fail
  rw [← HW0.out]
  refine wp_region_in (Below w0.heap.size w0) (fun i => i == 11) (by kernel_rfl) (by kernel_rfl) (by exact hb.drew) ?_
  intro hne hx
  replace hb := hb.drew
  refine stg_seg 11 (by dsimp only [List.take]) (by dsimp only [List.drop]) (by rfl) ?_
  repeat (go_big_quiet_step (fail))
  refine wpQuiet_nil ?_
  refine stg_loud (by rfl) ?_
  go_wp2_with fail
  refine (HO.out _ hb).mono ?_; rintro e w2 ⟨rfl, rfl⟩
  go_wp2_with fail
  refine lq_in rfl (hb) ?_
  refine stg_seg 12 (by dsimp only [List.take]) (by dsimp only [List.drop]) (by rfl) ?_
  repeat (go_big_quiet_step (fail))
  refine wpQuiet_nil ?_
  refine stg_nil ?_
  clear hne hx
  go_wp2_with fail
  refine wp_region_in (Below w0.heap.size w0) (fun _ => false) (by kernel_rfl) (by kernel_rfl) (by exact hb.drew) ?_
  intro hne hx
  replace hb := hb.drew
  change wpStg _ _ _ _ _ _ _ _ w0.drew.drew
  obtain ⟨W1, hW1⟩ : ∃ W1, W1 = w0.drew.drew := ⟨_, rfl⟩
  rw [← hW1] at hb ⊢
  clear hW1
  refine stg_seg 9 (by dsimp only [List.take]) (by dsimp only [List.drop]) (by rfl) ?_
  repeat (go_big_quiet_step (fail))
  refine wpQuiet_nil ?_
  refine stg_nil ?_
  clear hne hx
  go_upto_region 4 with fail
  obtain ⟨A, hA⟩ : ∃ A, A = decide (S.term < x.term) := ⟨_, rfl⟩
  obtain ⟨O, hO⟩ : ∃ O, O = Nd.oldB x last lt := ⟨_, rfl⟩
  rw [← hA]
  have HA := Lib.hid hA
  have HOL := Lib.hid hO
  clear hA hO
  go_cut [10] (fun s10 wx => s10 = .bool O ∧ wx = W1)
  case first =>
    by_cases k1 : lt < x.logTerm
    · go_wp2_with fail
      go_meet
      exact ⟨by rw [HOL.out]; unfold Nd.oldB; simp [k1], rfl⟩
    · have k1d : decide (lt < x.logTerm) = false := decide_eq_false k1
      by_cases k2 : x.logTerm = lt
      · have k2e : (x.logTerm == lt) = true := by simp [k2]
        have HE := Lib.hid (show O = decide (last ≤ x.index) by rw [HOL.out]; unfold Nd.oldB; simp [k1, k2])
        clear k1 k2
        go_wp2_with fail
        go_meet
        exact ⟨by rw [HE.out], rfl⟩
      · have k2e : (x.logTerm == lt) = false := by simp [k2]
        have HE := Lib.hid (show O = false by rw [HOL.out]; unfold Nd.oldB; simp [k1, k2])
        clear k1 k2
        go_wp2_with fail
        go_meet
        exact ⟨by rw [HE.out], rfl⟩
  case rest =>
    obtain ⟨rfl, rfl⟩ := hcut
    by_cases k1 : x.kind = 1
    · have e2 : (x.kind == 1) = true := by simp [k1]
      have HP := Lib.hid (take_pre (last := last) (lt := lt) HG.out k1)
      clear k1
      cases A with
      | false =>
        have HS := Lib.hid (show S.take x last lt = (S, [⟨2, S.id, x.src, S.term, 0, 0, false⟩]) by rw [HP.out, if_neg]; rintro ⟨h, _⟩; have := HA.out; simp [h] at this)
        go_wp2_with fail
        refine wp_region_in (Below w0.heap.size w0) (fun _ => false) (by kernel_rfl) (by kernel_rfl) (by exact hb.drew) ?_
        intro hne hx
        replace hb := hb.drew
        change wpStg _ _ _ _ _ _ _ _ wc.drew
        obtain ⟨W1, hW1⟩ : ∃ W1, W1 = wc.drew := ⟨_, rfl⟩
        rw [← hW1] at hb ⊢
        clear hW1
        refine stg_seg 22 (by dsimp only [List.take]) (by dsimp only [List.drop]) (by rfl) ?_
        repeat (go_big_quiet_step (fail))
        refine wpQuiet_nil ?_
        refine stg_nil ?_
        clear hne hx
        go_wp2_with fail
        refine wp_region_in (Below w0.heap.size w0) (fun i => i == 7) (by kernel_rfl) (by kernel_rfl) (by exact hb.drew) ?_
        intro hne hx
        replace hb := hb.drew
        refine stg_seg 7 (by dsimp only [List.take]) (by dsimp only [List.drop]) (by rfl) ?_
        repeat (go_big_quiet_step (fail))
        refine wpQuiet_nil ?_
        refine stg_loud (by rfl) ?_
        go_wp2_with fail
        have HNB := Lib.hid hb
        refine (answer_at (HN0.out.below hb) x 2 S.term false).mono ?_; rintro e w3 ⟨v, rfl, hbv, hb3⟩
        replace hb := bl_trans hb hb3
        go_wp2_with fail
        refine lq_in rfl (hb) ?_
        refine stg_seg 1 (by dsimp only [List.take]) (by dsimp only [List.drop]) (by rfl) ?_
        repeat (go_big_quiet_step (fail))
        refine wpQuiet_nil ?_
        refine stg_nil ?_
        clear hne hx
        go_wp2_with fail
        go_ret
        rw [HS.out]
        exact Sends.some (HN0.out.below HNB.out) (.of_below (bl_trans HB0.out HNB.out)) (fun x hx => .inl hx) hbv hb3
      | true =>
      have ha : S.term < x.term := by have := HA.out; simpa using this.symm
      cases O with
      | false =>
        have HS := Lib.hid (show S.take x last lt = (S, [⟨2, S.id, x.src, S.term, 0, 0, false⟩]) by rw [HP.out, if_neg]; rintro ⟨_, h, _⟩; have := HOL.out; rw [h] at this; cases this)
        clear ha
        go_wp2_with fail
        refine wp_region_in (Below w0.heap.size w0) (fun _ => false) (by kernel_rfl) (by kernel_rfl) (by exact hb.drew) ?_
        intro hne hx
        replace hb := hb.drew
        change wpStg _ _ _ _ _ _ _ _ wc.drew
        obtain ⟨W1, hW1⟩ : ∃ W1, W1 = wc.drew := ⟨_, rfl⟩
        rw [← hW1] at hb ⊢
        clear hW1
        refine stg_seg 22 (by dsimp only [List.take]) (by dsimp only [List.drop]) (by rfl) ?_
        repeat (go_big_quiet_step (fail))
        refine wpQuiet_nil ?_
        refine stg_nil ?_
        clear hne hx
        go_wp2_with fail
        refine wp_region_in (Below w0.heap.size w0) (fun i => i == 7) (by kernel_rfl) (by kernel_rfl) (by exact hb.drew) ?_
        intro hne hx
        replace hb := hb.drew
        refine stg_seg 7 (by dsimp only [List.take]) (by dsimp only [List.drop]) (by rfl) ?_
        repeat (go_big_quiet_step (fail))
        refine wpQuiet_nil ?_
        refine stg_loud (by rfl) ?_
        go_wp2_with fail
        have HNB := Lib.hid hb
        refine (answer_at (HN0.out.below hb) x 2 S.term false).mono ?_; rintro e w3 ⟨v, rfl, hbv, hb3⟩
        replace hb := bl_trans hb hb3
        go_wp2_with fail
        refine lq_in rfl (hb) ?_
        refine stg_seg 1 (by dsimp only [List.take]) (by dsimp only [List.drop]) (by rfl) ?_
        repeat (go_big_quiet_step (fail))
        refine wpQuiet_nil ?_
        refine stg_nil ?_
        clear hne hx
        go_wp2_with fail
        go_ret
        rw [HS.out]
        exact Sends.some (HN0.out.below HNB.out) (.of_below (bl_trans HB0.out HNB.out)) (fun x hx => .inl hx) hbv hb3
      | true =>
      by_cases hl : S.leader = 0
      · have e3 : (S.leader == 0) = true := by simp [hl]
        have HS := Lib.hid (show S.take x last lt = (S, [⟨2, S.id, x.src, x.term, 0, 0, true⟩]) by rw [HP.out, if_pos ⟨ha, HOL.out.symm, .inl hl⟩])
        clear hl ha
        go_wp2_with fail
        refine wp_region_in (Below w0.heap.size w0) (fun _ => false) (by kernel_rfl) (by kernel_rfl) (by exact hb.drew) ?_
        intro hne hx
        replace hb := hb.drew
        change wpStg _ _ _ _ _ _ _ _ wc.drew
        obtain ⟨W1, hW1⟩ : ∃ W1, W1 = wc.drew := ⟨_, rfl⟩
        rw [← hW1] at hb ⊢
        clear hW1
        refine stg_seg 22 (by dsimp only [List.take]) (by dsimp only [List.drop]) (by rfl) ?_
        repeat (go_big_quiet_step (fail))
        refine wpQuiet_nil ?_
        refine stg_nil ?_
        clear hne hx
        go_wp2_with fail
        refine (answer_at (HN0.out.below hb) x 2 x.term true).mono ?_; rintro e w3 ⟨v, rfl, hbv, hb3⟩
        go_wp2_with fail
        go_ret
        rw [HS.out]
        exact Sends.some (HN0.out.below hb) (.of_below (bl_trans HB0.out hb)) (fun x hx => .inl hx) hbv hb3
      have e3 : (S.leader == 0) = false := by simp [hl]
      by_cases hw : S.pat ≤ S.waited
      · have HS := Lib.hid (show S.take x last lt = (S, [⟨2, S.id, x.src, x.term, 0, 0, true⟩]) by rw [HP.out, if_pos ⟨ha, HOL.out.symm, .inr hw⟩])
        have e4 : decide (S.pat ≤ S.waited) = true := decide_eq_true hw
        clear hl ha
        go_wp2_with fail
        refine wp_region_in (Below w0.heap.size w0) (fun _ => false) (by kernel_rfl) (by kernel_rfl) (by exact hb.drew) ?_
        intro hne hx
        replace hb := hb.drew
        change wpStg _ _ _ _ _ _ _ _ wc.drew
        obtain ⟨W1, hW1⟩ : ∃ W1, W1 = wc.drew := ⟨_, rfl⟩
        rw [← hW1] at hb ⊢
        clear hW1
        refine stg_seg 22 (by dsimp only [List.take]) (by dsimp only [List.drop]) (by rfl) ?_
        repeat (go_big_quiet_step (fail))
        refine wpQuiet_nil ?_
        refine stg_nil ?_
        clear hne hx
        go_wp2_with fail
        refine (answer_at (HN0.out.below hb) x 2 x.term true).mono ?_; rintro e w3 ⟨v, rfl, hbv, hb3⟩
        go_wp2_with fail
        go_ret
        rw [HS.out]
        exact Sends.some (HN0.out.below hb) (.of_below (bl_trans HB0.out hb)) (fun x hx => .inl hx) hbv hb3
      · have HS := Lib.hid (show S.take x last lt = (S, [⟨2, S.id, x.src, S.term, 0, 0, false⟩]) by rw [HP.out, if_neg]; rintro ⟨_, _, h | h⟩; exact hl h; exact hw h)
        have e4 : decide (S.pat ≤ S.waited) = false := decide_eq_false hw
        clear hl ha
        go_wp2_with fail
        refine wp_region_in (Below w0.heap.size w0) (fun _ => false) (by kernel_rfl) (by kernel_rfl) (by exact hb.drew) ?_
        intro hne hx
        replace hb := hb.drew
        change wpStg _ _ _ _ _ _ _ _ wc.drew
        obtain ⟨W1, hW1⟩ : ∃ W1, W1 = wc.drew := ⟨_, rfl⟩
        rw [← hW1] at hb ⊢
        clear hW1
        refine stg_seg 22 (by dsimp only [List.take]) (by dsimp only [List.drop]) (by rfl) ?_
        repeat (go_big_quiet_step (fail))
        refine wpQuiet_nil ?_
        refine stg_nil ?_
        clear hne hx
        go_wp2_with fail
        refine wp_region_in (Below w0.heap.size w0) (fun i => i == 7) (by kernel_rfl) (by kernel_rfl) (by exact hb.drew) ?_
        intro hne hx
        replace hb := hb.drew
        refine stg_seg 7 (by dsimp only [List.take]) (by dsimp only [List.drop]) (by rfl) ?_
        repeat (go_big_quiet_step (fail))
        refine wpQuiet_nil ?_
        refine stg_loud (by rfl) ?_
        go_wp2_with fail
        have HNB := Lib.hid hb
        refine (answer_at (HN0.out.below hb) x 2 S.term false).mono ?_; rintro e w3 ⟨v, rfl, hbv, hb3⟩
        replace hb := bl_trans hb hb3
        go_wp2_with fail
        refine lq_in rfl (hb) ?_
        refine stg_seg 1 (by dsimp only [List.take]) (by dsimp only [List.drop]) (by rfl) ?_
        repeat (go_big_quiet_step (fail))
        refine wpQuiet_nil ?_
        refine stg_nil ?_
        clear hne hx
        go_wp2_with fail
        go_ret
        rw [HS.out]
        exact Sends.some (HN0.out.below HNB.out) (.of_below (bl_trans HB0.out HNB.out)) (fun x hx => .inl hx) hbv hb3
    have e2 : (x.kind == 1) = false := by simp [k1]
    by_cases k3 : x.kind = 3
    · have e5 : (x.kind == 3) = true := by simp [k3]
      have HP := Lib.hid (take_ask (last := last) (lt := lt) HG.out k3)
      rw [← HOL.out] at HP
      clear k3 k1
      cases A with
      | false =>
        have ha : ¬ S.term < x.term := by have := HA.out; simpa using this.symm
        have HT := Lib.hid (show S.asked x = S by unfold Nd.asked; rw [if_neg ha])
        rw [HT.out] at HP
        have HN := Lib.hid (HN0.out.below hb)
        have HKK := Lib.hid (Chg.of_below (L := L) (bl_trans HB0.out hb))
        have HLL := Lib.hid (fun (y : Nat) (hy : y ∈ L) => (.inl hy : y ∈ L ∨ w0.heap.size ≤ y))
        have HBX := Lib.hid (blk_below HBK.out hb hlt0)
        clear ha
        go_wp2_with fail
        have hbx : ∀ {W : World}, W.heap[w.heap.size]? = some (.cells #[.int .i64 x.kind, .int .i64 x.src, .int .i64 x.dst, .int .i64 x.term, .int .i64 x.index, .int .i64 x.logTerm, .bool x.yes] 44) → ∀ i, W.cell? ⟨w.heap.size, i, none⟩ = (#[.int .i64 x.kind, .int .i64 x.src, .int .i64 x.dst, .int .i64 x.term, .int .i64 x.index, .int .i64 x.logTerm, .bool x.yes] : Array Value)[i]? := fun h i => blk_cell h i
        obtain ⟨m1, es1, clock1, yv1, nv1, hx⟩ := HN.out
        have c2 := hx.cell 2
        simp only [nodeC, List.getElem?_toArray, List.getElem?_cons_zero, List.getElem?_cons_succ] at c2
        clear hx q0 q1 q2 q3 q4 q5 q6 r0 r1 r2 r3 r4 r5 r6 r7 r8 r9 r10 rz
        refine wp_region_in (fun W => W.heap[w.heap.size]? = some (.cells #[.int .i64 x.kind, .int .i64 x.src, .int .i64 x.dst, .int .i64 x.term, .int .i64 x.index, .int .i64 x.logTerm, .bool x.yes] 44) ∧ W.cell? ⟨b, 2, none⟩ = some (.int .i64 S.term)) (fun i => i == 10 || i == 11) (by kernel_rfl) (by kernel_rfl) (by exact ⟨HBX.out, c2⟩) ?_
        intro hne hx
        change wpStg _ _ _ _ _ _ _ _ wc.drew
        have hd := (Below.refl wc.heap.size wc).drew
        have HNd := Lib.hid (HN.out.below hd)
        have HKd := Lib.hid (HKK.out.below hd)
        have hbd := HBX.out
        have c2d := c2
        obtain ⟨W5, hW5⟩ : ∃ W5, W5 = wc.drew := ⟨_, rfl⟩
        replace hbd : W5.heap[w.heap.size]? = some (.cells #[.int .i64 x.kind, .int .i64 x.src, .int .i64 x.dst, .int .i64 x.term, .int .i64 x.index, .int .i64 x.logTerm, .bool x.yes] 44) := by rw [hW5]; exact hbd
        replace c2d : W5.cell? ⟨b, 2, none⟩ = some (.int .i64 S.term) := by rw [hW5]; exact c2d
        rw [← hW5] at HNd HKd ⊢
        clear hW5
        have s0 := fun (W : World) (h : W.heap[w.heap.size]? = some (.cells #[.int .i64 x.kind, .int .i64 x.src, .int .i64 x.dst, .int .i64 x.term, .int .i64 x.index, .int .i64 x.logTerm, .bool x.yes] 44) ∧ W.cell? ⟨b, 2, none⟩ = some (.int .i64 S.term)) => hbx h.1 0
        have s1 := fun (W : World) (h : W.heap[w.heap.size]? = some (.cells #[.int .i64 x.kind, .int .i64 x.src, .int .i64 x.dst, .int .i64 x.term, .int .i64 x.index, .int .i64 x.logTerm, .bool x.yes] 44) ∧ W.cell? ⟨b, 2, none⟩ = some (.int .i64 S.term)) => hbx h.1 1
        have s2 := fun (W : World) (h : W.heap[w.heap.size]? = some (.cells #[.int .i64 x.kind, .int .i64 x.src, .int .i64 x.dst, .int .i64 x.term, .int .i64 x.index, .int .i64 x.logTerm, .bool x.yes] 44) ∧ W.cell? ⟨b, 2, none⟩ = some (.int .i64 S.term)) => hbx h.1 2
        have s3 := fun (W : World) (h : W.heap[w.heap.size]? = some (.cells #[.int .i64 x.kind, .int .i64 x.src, .int .i64 x.dst, .int .i64 x.term, .int .i64 x.index, .int .i64 x.logTerm, .bool x.yes] 44) ∧ W.cell? ⟨b, 2, none⟩ = some (.int .i64 S.term)) => hbx h.1 3
        have s4 := fun (W : World) (h : W.heap[w.heap.size]? = some (.cells #[.int .i64 x.kind, .int .i64 x.src, .int .i64 x.dst, .int .i64 x.term, .int .i64 x.index, .int .i64 x.logTerm, .bool x.yes] 44) ∧ W.cell? ⟨b, 2, none⟩ = some (.int .i64 S.term)) => hbx h.1 4
        have s5 := fun (W : World) (h : W.heap[w.heap.size]? = some (.cells #[.int .i64 x.kind, .int .i64 x.src, .int .i64 x.dst, .int .i64 x.term, .int .i64 x.index, .int .i64 x.logTerm, .bool x.yes] 44) ∧ W.cell? ⟨b, 2, none⟩ = some (.int .i64 S.term)) => hbx h.1 5
        have s6 := fun (W : World) (h : W.heap[w.heap.size]? = some (.cells #[.int .i64 x.kind, .int .i64 x.src, .int .i64 x.dst, .int .i64 x.term, .int .i64 x.index, .int .i64 x.logTerm, .bool x.yes] 44) ∧ W.cell? ⟨b, 2, none⟩ = some (.int .i64 S.term)) => hbx h.1 6
        have s7 := fun (W : World) (h : W.heap[w.heap.size]? = some (.cells #[.int .i64 x.kind, .int .i64 x.src, .int .i64 x.dst, .int .i64 x.term, .int .i64 x.index, .int .i64 x.logTerm, .bool x.yes] 44) ∧ W.cell? ⟨b, 2, none⟩ = some (.int .i64 S.term)) => h.2
        simp only [List.getElem?_toArray, List.getElem?_cons_zero, List.getElem?_cons_succ] at s0 s1 s2 s3 s4 s5 s6
        clear hd c2
        refine stg_seg 10 (by dsimp only [List.take]) (by dsimp only [List.drop]) (by rfl) ?_
        repeat (go_big_quiet_step (fail))
        refine wpQuiet_nil ?_
        refine stg_loud (by rfl) ?_
        go_wp2_with fail
        refine (vote_at HNd.out x O).mono ?_; rintro e w6 ⟨rfl, L6, h6, k6, hL6⟩
        obtain ⟨k7, hL7⟩ := Moves.trans HKd.out (fun y hy => by rcases HLL.out y hy with h | h; exact .inl h; exact .inr (by omega)) k6 hL6
        have hb6 : w6.heap[w.heap.size]? = some (.cells #[.int .i64 x.kind, .int .i64 x.src, .int .i64 x.dst, .int .i64 x.term, .int .i64 x.index, .int .i64 x.logTerm, .bool x.yes] 44) := k6.blk hbd (fun hm => by
          rcases HLL.out _ hm with h | h
          · exact HNB.out h
          · omega)
        have c6 : w6.cell? ⟨b, 2, none⟩ = some (.int .i64 S.term) := by
          obtain ⟨m1, es1, clock1, yv1, nv1, hx⟩ := h6
          have := hx.cell 2
          simp only [nodeC, List.getElem?_toArray, List.getElem?_cons_zero, List.getElem?_cons_succ] at this
          rw [this]
          split <;> rfl
        have hid : (if (S).votes x O = true then (S).voteFor x.src else S).id = (S).id := by split <;> rfl
        go_wp2_with fail
        refine lq_in rfl (⟨hb6, c6⟩) ?_
        refine stg_loud (by rfl) ?_
        go_wp2_with fail
        refine (answer_at h6 x 4 (S).term ((S).votes x O)).mono ?_; rintro e w8 ⟨v, rfl, hbv, hb8⟩
        go_wp2_with fail
        refine lq_in rfl (⟨blk_below hb6 hb8 (blk_lt hb6), cell_keep hb8 c6⟩) ?_
        refine stg_seg 1 (by dsimp only [List.take]) (by dsimp only [List.drop]) (by rfl) ?_
        repeat (go_big_quiet_step (fail))
        refine wpQuiet_nil ?_
        refine stg_nil ?_
        clear hne hx
        go_wp2_with fail
        go_ret
        rw [hid] at hbv
        rw [HP.out]
        exact Sends.some h6 k7 hL7 hbv hb8
      | true =>
        have ha : S.term < x.term := by have := HA.out; simpa using this.symm
        have HT := Lib.hid (show S.asked x = S.down x.term by unfold Nd.asked; rw [if_pos ha])
        rw [HT.out] at HP
        clear ha
        go_wp2_with fail
        refine (down_at (HN0.out.below hb) x.term).mono ?_; rintro e w3 ⟨rfl, L3, h3, k3, hL3⟩
        have HN := Lib.hid h3
        have HKK := Lib.hid ((Chg.of_below (L := L) (bl_trans HB0.out hb)).trans k3)
        have HLL := Lib.hid (fun (y : Nat) (hy : y ∈ L3) => (show y ∈ L ∨ w0.heap.size ≤ y from (hL3 y hy).imp id (fun h => Nat.le_trans hb.size h)))
        have HBX := Lib.hid (k3.blk (blk_below HBK.out hb hlt0) HNB.out)
        clear h3 k3 hL3
        go_wp2_with fail
        have hbx : ∀ {W : World}, W.heap[w.heap.size]? = some (.cells #[.int .i64 x.kind, .int .i64 x.src, .int .i64 x.dst, .int .i64 x.term, .int .i64 x.index, .int .i64 x.logTerm, .bool x.yes] 44) → ∀ i, W.cell? ⟨w.heap.size, i, none⟩ = (#[.int .i64 x.kind, .int .i64 x.src, .int .i64 x.dst, .int .i64 x.term, .int .i64 x.index, .int .i64 x.logTerm, .bool x.yes] : Array Value)[i]? := fun h i => blk_cell h i
        obtain ⟨m1, es1, clock1, yv1, nv1, hx⟩ := HN.out
        have c2 := hx.cell 2
        simp only [nodeC, List.getElem?_toArray, List.getElem?_cons_zero, List.getElem?_cons_succ] at c2
        clear hx q0 q1 q2 q3 q4 q5 q6 r0 r1 r2 r3 r4 r5 r6 r7 r8 r9 r10 rz
        refine wp_region_in (fun W => W.heap[w.heap.size]? = some (.cells #[.int .i64 x.kind, .int .i64 x.src, .int .i64 x.dst, .int .i64 x.term, .int .i64 x.index, .int .i64 x.logTerm, .bool x.yes] 44) ∧ W.cell? ⟨b, 2, none⟩ = some (.int .i64 (S.down x.term).term)) (fun i => i == 10 || i == 11) (by kernel_rfl) (by kernel_rfl) (by exact ⟨HBX.out, c2⟩) ?_
        intro hne hx
        change wpStg _ _ _ _ _ _ _ _ w3.drew
        have hd := (Below.refl w3.heap.size w3).drew
        have HNd := Lib.hid (HN.out.below hd)
        have HKd := Lib.hid (HKK.out.below hd)
        have hbd := HBX.out
        have c2d := c2
        obtain ⟨W5, hW5⟩ : ∃ W5, W5 = w3.drew := ⟨_, rfl⟩
        replace hbd : W5.heap[w.heap.size]? = some (.cells #[.int .i64 x.kind, .int .i64 x.src, .int .i64 x.dst, .int .i64 x.term, .int .i64 x.index, .int .i64 x.logTerm, .bool x.yes] 44) := by rw [hW5]; exact hbd
        replace c2d : W5.cell? ⟨b, 2, none⟩ = some (.int .i64 (S.down x.term).term) := by rw [hW5]; exact c2d
        rw [← hW5] at HNd HKd ⊢
        clear hW5
        have s0 := fun (W : World) (h : W.heap[w.heap.size]? = some (.cells #[.int .i64 x.kind, .int .i64 x.src, .int .i64 x.dst, .int .i64 x.term, .int .i64 x.index, .int .i64 x.logTerm, .bool x.yes] 44) ∧ W.cell? ⟨b, 2, none⟩ = some (.int .i64 (S.down x.term).term)) => hbx h.1 0
        have s1 := fun (W : World) (h : W.heap[w.heap.size]? = some (.cells #[.int .i64 x.kind, .int .i64 x.src, .int .i64 x.dst, .int .i64 x.term, .int .i64 x.index, .int .i64 x.logTerm, .bool x.yes] 44) ∧ W.cell? ⟨b, 2, none⟩ = some (.int .i64 (S.down x.term).term)) => hbx h.1 1
        have s2 := fun (W : World) (h : W.heap[w.heap.size]? = some (.cells #[.int .i64 x.kind, .int .i64 x.src, .int .i64 x.dst, .int .i64 x.term, .int .i64 x.index, .int .i64 x.logTerm, .bool x.yes] 44) ∧ W.cell? ⟨b, 2, none⟩ = some (.int .i64 (S.down x.term).term)) => hbx h.1 2
        have s3 := fun (W : World) (h : W.heap[w.heap.size]? = some (.cells #[.int .i64 x.kind, .int .i64 x.src, .int .i64 x.dst, .int .i64 x.term, .int .i64 x.index, .int .i64 x.logTerm, .bool x.yes] 44) ∧ W.cell? ⟨b, 2, none⟩ = some (.int .i64 (S.down x.term).term)) => hbx h.1 3
        have s4 := fun (W : World) (h : W.heap[w.heap.size]? = some (.cells #[.int .i64 x.kind, .int .i64 x.src, .int .i64 x.dst, .int .i64 x.term, .int .i64 x.index, .int .i64 x.logTerm, .bool x.yes] 44) ∧ W.cell? ⟨b, 2, none⟩ = some (.int .i64 (S.down x.term).term)) => hbx h.1 4
        have s5 := fun (W : World) (h : W.heap[w.heap.size]? = some (.cells #[.int .i64 x.kind, .int .i64 x.src, .int .i64 x.dst, .int .i64 x.term, .int .i64 x.index, .int .i64 x.logTerm, .bool x.yes] 44) ∧ W.cell? ⟨b, 2, none⟩ = some (.int .i64 (S.down x.term).term)) => hbx h.1 5
        have s6 := fun (W : World) (h : W.heap[w.heap.size]? = some (.cells #[.int .i64 x.kind, .int .i64 x.src, .int .i64 x.dst, .int .i64 x.term, .int .i64 x.index, .int .i64 x.logTerm, .bool x.yes] 44) ∧ W.cell? ⟨b, 2, none⟩ = some (.int .i64 (S.down x.term).term)) => hbx h.1 6
        have s7 := fun (W : World) (h : W.heap[w.heap.size]? = some (.cells #[.int .i64 x.kind, .int .i64 x.src, .int .i64 x.dst, .int .i64 x.term, .int .i64 x.index, .int .i64 x.logTerm, .bool x.yes] 44) ∧ W.cell? ⟨b, 2, none⟩ = some (.int .i64 (S.down x.term).term)) => h.2
        simp only [List.getElem?_toArray, List.getElem?_cons_zero, List.getElem?_cons_succ] at s0 s1 s2 s3 s4 s5 s6
        clear hd c2
        refine stg_seg 10 (by dsimp only [List.take]) (by dsimp only [List.drop]) (by rfl) ?_
        repeat (go_big_quiet_step (fail))
        refine wpQuiet_nil ?_
        refine stg_loud (by rfl) ?_
        go_wp2_with fail
        refine (vote_at HNd.out x O).mono ?_; rintro e w6 ⟨rfl, L6, h6, k6, hL6⟩
        obtain ⟨k7, hL7⟩ := Moves.trans HKd.out (fun y hy => by rcases HLL.out y hy with h | h; exact .inl h; exact .inr (by omega)) k6 hL6
        have hb6 : w6.heap[w.heap.size]? = some (.cells #[.int .i64 x.kind, .int .i64 x.src, .int .i64 x.dst, .int .i64 x.term, .int .i64 x.index, .int .i64 x.logTerm, .bool x.yes] 44) := k6.blk hbd (fun hm => by
          rcases HLL.out _ hm with h | h
          · exact HNB.out h
          · omega)
        have c6 : w6.cell? ⟨b, 2, none⟩ = some (.int .i64 (S.down x.term).term) := by
          obtain ⟨m1, es1, clock1, yv1, nv1, hx⟩ := h6
          have := hx.cell 2
          simp only [nodeC, List.getElem?_toArray, List.getElem?_cons_zero, List.getElem?_cons_succ] at this
          rw [this]
          split <;> rfl
        have hid : (if ((S.down x.term)).votes x O = true then ((S.down x.term)).voteFor x.src else (S.down x.term)).id = ((S.down x.term)).id := by split <;> rfl
        go_wp2_with fail
        refine lq_in rfl (⟨hb6, c6⟩) ?_
        refine stg_loud (by rfl) ?_
        go_wp2_with fail
        refine (answer_at h6 x 4 ((S.down x.term)).term (((S.down x.term)).votes x O)).mono ?_; rintro e w8 ⟨v, rfl, hbv, hb8⟩
        go_wp2_with fail
        refine lq_in rfl (⟨blk_below hb6 hb8 (blk_lt hb6), cell_keep hb8 c6⟩) ?_
        refine stg_seg 1 (by dsimp only [List.take]) (by dsimp only [List.drop]) (by rfl) ?_
        repeat (go_big_quiet_step (fail))
        refine wpQuiet_nil ?_
        refine stg_nil ?_
        clear hne hx
        go_wp2_with fail
        go_ret
        rw [hid] at hbv
        rw [HP.out]
        exact Sends.some h6 k7 hL7 hbv hb8
    have e5 : (x.kind == 3) = false := by simp [k3]
    by_cases k4 : x.kind = 4
    · have e6 : (x.kind == 2) = false := by simp [k4]
      have e7 : (x.kind == 4) = true := by simp [k4]
      have HP := Lib.hid (take_say (last := last) (lt := lt) HG.out k4)
      clear k1 k3 k4
      cases A with
      | true =>
        have ha : S.term < x.term := by have := HA.out; simpa using this.symm
        have HS := Lib.hid (show S.take x last lt = (S.down x.term, []) by rw [HP.out, if_pos ha])
        clear ha
        go_wp2_with fail
        refine (down_at (HN0.out.below hb) x.term).mono ?_; rintro e w3 ⟨rfl, L3, h3, k3, hL3⟩
        have HN := Lib.hid h3
        have HKK := Lib.hid ((Chg.of_below (L := L) (bl_trans HB0.out hb)).trans k3)
        have HLL := Lib.hid (fun (y : Nat) (hy : y ∈ L3) => (show y ∈ L ∨ w.heap.size ≤ y from (hL3 y hy).imp id (fun h => by have := hb.size; omega)))
        clear h3 k3 hL3
        go_wp2_with fail
        go_ret
        rw [HS.out]
        exact Sends.none HN.out HKK.out HLL.out
      | false =>
        have ha : ¬ S.term < x.term := by have := HA.out; simpa using this.symm
        rw [if_neg ha] at HP
        clear ha
        by_cases hr : S.role = 2
        · have e8 : (S.role == 2) = true := by simp [hr]
          by_cases ht : x.term = S.term
          · have e9 : (x.term == S.term) = true := by simp [ht]
            have HS := Lib.hid (HP.out.trans (if_pos ⟨hr, ht⟩))
            clear hr ht
            go_wp2_with fail
            refine wp_region_in (Below w0.heap.size w0) (fun _ => false) (by kernel_rfl) (by kernel_rfl) (by exact hb.drew) ?_
            intro hne hx
            replace hb := hb.drew
            change wpStg _ _ _ _ _ _ _ _ wc.drew
            obtain ⟨W1, hW1⟩ : ∃ W1, W1 = wc.drew := ⟨_, rfl⟩
            rw [← hW1] at hb ⊢
            clear hW1
            refine stg_seg 16 (by dsimp only [List.take]) (by dsimp only [List.drop]) (by rfl) ?_
            repeat (go_big_quiet_step (fail))
            refine wpQuiet_nil ?_
            refine stg_nil ?_
            clear hne hx
            go_wp2_with fail
            refine (say_at (HN0.out.below hb) hy9 hn9 x.src x.yes).mono ?_; rintro e w3 ⟨rfl, L3, h3, k3, hL3⟩
            obtain ⟨k4, hL4⟩ := Moves.trans (L := L) (.of_below (bl_trans HB0.out hb)) (fun x hx => .inl hx) k3 hL3
            go_wp2_with fail
            refine (counted_at h3 (by rw [(says_same S x.src x.yes).1]; exact h0) (by rw [(says_same S x.src x.yes).2]; exact hv) last lt).mono ?_; rintro e w5 ⟨v, rfl, L5, h5, k5, hL5, hb5, ho5⟩
            obtain ⟨k6, hL6⟩ := Moves.trans k4 hL4 k5 hL5
            go_wp2_with fail
            go_ret
            rw [HS.out]
            exact Sends.none h5 k6 hL6
          · have e9 : (x.term == S.term) = false := by simp [ht]
            have HS := Lib.hid (HP.out.trans (if_neg (fun h => ht h.2)))
            clear hr ht
            go_wp2_with fail
            refine wp_region_in (Below w0.heap.size w0) (fun _ => false) (by kernel_rfl) (by kernel_rfl) (by exact hb.drew) ?_
            intro hne hx
            replace hb := hb.drew
            change wpStg _ _ _ _ _ _ _ _ wc.drew
            obtain ⟨W1, hW1⟩ : ∃ W1, W1 = wc.drew := ⟨_, rfl⟩
            rw [← hW1] at hb ⊢
            clear hW1
            refine stg_seg 16 (by dsimp only [List.take]) (by dsimp only [List.drop]) (by rfl) ?_
            repeat (go_big_quiet_step (fail))
            refine wpQuiet_nil ?_
            refine stg_nil ?_
            clear hne hx
            go_wp2_with fail
            go_ret
            rw [HS.out]
            exact Sends.none (HN0.out.below hb) (.of_below (bl_trans HB0.out hb)) (fun x hx => .inl hx)
        · have e8 : (S.role == 2) = false := by simp [hr]
          have HS := Lib.hid (HP.out.trans (if_neg (fun h => hr h.1)))
          clear hr
          go_wp2_with fail
          refine wp_region_in (Below w0.heap.size w0) (fun _ => false) (by kernel_rfl) (by kernel_rfl) (by exact hb.drew) ?_
          intro hne hx
          replace hb := hb.drew
          change wpStg _ _ _ _ _ _ _ _ wc.drew
          obtain ⟨W1, hW1⟩ : ∃ W1, W1 = wc.drew := ⟨_, rfl⟩
          rw [← hW1] at hb ⊢
          clear hW1
          refine stg_seg 16 (by dsimp only [List.take]) (by dsimp only [List.drop]) (by rfl) ?_
          repeat (go_big_quiet_step (fail))
          refine wpQuiet_nil ?_
          refine stg_nil ?_
          clear hne hx
          go_wp2_with fail
          go_ret
          rw [HS.out]
          exact Sends.none (HN0.out.below hb) (.of_below (bl_trans HB0.out hb)) (fun x hx => .inl hx)
    have e7 : (x.kind == 4) = false := by simp [k4]
    by_cases k2 : x.kind = 2
    · have e6 : (x.kind == 2) = true := by simp [k2]
      have HP := Lib.hid (take_presay (last := last) (lt := lt) HG.out k2)
      clear k1 k3 k4 k2
      have ht0 : (-9223372036854775808 : Int) ≤ S.term + 1 := by omega
      have ht1 : S.term + 1 ≤ (9223372036854775807 : Int) := by unfold maxIx at ht9; omega
      have hwt : IntKind.i64.wrap (S.term + 1) = S.term + 1 := IntWalk.i64_in _ (by omega)
      cases hY : x.yes with
      | false =>
        rw [hY] at HP q6
        cases A with
        | true =>
          have ha : S.term < x.term := by have := HA.out; simpa using this.symm
          have HS := Lib.hid (HP.out.trans (if_pos ⟨ha, rfl⟩))
          clear ha
          go_wp2_with fail
          refine (down_at (HN0.out.below hb) x.term).mono ?_; rintro e w3 ⟨rfl, L3, h3, k3, hL3⟩
          have HN := Lib.hid h3
          have HKK := Lib.hid ((Chg.of_below (L := L) (bl_trans HB0.out hb)).trans k3)
          have HLL := Lib.hid (fun (y : Nat) (hy : y ∈ L3) => (show y ∈ L ∨ w.heap.size ≤ y from (hL3 y hy).imp id (fun h => by have := hb.size; omega)))
          clear h3 k3 hL3
          go_wp2_with fail
          go_ret
          rw [HS.out]
          exact Sends.none HN.out HKK.out HLL.out
        | false =>
          have ha : ¬ S.term < x.term := by have := HA.out; simpa using this.symm
          rw [if_neg (fun h => ha h.1)] at HP
          clear ha
          by_cases hr : S.role = 1
          · have e8 : (S.role == 1) = true := by simp [hr]
            have HS := Lib.hid (HP.out.trans (if_pos ⟨hr, .inl rfl⟩))
            clear hr
            go_wp2_with fail
            refine wp_region_in (Below w0.heap.size w0) (fun _ => false) (by kernel_rfl) (by kernel_rfl) (by exact hb.drew) ?_
            intro hne hx
            replace hb := hb.drew
            change wpStg _ _ _ _ _ _ _ _ wc.drew
            obtain ⟨W1, hW1⟩ : ∃ W1, W1 = wc.drew := ⟨_, rfl⟩
            rw [← hW1] at hb ⊢
            clear hW1
            refine stg_seg 22 (by dsimp only [List.take]) (by dsimp only [List.drop]) (by rfl) ?_
            repeat (go_big_quiet_step (fail))
            refine wpQuiet_nil ?_
            refine stg_nil ?_
            clear hne hx
            go_wp2_with fail
            refine (say_at (HN0.out.below hb) hy9 hn9 x.src false).mono ?_; rintro e w3 ⟨rfl, L3, h3, k3, hL3⟩
            obtain ⟨k4, hL4⟩ := Moves.trans (L := L) (.of_below (bl_trans HB0.out hb)) (fun x hx => .inl hx) k3 hL3
            go_wp2_with fail
            refine (counted_at h3 (by rw [(says_same S x.src false).1]; exact h0) (by rw [(says_same S x.src false).2]; exact hv) last lt).mono ?_; rintro e w5 ⟨v, rfl, L5, h5, k5, hL5, hb5, ho5⟩
            obtain ⟨k6, hL6⟩ := Moves.trans k4 hL4 k5 hL5
            go_wp2_with fail
            go_ret
            rw [HS.out]
            exact ⟨v, rfl, L5, h5, k6, hL6, hb5.from_ (k4.size), ho5⟩
          · have e8 : (S.role == 1) = false := by simp [hr]
            have HS := Lib.hid (HP.out.trans (if_neg (fun h => hr h.1)))
            clear hr
            go_wp2_with fail
            refine wp_region_in (Below w0.heap.size w0) (fun _ => false) (by kernel_rfl) (by kernel_rfl) (by exact hb.drew) ?_
            intro hne hx
            replace hb := hb.drew
            change wpStg _ _ _ _ _ _ _ _ wc.drew
            obtain ⟨W1, hW1⟩ : ∃ W1, W1 = wc.drew := ⟨_, rfl⟩
            rw [← hW1] at hb ⊢
            clear hW1
            refine stg_seg 22 (by dsimp only [List.take]) (by dsimp only [List.drop]) (by rfl) ?_
            repeat (go_big_quiet_step (fail))
            refine wpQuiet_nil ?_
            refine stg_nil ?_
            clear hne hx
            go_wp2_with fail
            go_ret
            rw [HS.out]
            exact Sends.none (HN0.out.below hb) (.of_below (bl_trans HB0.out hb)) (fun x hx => .inl hx)
      | true =>
        rw [hY] at HP q6
        rw [if_neg (by rintro ⟨_, h⟩; cases h)] at HP
        by_cases hr : S.role = 1
        · have e8 : (S.role == 1) = true := by simp [hr]
          by_cases ht : x.term = S.term + 1
          · have e9 : (x.term == S.term + 1) = true := by simp [ht]
            have HS := Lib.hid (HP.out.trans (if_pos ⟨hr, .inr ht⟩))
            clear hr ht
            cases A with
            | true =>
              go_wp2_with fail
              refine wp_region_in (Below w0.heap.size w0) (fun _ => false) (by kernel_rfl) (by kernel_rfl) (by exact hb.drew) ?_
              intro hne hx
              replace hb := hb.drew
              change wpStg _ _ _ _ _ _ _ _ wc.drew
              obtain ⟨W1, hW1⟩ : ∃ W1, W1 = wc.drew := ⟨_, rfl⟩
              rw [← hW1] at hb ⊢
              clear hW1
              refine stg_seg 22 (by dsimp only [List.take]) (by dsimp only [List.drop]) (by rfl) ?_
              repeat (go_big_quiet_step (fail))
              refine wpQuiet_nil ?_
              refine stg_nil ?_
              clear hne hx
              go_wp2_with fail
              refine (say_at (HN0.out.below hb) hy9 hn9 x.src true).mono ?_; rintro e w3 ⟨rfl, L3, h3, k3, hL3⟩
              obtain ⟨k4, hL4⟩ := Moves.trans (L := L) (.of_below (bl_trans HB0.out hb)) (fun x hx => .inl hx) k3 hL3
              go_wp2_with fail
              refine (counted_at h3 (by rw [(says_same S x.src true).1]; exact h0) (by rw [(says_same S x.src true).2]; exact hv) last lt).mono ?_; rintro e w5 ⟨v, rfl, L5, h5, k5, hL5, hb5, ho5⟩
              obtain ⟨k6, hL6⟩ := Moves.trans k4 hL4 k5 hL5
              go_wp2_with fail
              go_ret
              rw [HS.out]
              exact ⟨v, rfl, L5, h5, k6, hL6, hb5.from_ (k4.size), ho5⟩
            | false =>
              go_wp2_with fail
              refine wp_region_in (Below w0.heap.size w0) (fun _ => false) (by kernel_rfl) (by kernel_rfl) (by exact hb.drew) ?_
              intro hne hx
              replace hb := hb.drew
              change wpStg _ _ _ _ _ _ _ _ wc.drew
              obtain ⟨W1, hW1⟩ : ∃ W1, W1 = wc.drew := ⟨_, rfl⟩
              rw [← hW1] at hb ⊢
              clear hW1
              refine stg_seg 22 (by dsimp only [List.take]) (by dsimp only [List.drop]) (by rfl) ?_
              repeat (go_big_quiet_step (fail))
              refine wpQuiet_nil ?_
              refine stg_nil ?_
              clear hne hx
              go_wp2_with fail
              refine (say_at (HN0.out.below hb) hy9 hn9 x.src true).mono ?_; rintro e w3 ⟨rfl, L3, h3, k3, hL3⟩
              obtain ⟨k4, hL4⟩ := Moves.trans (L := L) (.of_below (bl_trans HB0.out hb)) (fun x hx => .inl hx) k3 hL3
              go_wp2_with fail
              refine (counted_at h3 (by rw [(says_same S x.src true).1]; exact h0) (by rw [(says_same S x.src true).2]; exact hv) last lt).mono ?_; rintro e w5 ⟨v, rfl, L5, h5, k5, hL5, hb5, ho5⟩
              obtain ⟨k6, hL6⟩ := Moves.trans k4 hL4 k5 hL5
              go_wp2_with fail
              go_ret
              rw [HS.out]
              exact ⟨v, rfl, L5, h5, k6, hL6, hb5.from_ (k4.size), ho5⟩
          · have e9 : (x.term == S.term + 1) = false := by simp [ht]
            have HS := Lib.hid (HP.out.trans (if_neg (by rintro ⟨_, h | h⟩; cases h; exact ht h)))
            clear hr ht
            cases A with
            | true =>
              go_wp2_with fail
              refine wp_region_in (Below w0.heap.size w0) (fun _ => false) (by kernel_rfl) (by kernel_rfl) (by exact hb.drew) ?_
              intro hne hx
              replace hb := hb.drew
              change wpStg _ _ _ _ _ _ _ _ wc.drew
              obtain ⟨W1, hW1⟩ : ∃ W1, W1 = wc.drew := ⟨_, rfl⟩
              rw [← hW1] at hb ⊢
              clear hW1
              refine stg_seg 22 (by dsimp only [List.take]) (by dsimp only [List.drop]) (by rfl) ?_
              repeat (go_big_quiet_step (fail))
              refine wpQuiet_nil ?_
              refine stg_nil ?_
              clear hne hx
              go_wp2_with fail
              go_ret
              rw [HS.out]
              exact Sends.none (HN0.out.below hb) (.of_below (bl_trans HB0.out hb)) (fun x hx => .inl hx)
            | false =>
              go_wp2_with fail
              refine wp_region_in (Below w0.heap.size w0) (fun _ => false) (by kernel_rfl) (by kernel_rfl) (by exact hb.drew) ?_
              intro hne hx
              replace hb := hb.drew
              change wpStg _ _ _ _ _ _ _ _ wc.drew
              obtain ⟨W1, hW1⟩ : ∃ W1, W1 = wc.drew := ⟨_, rfl⟩
              rw [← hW1] at hb ⊢
              clear hW1
              refine stg_seg 22 (by dsimp only [List.take]) (by dsimp only [List.drop]) (by rfl) ?_
              repeat (go_big_quiet_step (fail))
              refine wpQuiet_nil ?_
              refine stg_nil ?_
              clear hne hx
              go_wp2_with fail
              go_ret
              rw [HS.out]
              exact Sends.none (HN0.out.below hb) (.of_below (bl_trans HB0.out hb)) (fun x hx => .inl hx)
        · have e8 : (S.role == 1) = false := by simp [hr]
          have HS := Lib.hid (HP.out.trans (if_neg (fun h => hr h.1)))
          clear hr
          cases A with
          | true =>
            go_wp2_with fail
            refine wp_region_in (Below w0.heap.size w0) (fun _ => false) (by kernel_rfl) (by kernel_rfl) (by exact hb.drew) ?_
            intro hne hx
            replace hb := hb.drew
            change wpStg _ _ _ _ _ _ _ _ wc.drew
            obtain ⟨W1, hW1⟩ : ∃ W1, W1 = wc.drew := ⟨_, rfl⟩
            rw [← hW1] at hb ⊢
            clear hW1
            refine stg_seg 22 (by dsimp only [List.take]) (by dsimp only [List.drop]) (by rfl) ?_
            repeat (go_big_quiet_step (fail))
            refine wpQuiet_nil ?_
            refine stg_nil ?_
            clear hne hx
            go_wp2_with fail
            go_ret
            rw [HS.out]
            exact Sends.none (HN0.out.below hb) (.of_below (bl_trans HB0.out hb)) (fun x hx => .inl hx)
          | false =>
            go_wp2_with fail
            refine wp_region_in (Below w0.heap.size w0) (fun _ => false) (by kernel_rfl) (by kernel_rfl) (by exact hb.drew) ?_
            intro hne hx
            replace hb := hb.drew
            change wpStg _ _ _ _ _ _ _ _ wc.drew
            obtain ⟨W1, hW1⟩ : ∃ W1, W1 = wc.drew := ⟨_, rfl⟩
            rw [← hW1] at hb ⊢
            clear hW1
            refine stg_seg 22 (by dsimp only [List.take]) (by dsimp only [List.drop]) (by rfl) ?_
            repeat (go_big_quiet_step (fail))
            refine wpQuiet_nil ?_
            refine stg_nil ?_
            clear hne hx
            go_wp2_with fail
            go_ret
            rw [HS.out]
            exact Sends.none (HN0.out.below hb) (.of_below (bl_trans HB0.out hb)) (fun x hx => .inl hx)
    have e6 : (x.kind == 2) = false := by simp [k2]
    have HS := Lib.hid (take_other (S := S) (last := last) (lt := lt) k1 k2 k3 k4)
    clear k1 k2 k3 k4
    go_wp2_with fail
    go_ret
    rw [HS.out]
    exact Sends.none (HN0.out.below hb) (.of_below (bl_trans HB0.out hb)) (fun x hx => .inl hx)
end Go.Proofs.Ytiamfdnllpiikaa
