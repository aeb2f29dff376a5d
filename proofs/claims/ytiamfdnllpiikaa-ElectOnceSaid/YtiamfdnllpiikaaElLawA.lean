/- ElectAlone: who is alone in its group leads just at the tick of its patience. Conditions: none. -/
import Derived.Test.YtiamfdnllpiikaaElAwake
namespace Go.Proofs.Ytiamfdnllpiikaa
open Go.RowKit

section staged
variable {P : Program} {ops : Array Oper} {C0 : World → Prop} {L : Nat → Bool}
/-- A writing operation that is passed over. -/
theorem stg_skip {Q : Act → World → Prop} {o : Oper} {rest : List Oper} {k : Nat} {a : Act} {w : World} (hL : L k = true) (hw : Region.wanted o (yielded ops a.tmps) = false) (hC : C0 w)
    (h : wpStg P ops (fun w' => ∃ x : Wd C0, w' = x.w) L Q rest (k + 1) (a.put o.dst undef) w) : wpStg P ops (fun w' => ∃ x : Wd C0, w' = x.w) L Q (o :: rest) k a w := by
  unfold wpStg
  rw [if_pos hL]
  unfold wpList
  rw [if_neg (by rw [hw]; decide)]
  exact ⟨by unfold Act.put; cases o.dst <;> rfl, ⟨⟨w, hC⟩, rfl⟩, h⟩
end staged
theorem Bals.len {w0 w : World} {v : Value} {l : List Bal} (h : Bals w0 w v l) : ∃ ad cap, v = .slice ad l.length cap ∧ l.length ≤ cap ∧ cap ≤ maxLen := by
  rcases h.2 with ⟨rfl, h0⟩ | ⟨g, cap, cur, rfl, _, _, h1, h2, _⟩
  · exact ⟨none, 0, by rw [h0], by omega, by simp⟩
  · exact ⟨_, cap, rfl, h1, h2⟩
theorem gs_one {w : World} {id : Int} : GsAt (w.alloc (.cells #[.int .i64 id] 3)) (some ⟨w.heap.size, 0, none⟩) [id] := fun j hj => ⟨w.heap.size, 0, rfl, by
    have hj0 : j = 0 := by simpa using hj
    subst hj0
    exact blk_cell (blk_new w _ rfl) 0⟩
theorem newOk_no {id term vote pat : Int} {vs ls : List Int} (h : newOk id term vote pat vs ls = true) : 1 ≤ id ∧ id ≤ 15 ∧ 0 ≤ term ∧ term ≤ maxIx ∧ 0 ≤ vote ∧ vote ≤ 15 ∧ 1 ≤ pat ∧ pat ≤ 1000 ∧ rightG vs ls = true := by
  unfold newOk at h
  simp only [Bool.and_eq_true, decide_eq_true_eq] at h
  obtain ⟨⟨⟨⟨⟨⟨⟨⟨a1, a2⟩, a3⟩, a4⟩, a5⟩, a6⟩, a7⟩, a8⟩, a9⟩ := h
  exact ⟨a1, a2, a3, a4, a5, a6, a7, a8, a9⟩
set_option maxRecDepth 100000 in
set_option maxHeartbeats 2000000 in
theorem electAlone_at (term vote id pat : Int) (w : World) (hp : pat ≤ 9223372036854775807) :
    Calls Try.prog 3 #[.agg #[.int .i64 term, .int .i64 vote], .int .i64 id, .int .i64 pat] w fun e w' => e = .returned (.bool true) ∧ Below w.heap.size w w' := by
  have HB := Lib.hid (bl_alloc (Below.refl w.heap.size w) (.cells #[.int .i64 term, .int .i64 vote] 23))
  have hblk : (w.alloc (.cells #[.int .i64 term, .int .i64 vote] 23)).heap[w.heap.size]? = some (.cells #[.int .i64 term, .int .i64 vote] 23) := blk_new w _ rfl
  obtain ⟨w0, hw0⟩ : ∃ w0, w0 = w.alloc (.cells #[.int .i64 term, .int .i64 vote] 23) := ⟨_, rfl⟩
  rw [← hw0] at HB hblk
  have HW0 := Lib.hid hw0.symm
  have q0 : ∀ w', Below w0.heap.size w0 w' → w'.cell? ⟨w.heap.size, 0, none⟩ = some (.int .i64 term) := fun w' h => blk_cell (blk_below hblk h (blk_lt hblk)) 0
  have q1 : ∀ w', Below w0.heap.size w0 w' → w'.cell? ⟨w.heap.size, 1, none⟩ = some (.int .i64 vote) := fun w' h => blk_cell (blk_below hblk h (blk_lt hblk)) 1
  have hb := Below.refl w0.heap.size w0
  clear hw0 hblk
  by_cases hok : newOk id term vote pat [id] [] = true
  case neg =>
    have HO := Lib.hid hok
    clear hok
    go_enter Try.func3, Try.ntmps3
    go_wp2_with fail
    rw [HW0.out]
    refine (awake_at _).mono ?_; rintro e w1 ⟨rfl, hb1⟩
    replace hb := bl_trans hb hb1
    clear hb1
    go_wp2_with fail
    have hb2 := bl_alloc hb (.cells #[.int .i64 id] 3)
    refine (new_at id term vote pat [id] [] (some ⟨w1.heap.size, 0, none⟩) 1 none 0 _ gs_one (fun j hj => by simp at hj) (by simp [maxLen]) (by simp)).mono ?_
    rintro e w2 (⟨_, rfl, hb3⟩ | ⟨h, _⟩)
    · have hb4 := bl_trans hb2 hb3
      go_wp2_with fail
      go_ret
      exact ⟨rfl, bl_trans HB.out hb4⟩
    · exact absurd h HO.out
  obtain ⟨hi1, hi9, ht0, ht9, _, _, hp1, hp9, _⟩ := newOk_no hok
  have HO := Lib.hid hok
  clear hok
  go_enter Try.func3, Try.ntmps3
  go_wp2_with fail
  rw [HW0.out]
  refine (awake_at _).mono ?_; rintro e w1 ⟨rfl, hb1⟩
  replace hb := bl_trans hb hb1
  clear hb1
  go_wp2_with fail
  have hb2 := bl_alloc hb (.cells #[.int .i64 id] 3)
  refine (new_at id term vote pat [id] [] (some ⟨w1.heap.size, 0, none⟩) 1 none 0 _ gs_one (fun j hj => by simp at hj) (by simp [maxLen]) (by simp)).mono ?_
  rintro e w2 (⟨h, _⟩ | ⟨_, b, L, rfl, hN, hb3, hL⟩)
  · exact absurd HO.out (by rw [h]; decide)
  have hb4 := bl_trans hb2 hb3
  have HN := Lib.hid hN
  have HL := Lib.hid (show ∀ x, x ∈ L → w0.heap.size ≤ x from fun x hx => Nat.le_trans hb2.size (hL x hx))
  have HS := Lib.hid (fun (k : Nat) (S : Nd) => @alone_step id term vote pat (some ⟨w1.heap.size, 0, none⟩) 1 none 0 hi1 hi9 k S)
  obtain ⟨S0, hS0⟩ : ∃ S0, S0 = newNd id term vote pat [id] [] (some ⟨w1.heap.size, 0, none⟩) 1 none 0 := ⟨_, rfl⟩
  rw [← hS0] at HN HS
  have HF := Lib.hid (show S0.id = id ∧ S0.term = term ∧ S0.pat = pat ∧ S0.role = 0 ∧ S0.vs = [id] ∧ S0.waited = 0 by rw [hS0]; exact ⟨rfl, rfl, rfl, rfl, rfl, rfl⟩)
  have HZ := Lib.hid (show S0 = { S0 with waited := ((0 : Nat) : Int) } by rw [hS0]; rfl)
  clear hS0 hN hL hb2 hb3 hb
  have hb := hb4
  clear hb4
  have hmx : maxIx = 1099511627776 := rfl
  go_wp2_with fail
  go_loopg [10] pat.toNat (fun g i wr => Below w0.heap.size w0 wr ∧ ∃ k : Nat, (k : Int) ≤ pat ∧ g = (pat - k).toNat ∧ i = .int .i64 ((k : Int) + 1) ∧ ∃ S L', Alone S0 k S ∧ NodeAt wr b S L' ∧ ∀ x, x ∈ L' → w0.heap.size ≤ x)
  case atStart => exact ⟨hb, 0, by omega, by omega, rfl, S0, L, .inl ⟨by rw [HF.out.2.2.1]; omega, HZ.out⟩, HN.out, HL.out⟩
  case round =>
    clear hb
    obtain ⟨hb, k, hk0, hgk, rfl, S, L', hA, hN, hL⟩ := hrel
    have HGK := Lib.hid hgk
    clear hgk
    by_cases hk : (k : Int) < pat
    · have e1 : decide ((k : Int) + 1 ≤ pat) = true := decide_eq_true (by omega)
      have hSe := alone_sane hA (by rw [HF.out.2.2.1]; exact hk)
      obtain ⟨hs1, hs2⟩ := HS.out k S hk hA
      obtain ⟨f1, f2, f3, f4, f5, f6⟩ := HF.out
      have hT := tick_at hN (by rw [hSe]; simp only; omega) (by rw [hSe]; simp only; omega) (by rw [hSe]; simp [f5]) (by rw [hSe]; simp only; omega) (by rw [hSe]; simp only; omega) (by rw [hSe]; simp only; omega) (by rw [hSe]; simp only; omega) 0 0 0
      rw [hs1] at hT
      have hR := alone_role f4 hs2
      obtain ⟨S', hS'⟩ : ∃ S', S' = (S.tick 0 0 0).1 := ⟨_, rfl⟩
      rw [← hS'] at hT hs2 hR
      have HA := Lib.hid hs2
      have HLL := Lib.hid hL
      have HT := Lib.hid hT
      rw [f3, f2, hmx] at hR
      clear hS' hSe hA hN hs1 hs2 hL hT f1 f2 f3 f4 f5 f6
      go_wp2_with fail
      refine HT.out.mono ?_; rintro e w3 ⟨v, rfl, L3, hN3, k3, hL3, hv3, _⟩
      obtain ⟨va, vc, rfl, _, _⟩ := hv3.len
      have hb3 := hb.trans (k3.to_below hb.size HLL.out)
      have HL3 := Lib.hid (show ∀ x, x ∈ L3 → w0.heap.size ≤ x from fun x hx => by
        rcases hL3 x hx with h | h
        · exact HLL.out x h
        · exact Nat.le_trans hb.size h)
      have HN3 := Lib.hid hN3
      have hro := role_at hN3
      clear hv3 hL3 k3 hN3 HT HLL hb
      go_wp2_with fail
      refine hro.mono ?_; rintro e w4 ⟨rfl, rfl⟩
      have q3 := q0 _ hb3
      clear q0 q1
      have hwr : IntKind.i64.wrap ((k : Int) + 1 + 1) = (k : Int) + 1 + 1 := IntWalk.i64_in _ (by omega)
      by_cases hl1 : (k : Int) + 1 = pat
      · have e2 : ((k : Int) + 1 == pat) = true := by simp [hl1]
        by_cases hl2 : term < 1099511627776
        · have e3 : (S'.role == 3) = true := by simp [hR.2 ⟨by omega, hl2⟩]
          have e4 : decide (term < 1099511627776) = true := decide_eq_true hl2
          clear hR
          go_wp2_with fail
          go_roundg (pat - (k + 1 : Nat)).toNat
          case measure => have := HGK.out; omega
          case rel => exact ⟨hb3, k + 1, by omega, rfl, by go_num, S', L3, HA.out, HN3.out, HL3.out⟩
        · have e3 : (S'.role == 3) = false := by
            have : S'.role ≠ 3 := fun h => hl2 (hR.1 h).2
            simp [this]
          have e4 : decide (term < 1099511627776) = false := decide_eq_false hl2
          clear hR
          go_wp2_with fail
          go_roundg (pat - (k + 1 : Nat)).toNat
          case measure => have := HGK.out; omega
          case rel => exact ⟨hb3, k + 1, by omega, rfl, by go_num, S', L3, HA.out, HN3.out, HL3.out⟩
      · have e2 : ((k : Int) + 1 == pat) = false := by simp [hl1]
        have e3 : (S'.role == 3) = false := by
          have : S'.role ≠ 3 := fun h => hl1 (by have := (hR.1 h).1; omega)
          simp [this]
        clear hR
        go_wp2_with fail
        go_roundg (pat - (k + 1 : Nat)).toNat
        case measure => have := HGK.out; omega
        case rel => exact ⟨hb3, k + 1, by omega, rfl, by go_num, S', L3, HA.out, HN3.out, HL3.out⟩
    · have e1 : decide ((k : Int) + 1 ≤ pat) = false := decide_eq_false (by omega)
      have hkp : (k : Int) = pat := by omega
      have HB1 := Lib.hid hb
      have hb := Below.refl wr.heap.size wr
      have q2 : ∀ w', Below wr.heap.size wr w' → w'.cell? ⟨w.heap.size, 0, none⟩ = some (.int .i64 term) := fun w' h => q0 w' (bl_trans HB1.out h)
      obtain ⟨f1, f2, f3, f4, f5, f6⟩ := HF.out
      have HNN := Lib.hid hN
      have HA := Lib.hid hA
      rcases hA with ⟨h1, _⟩ | ⟨_, ⟨h2, _⟩ | ⟨h2, _, h3, h4, h5⟩⟩
      · omega
      · have e5 : (term == 1099511627776) = true := by simp; omega
        clear q0 q1 f1 f2 f3 f4 f5 f6 h2 hN
        go_wp2_with fail
        go_quiet (fail)
        replace hb : Below wr.heap.size wr (wr.drewN nq) := ⟨rfl, rfl, rfl, Nat.le_refl _, fun _ _ => rfl⟩
        go_wp2_with fail
        go_ret
        exact ⟨rfl, bl_trans HB.out (bl_trans HB1.out hb)⟩
      · have e5 : (term == 1099511627776) = false := by simp; omega
        have hH := fun (W : World) (h : Below wr.heap.size wr W) => hard_at (HNN.out.below h)
        have hLd := fun (W : World) (h : Below wr.heap.size wr W) => leader_at (HNN.out.below h)
        rw [h3, h4, f1, f2] at hH
        rw [h5, f1] at hLd
        have hwt : IntKind.i64.wrap (term + 1) = term + 1 := IntWalk.i64_in _ (by omega)
        clear q0 q1 f1 f2 f3 f4 f5 f6 h2 h3 h4 h5 hN
        go_wp2_with fail
        refine wp_region_in (Below wr.heap.size wr) (fun i => i == 5 || i == 14) (by kernel_rfl) (by kernel_rfl) (by exact hb.drew) ?_
        intro hne hx
        replace hb := hb.drew
        change wpStg _ _ _ _ _ _ _ _ wr.drew
        obtain ⟨W, hW⟩ : ∃ W, W = wr.drew := ⟨_, rfl⟩
        rw [← hW] at hb ⊢
        clear hW
        refine stg_seg 5 (by dsimp only [List.take]) (by dsimp only [List.drop]) (by rfl) ?_
        repeat (go_big_quiet_step (fail))
        refine wpQuiet_nil ?_
        refine stg_loud (by rfl) ?_
        go_wp2_with fail
        refine (hH _ hb).mono ?_; rintro e w2 ⟨rfl, hb2⟩
        replace hb := bl_trans hb hb2
        clear hb2
        go_wp2_with fail
        refine lq_in rfl (hb) ?_
        refine stg_seg 8 (by dsimp only [List.take]) (by dsimp only [List.drop]) (by rfl) ?_
        repeat (go_big_quiet_step (fail))
        refine wpQuiet_nil ?_
        refine stg_loud (by rfl) ?_
        go_wp2_with fail
        refine (hLd _ hb).mono ?_; rintro e w2 ⟨rfl, rfl⟩
        go_wp2_with fail
        refine lq_in rfl (hb) ?_
        refine stg_seg 5 (by dsimp only [List.take]) (by dsimp only [List.drop]) (by rfl) ?_
        repeat (go_big_quiet_step (fail))
        refine wpQuiet_nil ?_
        refine stg_nil ?_
        clear hne hx
        go_wp2_with fail
        go_ret
        exact ⟨rfl, bl_trans HB.out (bl_trans HB1.out hb)⟩
end Go.Proofs.Ytiamfdnllpiikaa
