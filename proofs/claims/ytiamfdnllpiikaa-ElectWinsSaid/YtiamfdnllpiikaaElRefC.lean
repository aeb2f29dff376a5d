/- The reference's node: run. Conditions: none. -/
import Derived.Test.YtiamfdnllpiikaaElRefB
namespace Go.Proofs.Ytiamfdnllpiikaa
open Go.RowKit

theorem own_one {W : World} {n : Nat} {id : Int} {L : List Nat} (h : W.heap[n]? = some (.cells #[.int .i64 id] 3 (0, 0))) (hn : n ∈ L) : Own W (.slice (some ⟨n, 0, none⟩) 1 1) [id] L := by
  refine ⟨⟨by simp, .inr ⟨n, 1, #[.int .i64 id], rfl, Nat.zero_le _, h, ?_, ?_, ?_, ?_⟩⟩, ?_⟩
  · exact Nat.le_refl _
  · unfold maxLen; omega
  · rfl
  · simp
  intro g hg
  have : n = g := by simpa [Value.ownBlock] using hg
  subst this
  exact hn
/-- It alone has said yes. -/
theorem ref_alone {w W : World} {b n : Nat} {S S' : Nd} {L : List Nat} {yv nv : Value} (h : RefX w b S L yv nv) (k : Chg [b] w W) (hn : w.heap.size ≤ n) (hnb : W.heap[n]? = some (.cells #[.int .i64 S.id] 3 (0, 0)))
    (hb : W.heap[b]? = some (.cells (refC S' (.slice (some ⟨n, 0, none⟩) 1 1) (.slice none 0 0)) 70 (0, 0))) (h1 : S'.vs = S.vs ∧ S'.va = S.va) (h2 : S'.ls = S.ls ∧ S'.la = S.la) (h3 : S'.yes = [S.id]) (h4 : S'.no = []) :
    RefX W b S' (n :: L) (.slice (some ⟨n, 0, none⟩) 1 1) (.slice none 0 0) :=
  h.put k hb h1 h2 (fun x hx => List.mem_cons_of_mem _ hx) (fun x hx => by
    rcases List.mem_cons.1 hx with rfl | hx
    · exact .inr ⟨hn, blk_lt hnb⟩
    · exact .inl hx) (by rw [h3]; exact own_one hnb List.mem_cons_self) (by rw [h4]; exact own_nil _ _) (apart_nil _).symm (by rw [h3]; simp) (by rw [h4]; simp)
set_option maxRecDepth 100000 in
set_option maxHeartbeats 2000000 in
theorem rrun_at {b : Nat} {S : Nd} {L : List Nat} {w : World} (h : RefAt w b S L) (h0 : 0 ≤ S.term) (hv : S.vs.length ≤ 1000) (last lt : Int) :
    Calls Try.prog 45 #[.pointer (some ⟨b, 0, none⟩), .int .i64 last, .int .i64 lt] w fun e w' => SendsR w b (S.run last lt).1 L (S.run last lt).2 e w' := by
  obtain ⟨yv, nv, hx⟩ := h
  have c0 := hx.cell 0
  have c1 := hx.cell 1
  have c2 := hx.cell 2
  have c3 := hx.cell 3
  have c4 := hx.cell 4
  have c5 := hx.cell 5
  have c6 := hx.cell 6
  have c7 := hx.cell 7
  have c8 := hx.cell 8
  have c9 := hx.cell 9
  have c10 := hx.cell 10
  have c11 := hx.cell 11
  have fz := hx.frozen
  simp only [refC, List.getElem?_toArray, List.getElem?_cons_zero, List.getElem?_cons_succ] at c0 c1 c2 c3 c4 c5 c6 c7 c8 c9 c10 c11
  have HX := Lib.hid hx
  by_cases hm : maxIx ≤ S.term
  · rw [run_pure_no hm]
    unfold maxIx at hm
    clear hx
    go_enter Try.func45, Try.ntmps45
    go_wp2_with fail
    go_ret
    have k := (Chg.refl [b] w).set (p := ⟨b, 6, none⟩) (by simp) (.int .i64 0)
    exact SendsR.none ⟨_, _, HX.out.scal (S' := { S with role := 0 }) k (blk_set HX.out.blk 6 _) ⟨rfl, rfl⟩ ⟨rfl, rfl⟩ rfl rfl⟩ (k.up1 HX.out.inb) (fun x hx => .inl hx)
  · have hm' : ¬ (1099511627776 : Int) ≤ S.term := hm
    have hb := Below.refl w.heap.size w
    have HM := Lib.hid (Int.not_le.1 hm)
    clear hm hx
    go_enter Try.func45, Try.ntmps45
    have hwt : IntKind.i64.wrap (S.term + 1) = S.term + 1 := IntWalk.i64_in _ (by omega)
    go_wp2_with fail
    replace hb := hb.drew
    go_still_tail 14, (by kernel_rfl)
    go_upto_region 6 with fail
    have k1 : Chg [b] w (((w.drew.setCell ⟨b, 1, none⟩ (.int .i64 (S.term + 1))).setCell ⟨b, 2, none⟩ (.int .i64 S.id)).setCell ⟨b, 6, none⟩ (.int .i64 2)) := (((Chg.refl [b] w).drew.set (by simp) _).set (by simp) _).set (by simp) _
    have h1 := HX.out.scal (S' := { S with term := S.term + 1, vote := S.id, role := 2 }) k1 (blk_set (blk_set (blk_set HX.out.blk 1 _) 2 _) 6 _) ⟨rfl, rfl⟩ ⟨rfl, rfl⟩ rfl rfl
    change Code.wp _ _ _ _ (((w.drew.setCell ⟨b, 1, none⟩ (.int .i64 (S.term + 1))).setCell ⟨b, 2, none⟩ (.int .i64 S.id)).setCell ⟨b, 6, none⟩ (.int .i64 2))
    obtain ⟨W1, hW1⟩ : ∃ W1, W1 = ((w.drew.setCell ⟨b, 1, none⟩ (.int .i64 (S.term + 1))).setCell ⟨b, 2, none⟩ (.int .i64 S.id)).setCell ⟨b, 6, none⟩ (.int .i64 2) := ⟨_, rfl⟩
    rw [← hW1] at h1 k1 ⊢
    have HX1 := Lib.hid h1
    have HK1 := Lib.hid k1
    clear hW1 k1 hb c0 c1 c2 c3 c4 c5 c6 c7 c8 c9 c10 c11 fz HX
    have hx := h1
    clear h1
    have c0 := hx.cell 0
    have hxA := hx.below (bl_alloc (Below.refl W1.heap.size W1) (.cells #[.int .i64 S.id] 3))
    have c8 := hxA.cell 10
    have c9 := hxA.cell 11
    have fz := hxA.frozen
    simp only [refC, List.getElem?_toArray, List.getElem?_cons_zero, List.getElem?_cons_succ] at c0 c8 c9
    clear hx hxA
    go_upto_region 8 with fail
    have k2 : Chg [b] W1 (((W1.alloc (.cells #[.int .i64 S.id] 3)).setCell ⟨b, 10, none⟩ (.slice (some ⟨W1.heap.size, 0, none⟩) 1 1)).setCell ⟨b, 11, none⟩ (.slice none 0 0)) := (((Chg.refl [b] W1).alloc _).set (by simp) _).set (by simp) _
    have hnb : (((W1.alloc (.cells #[.int .i64 S.id] 3)).setCell ⟨b, 10, none⟩ (.slice (some ⟨W1.heap.size, 0, none⟩) 1 1)).setCell ⟨b, 11, none⟩ (.slice none 0 0)).heap[W1.heap.size]? = some (.cells #[.int .i64 S.id] 3 (0, 0)) :=
      blk_far (blk_far (blk_new W1 _ rfl) (show W1.heap.size ≠ b by have := blk_lt HX1.out.blk; omega) _) (show W1.heap.size ≠ b by have := blk_lt HX1.out.blk; omega) _
    have h2 := ref_alone (S' := S.stand) HX1.out k2 (Nat.le_refl _) hnb (blk_set (blk_set (blk_alloc HX1.out.blk _) 10 _) 11 _) ⟨rfl, rfl⟩ ⟨rfl, rfl⟩ rfl rfl
    change Code.wp _ _ _ _ (((W1.alloc (.cells #[.int .i64 S.id] 3)).setCell ⟨b, 10, none⟩ (.slice (some ⟨W1.heap.size, 0, none⟩) 1 1)).setCell ⟨b, 11, none⟩ (.slice none 0 0))
    obtain ⟨W2, hW2⟩ : ∃ W2, W2 = ((W1.alloc (.cells #[.int .i64 S.id] 3)).setCell ⟨b, 10, none⟩ (.slice (some ⟨W1.heap.size, 0, none⟩) 1 1)).setCell ⟨b, 11, none⟩ (.slice none 0 0) := ⟨_, rfl⟩
    rw [← hW2] at h2 k2 ⊢
    obtain ⟨hK2, hL2⟩ := Moves.trans (HK1.out.up1 HX1.out.inb) (fun x hx => .inl hx) (k2.up1 HX1.out.inb) (fun x hx => (List.mem_cons.1 hx).elim (fun e => .inr (by rw [e]; exact Nat.le_refl _)) .inl : ∀ x, x ∈ W1.heap.size :: L → x ∈ L ∨ W1.heap.size ≤ x)
    have HK := Lib.hid hK2
    have HLL := Lib.hid hL2
    have HT := Lib.hid (show S.stand.id = S.id ∧ S.stand.term = S.term + 1 ∧ S.stand.vs = S.vs from ⟨rfl, rfl, rfl⟩)
    have HG := Lib.hid (fun h => run_pure_win (Int.not_le.2 HM.out) h last lt)
    have HA := Lib.hid (fun h => run_pure_ask (Int.not_le.2 HM.out) h last lt)
    obtain ⟨n1, hn1⟩ : ∃ n1, n1 = W1.heap.size := ⟨_, rfl⟩
    obtain ⟨S', hS'⟩ : ∃ S', S' = S.stand := ⟨_, rfl⟩
    rw [← hS', ← hn1] at h2
    rw [← hn1] at HLL
    rw [← hS'] at HT HG HA
    obtain ⟨L2, hL2'⟩ : ∃ L2, L2 = n1 :: L := ⟨_, rfl⟩
    rw [← hL2'] at h2 HLL
    have HN := Lib.hid h2
    have hy1 : S'.yes = [S.id] := by rw [hS']; rfl
    have hgy : GsAt W2 (some ⟨n1, 0, none⟩) [S.id] := by
      obtain ⟨ya, yc, e, hg, _⟩ := h2.yes.gs
      rw [hy1] at e hg
      injection e with e1 _ _
      rw [e1]
      exact hg
    have HYG := Lib.hid hgy
    have hy1' := Lib.hid hy1
    clear hy1 hS' h2 k2 hK2 hL2 hnb hW2 hn1 hL2' hgy c0 c8 c9 fz HX1 HK1
    have hcB : ∀ (i : Nat) (W' : World), Below W2.heap.size W2 W' → W'.cell? ⟨b, i, none⟩ = (refC (S') (.slice (some ⟨n1, 0, none⟩) 1 1) (.slice none 0 0))[i]? := fun i W' h => (HN.out.below h).cell i
    have r0 := hcB 0
    have r1 := hcB 1
    have r2 := hcB 2
    have r3 := hcB 3
    have r4 := hcB 4
    have r5 := hcB 5
    have r6 := hcB 6
    have r7 := hcB 7
    have r8 := hcB 8
    have r9 := hcB 9
    have r10 := hcB 10
    have r11 := hcB 11
    have rz : ∀ (i : Nat) (W' : World), Below W2.heap.size W2 W' → W'.frozen? ⟨b, i, none⟩ = false := fun i W' h => (HN.out.below h).frozen i
    simp only [refC, List.getElem?_toArray, List.getElem?_cons_zero, List.getElem?_cons_succ] at r0 r1 r2 r3 r4 r5 r6 r7 r8 r9 r10 r11
    clear hcB
    have hb := Below.refl W2.heap.size W2
    refine wp_region_in (Below W2.heap.size W2) (fun i => i == 8) (by kernel_rfl) (by kernel_rfl) (by exact hb.drew) ?_
    intro hne hx
    replace hb := hb.drew
    refine stg_seg 8 (by dsimp only [List.take]) (by dsimp only [List.drop]) (by rfl) ?_
    repeat (go_big_quiet_step (fail))
    refine wpQuiet_nil ?_
    refine stg_loud (by rfl) ?_
    go_wp2_with fail
    refine (rwins_at S'.va S'.la S'.vs S'.ls S'.vc S'.lc (some ⟨n1, 0, none⟩) [S.id] 1 _ (HN.out.below hb).vs.at_ (HN.out.below hb).ls.at_ HN.out.vl HN.out.ll (HYG.out.keep hb) (by unfold maxLen; simp)).mono ?_; rintro e w6 ⟨rfl, hb2⟩
    replace hb := bl_trans hb hb2
    clear hb2
    go_wp2_with fail
    refine lq_in rfl (hb) ?_
    refine stg_seg 1 (by dsimp only [List.take]) (by dsimp only [List.drop]) (by rfl) ?_
    repeat (go_big_quiet_step (fail))
    refine wpQuiet_nil ?_
    refine stg_nil ?_
    clear hne hx
    rw [show winsB S'.vs S'.ls [S.id] = S'.win by unfold Nd.win; rw [hy1'.out]]
    have HN6 := Lib.hid (HN.out.below hb)
    have HK6 := Lib.hid (HK.out.below hb)
    clear r0 r1 r2 r3 r4 r5 r6 r7 r8 r9 r10 r11 rz
    by_cases hw : S'.win = true
    · rw [hw]
      have hl := rlead_at ⟨_, _, HN6.out⟩
      go_wp2_with fail
      refine hl.mono ?_; rintro e w7 ⟨rfl, hN7, k7⟩
      go_wp2_with fail
      go_ret
      rw [HG.out hw]
      obtain ⟨k3, hL3⟩ := Moves.trans HK6.out HLL.out k7 (fun x hx => .inl hx)
      exact SendsR.none hN7 k3 hL3
    · rw [eq_false_of_ne_true hw]
      have r1 := HN6.out.cell 1
      simp only [refC, List.getElem?_toArray, List.getElem?_cons_zero, List.getElem?_cons_succ] at r1
      rw [HT.out.2.1] at r1
      have hal := rall_at ⟨_, _, HN6.out⟩ (by rw [HT.out.2.2]; exact hv) 3 (S.term + 1) last lt
      go_wp2_with fail
      refine hal.mono ?_; rintro e w7 ⟨v, rfl, hbv, hb7⟩
      go_wp2_with fail
      go_ret
      rw [HA.out hw]
      exact SendsR.some ⟨_, _, HN6.out⟩ HK6.out HLL.out hbv hb7
end Go.Proofs.Ytiamfdnllpiikaa
