/- rlog: tail, Add. Conditions: none. -/
import Derived.Test.YteflgempjecnpaaLgG3
namespace Go.Proofs.Yteflgempjecnpaa
open Go.RowKit
theorem results_cell {P : Program} {fn : Func} {t : Tmp} {T : TypeId} (h : fn.results = #[.cell t T]) {tmps : Array Value} {w : World} {g : Nat} {cs : Array Value} {fr : Nat × Nat} {d : TypeDesc} (hp : tmps.getD t undef = .pointer (some ⟨g, 0, none⟩)) (hg : w.heap[g]? = some (.cells cs T fr))
    (hu : P.underlying T = some d) (hd : (match d with | .struct _ | .array _ _ => true | _ => false) = true) (hi : (P.info? T).map (·.size) = some cs.size) : (results fn tmps).run P w = .ok (.agg cs) w := by
  have hp' : tmps[t]?.getD undef = .pointer (some ⟨g, 0, none⟩) := by rw [← hp, Array.getD_eq_getD_getElem?]
  have hl := run_loadVar_row (P := P) w g T T cs fr d hg hu (by revert hd; cases d <;> simp) hi
  simp [results, h, hp', asAddr, hl]
section
variable {B : Nat} {w : World} {p : Nat} {L : List Ent} {com app : Int} {v : Value}
set_option maxRecDepth 100000 in
theorem tail_at (h : GX B w p L com app v) (hG : Good L com app) :
    Calls Try.prog 22 #[.pointer (some ⟨p, 0, none⟩)] w fun e w' => e = .returned (.agg #[.int .i64 (atE L (L.length - 1)).ix, .int .i64 (atE L (L.length - 1)).tm, .int .i64 (atE L (L.length - 1)).kd, (atE L (L.length - 1)).d.v]) ∧ Below w.heap.size w w' := by
  obtain ⟨e, c, rfl⟩ := h.rowE hG.ne
  have hb0 := bl_alloc (Below.refl w.heap.size w) (.cells #[.int .i64 0, .int .i64 0, .int .i64 0, .slice none 0 0] 45)
  have h0 := h.below hb0
  have hblk := blk_new w (.cells #[.int .i64 0, .int .i64 0, .int .i64 0, .slice none 0 0] 45) rfl
  obtain ⟨w0, hw0⟩ : ∃ w0, w0 = w.alloc (.cells #[.int .i64 0, .int .i64 0, .int .i64 0, .slice none 0 0] 45) := ⟨_, rfl⟩
  rw [← hw0] at hb0 h0 hblk
  have HW0 := Lib.hid hw0
  have HB0 := Lib.hid hb0
  have HBK := Lib.hid hblk
  have HX := Lib.hid h0
  obtain ⟨x, hx⟩ : ∃ x, x = atE L (L.length - 1) := ⟨_, rfl⟩
  obtain ⟨N, hN⟩ : ∃ N, N = L.length := ⟨_, rfl⟩
  obtain ⟨k, hk⟩ : ∃ k : Nat, N = k + 1 := ⟨N - 1, by have := hG.ne; omega⟩
  have HN := Lib.hid hN
  have n2 : (N : Int) ≤ 200000 := by have := hG.sz; omega
  have hkl : k < L.length := by omega
  have hxe : x = atE L k := by rw [hx]; congr 1; omega
  rw [← hx]
  have c0 : ∀ W, Below w0.heap.size w0 W → W.cell? ⟨p, 0, none⟩ = some (.slice (some ⟨e, 0, none⟩) N c) := fun W k => by rw [HN.out]; exact blk_cell (blk_below HX.out.blk k (blk_lt HX.out.blk)) 0
  have x0 : ∀ W, Below w0.heap.size w0 W → W.cell? ⟨e, k * 4, none⟩ = some (.int .i64 x.ix) := fun W k' => by rw [hxe]; exact cell_keep k' (HX.out.ent hkl (j := 0) rfl)
  have x1 : ∀ W, Below w0.heap.size w0 W → W.cell? ⟨e, k * 4 + 1, none⟩ = some (.int .i64 x.tm) := fun W k' => by rw [hxe]; exact cell_keep k' (HX.out.ent hkl (j := 1) rfl)
  have x2 : ∀ W, Below w0.heap.size w0 W → W.cell? ⟨e, k * 4 + 2, none⟩ = some (.int .i64 x.kd) := fun W k' => by rw [hxe]; exact cell_keep k' (HX.out.ent hkl (j := 2) rfl)
  have x3 : ∀ W, Below w0.heap.size w0 W → W.cell? ⟨e, k * 4 + 3, none⟩ = some (.slice x.d.a x.d.bs.length x.d.c) := fun W k' => by rw [hxe]; exact cell_keep k' (HX.out.ent hkl (j := 3) rfl)
  have z : ∀ i W, Below w0.heap.size w0 W → W.cell? ⟨w.heap.size, i, none⟩ = (#[.int .i64 0, .int .i64 0, .int .i64 0, .slice none 0 0] : Array Value)[i]? := fun i W k' => blk_cell (blk_below HBK.out k' (blk_lt HBK.out)) i
  have z0 := z 0
  have z1 := z 1
  have z2 := z 2
  have z3 := z 3
  have zf : ∀ i W, Below w0.heap.size w0 W → W.frozen? ⟨w.heap.size, i, none⟩ = false := fun i W k' => blk_frozen (blk_below HBK.out k' (blk_lt HBK.out)) i
  simp only [List.getElem?_toArray, List.getElem?_cons_zero, List.getElem?_cons_succ] at z0 z1 z2 z3
  have hbl := Below.refl w0.heap.size w0
  have hk0 : (0 : Int) ≤ (k : Int) := by omega
  have hk3 : (N : Int) - 1 = k := by omega
  have hk4 : (k : Int) < N := by omega
  unfold DV.v
  clear h hG h0 hb0 hblk hw0 hx hN hk hkl hxe z
  go_enter Try.func22, Try.ntmps22
  go_wp2_with fail
  rw [← HW0.out]
  refine wp_region_last 12 (Below w0.heap.size w0) (fun _ => false) (by kernel_rfl) (by rfl) (by kernel_rfl) (by kernel_rfl) (by exact hbl.drew) ?_
  simp only [List.take_succ_cons, List.take_zero]
  intro hne hx
  replace hbl := hbl.drew
  change wpStg _ _ _ _ _ _ _ _ w0.drew
  obtain ⟨V, hV⟩ : ∃ V, V = w0.drew := ⟨_, rfl⟩
  rw [← hV] at hbl ⊢
  clear hV
  refine stg_seg 12 (by dsimp only [List.take]) (by dsimp only [List.drop]) (by rfl) ?_
  repeat (go_big_quiet_step (fail))
  refine wpQuiet_nil ?_
  refine stg_nil ?_
  clear hne hx
  intro hxx
  clear hxx
  go_wp2_with fail
  have hbk4 : ((((V.setCell ⟨w.heap.size, 0, none⟩ (.int .i64 x.ix)).setCell ⟨w.heap.size, 1, none⟩ (.int .i64 x.tm)).setCell ⟨w.heap.size, 2, none⟩ (.int .i64 x.kd)).setCell ⟨w.heap.size, 3, none⟩ (.slice x.d.a x.d.bs.length x.d.c)).heap[w.heap.size]? = some (.cells #[.int .i64 x.ix, .int .i64 x.tm, .int .i64 x.kd, .slice x.d.a x.d.bs.length x.d.c] 45 (0, 0)) := blk_set (blk_set (blk_set (blk_set (blk_below HBK.out hbl (blk_lt HBK.out)) 0 _) 1 _) 2 _) 3 _
  refine bodyPost_ret (results_cell rfl rfl hbk4 Try.underlying45 rfl (by kernel_rfl)) rfl ?_
  exact ⟨rfl, bl_set (bl_set (bl_set (bl_set (bl_trans HB0.out hbl) (Nat.le_refl _) _) (Nat.le_refl _) _) (Nat.le_refl _) _) (Nat.le_refl _) _⟩
end
theorem odd_len {x : Ent} (h : oddE x = false) : x.d.bs.length ≤ 4096 := by
  unfold oddE at h
  simp only [Bool.or_eq_false_iff, decide_eq_false_iff_not] at h
  have := h.2.2.2.2.2
  omega
/-- Entries that come in. -/
structure In (w : World) (a : Option Addr) (l : List Ent) : Prop where
  e : EA w a l
  d : ∀ i, i < l.length → (atE l i).d.At w ∧ (atE l i).d.bs.length ≤ maxLen ∧ ((atE l i).d.a = none → (atE l i).d.c = 0)
theorem In.keep {w w' : World} {a : Option Addr} {l : List Ent} (h : In w a l) (k : Below w.heap.size w w') : In w' a l := ⟨h.e.keep k, fun i hi => ⟨(h.d i hi).1.keep k, (h.d i hi).2⟩⟩
/-- What an act does to a log. -/
def GEnd (B : Nat) (w : World) (p : Nat) (L : List Ent) (v : Value) (n : Nat) (w' : World) : Prop :=
  ∃ L' com' app' v', GX B w' p L' com' app' v' ∧ Good L' com' app' ∧ Chg (gM p v) w w' ∧ (v'.ownBlock = v.ownBlock ∨ ∃ g, v'.ownBlock = some g ∧ w.heap.size ≤ g) ∧ L'.length ≤ L.length + n
theorem GEnd.same {B : Nat} {w : World} {p : Nat} {L : List Ent} {com app : Int} {v : Value} {n : Nat} {w' : World} (h : GX B w p L com app v) (hG : Good L com app) (k : Below w.heap.size w w') : GEnd B w p L v n w' :=
  ⟨L, com, app, v, h.below k, hG, .of_below k, .inl rfl, by omega⟩
theorem GX.more {B : Nat} {w : World} {p : Nat} {L : List Ent} {com app : Int} {v : Value} (h : GX B w p L com app v) {L' : List Ent} {v' : Value} {w2 : World} {row : Option Nat} (hown : w2.ownsRow B 45 4 v' L'.length (entsC L')) (hg : w.grownBy w2 row)
    (hrow : row = none ∨ row = v.ownBlock) (hat : v'.ownBlock = v.ownBlock ∨ ∃ g, v'.ownBlock = some g ∧ w.heap.size ≤ g) (hd : ∀ i, i < L'.length → Own8 w (atE L' i).d) : GX B (w2.setCell ⟨p, 0, none⟩ v') p L' com app v' := by
  have hwb := row_wb h.row h.blk (by decide)
  have hpr : row ≠ some p := by
    rcases hrow with e | e
    · rw [e]; simp
    · rw [e]; exact hwb
  have hb2 : w2.heap[p]? = some (.cells #[v, .int .i64 com, .int .i64 app] 65 (0, 0)) := (hg.block p (blk_lt h.blk) (Ne.symm hpr)).trans h.blk
  have hp' : ∀ g, v'.ownBlock = some g → g ≠ p := fun g hg' e => by
    subst e
    rcases hat with h5 | ⟨g', h5, h6⟩
    · exact hwb (by rw [← h5]; exact hg')
    · rw [hg'] at h5
      injection h5 with h5
      have := blk_lt h.blk
      omega
  have hM1 : Chg (gM p v) w w2 := (Chg.refl (gM p v) w).grown hg (fun k hk => by
    rcases hrow with e | e
    · rw [e] at hk; cases hk
    · rw [e] at hk; exact .inl (List.mem_cons_of_mem _ (by rw [hk]; exact List.mem_singleton.2 rfl)))
  have hM : Chg (gM p v) w (w2.setCell ⟨p, 0, none⟩ v') := hM1.set (p := ⟨p, 0, none⟩) (.inl List.mem_cons_self) _
  exact ⟨blk_set hb2 0 v', h.hB, ownsRow_blk hown fun g hg' => Below.heap_setCell _ _ _ _ (hp' g hg'), fun i hi => (hd i hi).keep hM h.ty⟩
set_option maxRecDepth 100000 in
set_option maxHeartbeats 2000000 in
theorem add_at {B : Nat} {w : World} {p : Nat} {L : List Ent} {com app : Int} {v : Value} (h : GX B w p L com app v) (hG : Good L com app) (a : Option Addr) (l : List Ent) (c : Nat) (hi : In w a l) (hsz : L.length + l.length ≤ 200000) :
    Calls Try.prog 25 #[.pointer (some ⟨p, 0, none⟩), .slice a l.length c] w fun e w' => (∃ n : Int, e = .returned (.int .i64 n)) ∧ GEnd B w p L v l.length w' := by
  have HX := Lib.hid h
  have HG := Lib.hid hG
  have HI := Lib.hid hi
  have HS := Lib.hid hsz
  have hany := anyOdd_at a l c w hi.e (by unfold maxLen; omega) (fun i hh => (hi.d i hh).2.1)
  have HA := Lib.hid hany
  obtain ⟨N, hN⟩ : ∃ N, N = l.length := ⟨_, rfl⟩
  have HN := Lib.hid hN
  rw [← hN] at HA ⊢
  clear h hG hi hsz hany hN
  go_enter Try.func25, Try.ntmps25
  go_wp2_with fail
  refine HA.out.mono ?_
  rintro e w1 ⟨⟨bo, rfl, hbo⟩, hb1⟩
  rcases hbo with ⟨rfl, _⟩ | ⟨rfl, hno⟩
  · go_wp2_with fail
    go_ret
    exact ⟨⟨1, rfl⟩, .same HX.out HG.out hb1⟩
  have HNO := Lib.hid hno
  have hla := last_at (HX.out.below hb1) HG.out
  obtain ⟨li, hli⟩ : ∃ li, li = lastE L := ⟨_, rfl⟩
  rw [← hli] at hla
  have HLI := Lib.hid hli
  obtain ⟨x, hx⟩ : ∃ x, x = atE L (L.length - 1) := ⟨_, rfl⟩
  have HXE := Lib.hid hx
  have hfl : ∀ w : World, (Instr.field 45 (.agg #[.int .i64 x.ix, .int .i64 x.tm, .int .i64 x.kd, x.d.v]) 1).run Try.prog w = .ok (.int .i64 x.tm) w := fun _ => by kernel_rfl
  clear hno hli hx
  go_wp2_with fail
  refine hla.mono ?_
  rintro e w2 ⟨rfl, hb2⟩
  have hta := tail_at ((HX.out.below hb1).below hb2) HG.out
  rw [← HXE.out] at hta
  replace hb1 := bl_trans hb1 hb2
  clear hb2 hla
  go_wp2_with fail
  refine hta.mono ?_
  rintro e w3 ⟨rfl, hb2⟩
  replace hb1 := bl_trans hb1 hb2
  clear hb2 hta
  have hfo := follow_at' a l c li x.tm w3 (HI.out.keep hb1).e (by have := HS.out; unfold maxLen; omega) HNO.out
  rw [← HN.out] at hfo
  have HF := Lib.hid hfo
  clear hfo
  go_wp2_with fail
  refine HF.out.mono ?_
  rintro e w4 ⟨rfl, hb2⟩
  replace hb1 := bl_trans hb1 hb2
  clear hb2 hfl
  cases hfw : followE l li x.tm with
  | false =>
    go_wp2_with fail
    go_ret
    exact ⟨⟨7, rfl⟩, .same HX.out HG.out hb1⟩
  | true =>
    have HFW := Lib.hid hfw
    obtain ⟨ea, ec, rfl⟩ := HX.out.rowE HG.out.ne
    have HX4 := Lib.hid (HX.out.below hb1)
    have HB4 := Lib.hid hb1
    obtain ⟨LN, hLN⟩ : ∃ LN, LN = L.length := ⟨_, rfl⟩
    have HLN := Lib.hid hLN
    obtain ⟨M, hM⟩ : ∃ M, M = (Value.slice (some ⟨ea, 0, none⟩) L.length ec).ownBlock.toList := ⟨_, rfl⟩
    have HM := Lib.hid hM
    have hpm : ¬ p ∈ M := fun hm => by
      rw [hM] at hm
      exact row_wb HX4.out.row HX4.out.blk (by decide) (by simpa using hm)
    have HPM := Lib.hid hpm
    clear hb1 hfw hM hpm hLN
    go_upto_region 5 with fail
    have c0 : ∀ W, Chg M w4 W → W.cell? ⟨p, 0, none⟩ = some (.slice (some ⟨ea, 0, none⟩) LN ec) := fun W k => by rw [HLN.out]; exact blk_cell (k.blk HX4.out.blk HPM.out) 0
    refine wp_region_last 10 (Chg M w4) (fun i => i == 6 || i == 7) (by kernel_rfl) (by rfl) (by kernel_rfl) (by kernel_rfl) (by exact (Chg.refl M w4).drew) ?_
    simp only [List.take_succ_cons, List.take_zero]
    intro hne hx
    change wpStg _ _ _ _ _ _ _ _ w4.drew
    have hc : Chg M w4 w4.drew := (Chg.refl M w4).drew
    have hbV : Below w4.heap.size w4 w4.drew := (Below.refl _ w4).drew
    obtain ⟨V2, hV⟩ : ∃ V, V = w4.drew := ⟨_, rfl⟩
    rw [← hV] at hc hbV ⊢
    have HX5 := Lib.hid (HX4.out.below hbV)
    have HB5 := Lib.hid (bl_trans HB4.out hbV)
    clear hV hbV
    have hco := copied_at a l c V2 (HI.out.keep HB5.out).e (by have := HS.out; omega) (fun i hh => ⟨((HI.out.keep HB5.out).d i hh).1, by have := odd_len (HNO.out i hh); omega, ((HI.out.keep HB5.out).d i hh).2.2⟩)
    rw [← HN.out] at hco
    have HCO := Lib.hid hco
    clear hco
    refine stg_seg 6 (by dsimp only [List.take]) (by dsimp only [List.drop]) (by rfl) ?_
    repeat (go_big_quiet_step (fail))
    refine wpQuiet_nil ?_
    refine stg_loud (by rfl) ?_
    go_wp2_with fail
    refine HCO.out.mono ?_
    rintro e w5 ⟨v5, l', rfl, hr5, hl5, hs5, hd5, hb5⟩
    have HR5 := Lib.hid hr5
    have HL5 := Lib.hid hl5
    have HS5 := Lib.hid hs5
    have HD5 := Lib.hid hd5
    have HB6 := Lib.hid hb5
    have HX6 := Lib.hid (HX5.out.below hb5)
    replace hc := hc.below hb5
    obtain ⟨a5, c5, rfl⟩ := own_slice hr5
    clear hr5 hl5 hs5 hd5 hb5
    go_wp2_with fail
    refine lq_in rfl (hc) ?_
    refine stg_loud (by rfl) ?_
    go_wp2_with (at_builtin; go_loud (refine wpList_clone rfl _ _ 33 rfl B 45 Try.underlying33 Try.infoEntry rfl (by decide) (by rw [HLN.out]; rfl) HX6.out.row rfl (ys := entsC l') HR5.out.1 (fun j u hj => by
      rcases HR5.out.2 with ⟨_, h0⟩ | ⟨g, cap, cur, h0, hh⟩
      · have := HR5.out.1; rw [h0] at this; simp at this; rw [this] at hj; simp at hj
      · injection h0 with h1 h2 h3
        subst h1 h3
        exact ⟨g, 0, rfl, by rw [Nat.zero_add]; exact row_cell HR5.out hj⟩) (fun h0 => by
      rcases HR5.out.2 with ⟨h1, _⟩ | ⟨g, cap, cur, h1, hh⟩
      · injection h1
      · injection h1 with h1 _ _; rw [h0] at h1; cases h1) entsC_one (by have h1 := HS.out; have h2 := HN.out; unfold maxLen; omega) (by have h1 := HS.out; have h2 := HN.out; omega) (by have h1 := HX6.out.hB; have h2 := blk_lt HX6.out.blk; omega) ?_); intro v6 w6 hown1 hgrow hat1)
    obtain ⟨a6, c6, rfl⟩ := own_slice hown1
    have HOW := Lib.hid hown1
    have HGR := Lib.hid hgrow
    have HAT := Lib.hid hat1
    have hb6 : w6.heap[p]? = some (.cells #[.slice (some ⟨ea, 0, none⟩) L.length ec, .int .i64 com, .int .i64 app] 65 (0, 0)) := (hgrow.block p (blk_lt HX6.out.blk) (Ne.symm (row_wb HX6.out.row HX6.out.blk (by decide)))).trans HX6.out.blk
    have hfr := blk_frozen hb6
    have d0 := blk_cell hb6 0
    simp only [List.getElem?_toArray, List.getElem?_cons_zero, List.getElem?_cons_succ] at d0
    have hc6 : Chg M w4 w6 := hc.grown hgrow (fun g hg => .inl (by rw [HM.out, hg]; exact List.mem_singleton.2 rfl))
    clear hown1 hgrow hat1 hb6 hc
    refine lq_in rfl (hc6) ?_
    clear hc6
    refine stg_seg 2 (by dsimp only [List.take]) (by dsimp only [List.drop]) (by rfl) ?_
    repeat (go_big_quiet_step (fail))
    refine wpQuiet_nil ?_
    refine stg_nil ?_
    clear hne hx
    intro _ hxx
    clear hxx c0
    go_wp2_with fail
    go_ret
    refine ⟨⟨0, rfl⟩, L ++ l', com, app, _, HX6.out.more (L' := L ++ l') (v' := .slice a6 (L.length + N) c6) (by
      rw [List.length_append, HL5.out, show entsC (L ++ l') = entsC L ++ entsC l' by simp [entsC]]
      exact HOW.out) HGR.out (.inr rfl) HAT.out (fun i hh => by
      rw [atE_app]
      split
      · next h5 => exact HX6.out.dat i h5
      · next h5 => exact HD5.out _ (by rw [List.length_append] at hh; omega)), ?_, ?_, ?_, ?_⟩
    · have hg := HG.out
      have hlen := HL5.out
      have hnn := HN.out
      have hli := HLI.out
      have hss := HS.out
      have hne := hg.ne
      unfold lastE at hli
      have hgc := hg.cut (m := L.length) hne (Nat.le_refl _) (by have := hg.c2; omega) (l := l') (by omega) (fun i hi => by
        have hs := HS5.out i (by omega)
        have ho := odd_no (HNO.out i (by omega))
        have hf := follow_at HFW.out i (by omega)
        have hbe : bE L = (atE L 0).ix := rfl
        rw [hs.ix, hs.tm]
        refine ⟨by omega, by omega, by omega, by omega⟩)
      rw [take_all] at hgc
      exact hgc
    · have k1 : Chg (gM p (.slice (some ⟨ea, 0, none⟩) L.length ec)) w w5 := .of_below (bl_trans HB5.out HB6.out)
      have k2 : Chg (gM p (.slice (some ⟨ea, 0, none⟩) L.length ec)) w w6 := k1.grown HGR.out (fun g hg => .inl (List.mem_cons_of_mem _ (by rw [hg]; exact List.mem_singleton.2 rfl)))
      exact k2.set (p := ⟨p, 0, none⟩) (.inl List.mem_cons_self) _
    · rcases HAT.out with h5 | ⟨g, h5, h6⟩
      · exact .inl h5
      · exact .inr ⟨g, h5, Nat.le_trans (bl_trans HB5.out HB6.out).size h6⟩
    · rw [List.length_append, HL5.out, HN.out]
      exact Nat.le_refl _
end Go.Proofs.Yteflgempjecnpaa
