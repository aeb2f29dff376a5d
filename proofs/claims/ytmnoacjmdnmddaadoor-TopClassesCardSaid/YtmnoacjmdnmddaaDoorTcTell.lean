/- flight: tell. Conditions: none. -/
import Derived.Test.YtmnoacjmdnmddaaDoorTcTellP
namespace Go.Proofs.YtmnoacjmdnmddaaDoor
open Go.RowKit Go.Maps
theorem wf64 {x : Int} (h0 : -9223372036854775808 ≤ x) (h1 : x ≤ 9223372036854775807) : (Lit.int .i64 x).wf = true := by
  show (decide (IntKind.i64.min ≤ x) && decide (x ≤ IntKind.i64.max)) = true
  rw [show IntKind.i64.min = -9223372036854775808 from rfl, show IntKind.i64.max = 9223372036854775807 from rfl]
  simp
  exact ⟨h0, h1⟩
set_option maxRecDepth 100000 in
set_option maxHeartbeats 2000000 in
theorem tell_at {w : World} {B p : Nat} {S : FS} (h : FlAt w B p S) (i : FInv S) (hB : B ≤ w.heap.size) (hnn : S.nn ≤ 10000000) {x : HD} (hx : x ∈ S.H) {n : Int} (hl : (x.seats.length : Int) < x.many) (hn : hasL S.rows S.gs n) (ht : ¬ n ∈ S.told) :
    Calls Tryd.prog 29 #[.pointer (some ⟨p, 0, none⟩), .pointer (some ⟨x.blk, 0, none⟩), .int .i64 n] w fun e w' => (∃ v, e = .returned v) ∧ ∃ S' x', Toldk B p S x 1 w w' S' x' ∧ ∀ y, y ∈ S'.told ↔ y = n ∨ y ∈ S.told := by
  obtain ⟨D, hD, hDo⟩ := h.om
  have hxa := h.hs x hx
  have hxm := i.many x hx
  have hc := countL_rng S.rows S.gs
  have hwf : (Lit.int .i64 n).wf = true := wf64 (by have := hn.1; omega) (by have := hn.2; omega)
  have hkey := keyOf_int_mk Tryd.underlying3 hwf
  have HSE := Lib.hid (search_at hxa.row (i.srt x hx) n (by omega))
  obtain ⟨q, hq⟩ : ∃ q, q = x.seats.countP (· < n) := ⟨_, rfl⟩
  have hql : q ≤ x.seats.length := by rw [hq]; exact List.countP_le_length
  rw [← hq] at HSE
  have HQ := Lib.hid hq
  have HXX := Lib.hid hx
  have HFIN := Lib.hid (show ∀ (w1 w2 w4 : World) (v : Value), Below w.heap.size w w1 → w1.grownBy w2 x.row.ownBlock → (v.ownBlock = x.row.ownBlock ∨ v.ownBlock = some w1.heap.size) → w2.ownsRow B 3 1 v (x.seats.length + 1) (intsV (insL x.seats q n)) →
      w4.ownsMap Tryd.prog 3 (plainElem Tryd.prog 3) S.ob (S.nn + 1) (D.put (.int .i64 n) (.lit (.int .i64 x.own))) → (w2.setCell ⟨x.blk, 3, none⟩ v).grownBy w4 (some S.ob) → ∃ S' x', Toldk B p S x 1 w w4 S' x' ∧ ∀ y, y ∈ S'.told ↔ y = n ∨ y ∈ S.told from fun w1 w2 w4 v h1 h2 h3 h4 h5 h6 => tell_fl h i hB hx hl hn ht h1 h2 h3 (by rw [← hq]; exact h4) hDo hD.isMap h5 h6)
  have HA := Lib.hid hxa
  have HD0 := Lib.hid hD
  have hk := h.kinds
  have HK := Lib.hid (hk.2.2.1 x hx)
  have hval := plainElem_int (H := Unit) Tryd.underlying3 (i.own x hx)
  have y0 : ∀ W, Below w.heap.size w W → W.cell? ⟨x.blk, 0, none⟩ = some (.int .i64 x.own) := fun W hW => cell_keep hW (by rw [blk_cell hxa.blk]; rfl)
  have y3 : ∀ W, Below w.heap.size w W → W.cell? ⟨x.blk, 3, none⟩ = some x.row := fun W hW => cell_keep hW (by rw [blk_cell hxa.blk]; rfl)
  have c6 : ∀ W, Below w.heap.size w W → W.cell? ⟨p, 6, none⟩ = some (.map (some S.ob)) := fun W hW => cell_keep hW (by rw [blk_cell h.blk]; rfl)
  obtain ⟨ra, rc, hrow⟩ := own_slice hxa.row
  have hlen : x.seats.length ≤ 10000 := by omega
  have HROW := Lib.hid hrow
  have HP := Lib.hid h.blk
  have HNE := Lib.hid h.ne
  rw [hrow] at y3 HSE
  obtain ⟨m, hm⟩ : ∃ m, m = x.seats.length := ⟨_, rfl⟩
  obtain ⟨xb, hxb⟩ : ∃ xb, xb = x.blk := ⟨_, rfl⟩
  obtain ⟨xo, hxo⟩ : ∃ xo, xo = x.own := ⟨_, rfl⟩
  obtain ⟨ob, hob⟩ : ∃ ob, ob = S.ob := ⟨_, rfl⟩
  rw [← hm] at y3 HSE hql hlen
  rw [← hxb] at y0 y3 ⊢
  rw [← hxo] at y0 hval
  rw [← hob] at c6
  have HE := Lib.hid (show m = x.seats.length ∧ xb = x.blk ∧ xo = x.own ∧ ob = S.ob from ⟨hm, hxb, hxo, hob⟩)
  have hb := Below.refl w.heap.size w
  clear hm hxb hxo hob h i hD hDo hxa hk hrow hx hn ht hl hq hxm hc hwf
  go_enter Tryd.func29, Tryd.ntmps29
  go_wp2_with fail
  refine HSE.out.mono ?_
  rintro e w1 ⟨rfl, q1, rfl⟩
  replace hb := bl_drewN hb q1
  go_wp2_with fail
  have hba := bl_alloc hb (.cells #[.int .i64 n] 3)
  have hvb := blk_new (w.drewN q1) (.cells #[.int .i64 n] 3) (show w.heap.size = (w.drewN q1).heap.size from rfl)
  obtain ⟨w1, hw1⟩ : ∃ w1, w1 = (w.drewN q1).alloc (.cells #[.int .i64 n] 3) := ⟨_, rfl⟩
  rw [← hw1] at hba hvb ⊢
  clear hw1 hb
  have hrow1 := own_keep HA.out.row hba
  have hxlt := blk_lt HA.out.blk
  have hplt := blk_lt HP.out
  have hblt := HD0.out.lt
  have hx1 := blk_below HA.out.blk hba hxlt
  have hp1 := blk_below HP.out hba hplt
  have hm1 := map_keep HD0.out hba
  have hnvb : x.row.ownBlock ≠ some w.heap.size := fun e => by have := (HA.out.row.lt _ e).2; omega
  have hrm : x.row = .slice ra m rc := by rw [HE.out.1]; exact HROW.out
  have hnn1 := hnvb
  rw [hrm] at hnn1
  rw [hrm, ← HE.out.1] at hrow1
  have HI := insert_at hrow1 hql n hvb hnn1 (by omega) (Nat.le_trans hB hba.size)
  refine HI.mono ?_
  clear HI
  rintro e w2 ⟨v, rfl, hins, hgr, hat⟩
  obtain ⟨va, vc, rfl⟩ := own_slice hins
  have hgr' : w1.grownBy w2 x.row.ownBlock := by rw [hrm]; exact hgr
  have far : ∀ {g : Nat} {o : Obj}, w1.heap[g]? = some o → x.row.ownBlock ≠ some g → w2.heap[g]? = some o := fun {g o} h hn => (hgr'.block g (blk_lt h) (Ne.symm hn)).trans h
  have hx2 := far hx1 (HK.out.2.2.2.2.2.2 x HXX.out)
  have hp2 := far hp1 HK.out.2.2.2.1
  have hat' : (Value.slice va (m + 1) vc).ownBlock = x.row.ownBlock ∨ (Value.slice va (m + 1) vc).ownBlock = some w1.heap.size := by rw [hrm]; exact hat
  have hm2 : w2.ownsMap Tryd.prog 3 (plainElem Tryd.prog 3) S.ob S.nn D := map_blk hm1 (hgr'.block _ hm1.lt (Ne.symm HK.out.2.2.2.2.2.1))
  have hins' : w2.ownsRow B 3 1 (.slice va (m + 1) vc) (x.seats.length + 1) (intsV (insL x.seats q n)) := by rw [← HE.out.1]; exact hins
  have HF2 := Lib.hid (fun w4 => HFIN.out w1 w2 w4 (.slice va (m + 1) vc) hba hgr' hat' hins')
  have hszs : (w2.setCell ⟨x.blk, 3, none⟩ (.slice va (m + 1) vc)).heap.size = w2.heap.size := by simp [World.setCell]
  have hx3 := blk_set hx2 3 (.slice va (m + 1) vc)
  have hp3 : (w2.setCell ⟨x.blk, 3, none⟩ (.slice va (m + 1) vc)).heap[p]? = some (.cells S.cells 63 (0, 0)) := (Below.heap_setCell _ _ _ _ HK.out.1).trans hp2
  have hm3 : (w2.setCell ⟨x.blk, 3, none⟩ (.slice va (m + 1) vc)).ownsMap Tryd.prog 3 (plainElem Tryd.prog 3) S.ob S.nn D := map_blk hm2 (Below.heap_setCell _ _ _ _ HK.out.2.2.1)
  have y32 : w2.cell? ⟨xb, 3, none⟩ = some (.slice ra m rc) := by rw [HE.out.2.1, blk_cell hx2, ← hrm]; rfl
  have yf2 : w2.frozen? ⟨xb, 3, none⟩ = false := by rw [HE.out.2.1]; exact blk_frozen hx2 3
  rw [← HE.out.2.1] at hx3 hp3 hm3 HF2
  rw [← HE.out.2.2.1] at HF2
  rw [← HE.out.2.2.2] at hm3 HF2
  obtain ⟨w3, hw3⟩ : ∃ w3, w3 = w2.setCell ⟨xb, 3, none⟩ (.slice va (m + 1) vc) := ⟨_, rfl⟩
  rw [← hw3] at hx3 hp3 hm3 HF2
  have k0 : ∀ W, Below w3.heap.size w3 W → W.cell? ⟨xb, 0, none⟩ = some (.int .i64 xo) := fun W hW => cell_keep hW (by rw [blk_cell hx3, HE.out.2.2.1]; rfl)
  have k6 : ∀ W, Below w3.heap.size w3 W → W.cell? ⟨p, 6, none⟩ = some (.map (some ob)) := fun W hW => cell_keep hW (by rw [blk_cell hp3, HE.out.2.2.2]; rfl)
  have HM3 := Lib.hid hm3
  have HW3 := Lib.hid hw3
  clear hx1 hx2 hx3 hp1 hp2 hp3 hm1 hm2 hm3 hins hins' hgr hgr' hat hat' hrow1 hnn1 hnvb hvb hba hszs HFIN y0 y3 c6 far hw3 hrm
  go_wp2_with fail
  rw [← HW3.out]
  have hb := Below.refl w3.heap.size w3
  refine wp_region_last 9 (Below w3.heap.size w3) (fun _ => false) (by kernel_rfl) (by rfl) (by kernel_rfl) (by kernel_rfl) (by exact hb.drew) ?_
  simp only [List.take_succ_cons, List.take_zero]
  intro hne hx
  replace hb := hb.drew
  refine stg_seg 9 (by dsimp only [List.take]) (by dsimp only [List.drop]) (by rfl) ?_
  repeat (go_big_quiet_step (fail))
  refine wpQuiet_nil ?_
  refine stg_nil ?_
  clear hne hx
  intro hxx
  clear hxx
  change wpList _ _ _ _ _ w3.drew
  have HM3' := Lib.hid (show w3.drew.ownsMap Tryd.prog 3 (plainElem Tryd.prog 3) ob S.nn D from HM3.out)
  go_wp2_with (at_mapUpdate; refine wpList_mapUpdate_own _ rfl _ _ _ 61 rfl 3 3 int_key Tryd.underlying61 (plainElem Tryd.prog 3) ob S.nn D rfl HM3'.out (by unfold maxLen; omega) _ _ (.int .i64 n) rfl rfl hkey (.lit (.int .i64 xo)) [] hval ?_; intro w4 hown4 hgrow4)
  obtain ⟨S', x', h1, h2⟩ := HF2.out w4 hown4 ⟨hgrow4.os, hgrow4.tape, hgrow4.output, hgrow4.size, hgrow4.block⟩
  exact ⟨rfl, _, results_none rfl _ _ _, ⟨_, rfl⟩, S', ⟨x', h1⟩, h2⟩
end Go.Proofs.YtmnoacjmdnmddaaDoor
