/- flight: Give. Conditions: none. -/
import Derived.Test.YtmnoacjmdnmddaaDoorTcGiveP
namespace Go.Proofs.YtmnoacjmdnmddaaDoor
open Go.RowKit Go.Maps
theorem del_has {D : DataW Unit} {a y : Int} : has (D.del (.int .i64 a)) (.int .i64 y) = true ↔ y ≠ a ∧ has D (.int .i64 y) = true := by
  by_cases e : y = a
  · subst e
    rw [has_del_same]
    simp
  · rw [has_del_other (key_ne e)]
    simp [e]
/-- Who holds. -/
theorem hm_find {S : FS} {D : DataW Unit} (hDo : HmOk D (S.H.map fun h => (h.own, h.blk))) (o : Int) : (∃ x ∈ S.H, x.own = o ∧ has D (.int .i64 o) = true ∧ ∀ z, D.atKey (.int .i64 o) z = .lit (.int .i64 x.blk)) ∨ ((∀ x ∈ S.H, x.own ≠ o) ∧ has D (.int .i64 o) = false) := by
  by_cases e : ∃ x ∈ S.H, x.own = o
  · obtain ⟨x, hx, rfl⟩ := e
    have := hDo.1 (x.own, x.blk) (List.mem_map.2 ⟨x, hx, rfl⟩)
    exact .inl ⟨x, hx, rfl, has_true_of_atKey this, this⟩
  · have e2 : ∀ x ∈ S.H, x.own ≠ o := fun x hx k => e ⟨x, hx, k⟩
    refine .inr ⟨e2, hDo.2 o fun q hq => ?_⟩
    obtain ⟨x, hx, rfl⟩ := List.mem_map.1 hq
    exact e2 x hx
set_option maxRecDepth 100000 in
set_option maxHeartbeats 2000000 in
theorem give_at {w : World} {B p : Nat} {S : FS} (h : FlAt w B p S) (i : FInv S) (hB : B ≤ w.heap.size) (o : Int) (ho : (Lit.int .i64 o).wf = true) :
    Calls Tryd.prog 9 #[.pointer (some ⟨p, 0, none⟩), .int .i64 o] w fun e w' => (∃ v, e = .returned v) ∧ Moved B p S w w' := by
  obtain ⟨D, hD, hDo⟩ := h.hm
  have HD0 := Lib.hid hD
  have hkey := keyOf_int_mk Tryd.underlying3 ho
  have HSM := Lib.hid (fun W (hW : Below w.heap.size w W) => Moved.same (w' := W) h i hW)
  have hb := Below.refl w.heap.size w
  have c5 : ∀ W, Below w.heap.size w W → W.cell? ⟨p, 5, none⟩ = some (.map (some S.hb)) := fun W hW => cell_keep hW (by rw [blk_cell h.blk]; rfl)
  have e5 := c5 w hb
  obtain ⟨hb1, hhb⟩ : ∃ hb1, hb1 = S.hb := ⟨_, rfl⟩
  obtain ⟨nn, hnn⟩ : ∃ nn, nn = S.nn := ⟨_, rfl⟩
  rw [← hhb, ← hnn] at HD0
  rw [← hhb] at e5 c5
  rcases hm_find hDo o with ⟨x, hx, hxo, hhas, hat⟩ | ⟨hno, hhas⟩
  case inr =>
    clear h i hD hDo hhb hnn c5 hno
    go_enter Tryd.func9, Tryd.ntmps9
    go_wp2_with (at_lookup; refine wpList_lookup_own_ok _ rfl _ _ 60 rfl 3 66 int_key Tryd.underlying60 ptrR (zeroPtr _) (.lit (.bool false)) [] rfl hb1 nn D rfl HD0.out _ _ rfl hkey ?_; intro v ps hv; rw [hhas])
    go_ret
    exact ⟨⟨_, rfl⟩, HSM.out _ hb⟩
  obtain ⟨D2, hD2, hDo2⟩ := h.om
  have hkinds := h.kinds
  have hk := hkinds.2.2.1 x hx
  have hxa := h.hs x hx
  have hne := h.ne
  have hxm := i.many x hx
  have hxl := i.len x hx
  have HFIN := Lib.hid (fun (w1 w2 w4 : World) (sa : Option Addr) (sc : Nat) (D3 : DataW Unit) => give_fl (w1 := w1) (w2 := w2) (w4 := w4) (D2 := D3) (sa := sa) (sc := sc) h i hB hx hDo)
  have HSW := Lib.hid (show ∀ y ∈ x.seats, (Lit.int .i64 y).wf = true from fun y hy => by
    have h1 := (i.seat x hx y hy)
    have h2 := countL_rng S.rows S.gs
    exact wf64 (by have := h1.1; omega) (by have := h1.2; omega))
  have HA := Lib.hid hxa
  have HK := Lib.hid hk
  have HKK := Lib.hid hkinds
  have HP := Lib.hid h.blk
  have HLR := Lib.hid h.lr
  have HSR := Lib.hid h.sr
  have HI := Lib.hid i
  have HX := Lib.hid hx
  have HM2 := Lib.hid hD2
  have HO2 := Lib.hid hDo2
  have HNE := Lib.hid hne
  have HE := Lib.hid (show hb1 = S.hb ∧ nn = S.nn ∧ x.own = o from ⟨hhb, hnn, hxo⟩)
  obtain ⟨ra, rc, hrow⟩ := own_slice hxa.row
  have HROW := Lib.hid hrow
  have y3 : w.cell? ⟨x.blk, 3, none⟩ = some x.row := by rw [blk_cell hxa.blk]; rfl
  rw [hrow] at y3
  obtain ⟨m, hm⟩ : ∃ m, m = x.seats.length := ⟨_, rfl⟩
  obtain ⟨xb, hxb⟩ : ∃ xb, xb = x.blk := ⟨_, rfl⟩
  obtain ⟨ob, hob⟩ : ∃ ob, ob = S.ob := ⟨_, rfl⟩
  have HE2 := Lib.hid (show m = x.seats.length ∧ xb = x.blk ∧ ob = S.ob from ⟨hm, hxb, hob⟩)
  rw [← hm, ← hxb] at y3
  rw [← hxb] at hat
  have hm9 : m ≤ 10000 := by omega
  have h0 : (0 : Int) ≤ (m : Int) := by omega
  have HXL := Lib.hid (show 1 ≤ x.many ∧ x.many ≤ S.ss.getD x.cls 0 from ⟨hxm.1, i.sold hx⟩)
  clear h i hD hDo hhb hnn hx hxo hxa hne hkinds hk hrow hm hxb hob hD2 hDo2 hxm hxl c5
  go_enter Tryd.func9, Tryd.ntmps9
  go_wp2_with (at_lookup; refine wpList_lookup_own_ok _ rfl _ _ 60 rfl 3 66 int_key Tryd.underlying60 ptrR (zeroPtr _) (.lit (.bool false)) [] rfl hb1 nn D rfl HD0.out _ _ rfl hkey ?_; intro v ps hv; rw [hat] at hv; obtain rfl := ptrR_some hv; rw [hhas])
  clear hv hat hhas e5 y3
  go_loopg [25] m (fun g i wr => w.grownBy wr (some S.ob) ∧ ∃ k : Nat, k ≤ m ∧ g = m - k ∧ i = .int .i64 k ∧ ∃ D3 : DataW Unit, wr.ownsMap Tryd.prog 3 (plainElem Tryd.prog 3) S.ob S.nn D3 ∧ ∀ y, has D3 (.int .i64 y) = true ↔ y ∈ S.told ∧ ¬ y ∈ x.seats.take k)
  case atStart => exact ⟨⟨rfl, rfl, rfl, Nat.le_refl _, fun _ _ _ => rfl⟩, 0, by omega, rfl, rfl, D2, HM2.out, fun y => by rw [HO2.out y]; simp⟩
  case round =>
    obtain ⟨hgr, k, hkm, hg, rfl, D3, hown, hD3⟩ := hrel
    have HG := Lib.hid hg
    have HGR := Lib.hid hgr
    have HOW := Lib.hid hown
    have HD3 := Lib.hid hD3
    have far : ∀ {g : Nat} {o : Obj}, w.heap[g]? = some o → g ≠ S.ob → wr.heap[g]? = some o := fun {g o} h hn => (hgr.block g (blk_lt h) (fun e => hn (by injection e))).trans h
    have hpr := far HP.out HKK.out.2.1
    have hxr := far HA.out.blk (Ne.symm HK.out.2.2.1)
    have rowr : ∀ {v : Value} {n : Nat} {xs : List Value}, w.ownsRow B 3 1 v n xs → v.ownBlock ≠ some S.ob → wr.ownsRow B 3 1 v n xs := fun {v} {n} {xs} hr n1 => ownsRow_blk hr fun g hg' => hgr.block g (hr.lt g hg').2 (fun e => n1 (by rw [hg']; exact e))
    have hxrow := rowr HA.out.row HK.out.2.2.2.2.2.1
    rw [HROW.out, ← HE2.out.1] at hxrow
    by_cases hkn : k < m
    case pos =>
      have z1 : decide ((k : Int) < m) = true := decide_eq_true (by omega)
      have hk0 : (0 : Int) ≤ (k : Int) := by omega
      have hk1 : (k : Int) < m := by omega
      obtain ⟨gb, gc, e, hge⟩ := row_some hxrow (by omega)
      injection e with e1 e2 e3
      subst e1 e3
      have hkl : k < x.seats.length := by rw [← HE2.out.1]; exact hkn
      have yk : wr.cell? ⟨gb, k, none⟩ = some (.int .i64 (x.seats.getD k 0)) := row_cell hxrow (intsV_get hkl)
      have c6 : wr.cell? ⟨p, 6, none⟩ = some (.map (some ob)) := by rw [blk_cell hpr, HE2.out.2.2]; rfl
      have hsw : x.seats.getD k 0 ∈ x.seats := by rw [List.getD_eq_getElem?_getD, List.getElem?_eq_getElem hkl]; exact List.getElem_mem hkl
      have hkey2 := keyOf_int_mk Tryd.underlying3 (HSW.out _ hsw)
      have HT := Lib.hid (show x.seats.take (k + 1) = x.seats.take k ++ [x.seats.getD k 0] by
        rw [List.take_add_one, List.getD_eq_getElem?_getD, List.getElem?_eq_getElem hkl]
        rfl)
      rw [← HE2.out.2.2] at HOW
      obtain ⟨y, hy⟩ : ∃ y, y = x.seats.getD k 0 := ⟨_, rfl⟩
      rw [← hy] at yk hkey2 HT
      clear hg hgr hown hD3 hpr hxr hxrow hge hkl hsw hy far rowr
      go_wp2_with (at_delete; refine wpList_delete_own _ rfl _ _ 61 3 rfl 3 int_key Tryd.underlying61 (plainElem Tryd.prog 3) ob S.nn D3 rfl HOW.out _ _ rfl hkey2 ?_; intro w4 hown4 hturn4)
      rw [HE2.out.2.2] at hown4 hturn4
      go_roundg (m - (k + 1))
      case measure => have := HG.out; omega
      case rel =>
        refine ⟨grown_trans HGR.out hturn4.grown, k + 1, by omega, rfl, by go_num, D3.del (.int .i64 y), hown4, fun z => ?_⟩
        rw [del_has, HD3.out z, HT.out, List.mem_append, not_or]
        simp only [List.mem_singleton]
        constructor
        · rintro ⟨h1, h2, h3⟩; exact ⟨h2, h3, h1⟩
        · rintro ⟨h1, h2, h3⟩; exact ⟨h3, h1, h2⟩
    obtain rfl : k = m := by omega
    have z1 : decide ((k : Int) < (k : Int)) = false := decide_eq_false (by omega)
    have hlr := rowr HLR.out HKK.out.2.2.2.2.1.2.2.1
    have hsr := rowr HSR.out HKK.out.2.2.2.2.2.2.2.1
    have HBK := Lib.hid (show ∀ V, Below wr.heap.size wr V → Calls Tryd.prog 25 #[S.lv, S.sv, .int .i64 x.cls, .int .i64 x.many] V fun e w' => ∃ a' c', e = .returned (.tuple #[.slice a' S.ls.length c', .int .i64 0]) ∧ w'.ownsRow V.heap.size 3 1 (.slice a' S.ls.length c') S.ls.length (intsV (moreL S.ss x.cls (-x.many))) ∧ Below V.heap.size V w' from fun V hV =>
      back_ok HI.out.nest S.la S.sa S.lc S.sc x.cls x.many ((own_gs hlr).keep hV) ((own_gs hsr).keep hV) (HI.out.cls x HX.out) HXL.out.1 HXL.out.2)
    have c3 : ∀ W, Below wr.heap.size wr W → W.cell? ⟨p, 3, none⟩ = some S.lv := fun W hW => cell_keep hW (by rw [blk_cell hpr]; rfl)
    have c4 : ∀ W, Below wr.heap.size wr W → W.cell? ⟨p, 4, none⟩ = some S.sv := fun W hW => cell_keep hW (by rw [blk_cell hpr]; rfl)
    have c5 : ∀ W, Below wr.heap.size wr W → W.cell? ⟨p, 5, none⟩ = some (.map (some hb1)) := fun W hW => cell_keep hW (by rw [blk_cell hpr, HE.out.1]; rfl)
    have y1 : ∀ W, Below wr.heap.size wr W → W.cell? ⟨xb, 1, none⟩ = some (.int .i64 x.cls) := fun W hW => cell_keep hW (by rw [HE2.out.2.1, blk_cell hxr]; rfl)
    have y2 : ∀ W, Below wr.heap.size wr W → W.cell? ⟨xb, 2, none⟩ = some (.int .i64 x.many) := fun W hW => cell_keep hW (by rw [HE2.out.2.1, blk_cell hxr]; rfl)
    have HPR := Lib.hid hpr
    have HD3T := Lib.hid (show ∀ y, has D3 (.int .i64 y) = true ↔ y ∈ S.told ∧ ¬ y ∈ x.seats from fun y => by rw [hD3 y, HE2.out.1, List.take_length])
    have HMM := Lib.hid (show wr.ownsMap Tryd.prog 3 ptrR S.hb S.nn D from by
      have h1 := HD0.out
      rw [HE.out.1, HE.out.2.1] at h1
      exact map_blk h1 (hgr.block _ h1.lt (fun e => HNE.out (by injection e))))
    obtain ⟨lv, hlv⟩ : ∃ lv, lv = S.lv := ⟨_, rfl⟩
    obtain ⟨sv, hsv⟩ : ∃ sv, sv = S.sv := ⟨_, rfl⟩
    obtain ⟨xc, hxc⟩ : ∃ xc, xc = x.cls := ⟨_, rfl⟩
    obtain ⟨xm, hxm⟩ : ∃ xm, xm = x.many := ⟨_, rfl⟩
    rw [← hlv] at c3 HBK
    rw [← hsv] at c4 HBK
    rw [← hxc] at y1 HBK
    rw [← hxm] at y2 HBK
    have HC := Lib.hid (show xc = x.cls ∧ xm = x.many from ⟨hxc, hxm⟩)
    have hb2 := Below.refl wr.heap.size wr
    clear hlv hsv hxc hxm hlr hsr hgr hown hD3 hpr hxr hxrow rowr far hg hkn hkm hb
    go_wp2_with fail
    refine wp_region_in (fun W => W.cell? ⟨p, 3, none⟩ = some lv ∧ W.cell? ⟨xb, 1, none⟩ = some (.int .i64 xc) ∧ W.cell? ⟨xb, 2, none⟩ = some (.int .i64 xm)) (fun i => i == 8 || i == 17 || i == 23) (by kernel_rfl) (by kernel_rfl) (by exact ⟨c3 _ hb2.drew, y1 _ hb2.drew, y2 _ hb2.drew⟩) ?_
    intro hne hx
    replace hb2 := hb2.drew
    have HC3 := Lib.hid c3
    have HY1 := Lib.hid y1
    have HY2 := Lib.hid y2
    have r3 : ∀ W : World, (W.cell? ⟨p, 3, none⟩ = some lv ∧ W.cell? ⟨xb, 1, none⟩ = some (.int .i64 xc) ∧ W.cell? ⟨xb, 2, none⟩ = some (.int .i64 xm)) → W.cell? ⟨p, 3, none⟩ = some lv := fun W h => h.1
    have r1 : ∀ W : World, (W.cell? ⟨p, 3, none⟩ = some lv ∧ W.cell? ⟨xb, 1, none⟩ = some (.int .i64 xc) ∧ W.cell? ⟨xb, 2, none⟩ = some (.int .i64 xm)) → W.cell? ⟨xb, 1, none⟩ = some (.int .i64 xc) := fun W h => h.2.1
    have r2 : ∀ W : World, (W.cell? ⟨p, 3, none⟩ = some lv ∧ W.cell? ⟨xb, 1, none⟩ = some (.int .i64 xc) ∧ W.cell? ⟨xb, 2, none⟩ = some (.int .i64 xm)) → W.cell? ⟨xb, 2, none⟩ = some (.int .i64 xm) := fun W h => h.2.2
    clear c3 y1 y2
    change wpStg _ _ _ _ _ _ _ _ wr.drew
    have k4 := c4 _ hb2
    refine stg_seg 8 (by dsimp only [List.take]) (by dsimp only [List.drop]) (by rfl) ?_
    repeat (go_big_quiet_step (fail))
    refine wpQuiet_nil ?_
    refine stg_loud (by rfl) ?_
    go_wp2_with fail
    refine lq_in rfl (⟨HC3.out _ hb2, HY1.out _ hb2, HY2.out _ hb2⟩) ?_
    refine stg_seg 8 (by dsimp only [List.take]) (by dsimp only [List.drop]) (by rfl) ?_
    repeat (go_big_quiet_step (fail))
    refine wpQuiet_nil ?_
    refine stg_loud (by rfl) ?_
    go_wp2_with fail
    refine (HBK.out _ hb2).mono ?_
    rintro e w2 ⟨a', c', rfl, hrow2, hb3⟩
    have HRW := Lib.hid (row_base hrow2 hb2.size)
    replace hb2 := bl_trans hb2 hb3
    clear hrow2 hb3
    go_wp2_with fail
    refine lq_in rfl (⟨HC3.out _ hb2, HY1.out _ hb2, HY2.out _ hb2⟩) ?_
    refine stg_seg 5 (by dsimp only [List.take]) (by dsimp only [List.drop]) (by rfl) ?_
    repeat (go_big_quiet_step (fail))
    refine wpQuiet_nil ?_
    refine stg_loud (by rfl) ?_
    have kc4 := c4 _ hb2
    have kc5 := c5 _ hb2
    have kf := blk_frozen (blk_below HPR.out hb2 (blk_lt HPR.out)) 4
    go_wp2_with fail
    have hpx : p ≠ xb := by rw [HE2.out.2.1]; exact HK.out.1
    have o1 : ∀ (j : Nat) (v : Value), (w2.setCell ⟨p, 4, none⟩ v).cell? ⟨xb, j, none⟩ = w2.cell? ⟨xb, j, none⟩ := fun j v => World.cell?_setCell_other _ _ _ _ (fun e => hpx (congrArg Addr.block e))
    have o2 : ∀ (v : Value), (w2.setCell ⟨p, 4, none⟩ v).cell? ⟨p, 3, none⟩ = w2.cell? ⟨p, 3, none⟩ := fun v => World.cell?_setCell_other _ _ _ _ (by simp)
    refine lq_in rfl (⟨(o2 _).trans (HC3.out _ hb2), (o1 _ _).trans (HY1.out _ hb2), (o1 _ _).trans (HY2.out _ hb2)⟩) ?_
    refine stg_nil ?_
    clear hne hx
    have hm2 := map_keep HMM.out hb2
    rw [← HE.out.1, ← HE.out.2.1] at hm2
    have HM3 := Lib.hid (show (w2.setCell ⟨p, 4, none⟩ (.slice a' S.ls.length c')).ownsMap Tryd.prog 3 ptrR hb1 nn D from map_blk hm2 (Below.heap_setCell _ _ _ _ (by rw [HE.out.1]; exact fun e => HKK.out.1 e.symm)))
    have HEND := Lib.hid (show ∀ w4, w4.ownsMap Tryd.prog 3 ptrR hb1 nn (D.del (.int .i64 o)) → (w2.setCell ⟨p, 4, none⟩ (.slice a' S.ls.length c')).grownBy w4 (some hb1) → Moved B p S w w4 from fun w4 h1 h2 => by
      rw [HE.out.1] at h1 h2
      rw [HE.out.2.1, ← HE.out.2.2] at h1
      exact HFIN.out wr w2 w4 a' c' D3 HGR.out HOW.out HD3T.out hb2 (by rw [← HC.out.1, ← HC.out.2]; exact HRW.out) h1 h2)
    clear hm2 kc4 k4 kf o1 o2 r1 r2 r3 c4 c5
    go_wp2_with (at_delete; refine wpList_delete_own _ rfl _ _ 60 3 rfl 66 int_key Tryd.underlying60 ptrR hb1 nn D rfl HM3.out _ _ rfl hkey ?_; intro w4 hown4 hturn4)
    go_ret
    exact ⟨⟨_, rfl⟩, HEND.out w4 hown4 hturn4.grown⟩
end Go.Proofs.YtmnoacjmdnmddaaDoor
