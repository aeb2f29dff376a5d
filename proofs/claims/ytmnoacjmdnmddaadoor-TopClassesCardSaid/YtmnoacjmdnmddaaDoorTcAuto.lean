/- flight: Auto. Conditions: none. -/
import Derived.Test.YtmnoacjmdnmddaaDoorTcSeat
namespace Go.Proofs.YtmnoacjmdnmddaaDoor
open Go.RowKit Go.Maps
theorem freeTo_nodup (tk : List Int) : ∀ k, (freeTo tk k).Nodup
  | 0 => List.nodup_nil
  | k + 1 => by
    rw [freeTo_succ]
    split
    · rw [List.append_nil]; exact freeTo_nodup tk k
    · rw [List.nodup_append]
      refine ⟨freeTo_nodup tk k, by simp, fun a ha b hb e => ?_⟩
      have h1 := (freeTo_mem.1 ha).2.1
      have h2 : b = k := by simpa using hb
      omega
theorem best_facts {rows : Int} {gs tk : List Int} {m : Int} : (bestL rows gs tk m).1.Nodup ∧ (∀ x ∈ (bestL rows gs tk m).1, hasL rows gs x ∧ ¬ x ∈ tk) ∧ ((bestL rows gs tk m).1 = [] ∨ (((bestL rows gs tk m).1.length : Nat) : Int) = m) := by
  have hc := countL_rng rows gs
  by_cases hbad : m < 1 ∨ countL rows gs < m
  · rw [bestL_bad hbad]
    exact ⟨List.nodup_nil, by simp, .inl rfl⟩
  by_cases hf : ((freeTo tk (countL rows gs).toNat).length : Int) < m
  · rw [bestL_full hbad hf]
    exact ⟨List.nodup_nil, by simp, .inl rfl⟩
  by_cases hw : ∃ s, FirstWin gs tk (countL rows gs).toNat m.toNat s
  · obtain ⟨s, hs⟩ := hw
    rw [bestL_win hbad hs]
    refine ⟨?_, fun x hx => ?_, .inr ?_⟩
    · show ((List.range m.toNat).map fun i => ((s + i : Nat) : Int)).Nodup
      refine List.pairwise_map.2 ((List.nodup_range (n := m.toNat)).imp fun {a b} hab e => hab ?_)
      omega
    · obtain ⟨j, hj, rfl⟩ := List.mem_map.1 hx
      have hj' := List.mem_range.1 hj
      have h1 := hs.1.1
      refine ⟨⟨by omega, by omega⟩, (hs.1.2 (s + j) (by omega) (by omega)).1⟩
    · show ((seatsOf s m.toNat).length : Int) = m
      rw [seatsOf_len]; omega
  · have hnw : ∀ s, ¬ Win gs tk (countL rows gs).toNat m.toNat s := by
      intro s
      induction s using Nat.strongRecOn with
      | _ s ih => exact fun h => hw ⟨s, h, fun s' hs' => ih s' hs'⟩
    rw [bestL_any hbad hf hnw]
    refine ⟨(List.take_sublist _ _).nodup (freeTo_nodup tk _), fun x hx => ?_, .inr ?_⟩
    · have h1 := freeTo_mem.1 (List.mem_of_mem_take hx)
      exact ⟨⟨h1.1, by omega⟩, h1.2.2⟩
    · show (((freeTo tk (countL rows gs).toNat).take m.toNat).length : Int) = m
      rw [List.length_take]; omega
theorem GsAt.chg {w w' : World} {a : Option Addr} {xs : List Int} {L : List Nat} (h : GsAt w a xs) (k : Chg L w w') (hn : ∀ x, a = some x → ¬ x.block ∈ L) : GsAt w' a xs := fun j hj => by
  obtain ⟨b, off, e, hc⟩ := h j hj
  refine ⟨b, off, e, ?_⟩
  have := k.block b (World.block_lt_of_cell? w _ hc) (hn _ e)
  unfold World.cell? at hc ⊢
  rw [this]
  exact hc
set_option maxRecDepth 100000 in
set_option maxHeartbeats 4000000 in
theorem auto_at {w : World} {B p : Nat} {S : FS} (h : FlAt w B p S) (i : FInv S) (hB : B ≤ w.heap.size) (hnn : S.nn ≤ 9000000) (o : Int) (ho : (Lit.int .i64 o).wf = true) :
    Calls Tryd.prog 10 #[.pointer (some ⟨p, 0, none⟩), .int .i64 o] w fun e w' => (∃ v u, e = .returned (.tuple #[v, u])) ∧ Moved B p S w w' := by
  have HSM := Lib.hid (fun W (hW : Below w.heap.size w W) => Moved.same (w' := W) h i hW)
  have hb := Below.refl w.heap.size w
  have c5 : w.cell? ⟨p, 5, none⟩ = some (.map (some S.hb)) := by rw [blk_cell h.blk]; rfl
  rcases look_run h ho with ⟨x, hx, hxo, hlk⟩ | ⟨hno, hlk⟩
  case inr =>
    clear hno h i
    go_enter Tryd.func10, Tryd.ntmps10
    go_wp2_with fail
    go_ret2
    exact ⟨⟨_, _, rfl⟩, HSM.out _ hb⟩
  have hxa := h.hs x hx
  obtain ⟨ra, rc, hrow⟩ := own_slice hxa.row
  have y2 : ∀ W, Below w.heap.size w W → W.cell? ⟨x.blk, 2, none⟩ = some (.int .i64 x.many) := fun W hW => cell_keep hW (by rw [blk_cell hxa.blk]; rfl)
  have y3 : w.cell? ⟨x.blk, 3, none⟩ = some x.row := by rw [blk_cell hxa.blk]; rfl
  rw [hrow] at y3
  by_cases hm0 : 0 < x.seats.length
  · have d1 : decide ((0 : Int) < (x.seats.length : Int)) = true := decide_eq_true (by omega)
    have hl9 : (x.seats.length : Int) ≤ 10000 := by have := i.len x hx; have := (i.many x hx).2; omega
    have d1' : decide (0 < x.seats.length) = true := decide_eq_true hm0
    obtain ⟨m, hm⟩ : ∃ m, m = x.seats.length := ⟨_, rfl⟩
    rw [← hm] at y3 d1 hl9 d1'
    obtain ⟨xb, hxb⟩ : ∃ xb, xb = x.blk := ⟨_, rfl⟩
    rw [← hxb] at y3 hlk
    clear hrow hxa hm hxb hx hxo y2 h i hm0
    go_enter Tryd.func10, Tryd.ntmps10
    go_wp2_with fail
    go_ret2
    exact ⟨⟨_, _, rfl⟩, HSM.out _ hb⟩
  have hs0 : x.seats.length = 0 := by omega
  rw [hs0] at y3
  obtain ⟨D, hD, hDo⟩ := h.om
  have hks := keys_mem hD int_key Tryd.underlying3
  have hsz := hD.size_le
  have hg4 := i.right.2.2.2.1
  have hxm := i.many x hx
  have HH := Lib.hid h
  have HI := Lib.hid i
  have HX := Lib.hid hx
  have HD0 := Lib.hid hD
  have HS0 := Lib.hid hs0
  have HXM := Lib.hid hxm
  have HTK := Lib.hid (show ∀ ss : List Int, ss.Perm (intKeys D) → (∀ y, y ∈ ss ↔ y ∈ S.told) ∧ ss.length ≤ 9000000 from fun ss hp => ⟨fun y => by rw [hp.mem_iff, hks.2.1 y, hDo y], by have := hp.length_eq; omega⟩)
  have c1 : ∀ W, Below w.heap.size w W → W.cell? ⟨p, 1, none⟩ = some (.int .i64 S.rows) := fun W hW => cell_keep hW (by rw [blk_cell h.blk]; rfl)
  have c2 : ∀ W, Below w.heap.size w W → W.cell? ⟨p, 2, none⟩ = some S.gv := fun W hW => cell_keep hW (by rw [blk_cell h.blk]; rfl)
  have c6 : ∀ W, Below w.heap.size w W → W.cell? ⟨p, 6, none⟩ = some (.map (some S.ob)) := fun W hW => cell_keep hW (by rw [blk_cell h.blk]; rfl)
  have HBE := Lib.hid (show ∀ (W : World) (ta : Option Addr) (tk : List Int) (tc : Nat), Below w.heap.size w W → GsAt W ta tk → tk.length ≤ 9000000 → Calls Tryd.prog 26 #[.agg #[.int .i64 S.rows, S.gv], .slice ta tk.length tc, .int .i64 x.many] W (Tells2 W (bestL S.rows S.gs tk x.many)) from fun W ta tk tc hW ht hl =>
    best_any S.rows S.ga S.gs S.gc ta tk tc x.many W ((own_gs h.gr).keep hW) (by unfold maxLen; omega) ht (by unfold maxLen; omega))
  obtain ⟨rows, hrows⟩ : ∃ r, r = S.rows := ⟨_, rfl⟩
  obtain ⟨gv, hgv⟩ : ∃ r, r = S.gv := ⟨_, rfl⟩
  obtain ⟨ob, hob⟩ : ∃ r, r = S.ob := ⟨_, rfl⟩
  obtain ⟨gs, hgs⟩ : ∃ r, r = S.gs := ⟨_, rfl⟩
  obtain ⟨xm, hxm'⟩ : ∃ r, r = x.many := ⟨_, rfl⟩
  obtain ⟨xb, hxb⟩ : ∃ xb, xb = x.blk := ⟨_, rfl⟩
  rw [← hrows] at c1 HBE
  rw [← hgv] at c2 HBE
  rw [← hob] at c6 HD0
  rw [← hgs, ← hxm'] at HBE
  rw [← hxm'] at y2
  rw [← hxb] at y2 y3 hlk
  have HE := Lib.hid (show rows = S.rows ∧ gs = S.gs ∧ xm = x.many ∧ xb = x.blk ∧ ob = S.ob from ⟨hrows, hgs, hxm', hxb, hob⟩)
  clear hrows hgv hob hgs hxm' hxb h i hx hxo hxa hrow hm0 hs0 hD hDo hks hsz hg4 hxm
  go_enter Tryd.func10, Tryd.ntmps10
  go_wp2_with fail
  clear hlk c5 y3
  refine wp_region_in (Below w.heap.size w) (fun i => i == 8 || i == 9 || i == 14) (by kernel_rfl) (by kernel_rfl) (by exact hb.drew) ?_
  intro hne hx
  replace hb := hb.drew
  refine stg_seg 8 (by dsimp only [List.take]) (by dsimp only [List.drop]) (by rfl) ?_
  repeat (go_big_quiet_step (fail))
  refine wpQuiet_nil ?_
  refine stg_loud (by rfl) ?_
  go_wp2_with fail
  refine (keysO_at _ _).mono ?_
  rintro e w1 ⟨rfl, rfl⟩
  have hba := bl_alloc hb (.cells #[.map (some ob)] 61)
  go_wp2_with fail
  refine lq_in rfl (hba) ?_
  refine stg_loud (by rfl) ?_
  go_wp2_with fail
  have hba' : Below w.heap.size w (w.alloc (.cells #[.map (some ob)] 61)).drew := (bl_alloc (Below.refl _ _) _).drew
  have hbm : (w.alloc (.cells #[.map (some ob)] 61)).drew.cell? ⟨w.heap.size, 0, none⟩ = some (.map (some ob)) := blk_cell (blk_new w _ rfl) 0
  refine (collect_at (w := (w.alloc (.cells #[.map (some ob)] 61)).drew) (map_keep HD0.out hba') hbm (by omega)).mono ?_
  rintro e w2 ⟨ta, tc, tk, rfl, hperm, hrow2, hb2⟩
  have hbw2 := bl_trans hba' hb2
  have HTT := Lib.hid (HTK.out tk hperm)
  have HGT := Lib.hid (own_gs hrow2)
  clear hperm hrow2 hb2 hba hba' hbm hb HTK
  go_wp2_with fail
  refine lq_in rfl (hbw2) ?_
  refine stg_seg 4 (by dsimp only [List.take]) (by dsimp only [List.drop]) (by rfl) ?_
  repeat (go_big_quiet_step (fail))
  refine wpQuiet_nil ?_
  refine stg_loud (by rfl) ?_
  go_wp2_with fail
  refine (HBE.out w2 ta tk tc hbw2 HGT.out HTT.out.2).mono ?_
  rintro e w3 ⟨la, lc, rfl, hgl, hb3, hfresh⟩
  have hbw3 := bl_trans hbw2 hb3
  obtain ⟨l, hl⟩ : ∃ l, l = (bestL rows gs tk xm).1 := ⟨_, rfl⟩
  obtain ⟨r, hr⟩ : ∃ r, r = (bestL rows gs tk xm).2 := ⟨_, rfl⟩
  have hbf := best_facts (rows := rows) (gs := gs) (tk := tk) (m := xm)
  rw [← hl] at hbf hgl
  rw [← hl, ← hr]
  have HBF := Lib.hid hbf
  have HGL := Lib.hid hgl
  have HFR := Lib.hid (show ∀ x, la = some x → w.heap.size ≤ x.block from fun x hx => Nat.le_trans hbw2.size (hfresh x hx))
  have hll : (l.length : Int) ≤ 10000 := by
    have h1 := HXM.out.2
    rw [← HE.out.2.2.1] at h1
    rcases hbf.2.2 with e | e
    · rw [e]; simp
    · omega
  obtain ⟨n, hn⟩ : ∃ n, n = l.length := ⟨_, rfl⟩
  rw [← hn] at hll ⊢
  have HN := Lib.hid hn
  have h0n : (0 : Int) ≤ (n : Int) := by omega
  clear hl hr hbf hgl hfresh hb3 hn
  go_wp2_with fail
  refine lq_in rfl (hbw3) ?_
  refine stg_seg 5 (by dsimp only [List.take]) (by dsimp only [List.drop]) (by rfl) ?_
  repeat (go_big_quiet_step (fail))
  refine wpQuiet_nil ?_
  refine stg_nil ?_
  clear hne hx
  have HB3 := Lib.hid hbw3
  have hT0 : Toldk B p S x 0 w3 w3 S x := Toldk.refl (HH.out.keep hbw3) HI.out HX.out (Below.refl _ _)
  clear hbw3 hbw2 HGT HBE c1 c2 c6 y2
  go_wp2_with fail
  go_loopg [51] n (fun g i wr => ∃ k : Nat, k ≤ n ∧ g = n - k ∧ i = .int .i64 k ∧ ∃ Sk xk, Toldk B p S x k w3 wr Sk xk ∧ ∀ y, y ∈ Sk.told ↔ y ∈ S.told ∨ y ∈ l.take k)
  case atStart => exact ⟨0, by omega, rfl, rfl, S, x, hT0, fun y => by simp⟩
  case round =>
    obtain ⟨k, hk, hg, rfl, Sk, xk, hT, hto⟩ := hrel
    have HG := Lib.hid hg
    have HT := Lib.hid hT
    have HTO := Lib.hid hto
    have hpl : ∀ x, la = some x → ¬ x.block ∈ S.blks p := fun x hx hm => by
      have h1 := HFR.out x hx
      have h2 := (HH.out.lt _ hm).1
      omega
    have hgl := HGL.out.chg hT.chg hpl
    have HGK := Lib.hid hgl
    by_cases hkn : k < n
    case neg =>
      obtain rfl : k = n := by omega
      have z1 : decide ((k : Int) < (k : Int)) = false := decide_eq_false (by omega)
      have HLA := Lib.hid (labels_at hT.fl hT.inv lc hgl (by
        rw [hT.rows, hT.gs]
        intro y hy
        have h1 := (HBF.out.2.1 y hy).1
        rw [HE.out.1, HE.out.2.1] at h1
        exact h1) (by rw [← HN.out]; omega))
      rw [← HN.out] at HLA
      clear hT hto hg hgl hpl
      go_wp2_with fail
      refine HLA.out.mono ?_
      rintro e w9 ⟨a9, c9, rfl, _, hb9⟩
      have HMV := Lib.hid ((Toldk.from HB3.out (HT.out.keep hb9)).moved (by omega))
      clear hb9
      go_wp2_with fail
      go_ret2
      exact ⟨⟨_, _, rfl⟩, HMV.out⟩
    have z1 : decide ((k : Int) < n) = true := decide_eq_true (by omega)
    have hk0 : (0 : Int) ≤ (k : Int) := by omega
    have hk1 : (k : Int) < n := by omega
    have hkl : k < l.length := by rw [← HN.out]; exact hkn
    obtain ⟨ab, ao, ha, hcx⟩ := hgl k hkl
    obtain ⟨y, hy⟩ : ∃ y, y = l.getD k 0 := ⟨_, rfl⟩
    rw [← hy] at hcx
    have hyk : l[k]? = some y := by rw [hy, List.getD_eq_getElem?_getD, List.getElem?_eq_getElem hkl]; rfl
    have hym : y ∈ l := List.mem_of_getElem? hyk
    have HTK2 := Lib.hid (show l.take (k + 1) = l.take k ++ [y] by rw [List.take_add_one, hyk]; rfl)
    have hynk : ¬ y ∈ l.take k := fun hm => by
      have h1 := HBF.out.1
      have h2 : l = l.take k ++ l.drop k := (List.take_append_drop k l).symm
      rw [h2] at h1
      have h3 : y ∈ l.drop k := by
        rw [List.mem_iff_getElem?]
        exact ⟨0, by rw [List.getElem?_drop, Nat.add_zero]; exact hyk⟩
      exact (List.nodup_append.1 h1).2.2 y hm y h3 rfl
    have hlm : (l.length : Int) = xm := by
      rcases HBF.out.2.2 with e | e
      · rw [e] at hkl; simp at hkl
      · exact e
    have hyl := (HBF.out.2.1 y hym)
    have hbk : B ≤ wr.heap.size := Nat.le_trans hB (Nat.le_trans HB3.out.size hT.chg.size)
    have HTE := Lib.hid (tell_at hT.fl hT.inv hbk (by have := hT.nn; omega) hT.mem (n := y) (by rw [hT.len, hT.many, HS0.out, ← HE.out.2.2.1]; omega) (by rw [hT.rows, hT.gs, ← HE.out.1, ← HE.out.2.1]; exact hyl.1) (fun hm => by
      rcases (hto y).1 hm with h1 | h1
      · exact hyl.2 ((HTT.out.1 y).2 h1)
      · exact hynk h1))
    rw [hT.blk, ← HE.out.2.2.2.1] at HTE
    subst ha
    clear hT hto hg hgl hpl hkl hy hyk hym hynk hlm hyl hbk
    go_wp2_with fail
    refine HTE.out.mono ?_
    rintro e w9 ⟨⟨v, rfl⟩, S9, x9, ht9, hto9⟩
    have H9 := Lib.hid (HT.out.trans ht9)
    have HO9 := Lib.hid hto9
    clear ht9 hto9
    go_wp2_with fail
    go_roundg (n - (k + 1))
    case measure => have := HG.out; omega
    case rel =>
      refine ⟨k + 1, by omega, rfl, by go_num, S9, x9, H9.out, fun z => ?_⟩
      rw [HO9.out z, HTO.out z, HTK2.out, List.mem_append]
      simp only [List.mem_singleton]
      constructor
      · rintro (h1 | h1 | h1)
        · exact .inr (.inr h1)
        · exact .inl h1
        · exact .inr (.inl h1)
      · rintro (h1 | h1 | h1)
        · exact .inr (.inl h1)
        · exact .inr (.inr h1)
        · exact .inl h1
end Go.Proofs.YtmnoacjmdnmddaaDoor
