/- The group: note. Conditions: none. -/
import Derived.Test.YtiamfdnllpiikaaElWC
import Derived.Test.YtiamfdnllpiikaaElLawA
namespace Go.Proofs.Ytiamfdnllpiikaa
open Go.RowKit
theorem pairs_mem {l : List (Int × Int)} {i : Nat} (h : i < l.length) : l.getD i (0, 0) ∈ l := by
  rw [List.getD_eq_getElem?_getD, List.getElem?_eq_getElem h]
  exact List.getElem_mem h
set_option maxRecDepth 100000 in
set_option maxHeartbeats 4000000 in
theorem note_at {B : Nat} {w : World} {wb : Nat} {X : GX} {R : RV} (h : WX B w wb X R) (E : Int → Int → Prop) (hE : ∀ t v v', E t v → E t v' → v = v') (hl : ∀ p, p ∈ X.leads → E p.1 p.2)
    (hn : ∀ i, i < X.ns.length → (X.at i).S.role = 3 → E (X.at i).S.term ((i : Int) + 1)) (hll : X.leads.length ≤ 100000) :
    Calls Try.prog 19 #[.pointer (some ⟨wb, 0, none⟩)] w fun e w' => e = .returned (.bool true) ∧ (∃ ld, WAt B w' wb { X.pure with leads := ld } ∧ (∀ p, p ∈ ld → E p.1 p.2) ∧ ld.length ≤ X.leads.length + 7) ∧ Below B w w' := by
  obtain ⟨vv, nv, lv, sv, dv⟩ := R
  have hN0 : 0 < X.ns.length := by have := h.m1; omega
  obtain ⟨gn, cn, hnv, _⟩ : ∃ gn cn, nv = .slice (some ⟨gn, 0, none⟩) X.ns.length cn ∧ B ≤ gn := row_some h.nrow hN0
  subst hnv
  obtain ⟨N, hN⟩ : ∃ N, N = X.ns.length := ⟨_, rfl⟩
  have hN7 : (N : Int) ≤ 7 := by have := h.m7; omega
  have HN7 := Lib.hid (show N ≤ 7 by omega)
  have HNN := Lib.hid hN
  have HE := Lib.hid hE
  have HR := Lib.hid hn
  have HLL := Lib.hid hll
  have hx0 : WX B w wb { X with leads := X.leads } ⟨vv, .slice (some ⟨gn, 0, none⟩) X.ns.length cn, lv, sv, dv⟩ := h
  have HX0 := Lib.hid hx0
  have HL0 := Lib.hid hl
  clear hN hE hn hll hN0 h hx0 hl
  go_enter Try.func19, Try.ntmps19
  go_wp2_with fail
  go_loopg [3] N (fun g i wr => ∃ k : Nat, k ≤ N ∧ g = N - k ∧ i = .int .i64 k ∧ Below B w wr ∧ ∃ ld dv, WX B wr wb { X with leads := ld } ⟨vv, .slice (some ⟨gn, 0, none⟩) X.ns.length cn, lv, sv, dv⟩ ∧ (∀ p, p ∈ ld → E p.1 p.2) ∧ ld.length ≤ X.leads.length + k)
  case atStart => exact ⟨0, by omega, by omega, rfl, Below.refl B w, X.leads, dv, HX0.out, HL0.out, by omega⟩
  case round =>
    clear HX0 HL0 dv
    obtain ⟨k, hk0, hgk, rfl, hbB, ld, dv, hX, hlE, hll⟩ := hrel
    have HGK := Lib.hid hgk
    have HBB := Lib.hid hbB
    have HX := Lib.hid hX
    have HLE := Lib.hid hlE
    have HLL2 := Lib.hid hll
    have p2 : wr.cell? ⟨wb, 2, none⟩ = some (.slice (some ⟨gn, 0, none⟩) N cn) := by rw [HNN.out]; exact blk_cell hX.blk 2
    clear hgk hbB hlE hll hX
    by_cases hk : k < N
    · have hkX : k < X.ns.length := by rw [← HNN.out]; exact hk
      have HKX := Lib.hid hkX
      have hk1 : (k : Int) < N := by omega
      have hk2 : (0 : Int) ≤ (k : Int) := by omega
      obtain ⟨p, hp⟩ : ∃ p, p = X.at k := ⟨_, rfl⟩
      have HP := Lib.hid hp
      have hnode : NodeAt wr p.b p.S p.L := by rw [hp]; exact HX.out.node k hkX
      have HND := Lib.hid hnode
      have pn : wr.cell? ⟨gn, k, none⟩ = some (.pointer (some ⟨p.b, 0, none⟩)) := by
        rw [hp]
        have := row_cell HX.out.nrow (j := k) (u := .pointer (some ⟨(X.at k).b, 0, none⟩)) (by
          show (ptrs X.ns)[k]? = _
          unfold ptrs GX.at
          rw [List.getElem?_map, List.getD_eq_getElem?_getD, List.getElem?_eq_getElem hkX]
          rfl)
        exact this
      have hro := role_at hnode
      obtain ⟨ro, hroe⟩ : ∃ ro, ro = p.S.role := ⟨_, rfl⟩
      rw [← hroe] at hro
      have HRO := Lib.hid hroe
      clear hp hnode hkX hroe
      go_wp2_with fail
      refine hro.mono ?_; rintro e w1 ⟨rfl, rfl⟩
      clear hro
      by_cases hr : ro = 3
      case neg =>
        have e1 : (ro != 3) = true := by simp [hr]
        clear hr
        go_wp2_with fail
        go_roundg (N - (k + 1))
        case measure => have := HGK.out; omega
        case rel => exact ⟨k + 1, by omega, rfl, by go_num, HBB.out, ld, dv, HX.out, HLE.out, by have := HLL2.out; omega⟩
      have e1 : (ro != 3) = false := by simp [hr]
      have hev : E p.S.term ((k : Int) + 1) := by
        have h1 := HR.out k HKX.out
        rw [← HP.out] at h1
        exact h1 (by rw [← HRO.out]; exact hr)
      have hhd := hard_at HND.out
      obtain ⟨t, ht⟩ : ∃ t, t = p.S.term := ⟨_, rfl⟩
      obtain ⟨vo, hvo⟩ : ∃ vo, vo = p.S.vote := ⟨_, rfl⟩
      rw [← ht, ← hvo] at hhd
      rw [← ht] at hev
      have HEV := Lib.hid hev
      have hfl : ∀ w : World, (Instr.field 23 (.agg #[.int .i64 t, .int .i64 vo]) 0).run Try.prog w = .ok (.int .i64 t) w := fun _ => by kernel_rfl
      clear hr hev ht hvo
      go_wp2_with fail
      refine hhd.mono ?_; rintro e w4 ⟨rfl, hb4⟩
      clear hhd
      have hk7 : (k : Int) < 7 := by omega
      have HB5 := Lib.hid (bl_alloc hb4 (.cells #[.int .i64 t, .int .i64 ((k : Int) + 1)] 23))
      go_upto_region 6 with fail
      change Code.wp _ _ _ _ (w4.alloc (.cells #[.int .i64 t, .int .i64 ((k : Int) + 1)] 23))
      have hbk5 : (w4.alloc (.cells #[.int .i64 t, .int .i64 ((k : Int) + 1)] 23)).heap[w4.heap.size]? = some (.cells #[.int .i64 t, .int .i64 ((k : Int) + 1)] 23) := blk_new w4 _ rfl
      obtain ⟨W5, hW5⟩ : ∃ W5, W5 = w4.alloc (.cells #[.int .i64 t, .int .i64 ((k : Int) + 1)] 23) := ⟨_, rfl⟩
      rw [← hW5] at HB5 hbk5 ⊢
      have HX5 := Lib.hid (HX.out.below HB5.out)
      obtain ⟨nb, hnb⟩ : ∃ nb, nb = w4.heap.size := ⟨_, rfl⟩
      rw [← hnb] at hbk5 ⊢
      have HBK := Lib.hid hbk5
      have HSB := Lib.hid (show wr.heap.size ≤ nb by rw [hnb]; exact hb4.size)
      obtain ⟨da, dc, hdv⟩ : ∃ da dc, dv = .slice da ld.length dc := own_slice HX.out.drow
      subst hdv
      obtain ⟨LD, hLD⟩ : ∃ LD, LD = ld.length := ⟨_, rfl⟩
      have hLD9 : (LD : Int) ≤ 200000 := by have := HLL2.out; have := HLL.out; have := HN7.out; omega
      have HLD := Lib.hid hLD
      clear hW5 hnb hb4 p2 pn hfl hbk5 hLD
      go_wp2_with fail
      go_loopg [5, 6] LD (fun g b i w2 => Below W5.heap.size W5 w2 ∧ ∃ bk, b = .bool bk ∧ ∃ j : Nat, j ≤ LD ∧ g = LD - j ∧ i = .int .i64 j)
      case atStart => exact ⟨Below.refl _ _, false, rfl, 0, by omega, by omega, rfl⟩
      case round =>
        obtain ⟨hb, bk, rfl, j, hj0, hgj, rfl⟩ := hrel
        have HGJ := Lib.hid hgj
        clear hgj
        have p5 : ∀ W, Below W5.heap.size W5 W → W.cell? ⟨wb, 5, none⟩ = some (.slice da LD dc) := fun W h => by rw [HLD.out]; exact blk_cell (blk_below HX5.out.blk h (blk_lt HX5.out.blk)) 5
        have x0 : ∀ W, Below W5.heap.size W5 W → W.cell? ⟨nb, 0, none⟩ = some (.int .i64 t) := fun W h => blk_cell (blk_below HBK.out h (blk_lt HBK.out)) 0
        have x1 : ∀ W, Below W5.heap.size W5 W → W.cell? ⟨nb, 1, none⟩ = some (.int .i64 ((k : Int) + 1)) := fun W h => blk_cell (blk_below HBK.out h (blk_lt HBK.out)) 1
        by_cases hj : j < LD
        · have hj1 : (j : Int) < LD := by omega
          have hj2 : (0 : Int) ≤ (j : Int) := by omega
          have hjl : j < ld.length := by rw [← HLD.out]; exact hj
          obtain ⟨gd, cd, he, _⟩ := row_some HX5.out.drow (show 0 < ld.length by omega)
          injection he with he1 _ he2
          subst he1 he2
          have hpg := pairs_get hjl
          obtain ⟨y, hy⟩ : ∃ y, y = ld.getD j (0, 0) := ⟨_, rfl⟩
          have hym : E y.1 y.2 := by rw [hy]; exact HLE.out _ (pairs_mem hjl)
          rw [← hy] at hpg
          have s0 : ∀ W, Below W5.heap.size W5 W → W.cell? ⟨gd, j * 2, none⟩ = some (.int .i64 y.1) := fun W h => cell_keep h (row_cell HX5.out.drow hpg.1)
          have s1 : ∀ W, Below W5.heap.size W5 W → W.cell? ⟨gd, j * 2 + 1, none⟩ = some (.int .i64 y.2) := fun W h => cell_keep h (row_cell HX5.out.drow hpg.2)
          clear hpg hy hjl
          by_cases c1 : y.1 = t
          · have e4 : (y.1 == t) = true := by simp [c1]
            have c2 : y.2 = (k : Int) + 1 := HE.out t _ _ (by rw [← c1]; exact hym) HEV.out
            have e5 : (y.2 != (k : Int) + 1) = false := by simp [c2]
            have e6 : (y.2 == (k : Int) + 1) = true := by simp [c2]
            clear c1 c2 hym
            go_wp2_with fail
            go_upto_region 10 with fail
            refine wp_region_in (Below W5.heap.size W5) (fun _ => false) (by kernel_rfl) (by kernel_rfl) (by exact hb.drew) ?_
            intro hne hx
            replace hb := hb.drew
            change wpStg _ _ _ _ _ _ _ _ wr.drew
            obtain ⟨Vi, hV⟩ : ∃ V, V = wr.drew := ⟨_, rfl⟩
            rw [← hV] at hb ⊢
            clear hV
            refine stg_seg 24 (by dsimp only [List.take]) (by dsimp only [List.drop]) (by rfl) ?_
            repeat (go_big_quiet_step (fail))
            refine wpQuiet_nil ?_
            refine stg_nil ?_
            clear hne hx
            go_upto_region 12 with fail
            cases bk with
            | true =>
              refine wp_region_in (Below W5.heap.size W5) (fun _ => false) (by kernel_rfl) (by kernel_rfl) (by exact hb.drew) ?_
              intro hne hx
              replace hb := hb.drew
              change wpStg _ _ _ _ _ _ _ _ Vi.drew
              obtain ⟨Vj, hV⟩ : ∃ V, V = Vi.drew := ⟨_, rfl⟩
              rw [← hV] at hb ⊢
              clear hV
              refine stg_seg 13 (by dsimp only [List.take]) (by dsimp only [List.drop]) (by rfl) ?_
              repeat (go_big_quiet_step (fail))
              refine wpQuiet_nil ?_
              refine stg_nil ?_
              clear hne hx
              go_wp2_with fail
              go_roundg (LD - (j + 1))
              case measure => have := HGJ.out; omega
              case rel => exact ⟨hb, _, rfl, j + 1, by omega, rfl, by go_num⟩
            | false =>
              refine wp_region_in (Below W5.heap.size W5) (fun _ => false) (by kernel_rfl) (by kernel_rfl) (by exact hb.drew) ?_
              intro hne hx
              replace hb := hb.drew
              change wpStg _ _ _ _ _ _ _ _ Vi.drew
              obtain ⟨Vj, hV⟩ : ∃ V, V = Vi.drew := ⟨_, rfl⟩
              rw [← hV] at hb ⊢
              clear hV
              refine stg_seg 13 (by dsimp only [List.take]) (by dsimp only [List.drop]) (by rfl) ?_
              repeat (go_big_quiet_step (fail))
              refine wpQuiet_nil ?_
              refine stg_nil ?_
              clear hne hx
              go_wp2_with fail
              go_roundg (LD - (j + 1))
              case measure => have := HGJ.out; omega
              case rel => exact ⟨hb, _, rfl, j + 1, by omega, rfl, by go_num⟩
          · have e4 : (y.1 == t) = false := by simp [c1]
            clear c1 hym
            go_upto_region 10 with fail
            refine wp_region_in (Below W5.heap.size W5) (fun _ => false) (by kernel_rfl) (by kernel_rfl) (by exact hb.drew) ?_
            intro hne hx
            replace hb := hb.drew
            change wpStg _ _ _ _ _ _ _ _ wr.drew
            obtain ⟨Vi, hV⟩ : ∃ V, V = wr.drew := ⟨_, rfl⟩
            rw [← hV] at hb ⊢
            clear hV
            refine stg_seg 24 (by dsimp only [List.take]) (by dsimp only [List.drop]) (by rfl) ?_
            repeat (go_big_quiet_step (fail))
            refine wpQuiet_nil ?_
            refine stg_nil ?_
            clear hne hx
            go_upto_region 12 with fail
            cases bk with
            | true =>
              refine wp_region_in (Below W5.heap.size W5) (fun _ => false) (by kernel_rfl) (by kernel_rfl) (by exact hb.drew) ?_
              intro hne hx
              replace hb := hb.drew
              change wpStg _ _ _ _ _ _ _ _ Vi.drew
              obtain ⟨Vj, hV⟩ : ∃ V, V = Vi.drew := ⟨_, rfl⟩
              rw [← hV] at hb ⊢
              clear hV
              refine stg_seg 13 (by dsimp only [List.take]) (by dsimp only [List.drop]) (by rfl) ?_
              repeat (go_big_quiet_step (fail))
              refine wpQuiet_nil ?_
              refine stg_nil ?_
              clear hne hx
              go_wp2_with fail
              go_roundg (LD - (j + 1))
              case measure => have := HGJ.out; omega
              case rel => exact ⟨hb, _, rfl, j + 1, by omega, rfl, by go_num⟩
            | false =>
              refine wp_region_in (Below W5.heap.size W5) (fun _ => false) (by kernel_rfl) (by kernel_rfl) (by exact hb.drew) ?_
              intro hne hx
              replace hb := hb.drew
              change wpStg _ _ _ _ _ _ _ _ Vi.drew
              obtain ⟨Vj, hV⟩ : ∃ V, V = Vi.drew := ⟨_, rfl⟩
              rw [← hV] at hb ⊢
              clear hV
              refine stg_seg 13 (by dsimp only [List.take]) (by dsimp only [List.drop]) (by rfl) ?_
              repeat (go_big_quiet_step (fail))
              refine wpQuiet_nil ?_
              refine stg_nil ?_
              clear hne hx
              go_wp2_with fail
              go_roundg (LD - (j + 1))
              case measure => have := HGJ.out; omega
              case rel => exact ⟨hb, _, rfl, j + 1, by omega, rfl, by go_num⟩
        · obtain rfl : j = LD := by omega
          have HXR := Lib.hid (HX5.out.below hb)
          have HBR := Lib.hid (HBB.out.trans ((bl_trans HB5.out hb).mono (by have h1 := HX.out.hB; have h2 := blk_lt HX.out.blk; omega)))
          cases bk with
          | true =>
            go_wp2_with fail
            go_roundg (N - (k + 1))
            case measure => have := HGK.out; omega
            case rel => exact ⟨k + 1, by omega, rfl, by go_num, HBR.out, ld, _, HXR.out, HLE.out, by have := HLL2.out; omega⟩
          | false =>
            go_upto_region 14 with fail
            obtain ⟨M, hM⟩ : ∃ M, M = (Value.slice da ld.length dc).ownBlock.toList := ⟨_, rfl⟩
            have HM := Lib.hid hM
            have hmw : ¬ wb ∈ M := fun hm => by
              rw [hM] at hm
              exact row_wb HXR.out.drow HXR.out.blk (by decide) (by simpa using hm)
            have hmb : ¬ nb ∈ M := fun hm => by
              rw [hM] at hm
              have h1 := (HX.out.drow.lt nb (by simpa using hm)).2
              have := HSB.out
              omega
            have HMW := Lib.hid hmw
            have HMB := Lib.hid hmb
            have HBK2 := Lib.hid (blk_below HBK.out hb (blk_lt HBK.out))
            clear p5 x0 x1 hM hmw hmb hb
            have p5 : ∀ W, Chg M wr W → W.cell? ⟨wb, 5, none⟩ = some (.slice da j dc) := fun W h => by rw [HLD.out]; exact blk_cell (h.blk HXR.out.blk HMW.out) 5
            have x0 : ∀ W, Chg M wr W → W.cell? ⟨nb, 0, none⟩ = some (.int .i64 t) := fun W h => blk_cell (h.blk HBK2.out HMB.out) 0
            have x1 : ∀ W, Chg M wr W → W.cell? ⟨nb, 1, none⟩ = some (.int .i64 ((k : Int) + 1)) := fun W h => blk_cell (h.blk HBK2.out HMB.out) 1
            refine wp_region_last 10 (Chg M wr) (fun i => i == 6 || i == 7) (by kernel_rfl) (by rfl) (by kernel_rfl) (by kernel_rfl) (by exact (Chg.refl M wr).drew) ?_
            simp only [List.take_succ_cons, List.take_zero]
            intro hne hx
            change wpStg _ _ _ _ _ _ _ _ wr.drew
            have hc : Chg M wr wr.drew := (Chg.refl M wr).drew
            have hbV : Below wr.heap.size wr wr.drew := (Below.refl _ wr).drew
            obtain ⟨V2, hV⟩ : ∃ V, V = wr.drew := ⟨_, rfl⟩
            rw [← hV] at hc hbV ⊢
            have HX2 := Lib.hid (HXR.out.below hbV)
            have HBV := Lib.hid hbV
            clear hV hbV
            refine stg_seg 6 (by dsimp only [List.take]) (by dsimp only [List.drop]) (by rfl) ?_
            repeat (go_big_quiet_step (fail))
            refine wpQuiet_nil ?_
            refine stg_loud (by rfl) ?_
            go_wp2_with fail
            refine lq_in rfl (hc.alloc _) ?_
            refine stg_loud (by rfl) ?_
            go_wp2_with (at_builtin; go_loud (refine wpList_appm rfl _ _ 54 rfl B 23 Try.underlying54 Try.infoHard rfl (by decide) (by rw [HLD.out]; rfl) HX2.out.drow rfl [.int .i64 t, .int .i64 ((k : Int) + 1)] rfl (by simp [Value.oneCell']) (by have := HLD.out; unfold maxLen; show ld.length + 1 ≤ _; omega) (by have := HLD.out; show (ld.length + 1) * 16 ≤ _; omega) (by have h1 := HX2.out.hB; have h2 := blk_lt HX2.out.blk; omega) ?_); intro v1 w4 hown1 hgrow hat1)
            replace hgrow : V2.grownBy w4 (Value.slice da ld.length dc).ownBlock := hgrow
            obtain ⟨va1, vc1, rfl⟩ := own_slice hown1
            have HOW := Lib.hid hown1
            have HGR := Lib.hid hgrow
            have HAT := Lib.hid hat1
            have hb4 : w4.heap[wb]? = some (.cells #[vv, .slice none 0 0, .slice (some ⟨gn, 0, none⟩) X.ns.length cn, lv, sv, .slice da ld.length dc] 56 (0, 0)) :=
              (hgrow.block wb (blk_lt HX2.out.blk) (Ne.symm (row_wb HX2.out.drow HX2.out.blk (by decide)))).trans HX2.out.blk
            have hfr := blk_frozen hb4
            have d5 := blk_cell hb4 5
            simp only [List.getElem?_toArray, List.getElem?_cons_zero, List.getElem?_cons_succ] at d5
            have hc4 : Chg M wr w4 := hc.grown hgrow (fun g hg => .inl (by rw [HM.out, hg]; simp))
            clear hown1 hgrow hat1 hb4 hc
            refine lq_in rfl (hc4) ?_
            clear hc4
            refine stg_seg 2 (by dsimp only [List.take]) (by dsimp only [List.drop]) (by rfl) ?_
            repeat (go_big_quiet_step (fail))
            refine wpQuiet_nil ?_
            refine stg_nil ?_
            clear hne hx
            intro _ hxx
            clear hxx p5 x0 x1
            go_wp2_with fail
            have hW := HX2.out.leadMore (x := (t, (k : Int) + 1)) HOW.out HGR.out HAT.out
            have HW := Lib.hid hW
            have HBZ := Lib.hid (((HBR.out.trans (HBV.out.mono (by have h1 := HXR.out.hB; have h2 := blk_lt HXR.out.blk; omega))).trans (own_below HX2.out.drow HGR.out (by have h1 := HX2.out.hB; have h2 := blk_lt HX2.out.blk; omega))).trans (Below.setCell (Below.refl B w4) HX2.out.hB (.slice va1 (ld.length + 1) vc1) (p := ⟨wb, 5, none⟩)))
            clear hW
            go_roundg (N - (k + 1))
            case measure => have := HGK.out; omega
            case rel => exact ⟨k + 1, by omega, rfl, by go_num, HBZ.out, ld ++ [(t, (k : Int) + 1)], _, HW.out, fun q hq => by
                rcases List.mem_append.1 hq with hq | hq
                · exact HLE.out q hq
                · rw [List.mem_singleton.1 hq]; exact HEV.out, by rw [List.length_append]; have := HLL2.out; show ld.length + 1 ≤ _; omega⟩
    · obtain rfl : k = N := by omega
      go_wp2_with fail
      go_ret
      exact ⟨rfl, ⟨ld, ⟨_, _, HX.out, rfl⟩, HLE.out, by have := HLL2.out; have := HN7.out; omega⟩, HBB.out⟩
end Go.Proofs.Ytiamfdnllpiikaa
