/- RlogMerged. Conditions: none. -/
import Derived.Test.YteflgempjecnpaaLgMerA
namespace Go.Proofs.Yteflgempjecnpaa
open Go.RowKit
set_option maxRecDepth 100000 in
set_option maxHeartbeats 4000000 in
theorem rlogMerged_at (P : StsV) (s : StV) (w : World) (hp : P.At w) (hs : s.At w) (hroom : P.l.length * 48 ≤ 140737488351232) :
    Calls Try.prog 5 #[.slice P.a P.l.length P.c, .agg #[.int .i64 s.act, .int .i64 s.i, .int .i64 s.tm, .slice s.e.a s.e.l.length s.e.c]] w fun e w' => e = .returned (.bool true) ∧ Below w.heap.size w w' := by
  obtain ⟨pa, pl, pc⟩ := P
  obtain ⟨act, i, tm, ea, l, ec⟩ := s
  obtain ⟨n, hn⟩ : ∃ n, n = pl.length := ⟨_, rfl⟩
  obtain ⟨en, hen⟩ : ∃ en, en = l.length := ⟨_, rfl⟩
  simp only
  have hb0 := bl_alloc (Below.refl w.heap.size w) (.cells #[.int .i64 act, .int .i64 i, .int .i64 tm, .slice ea l.length ec] 35)
  have hbk := blk_new w (.cells #[.int .i64 act, .int .i64 i, .int .i64 tm, .slice ea l.length ec] 35) rfl
  have hroom' : n * 48 ≤ 140737488351232 := by rw [hn]; exact hroom
  rw [← hen] at hb0 hbk ⊢
  rw [← hn]
  obtain ⟨w0, hw0⟩ : ∃ w0, w0 = w.alloc (.cells #[.int .i64 act, .int .i64 i, .int .i64 tm, .slice ea en ec] 35) := ⟨_, rfl⟩
  rw [← hw0] at hb0 hbk
  obtain ⟨sb, hsb⟩ : ∃ sb, sb = w.heap.size := ⟨_, rfl⟩
  have HB0 := Lib.hid hb0
  rw [← hsb] at hbk
  have HW0 := Lib.hid hw0
  have HSB := Lib.hid hsb
  have HBK := Lib.hid hbk
  have HN := Lib.hid hn
  have HEN := Lib.hid hen
  have HP := Lib.hid (show StsV.At ⟨pa, pl, pc⟩ w0 from hp.keep hb0)
  have HS := Lib.hid (show EV.At ⟨ea, l, ec⟩ w0 from hs.e.keep hb0)
  clear hp hs hw0 hsb hbk hn hen hroom hb0
  have q0 : ∀ W, Below w0.heap.size w0 W → W.cell? ⟨sb, 0, none⟩ = some (.int .i64 act) := fun W h => blk_cell (blk_below HBK.out h (blk_lt HBK.out)) 0
  have q1 : ∀ W, Below w0.heap.size w0 W → W.cell? ⟨sb, 1, none⟩ = some (.int .i64 i) := fun W h => blk_cell (blk_below HBK.out h (blk_lt HBK.out)) 1
  have q2 : ∀ W, Below w0.heap.size w0 W → W.cell? ⟨sb, 2, none⟩ = some (.int .i64 tm) := fun W h => blk_cell (blk_below HBK.out h (blk_lt HBK.out)) 2
  have q3 : ∀ W, Below w0.heap.size w0 W → W.cell? ⟨sb, 3, none⟩ = some (.slice ea en ec) := fun W h => blk_cell (blk_below HBK.out h (blk_lt HBK.out)) 3
  have i0 : inIdx 0 := by unfold inIdx; omega
  have hf := fresh_ok 0 0 w0 i0 i0
  have HF := Lib.hid hf
  clear hf i0
  go_enter Try.func5, Try.ntmps5
  go_upto_region 1 with fail
  rw [← HW0.out, ← HSB.out]
  go_wp2_with fail
  refine HF.out.mono ?_
  rintro e w1 ⟨rfl, hw1⟩
  have hb : Below w0.heap.size w0 w1 := by rw [← hw1]; exact bl_fresh w0 0 0
  have hx := fresh_px w0
  rw [hw1] at hx
  clear hw1 HF
  have HPX := Lib.hid hx
  have HB1 := Lib.hid hb
  clear hx
  go_upto_region 2 with fail
  go_cut [8] (fun s8 wx => ∃ bv, s8 = .bool bv ∧ (bv = false → ∀ k, k ≤ pl.length → k ≤ 100 → lensTo pl k ≤ 5000) ∧ Below w1.heap.size w1 wx)
  case first =>
    have HCL := Lib.hid (show ∀ W, Below w1.heap.size w1 W → ∀ j u, (stsC pl)[j]? = some u → ∃ b off, pa = some ⟨b, off, none⟩ ∧ W.cell? ⟨b, off + j, none⟩ = some u from fun W hW => stsC_cells (HP.out.keep (bl_trans HB1.out hW)).at_)
    have HNIL := Lib.hid HP.out.nil
    have hbd : Below w0.heap.size w0 w1.drew := hb.drew
    have hbA : ∀ X, Below w0.heap.size w0 (w1.drew.alloc X) := fun X => bl_alloc hbd X
    have hbB : ∀ X Y, Below w0.heap.size w0 ((w1.drew.alloc X).alloc Y) := fun X Y => bl_alloc (bl_alloc hbd X) Y
    have hbA' : ∀ X, Below w0.heap.size w0 (w1.alloc X).drew := hbA
    have hbB' : ∀ X Y, Below w0.heap.size w0 ((w1.alloc X).alloc Y).drew := hbB
    have HA1 := Lib.hid (show ∀ X, Below w1.heap.size w1 (w1.drew.alloc X) from fun X => bl_alloc ((Below.refl w1.heap.size w1).drew) X)
    have HA2 := Lib.hid (show ∀ X Y, Below w1.heap.size w1 ((w1.drew.alloc X).alloc Y) from fun X Y => bl_alloc (HA1.out X) Y)
    have HZ1 := Lib.hid (show ∀ X, (w1.drew.alloc X).heap.size = w1.heap.size + 1 from fun X => by simp)
    have HZ2 := Lib.hid (show ∀ X Y, ((w1.alloc X).alloc Y).drew.heap.size = w1.heap.size + 2 from fun X Y => by simp)
    go_region_law (first
      | (refine step_clone rfl (.tmp 25) (.tmp 27) 32 rfl w1.heap.size 35 Try.underlying32 Try.infoStep rfl (by decide) rfl (HOW7.out) rfl (ys := [.int .i64 act, .int .i64 i, .int .i64 tm, .slice ea en ec]) rfl (cells_blk (HS7.out)) (fun h => by cases h) four_one (by unfold maxLen; omega) (by omega) (HLT7.out) ?_
         intro v8 w8 hown8 hgrow8 hat8
         obtain ⟨a8, c8, rfl⟩ := own_slice hown8
         have hb8 := HB7.out.trans (own_below HOW7.out hgrow8 HLT7.out)
         have HB8 := Lib.hid hb8
         have HOW8 := Lib.hid (show w8.ownsRow w1.heap.size 35 4 (.slice a8 (n + 1) c8) (n + 1) (stsC pl ++ [.int .i64 act, .int .i64 i, .int .i64 tm, .slice ea en ec]) from hown8)
         have hbw8 := bl_trans HB1.out hb8
         clear hb8 hown8 hgrow8 hat8)
      | (refine step_clone rfl (.tmp 25) (.tmp 27) 32 rfl w1.heap.size 35 Try.underlying32 Try.infoStep rfl (by decide) rfl (own_keep HOW7.out (bl_alloc (Below.refl _ _) (.cells #[.int .i64 act, .int .i64 i, .int .i64 tm, .slice ea en ec] 35 : Obj))) rfl (ys := [.int .i64 act, .int .i64 i, .int .i64 tm, .slice ea en ec]) rfl (cells_blk (blk_new w7 (.cells #[.int .i64 act, .int .i64 i, .int .i64 tm, .slice ea en ec] 35 : Obj) rfl)) (fun h => by cases h) four_one (by unfold maxLen; omega) (by omega) (Nat.le_trans HLT7.out (bl_alloc (Below.refl _ _) (.cells #[.int .i64 act, .int .i64 i, .int .i64 tm, .slice ea en ec] 35 : Obj)).size) ?_
         intro v8 w8 hown8 hgrow8 hat8
         obtain ⟨a8, c8, rfl⟩ := own_slice hown8
         have hb8 := (bl_alloc HB7.out (.cells #[.int .i64 act, .int .i64 i, .int .i64 tm, .slice ea en ec] 35 : Obj)).trans (own_below (own_keep HOW7.out (bl_alloc (Below.refl _ _) (.cells #[.int .i64 act, .int .i64 i, .int .i64 tm, .slice ea en ec] 35 : Obj))) hgrow8 (Nat.le_trans HLT7.out (bl_alloc (Below.refl _ _) (.cells #[.int .i64 act, .int .i64 i, .int .i64 tm, .slice ea en ec] 35 : Obj)).size))
         have HB8 := Lib.hid hb8
         have HOW8 := Lib.hid (show w8.ownsRow w1.heap.size 35 4 (.slice a8 (n + 1) c8) (n + 1) (stsC pl ++ [.int .i64 act, .int .i64 i, .int .i64 tm, .slice ea en ec]) from hown8)
         have hbw8 := bl_trans HB1.out hb8
         clear hb8 hown8 hgrow8 hat8)
      | (go_simp; go_at_call 10; refine (much_of (w0 := w0) HOW8.out (bl_trans HB1.out HB8.out) HN.out HEN.out (by unfold maxLen; omega) (fun j hj => (HP.out.s j hj).e) HS.out).mono ?_; rintro e w9 ⟨⟨bv, rfl, hbv⟩, hb9⟩; have HB9 := Lib.hid (bl_trans HB8.out hb9); have HBV := Lib.hid hbv; clear hb9 hbv)
      | (refine step_clone rfl (.tmp 23) (.tmp 24) 32 rfl w1.heap.size 35 Try.underlying32 Try.infoStep rfl (by decide) rfl (own_empty (B := w1.heap.size) (g := w1.heap.size) (Nat.le_refl _) (bk1 (w := w1))) rfl (ys := stsC pl) (by rw [stsC_len, HN.out]) (HCL.out _ (HA1.out _)) HNIL.out stsC_one (by unfold maxLen; omega) (by omega) (HA1.out _).size ?_
         intro v7 w7 hown7 hgrow7 hat7
         rw [Nat.zero_add, List.nil_append] at hown7
         obtain ⟨a7, c7, rfl⟩ := own_slice hown7
         have hb7 := (HA1.out _).trans (own_below (own_empty (B := w1.heap.size) (g := w1.heap.size) (Nat.le_refl _) (bk1 (w := w1))) hgrow7 (HA1.out _).size)
         have HB7 := Lib.hid hb7
         have HOW7 := Lib.hid hown7
         have HLT7 := Lib.hid hb7.size
         have hbw7 := bl_trans HB1.out hb7
         have hbw7' : ∀ X, Below w0.heap.size w0 (w7.alloc X) := fun X => bl_alloc hbw7 X
         skip
         clear hb7 hown7 hgrow7 hat7)
      | (refine step_clone rfl (.tmp 23) (.tmp 24) 32 rfl w1.heap.size 35 Try.underlying32 Try.infoStep rfl (by decide) rfl (own_empty (B := w1.heap.size) (g := w1.heap.size + 1) (Nat.le_succ _) (bk2 (w := w1))) rfl (ys := stsC pl) (by rw [stsC_len, HN.out]) (HCL.out _ (HA2.out _ _)) HNIL.out stsC_one (by unfold maxLen; omega) (by omega) (HA2.out _ _).size ?_
         intro v7 w7 hown7 hgrow7 hat7
         rw [Nat.zero_add, List.nil_append] at hown7
         obtain ⟨a7, c7, rfl⟩ := own_slice hown7
         have hb7 := (HA2.out _ _).trans (own_below (own_empty (B := w1.heap.size) (g := w1.heap.size + 1) (Nat.le_succ _) (bk2 (w := w1))) hgrow7 (HA2.out _ _).size)
         have HB7 := Lib.hid hb7
         have HOW7 := Lib.hid hown7
         have HLT7 := Lib.hid hb7.size
         have hbw7 := bl_trans HB1.out hb7
         have hbw7' : ∀ X, Below w0.heap.size w0 (w7.alloc X) := fun X => bl_alloc hbw7 X
         have HS7 := Lib.hid ((hgrow7.block w1.heap.size (by rw [HZ2.out]; omega) (fun h => by have h' : some w1.heap.size = some (w1.heap.size + 1) := h; injection h' with h'; omega)).trans (bk3 (w := w1)))
         clear hb7 hown7 hgrow7 hat7)
      | (refine step_clone rfl (.tmp 23) (.tmp 24) 32 rfl w1.heap.size 35 Try.underlying32 Try.infoStep rfl (by decide) rfl (own_empty (B := w1.heap.size) (g := w1.heap.size) (Nat.le_refl _) (bk3 (w := w1))) rfl (ys := stsC pl) (by rw [stsC_len, HN.out]) (HCL.out _ (HA2.out _ _)) HNIL.out stsC_one (by unfold maxLen; omega) (by omega) (HA2.out _ _).size ?_
         intro v7 w7 hown7 hgrow7 hat7
         rw [Nat.zero_add, List.nil_append] at hown7
         obtain ⟨a7, c7, rfl⟩ := own_slice hown7
         have hb7 := (HA2.out _ _).trans (own_below (own_empty (B := w1.heap.size) (g := w1.heap.size) (Nat.le_refl _) (bk3 (w := w1))) hgrow7 (HA2.out _ _).size)
         have HB7 := Lib.hid hb7
         have HOW7 := Lib.hid hown7
         have HLT7 := Lib.hid hb7.size
         have hbw7 := bl_trans HB1.out hb7
         have hbw7' : ∀ X, Below w0.heap.size w0 (w7.alloc X) := fun X => bl_alloc hbw7 X
         have HS7 := Lib.hid ((hgrow7.block (w1.heap.size + 1) (by rw [HZ2.out]; omega) (fun h => by have h' : some (w1.heap.size + 1) = some w1.heap.size := h; injection h' with h'; omega)).trans (bk2 (w := w1)))
         clear hb7 hown7 hgrow7 hat7)
      | fail)
    all_goals
      go_wp2_with fail
      go_meet
      exact ⟨bv, rfl, HBV.out, HB9.out⟩
  case rest =>
    obtain ⟨bv, rfl, hbv, hb2⟩ := hcut
    have HBV := Lib.hid hbv
    have HB2 := Lib.hid (bl_trans hb hb2)
    have hbc := bl_trans hb hb2
    have HPC := Lib.hid (HPX.out.below hb2)
    clear hbv hb2 hb
    cases bv with
    | true =>
      go_wp2_with fail
      go_ret
      exact ⟨rfl, bl_trans HB0.out HB2.out⟩
    | false =>
    by_cases c1 : 1000 < en
    case pos =>
      have d1 : decide ((1000 : Int) < en) = true := decide_eq_true (by omega)
      have d1' : decide (1000 < en) = true := decide_eq_true c1
      clear c1
      go_wp2_with fail
      go_ret
      exact ⟨rfl, bl_trans HB0.out HB2.out⟩
    have d1 : decide ((1000 : Int) < en) = false := decide_eq_false (by omega)
    have d1' : decide (1000 < en) = false := decide_eq_false c1
    have HE1 := Lib.hid (show en ≤ 1000 by omega)
    have HLE := Lib.hid (HBV.out rfl)
    clear c1
    go_wp2_with fail
    clear hbc
    have hn9 : (n : Int) ≤ 9223372036854775807 := by omega
    obtain ⟨B, hB⟩ : ∃ B, B = w0.heap.size := ⟨_, rfl⟩
    have HBE := Lib.hid hB
    rw [← hB]
    rw [← hB] at HPC
    clear hB
    go_loopg [9] n (fun g v9 wr => ∃ k : Nat, k ≤ n ∧ k ≤ 100 ∧ g = n - k ∧ v9 = .int .i64 k ∧ PX B wr (B + 1) (B + 2) (lensTo pl k) ∧ Below w0.heap.size w0 wr)
    case atStart => exact ⟨0, by omega, by omega, rfl, rfl, HPC.out, HB2.out⟩
    case round =>
      obtain ⟨k, hkn, hk100, hg, rfl, hpx, hb⟩ := hrel
      have HG := Lib.hid hg
      have HPK := Lib.hid hpx
      clear hg hpx
      by_cases c1 : k < n
      case neg =>
        have d2 : decide ((k : Int) < n) = false := decide_eq_false (by omega)
        have d2' : decide (k < n) = false := decide_eq_false c1
        clear c1
        obtain ⟨L, com, app, v, _, _, T, _, _, u, hX, hG, _, _, _, hLl, _⟩ := HPK.out
        have hle := HLE.out k (by have := HN.out; omega) hk100
        have hBr : B ≤ wr.heap.size := by have h1 := hX.hB; have h2 := blk_lt hX.blk; omega
        have hm := merge_at hX hG i tm ea l ec (EV.In (HS.out.keep hb)) HS.out.cap (by have h1 := HEN.out; have h2 := HE1.out; omega)
        rw [← HEN.out] at hm
        have HM := Lib.hid hm
        have HX := Lib.hid hX
        have HGG := Lib.hid hG
        have HLL := Lib.hid (show L.length ≤ 5001 by omega)
        have HBR := Lib.hid hBr
        clear hm hX hG hLl hle hBr
        go_wp2_with fail
        refine HM.out.mono ?_
        rintro e w5 hmp
        obtain ⟨n1, er, rfl, hb5, hres⟩ := merged_end HX.out HGG.out HBR.out hmp
        have HB5 := Lib.hid (show Below w0.heap.size w0 w5 from hb.trans (HBE.out ▸ hb5))
        clear HM hmp hb5 hb
        rcases hres with ⟨h1, h2⟩ | ⟨rfl, hres⟩
        · rcases h2 with rfl | rfl | rfl
          all_goals
            clear h1
            go_wp2_with fail
            go_ret
            exact ⟨rfl, bl_trans HB0.out HB5.out⟩
        obtain ⟨L', v', hX', hG', hI', hl'⟩ := hres
        have HX' := Lib.hid hX'
        have HG' := Lib.hid hG'
        have HI' := Lib.hid hI'
        have HL' := Lib.hid (show L'.length ≤ 6001 by have h1 := HLL.out; have h2 := HE1.out; have h3 := HEN.out; omega)
        have hb5 := HB5.out
        have hen9 : (en : Int) ≤ 1000 := by have := HE1.out; omega
        clear hX' hG' hI' hl'
        go_wp2_with fail
        clear hb5
        go_loopg [12, 13, 14] en (fun g v12 v13 v14 wr => Below w5.heap.size w5 wr ∧ ∃ j : Nat, j ≤ en ∧ g = en - j ∧ v12 = .int .i64 j)
        case atStart => exact ⟨Below.refl _ _, 0, by omega, rfl, rfl⟩
        case round =>
          obtain ⟨hbq, j, hje, hg2, rfl⟩ := hrel
          have HG2 := Lib.hid hg2
          have HBQ := Lib.hid hbq
          have hb := bl_trans HB5.out hbq
          have HXQ := Lib.hid (HX'.out.below hbq)
          clear hg2 hbq
          by_cases e1 : j < en
          case neg =>
            have f1 : decide ((j : Int) < en) = false := decide_eq_false (by omega)
            have f1' : decide (j < en) = false := decide_eq_false e1
            clear e1
            have hla := last_at HXQ.out HG'.out
            obtain ⟨lv, hlv⟩ : ∃ lv, lv = lastE L' := ⟨_, rfl⟩
            rw [← hlv] at hla
            have HLA := Lib.hid hla
            clear hla
            go_wp2_with fail
            refine HLA.out.mono ?_
            rintro e w6 ⟨rfl, hb6⟩
            have hbq6 := bl_trans HBQ.out hb6
            have hb' := bl_trans HB5.out hbq6
            have HBQ6 := Lib.hid hbq6
            have HX6 := Lib.hid (HX'.out.below hbq6)
            clear HLA hb6 hbq6 hb
            have hm := merge_at HX6.out HG'.out i tm ea l ec (EV.In (HS.out.keep hb')) HS.out.cap (by have h1 := HEN.out; have h2 := HE1.out; have h3 := HL'.out; omega)
            rw [← HEN.out] at hm
            have HM := Lib.hid hm
            clear hm
            go_wp2_with fail
            refine HM.out.mono ?_
            rintro e w7 hmp
            obtain ⟨rfl, hb7⟩ := again_end HI'.out hmp
            clear hmp HM hb'
            have hbq7 := bl_trans HBQ6.out hb7
            have hla := last_at (HX'.out.below hbq7) HG'.out
            rw [← hlv] at hla
            have HLA := Lib.hid hla
            clear hla hb7
            go_wp2_with fail
            refine HLA.out.mono ?_
            rintro e w8 ⟨rfl, hb8⟩
            go_wp2_with fail
            go_ret
            exact ⟨rfl, bl_trans HB0.out (bl_trans HB5.out (bl_trans hbq7 hb8))⟩
          have f1 : decide ((j : Int) < en) = true := decide_eq_true (by omega)
          have f1' : decide (j < en) = true := decide_eq_true e1
          have hjl : j < l.length := by rw [← HEN.out]; exact e1
          obtain ⟨b4, o4, ha4, hc4⟩ := (HS.out.keep hb).at_ j hjl
          obtain ⟨x, hx⟩ : ∃ x, x = atE l j := ⟨_, rfl⟩
          have HXE := Lib.hid hx
          have hc4' : ∀ k u, (entC x)[k]? = some u → wr.cell? ⟨b4, o4 + j * 4 + k, none⟩ = some u := by rw [hx]; exact hc4
          have k0 := hc4' 0 (.int .i64 x.ix) rfl
          have k1 := hc4' 1 (.int .i64 x.tm) rfl
          rw [Nat.add_zero] at k0
          have g0 : ∀ W, Below wr.heap.size wr W → W.cell? ⟨b4, o4 + j * 4, none⟩ = some (.int .i64 x.ix) := fun W hW => cell_keep hW k0
          have g1 : ∀ W, Below wr.heap.size wr W → W.cell? ⟨b4, o4 + j * 4 + 1, none⟩ = some (.int .i64 x.tm) := fun W hW => cell_keep hW k1
          have hj2 : (0 : Int) ≤ (j : Int) := by omega
          have hj4 : (j : Int) < en := by omega
          have hj5 : j < en := e1
          have r3 : ∀ W, Below wr.heap.size wr W → W.cell? ⟨sb, 3, none⟩ = some (.slice ea en ec) := fun W hW => q3 W (bl_trans hb hW)
          have ht := term_at HXQ.out HG'.out x.ix
          obtain ⟨tr, htr⟩ : ∃ tr, tr = termR L' x.ix := ⟨_, rfl⟩
          rw [← htr] at ht
          obtain ⟨tt, ti⟩ := tr
          have HT := Lib.hid ht
          simp only at HT
          have HTR := Lib.hid htr
          obtain ⟨F, hF⟩ : ∃ F, F = bE L' + 1 := ⟨_, rfl⟩
          have HFE := Lib.hid hF
          have HJL := Lib.hid hjl
          have hbq := Below.refl wr.heap.size wr
          subst ha4
          clear e1 hjl hc4 hc4' hx k0 k1 ht htr hF
          by_cases cf : F ≤ x.ix
          · have df : decide (F ≤ x.ix) = true := decide_eq_true cf
            have hin := HI'.out.term HJL.out (by rw [← HXE.out, ← HFE.out]; exact cf)
            rw [← HXE.out] at hin
            have htt := HTR.out
            unfold termR at htt
            rw [hin] at htt
            injection htt with h1 h2
            subst h1 h2
            clear cf hin
            go_wp2_with fail
            refine HT.out.mono ?_
            rintro e w6 ⟨rfl, hb6⟩
            have hbq := hb6
            have HB6 := Lib.hid (bl_trans HBQ.out hb6)
            clear hb6 hb
            go_wp2_with fail
            refine wp_region_in (Below wr.heap.size wr) (fun i => i == 7) (by kernel_rfl) (by kernel_rfl) (by exact hbq.drew) ?_
            intro hne hx
            replace hbq := hbq.drew
            have HB7 := Lib.hid HB6.out.drew
            change wpStg _ _ _ _ _ _ _ _ w6.drew
            obtain ⟨V7, hV⟩ : ∃ V, V = w6.drew := ⟨_, rfl⟩
            rw [← hV] at HB7 hbq ⊢
            clear hV
            refine stg_seg 7 (by dsimp only [List.take]) (by dsimp only [List.drop]) (by rfl) ?_
            repeat (go_big_quiet_step (fail))
            refine wpQuiet_nil ?_
            refine stg_loud (by rfl) ?_
            go_wp2_with fail
            have hfi := first_at (HX'.out.below HB7.out) HG'.out
            rw [← HFE.out] at hfi
            refine hfi.mono ?_
            rintro e w8 ⟨rfl, rfl⟩
            clear hfi
            go_wp2_with fail
            refine lq_in rfl (hbq) ?_
            refine stg_seg 15 (by dsimp only [List.take]) (by dsimp only [List.drop]) (by rfl) ?_
            repeat (go_big_quiet_step (fail))
            refine wpQuiet_nil ?_
            refine stg_nil ?_
            clear hne hx
            go_wp2_with fail
            go_roundg (en - (j + 1))
            case measure => have := HG2.out; omega
            case rel => exact ⟨HB7.out, j + 1, by omega, rfl, by go_num⟩
          · have df : decide (F ≤ x.ix) = false := decide_eq_false cf
            clear cf
            go_wp2_with fail
            refine HT.out.mono ?_
            rintro e w6 ⟨rfl, hb6⟩
            have hbq := hb6
            have HB6 := Lib.hid (bl_trans HBQ.out hb6)
            clear hb6 hb
            go_wp2_with fail
            refine wp_region_in (Below wr.heap.size wr) (fun i => i == 7) (by kernel_rfl) (by kernel_rfl) (by exact hbq.drew) ?_
            intro hne hx
            replace hbq := hbq.drew
            have HB7 := Lib.hid HB6.out.drew
            change wpStg _ _ _ _ _ _ _ _ w6.drew
            obtain ⟨V7, hV⟩ : ∃ V, V = w6.drew := ⟨_, rfl⟩
            rw [← hV] at HB7 hbq ⊢
            clear hV
            refine stg_seg 7 (by dsimp only [List.take]) (by dsimp only [List.drop]) (by rfl) ?_
            repeat (go_big_quiet_step (fail))
            refine wpQuiet_nil ?_
            refine stg_loud (by rfl) ?_
            go_wp2_with fail
            have hfi := first_at (HX'.out.below HB7.out) HG'.out
            rw [← HFE.out] at hfi
            refine hfi.mono ?_
            rintro e w8 ⟨rfl, rfl⟩
            clear hfi
            go_wp2_with fail
            refine lq_in rfl (hbq) ?_
            refine stg_seg 15 (by dsimp only [List.take]) (by dsimp only [List.drop]) (by rfl) ?_
            repeat (go_big_quiet_step (fail))
            refine wpQuiet_nil ?_
            refine stg_nil ?_
            clear hne hx
            go_wp2_with fail
            go_roundg (en - (j + 1))
            case measure => have := HG2.out; omega
            case rel => exact ⟨HB7.out, j + 1, by omega, rfl, by go_num⟩
      have d2 : decide ((k : Int) < n) = true := decide_eq_true (by omega)
      have d2' : decide (k < n) = true := decide_eq_true c1
      by_cases c2 : k < 100
      case neg =>
        have d3 : decide ((k : Int) < 100) = false := decide_eq_false (by omega)
        have d3' : decide (k < 100) = false := decide_eq_false c2
        clear c1 c2
        obtain ⟨L, com, app, v, _, _, T, _, _, u, hX, hG, _, _, _, hLl, _⟩ := HPK.out
        have hle := HLE.out k (by have := HN.out; omega) hk100
        have hBr : B ≤ wr.heap.size := by have h1 := hX.hB; have h2 := blk_lt hX.blk; omega
        have hm := merge_at hX hG i tm ea l ec (EV.In (HS.out.keep hb)) HS.out.cap (by have h1 := HEN.out; have h2 := HE1.out; omega)
        rw [← HEN.out] at hm
        have HM := Lib.hid hm
        have HX := Lib.hid hX
        have HGG := Lib.hid hG
        have HLL := Lib.hid (show L.length ≤ 5001 by omega)
        have HBR := Lib.hid hBr
        clear hm hX hG hLl hle hBr
        go_wp2_with fail
        refine HM.out.mono ?_
        rintro e w5 hmp
        obtain ⟨n1, er, rfl, hb5, hres⟩ := merged_end HX.out HGG.out HBR.out hmp
        have HB5 := Lib.hid (show Below w0.heap.size w0 w5 from hb.trans (HBE.out ▸ hb5))
        clear HM hmp hb5 hb
        rcases hres with ⟨h1, h2⟩ | ⟨rfl, hres⟩
        · rcases h2 with rfl | rfl | rfl
          all_goals
            clear h1
            go_wp2_with fail
            go_ret
            exact ⟨rfl, bl_trans HB0.out HB5.out⟩
        obtain ⟨L', v', hX', hG', hI', hl'⟩ := hres
        have HX' := Lib.hid hX'
        have HG' := Lib.hid hG'
        have HI' := Lib.hid hI'
        have HL' := Lib.hid (show L'.length ≤ 6001 by have h1 := HLL.out; have h2 := HE1.out; have h3 := HEN.out; omega)
        have hb5 := HB5.out
        have hen9 : (en : Int) ≤ 1000 := by have := HE1.out; omega
        clear hX' hG' hI' hl'
        go_wp2_with fail
        clear hb5
        go_loopg [12, 13, 14] en (fun g v12 v13 v14 wr => Below w5.heap.size w5 wr ∧ ∃ j : Nat, j ≤ en ∧ g = en - j ∧ v12 = .int .i64 j)
        case atStart => exact ⟨Below.refl _ _, 0, by omega, rfl, rfl⟩
        case round =>
          obtain ⟨hbq, j, hje, hg2, rfl⟩ := hrel
          have HG2 := Lib.hid hg2
          have HBQ := Lib.hid hbq
          have hb := bl_trans HB5.out hbq
          have HXQ := Lib.hid (HX'.out.below hbq)
          clear hg2 hbq
          by_cases e1 : j < en
          case neg =>
            have f1 : decide ((j : Int) < en) = false := decide_eq_false (by omega)
            have f1' : decide (j < en) = false := decide_eq_false e1
            clear e1
            have hla := last_at HXQ.out HG'.out
            obtain ⟨lv, hlv⟩ : ∃ lv, lv = lastE L' := ⟨_, rfl⟩
            rw [← hlv] at hla
            have HLA := Lib.hid hla
            clear hla
            go_wp2_with fail
            refine HLA.out.mono ?_
            rintro e w6 ⟨rfl, hb6⟩
            have hbq6 := bl_trans HBQ.out hb6
            have hb' := bl_trans HB5.out hbq6
            have HBQ6 := Lib.hid hbq6
            have HX6 := Lib.hid (HX'.out.below hbq6)
            clear HLA hb6 hbq6 hb
            have hm := merge_at HX6.out HG'.out i tm ea l ec (EV.In (HS.out.keep hb')) HS.out.cap (by have h1 := HEN.out; have h2 := HE1.out; have h3 := HL'.out; omega)
            rw [← HEN.out] at hm
            have HM := Lib.hid hm
            clear hm
            go_wp2_with fail
            refine HM.out.mono ?_
            rintro e w7 hmp
            obtain ⟨rfl, hb7⟩ := again_end HI'.out hmp
            clear hmp HM hb'
            have hbq7 := bl_trans HBQ6.out hb7
            have hla := last_at (HX'.out.below hbq7) HG'.out
            rw [← hlv] at hla
            have HLA := Lib.hid hla
            clear hla hb7
            go_wp2_with fail
            refine HLA.out.mono ?_
            rintro e w8 ⟨rfl, hb8⟩
            go_wp2_with fail
            go_ret
            exact ⟨rfl, bl_trans HB0.out (bl_trans HB5.out (bl_trans hbq7 hb8))⟩
          have f1 : decide ((j : Int) < en) = true := decide_eq_true (by omega)
          have f1' : decide (j < en) = true := decide_eq_true e1
          have hjl : j < l.length := by rw [← HEN.out]; exact e1
          obtain ⟨b4, o4, ha4, hc4⟩ := (HS.out.keep hb).at_ j hjl
          obtain ⟨x, hx⟩ : ∃ x, x = atE l j := ⟨_, rfl⟩
          have HXE := Lib.hid hx
          have hc4' : ∀ k u, (entC x)[k]? = some u → wr.cell? ⟨b4, o4 + j * 4 + k, none⟩ = some u := by rw [hx]; exact hc4
          have k0 := hc4' 0 (.int .i64 x.ix) rfl
          have k1 := hc4' 1 (.int .i64 x.tm) rfl
          rw [Nat.add_zero] at k0
          have g0 : ∀ W, Below wr.heap.size wr W → W.cell? ⟨b4, o4 + j * 4, none⟩ = some (.int .i64 x.ix) := fun W hW => cell_keep hW k0
          have g1 : ∀ W, Below wr.heap.size wr W → W.cell? ⟨b4, o4 + j * 4 + 1, none⟩ = some (.int .i64 x.tm) := fun W hW => cell_keep hW k1
          have hj2 : (0 : Int) ≤ (j : Int) := by omega
          have hj4 : (j : Int) < en := by omega
          have hj5 : j < en := e1
          have r3 : ∀ W, Below wr.heap.size wr W → W.cell? ⟨sb, 3, none⟩ = some (.slice ea en ec) := fun W hW => q3 W (bl_trans hb hW)
          have ht := term_at HXQ.out HG'.out x.ix
          obtain ⟨tr, htr⟩ : ∃ tr, tr = termR L' x.ix := ⟨_, rfl⟩
          rw [← htr] at ht
          obtain ⟨tt, ti⟩ := tr
          have HT := Lib.hid ht
          simp only at HT
          have HTR := Lib.hid htr
          obtain ⟨F, hF⟩ : ∃ F, F = bE L' + 1 := ⟨_, rfl⟩
          have HFE := Lib.hid hF
          have HJL := Lib.hid hjl
          have hbq := Below.refl wr.heap.size wr
          subst ha4
          clear e1 hjl hc4 hc4' hx k0 k1 ht htr hF
          by_cases cf : F ≤ x.ix
          · have df : decide (F ≤ x.ix) = true := decide_eq_true cf
            have hin := HI'.out.term HJL.out (by rw [← HXE.out, ← HFE.out]; exact cf)
            rw [← HXE.out] at hin
            have htt := HTR.out
            unfold termR at htt
            rw [hin] at htt
            injection htt with h1 h2
            subst h1 h2
            clear cf hin
            go_wp2_with fail
            refine HT.out.mono ?_
            rintro e w6 ⟨rfl, hb6⟩
            have hbq := hb6
            have HB6 := Lib.hid (bl_trans HBQ.out hb6)
            clear hb6 hb
            go_wp2_with fail
            refine wp_region_in (Below wr.heap.size wr) (fun i => i == 7) (by kernel_rfl) (by kernel_rfl) (by exact hbq.drew) ?_
            intro hne hx
            replace hbq := hbq.drew
            have HB7 := Lib.hid HB6.out.drew
            change wpStg _ _ _ _ _ _ _ _ w6.drew
            obtain ⟨V7, hV⟩ : ∃ V, V = w6.drew := ⟨_, rfl⟩
            rw [← hV] at HB7 hbq ⊢
            clear hV
            refine stg_seg 7 (by dsimp only [List.take]) (by dsimp only [List.drop]) (by rfl) ?_
            repeat (go_big_quiet_step (fail))
            refine wpQuiet_nil ?_
            refine stg_loud (by rfl) ?_
            go_wp2_with fail
            have hfi := first_at (HX'.out.below HB7.out) HG'.out
            rw [← HFE.out] at hfi
            refine hfi.mono ?_
            rintro e w8 ⟨rfl, rfl⟩
            clear hfi
            go_wp2_with fail
            refine lq_in rfl (hbq) ?_
            refine stg_seg 15 (by dsimp only [List.take]) (by dsimp only [List.drop]) (by rfl) ?_
            repeat (go_big_quiet_step (fail))
            refine wpQuiet_nil ?_
            refine stg_nil ?_
            clear hne hx
            go_wp2_with fail
            go_roundg (en - (j + 1))
            case measure => have := HG2.out; omega
            case rel => exact ⟨HB7.out, j + 1, by omega, rfl, by go_num⟩
          · have df : decide (F ≤ x.ix) = false := decide_eq_false cf
            clear cf
            go_wp2_with fail
            refine HT.out.mono ?_
            rintro e w6 ⟨rfl, hb6⟩
            have hbq := hb6
            have HB6 := Lib.hid (bl_trans HBQ.out hb6)
            clear hb6 hb
            go_wp2_with fail
            refine wp_region_in (Below wr.heap.size wr) (fun i => i == 7) (by kernel_rfl) (by kernel_rfl) (by exact hbq.drew) ?_
            intro hne hx
            replace hbq := hbq.drew
            have HB7 := Lib.hid HB6.out.drew
            change wpStg _ _ _ _ _ _ _ _ w6.drew
            obtain ⟨V7, hV⟩ : ∃ V, V = w6.drew := ⟨_, rfl⟩
            rw [← hV] at HB7 hbq ⊢
            clear hV
            refine stg_seg 7 (by dsimp only [List.take]) (by dsimp only [List.drop]) (by rfl) ?_
            repeat (go_big_quiet_step (fail))
            refine wpQuiet_nil ?_
            refine stg_loud (by rfl) ?_
            go_wp2_with fail
            have hfi := first_at (HX'.out.below HB7.out) HG'.out
            rw [← HFE.out] at hfi
            refine hfi.mono ?_
            rintro e w8 ⟨rfl, rfl⟩
            clear hfi
            go_wp2_with fail
            refine lq_in rfl (hbq) ?_
            refine stg_seg 15 (by dsimp only [List.take]) (by dsimp only [List.drop]) (by rfl) ?_
            repeat (go_big_quiet_step (fail))
            refine wpQuiet_nil ?_
            refine stg_nil ?_
            clear hne hx
            go_wp2_with fail
            go_roundg (en - (j + 1))
            case measure => have := HG2.out; omega
            case rel => exact ⟨HB7.out, j + 1, by omega, rfl, by go_num⟩
      have d3 : decide ((k : Int) < 100) = true := decide_eq_true (by omega)
      have d3' : decide (k < 100) = true := decide_eq_true c2
      have hkl : k < pl.length := by rw [← HN.out]; exact c1
      obtain ⟨b1, o1, ha, hc⟩ := (HP.out.at_.keep hb) k hkl
      obtain ⟨x, hx⟩ : ∃ x, x = atS pl k := ⟨_, rfl⟩
      have hxe := (HP.out.s k hkl).e
      have hlk : lensTo pl (k + 1) = lensTo pl k + (atS pl k).e.l.length := rfl
      have hle := HLE.out (k + 1) (by omega) (by omega)
      have hc' : ∀ j u, x.c[j]? = some u → wr.cell? ⟨b1, o1 + k * 4 + j, none⟩ = some u := by rw [hx]; exact hc
      have hxe' : x.e.At w0 := by rw [hx]; exact hxe
      rw [← hx] at hlk
      obtain ⟨xa, xi, xt, xea, xl, xec⟩ := x
      simp only at hlk hxe'
      obtain ⟨xn, hxn⟩ : ∃ xn, xn = xl.length := ⟨_, rfl⟩
      have g0 := hc' 0 (.int .i64 xa) rfl
      have g1 := hc' 1 (.int .i64 xi) rfl
      have g2 := hc' 2 (.int .i64 xt) rfl
      have g3 := hc' 3 (.slice xea xn xec) (by rw [hxn]; rfl)
      rw [Nat.add_zero] at g0
      have hd := do_at HPK.out HBE.out.symm (by rw [HBE.out]; exact hb) xa xi xt xea xl xec hxe' (by rw [← hlk]; omega)
      rw [← hlk, ← hxn] at hd
      have HD := Lib.hid hd
      have hk2 : (0 : Int) ≤ (k : Int) := by omega
      have hk4 : (k : Int) < n := by omega
      have hk5 : k < 100 := c2
      subst ha
      clear c1 c2 hkl hc hc' hxe hxe' hlk hle hx hxn hd
      go_wp2_with fail
      refine HD.out.mono ?_
      rintro e w5 ⟨⟨bb, rfl⟩, hpx, hb5⟩
      have HPX5 := Lib.hid hpx
      have HB5 := Lib.hid (hb.trans (HBE.out ▸ hb5))
      clear hpx hb5 HD
      go_wp2_with fail
      go_roundg (n - (k + 1))
      case measure => have := HG.out; omega
      case rel => exact ⟨k + 1, by omega, by omega, rfl, by go_num, HPX5.out, HB5.out⟩
end Go.Proofs.Yteflgempjecnpaa
