/- TopClasses: the walk. Conditions: none. -/
import Derived.Test.YtmnoacjmdnmddaaDoorTcLawM
import Derived.StillTailTactics
import Derived.Deep.CutBlock
import Derived.Deep.DeepCutAuto
namespace Go.Proofs.YtmnoacjmdnmddaaDoor
open Go.RowKit Go.Maps
open Go.WideMaps (keyOf_string_mk)
theorem small_ok : NewOk 7 1 [2] [one] := by
  refine ⟨⟨by omega, by omega⟩, ⟨by omega, by omega, by decide, by decide, fun j hj => ?_, by decide⟩, by decide, by decide⟩
  obtain rfl : j = 0 := by simp at hj; omega
  exact ⟨by decide, by decide⟩
/-- What holds at each round of the steps. -/
structure Rd (w1 : World) (p : Nat) (rows : Int) (gs ls : List Int) (lv : Value) (i : Nat) (wr : World) (S : FS) : Prop where
  fl : FlAt wr w1.heap.size p S
  inv : FInv S
  eqs : S.rows = rows ∧ S.gs = gs ∧ S.ls = ls
  nn : S.nn ≤ i * 10001
  below : Below w1.heap.size w1 wr
  lim : wr.ownsRow w1.heap.size 3 1 lv ls.length (intsV ls)
  far : ∀ b ∈ S.blks p, lv.ownBlock ≠ some b
theorem Rd.moved {w1 : World} {p : Nat} {rows : Int} {gs ls : List Int} {lv : Value} {i : Nat} {wr w' : World} {S : FS} (h : Rd w1 p rows gs ls lv i wr S) (m : Moved w1.heap.size p S wr w') : ∃ S', Rd w1 p rows gs ls lv (i + 1) w' S' := by
  obtain ⟨S', hF, hI, ⟨e1, e2, e3, e4⟩, hc, hn⟩ := m
  refine ⟨S', hF, hI, ⟨e1.trans h.eqs.1, e2.trans h.eqs.2.1, e3.trans h.eqs.2.2⟩, by have := h.nn; omega, h.below.trans (hc.to_below h.below.size fun x hx => (h.fl.lt x hx).2), ownsRow_blk h.lim fun g hg => hc.block g (h.lim.lt g hg).2 fun hm => h.far g hm hg, fun b hb hl => ?_⟩
  rcases hn b hb with h1 | h1
  · exact h.far b h1 hl
  · have := (h.lim.lt b hl).2
    omega
theorem Rd.keep {w1 : World} {p : Nat} {rows : Int} {gs ls : List Int} {lv : Value} {i : Nat} {wr w' : World} {S : FS} (h : Rd w1 p rows gs ls lv i wr S) (k : Below wr.heap.size wr w') : Rd w1 p rows gs ls lv i w' S :=
  ⟨h.fl.keep k, h.inv, h.eqs, h.nn, h.below.trans (k.mono h.below.size), own_keep h.lim k, h.far⟩
theorem FsAt.alloc1 (w : World) (x : Nat) : FsAt (w.alloc (.cells #[.float .f64 x] 33)) (some ⟨w.heap.size, 0, none⟩) [x] := fun j hj => by
  obtain rfl : j = 0 := by simp at hj; omega
  exact ⟨w.heap.size, 0, rfl, by rw [blk_cell (blk_new w _ rfl)]; rfl⟩
theorem GsAt.alloc1 (w : World) (x : Int) : GsAt (w.alloc (.cells #[.int .i64 x] 3)) (some ⟨w.heap.size, 0, none⟩) [x] := fun j hj => by
  obtain rfl : j = 0 := by simp at hj; omega
  exact ⟨w.heap.size, 0, rfl, by rw [blk_cell (blk_new w _ rfl)]; rfl⟩
theorem Rd.step {w1 : World} {p : Nat} {rows : Int} {gs ls : List Int} {lv : Value} {i : Nat} {wr : World} {S : FS} (h : Rd w1 p rows gs ls lv i wr S) : Rd w1 p rows gs ls lv (i + 1) wr S :=
  ⟨h.fl, h.inv, h.eqs, Nat.le_trans h.nn (Nat.mul_le_mul_right _ (Nat.le_succ i)), h.below, h.lim, h.far⟩
set_option maxRecDepth 100000 in
set_option maxHeartbeats 16000000 in
theorem classes_s (p : Sett) (q : StpsV) (w : World) (hp : p.At w) (hq : q.At w) :
    Calls Tryd.prog 3 #[.agg #[.int .i64 p.num, .int .i64 p.rows, .slice p.ad p.gs.length p.cap, .slice p.pa p.ps.length p.pc], .slice q.a q.l.length q.c] w fun e w' => e = .returned (.bool true) ∧ Below w.heap.size w w' := by
  obtain ⟨num, rows, ad, gs, cap, pa, ps, pc⟩ := p
  obtain ⟨qa, l, qc⟩ := q
  have hb1 := bl_alloc (Below.refl w.heap.size w) (.cells #[.int .i64 num, .int .i64 rows, .slice ad gs.length cap, .slice pa ps.length pc] 27)
  have HB := Lib.hid hb1
  have hg : GsAt w ad gs := hp.g
  have hf : FsAt w pa ps := hp.p
  have hi : ItemsAt w qa l.length 5 (fun i => (l.getD i default).c) := hq.at_
  have hgl0 : gs.length ≤ maxLen := hp.gl
  have hpl0 : ps.length ≤ maxLen := hp.pl
  have hll0 : l.length ≤ maxLen := hq.max
  have HG := Lib.hid (hg.keep hb1)
  have HF := Lib.hid (hf.keep hb1)
  have HI := Lib.hid (hi.keep hb1)
  have HQ := Lib.hid (show ∀ i, i < l.length → (l.getD i default).Ok from hq.s)
  have HP := Lib.hid (show (ad = none → cap = 0) ∧ ps.length ≤ pc ∧ pc ≤ maxLen from ⟨hp.gn, hp.pc, hp.pm⟩)
  obtain ⟨w0, hw0⟩ : ∃ w0, w0 = w.alloc (.cells #[.int .i64 num, .int .i64 rows, .slice ad gs.length cap, .slice pa ps.length pc] 27) := ⟨_, rfl⟩
  have hblk : w0.heap[w.heap.size]? = some (.cells #[.int .i64 num, .int .i64 rows, .slice ad gs.length cap, .slice pa ps.length pc] 27) := by rw [hw0]; exact blk_new w _ rfl
  have q0 : ∀ w', Below w0.heap.size w0 w' → w'.cell? ⟨w.heap.size, 0, none⟩ = some (.int .i64 num) := fun w' h => blk_cell (blk_below hblk h (blk_lt hblk)) 0
  have q1 : ∀ w', Below w0.heap.size w0 w' → w'.cell? ⟨w.heap.size, 1, none⟩ = some (.int .i64 rows) := fun w' h => blk_cell (blk_below hblk h (blk_lt hblk)) 1
  have q2 : ∀ w', Below w0.heap.size w0 w' → w'.cell? ⟨w.heap.size, 2, none⟩ = some (.slice ad gs.length cap) := fun w' h => blk_cell (blk_below hblk h (blk_lt hblk)) 2
  have q3 : ∀ w', Below w0.heap.size w0 w' → w'.cell? ⟨w.heap.size, 3, none⟩ = some (.slice pa ps.length pc) := fun w' h => blk_cell (blk_below hblk h (blk_lt hblk)) 3
  have hsz : w0.heap.size = w.heap.size + 1 := by rw [hw0, World.size_alloc]
  rw [← hw0] at HB HG HF HI
  have HW0 := Lib.hid hw0
  have HSZ := Lib.hid hsz
  obtain ⟨ng, hng⟩ : ∃ n, n = gs.length := ⟨_, rfl⟩
  obtain ⟨np, hnp⟩ : ∃ n, n = ps.length := ⟨_, rfl⟩
  obtain ⟨nl, hnl⟩ : ∃ n, n = l.length := ⟨_, rfl⟩
  have hng' : (ng : Int) ≤ 9223372036854775807 := by unfold maxLen at hgl0; omega
  have hnp' : (np : Int) ≤ 9223372036854775807 := by unfold maxLen at hpl0; omega
  have hnl' : (nl : Int) ≤ 9223372036854775807 := by unfold maxLen at hll0; omega
  have HNG := Lib.hid hng
  have HNP := Lib.hid hnp
  have HNL := Lib.hid hnl
  rw [← hng] at q2
  rw [← hnp] at q3
  show Calls _ _ #[.agg #[.int .i64 num, .int .i64 rows, .slice ad gs.length cap, .slice pa ps.length pc], .slice qa l.length qc] w _
  rw [← hng, ← hnp, ← hnl]
  rw [← hng, ← hnp] at HW0
  have HNW := Lib.hid (show ∀ W, Below w0.heap.size w0 W → gs.length ≤ 100 → ps.length ≤ 100 → _ from fun W h h1 h2 => new_any num rows ad gs cap pa ps pc W (HG.out.keep h) h1 HP.out.1 (HF.out.keep h) h2 HP.out.2.1 (by have := HP.out.2.2; unfold maxLen at this; omega))
  rw [← hng, ← hnp] at HNW
  clear hp hq hb1 hg hf hi hgl0 hpl0 hll0 hblk hw0 hng hnp hnl hsz
  have hb := Below.refl w0.heap.size w0
  have r2 := q2 w0 hb
  have r3 := q3 w0 hb
  go_enter Tryd.func3, Tryd.ntmps3
  by_cases hg100 : (100 : Int) < ng
  · have d1 : decide ((100 : Int) < (ng : Int)) = true := decide_eq_true hg100
    have d1' : decide (100 < ng) = true := decide_eq_true (by omega)
    clear hg100
    go_wp2_with (rw [← HW0.out])
    go_ret
    exact ⟨rfl, bl_trans HB.out hb⟩
  have hng2 : ng ≤ 100 := by omega
  have d1 : decide ((100 : Int) < (ng : Int)) = false := decide_eq_false hg100
  have d1' : decide (100 < ng) = false := decide_eq_false (by omega)
  by_cases hp100 : (100 : Int) < np
  · have d2 : decide ((100 : Int) < (np : Int)) = true := decide_eq_true hp100
    have d2' : decide (100 < np) = true := decide_eq_true (by omega)
    clear hg100 hp100
    go_wp2_with (rw [← HW0.out])
    go_ret
    exact ⟨rfl, bl_trans HB.out hb⟩
  have hnp2 : np ≤ 100 := by omega
  have d2 : decide ((100 : Int) < (np : Int)) = false := decide_eq_false hp100
  have d2' : decide (100 < np) = false := decide_eq_false (by omega)
  clear hg100 hp100
  go_wp2_with (rw [← HW0.out])
  have hba := bl_alloc (bl_alloc hb (.cells #[.int .i64 2] 3)) (.cells #[.float .f64 4607182418800017408] 33)
  have hfs : FsAt ((w0.alloc (.cells #[.int .i64 2] 3)).alloc (.cells #[.float .f64 4607182418800017408] 33)) (some ⟨w0.heap.size + 1, 0, none⟩) [one] := by
    have := FsAt.alloc1 (w0.alloc (.cells #[.int .i64 2] 3)) one
    rw [World.size_alloc] at this
    exact this
  refine (new_any 7 1 (some ⟨w0.heap.size, 0, none⟩) [2] 1 (some ⟨w0.heap.size + 1, 0, none⟩) [one] 1 _ ((GsAt.alloc1 w0 2).keep (bl_alloc (Below.refl _ _) _)) (by decide) (fun h => by cases h) hfs (by decide) (by decide) (by decide)).mono ?_
  rintro e w3 ⟨hb3, h⟩
  rcases h with ⟨hno, _⟩ | ⟨_, sp, SS, rfl, hF, hI, hSS⟩
  · exact absurd small_ok hno
  have hone : SS.ls.length = 1 := by rw [hSS.2.2.1]; exact limL_len _ _ _
  replace hb := bl_trans hba hb3
  have HLF := Lib.hid (left_fl hF hI)
  rw [hone] at HLF
  clear hba hfs hb3 hF hI hSS hone
  go_wp2_with fail
  refine HLF.out.mono ?_
  rintro e w4 ⟨a4, c4, rfl, _, hb4⟩
  replace hb := bl_trans hb hb4
  clear hb4 HLF
  go_wp2_with fail
  refine (HNW.out w4 hb hng2 hnp2).mono ?_
  rintro e w5 ⟨hb5, h⟩
  have hb4s := hb.size
  have HB04 := Lib.hid hb
  replace hb := bl_trans hb hb5
  rcases h with ⟨hno, rfl⟩ | ⟨hok, p, S, rfl, hF, hI, hS⟩
  · go_wp2_with fail
    go_ret
    exact ⟨rfl, bl_trans HB.out hb⟩
  have HB5 := Lib.hid hb5
  have HF1 := Lib.hid hF
  have HI1 := Lib.hid hI
  have HS1 := Lib.hid hS
  have HOK := Lib.hid hok
  have HB4 := Lib.hid hb4s
  have HB0 := Lib.hid hb
  clear hb5 hF hI hS hok hb4s r2 r3
  go_wp2_with fail
  have u1 : ∀ W, Below w5.heap.size w5 W → W.cell? ⟨w.heap.size, 1, none⟩ = some (.int .i64 rows) := fun W h => q1 W (bl_trans hb h)
  have u2 : ∀ W, Below w5.heap.size w5 W → W.cell? ⟨w.heap.size, 2, none⟩ = some (.slice ad ng cap) := fun W h => q2 W (bl_trans hb h)
  have u3 : ∀ W, Below w5.heap.size w5 W → W.cell? ⟨w.heap.size, 3, none⟩ = some (.slice pa np pc) := fun W h => q3 W (bl_trans hb h)
  have HCN := Lib.hid (show ∀ W, Below w5.heap.size w5 W → Calls Tryd.prog 7 #[.agg #[.int .i64 rows, .slice ad ng cap]] W fun e w' => e = .returned (.int .i64 (countL rows gs)) ∧ Below W.heap.size W w' from fun W h => by
    rw [HNG.out]
    exact count_any rows ad gs cap W (HG.out.keep (bl_trans hb h)) (by unfold maxLen; have := HNG.out; omega))
  have hcr := countL_rng rows gs
  obtain ⟨N, hN⟩ : ∃ N, N = countL rows gs := ⟨_, rfl⟩
  rw [← hN] at HCN hcr
  have HNN := Lib.hid hN
  have hn18 := HOK.out.2.2
  have HLM := Lib.hid (show ∀ W, Below w5.heap.size w5 W → Calls Tryd.prog 6 #[.int .i64 N, .slice pa np pc] W fun e w' => ∃ a' c', e = .returned (.tuple #[.slice a' np c', .int .i64 0]) ∧ w'.ownsRow W.heap.size 3 1 (.slice a' np c') np (intsV (limL N ps np)) ∧ Below W.heap.size W w' from fun W h => by
    rw [HNP.out]
    exact limits_yes N pa ps pc W hcr.1 (by omega) (HF.out.keep (bl_trans hb h)) hn18.1 hn18.2 HP.out.2.1 (by have := HP.out.2.2; unfold maxLen at this; omega))
  have hbq := Below.refl w5.heap.size w5
  have HQ1 := Lib.hid q1
  have HQ2 := Lib.hid q2
  clear hN hcr hn18 hb q0 q1 q2 q3
  refine wp_region_in (Below w5.heap.size w5) (fun i => i == 2 || i == 5) (by kernel_rfl) (by kernel_rfl) (by exact hbq.drew) ?_
  intro hne hx
  replace hbq := hbq.drew
  refine stg_seg 2 (by dsimp only [List.take]) (by dsimp only [List.drop]) (by rfl) ?_
  repeat (go_big_quiet_step (fail))
  refine wpQuiet_nil ?_
  refine stg_loud (by rfl) ?_
  go_wp2_with fail
  refine (HCN.out _ hbq).mono ?_
  rintro e w6 ⟨rfl, hb6⟩
  replace hbq := bl_trans hbq hb6
  clear hb6
  go_wp2_with fail
  refine lq_in rfl (hbq) ?_
  refine stg_seg 2 (by dsimp only [List.take]) (by dsimp only [List.drop]) (by rfl) ?_
  repeat (go_big_quiet_step (fail))
  refine wpQuiet_nil ?_
  refine stg_loud (by rfl) ?_
  go_wp2_with fail
  refine (HLM.out _ hbq).mono ?_
  rintro e w7 ⟨la, lc, rfl, hrow, hb7⟩
  have hb6s := hbq.size
  replace hbq := bl_trans hbq hb7
  have HROW := Lib.hid (row_base hrow hb6s)
  clear hb7 hrow hb6s
  go_wp2_with fail
  refine lq_in rfl (hbq) ?_
  refine stg_seg 5 (by dsimp only [List.take]) (by dsimp only [List.drop]) (by rfl) ?_
  repeat (go_big_quiet_step (fail))
  refine wpQuiet_nil ?_
  refine stg_nil ?_
  clear hne hx
  go_wp2_with fail
  obtain ⟨ls, hls⟩ : ∃ ls, ls = limL N ps np := ⟨_, rfl⟩
  have hlsl : ls.length = np := by rw [hls]; exact limL_len _ _ _
  rw [← hls] at HROW
  have hR0 : Rd w4 p rows gs ls (.slice la np lc) 0 w7 S := by
    refine ⟨HF1.out.keep hbq, HI1.out, ⟨HS1.out.1, HS1.out.2.1, ?_⟩, by rw [HS1.out.2.2.2]; omega, HB5.out.trans (hbq.mono HB5.out.size), ?_, fun b hb hl => ?_⟩
    · rw [HS1.out.2.2.1, hls, HNN.out, HNP.out]
    · rw [hlsl]
      exact row_base HROW.out HB5.out.size
    · have h1 := (HF1.out.lt b hb).1
      have h2 := (HROW.out.lt b hl).1
      omega
  have HLS := Lib.hid hls
  have HLL := Lib.hid hlsl
  have HN18 := Lib.hid HOK.out.2.2
  rw [← HNP.out] at HN18
  clear hbq HROW HCN HLM u1 u2 u3 hls hlsl
  go_loopg [10] 60 (fun g i wr => ∃ k : Nat, (k ≤ 60 ∧ k ≤ nl) ∧ g = 60 - k ∧ i = .int .i64 k ∧ ∃ S, Rd w4 p rows gs ls (.slice la np lc) k wr S)
  case atStart => exact ⟨0, ⟨by omega, by omega⟩, rfl, rfl, S, hR0⟩
  case round =>
    clear hR0 HF1 HI1 HS1
    clear S
    obtain ⟨k, ⟨hk60, hkn⟩, hg, rfl, S, hR⟩ := hrel
    have HBR := Lib.hid (show Below w0.heap.size w0 wr from HB04.out.trans (hR.below.mono HB04.out.size))
    have HR := Lib.hid hR
    have HGK := Lib.hid hg
    have HK := Lib.hid (And.intro hk60 hkn)
    clear hR hg hk60 hkn
    by_cases hkl : k < nl
    case neg =>
      have z1 : decide ((k : Int) < (nl : Int)) = false := decide_eq_false (by omega)
      have z1' : decide (k < nl) = false := decide_eq_false hkl
      clear hkl
      go_wp2_with fail
      go_ret
      exact ⟨rfl, bl_trans HB.out HBR.out⟩
    have z1 : decide ((k : Int) < (nl : Int)) = true := decide_eq_true (by omega)
    have z1' : decide (k < nl) = true := decide_eq_true hkl
    by_cases hk6 : k < 60
    case neg =>
      have z2 : decide ((k : Int) < 60) = false := decide_eq_false (by omega)
      have z2' : decide (k < 60) = false := decide_eq_false hk6
      clear hkl hk6
      go_wp2_with fail
      go_ret
      exact ⟨rfl, bl_trans HB.out HBR.out⟩
    have z2 : decide ((k : Int) < 60) = true := decide_eq_true (by omega)
    have z2' : decide (k < 60) = true := decide_eq_true hk6
    obtain ⟨bl, off, hqa, hcl⟩ := HI.out k (by rw [← HNL.out]; exact hkl)
    obtain ⟨x, hx⟩ : ∃ x, x = l.getD k default := ⟨_, rfl⟩
    have hxo := HQ.out k (by rw [← HNL.out]; exact hkl)
    rw [← hx] at hxo
    simp only [← hx] at hcl
    subst hqa
    have hkl0 : (0 : Int) ≤ (k : Int) := by omega
    have hkl1 : (k : Int) < (nl : Int) := by omega
    have g0 : ∀ W, Below wr.heap.size wr W → W.cell? ⟨bl, off + k * 5, none⟩ = some (.int .i64 x.act) := fun W h => cell_keep (bl_trans HBR.out h) (by simpa using hcl 0 _ rfl)
    have g1 : ∀ W, Below wr.heap.size wr W → W.cell? ⟨bl, off + k * 5 + 1, none⟩ = some (.int .i64 x.own) := fun W h => cell_keep (bl_trans HBR.out h) (hcl 1 _ rfl)
    have g2 : ∀ W, Below wr.heap.size wr W → W.cell? ⟨bl, off + k * 5 + 2, none⟩ = some (.int .i64 x.cls) := fun W h => cell_keep (bl_trans HBR.out h) (hcl 2 _ rfl)
    have g3 : ∀ W, Below wr.heap.size wr W → W.cell? ⟨bl, off + k * 5 + 3, none⟩ = some (.int .i64 x.many) := fun W h => cell_keep (bl_trans HBR.out h) (hcl 3 _ rfl)
    have g4 : ∀ W, Below wr.heap.size wr W → W.cell? ⟨bl, off + k * 5 + 4, none⟩ = some (.string x.lab) := fun W h => cell_keep (bl_trans HBR.out h) (hcl 4 _ rfl)
    have HXO := Lib.hid hxo
    have HK2 := Lib.hid hk6
    have hbr := Below.refl wr.heap.size wr
    have e0 := g0 wr hbr
    clear hcl hxo hkl hk6 hx
    go_upto_block 2 with fail
    obtain ⟨y, hy⟩ : ∃ y, y = bits BinOp.and IntKind.i64 x.act 3 := ⟨_, rfl⟩
    rw [← hy]
    clear hy e0 g0
    have hRd := HR.out.keep (Below.refl wr.heap.size wr).drew
    have HRD := Lib.hid hRd
    have hBs := HR.out.below.size
    have hBs' : w4.heap.size ≤ wr.drew.heap.size := hBs
    have hnn : S.nn ≤ 9000000 := by have := HR.out.nn; have := HK2.out; omega
    have HTK := Lib.hid (take_at hRd.fl hRd.inv hBs' (by omega) x.own x.cls x.many HXO.out.1)
    have HGV := Lib.hid (give_at HR.out.fl HR.out.inv hBs x.own HXO.out.1)
    have HAU := Lib.hid (auto_at HR.out.fl HR.out.inv hBs hnn x.own HXO.out.1)
    have HSE := Lib.hid (seat_at hRd.fl hRd.inv hBs' (by omega) x.own HXO.out.1 x.lab HXO.out.2)
    clear hRd hBs hBs' hnn
    go_cut [10] (fun s10 wx => s10 = .int .i64 k ∧ ∃ S', Rd w4 p rows gs ls (.slice la np lc) (k + 1) wx S')
    case first =>
      as_aux_lemma =>
        have f1 := g1 wr hbr
        have HST := Lib.hid (show ∃ S', Rd w4 p rows gs ls (.slice la np lc) (k + 1) wr S' from ⟨S, HR.out.step⟩)
        by_cases y0 : y = 0
        · subst y0
          go_upto_region 17 with fail
          refine wp_region_last 16 (Below wr.heap.size wr) (fun _ => false) (by kernel_rfl) (by rfl) (by kernel_rfl) (by kernel_rfl) (by exact hbr.drew) ?_
          simp only [List.take_succ_cons, List.take_zero]
          intro hne hx
          replace hbr := hbr.drew
          refine stg_seg 16 (by dsimp only [List.take]) (by dsimp only [List.drop]) (by rfl) ?_
          repeat (go_big_quiet_step (fail))
          refine wpQuiet_nil ?_
          refine stg_nil ?_
          clear hne hx
          intro hxx
          clear hxx
          change wpList _ _ _ _ _ wr.drew
          go_wp2_with fail
          refine HTK.out.mono ?_
          rintro e w8 ⟨⟨v, rfl⟩, hm⟩
          have hE := HRD.out.moved hm
          clear hm
          go_wp2_with fail
          go_meet
          exact ⟨rfl, hE⟩
        by_cases y1 : y = 1
        · subst y1
          clear y0
          go_wp2_with fail
          refine HGV.out.mono ?_
          rintro e w8 ⟨⟨v, rfl⟩, hm⟩
          have hE := HR.out.moved hm
          clear hm
          go_wp2_with fail
          go_meet
          exact ⟨rfl, hE⟩
        by_cases y2 : y = 2
        · subst y2
          clear y0 y1
          go_wp2_with fail
          refine HAU.out.mono ?_
          rintro e w8 ⟨⟨v, u, rfl⟩, hm⟩
          have hE := HR.out.moved hm
          clear hm
          go_wp2_with fail
          go_meet
          exact ⟨rfl, hE⟩
        by_cases y3 : y = 3
        · subst y3
          clear y0 y1 y2
          go_upto_region 23 with fail
          refine wp_region_last 11 (Below wr.heap.size wr) (fun _ => false) (by kernel_rfl) (by rfl) (by kernel_rfl) (by kernel_rfl) (by exact hbr.drew) ?_
          simp only [List.take_succ_cons, List.take_zero]
          intro hne hx
          replace hbr := hbr.drew
          refine stg_seg 11 (by dsimp only [List.take]) (by dsimp only [List.drop]) (by rfl) ?_
          repeat (go_big_quiet_step (fail))
          refine wpQuiet_nil ?_
          refine stg_nil ?_
          clear hne hx
          intro hxx
          clear hxx
          change wpList _ _ _ _ _ wr.drew
          go_wp2_with fail
          refine HSE.out.mono ?_
          rintro e w8 ⟨⟨v, rfl⟩, hm⟩
          have hE := HRD.out.moved hm
          clear hm
          go_wp2_with fail
          go_meet
          exact ⟨rfl, hE⟩
        have k0 : (y == 0) = false := by simp [y0]
        have k1 : (y == 1) = false := by simp [y1]
        have k2 : (y == 2) = false := by simp [y2]
        have k3 : (y == 3) = false := by simp [y3]
        clear y0 y1 y2 y3
        go_wp2_with fail
        go_meet
        exact ⟨rfl, HST.out⟩
    case rest =>
      as_aux_lemma =>
        obtain ⟨rfl, S1, hR1⟩ := hcut
        clear HTK HGV HAU HSE HRD HR HBR hbr g1 g2 g3 g4 HXO
        clear S
        have hn1 := hR1.inv.nest
        have hll := hR1.eqs.2.2
        have hsl : S1.ls.length = np := by rw [hll]; exact HLL.out
        have HSL := Lib.hid hsl
        have HR1 := Lib.hid hR1
        have HSO := Lib.hid (sold_at hR1.fl hR1.inv)
        rw [hsl] at HSO
        have HLE := Lib.hid (fun W (h : Below wc.heap.size wc W) => left_fl (hR1.fl.keep h) hR1.inv)
        rw [hsl] at HLE
        have HHO := Lib.hid (fun W (h : Below wc.heap.size wc W) => holds_at (hR1.fl.keep h) hR1.inv (by have := hR1.nn; have := HK2.out; omega))
        have hnp8 : np ≤ 8 := HN18.out.2
        have hnp1 : 1 ≤ np := HN18.out.1
        obtain ⟨i0, hi0, hz0, hz1, hz2⟩ := int_parts
        have hmm := @run_makeMap Tryd.prog
        clear hR1 hn1 hll hsl
        go_wp2_with fail
        refine HSO.out.mono ?_
        rintro e w8 ⟨sa, sc, rfl, hso, hb8⟩
        have HS8 := Lib.hid hso
        clear hso HSO
        go_wp2_with fail
        refine (HLE.out w8 hb8).mono ?_
        rintro e w9 ⟨ta, tc, rfl, hle, hb9⟩
        have HL9 := Lib.hid hle
        have HS9 := Lib.hid (own_keep HS8.out hb9)
        have hbc := bl_trans hb8 hb9
        have HZ8 := Lib.hid hb8.size
        clear hle hb9 hb8 HLE HS8
        go_wp2_with (refine wpList_make_full _ rfl _ _ 22 rfl wc.heap.size 3 i0 (.int .i64 0) 1 Tryd.underlying22 hi0 hz0 hz1 .i64 .i64 np np np rfl rfl rfl rfl (by rw [hz2]; omega) (by unfold maxLen; omega) hbc.size ?_; intro w10 hown10 hgrow10)
        have hb10 := bl_trans hbc ((Below.refl w9.heap.size w9).grown hgrow10 (Nat.le_refl _) (by intro k hk; cases hk))
        have HS10 := Lib.hid (show w10.ownsRow wc.heap.size 3 1 (.slice sa np sc) np (intsV S1.ss) by
          have := own_keep HS9.out ((Below.refl w9.heap.size w9).grown hgrow10 (Nat.le_refl _) (by intro k hk; cases hk))
          exact this)
        have HL10 := Lib.hid (row_base (own_keep HL9.out ((Below.refl w9.heap.size w9).grown hgrow10 (Nat.le_refl _) (by intro k hk; cases hk))) HZ8.out)
        obtain ⟨sb, hsb⟩ : ∃ sb, sb = w9.heap.size := ⟨_, rfl⟩
        rw [made_int, ← hsb] at hown10
        rw [← hsb]
        have HSB := Lib.hid (show wc.heap.size ≤ sb ∧ sb < w10.heap.size ∧ (∀ g, Value.ownBlock (.slice sa np sc) = some g → g < sb) ∧ ∀ g, Value.ownBlock (.slice ta np tc) = some g → g < sb from ⟨by rw [hsb]; exact hbc.size, (hown10.lt sb rfl).2, fun g hg => by rw [hsb]; exact (HS9.out.lt g hg).2, fun g hg => by rw [hsb]; exact (HL9.out.lt g hg).2⟩)
        have HO10 := Lib.hid hown10
        clear hown10 hgrow10 hbc hsb HS9 HL9 hi0 hz0 hz1 hz2
        refine (HHO.out w10 hb10).mono ?_
        rintro e w11 ⟨ha, hc, L, L0, rfl, hperm, hkey, hrow, hb11⟩
        have hbq := bl_trans hb10 hb11
        have HROW := Lib.hid hrow
        have HO11 := Lib.hid (own_keep HO10.out hb11)
        have HS11 := Lib.hid (own_keep HS10.out hb11)
        have HL11 := Lib.hid (own_keep HL10.out hb11)
        have hlen : L.length = L0.length := by
          have := congrArg List.length hkey
          simpa using this
        obtain ⟨nh, hnh⟩ : ∃ nh, nh = L.length := ⟨_, rfl⟩
        have HNH := Lib.hid (And.intro hnh (hnh.trans hlen))
        have hnhb : nh ≤ 1000000 := by
          have h1 := HR1.out.fl.count HR1.out.inv
          have h2 := hperm.length_eq
          have h3 := HR1.out.nn
          have h4 := HK2.out
          omega
        have HPM := Lib.hid hperm
        have HKY := Lib.hid hkey
        have HZ10 := Lib.hid hb10.size
        rw [← hnh]
        clear hperm hkey hrow hlen hnh hb10 HO10 HS10 HL10 HHO
        go_wp2_with fail
        obtain ⟨nb, hnb⟩ : ∃ nb, nb = w11.heap.size := ⟨_, rfl⟩
        obtain ⟨W0, hW0⟩ : ∃ W0, W0 = w11.alloc (.map #[] 0) := ⟨_, rfl⟩
        rw [← hW0, ← hnb]
        have hk0 : Below w11.heap.size w11 W0 := by rw [hW0]; exact bl_alloc (Below.refl _ _) _
        have hC0 : Cnt W0 wc.heap.size sb nb np rows gs (sumTo np L0 0) (0 * 10000) (toldTo L0 0) W0 := by
          refine ⟨Chg.refl _ _, ?_, .map [], ?_, NmOk.nil rows gs⟩
          · have := own_keep HO11.out hk0
            rw [sumTo_zero]
            unfold intsV
            rw [List.map_replicate]
            exact this
          · rw [Nat.zero_mul]
            refine ⟨#[], 0, ?_, ⟨by simp, MapKept.stamped_empty 0, by simp⟩, Nat.le_refl _, rfl⟩
            rw [hW0, hnb]
            exact heap_alloc_new _ _
        have hne : sb < nb := by
          rw [hnb]
          have := HSB.out.2.1
          have := hb11.size
          omega
        have HBW := Lib.hid (show ∀ (W : World) xs m T, Cnt W0 wc.heap.size sb nb np rows gs xs m T W → Below wc.heap.size wc W from fun W xs m T h => (bl_trans hbq hk0).trans (h.chg.to_below (bl_trans hbq hk0).size (fun x hx => by
          have h1 := HSB.out.1
          rcases List.mem_cons.1 hx with rfl | hx
          · exact h1
          · have : x = nb := by simpa using hx
            omega)))
        have HRW := Lib.hid (show ∀ (W : World) xs m T, Cnt W0 wc.heap.size sb nb np rows gs xs m T W → W.ownsRow w10.heap.size 50 4 (.slice ha nh hc) nh (fours L) from fun W xs m T h => h.row (by have := own_keep HROW.out hk0; rw [← HNH.out.1] at this; exact this) (fun e => by
          have h1 := (HROW.out.lt sb (by rw [← HNH.out.1]; exact e)).1
          have h2 := HSB.out.2.1
          omega) (fun e => by
          have h1 := (HROW.out.lt nb (by rw [← HNH.out.1]; exact e)).2
          omega))
        have HSR := Lib.hid (show ∀ (W : World) xs m T, Cnt W0 wc.heap.size sb nb np rows gs xs m T W → GsAt W sa S1.ss from fun W xs m T h => own_gs (h.row (own_keep HS11.out hk0) (fun e => by
          have h1 := HSB.out.2.2.1 sb e
          omega) (fun e => by
          have h1 := HSB.out.2.2.1 nb e
          omega)))
        have HTR := Lib.hid (show ∀ (W : World) xs m T, Cnt W0 wc.heap.size sb nb np rows gs xs m T W → GsAt W ta (leftTo S1.ls S1.ss np) from fun W xs m T h => own_gs (h.row (own_keep HL11.out hk0) (fun e => by
          have h1 := HSB.out.2.2.2 sb e
          omega) (fun e => by
          have h1 := HSB.out.2.2.2 nb e
          omega)))
        have HBC := Lib.hid (show Below w0.heap.size w0 wc from HB04.out.trans (HR1.out.below.mono HB04.out.size))
        clear hnb hW0 hk0 hne hbq hb11 hmm
        go_loopg [16] nh (fun g i wr => ∃ j : Nat, j ≤ nh ∧ g = nh - j ∧ i = .int .i64 j ∧ Cnt W0 wc.heap.size sb nb np rows gs (sumTo np L0 j) (j * 10000) (toldTo L0 j) wr)
        case atStart => exact ⟨0, by omega, rfl, rfl, hC0⟩
        case round =>
          clear hC0
          obtain ⟨j, hj, hg, rfl, hC⟩ := hrel
          have HG2 := Lib.hid hg
          have HC := Lib.hid hC
          have HJ := Lib.hid hj
          clear hg hC
          by_cases hjn : j < nh
          case neg =>
            have z3 : decide ((j : Int) < (nh : Int)) = false := decide_eq_false (by omega)
            have z3' : decide (j < nh) = false := decide_eq_false hjn
            have HJE := Lib.hid (show j = nh by omega)
            clear hjn hj
            as_aux_lemma =>
              have hsm := HC.out.sums
              have hE : sumTo np L0 j = S1.ss := by
                have h1 := sum_all HR1.out.inv HPM.out
                rw [HSL.out] at h1
                rw [HJE.out, HNH.out.2]
                exact h1
              rw [hE] at hsm
              have hssl : S1.ss.length = np := HR1.out.inv.nest.len.trans HSL.out
              have HSAME := Lib.hid (same_any (some ⟨sb, 0, none⟩) sa S1.ss S1.ss np sc wr (own_gs hsm) (HSR.out _ _ _ _ HC.out) (by unfold maxLen; omega) (by unfold maxLen; omega))
              rw [hssl, decide_eq_true (rfl : S1.ss = S1.ss)] at HSAME
              have HLS1 := Lib.hid (show ∀ W, Below wr.heap.size wr W → GsAt W la S1.ls from fun W h => by
                have h1 := HR1.out.lim
                rw [HLL.out] at h1
                have h2 := own_gs (own_keep h1 (bl_trans (HBW.out _ _ _ _ HC.out) h))
                rw [HR1.out.eqs.2.2]
                exact h2)
              have HNL2 := Lib.hid (show ∀ W (t : Nat), Below wr.heap.size wr W → t < np → Calls Tryd.prog 17 #[.slice la np lc, .slice sa np sc, .int .i64 t] W fun e w' => e = .returned (.tuple #[.int .i64 (leastL S1.ls S1.ss (t : Int)), .int .i64 0]) ∧ Below W.heap.size W w' from fun W t h ht => by
                have h1 := left_at HR1.out.inv.nest la sa lc sc (t : Int) (HLS1.out W h) ((HSR.out _ _ _ _ HC.out).keep h)
                have e : leftR S1.ls S1.ss (t : Int) = (leastL S1.ls S1.ss (t : Int), 0) := by
                  unfold leftR
                  rw [if_pos (by have := HSL.out; omega)]
                rw [e, HSL.out] at h1
                exact h1)
              have HTR2 := Lib.hid ((HTR.out _ _ _ _ HC.out))
              have HBZ := Lib.hid (HBW.out _ _ _ _ HC.out)
              clear hsm hE hssl
              go_wp2_with fail
              refine HSAME.out.mono ?_
              rintro e w12 ⟨rfl, hb12⟩
              go_wp2_with fail
              go_loopg [22] np (fun g i wx => Below wr.heap.size wr wx ∧ ∃ t : Nat, t ≤ np ∧ g = np - t ∧ i = .int .i64 t)
              case atStart => exact ⟨hb12, 0, by omega, rfl, rfl⟩
              case round =>
                clear hb12 HC HSAME
                obtain ⟨hbx, t, ht, hg, rfl⟩ := hrel
                have HG3 := Lib.hid hg
                clear hg
                by_cases htn : t < np
                case neg =>
                  have z4 : decide ((t : Int) < (np : Int)) = false := decide_eq_false (by omega)
                  have z4' : decide (t < np) = false := decide_eq_false htn
                  have HBX := Lib.hid hbx
                  clear htn ht hbx
                  go_wp2_with fail
                  go_roundg (60 - (k + 1))
                  case measure => have := HGK.out; have := HK2.out; omega
                  case rel =>
                    refine ⟨k + 1, ⟨by have := HK2.out; omega, by have := HK.out.2; omega⟩, rfl, by go_num, S1, ?_⟩
                    exact HR1.out.keep (bl_trans HBZ.out HBX.out)
                have z4 : decide ((t : Int) < (np : Int)) = true := decide_eq_true (by omega)
                have z4' : decide (t < np) = true := decide_eq_true htn
                obtain ⟨tb, tof, hta, htc⟩ := HTR2.out t (by rw [leftTo_len]; exact htn)
                rw [leftTo_at _ _ htn] at htc
                have HTC := Lib.hid htc
                have HCL2 := Lib.hid (HNL2.out _ _ hbx htn)
                obtain ⟨y, hy⟩ : ∃ y, y = leastL S1.ls S1.ss (t : Int) := ⟨_, rfl⟩
                rw [← hy] at HTC HCL2
                have ht0 : (0 : Int) ≤ (t : Int) := by omega
                have ht1 : (t : Int) < (np : Int) := by omega
                subst hta
                clear hy htc htn ht
                go_wp2_with fail
                refine HCL2.out.mono ?_
                rintro e w13 ⟨rfl, hb13⟩
                have htc2 := cell_keep (bl_trans hbx hb13) HTC.out
                have HB13 := Lib.hid (bl_trans hbx hb13)
                clear hbx hb13
                go_wp2_with fail
                go_roundg (np - (t + 1))
                case measure => have := HG3.out; omega
                case rel => exact ⟨HB13.out, t + 1, by omega, rfl, by go_num⟩
          have z3 : decide ((j : Int) < (nh : Int)) = true := decide_eq_true (by omega)
          have z3' : decide (j < nh) = true := decide_eq_true hjn
          as_aux_lemma =>
            have hj0 : j < L0.length := by rw [← HNH.out.2]; exact hjn
            have hj1 : j < L.length := by rw [← HNH.out.1]; exact hjn
            obtain ⟨x, hx⟩ : ∃ x, x = L0[j] := ⟨_, rfl⟩
            have hxm : x ∈ S1.H := HPM.out.mem_iff.1 (by rw [hx]; exact List.getElem_mem hj0)
            have hkey : L[j].own = x.own ∧ L[j].cls = x.cls ∧ L[j].many = x.many := by
              have h1 := congrArg (fun l => l[j]?) HKY.out
              simp only [List.getElem?_map, List.getElem?_eq_getElem hj0, List.getElem?_eq_getElem hj1, Option.map_some, Option.some.injEq] at h1
              rw [hx]
              unfold HD.key at h1
              injection h1 with h2 h3
              injection h3 with h4 h5
              exact ⟨h2, h4, h5⟩
            have hrow := HRW.out _ _ _ _ HC.out
            obtain ⟨hgb, hcap, hsl, hgb0⟩ := row_some hrow (by omega)
            injection hsl with e1 e2 e3
            subst e1 e3
            have HCL := Lib.hid (show ∀ (W : World) xs m T, Cnt W0 wc.heap.size sb nb np rows gs xs m T W → W.cell? ⟨hgb, j * 4, none⟩ = some (.int .i64 x.own) ∧ W.cell? ⟨hgb, j * 4 + 1, none⟩ = some (.int .i64 x.cls) ∧ W.cell? ⟨hgb, j * 4 + 2, none⟩ = some (.int .i64 x.many) from fun W xs m T h => by
              have h0 := HRW.out _ _ _ _ h
              obtain ⟨k1, k2, k3⟩ := hkey
              refine ⟨?_, ?_, ?_⟩
              · rw [← k1]
                exact row_cell h0 (by have := fours_get hj1 0 (by omega); rw [Nat.add_zero] at this; rw [this]; rfl)
              · rw [← k2]
                exact row_cell h0 (by rw [fours_get hj1 1 (by omega)]; rfl)
              · rw [← k3]
                exact row_cell h0 (by rw [fours_get hj1 2 (by omega)]; rfl))
            have hcl := HR1.out.inv.cls x hxm
            rw [HSL.out] at hcl
            have hmany := HR1.out.inv.many x hxm
            have hrng := sum_rng HR1.out.inv HPM.out (k := j) (c := x.cls) (by omega) (by rw [HSL.out]; exact hcl)
            have hsum := row_cell HC.out.sums (intsV_get (xs := sumTo np L0 j) (j := x.cls) (by rw [sumTo_len]; exact hcl))
            rw [sumTo_at L0 j hcl] at hsum
            obtain ⟨s0, hs0⟩ : ∃ s0, s0 = heldC (L0.take j) x.cls := ⟨_, rfl⟩
            rw [← hs0] at hrng hsum
            have hfz : wr.frozen? ⟨sb, x.cls, none⟩ = false := HC.out.sums.frozenAt x.cls
            have HST := Lib.hid (show ∀ W, W = wr.setCell ⟨sb, x.cls, none⟩ (.int .i64 (s0 + x.many)) → Cnt W0 wc.heap.size sb nb np rows gs (sumTo np L0 (j + 1)) (j * 10000) (toldTo L0 j) W from fun W hW => by
              rw [hW, ← sumTo_step hj0 (by rw [← hx]; exact hcl), ← hx, sumTo_at L0 j hcl, ← hs0]
              exact HC.out.store _ _)
            have HX := Lib.hid (And.intro hx hxm)
            obtain ⟨cl, hcle⟩ : ∃ cl, cl = x.cls := ⟨_, rfl⟩
            obtain ⟨mn, hmne⟩ : ∃ mn, mn = x.many := ⟨_, rfl⟩
            obtain ⟨ow, howe⟩ : ∃ ow, ow = x.own := ⟨_, rfl⟩
            rw [← hcle] at hcl hsum hfz HST HCL
            rw [← hmne] at hmany HST HCL
            rw [← howe] at HCL
            have HXE := Lib.hid (And.intro hcle (And.intro hmne howe))
            obtain ⟨c0, c1, c2⟩ := HCL.out _ _ _ _ HC.out
            have hcl0 : (0 : Int) ≤ (cl : Int) := by omega
            have hcl1 : (cl : Int) < (np : Int) := by omega
            have hjj0 : (0 : Int) ≤ (j : Int) := by omega
            have hjj1 : (j : Int) < (nh : Int) := by omega
            have w1 : decide ((cl : Int) < 0) = false := decide_eq_false (by omega)
            have w2 : decide ((np : Int) ≤ (cl : Int)) = false := decide_eq_false (by omega)
            have w2' : decide (np ≤ cl) = false := decide_eq_false (by omega)
            have hz1 : mn ≤ 10000 := hmany.2
            have hz2 : 1 ≤ mn := hmany.1
            have hz3 : 0 ≤ s0 := hrng.1
            have hz4 : s0 ≤ 10000 := hrng.2
            clear hj1 hx hxm hkey hrow hgb0 hcl hmany hrng hs0 hcle hmne howe hj hjn
            go_wp2_with fail
            go_still_tail 21, (by kernel_rfl)
            have hCV := HST.out _ rfl
            have kow := (HCL.out _ _ _ _ hCV).1
            have hCD := hCV.drew
            have HCV := Lib.hid hCD
            have HLB := Lib.hid (labelsOf_at (HR1.out.fl.keep (HBW.out _ _ _ _ hCD)) HR1.out.inv HX.out.2)
            rw [← HXE.out.2.2] at HLB
            obtain ⟨ns, hns⟩ : ∃ n, n = x.seats.length := ⟨_, rfl⟩
            have hns9 : (ns : Int) ≤ 10000 := by
              have h1 := HR1.out.inv.len x HX.out.2
              have h2 := (HR1.out.inv.many x HX.out.2).2
              omega
            rw [← hns] at HLB
            have HNS := Lib.hid hns
            clear hCV hCD hns
            go_wp2_with fail
            obtain ⟨V, hV⟩ : ∃ V, V = (wr.setCell ⟨sb, cl, none⟩ (.int .i64 (s0 + mn))).drew := ⟨_, rfl⟩
            rw [← hV] at HLB HCV ⊢
            clear hV c0 c1 c2 kow HST hsum hfz
            refine HLB.out.mono ?_
            rintro e V1 ⟨ga, gc, rfl, hgr, hbv⟩
            have HC1 := Lib.hid (HCV.out.keep hbv)
            have HGR := Lib.hid hgr
            have HVZ := Lib.hid (show nb < V.heap.size from by
              obtain ⟨D, hD, _⟩ := HCV.out.nm
              exact hD.lt)
            clear hgr hbv HLB
            go_wp2_with fail
            rw [IntWalk.i64_in (s0 + mn) (by omega)]
            have hC00 : Cnt W0 wc.heap.size sb nb np rows gs (sumTo np L0 (j + 1)) (j * 10000 + 0) (toldTo L0 j ++ x.seats.take 0) V1 := by
              rw [Nat.add_zero, List.take_zero, List.append_nil]
              exact HC1.out
            have hl0 := HGR.out
            go_loopg [18] ns (fun g i wr => ∃ t : Nat, t ≤ ns ∧ g = ns - t ∧ i = .int .i64 t ∧ Cnt W0 wc.heap.size sb nb np rows gs (sumTo np L0 (j + 1)) (j * 10000 + t) (toldTo L0 j ++ x.seats.take t) wr ∧ wr.ownsRow V.heap.size 9 1 (.slice ga ns gc) ns (labV S1 x.seats))
            case atStart => exact ⟨0, by omega, rfl, rfl, hC00, hl0⟩
            case round =>
              clear hC00 hl0 HC HCV HC1 HGR
              obtain ⟨t, ht, hg, rfl, hC, hl⟩ := hrel
              have HG3 := Lib.hid hg
              have HCW := Lib.hid hC
              have HLR := Lib.hid hl
              have HT9 := Lib.hid ht
              clear hg hC hl
              by_cases htn : t < ns
              case neg =>
                have z4 : decide ((t : Int) < (ns : Int)) = false := decide_eq_false (by omega)
                have z4' : decide (t < ns) = false := decide_eq_false htn
                have HTE := Lib.hid (show t = ns by omega)
                clear htn ht
                go_wp2_with fail
                go_roundg (nh - (j + 1))
                case measure => have := HG2.out; have := HNH.out; omega
                case rel =>
                  refine ⟨j + 1, by have := HNH.out; omega, rfl, by go_num, ?_⟩
                  have h1 := HCW.out
                  rw [HTE.out, HNS.out, List.take_length] at h1
                  have h2 := h1.mono (m' := (j + 1) * 10000) (by have := HNS.out; omega)
                  rw [toldTo_step hj0, ← HX.out.1]
                  exact h2
              have z4 : decide ((t : Int) < (ns : Int)) = true := decide_eq_true (by omega)
              have z4' : decide (t < ns) = true := decide_eq_true htn
              have htx : t < x.seats.length := by rw [← HNS.out]; exact htn
              obtain ⟨y, hy⟩ : ∃ y, y = x.seats[t] := ⟨_, rfl⟩
              have hyh : hasL rows gs y := by
                have := HR1.out.inv.seat x HX.out.2 y (by rw [hy]; exact List.getElem_mem htx)
                rw [HR1.out.eqs.1, HR1.out.eqs.2.1] at this
                exact this
              have hnot : ¬ y ∈ toldTo L0 j ++ x.seats.take t := by
                have h1 := told_new HR1.out.inv HPM.out hj0 (j := t) (by rw [← HX.out.1]; exact htx)
                simp only [← HX.out.1] at h1
                rw [hy]
                exact h1
              obtain ⟨s, hs⟩ : ∃ s, s = labS (total gs) y := ⟨_, rfl⟩
              obtain ⟨gb, gcap, hga, hgb0⟩ := row_some HLR.out (by omega)
              injection hga with e1 e2 e3
              subst e1 e3
              have HLC := Lib.hid (show ∀ W, Below wr.heap.size wr W → W.cell? ⟨gb, t, none⟩ = some (.string s) from fun W h => cell_keep h (row_cell HLR.out (by
                unfold labV
                rw [List.getElem?_map, List.getElem?_eq_getElem htx, HR1.out.eqs.2.1, hs, hy]
                rfl)))
              have HB0W := Lib.hid (show Below w0.heap.size w0 wr from bl_trans HBC.out (HBW.out _ _ _ _ HCW.out))
              have HFD := Lib.hid (show ∀ W, Below wr.heap.size wr W → Calls Tryd.prog 15 #[.agg #[.int .i64 rows, .slice ad ng cap], .string s] W fun e w' => e = .returned (.tuple #[.int .i64 y, .int .i64 0]) ∧ Below W.heap.size W w' from fun W h => by
                have h1 := find_any rows ad gs cap s W (HG.out.keep (bl_trans HB0W.out h)) (by unfold maxLen; have := HNG.out; omega) (by rw [hs]; exact labS_size hyh)
                rw [findL_yes hyh hs.symm, ← HNG.out] at h1
                exact h1)
              have HLK := Lib.hid (show ∀ W, Below wr.heap.size wr W → (Instr.lookup 48 (.map (some nb)) (.string s) false).run Tryd.prog W = .ok (.bool false) W from fun W h => by
                rw [hs]
                exact (HCW.out.keep h).look hyh hnot)
              have HKE := Lib.hid (show keyOf Tryd.prog 9 (.string s) = some (keyS gs y) by
                rw [hs]
                exact keyOf_string_mk Tryd.underlying9 (labS_size hyh))
              have HYE := Lib.hid (show ∃ h : t < x.seats.length, y = x.seats[t] ∧ hasL rows gs y ∧ s = labS (total gs) y from ⟨htx, hy, hyh, hs⟩)
              have u1 : ∀ W, Below wr.heap.size wr W → W.cell? ⟨w.heap.size, 1, none⟩ = some (.int .i64 rows) := fun W h => HQ1.out W (bl_trans HB0W.out h)
              have u2 : ∀ W, Below wr.heap.size wr W → W.cell? ⟨w.heap.size, 2, none⟩ = some (.slice ad ng cap) := fun W h => HQ2.out W (bl_trans HB0W.out h)
              have u3 := HLC.out
              have ht0 : (0 : Int) ≤ (t : Int) := by omega
              have ht1 : (t : Int) < (ns : Int) := by omega
              have hbr := Below.refl wr.heap.size wr
              clear ht htx hy hyh hnot hs hgb0
              go_wp2_with fail
              refine wp_region_in (Below wr.heap.size wr) (fun i => i == 6) (by kernel_rfl) (by kernel_rfl) (by exact hbr.drew) ?_
              intro hne hx
              replace hbr := hbr.drew
              refine stg_seg 6 (by dsimp only [List.take]) (by dsimp only [List.drop]) (by rfl) ?_
              repeat (go_big_quiet_step (fail))
              refine wpQuiet_nil ?_
              refine stg_loud (by rfl) ?_
              go_wp2_with fail
              refine (HFD.out _ hbr).mono ?_
              rintro e w6 ⟨rfl, hb6⟩
              replace hbr := bl_trans hbr hb6
              clear hb6
              go_wp2_with fail
              refine lq_in rfl (hbr) ?_
              refine stg_seg 5 (by dsimp only [List.take]) (by dsimp only [List.drop]) (by rfl) ?_
              repeat (go_big_quiet_step (fail))
              refine wpQuiet_nil ?_
              refine stg_nil ?_
              clear hne hx
              have hlk := HLK.out _ hbr
              obtain ⟨D, hD, hN⟩ := (HCW.out.keep hbr).nm
              have HDD := Lib.hid hD
              have HNN2 := Lib.hid hN
              have hmb : j * 10000 + t < maxLen := by
                have h1 := HJ.out
                have h2 := HT9.out
                unfold maxLen
                omega
              have HKO := Lib.hid ((HCW.out.keep hbr))
              have HLR2 := Lib.hid (own_keep HLR.out hbr)
              have hval := plainElem_bool (H := Unit) Tryd.underlying4 true
              clear hD hN
              go_wp2_with (at_mapUpdate; refine wpList_mapUpdate_own _ rfl _ _ _ 48 rfl 9 4 (string_keyed Tryd.underlying9) Tryd.underlying48 (plainElem Tryd.prog 4) nb (j * 10000 + t) D rfl HDD.out hmb _ _ (keyS gs y) rfl rfl HKE.out (.lit (.bool true)) [] hval ?_; intro w7 hown7 hgrow7)
              obtain ⟨htx, hy, hyh, hs⟩ := HYE.out
              have HP7 := Lib.hid (HKO.out.put HDD.out HNN2.out hyh hown7 hgrow7)
              have HL7 := Lib.hid (ownsRow_blk HLR2.out fun g hg => hgrow7.block g (HLR2.out.lt g hg).2 fun e => by
                have h1 := (HLR2.out.lt g hg).1
                have h2 := HVZ.out
                have h3 : g = nb := by simpa using e
                omega)
              clear hown7 hgrow7 hlk
              go_roundg (ns - (t + 1))
              case measure => have := HG3.out; omega
              case rel =>
                refine ⟨t + 1, by omega, rfl, by go_num, ?_, HL7.out⟩
                have h1 := HP7.out
                rw [List.append_assoc, hy, ← take_one htx] at h1
                exact h1
end Go.Proofs.YtmnoacjmdnmddaaDoor
