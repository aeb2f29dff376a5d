/- ElectScripts: a node does what the reference's node does, step by step. Conditions: none. -/
import Derived.Test.YtiamfdnllpiikaaElLawQ
import Derived.Test.YtiamfdnllpiikaaElRefF
import Derived.Test.YtiamfdnllpiikaaElRefK
namespace Go.Proofs.Ytiamfdnllpiikaa
open Go.RowKit

set_option maxRecDepth 100000 in
set_option maxHeartbeats 8000000 in
theorem electScripts_at (p : WhoV) (ad : Option Addr) (l : List StepV) (cap : Nat) (w : World) (hg : p.g.At w) (hs : ItemsAt w ad l.length 13 (fun i => (l.getD i default).c)) (hgs : ∀ i, i < l.length → (l.getD i default).g.At w) (hlm : l.length ≤ maxLen) :
    Calls Try.prog 8 #[.agg #[.int .i64 p.id, .int .i64 p.term, .int .i64 p.vote, .slice p.g.va p.g.vs.length p.g.vc, .slice p.g.la p.g.ls.length p.g.lc, .int .i64 p.pat], .slice ad l.length cap] w fun e w' => e = .returned (.bool true) ∧ Below w.heap.size w w' := by
  have hs0 := Lib.hid (hs.keep (bl_alloc (Below.refl w.heap.size w) (.cells #[.int .i64 p.id, .int .i64 p.term, .int .i64 p.vote, .slice p.g.va p.g.vs.length p.g.vc, .slice p.g.la p.g.ls.length p.g.lc, .int .i64 p.pat] 38)))
  have HGG := Lib.hid (fun i (hi : i < l.length) => (show GsAt (w.alloc (.cells #[.int .i64 p.id, .int .i64 p.term, .int .i64 p.vote, .slice p.g.va p.g.vs.length p.g.vc, .slice p.g.la p.g.ls.length p.g.lc, .int .i64 p.pat] 38)) _ _ ∧ GsAt (w.alloc (.cells #[.int .i64 p.id, .int .i64 p.term, .int .i64 p.vote, .slice p.g.va p.g.vs.length p.g.vc, .slice p.g.la p.g.ls.length p.g.lc, .int .i64 p.pat] 38)) _ _ from ⟨(hgs i hi).hv.keep (bl_alloc (Below.refl w.heap.size w) (.cells #[.int .i64 p.id, .int .i64 p.term, .int .i64 p.vote, .slice p.g.va p.g.vs.length p.g.vc, .slice p.g.la p.g.ls.length p.g.lc, .int .i64 p.pat] 38)), (hgs i hi).hl.keep (bl_alloc (Below.refl w.heap.size w) (.cells #[.int .i64 p.id, .int .i64 p.term, .int .i64 p.vote, .slice p.g.va p.g.vs.length p.g.vc, .slice p.g.la p.g.ls.length p.g.lc, .int .i64 p.pat] 38))⟩))
  have HGM := Lib.hid (fun i (hi : i < l.length) => And.intro (hgs i hi).vm (hgs i hi).lm)
  clear hgs
  have hb0 := bl_alloc (Below.refl w.heap.size w) (.cells #[.int .i64 p.id, .int .i64 p.term, .int .i64 p.vote, .slice p.g.va p.g.vs.length p.g.vc, .slice p.g.la p.g.ls.length p.g.lc, .int .i64 p.pat] 38)
  have HB := Lib.hid hb0
  have HGV := Lib.hid (hg.hv.keep hb0)
  have HGL := Lib.hid (hg.hl.keep hb0)
  have HVM := Lib.hid hg.vm
  have HLM := Lib.hid hg.lm
  have hblk : (w.alloc (.cells #[.int .i64 p.id, .int .i64 p.term, .int .i64 p.vote, .slice p.g.va p.g.vs.length p.g.vc, .slice p.g.la p.g.ls.length p.g.lc, .int .i64 p.pat] 38)).heap[w.heap.size]? = some (.cells #[.int .i64 p.id, .int .i64 p.term, .int .i64 p.vote, .slice p.g.va p.g.vs.length p.g.vc, .slice p.g.la p.g.ls.length p.g.lc, .int .i64 p.pat] 38) := blk_new w _ rfl
  obtain ⟨w0, hw0⟩ : ∃ w0, w0 = w.alloc (.cells #[.int .i64 p.id, .int .i64 p.term, .int .i64 p.vote, .slice p.g.va p.g.vs.length p.g.vc, .slice p.g.la p.g.ls.length p.g.lc, .int .i64 p.pat] 38) := ⟨_, rfl⟩
  rw [← hw0] at HB hblk HGV HGL
  have HW0 := Lib.hid hw0.symm
  have q0 : ∀ w', Below w0.heap.size w0 w' → w'.cell? ⟨w.heap.size, 0, none⟩ = some (.int .i64 p.id) := fun w' h => blk_cell (blk_below hblk h (blk_lt hblk)) 0
  have q1 : ∀ w', Below w0.heap.size w0 w' → w'.cell? ⟨w.heap.size, 1, none⟩ = some (.int .i64 p.term) := fun w' h => blk_cell (blk_below hblk h (blk_lt hblk)) 1
  have q2 : ∀ w', Below w0.heap.size w0 w' → w'.cell? ⟨w.heap.size, 2, none⟩ = some (.int .i64 p.vote) := fun w' h => blk_cell (blk_below hblk h (blk_lt hblk)) 2
  have q3 : ∀ w', Below w0.heap.size w0 w' → w'.cell? ⟨w.heap.size, 3, none⟩ = some (.slice p.g.va p.g.vs.length p.g.vc) := fun w' h => blk_cell (blk_below hblk h (blk_lt hblk)) 3
  have q4 : ∀ w', Below w0.heap.size w0 w' → w'.cell? ⟨w.heap.size, 4, none⟩ = some (.slice p.g.la p.g.ls.length p.g.lc) := fun w' h => blk_cell (blk_below hblk h (blk_lt hblk)) 4
  have q5 : ∀ w', Below w0.heap.size w0 w' → w'.cell? ⟨w.heap.size, 5, none⟩ = some (.int .i64 p.pat) := fun w' h => blk_cell (blk_below hblk h (blk_lt hblk)) 5
  have hb := Below.refl w0.heap.size w0
  clear hw0 hblk hg hb0
  rw [← HW0.out.symm] at hs0 HGG
  clear hs
  have hlm' : (l.length : Int) ≤ 9223372036854775807 := by unfold maxLen at hlm; omega
  by_cases hok : newOk p.id p.term p.vote p.pat p.g.vs p.g.ls = true
  case neg =>
    have HO := Lib.hid hok
    clear hok
    go_enter Try.func8, Try.ntmps8
    go_wp2_with fail
    rw [HW0.out]
    refine (awake_at _).mono ?_; rintro e w1 ⟨rfl, hb1⟩
    replace hb := bl_trans hb hb1
    clear hb1
    go_wp2_with fail
    refine (new_at p.id p.term p.vote p.pat p.g.vs p.g.ls p.g.va p.g.vc p.g.la p.g.lc w1 (HGV.out.keep hb) (HGL.out.keep hb) HVM.out HLM.out).mono ?_
    rintro e w2 (⟨_, rfl, hb3⟩ | ⟨h, _⟩)
    · replace hb := bl_trans hb hb3
      clear hb3
      go_wp2_with fail
      refine (rnew_at p.id p.term p.vote p.pat p.g.vs p.g.ls p.g.va p.g.vc p.g.la p.g.lc w2 (HGV.out.keep hb) (HGL.out.keep hb) HVM.out HLM.out).mono ?_
      rintro e w3 (⟨_, rfl, hb3⟩ | ⟨h, _⟩)
      · replace hb := bl_trans hb hb3
        clear hb3
        go_wp2_with fail
        obtain ⟨N, hN⟩ : ∃ N, N = l.length := ⟨_, rfl⟩
        rw [← hN] at hlm'
        go_loopg [10] 1 (fun g i wr => Below w0.heap.size w0 wr ∧ i = .int .i64 0)
        case atStart => exact ⟨hb, rfl⟩
        case round =>
          clear hb
          obtain ⟨hb, rfl⟩ := hrel
          rw [← hN]
          clear hN
          by_cases hk : 0 < N
          · have hk1 : decide ((0 : Int) < (N : Int)) = true := decide_eq_true (by omega)
            go_wp2_with fail
            go_ret
            exact ⟨rfl, bl_trans HB.out hb⟩
          · have hk1 : decide ((0 : Int) < (N : Int)) = false := decide_eq_false (by omega)
            go_wp2_with fail
            go_ret
            exact ⟨rfl, bl_trans HB.out hb⟩
      · exact absurd h HO.out
    · exact absurd h HO.out
  obtain ⟨hi1, hi9, ht0, ht9, _, _, hp1, hp9, hR⟩ := newOk_no hok
  have HO := Lib.hid hok
  clear hok
  have hvs := right_len hR
  clear hR
  go_enter Try.func8, Try.ntmps8
  go_wp2_with fail
  rw [HW0.out]
  refine (awake_at _).mono ?_; rintro e w1 ⟨rfl, hb1⟩
  replace hb := bl_trans hb hb1
  clear hb1
  go_wp2_with fail
  refine (new_at p.id p.term p.vote p.pat p.g.vs p.g.ls p.g.va p.g.vc p.g.la p.g.lc w1 (HGV.out.keep hb) (HGL.out.keep hb) HVM.out HLM.out).mono ?_
  rintro e w2 (⟨h, _⟩ | ⟨_, b, L, rfl, hN, hb3, hL⟩)
  · exact absurd HO.out (by rw [h]; decide)
  have HL := Lib.hid (show ∀ x, x ∈ L → w0.heap.size ≤ x from fun x hx => Nat.le_trans hb.size (hL x hx))
  replace hb := bl_trans hb hb3
  have HN0 := Lib.hid hN
  have HSA := Lib.hid (new_sane (id := p.id) (vote := p.vote) (va := p.g.va) (vc := p.g.vc) (la := p.g.la) (lc := p.g.lc) (ls := p.g.ls) hp1 hp9 ht0 ht9 hvs)
  clear hN hL hb3
  go_wp2_with fail
  refine (rnew_at p.id p.term p.vote p.pat p.g.vs p.g.ls p.g.va p.g.vc p.g.la p.g.lc w2 (HGV.out.keep hb) (HGL.out.keep hb) HVM.out HLM.out).mono ?_
  rintro e w3 (⟨h, _⟩ | ⟨_, c, R, rfl, hR, hb3, hRR⟩)
  · exact absurd HO.out (by rw [h]; decide)
  have HTW := Lib.hid (show Two w0 w3 b c (newNd p.id p.term p.vote p.pat p.g.vs p.g.ls p.g.va p.g.vc p.g.la p.g.lc) L R from ⟨bl_trans hb hb3, HN0.out.below hb3, hR, ⟨HGV.out, HGL.out⟩, HL.out, fun x hx => Nat.le_trans hb.size (hRR x hx), fun x hx hr => by have := HN0.out.low x hx; have := hRR x hr; omega⟩)
  obtain ⟨S0, hS0⟩ : ∃ S0, S0 = newNd p.id p.term p.vote p.pat p.g.vs p.g.ls p.g.va p.g.vc p.g.la p.g.lc := ⟨_, rfl⟩
  rw [← hS0] at HTW HSA
  clear hS0 hR hb hb3 hRR HN0 HL q0 q1 q2 q3 q4 q5
  go_wp2_with fail
  obtain ⟨N, hN⟩ : ∃ N, N = l.length := ⟨_, rfl⟩
  rw [← hN] at hlm'
  have hNe := Lib.hid hN
  rw [← hN] at hlm ⊢
  clear hN
  go_loopg [10] N (fun g i wr => ∃ k : Nat, k ≤ N ∧ g = N - k ∧ i = .int .i64 k ∧ ∃ S L R, Two w0 wr b c S L R ∧ Sane S k)
  case atStart => exact ⟨0, by omega, by omega, rfl, S0, L, R, HTW.out, HSA.out⟩
  case round =>
    clear HTW HSA
    obtain ⟨k, hk0, hgk, rfl, S, L', R', hT, hS⟩ := hrel
    have HGK := Lib.hid hgk
    have HT := Lib.hid hT
    have HS := Lib.hid hS
    clear hgk hT hS
    by_cases hk : k < N
    · by_cases hk9 : (k : Int) < 200
      · have hk1 : (k : Int) < N := by omega
        have hk2 : (0 : Int) ≤ (k : Int) := by omega
        obtain ⟨b1, o1, rfl, hc⟩ := (hs0.out.keep HT.out.below) k (by rw [← hNe.out]; exact hk)
        have HGX := Lib.hid (HGG.out k (by rw [← hNe.out]; exact hk))
        have HGY := Lib.hid (HGM.out k (by rw [← hNe.out]; exact hk))
        obtain ⟨x, hx⟩ : ∃ x, x = l.getD k default := ⟨_, rfl⟩
        simp only [← hx] at hc HGX HGY
        clear hx
        have HC := Lib.hid hc
        clear hc
        have hbB := bl_alloc (Below.refl wr.heap.size wr) (.cells x.c.toArray 46)
        have g0 := HC.out 0 _ rfl
        have g1 := HC.out 1 _ rfl
        have g2 := HC.out 2 _ rfl
        have g3 := HC.out 3 _ rfl
        have g4 := HC.out 4 _ rfl
        have g5 := HC.out 5 _ rfl
        have g6 := HC.out 6 _ rfl
        have g7 := HC.out 7 _ rfl
        have g8 := HC.out 8 _ rfl
        have g9 := HC.out 9 _ rfl
        have g10 := HC.out 10 _ rfl
        have g11 := HC.out 11 _ rfl
        have g12 := HC.out 12 _ rfl
        rw [Nat.add_zero] at g0
        go_upto_region 10 with fail
        clear g0 g1 g2 g3 g4 g5 g6 g7 g8 g9 g10 g11 g12 HC
        have hBB : (wr.alloc (.cells x.c.toArray 46)).heap[wr.heap.size]? = some (.cells x.c.toArray 46) := blk_new _ _ rfl
        change Code.wp _ _ _ _ (wr.alloc (.cells x.c.toArray 46))
        obtain ⟨W, hW⟩ : ∃ W, W = wr.alloc (.cells x.c.toArray 46) := ⟨_, rfl⟩
        rw [← hW] at hbB hBB ⊢
        have HA := Lib.hid hBB
        have s0 := blk_cell HA.out 0
        have s1 := blk_cell HA.out 1
        have s2 := blk_cell HA.out 2
        have s3 := blk_cell HA.out 3
        have s4 := blk_cell HA.out 4
        have s5 := blk_cell HA.out 5
        have s6 := blk_cell HA.out 6
        have s7 := blk_cell HA.out 7
        have s8 := blk_cell HA.out 8
        have s9 := blk_cell HA.out 9
        have s10 := blk_cell HA.out 10
        have s11 := blk_cell HA.out 11
        have s12 := blk_cell HA.out 12
        simp only [StepV.c, GroupV.c, List.getElem?_toArray, List.cons_append, List.nil_append, List.getElem?_cons_zero, List.getElem?_cons_succ] at s0 s1 s2 s3 s4 s5 s6 s7 s8 s9 s10 s11 s12
        have HT2 := Lib.hid (HT.out.grow hbB)
        have HAN := Lib.hid (show ¬ wr.heap.size ∈ L' from fun h => by have := HT.out.n.low _ h; omega)
        have HAR := Lib.hid (show ¬ wr.heap.size ∈ R' from fun h => by have := HT.out.r.low _ h; omega)
        have HSS := Lib.hid (show 0 ≤ S.term ∧ S.term ≤ maxIx ∧ S.vs.length ≤ 1000 ∧ 0 ≤ S.waited ∧ S.waited ≤ 1000000000 ∧ 1 ≤ S.pat ∧ S.pat ≤ 1000 ∧ S.yes.length < 1000 ∧ S.no.length < 1000 by
          have h := HS.out
          exact ⟨h.t0, h.t9, by have := h.vl; omega, h.w0, by have := h.w9; omega, h.p1, h.p9, by have := h.yl; omega, by have := h.nl; omega⟩)
        clear hW hbB hBB HT
        by_cases h0 : x.act = 0
        · have e0 : (x.act == 0) = true := by simp [h0]
          clear h0
          obtain ⟨y1, y2, y3, y4, y5, y6, y7, y8, y9⟩ := HSS.out
          have HQ := Lib.hid (tick_at HT2.out.n y1 y2 y3 y4 y5 y6 y7 x.draw x.last x.lt)
          have HF := Lib.hid (tick_fit HS.out x.draw x.last x.lt).sane
          have HGS := Lib.hid (HT2.out.grp.same (tick_g S x.draw x.last x.lt))
          have HQ2 := Lib.hid (fun (w4 : World) (h : RefAt w4 c S R') => rtick_at h y1 y2 y3 y4 y5 y6 y7 x.draw x.last x.lt)
          clear y1 y2 y3 y4 y5 y6 y7 y8 y9
          go_wp2_with fail
          refine HQ.out.mono ?_; rintro e w4 ⟨v, rfl, L4, hN4, k4, hL4, hv4, _⟩
          have HH4 := Lib.hid (HT2.out.half hN4 k4 hL4 HGS.out)
          have HA4 := Lib.hid (k4.blk HA.out HAN.out)
          clear s0 s1 s2 s3 s4 s5 s6 s7 s8 s9 s10 s11 s12
          clear hN4 k4 hL4
          have s0 := blk_cell HA4.out 0
          have s1 := blk_cell HA4.out 1
          have s2 := blk_cell HA4.out 2
          have s3 := blk_cell HA4.out 3
          have s4 := blk_cell HA4.out 4
          have s5 := blk_cell HA4.out 5
          have s6 := blk_cell HA4.out 6
          have s7 := blk_cell HA4.out 7
          have s8 := blk_cell HA4.out 8
          have s9 := blk_cell HA4.out 9
          have s10 := blk_cell HA4.out 10
          have s11 := blk_cell HA4.out 11
          have s12 := blk_cell HA4.out 12
          simp only [StepV.c, GroupV.c, List.getElem?_toArray, List.cons_append, List.nil_append, List.getElem?_cons_zero, List.getElem?_cons_succ] at s0 s1 s2 s3 s4 s5 s6 s7 s8 s9 s10 s11 s12
          obtain ⟨S', hS'⟩ : ∃ S', S' = (S.tick x.draw x.last x.lt).1 := ⟨_, rfl⟩
          obtain ⟨out, hout⟩ : ∃ out, out = (S.tick x.draw x.last x.lt).2 := ⟨_, rfl⟩
          obtain ⟨a1, c1, rfl, _, _⟩ := hv4.read
          go_wp2_with fail
          refine (HQ2.out w4 HH4.out.r).mono ?_; rintro e w5 ⟨v, rfl, R5, hN5, k5, hR5, hv5, _⟩
          obtain ⟨a2, c2, rfl, hi5, hm5⟩ := hv5.read
          obtain ⟨a3, c3, he3, hi4, _⟩ := (hv4.keepR k5 (fun x hx => HT2.out.r.low x hx)).read
          obtain ⟨rfl, rfl⟩ : a3 = a1 ∧ c3 = c1 := by simpa [eq_comm] using he3
          have HT5' := Lib.hid (HH4.out.two hN5 k5 hR5)
          have hsame := same_at _ a3 a2 c3 c2 w5 hi4 hi5 hm5
          rw [← hS'] at HT5' HF
          rw [← hout] at hsame ⊢
          clear hv4 hv5 he3 hi4 hi5 hm5 hN5 k5 hR5 HH4 hS' hout
          clear s0 s1 s2 s3 s4 s5 s6 s7 s8 s9 s10 s11 s12
          go_wp2_with fail
          refine hsame.mono ?_; rintro e w6 ⟨rfl, hb6⟩
          have HT5 := Lib.hid (HT5'.out.grow hb6)
          clear HT5' hb6 hsame
          have hh := hard_at HT5.out.n
          have hro := fun (W' : World) (h : Below w6.heap.size w6 W') => role_at (HT5.out.n.below h)
          have hle := fun (W' : World) (h : Below w6.heap.size w6 W') => leader_at (HT5.out.n.below h)
          obtain ⟨yv, nv, hx⟩ := HT5.out.r
          have p1 : ∀ W', Below w6.heap.size w6 W' → W'.cell? ⟨c, 1, none⟩ = some (.int .i64 S'.term) := fun W' h => (hx.below h).cell 1
          have p2 : ∀ W', Below w6.heap.size w6 W' → W'.cell? ⟨c, 2, none⟩ = some (.int .i64 S'.vote) := fun W' h => (hx.below h).cell 2
          have p3 : ∀ W', Below w6.heap.size w6 W' → W'.cell? ⟨c, 6, none⟩ = some (.int .i64 S'.role) := fun W' h => (hx.below h).cell 6
          have p4 : ∀ W', Below w6.heap.size w6 W' → W'.cell? ⟨c, 7, none⟩ = some (.int .i64 S'.leader) := fun W' h => (hx.below h).cell 7
          clear hx
          have hb := Below.refl w6.heap.size w6
          try go_wp2_with fail
          refine wp_region_in (Below w6.heap.size w6) (fun i => i == 1 || i == 9 || i == 18) (by kernel_rfl) (by kernel_rfl) (by exact hb.drew) ?_
          intro hne hx
          replace hb := hb.drew
          have hh := hard_at (HT5.out.n.below hb)
          change wpStg _ _ _ _ _ _ _ _ (w6).drew
          obtain ⟨V, hV⟩ : ∃ V, V = (w6).drew := ⟨_, rfl⟩
          rw [← hV] at hb hh ⊢
          clear hV
          refine stg_seg 1 (by dsimp only [List.take]) (by dsimp only [List.drop]) (by rfl) ?_
          repeat (go_big_quiet_step (fail))
          refine wpQuiet_nil ?_
          refine stg_loud (by rfl) ?_
          go_wp2_with fail
          refine hh.mono ?_; rintro e w7 ⟨rfl, hb7⟩
          replace hb := bl_trans hb hb7
          clear hb7 hh
          go_wp2_with fail
          refine lq_in rfl (hb) ?_
          refine stg_seg 7 (by dsimp only [List.take]) (by dsimp only [List.drop]) (by rfl) ?_
          repeat (go_big_quiet_step (fail))
          refine wpQuiet_nil ?_
          refine stg_loud (by rfl) ?_
          go_wp2_with fail
          refine (hro _ hb).mono ?_; rintro e w8 ⟨rfl, rfl⟩
          go_wp2_with fail
          refine lq_in rfl (hb) ?_
          refine stg_seg 8 (by dsimp only [List.take]) (by dsimp only [List.drop]) (by rfl) ?_
          repeat (go_big_quiet_step (fail))
          refine wpQuiet_nil ?_
          refine stg_loud (by rfl) ?_
          go_wp2_with fail
          refine (hle _ hb).mono ?_; rintro e w9 ⟨rfl, rfl⟩
          go_wp2_with fail
          refine lq_in rfl (hb) ?_
          refine stg_seg 6 (by dsimp only [List.take]) (by dsimp only [List.drop]) (by rfl) ?_
          repeat (go_big_quiet_step (fail))
          refine wpQuiet_nil ?_
          refine stg_nil ?_
          clear hne hx
          go_wp2_with fail
          go_roundg (N - (k + 1))
          case measure => have := HGK.out; omega
          case rel => exact ⟨k + 1, by omega, rfl, by go_num, S', _, _, HT5.out.grow hb, by simpa using HF.out⟩
        have e0 : (x.act == 0) = false := by simp [h0]
        by_cases h1 : x.act = 1
        · have e1 : (x.act == 1) = true := by simp [h1]
          clear h0 h1
          obtain ⟨y1, y2, y3, y4, y5, y6, y7, y8, y9⟩ := HSS.out
          have HQ := Lib.hid (take_at HT2.out.n y1 y2 y3 y8 y9 x.b x.last x.lt)
          have HF := Lib.hid (take_fit HS.out x.b x.last x.lt).sane
          have HGS := Lib.hid (HT2.out.grp.same (take_g S x.b x.last x.lt))
          have HQ2 := Lib.hid (fun (w4 : World) (h : RefAt w4 c S R') => rtake_at h y1 y2 y3 y8 y9 x.b x.last x.lt)
          clear y1 y2 y3 y4 y5 y6 y7 y8 y9
          go_wp2_with fail
          refine HQ.out.mono ?_; rintro e w4 ⟨v, rfl, L4, hN4, k4, hL4, hv4, _⟩
          have HH4 := Lib.hid (HT2.out.half hN4 k4 hL4 HGS.out)
          have HA4 := Lib.hid (k4.blk HA.out HAN.out)
          clear s0 s1 s2 s3 s4 s5 s6 s7 s8 s9 s10 s11 s12
          clear hN4 k4 hL4
          have s0 := blk_cell HA4.out 0
          have s1 := blk_cell HA4.out 1
          have s2 := blk_cell HA4.out 2
          have s3 := blk_cell HA4.out 3
          have s4 := blk_cell HA4.out 4
          have s5 := blk_cell HA4.out 5
          have s6 := blk_cell HA4.out 6
          have s7 := blk_cell HA4.out 7
          have s8 := blk_cell HA4.out 8
          have s9 := blk_cell HA4.out 9
          have s10 := blk_cell HA4.out 10
          have s11 := blk_cell HA4.out 11
          have s12 := blk_cell HA4.out 12
          simp only [StepV.c, GroupV.c, List.getElem?_toArray, List.cons_append, List.nil_append, List.getElem?_cons_zero, List.getElem?_cons_succ] at s0 s1 s2 s3 s4 s5 s6 s7 s8 s9 s10 s11 s12
          obtain ⟨S', hS'⟩ : ∃ S', S' = (S.take x.b x.last x.lt).1 := ⟨_, rfl⟩
          obtain ⟨out, hout⟩ : ∃ out, out = (S.take x.b x.last x.lt).2 := ⟨_, rfl⟩
          obtain ⟨a1, c1, rfl, _, _⟩ := hv4.read
          go_wp2_with fail
          refine (HQ2.out w4 HH4.out.r).mono ?_; rintro e w5 ⟨v, rfl, R5, hN5, k5, hR5, hv5, _⟩
          obtain ⟨a2, c2, rfl, hi5, hm5⟩ := hv5.read
          obtain ⟨a3, c3, he3, hi4, _⟩ := (hv4.keepR k5 (fun x hx => HT2.out.r.low x hx)).read
          obtain ⟨rfl, rfl⟩ : a3 = a1 ∧ c3 = c1 := by simpa [eq_comm] using he3
          have HT5' := Lib.hid (HH4.out.two hN5 k5 hR5)
          have hsame := same_at _ a3 a2 c3 c2 w5 hi4 hi5 hm5
          rw [← hS'] at HT5' HF
          rw [← hout] at hsame ⊢
          clear hv4 hv5 he3 hi4 hi5 hm5 hN5 k5 hR5 HH4 hS' hout
          clear s0 s1 s2 s3 s4 s5 s6 s7 s8 s9 s10 s11 s12
          go_wp2_with fail
          refine hsame.mono ?_; rintro e w6 ⟨rfl, hb6⟩
          have HT5 := Lib.hid (HT5'.out.grow hb6)
          clear HT5' hb6 hsame
          have hh := hard_at HT5.out.n
          have hro := fun (W' : World) (h : Below w6.heap.size w6 W') => role_at (HT5.out.n.below h)
          have hle := fun (W' : World) (h : Below w6.heap.size w6 W') => leader_at (HT5.out.n.below h)
          obtain ⟨yv, nv, hx⟩ := HT5.out.r
          have p1 : ∀ W', Below w6.heap.size w6 W' → W'.cell? ⟨c, 1, none⟩ = some (.int .i64 S'.term) := fun W' h => (hx.below h).cell 1
          have p2 : ∀ W', Below w6.heap.size w6 W' → W'.cell? ⟨c, 2, none⟩ = some (.int .i64 S'.vote) := fun W' h => (hx.below h).cell 2
          have p3 : ∀ W', Below w6.heap.size w6 W' → W'.cell? ⟨c, 6, none⟩ = some (.int .i64 S'.role) := fun W' h => (hx.below h).cell 6
          have p4 : ∀ W', Below w6.heap.size w6 W' → W'.cell? ⟨c, 7, none⟩ = some (.int .i64 S'.leader) := fun W' h => (hx.below h).cell 7
          clear hx
          have hb := Below.refl w6.heap.size w6
          try go_wp2_with fail
          refine wp_region_in (Below w6.heap.size w6) (fun i => i == 1 || i == 9 || i == 18) (by kernel_rfl) (by kernel_rfl) (by exact hb.drew) ?_
          intro hne hx
          replace hb := hb.drew
          have hh := hard_at (HT5.out.n.below hb)
          change wpStg _ _ _ _ _ _ _ _ (w6).drew
          obtain ⟨V, hV⟩ : ∃ V, V = (w6).drew := ⟨_, rfl⟩
          rw [← hV] at hb hh ⊢
          clear hV
          refine stg_seg 1 (by dsimp only [List.take]) (by dsimp only [List.drop]) (by rfl) ?_
          repeat (go_big_quiet_step (fail))
          refine wpQuiet_nil ?_
          refine stg_loud (by rfl) ?_
          go_wp2_with fail
          refine hh.mono ?_; rintro e w7 ⟨rfl, hb7⟩
          replace hb := bl_trans hb hb7
          clear hb7 hh
          go_wp2_with fail
          refine lq_in rfl (hb) ?_
          refine stg_seg 7 (by dsimp only [List.take]) (by dsimp only [List.drop]) (by rfl) ?_
          repeat (go_big_quiet_step (fail))
          refine wpQuiet_nil ?_
          refine stg_loud (by rfl) ?_
          go_wp2_with fail
          refine (hro _ hb).mono ?_; rintro e w8 ⟨rfl, rfl⟩
          go_wp2_with fail
          refine lq_in rfl (hb) ?_
          refine stg_seg 8 (by dsimp only [List.take]) (by dsimp only [List.drop]) (by rfl) ?_
          repeat (go_big_quiet_step (fail))
          refine wpQuiet_nil ?_
          refine stg_loud (by rfl) ?_
          go_wp2_with fail
          refine (hle _ hb).mono ?_; rintro e w9 ⟨rfl, rfl⟩
          go_wp2_with fail
          refine lq_in rfl (hb) ?_
          refine stg_seg 6 (by dsimp only [List.take]) (by dsimp only [List.drop]) (by rfl) ?_
          repeat (go_big_quiet_step (fail))
          refine wpQuiet_nil ?_
          refine stg_nil ?_
          clear hne hx
          go_wp2_with fail
          go_roundg (N - (k + 1))
          case measure => have := HGK.out; omega
          case rel => exact ⟨k + 1, by omega, rfl, by go_num, S', _, _, HT5.out.grow hb, by simpa using HF.out⟩
        have e1 : (x.act == 1) = false := by simp [h1]
        by_cases h2 : x.act = 2
        · have e2 : (x.act == 2) = true := by simp [h2]
          clear h0 h1 h2
          have HQ := Lib.hid (heard_at HT2.out.n x.b.src x.b.term)
          have HF := Lib.hid (heard_fit HS.out x.b.src x.b.term).sane
          have HGS := Lib.hid (HT2.out.grp.same (heard_g S x.b.src x.b.term))
          have HQ2 := Lib.hid (fun (w4 : World) (h : RefAt w4 c S R') => rheard_at h x.b.src x.b.term)
          go_wp2_with fail
          refine HQ.out.mono ?_; rintro e w4 ⟨rfl, L4, hN4, k4, hL4⟩
          have HH4 := Lib.hid (HT2.out.half hN4 k4 hL4 HGS.out)
          have HA4 := Lib.hid (k4.blk HA.out HAN.out)
          clear s0 s1 s2 s3 s4 s5 s6 s7 s8 s9 s10 s11 s12
          clear hN4 k4 hL4
          have s0 := blk_cell HA4.out 0
          have s1 := blk_cell HA4.out 1
          have s2 := blk_cell HA4.out 2
          have s3 := blk_cell HA4.out 3
          have s4 := blk_cell HA4.out 4
          have s5 := blk_cell HA4.out 5
          have s6 := blk_cell HA4.out 6
          have s7 := blk_cell HA4.out 7
          have s8 := blk_cell HA4.out 8
          have s9 := blk_cell HA4.out 9
          have s10 := blk_cell HA4.out 10
          have s11 := blk_cell HA4.out 11
          have s12 := blk_cell HA4.out 12
          simp only [StepV.c, GroupV.c, List.getElem?_toArray, List.cons_append, List.nil_append, List.getElem?_cons_zero, List.getElem?_cons_succ] at s0 s1 s2 s3 s4 s5 s6 s7 s8 s9 s10 s11 s12
          obtain ⟨S', hS'⟩ : ∃ S', S' = (S.heard x.b.src x.b.term).1 := ⟨_, rfl⟩
          go_wp2_with fail
          refine (HQ2.out w4 HH4.out.r).mono ?_; rintro e w5 ⟨rfl, R5, hN5, k5, hR5⟩
          have HT5' := Lib.hid (HH4.out.two hN5 k5 hR5)
          rw [← hS'] at HT5' HF
          clear hN5 k5 hR5 HH4 hS'
          clear s0 s1 s2 s3 s4 s5 s6 s7 s8 s9 s10 s11 s12
          have HT5 := Lib.hid HT5'.out
          clear HT5'
          have hh := hard_at HT5.out.n
          have hro := fun (W' : World) (h : Below w5.heap.size w5 W') => role_at (HT5.out.n.below h)
          have hle := fun (W' : World) (h : Below w5.heap.size w5 W') => leader_at (HT5.out.n.below h)
          obtain ⟨yv, nv, hx⟩ := HT5.out.r
          have p1 : ∀ W', Below w5.heap.size w5 W' → W'.cell? ⟨c, 1, none⟩ = some (.int .i64 S'.term) := fun W' h => (hx.below h).cell 1
          have p2 : ∀ W', Below w5.heap.size w5 W' → W'.cell? ⟨c, 2, none⟩ = some (.int .i64 S'.vote) := fun W' h => (hx.below h).cell 2
          have p3 : ∀ W', Below w5.heap.size w5 W' → W'.cell? ⟨c, 6, none⟩ = some (.int .i64 S'.role) := fun W' h => (hx.below h).cell 6
          have p4 : ∀ W', Below w5.heap.size w5 W' → W'.cell? ⟨c, 7, none⟩ = some (.int .i64 S'.leader) := fun W' h => (hx.below h).cell 7
          clear hx
          have hb := Below.refl w5.heap.size w5
          try go_wp2_with fail
          refine wp_region_in (Below w5.heap.size w5) (fun i => i == 1 || i == 9 || i == 18) (by kernel_rfl) (by kernel_rfl) (by exact hb.drew) ?_
          intro hne hx
          replace hb := hb.drew
          have hh := hard_at (HT5.out.n.below hb)
          change wpStg _ _ _ _ _ _ _ _ (w5).drew
          obtain ⟨V, hV⟩ : ∃ V, V = (w5).drew := ⟨_, rfl⟩
          rw [← hV] at hb hh ⊢
          clear hV
          refine stg_seg 1 (by dsimp only [List.take]) (by dsimp only [List.drop]) (by rfl) ?_
          repeat (go_big_quiet_step (fail))
          refine wpQuiet_nil ?_
          refine stg_loud (by rfl) ?_
          go_wp2_with fail
          refine hh.mono ?_; rintro e w7 ⟨rfl, hb7⟩
          replace hb := bl_trans hb hb7
          clear hb7 hh
          go_wp2_with fail
          refine lq_in rfl (hb) ?_
          refine stg_seg 7 (by dsimp only [List.take]) (by dsimp only [List.drop]) (by rfl) ?_
          repeat (go_big_quiet_step (fail))
          refine wpQuiet_nil ?_
          refine stg_loud (by rfl) ?_
          go_wp2_with fail
          refine (hro _ hb).mono ?_; rintro e w8 ⟨rfl, rfl⟩
          go_wp2_with fail
          refine lq_in rfl (hb) ?_
          refine stg_seg 8 (by dsimp only [List.take]) (by dsimp only [List.drop]) (by rfl) ?_
          repeat (go_big_quiet_step (fail))
          refine wpQuiet_nil ?_
          refine stg_loud (by rfl) ?_
          go_wp2_with fail
          refine (hle _ hb).mono ?_; rintro e w9 ⟨rfl, rfl⟩
          go_wp2_with fail
          refine lq_in rfl (hb) ?_
          refine stg_seg 6 (by dsimp only [List.take]) (by dsimp only [List.drop]) (by rfl) ?_
          repeat (go_big_quiet_step (fail))
          refine wpQuiet_nil ?_
          refine stg_nil ?_
          clear hne hx
          go_wp2_with fail
          go_roundg (N - (k + 1))
          case measure => have := HGK.out; omega
          case rel => exact ⟨k + 1, by omega, rfl, by go_num, S', _, _, HT5.out.grow hb, by simpa using HF.out⟩
        have e2 : (x.act == 2) = false := by simp [h2]
        by_cases h3 : x.act = 3
        · have e3 : (x.act == 3) = true := by simp [h3]
          clear h0 h1 h2 h3
          have HQ := Lib.hid (join_at HT2.out.n x.g.vs x.g.ls x.g.va x.g.vc x.g.la x.g.lc (HGX.out.1.out HT2.out.below HT2.out.l0) (HGX.out.2.out HT2.out.below HT2.out.l0) HGY.out.1 HGY.out.2)
          have HF := Lib.hid (join_fit HS.out x.g.vs x.g.ls x.g.va x.g.vc x.g.la x.g.lc)
          have HGS := Lib.hid (join_grp HT2.out.grp (vc := x.g.vc) (lc := x.g.lc) HGX.out.1 HGX.out.2)
          have HQ2 := Lib.hid (fun (w4 : World) (L4 : List Nat) (h : Half w0 w4 b c S (S.join x.g.vs x.g.ls x.g.va x.g.vc x.g.la x.g.lc).1 L4 R') => rjoin_at h.r x.g.vs x.g.ls x.g.va x.g.vc x.g.la x.g.lc (HGX.out.1.out h.below h.r0) (HGX.out.2.out h.below h.r0) HGY.out.1 HGY.out.2)
          go_wp2_with fail
          refine HQ.out.mono ?_; rintro e w4 ⟨rfl, L4, hN4, k4, hL4⟩
          have HH4 := Lib.hid (HT2.out.half hN4 k4 hL4 HGS.out)
          have HA4 := Lib.hid (k4.blk HA.out HAN.out)
          clear s0 s1 s2 s3 s4 s5 s6 s7 s8 s9 s10 s11 s12
          clear hN4 k4 hL4
          have s0 := blk_cell HA4.out 0
          have s1 := blk_cell HA4.out 1
          have s2 := blk_cell HA4.out 2
          have s3 := blk_cell HA4.out 3
          have s4 := blk_cell HA4.out 4
          have s5 := blk_cell HA4.out 5
          have s6 := blk_cell HA4.out 6
          have s7 := blk_cell HA4.out 7
          have s8 := blk_cell HA4.out 8
          have s9 := blk_cell HA4.out 9
          have s10 := blk_cell HA4.out 10
          have s11 := blk_cell HA4.out 11
          have s12 := blk_cell HA4.out 12
          simp only [StepV.c, GroupV.c, List.getElem?_toArray, List.cons_append, List.nil_append, List.getElem?_cons_zero, List.getElem?_cons_succ] at s0 s1 s2 s3 s4 s5 s6 s7 s8 s9 s10 s11 s12
          obtain ⟨S', hS'⟩ : ∃ S', S' = (S.join x.g.vs x.g.ls x.g.va x.g.vc x.g.la x.g.lc).1 := ⟨_, rfl⟩
          go_wp2_with fail
          refine (HQ2.out w4 L4 HH4.out).mono ?_; rintro e w5 ⟨rfl, R5, hN5, k5, hR5⟩
          have HT5' := Lib.hid (HH4.out.two hN5 k5 hR5)
          rw [← hS'] at HT5' HF
          clear hN5 k5 hR5 HH4 hS'
          clear s0 s1 s2 s3 s4 s5 s6 s7 s8 s9 s10 s11 s12
          have HT5 := Lib.hid HT5'.out
          clear HT5'
          have hh := hard_at HT5.out.n
          have hro := fun (W' : World) (h : Below w5.heap.size w5 W') => role_at (HT5.out.n.below h)
          have hle := fun (W' : World) (h : Below w5.heap.size w5 W') => leader_at (HT5.out.n.below h)
          obtain ⟨yv, nv, hx⟩ := HT5.out.r
          have p1 : ∀ W', Below w5.heap.size w5 W' → W'.cell? ⟨c, 1, none⟩ = some (.int .i64 S'.term) := fun W' h => (hx.below h).cell 1
          have p2 : ∀ W', Below w5.heap.size w5 W' → W'.cell? ⟨c, 2, none⟩ = some (.int .i64 S'.vote) := fun W' h => (hx.below h).cell 2
          have p3 : ∀ W', Below w5.heap.size w5 W' → W'.cell? ⟨c, 6, none⟩ = some (.int .i64 S'.role) := fun W' h => (hx.below h).cell 6
          have p4 : ∀ W', Below w5.heap.size w5 W' → W'.cell? ⟨c, 7, none⟩ = some (.int .i64 S'.leader) := fun W' h => (hx.below h).cell 7
          clear hx
          have hb := Below.refl w5.heap.size w5
          try go_wp2_with fail
          refine wp_region_in (Below w5.heap.size w5) (fun i => i == 1 || i == 9 || i == 18) (by kernel_rfl) (by kernel_rfl) (by exact hb.drew) ?_
          intro hne hx
          replace hb := hb.drew
          have hh := hard_at (HT5.out.n.below hb)
          change wpStg _ _ _ _ _ _ _ _ (w5).drew
          obtain ⟨V, hV⟩ : ∃ V, V = (w5).drew := ⟨_, rfl⟩
          rw [← hV] at hb hh ⊢
          clear hV
          refine stg_seg 1 (by dsimp only [List.take]) (by dsimp only [List.drop]) (by rfl) ?_
          repeat (go_big_quiet_step (fail))
          refine wpQuiet_nil ?_
          refine stg_loud (by rfl) ?_
          go_wp2_with fail
          refine hh.mono ?_; rintro e w7 ⟨rfl, hb7⟩
          replace hb := bl_trans hb hb7
          clear hb7 hh
          go_wp2_with fail
          refine lq_in rfl (hb) ?_
          refine stg_seg 7 (by dsimp only [List.take]) (by dsimp only [List.drop]) (by rfl) ?_
          repeat (go_big_quiet_step (fail))
          refine wpQuiet_nil ?_
          refine stg_loud (by rfl) ?_
          go_wp2_with fail
          refine (hro _ hb).mono ?_; rintro e w8 ⟨rfl, rfl⟩
          go_wp2_with fail
          refine lq_in rfl (hb) ?_
          refine stg_seg 8 (by dsimp only [List.take]) (by dsimp only [List.drop]) (by rfl) ?_
          repeat (go_big_quiet_step (fail))
          refine wpQuiet_nil ?_
          refine stg_loud (by rfl) ?_
          go_wp2_with fail
          refine (hle _ hb).mono ?_; rintro e w9 ⟨rfl, rfl⟩
          go_wp2_with fail
          refine lq_in rfl (hb) ?_
          refine stg_seg 6 (by dsimp only [List.take]) (by dsimp only [List.drop]) (by rfl) ?_
          repeat (go_big_quiet_step (fail))
          refine wpQuiet_nil ?_
          refine stg_nil ?_
          clear hne hx
          go_wp2_with fail
          go_roundg (N - (k + 1))
          case measure => have := HGK.out; omega
          case rel => exact ⟨k + 1, by omega, rfl, by go_num, S', _, _, HT5.out.grow hb, by simpa using HF.out⟩
        have e3 : (x.act == 3) = false := by simp [h3]
        clear h0 h1 h2 h3
        obtain ⟨S', hS'⟩ : ∃ S', S' = S := ⟨_, rfl⟩
        have HT5 := Lib.hid (show Two w0 W b c S' L' R' by rw [hS']; exact HT2.out)
        have HF := Lib.hid (show Sane S' (k + 1) by rw [hS']; exact HS.out.more (by omega))
        clear hS'
        go_upto_region 30 with fail
        clear s0 s1 s2 s3 s4 s5 s6 s7 s8 s9 s10 s11 s12
        have hh := hard_at HT5.out.n
        have hro := fun (W' : World) (h : Below W.heap.size W W') => role_at (HT5.out.n.below h)
        have hle := fun (W' : World) (h : Below W.heap.size W W') => leader_at (HT5.out.n.below h)
        obtain ⟨yv, nv, hx⟩ := HT5.out.r
        have p1 : ∀ W', Below W.heap.size W W' → W'.cell? ⟨c, 1, none⟩ = some (.int .i64 S'.term) := fun W' h => (hx.below h).cell 1
        have p2 : ∀ W', Below W.heap.size W W' → W'.cell? ⟨c, 2, none⟩ = some (.int .i64 S'.vote) := fun W' h => (hx.below h).cell 2
        have p3 : ∀ W', Below W.heap.size W W' → W'.cell? ⟨c, 6, none⟩ = some (.int .i64 S'.role) := fun W' h => (hx.below h).cell 6
        have p4 : ∀ W', Below W.heap.size W W' → W'.cell? ⟨c, 7, none⟩ = some (.int .i64 S'.leader) := fun W' h => (hx.below h).cell 7
        clear hx
        have hb := Below.refl W.heap.size W
        try go_wp2_with fail
        refine wp_region_in (Below W.heap.size W) (fun i => i == 1 || i == 9 || i == 18) (by kernel_rfl) (by kernel_rfl) (by exact hb.drew) ?_
        intro hne hx
        replace hb := hb.drew
        have hh := hard_at (HT5.out.n.below hb)
        change wpStg _ _ _ _ _ _ _ _ (W).drew
        obtain ⟨V, hV⟩ : ∃ V, V = (W).drew := ⟨_, rfl⟩
        rw [← hV] at hb hh ⊢
        clear hV
        refine stg_seg 1 (by dsimp only [List.take]) (by dsimp only [List.drop]) (by rfl) ?_
        repeat (go_big_quiet_step (fail))
        refine wpQuiet_nil ?_
        refine stg_loud (by rfl) ?_
        go_wp2_with fail
        refine hh.mono ?_; rintro e w7 ⟨rfl, hb7⟩
        replace hb := bl_trans hb hb7
        clear hb7 hh
        go_wp2_with fail
        refine lq_in rfl (hb) ?_
        refine stg_seg 7 (by dsimp only [List.take]) (by dsimp only [List.drop]) (by rfl) ?_
        repeat (go_big_quiet_step (fail))
        refine wpQuiet_nil ?_
        refine stg_loud (by rfl) ?_
        go_wp2_with fail
        refine (hro _ hb).mono ?_; rintro e w8 ⟨rfl, rfl⟩
        go_wp2_with fail
        refine lq_in rfl (hb) ?_
        refine stg_seg 8 (by dsimp only [List.take]) (by dsimp only [List.drop]) (by rfl) ?_
        repeat (go_big_quiet_step (fail))
        refine wpQuiet_nil ?_
        refine stg_loud (by rfl) ?_
        go_wp2_with fail
        refine (hle _ hb).mono ?_; rintro e w9 ⟨rfl, rfl⟩
        go_wp2_with fail
        refine lq_in rfl (hb) ?_
        refine stg_seg 6 (by dsimp only [List.take]) (by dsimp only [List.drop]) (by rfl) ?_
        repeat (go_big_quiet_step (fail))
        refine wpQuiet_nil ?_
        refine stg_nil ?_
        clear hne hx
        go_wp2_with fail
        go_roundg (N - (k + 1))
        case measure => have := HGK.out; omega
        case rel => exact ⟨k + 1, by omega, rfl, by go_num, S', _, _, HT5.out.grow hb, by simpa using HF.out⟩
      · have hk1 : (k : Int) < N := by omega
        have hk9d : decide ((k : Int) < 200) = false := decide_eq_false hk9
        go_wp2_with fail
        go_ret
        exact ⟨rfl, bl_trans HB.out HT.out.below⟩
    · have hk1 : decide ((k : Int) < N) = false := decide_eq_false (by omega)
      go_wp2_with fail
      go_ret
      exact ⟨rfl, bl_trans HB.out HT.out.below⟩
end Go.Proofs.Ytiamfdnllpiikaa
