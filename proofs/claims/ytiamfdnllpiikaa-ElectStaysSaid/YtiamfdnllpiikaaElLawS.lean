/- ElectStays: a node's term never falls, and its vote in a term, once given, stays. Conditions: none. -/
import Derived.Test.YtiamfdnllpiikaaElLawQ
import Derived.Test.YtiamfdnllpiikaaElSane
namespace Go.Proofs.Ytiamfdnllpiikaa
open Go.RowKit

set_option maxRecDepth 100000 in
set_option maxHeartbeats 8000000 in
theorem electStays_at (p : WhoV) (ad : Option Addr) (l : List StepV) (cap : Nat) (w : World) (hg : p.g.At w) (hs : ItemsAt w ad l.length 13 (fun i => (l.getD i default).c)) (hlm : l.length ≤ maxLen) :
    Calls Try.prog 5 #[.agg #[.int .i64 p.id, .int .i64 p.term, .int .i64 p.vote, .slice p.g.va p.g.vs.length p.g.vc, .slice p.g.la p.g.ls.length p.g.lc, .int .i64 p.pat], .slice ad l.length cap] w fun e w' => e = .returned (.bool true) ∧ Below w.heap.size w w' := by
  have hs0 := Lib.hid (hs.keep (bl_alloc (Below.refl w.heap.size w) (.cells #[.int .i64 p.id, .int .i64 p.term, .int .i64 p.vote, .slice p.g.va p.g.vs.length p.g.vc, .slice p.g.la p.g.ls.length p.g.lc, .int .i64 p.pat] 38)))
  have hb0 := bl_alloc (Below.refl w.heap.size w) (.cells #[.int .i64 p.id, .int .i64 p.term, .int .i64 p.vote, .slice p.g.va p.g.vs.length p.g.vc, .slice p.g.la p.g.ls.length p.g.lc, .int .i64 p.pat] 38)
  have HB := Lib.hid hb0
  have HGV := Lib.hid (hg.hv.keep hb0)
  have HGL := Lib.hid (hg.hl.keep hb0)
  have HVM := Lib.hid hg.vm
  have HLM := Lib.hid hg.lm
  have hblk : (w.alloc (.cells #[.int .i64 p.id, .int .i64 p.term, .int .i64 p.vote, .slice p.g.va p.g.vs.length p.g.vc, .slice p.g.la p.g.ls.length p.g.lc, .int .i64 p.pat] 38)).heap[w.heap.size]? = some (.cells #[.int .i64 p.id, .int .i64 p.term, .int .i64 p.vote, .slice p.g.va p.g.vs.length p.g.vc, .slice p.g.la p.g.ls.length p.g.lc, .int .i64 p.pat] 38) := blk_new w _ rfl
  obtain ⟨w0, hw0⟩ : ∃ w0, w0 = w.alloc (.cells #[.int .i64 p.id, .int .i64 p.term, .int .i64 p.vote, .slice p.g.va p.g.vs.length p.g.vc, .slice p.g.la p.g.ls.length p.g.lc, .int .i64 p.pat] 38) := ⟨_, rfl⟩
  rw [← hw0] at HB hblk HGV HGL
  have HW0 := Lib.hid hw0.symm
  have q0 : ∀ w', Below w0.heap.size w0 w' → w'.cell? ⟨w.heap.size, 0, none⟩ = some (.int .i64 p.id) := fun w' h => blk_cell (blk_below hblk h (blk_lt hblk)) 0
  have q1 : ∀ w', Below w0.heap.size w0 w' → w'.cell? ⟨w.heap.size, 1, none⟩ = some (.int .i64 p.term) := fun w' h => blk_cell (blk_below hblk h (blk_lt hblk)) 1
  have q2 : ∀ w', Below w0.heap.size w0 w' → w'.cell? ⟨w.heap.size, 2, none⟩ = some (.int .i64 p.vote) := fun w' h => blk_cell (blk_below hblk h (blk_lt hblk)) 2
  have q3 : ∀ w', Below w0.heap.size w0 w' → w'.cell? ⟨w.heap.size, 3, none⟩ = some (.slice p.g.va p.g.vs.length p.g.vc) := fun w' h => blk_cell (blk_below hblk h (blk_lt hblk)) 3
  have q4 : ∀ w', Below w0.heap.size w0 w' → w'.cell? ⟨w.heap.size, 4, none⟩ = some (.slice p.g.la p.g.ls.length p.g.lc) := fun w' h => blk_cell (blk_below hblk h (blk_lt hblk)) 4
  have q5 : ∀ w', Below w0.heap.size w0 w' → w'.cell? ⟨w.heap.size, 5, none⟩ = some (.int .i64 p.pat) := fun w' h => blk_cell (blk_below hblk h (blk_lt hblk)) 5
  have hb := Below.refl w0.heap.size w0
  clear hw0 hblk hg hb0
  rw [← HW0.out.symm] at hs0
  clear hs
  by_cases hok : newOk p.id p.term p.vote p.pat p.g.vs p.g.ls = true
  case neg =>
    have HO := Lib.hid hok
    clear hok
    go_enter Try.func5, Try.ntmps5
    go_wp2_with fail
    rw [HW0.out]
    refine (awake_at _).mono ?_; rintro e w1 ⟨rfl, hb1⟩
    replace hb := bl_trans hb hb1
    clear hb1
    go_wp2_with fail
    refine (new_at p.id p.term p.vote p.pat p.g.vs p.g.ls p.g.va p.g.vc p.g.la p.g.lc w1 (HGV.out.keep hb) (HGL.out.keep hb) HVM.out HLM.out).mono ?_
    rintro e w2 (⟨_, rfl, hb3⟩ | ⟨h, _⟩)
    · have hb4 := bl_trans hb hb3
      clear hb hb3
      go_wp2_with fail
      go_ret
      exact ⟨rfl, bl_trans HB.out hb4⟩
    · exact absurd h HO.out
  obtain ⟨hi1, hi9, ht0, ht9, _, _, hp1, hp9, hR⟩ := newOk_no hok
  have HO := Lib.hid hok
  clear hok
  have hvs := right_len hR
  clear hR
  go_enter Try.func5, Try.ntmps5
  go_wp2_with fail
  rw [HW0.out]
  refine (awake_at _).mono ?_; rintro e w1 ⟨rfl, hb1⟩
  replace hb := bl_trans hb hb1
  clear hb1
  go_wp2_with fail
  refine (new_at p.id p.term p.vote p.pat p.g.vs p.g.ls p.g.va p.g.vc p.g.la p.g.lc w1 (HGV.out.keep hb) (HGL.out.keep hb) HVM.out HLM.out).mono ?_
  rintro e w2 (⟨h, _⟩ | ⟨_, b, L, rfl, hN, hb3, hL⟩)
  · exact absurd HO.out (by rw [h]; decide)
  have hb4 := bl_trans hb hb3
  have HL := Lib.hid (show ∀ x, x ∈ L → w0.heap.size ≤ x from fun x hx => Nat.le_trans hb.size (hL x hx))
  have HN0 := Lib.hid hN
  have HSA := Lib.hid (new_sane (id := p.id) (vote := p.vote) (va := p.g.va) (vc := p.g.vc) (la := p.g.la) (lc := p.g.lc) (ls := p.g.ls) hp1 hp9 ht0 ht9 hvs)
  obtain ⟨S0, hS0⟩ : ∃ S0, S0 = newNd p.id p.term p.vote p.pat p.g.vs p.g.ls p.g.va p.g.vc p.g.la p.g.lc := ⟨_, rfl⟩
  rw [← hS0] at HN0 HSA
  clear hS0 hN hL hb hb3 q0 q1 q2 q3 q4 q5
  go_wp2_with fail
  have hlm' : (l.length : Int) ≤ 9223372036854775807 := by unfold maxLen at hlm; omega
  obtain ⟨N, hN⟩ : ∃ N, N = l.length := ⟨_, rfl⟩
  rw [← hN] at hlm'
  have hNe := Lib.hid hN
  rw [← hN] at hlm ⊢
  clear hN
  go_loopg [8] N (fun g i wr => Below w0.heap.size w0 wr ∧ ∃ k : Nat, k ≤ N ∧ g = N - k ∧ i = .int .i64 k ∧ ∃ S L', NodeAt wr b S L' ∧ Sane S k ∧ ∀ x, x ∈ L' → w0.heap.size ≤ x)
  case atStart => exact ⟨hb4, 0, by omega, by omega, rfl, S0, L, HN0.out, HSA.out, HL.out⟩
  case round =>
    clear hb4 HN0 HSA HL
    obtain ⟨hb, k, hk0, hgk, rfl, S, L', hN, hS, hL⟩ := hrel
    have HGK := Lib.hid hgk
    have HLL := Lib.hid hL
    have HNN := Lib.hid hN
    have HS := Lib.hid hS
    clear hgk hN hL hS
    by_cases hk : k < N
    · by_cases hk9 : (k : Int) < 200
      · have hk1 : (k : Int) < N := by omega
        have hk2 : (0 : Int) ≤ (k : Int) := by omega
        obtain ⟨b1, o1, rfl, hc⟩ := (hs0.out.keep hb) k (by rw [← hNe.out]; exact hk)
        obtain ⟨x, hx⟩ : ∃ x, x = l.getD k default := ⟨_, rfl⟩
        simp only [← hx] at hc
        clear hx
        have hhd := hard_at HNN.out
        have HC := Lib.hid hc
        clear hc
        go_wp2_with fail
        refine hhd.mono ?_; rintro e w3 ⟨rfl, hb3⟩
        clear hhd
        have hbA := bl_alloc hb3 (.cells #[.int .i64 S.term, .int .i64 S.vote] 23)
        have HCC := Lib.hid (fun (j : Nat) (u : Value) (hu : x.c[j]? = some u) => cell_keep hbA (HC.out j u hu))
        have hbB := bl_alloc hbA (.cells x.c.toArray 46)
        have g0 := HCC.out 0 _ rfl
        have g1 := HCC.out 1 _ rfl
        have g2 := HCC.out 2 _ rfl
        have g3 := HCC.out 3 _ rfl
        have g4 := HCC.out 4 _ rfl
        have g5 := HCC.out 5 _ rfl
        have g6 := HCC.out 6 _ rfl
        have g7 := HCC.out 7 _ rfl
        have g8 := HCC.out 8 _ rfl
        have g9 := HCC.out 9 _ rfl
        have g10 := HCC.out 10 _ rfl
        have g11 := HCC.out 11 _ rfl
        have g12 := HCC.out 12 _ rfl
        rw [Nat.add_zero] at g0
        go_upto_region 10 with fail
        clear g0 g1 g2 g3 g4 g5 g6 g7 g8 g9 g10 g11 g12 HC HCC hbA
        have hA : ((w3.alloc (.cells #[.int .i64 S.term, .int .i64 S.vote] 23)).alloc (.cells x.c.toArray 46)).heap[w3.heap.size]? = some (.cells #[.int .i64 S.term, .int .i64 S.vote] 23) := blk_alloc (blk_new _ _ rfl) _
        have hBB : ((w3.alloc (.cells #[.int .i64 S.term, .int .i64 S.vote] 23)).alloc (.cells x.c.toArray 46)).heap[w3.heap.size + 1]? = some (.cells x.c.toArray 46) := blk_new _ _ (by simp)
        change Code.wp _ _ _ _ ((w3.alloc (.cells #[.int .i64 S.term, .int .i64 S.vote] 23)).alloc (.cells x.c.toArray 46))
        obtain ⟨W, hW⟩ : ∃ W, W = (w3.alloc (.cells #[.int .i64 S.term, .int .i64 S.vote] 23)).alloc (.cells x.c.toArray 46) := ⟨_, rfl⟩
        rw [← hW] at hbB hA hBB ⊢
        have s0 := blk_cell hBB 0
        have s1 := blk_cell hBB 1
        have s2 := blk_cell hBB 2
        have s3 := blk_cell hBB 3
        have s4 := blk_cell hBB 4
        have s5 := blk_cell hBB 5
        have s6 := blk_cell hBB 6
        have s7 := blk_cell hBB 7
        have s8 := blk_cell hBB 8
        have s9 := blk_cell hBB 9
        have s10 := blk_cell hBB 10
        simp only [StepV.c, List.getElem?_toArray, List.cons_append, List.nil_append, List.getElem?_cons_zero, List.getElem?_cons_succ] at s0 s1 s2 s3 s4 s5 s6 s7 s8 s9 s10
        have HNW := Lib.hid (HNN.out.below hbB)
        have HBW := Lib.hid (bl_trans hb hbB)
        have hlo := HNN.out.low
        have HAN := Lib.hid (show ¬ w3.heap.size ∈ L' from fun h => by have := hlo _ h; have := hb3.size; omega)
        have HA := Lib.hid hA
        have HSS := Lib.hid (show 0 ≤ S.term ∧ S.term ≤ maxIx ∧ S.vs.length ≤ 1000 ∧ 0 ≤ S.waited ∧ S.waited ≤ 1000000000 ∧ 1 ≤ S.pat ∧ S.pat ≤ 1000 ∧ S.yes.length < 1000 ∧ S.no.length < 1000 by
          have h := HS.out
          exact ⟨h.t0, h.t9, by have := h.vl; omega, h.w0, by have := h.w9; omega, h.p1, h.p9, by have := h.yl; omega, by have := h.nl; omega⟩)
        clear hW hbB hA hBB hb3 hb hlo HNN
        by_cases h0 : x.act = 0
        · have e0 : (x.act == 0) = true := by simp [h0]
          clear h0
          obtain ⟨y1, y2, y3, y4, y5, y6, y7, y8, y9⟩ := HSS.out
          have HT := Lib.hid (tick_at HNW.out y1 y2 y3 y4 y5 y6 y7 x.draw x.last x.lt)
          have HF := Lib.hid (tick_fit HS.out x.draw x.last x.lt)
          clear y1 y2 y3 y4 y5 y6 y7 y8 y9
          go_wp2_with fail
          refine HT.out.mono ?_; rintro e w4 ⟨v, rfl, L4, hN4, k4, hL4, _, _⟩
          have HN4 := Lib.hid hN4
          have HA4 := Lib.hid (k4.blk HA.out HAN.out)
          have HL4 := Lib.hid (show ∀ y, y ∈ L4 → w0.heap.size ≤ y from fun y h => by
            rcases hL4 y h with h | h
            · exact HLL.out y h
            · exact Nat.le_trans HBW.out.size h)
          have HB4 := Lib.hid (HBW.out.trans (k4.to_below HBW.out.size HLL.out))
          obtain ⟨S', hS'⟩ : ∃ S', S' = (S.tick x.draw x.last x.lt).1 := ⟨_, rfl⟩
          rw [← hS'] at HN4 HF
          clear hS' hN4 k4 hL4 s0 s1 s2 s3 s4 s5 s6 s7 s8 s9 s10
          have hh := hard_at HN4.out
          try go_wp2_with fail
          refine hh.mono ?_; rintro e w5 ⟨rfl, hb5⟩
          have hA5 := blk_alloc (blk_below HA4.out hb5 (blk_lt HA4.out)) (.cells #[.int .i64 S'.term, .int .i64 S'.vote] 23)
          have a0 := blk_cell hA5 0
          have a1 := blk_cell hA5 1
          have hA6 : (w5.alloc (.cells #[.int .i64 S'.term, .int .i64 S'.vote] 23)).heap[w5.heap.size]? = some (.cells #[.int .i64 S'.term, .int .i64 S'.vote] 23) := blk_new _ _ rfl
          have a2 := blk_cell hA6 0
          have a3 := blk_cell hA6 1
          simp only [List.getElem?_toArray, List.getElem?_cons_zero, List.getElem?_cons_succ] at a0 a1 a2 a3
          have hb6 := bl_alloc hb5 (.cells #[.int .i64 S'.term, .int .i64 S'.vote] 23)
          have HN6 := Lib.hid (HN4.out.below hb6)
          have HB6 := Lib.hid (HB4.out.trans (hb6.mono HB4.out.size))
          have hst := HF.out.stay
          have t1 : decide (S'.term < S.term) = false := decide_eq_false (by have := hst.1; omega)
          clear hA5 hA6 hb6 hh
          by_cases ht : S'.term = S.term
          · have t2 : (S'.term == S.term) = true := by simp [ht]
            by_cases hv : S.vote = 0
            · have t3 : (S.vote != 0) = false := by simp [hv]
              clear hst ht hv hb5
              go_wp2_with fail
              go_roundg (N - (k + 1))
              case measure => have := HGK.out; omega
              case rel => exact ⟨HB6.out, k + 1, by omega, rfl, by go_num, S', _, HN6.out, by have := HF.out.sane; simpa using this, HL4.out⟩
            · have t3 : (S.vote != 0) = true := by simp [hv]
              have t4 : (S'.vote != S.vote) = false := by simp [hst.2 ht hv]
              clear hst ht hv hb5
              go_wp2_with fail
              go_roundg (N - (k + 1))
              case measure => have := HGK.out; omega
              case rel => exact ⟨HB6.out, k + 1, by omega, rfl, by go_num, S', _, HN6.out, by have := HF.out.sane; simpa using this, HL4.out⟩
          · have t2 : (S'.term == S.term) = false := by simp [ht]
            clear hst ht hb5
            go_wp2_with fail
            go_roundg (N - (k + 1))
            case measure => have := HGK.out; omega
            case rel => exact ⟨HB6.out, k + 1, by omega, rfl, by go_num, S', _, HN6.out, by have := HF.out.sane; simpa using this, HL4.out⟩
        have e0 : (x.act == 0) = false := by simp [h0]
        by_cases h1 : x.act = 1
        · have e1 : (x.act == 1) = true := by simp [h1]
          clear h0 h1
          obtain ⟨y1, y2, y3, y4, y5, y6, y7, y8, y9⟩ := HSS.out
          have HT := Lib.hid (take_at HNW.out y1 y2 y3 y8 y9 x.b x.last x.lt)
          have HF := Lib.hid (take_fit HS.out x.b x.last x.lt)
          clear y1 y2 y3 y4 y5 y6 y7 y8 y9
          go_wp2_with fail
          refine HT.out.mono ?_; rintro e w4 ⟨v, rfl, L4, hN4, k4, hL4, _, _⟩
          have HN4 := Lib.hid hN4
          have HA4 := Lib.hid (k4.blk HA.out HAN.out)
          have HL4 := Lib.hid (show ∀ y, y ∈ L4 → w0.heap.size ≤ y from fun y h => by
            rcases hL4 y h with h | h
            · exact HLL.out y h
            · exact Nat.le_trans HBW.out.size h)
          have HB4 := Lib.hid (HBW.out.trans (k4.to_below HBW.out.size HLL.out))
          obtain ⟨S', hS'⟩ : ∃ S', S' = (S.take x.b x.last x.lt).1 := ⟨_, rfl⟩
          rw [← hS'] at HN4 HF
          clear hS' hN4 k4 hL4 s0 s1 s2 s3 s4 s5 s6 s7 s8 s9 s10
          have hh := hard_at HN4.out
          try go_wp2_with fail
          refine hh.mono ?_; rintro e w5 ⟨rfl, hb5⟩
          have hA5 := blk_alloc (blk_below HA4.out hb5 (blk_lt HA4.out)) (.cells #[.int .i64 S'.term, .int .i64 S'.vote] 23)
          have a0 := blk_cell hA5 0
          have a1 := blk_cell hA5 1
          have hA6 : (w5.alloc (.cells #[.int .i64 S'.term, .int .i64 S'.vote] 23)).heap[w5.heap.size]? = some (.cells #[.int .i64 S'.term, .int .i64 S'.vote] 23) := blk_new _ _ rfl
          have a2 := blk_cell hA6 0
          have a3 := blk_cell hA6 1
          simp only [List.getElem?_toArray, List.getElem?_cons_zero, List.getElem?_cons_succ] at a0 a1 a2 a3
          have hb6 := bl_alloc hb5 (.cells #[.int .i64 S'.term, .int .i64 S'.vote] 23)
          have HN6 := Lib.hid (HN4.out.below hb6)
          have HB6 := Lib.hid (HB4.out.trans (hb6.mono HB4.out.size))
          have hst := HF.out.stay
          have t1 : decide (S'.term < S.term) = false := decide_eq_false (by have := hst.1; omega)
          clear hA5 hA6 hb6 hh
          by_cases ht : S'.term = S.term
          · have t2 : (S'.term == S.term) = true := by simp [ht]
            by_cases hv : S.vote = 0
            · have t3 : (S.vote != 0) = false := by simp [hv]
              clear hst ht hv hb5
              go_wp2_with fail
              go_roundg (N - (k + 1))
              case measure => have := HGK.out; omega
              case rel => exact ⟨HB6.out, k + 1, by omega, rfl, by go_num, S', _, HN6.out, by have := HF.out.sane; simpa using this, HL4.out⟩
            · have t3 : (S.vote != 0) = true := by simp [hv]
              have t4 : (S'.vote != S.vote) = false := by simp [hst.2 ht hv]
              clear hst ht hv hb5
              go_wp2_with fail
              go_roundg (N - (k + 1))
              case measure => have := HGK.out; omega
              case rel => exact ⟨HB6.out, k + 1, by omega, rfl, by go_num, S', _, HN6.out, by have := HF.out.sane; simpa using this, HL4.out⟩
          · have t2 : (S'.term == S.term) = false := by simp [ht]
            clear hst ht hb5
            go_wp2_with fail
            go_roundg (N - (k + 1))
            case measure => have := HGK.out; omega
            case rel => exact ⟨HB6.out, k + 1, by omega, rfl, by go_num, S', _, HN6.out, by have := HF.out.sane; simpa using this, HL4.out⟩
        have e1 : (x.act == 1) = false := by simp [h1]
        by_cases h2 : x.act = 2
        · have e2 : (x.act == 2) = true := by simp [h2]
          clear h0 h1 h2
          have HT := Lib.hid (heard_at HNW.out x.b.src x.b.term)
          have HF := Lib.hid (heard_fit HS.out x.b.src x.b.term)
          go_wp2_with fail
          refine HT.out.mono ?_; rintro e w4 ⟨rfl, L4, hN4, k4, hL4⟩
          have HN4 := Lib.hid hN4
          have HA4 := Lib.hid (k4.blk HA.out HAN.out)
          have HL4 := Lib.hid (show ∀ y, y ∈ L4 → w0.heap.size ≤ y from fun y h => by
            rcases hL4 y h with h | h
            · exact HLL.out y h
            · exact Nat.le_trans HBW.out.size h)
          have HB4 := Lib.hid (HBW.out.trans (k4.to_below HBW.out.size HLL.out))
          obtain ⟨S', hS'⟩ : ∃ S', S' = (S.heard x.b.src x.b.term).1 := ⟨_, rfl⟩
          rw [← hS'] at HN4 HF
          clear hS' hN4 k4 hL4 s0 s1 s2 s3 s4 s5 s6 s7 s8 s9 s10
          have hh := hard_at HN4.out
          try go_wp2_with fail
          refine hh.mono ?_; rintro e w5 ⟨rfl, hb5⟩
          have hA5 := blk_alloc (blk_below HA4.out hb5 (blk_lt HA4.out)) (.cells #[.int .i64 S'.term, .int .i64 S'.vote] 23)
          have a0 := blk_cell hA5 0
          have a1 := blk_cell hA5 1
          have hA6 : (w5.alloc (.cells #[.int .i64 S'.term, .int .i64 S'.vote] 23)).heap[w5.heap.size]? = some (.cells #[.int .i64 S'.term, .int .i64 S'.vote] 23) := blk_new _ _ rfl
          have a2 := blk_cell hA6 0
          have a3 := blk_cell hA6 1
          simp only [List.getElem?_toArray, List.getElem?_cons_zero, List.getElem?_cons_succ] at a0 a1 a2 a3
          have hb6 := bl_alloc hb5 (.cells #[.int .i64 S'.term, .int .i64 S'.vote] 23)
          have HN6 := Lib.hid (HN4.out.below hb6)
          have HB6 := Lib.hid (HB4.out.trans (hb6.mono HB4.out.size))
          have hst := HF.out.stay
          have t1 : decide (S'.term < S.term) = false := decide_eq_false (by have := hst.1; omega)
          clear hA5 hA6 hb6 hh
          by_cases ht : S'.term = S.term
          · have t2 : (S'.term == S.term) = true := by simp [ht]
            by_cases hv : S.vote = 0
            · have t3 : (S.vote != 0) = false := by simp [hv]
              clear hst ht hv hb5
              go_wp2_with fail
              go_roundg (N - (k + 1))
              case measure => have := HGK.out; omega
              case rel => exact ⟨HB6.out, k + 1, by omega, rfl, by go_num, S', _, HN6.out, by have := HF.out.sane; simpa using this, HL4.out⟩
            · have t3 : (S.vote != 0) = true := by simp [hv]
              have t4 : (S'.vote != S.vote) = false := by simp [hst.2 ht hv]
              clear hst ht hv hb5
              go_wp2_with fail
              go_roundg (N - (k + 1))
              case measure => have := HGK.out; omega
              case rel => exact ⟨HB6.out, k + 1, by omega, rfl, by go_num, S', _, HN6.out, by have := HF.out.sane; simpa using this, HL4.out⟩
          · have t2 : (S'.term == S.term) = false := by simp [ht]
            clear hst ht hb5
            go_wp2_with fail
            go_roundg (N - (k + 1))
            case measure => have := HGK.out; omega
            case rel => exact ⟨HB6.out, k + 1, by omega, rfl, by go_num, S', _, HN6.out, by have := HF.out.sane; simpa using this, HL4.out⟩
        have e2 : (x.act == 2) = false := by simp [h2]
        clear h0 h1 h2
        obtain ⟨S2, hS2⟩ : ∃ S2, S2 = S := ⟨_, rfl⟩
        have HF := Lib.hid (show Fit S S2 k by rw [hS2]; exact Fit.refl HS.out)
        go_wp2_with fail
        have hN4 : NodeAt W b S2 L' := by rw [hS2]; exact HNW.out
        clear hS2
        have hL4 : ∀ y, y ∈ L' → y ∈ L' ∨ W.heap.size ≤ y := fun y h => .inl h
        have k4 : Chg L' W W := Chg.refl _ _
        have HN4 := Lib.hid hN4
        have HA4 := Lib.hid (k4.blk HA.out HAN.out)
        have HL4 := Lib.hid (show ∀ y, y ∈ L' → w0.heap.size ≤ y from fun y h => by
          rcases hL4 y h with h | h
          · exact HLL.out y h
          · exact Nat.le_trans HBW.out.size h)
        have HB4 := Lib.hid (HBW.out.trans (k4.to_below HBW.out.size HLL.out))
        obtain ⟨S', hS'⟩ : ∃ S', S' = S2 := ⟨_, rfl⟩
        rw [← hS'] at HN4 HF
        clear hS' hN4 k4 hL4 s0 s1 s2 s3 s4 s5 s6 s7 s8 s9 s10
        have hh := hard_at HN4.out
        try go_wp2_with fail
        refine hh.mono ?_; rintro e w5 ⟨rfl, hb5⟩
        have hA5 := blk_alloc (blk_below HA4.out hb5 (blk_lt HA4.out)) (.cells #[.int .i64 S'.term, .int .i64 S'.vote] 23)
        have a0 := blk_cell hA5 0
        have a1 := blk_cell hA5 1
        have hA6 : (w5.alloc (.cells #[.int .i64 S'.term, .int .i64 S'.vote] 23)).heap[w5.heap.size]? = some (.cells #[.int .i64 S'.term, .int .i64 S'.vote] 23) := blk_new _ _ rfl
        have a2 := blk_cell hA6 0
        have a3 := blk_cell hA6 1
        simp only [List.getElem?_toArray, List.getElem?_cons_zero, List.getElem?_cons_succ] at a0 a1 a2 a3
        have hb6 := bl_alloc hb5 (.cells #[.int .i64 S'.term, .int .i64 S'.vote] 23)
        have HN6 := Lib.hid (HN4.out.below hb6)
        have HB6 := Lib.hid (HB4.out.trans (hb6.mono HB4.out.size))
        have hst := HF.out.stay
        have t1 : decide (S'.term < S.term) = false := decide_eq_false (by have := hst.1; omega)
        clear hA5 hA6 hb6 hh
        by_cases ht : S'.term = S.term
        · have t2 : (S'.term == S.term) = true := by simp [ht]
          by_cases hv : S.vote = 0
          · have t3 : (S.vote != 0) = false := by simp [hv]
            clear hst ht hv hb5
            go_wp2_with fail
            go_roundg (N - (k + 1))
            case measure => have := HGK.out; omega
            case rel => exact ⟨HB6.out, k + 1, by omega, rfl, by go_num, S', _, HN6.out, by have := HF.out.sane; simpa using this, HL4.out⟩
          · have t3 : (S.vote != 0) = true := by simp [hv]
            have t4 : (S'.vote != S.vote) = false := by simp [hst.2 ht hv]
            clear hst ht hv hb5
            go_wp2_with fail
            go_roundg (N - (k + 1))
            case measure => have := HGK.out; omega
            case rel => exact ⟨HB6.out, k + 1, by omega, rfl, by go_num, S', _, HN6.out, by have := HF.out.sane; simpa using this, HL4.out⟩
        · have t2 : (S'.term == S.term) = false := by simp [ht]
          clear hst ht hb5
          go_wp2_with fail
          go_roundg (N - (k + 1))
          case measure => have := HGK.out; omega
          case rel => exact ⟨HB6.out, k + 1, by omega, rfl, by go_num, S', _, HN6.out, by have := HF.out.sane; simpa using this, HL4.out⟩
      · have hk1 : (k : Int) < N := by omega
        have hk9d : decide ((k : Int) < 200) = false := decide_eq_false hk9
        go_wp2_with fail
        go_ret
        exact ⟨rfl, bl_trans HB.out hb⟩
    · have hk1 : decide ((k : Int) < N) = false := decide_eq_false (by omega)
      go_wp2_with fail
      go_ret
      exact ⟨rfl, bl_trans HB.out hb⟩
end Go.Proofs.Ytiamfdnllpiikaa
