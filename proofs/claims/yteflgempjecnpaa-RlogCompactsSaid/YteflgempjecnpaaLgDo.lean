/- A step at both logs. Conditions: none. -/
import Derived.Test.YteflgempjecnpaaLgG7
import Derived.Test.YteflgempjecnpaaLgR5
namespace Go.Proofs.Yteflgempjecnpaa
open Go.RowKit
section
variable {B : Nat} {w w1 : World} {p q : Nat} {L : List Ent} {com app : Int} {v : Value} {b bt : Int} {T : List Ent} {com' app' : Int} {u : Value} {n : Nat}
theorem merge_end {i t : Int} {l : List Ent} {e : Ending} (h : GX B w p L com app v) (hG : Good L com app) (k : MPost B w p L com app v i t l e w1) : (∃ n m : Int, e = .returned (.tuple #[.int .i64 n, .int .i64 m])) ∧ GEnd B w p L v l.length w1 := by
  obtain ⟨n, er, put, he, _, hM⟩ := k
  refine ⟨⟨n, er, he⟩, ?_⟩
  cases put with
  | none => exact .same h hG hM
  | some m =>
    obtain ⟨l', v', hs, hX, hG', hC, hg⟩ := hM
    refine ⟨_, com, app, v', hX, hG', hC, .inr hg, ?_⟩
    have := hs.1
    rw [List.length_drop] at this
    rw [List.length_append, List.length_take]
    omega
theorem compact_end {i : Int} {e : Ending} (h : GX B w p L com app v) (hG : Good L com app) (k : (¬ (bE L ≤ i ∧ i ≤ app) ∧ e = .returned (.int .i64 7) ∧ Below w.heap.size w w1) ∨
      ((bE L ≤ i ∧ i ≤ app) ∧ e = .returned (.int .i64 0) ∧ ∃ v', GX B w1 p (bare (L.drop (i - bE L).toNat)) com app v' ∧ Good (bare (L.drop (i - bE L).toNat)) com app ∧ Chg (gM p v) w w1 ∧ ∃ g, v'.ownBlock = some g ∧ w.heap.size ≤ g)) : (∃ n : Int, e = .returned (.int .i64 n)) ∧ GEnd B w p L v 0 w1 := by
  rcases k with ⟨_, he, hb⟩ | ⟨_, he, v', hX, hG', hC, hg⟩
  · exact ⟨⟨7, he⟩, .same h hG hb⟩
  · refine ⟨⟨0, he⟩, _, com, app, v', hX, hG', hC, .inr hg, ?_⟩
    rw [bare_len, List.length_drop]
    omega
theorem px_pq (h : GX B w p L com app v) (r : RX B w q b bt T com' app' u) : q ≠ p := fun e => by
  have h1 := h.blk
  have h2 := r.blk
  rw [e, h1] at h2
  injection h2 with h2
  injection h2 with _ h3 _
  exact absurd h3 (by decide)
theorem px_one (h : GX B w p L com app v) (r : RX B w q b bt T com' app' u) (hap : ∀ g, v.ownBlock = some g → u.ownBlock ≠ some g) (k : GEnd B w p L v n w1) :
    ∃ L' com1 app1 v', GX B w1 p L' com1 app1 v' ∧ Good L' com1 app1 ∧ RX B w1 q b bt T com' app' u ∧ (∀ g, v'.ownBlock = some g → u.ownBlock ≠ some g) ∧ L'.length ≤ L.length + n ∧ Chg (gM p v) w w1 := by
  obtain ⟨L', c1, a1, v', hX, hG, hC, hv, hl⟩ := k
  refine ⟨L', c1, a1, v', hX, hG, r.keep hC (fun hm => ?_) (fun g hg hm => ?_), fun g hg hu => ?_, hl, hC⟩
  · rcases List.mem_cons.1 hm with e | hm
    · exact px_pq h r e
    · exact row_wb h.row r.blk (by decide) (by simpa using hm)
  · rcases List.mem_cons.1 hm with e | hm
    · subst e
      exact row_wb r.row h.blk (by decide) hg
    · exact hap g (by simpa using hm) hg
  · rcases hv with e | ⟨g', e, hge⟩
    · exact hap g (by rw [← e]; exact hg) hu
    · rw [hg] at e
      injection e with e
      have := (r.row.lt g hu).2
      omega
theorem RX.ty (h : RX B w q b bt T com' app' u) : ∀ x, x ∈ gM q u → ∃ cs t fz, w.heap[x]? = some (.cells cs t fz) ∧ t ≠ 5 := by
  intro x hx
  rcases List.mem_cons.1 hx with rfl | hx
  · exact ⟨_, _, _, h.blk, by decide⟩
  · obtain ⟨c, hc⟩ := row_blk h.row (by simpa using hx)
    exact ⟨_, _, _, hc, by decide⟩
theorem px_two (h : GX B w p L com app v) (r : RX B w q b bt T com' app' u) (hap : ∀ g, v.ownBlock = some g → u.ownBlock ≠ some g) (k : REnd B w q T u n w1) :
    ∃ b1 bt1 T' com1 app1 u', GX B w1 p L com app v ∧ RX B w1 q b1 bt1 T' com1 app1 u' ∧ Good (hd b1 bt1 :: T') com1 app1 ∧ (∀ g, v.ownBlock = some g → u'.ownBlock ≠ some g) ∧ T'.length ≤ T.length + n ∧ Chg (gM q u) w w1 := by
  obtain ⟨b1, bt1, T', c1, a1, u', hX, hG, hC, hv, hl⟩ := k
  refine ⟨b1, bt1, T', c1, a1, u', h.keep hC r.ty (fun hm => ?_) (fun g hg hm => ?_), hX, hG, fun g hg hu => ?_, hl, hC⟩
  · rcases List.mem_cons.1 hm with e | hm
    · exact px_pq h r e.symm
    · exact row_wb r.row h.blk (by decide) (by simpa using hm)
  · rcases List.mem_cons.1 hm with e | hm
    · subst e
      exact row_wb h.row r.blk (by decide) hg
    · exact hap g hg (by simpa using hm)
  · rcases hv with e | e | ⟨g', e, hge⟩
    · rw [e] at hu; cases hu
    · exact hap g hg (by rw [← e]; exact hu)
    · rw [hu] at e
      injection e with e
      have := (h.row.lt g hg).2
      omega
end
/-- Both logs. -/
def PX (B : Nat) (w : World) (p q N : Nat) : Prop :=
  ∃ L com app v b bt T com' app' u, GX B w p L com app v ∧ Good L com app ∧ RX B w q b bt T com' app' u ∧ Good (hd b bt :: T) com' app' ∧ (∀ g, v.ownBlock = some g → u.ownBlock ≠ some g) ∧ L.length ≤ N + 1 ∧ T.length ≤ N
theorem PX.below {B : Nat} {w w' : World} {p q N : Nat} (h : PX B w p q N) (k : Below w.heap.size w w') : PX B w' p q N := by
  obtain ⟨L, com, app, v, b, bt, T, com', app', u, h1, h2, h3, h4, h5, h6, h7⟩ := h
  exact ⟨L, com, app, v, b, bt, T, com', app', u, h1.below k, h2, h3.below k, h4, h5, h6, h7⟩
theorem PX.more {B : Nat} {w : World} {p q N M : Nat} (h : PX B w p q N) (hm : N ≤ M) : PX B w p q M := by
  obtain ⟨L, com, app, v, b, bt, T, com', app', u, h1, h2, h3, h4, h5, h6, h7⟩ := h
  exact ⟨L, com, app, v, b, bt, T, com', app', u, h1, h2, h3, h4, h5, by omega, by omega⟩
theorem EV.In {e : EV} {w : World} (h : e.At w) : In w e.a e.l := ⟨h.at_, h.d⟩
set_option maxRecDepth 100000 in
set_option maxHeartbeats 4000000 in
theorem do_at {B : Nat} {w W0 : World} {p q N : Nat} (h : PX B w p q N) (hB : W0.heap.size = B) (hW : Below B W0 w) (act i tm : Int) (ea : Option Addr) (l : List Ent) (ec : Nat) (hs : EV.At ⟨ea, l, ec⟩ W0) (hN : N + l.length ≤ 90000) :
    Calls Try.prog 11 #[.pointer (some ⟨p, 0, none⟩), .pointer (some ⟨q, 0, none⟩), .agg #[.int .i64 act, .int .i64 i, .int .i64 tm, .slice ea l.length ec]] w fun e w' => (∃ b, e = .returned (.bool b)) ∧ PX B w' p q (N + l.length) ∧ Below B w w' := by
  obtain ⟨L, com, app, v, b, bt, T, com', app', u, h1, h2, h3, h4, h5, h6, h7⟩ := h
  obtain ⟨en, hen⟩ : ∃ en, en = l.length := ⟨_, rfl⟩
  have HEN := Lib.hid hen
  have hb0 := bl_alloc (Below.refl w.heap.size w) (.cells #[.int .i64 act, .int .i64 i, .int .i64 tm, .slice ea l.length ec] 35)
  have hbk := blk_new w (.cells #[.int .i64 act, .int .i64 i, .int .i64 tm, .slice ea l.length ec] 35) rfl
  have hBw : B ≤ w.heap.size := by have := h1.hB; have := blk_lt h1.blk; omega
  have hlt := blk_lt h1.blk
  have hrow := fun g (hg : v.ownBlock = some g) => (h1.row.lt g hg).2
  rw [← hen] at hb0 hbk hN ⊢
  have HX := Lib.hid (h1.below hb0)
  have HG := Lib.hid h2
  have HR := Lib.hid (h3.below hb0)
  have HGR := Lib.hid h4
  have HAP := Lib.hid h5
  have HL := Lib.hid h6
  have HT := Lib.hid h7
  have HB0 := Lib.hid (hb0.mono hBw)
  have HWW := Lib.hid hW
  have hcap := hs.cap
  have HCAP := Lib.hid hcap
  have HNIL := Lib.hid hs.nil
  have HIN := Lib.hid (show ∀ W, Below B W0 W → In W ea l from fun W k => (EV.In hs).keep (by rw [hB]; exact k))
  have HBM := Lib.hid (show ¬ w.heap.size ∈ gM p v from fun hm => by
    rcases List.mem_cons.1 hm with e | hm
    · omega
    · have := hrow w.heap.size (by simpa using hm); omega)
  obtain ⟨wb, hwb⟩ : ∃ wb, wb = w.heap.size := ⟨_, rfl⟩
  obtain ⟨w0, hw0⟩ : ∃ w0, w0 = w.alloc (.cells #[.int .i64 act, .int .i64 i, .int .i64 tm, .slice ea en ec] 35) := ⟨_, rfl⟩
  have HWB := Lib.hid hwb
  have HW0 := Lib.hid hw0
  rw [← hw0] at HX HR hbk HB0
  rw [← hwb] at hbk HBM
  have HBK := Lib.hid hbk
  have HNN := Lib.hid hN
  clear hN h1 h2 h3 h4 h5 h6 h7 hb0 hbk hBw hlt hrow hen hW hcap hs hwb hw0 hB
  have q0 : ∀ W, Below w0.heap.size w0 W → W.cell? ⟨wb, 0, none⟩ = some (.int .i64 act) := fun W h => blk_cell (blk_below HBK.out h (blk_lt HBK.out)) 0
  have q1 : ∀ W, Below w0.heap.size w0 W → W.cell? ⟨wb, 1, none⟩ = some (.int .i64 i) := fun W h => blk_cell (blk_below HBK.out h (blk_lt HBK.out)) 1
  have q2 : ∀ W, Below w0.heap.size w0 W → W.cell? ⟨wb, 2, none⟩ = some (.int .i64 tm) := fun W h => blk_cell (blk_below HBK.out h (blk_lt HBK.out)) 2
  have q3 : ∀ W, Below w0.heap.size w0 W → W.cell? ⟨wb, 3, none⟩ = some (.slice ea en ec) := fun W h => blk_cell (blk_below HBK.out h (blk_lt HBK.out)) 3
  have hb := Below.refl w0.heap.size w0
  by_cases a0 : act = 0
  · have d0 : (act == 0) = true := by simp [a0]
    clear a0
    have hg := (add_at HX.out HG.out ea l ec (HIN.out _ (HWW.out.trans HB0.out)) (by have h1 := HL.out; have h2 := HNN.out; have h3 := HEN.out; omega))
    try rw [← HEN.out] at hg
    have HG9 := Lib.hid hg
    clear hg
    go_enter Try.func11, Try.ntmps11
    go_upto_region 1 with fail
    rw [← HW0.out]
    rw [← HWB.out]
    go_wp2_with fail
    refine HG9.out.mono ?_
    rintro e w1 hh
    obtain ⟨⟨n1, rfl⟩, hge⟩ := hh
    clear HG9
    obtain ⟨L1, com1, app1, v1, hX1, hG1, hR1, hap1, hl1, hC1⟩ := px_one HX.out HR.out HAP.out hge
    have hbB1 := HX.out.bl hC1
    have hbk1 := hC1.blk HBK.out HBM.out
    have HX1 := Lib.hid hX1
    have HG1 := Lib.hid hG1
    have HR1 := Lib.hid hR1
    have HAP1 := Lib.hid hap1
    have HL1 := Lib.hid hl1
    have HB1 := Lib.hid (HB0.out.trans hbB1)
    have HBK1 := Lib.hid hbk1
    clear hge hX1 hG1 hR1 hap1 hl1 hC1 hbB1 hbk1 q0 q1 q2 q3 hb
    have hb := Below.refl w1.heap.size w1
    have q0 : ∀ W, Below w1.heap.size w1 W → W.cell? ⟨wb, 0, none⟩ = some (.int .i64 act) := fun W h => blk_cell (blk_below HBK1.out h (blk_lt HBK1.out)) 0
    have q1 : ∀ W, Below w1.heap.size w1 W → W.cell? ⟨wb, 1, none⟩ = some (.int .i64 i) := fun W h => blk_cell (blk_below HBK1.out h (blk_lt HBK1.out)) 1
    have q2 : ∀ W, Below w1.heap.size w1 W → W.cell? ⟨wb, 2, none⟩ = some (.int .i64 tm) := fun W h => blk_cell (blk_below HBK1.out h (blk_lt HBK1.out)) 2
    have q3 : ∀ W, Below w1.heap.size w1 W → W.cell? ⟨wb, 3, none⟩ = some (.slice ea en ec) := fun W h => blk_cell (blk_below HBK1.out h (blk_lt HBK1.out)) 3
    have hr := (radd_at HR1.out HGR.out ea l ec (HIN.out _ (HWW.out.trans HB1.out)) HNIL.out (by have h1 := HT.out; have h2 := HNN.out; have h3 := HEN.out; omega))
    try rw [← HEN.out] at hr
    have HR9 := Lib.hid hr
    clear hr
    go_wp2_with fail
    refine HR9.out.mono ?_
    rintro e w2 ⟨⟨n2, rfl⟩, hre⟩
    clear HR9
    obtain ⟨b2, bt2, T2, com2, app2, u2, hX2, hR2, hG2, hap2, hl2, hC2⟩ := px_two HX1.out HR1.out HAP1.out hre
    have HE := Lib.hid (show PX B w2 p q (N + en) ∧ Below B w w2 from ⟨⟨L1, com1, app1, v1, b2, bt2, T2, com2, app2, u2, hX2, HG1.out, hR2, hG2, hap2, by have h1 := HL1.out; have h2 := HL.out; have h3 := HEN.out; omega, by have h2 := HT.out; have h3 := HEN.out; omega⟩, HB1.out.trans (HR1.out.bl hC2)⟩)
    clear hre hX2 hR2 hG2 hap2 hl2 hC2
    go_wp2_with fail
    all_goals (go_ret; exact ⟨⟨_, rfl⟩, HE.out⟩)
  have d0 : (act == 0) = false := by simp [a0]
  clear a0
  by_cases a1 : act = 1
  · have d1 : (act == 1) = true := by simp [a1]
    clear a1
    have hg := (merge_at HX.out HG.out i tm ea l ec (HIN.out _ (HWW.out.trans HB0.out)) HCAP.out (by have h1 := HL.out; have h2 := HNN.out; have h3 := HEN.out; omega))
    try rw [← HEN.out] at hg
    have HG9 := Lib.hid hg
    clear hg
    go_enter Try.func11, Try.ntmps11
    go_upto_region 1 with fail
    rw [← HW0.out]
    rw [← HWB.out]
    go_wp2_with fail
    refine HG9.out.mono ?_
    rintro e w1 hh
    obtain ⟨⟨n1, m1, rfl⟩, hge⟩ := merge_end HX.out HG.out hh
    clear HG9
    obtain ⟨L1, com1, app1, v1, hX1, hG1, hR1, hap1, hl1, hC1⟩ := px_one HX.out HR.out HAP.out hge
    have hbB1 := HX.out.bl hC1
    have hbk1 := hC1.blk HBK.out HBM.out
    have HX1 := Lib.hid hX1
    have HG1 := Lib.hid hG1
    have HR1 := Lib.hid hR1
    have HAP1 := Lib.hid hap1
    have HL1 := Lib.hid hl1
    have HB1 := Lib.hid (HB0.out.trans hbB1)
    have HBK1 := Lib.hid hbk1
    clear hge hX1 hG1 hR1 hap1 hl1 hC1 hbB1 hbk1 q0 q1 q2 q3 hb
    have hb := Below.refl w1.heap.size w1
    have q0 : ∀ W, Below w1.heap.size w1 W → W.cell? ⟨wb, 0, none⟩ = some (.int .i64 act) := fun W h => blk_cell (blk_below HBK1.out h (blk_lt HBK1.out)) 0
    have q1 : ∀ W, Below w1.heap.size w1 W → W.cell? ⟨wb, 1, none⟩ = some (.int .i64 i) := fun W h => blk_cell (blk_below HBK1.out h (blk_lt HBK1.out)) 1
    have q2 : ∀ W, Below w1.heap.size w1 W → W.cell? ⟨wb, 2, none⟩ = some (.int .i64 tm) := fun W h => blk_cell (blk_below HBK1.out h (blk_lt HBK1.out)) 2
    have q3 : ∀ W, Below w1.heap.size w1 W → W.cell? ⟨wb, 3, none⟩ = some (.slice ea en ec) := fun W h => blk_cell (blk_below HBK1.out h (blk_lt HBK1.out)) 3
    have hr := (rmerge_at HR1.out HGR.out i tm ea l ec (HIN.out _ (HWW.out.trans HB1.out)) HNIL.out HCAP.out (by have h1 := HT.out; have h2 := HNN.out; have h3 := HEN.out; omega))
    try rw [← HEN.out] at hr
    have HR9 := Lib.hid hr
    clear hr
    go_wp2_with fail
    refine HR9.out.mono ?_
    rintro e w2 ⟨⟨n2, m2, rfl⟩, hre⟩
    clear HR9
    obtain ⟨b2, bt2, T2, com2, app2, u2, hX2, hR2, hG2, hap2, hl2, hC2⟩ := px_two HX1.out HR1.out HAP1.out hre
    have HE := Lib.hid (show PX B w2 p q (N + en) ∧ Below B w w2 from ⟨⟨L1, com1, app1, v1, b2, bt2, T2, com2, app2, u2, hX2, HG1.out, hR2, hG2, hap2, by have h1 := HL1.out; have h2 := HL.out; have h3 := HEN.out; omega, by have h2 := HT.out; have h3 := HEN.out; omega⟩, HB1.out.trans (HR1.out.bl hC2)⟩)
    clear hre hX2 hR2 hG2 hap2 hl2 hC2
    go_wp2_with fail
    all_goals (go_ret; exact ⟨⟨_, rfl⟩, HE.out⟩)
  have d1 : (act == 1) = false := by simp [a1]
  clear a1
  by_cases a2 : act = 2
  · have d2 : (act == 2) = true := by simp [a2]
    clear a2
    have hg := (commit_at HX.out HG.out i)
    try rw [← HEN.out] at hg
    have HG9 := Lib.hid hg
    clear hg
    go_enter Try.func11, Try.ntmps11
    go_upto_region 1 with fail
    rw [← HW0.out]
    rw [← HWB.out]
    go_wp2_with fail
    refine HG9.out.mono ?_
    rintro e w1 hh
    obtain ⟨⟨n1, rfl⟩, hge⟩ := hh
    clear HG9
    obtain ⟨L1, com1, app1, v1, hX1, hG1, hR1, hap1, hl1, hC1⟩ := px_one HX.out HR.out HAP.out hge
    have hbB1 := HX.out.bl hC1
    have hbk1 := hC1.blk HBK.out HBM.out
    have HX1 := Lib.hid hX1
    have HG1 := Lib.hid hG1
    have HR1 := Lib.hid hR1
    have HAP1 := Lib.hid hap1
    have HL1 := Lib.hid hl1
    have HB1 := Lib.hid (HB0.out.trans hbB1)
    have HBK1 := Lib.hid hbk1
    clear hge hX1 hG1 hR1 hap1 hl1 hC1 hbB1 hbk1 q0 q1 q2 q3 hb
    have hb := Below.refl w1.heap.size w1
    have q0 : ∀ W, Below w1.heap.size w1 W → W.cell? ⟨wb, 0, none⟩ = some (.int .i64 act) := fun W h => blk_cell (blk_below HBK1.out h (blk_lt HBK1.out)) 0
    have q1 : ∀ W, Below w1.heap.size w1 W → W.cell? ⟨wb, 1, none⟩ = some (.int .i64 i) := fun W h => blk_cell (blk_below HBK1.out h (blk_lt HBK1.out)) 1
    have q2 : ∀ W, Below w1.heap.size w1 W → W.cell? ⟨wb, 2, none⟩ = some (.int .i64 tm) := fun W h => blk_cell (blk_below HBK1.out h (blk_lt HBK1.out)) 2
    have q3 : ∀ W, Below w1.heap.size w1 W → W.cell? ⟨wb, 3, none⟩ = some (.slice ea en ec) := fun W h => blk_cell (blk_below HBK1.out h (blk_lt HBK1.out)) 3
    have hr := (rcommit_at HR1.out HGR.out i)
    try rw [← HEN.out] at hr
    have HR9 := Lib.hid hr
    clear hr
    go_wp2_with fail
    refine HR9.out.mono ?_
    rintro e w2 ⟨⟨n2, rfl⟩, hre⟩
    clear HR9
    obtain ⟨b2, bt2, T2, com2, app2, u2, hX2, hR2, hG2, hap2, hl2, hC2⟩ := px_two HX1.out HR1.out HAP1.out hre
    have HE := Lib.hid (show PX B w2 p q (N + en) ∧ Below B w w2 from ⟨⟨L1, com1, app1, v1, b2, bt2, T2, com2, app2, u2, hX2, HG1.out, hR2, hG2, hap2, by have h1 := HL1.out; have h2 := HL.out; have h3 := HEN.out; omega, by have h2 := HT.out; have h3 := HEN.out; omega⟩, HB1.out.trans (HR1.out.bl hC2)⟩)
    clear hre hX2 hR2 hG2 hap2 hl2 hC2
    go_wp2_with fail
    all_goals (go_ret; exact ⟨⟨_, rfl⟩, HE.out⟩)
  have d2 : (act == 2) = false := by simp [a2]
  clear a2
  by_cases a3 : act = 3
  · have d3 : (act == 3) = true := by simp [a3]
    clear a3
    have hg := (apply_at HX.out HG.out i)
    try rw [← HEN.out] at hg
    have HG9 := Lib.hid hg
    clear hg
    go_enter Try.func11, Try.ntmps11
    go_upto_region 1 with fail
    rw [← HW0.out]
    rw [← HWB.out]
    go_wp2_with fail
    refine HG9.out.mono ?_
    rintro e w1 hh
    obtain ⟨⟨n1, rfl⟩, hge⟩ := hh
    clear HG9
    obtain ⟨L1, com1, app1, v1, hX1, hG1, hR1, hap1, hl1, hC1⟩ := px_one HX.out HR.out HAP.out hge
    have hbB1 := HX.out.bl hC1
    have hbk1 := hC1.blk HBK.out HBM.out
    have HX1 := Lib.hid hX1
    have HG1 := Lib.hid hG1
    have HR1 := Lib.hid hR1
    have HAP1 := Lib.hid hap1
    have HL1 := Lib.hid hl1
    have HB1 := Lib.hid (HB0.out.trans hbB1)
    have HBK1 := Lib.hid hbk1
    clear hge hX1 hG1 hR1 hap1 hl1 hC1 hbB1 hbk1 q0 q1 q2 q3 hb
    have hb := Below.refl w1.heap.size w1
    have q0 : ∀ W, Below w1.heap.size w1 W → W.cell? ⟨wb, 0, none⟩ = some (.int .i64 act) := fun W h => blk_cell (blk_below HBK1.out h (blk_lt HBK1.out)) 0
    have q1 : ∀ W, Below w1.heap.size w1 W → W.cell? ⟨wb, 1, none⟩ = some (.int .i64 i) := fun W h => blk_cell (blk_below HBK1.out h (blk_lt HBK1.out)) 1
    have q2 : ∀ W, Below w1.heap.size w1 W → W.cell? ⟨wb, 2, none⟩ = some (.int .i64 tm) := fun W h => blk_cell (blk_below HBK1.out h (blk_lt HBK1.out)) 2
    have q3 : ∀ W, Below w1.heap.size w1 W → W.cell? ⟨wb, 3, none⟩ = some (.slice ea en ec) := fun W h => blk_cell (blk_below HBK1.out h (blk_lt HBK1.out)) 3
    have hr := (rapply_at HR1.out HGR.out i)
    try rw [← HEN.out] at hr
    have HR9 := Lib.hid hr
    clear hr
    go_wp2_with fail
    refine HR9.out.mono ?_
    rintro e w2 ⟨⟨n2, rfl⟩, hre⟩
    clear HR9
    obtain ⟨b2, bt2, T2, com2, app2, u2, hX2, hR2, hG2, hap2, hl2, hC2⟩ := px_two HX1.out HR1.out HAP1.out hre
    have HE := Lib.hid (show PX B w2 p q (N + en) ∧ Below B w w2 from ⟨⟨L1, com1, app1, v1, b2, bt2, T2, com2, app2, u2, hX2, HG1.out, hR2, hG2, hap2, by have h1 := HL1.out; have h2 := HL.out; have h3 := HEN.out; omega, by have h2 := HT.out; have h3 := HEN.out; omega⟩, HB1.out.trans (HR1.out.bl hC2)⟩)
    clear hre hX2 hR2 hG2 hap2 hl2 hC2
    go_wp2_with fail
    all_goals (go_ret; exact ⟨⟨_, rfl⟩, HE.out⟩)
  have d3 : (act == 3) = false := by simp [a3]
  clear a3
  by_cases a4 : act = 4
  · have d4 : (act == 4) = true := by simp [a4]
    clear a4
    have hg := (compact_at HX.out HG.out i)
    try rw [← HEN.out] at hg
    have HG9 := Lib.hid hg
    clear hg
    go_enter Try.func11, Try.ntmps11
    go_upto_region 1 with fail
    rw [← HW0.out]
    rw [← HWB.out]
    go_wp2_with fail
    refine HG9.out.mono ?_
    rintro e w1 hh
    obtain ⟨⟨n1, rfl⟩, hge⟩ := compact_end HX.out HG.out hh
    clear HG9
    obtain ⟨L1, com1, app1, v1, hX1, hG1, hR1, hap1, hl1, hC1⟩ := px_one HX.out HR.out HAP.out hge
    have hbB1 := HX.out.bl hC1
    have hbk1 := hC1.blk HBK.out HBM.out
    have HX1 := Lib.hid hX1
    have HG1 := Lib.hid hG1
    have HR1 := Lib.hid hR1
    have HAP1 := Lib.hid hap1
    have HL1 := Lib.hid hl1
    have HB1 := Lib.hid (HB0.out.trans hbB1)
    have HBK1 := Lib.hid hbk1
    clear hge hX1 hG1 hR1 hap1 hl1 hC1 hbB1 hbk1 q0 q1 q2 q3 hb
    have hb := Below.refl w1.heap.size w1
    have q0 : ∀ W, Below w1.heap.size w1 W → W.cell? ⟨wb, 0, none⟩ = some (.int .i64 act) := fun W h => blk_cell (blk_below HBK1.out h (blk_lt HBK1.out)) 0
    have q1 : ∀ W, Below w1.heap.size w1 W → W.cell? ⟨wb, 1, none⟩ = some (.int .i64 i) := fun W h => blk_cell (blk_below HBK1.out h (blk_lt HBK1.out)) 1
    have q2 : ∀ W, Below w1.heap.size w1 W → W.cell? ⟨wb, 2, none⟩ = some (.int .i64 tm) := fun W h => blk_cell (blk_below HBK1.out h (blk_lt HBK1.out)) 2
    have q3 : ∀ W, Below w1.heap.size w1 W → W.cell? ⟨wb, 3, none⟩ = some (.slice ea en ec) := fun W h => blk_cell (blk_below HBK1.out h (blk_lt HBK1.out)) 3
    have hr := (rcompact_at HR1.out HGR.out i)
    try rw [← HEN.out] at hr
    have HR9 := Lib.hid hr
    clear hr
    go_wp2_with fail
    refine HR9.out.mono ?_
    rintro e w2 ⟨⟨n2, rfl⟩, hre⟩
    clear HR9
    obtain ⟨b2, bt2, T2, com2, app2, u2, hX2, hR2, hG2, hap2, hl2, hC2⟩ := px_two HX1.out HR1.out HAP1.out hre
    have HE := Lib.hid (show PX B w2 p q (N + en) ∧ Below B w w2 from ⟨⟨L1, com1, app1, v1, b2, bt2, T2, com2, app2, u2, hX2, HG1.out, hR2, hG2, hap2, by have h1 := HL1.out; have h2 := HL.out; have h3 := HEN.out; omega, by have h2 := HT.out; have h3 := HEN.out; omega⟩, HB1.out.trans (HR1.out.bl hC2)⟩)
    clear hre hX2 hR2 hG2 hap2 hl2 hC2
    go_wp2_with fail
    all_goals (go_ret; exact ⟨⟨_, rfl⟩, HE.out⟩)
  have d4 : (act == 4) = false := by simp [a4]
  clear a4
  by_cases a5 : act = 5
  · have d5 : (act == 5) = true := by simp [a5]
    clear a5
    have hg := (reset_at HX.out HG.out i tm)
    try rw [← HEN.out] at hg
    have HG9 := Lib.hid hg
    clear hg
    go_enter Try.func11, Try.ntmps11
    go_upto_region 1 with fail
    rw [← HW0.out]
    rw [← HWB.out]
    go_wp2_with fail
    refine HG9.out.mono ?_
    rintro e w1 hh
    obtain ⟨⟨n1, rfl⟩, hge⟩ := hh
    clear HG9
    obtain ⟨L1, com1, app1, v1, hX1, hG1, hR1, hap1, hl1, hC1⟩ := px_one HX.out HR.out HAP.out hge
    have hbB1 := HX.out.bl hC1
    have hbk1 := hC1.blk HBK.out HBM.out
    have HX1 := Lib.hid hX1
    have HG1 := Lib.hid hG1
    have HR1 := Lib.hid hR1
    have HAP1 := Lib.hid hap1
    have HL1 := Lib.hid hl1
    have HB1 := Lib.hid (HB0.out.trans hbB1)
    have HBK1 := Lib.hid hbk1
    clear hge hX1 hG1 hR1 hap1 hl1 hC1 hbB1 hbk1 q0 q1 q2 q3 hb
    have hb := Below.refl w1.heap.size w1
    have q0 : ∀ W, Below w1.heap.size w1 W → W.cell? ⟨wb, 0, none⟩ = some (.int .i64 act) := fun W h => blk_cell (blk_below HBK1.out h (blk_lt HBK1.out)) 0
    have q1 : ∀ W, Below w1.heap.size w1 W → W.cell? ⟨wb, 1, none⟩ = some (.int .i64 i) := fun W h => blk_cell (blk_below HBK1.out h (blk_lt HBK1.out)) 1
    have q2 : ∀ W, Below w1.heap.size w1 W → W.cell? ⟨wb, 2, none⟩ = some (.int .i64 tm) := fun W h => blk_cell (blk_below HBK1.out h (blk_lt HBK1.out)) 2
    have q3 : ∀ W, Below w1.heap.size w1 W → W.cell? ⟨wb, 3, none⟩ = some (.slice ea en ec) := fun W h => blk_cell (blk_below HBK1.out h (blk_lt HBK1.out)) 3
    have hr := (rreset_at HR1.out HGR.out i tm)
    try rw [← HEN.out] at hr
    have HR9 := Lib.hid hr
    clear hr
    go_wp2_with fail
    refine HR9.out.mono ?_
    rintro e w2 ⟨⟨n2, rfl⟩, hre⟩
    clear HR9
    obtain ⟨b2, bt2, T2, com2, app2, u2, hX2, hR2, hG2, hap2, hl2, hC2⟩ := px_two HX1.out HR1.out HAP1.out hre
    have HE := Lib.hid (show PX B w2 p q (N + en) ∧ Below B w w2 from ⟨⟨L1, com1, app1, v1, b2, bt2, T2, com2, app2, u2, hX2, HG1.out, hR2, hG2, hap2, by have h1 := HL1.out; have h2 := HL.out; have h3 := HEN.out; omega, by have h2 := HT.out; have h3 := HEN.out; omega⟩, HB1.out.trans (HR1.out.bl hC2)⟩)
    clear hre hX2 hR2 hG2 hap2 hl2 hC2
    go_wp2_with fail
    all_goals (go_ret; exact ⟨⟨_, rfl⟩, HE.out⟩)
  have d5 : (act == 5) = false := by simp [a5]
  clear a5
  go_enter Try.func11, Try.ntmps11
  go_upto_region 1 with fail
  rw [← HW0.out]
  rw [← HWB.out]
  go_wp2_with fail
  go_ret
  exact ⟨.inr rfl, ⟨L, com, app, v, b, bt, T, com', app', u, HX.out.below hb, HG.out, HR.out.below hb, HGR.out, HAP.out, by have := HL.out; omega, by have := HT.out; omega⟩, HB0.out⟩
end Go.Proofs.Yteflgempjecnpaa
