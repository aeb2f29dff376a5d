/- The reference's log: Commit, Apply, Reset, Add. Conditions: none. -/
import Derived.Test.YteflgempjecnpaaLgR2
namespace Go.Proofs.Yteflgempjecnpaa
open Go.RowKit
section
variable {B : Nat} {w w' : World} {p : Nat} {b bt : Int} {T : List Ent} {com app : Int} {u : Value}
theorem RX.ne (h : RX B w p b bt T com app u) : ∀ g, u.ownBlock = some g → g ≠ p := fun g hg e => row_wb h.row h.blk (by decide) (by rw [← e]; exact hg)
theorem RX.scal (h : RX B w p b bt T com app u) {k : Nat} {x : Value} {b' bt' com' app' : Int} (hc : (#[.int .i64 b, .int .i64 bt, u, .int .i64 com, .int .i64 app] : Array Value).setIfInBounds k x = #[.int .i64 b', .int .i64 bt', u, .int .i64 com', .int .i64 app']) : RX B (w.setCell ⟨p, k, none⟩ x) p b' bt' T com' app' u :=
  ⟨by rw [← hc]; exact blk_set h.blk k x, h.hB, ownsRow_blk h.row fun g hg => Below.heap_setCell _ _ _ _ (h.ne g hg)⟩
theorem good_hd {b bt com app : Int} {T : List Ent} (h : Good (hd b bt :: T) com app) : b ≤ app ∧ app ≤ com ∧ com ≤ b + T.length := by
  have h1 := h.c0
  have h2 := h.c1
  have h3 := h.c2
  have e0 : (atE (hd b bt :: T) 0).ix = b := rfl
  rw [e0] at h1 h3
  simp at h3
  exact ⟨h1, h2, h3⟩
theorem good_pl {b bt com app com' app' : Int} {T : List Ent} (h : Good (hd b bt :: T) com app) (h1 : b ≤ app') (h2 : app' ≤ com') (h3 : com' ≤ b + T.length) : Good (hd b bt :: T) com' app' :=
  ⟨h.ne, h.sz, h.ix, h.b0, h.top, h1, h2, by show com' ≤ b + _; simp; omega, h.tm⟩
set_option maxRecDepth 100000 in
set_option maxHeartbeats 1000000 in
theorem rcommit_at (h : RX B w p b bt T com app u) (hG : Good (hd b bt :: T) com app) (i : Int) :
    Calls Try.prog 29 #[.pointer (some ⟨p, 0, none⟩), .int .i64 i] w fun e w' => (∃ n : Int, e = .returned (.int .i64 n)) ∧ REnd B w p T u 0 w' := by
  have hla := fun (W : World) (k : Below w.heap.size w W) => rlast_at (h.below k) hG
  obtain ⟨ua, uc, rfl⟩ := own_slice h.row
  have HX := Lib.hid h
  have HG := Lib.hid hG
  obtain ⟨N, hN⟩ : ∃ N, N = T.length := ⟨_, rfl⟩
  have HN := Lib.hid hN
  have n2 : (N : Int) ≤ 200000 := by have := hG.sz; simp at this; omega
  have b1 : 0 ≤ b := hG.b0
  have b2 : b + N ≤ 1099511627776 := by have := hG.top; simp at this; unfold maxI at this; rw [hN]; exact this
  have c0 : ∀ W, Below w.heap.size w W → W.cell? ⟨p, 0, none⟩ = some (.int .i64 b) := fun W k => blk_cell (blk_below HX.out.blk k (blk_lt HX.out.blk)) 0
  have c1 : ∀ W, Below w.heap.size w W → W.cell? ⟨p, 1, none⟩ = some (.int .i64 bt) := fun W k => blk_cell (blk_below HX.out.blk k (blk_lt HX.out.blk)) 1
  have c2 : ∀ W, Below w.heap.size w W → W.cell? ⟨p, 2, none⟩ = some (.slice ua N uc) := fun W k => by rw [HN.out]; exact blk_cell (blk_below HX.out.blk k (blk_lt HX.out.blk)) 2
  have c3 : ∀ W, Below w.heap.size w W → W.cell? ⟨p, 3, none⟩ = some (.int .i64 com) := fun W k => blk_cell (blk_below HX.out.blk k (blk_lt HX.out.blk)) 3
  have c4 : ∀ W, Below w.heap.size w W → W.cell? ⟨p, 4, none⟩ = some (.int .i64 app) := fun W k => blk_cell (blk_below HX.out.blk k (blk_lt HX.out.blk)) 4
  have pf : ∀ i W, Below w.heap.size w W → W.frozen? ⟨p, i, none⟩ = false := fun i W k => blk_frozen (blk_below HX.out.blk k (blk_lt HX.out.blk)) i
  have hbl := Below.refl w.heap.size w
  have hv1 : IntKind.i64.wrap (b + N) = b + N := IntWalk.i64_in _ (by omega)
  clear h hG hN
  rw [← HN.out] at hla
  by_cases d1 : i < com
  · have e1 : decide (i < com) = true := decide_eq_true d1
    clear d1
    go_enter Try.func29, Try.ntmps29
    go_wp2_with fail
    go_ret
    exact ⟨⟨7, rfl⟩, .same HX.out HG.out hbl⟩
  have e1 : decide (i < com) = false := decide_eq_false d1
  by_cases d2 : b + N < i
  · have e2 : decide (b + N < i) = true := decide_eq_true d2
    clear d1 d2
    go_enter Try.func29, Try.ntmps29
    go_wp2_with fail
    refine (hla _ hbl).mono ?_; rintro e w1 ⟨rfl, hb1⟩
    go_wp2_with fail
    go_ret
    exact ⟨⟨7, rfl⟩, .same HX.out HG.out hb1⟩
  have e2 : decide (b + N < i) = false := decide_eq_false d2
  have HI := Lib.hid (show com ≤ i ∧ i ≤ b + N by omega)
  clear d1 d2
  go_enter Try.func29, Try.ntmps29
  go_wp2_with fail
  refine (hla _ hbl).mono ?_; rintro e w1 ⟨rfl, hb1⟩
  go_wp2_with fail
  go_ret
  have hgh := good_hd HG.out
  exact ⟨⟨0, rfl⟩, b, bt, T, i, app, _, (HX.out.below hb1).scal (k := 3) (x := .int .i64 i) rfl, good_pl HG.out hgh.1 (by have := HI.out; omega) (by have := HI.out; rw [HN.out] at this; exact this.2), (Chg.of_below hb1).set (p := ⟨p, 3, none⟩) (.inl List.mem_cons_self) _, .inr (.inl rfl), Nat.le_refl _⟩
set_option maxRecDepth 100000 in
set_option maxHeartbeats 1000000 in
theorem rapply_at (h : RX B w p b bt T com app u) (hG : Good (hd b bt :: T) com app) (i : Int) :
    Calls Try.prog 31 #[.pointer (some ⟨p, 0, none⟩), .int .i64 i] w fun e w' => (∃ n : Int, e = .returned (.int .i64 n)) ∧ REnd B w p T u 0 w' := by
  obtain ⟨ua, uc, rfl⟩ := own_slice h.row
  have HX := Lib.hid h
  have HG := Lib.hid hG
  obtain ⟨N, hN⟩ : ∃ N, N = T.length := ⟨_, rfl⟩
  have HN := Lib.hid hN
  have n2 : (N : Int) ≤ 200000 := by have := hG.sz; simp at this; omega
  have b1 : 0 ≤ b := hG.b0
  have b2 : b + N ≤ 1099511627776 := by have := hG.top; simp at this; unfold maxI at this; rw [hN]; exact this
  have c0 : ∀ W, Below w.heap.size w W → W.cell? ⟨p, 0, none⟩ = some (.int .i64 b) := fun W k => blk_cell (blk_below HX.out.blk k (blk_lt HX.out.blk)) 0
  have c1 : ∀ W, Below w.heap.size w W → W.cell? ⟨p, 1, none⟩ = some (.int .i64 bt) := fun W k => blk_cell (blk_below HX.out.blk k (blk_lt HX.out.blk)) 1
  have c2 : ∀ W, Below w.heap.size w W → W.cell? ⟨p, 2, none⟩ = some (.slice ua N uc) := fun W k => by rw [HN.out]; exact blk_cell (blk_below HX.out.blk k (blk_lt HX.out.blk)) 2
  have c3 : ∀ W, Below w.heap.size w W → W.cell? ⟨p, 3, none⟩ = some (.int .i64 com) := fun W k => blk_cell (blk_below HX.out.blk k (blk_lt HX.out.blk)) 3
  have c4 : ∀ W, Below w.heap.size w W → W.cell? ⟨p, 4, none⟩ = some (.int .i64 app) := fun W k => blk_cell (blk_below HX.out.blk k (blk_lt HX.out.blk)) 4
  have pf : ∀ i W, Below w.heap.size w W → W.frozen? ⟨p, i, none⟩ = false := fun i W k => blk_frozen (blk_below HX.out.blk k (blk_lt HX.out.blk)) i
  have hbl := Below.refl w.heap.size w
  have hv1 : IntKind.i64.wrap (b + N) = b + N := IntWalk.i64_in _ (by omega)
  clear h hG hN
  by_cases d1 : i < app
  · have e1 : decide (i < app) = true := decide_eq_true d1
    clear d1
    go_enter Try.func31, Try.ntmps31
    go_wp2_with fail
    go_ret
    exact ⟨⟨7, rfl⟩, .same HX.out HG.out hbl⟩
  have e1 : decide (i < app) = false := decide_eq_false d1
  by_cases d2 : com < i
  · have e2 : decide (com < i) = true := decide_eq_true d2
    clear d1 d2
    go_enter Try.func31, Try.ntmps31
    go_wp2_with fail
    go_ret
    exact ⟨⟨7, rfl⟩, .same HX.out HG.out hbl⟩
  have e2 : decide (com < i) = false := decide_eq_false d2
  have HI := Lib.hid (show app ≤ i ∧ i ≤ com by omega)
  clear d1 d2
  go_enter Try.func31, Try.ntmps31
  go_wp2_with fail
  go_ret
  have hgh := good_hd HG.out
  exact ⟨⟨0, rfl⟩, b, bt, T, com, i, _, HX.out.scal (k := 4) (x := .int .i64 i) rfl, good_pl HG.out (by have := HI.out; omega) HI.out.2 hgh.2.2, (Chg.refl _ w).set (p := ⟨p, 4, none⟩) (.inl List.mem_cons_self) _, .inr (.inl rfl), Nat.le_refl _⟩
set_option maxRecDepth 100000 in
set_option maxHeartbeats 1000000 in
theorem rreset_at (h : RX B w p b bt T com app u) (hG : Good (hd b bt :: T) com app) (i t : Int) :
    Calls Try.prog 34 #[.pointer (some ⟨p, 0, none⟩), .int .i64 i, .int .i64 t] w fun e w' => (∃ n : Int, e = .returned (.int .i64 n)) ∧ REnd B w p T u 0 w' := by
  obtain ⟨ua, uc, rfl⟩ := own_slice h.row
  have HX := Lib.hid h
  have HG := Lib.hid hG
  obtain ⟨N, hN⟩ : ∃ N, N = T.length := ⟨_, rfl⟩
  have HN := Lib.hid hN
  have n2 : (N : Int) ≤ 200000 := by have := hG.sz; simp at this; omega
  have b1 : 0 ≤ b := hG.b0
  have b2 : b + N ≤ 1099511627776 := by have := hG.top; simp at this; unfold maxI at this; rw [hN]; exact this
  have c0 : ∀ W, Below w.heap.size w W → W.cell? ⟨p, 0, none⟩ = some (.int .i64 b) := fun W k => blk_cell (blk_below HX.out.blk k (blk_lt HX.out.blk)) 0
  have c1 : ∀ W, Below w.heap.size w W → W.cell? ⟨p, 1, none⟩ = some (.int .i64 bt) := fun W k => blk_cell (blk_below HX.out.blk k (blk_lt HX.out.blk)) 1
  have c2 : ∀ W, Below w.heap.size w W → W.cell? ⟨p, 2, none⟩ = some (.slice ua N uc) := fun W k => by rw [HN.out]; exact blk_cell (blk_below HX.out.blk k (blk_lt HX.out.blk)) 2
  have c3 : ∀ W, Below w.heap.size w W → W.cell? ⟨p, 3, none⟩ = some (.int .i64 com) := fun W k => blk_cell (blk_below HX.out.blk k (blk_lt HX.out.blk)) 3
  have c4 : ∀ W, Below w.heap.size w W → W.cell? ⟨p, 4, none⟩ = some (.int .i64 app) := fun W k => blk_cell (blk_below HX.out.blk k (blk_lt HX.out.blk)) 4
  have pf : ∀ i W, Below w.heap.size w W → W.frozen? ⟨p, i, none⟩ = false := fun i W k => blk_frozen (blk_below HX.out.blk k (blk_lt HX.out.blk)) i
  have hbl := Below.refl w.heap.size w
  have hv1 : IntKind.i64.wrap (b + N) = b + N := IntWalk.i64_in _ (by omega)
  clear h hG hN
  by_cases d1 : i < 0
  · have e1 : decide (i < 0) = true := decide_eq_true d1
    clear d1
    go_enter Try.func34, Try.ntmps34
    go_wp2_with fail
    go_ret
    exact ⟨⟨_, rfl⟩, .same HX.out HG.out hbl⟩
  have e1 : decide (i < 0) = false := decide_eq_false d1
  by_cases d2 : 1099511627776 < i
  · have e2 : decide (1099511627776 < i) = true := decide_eq_true d2
    clear d1 d2
    go_enter Try.func34, Try.ntmps34
    go_wp2_with fail
    go_ret
    exact ⟨⟨_, rfl⟩, .same HX.out HG.out hbl⟩
  have e2 : decide (1099511627776 < i) = false := decide_eq_false d2
  by_cases d3 : t < 0
  · have e3 : decide (t < 0) = true := decide_eq_true d3
    clear d1 d2 d3
    go_enter Try.func34, Try.ntmps34
    go_wp2_with fail
    go_ret
    exact ⟨⟨_, rfl⟩, .same HX.out HG.out hbl⟩
  have e3 : decide (t < 0) = false := decide_eq_false d3
  by_cases d4 : 1099511627776 < t
  · have e4 : decide (1099511627776 < t) = true := decide_eq_true d4
    clear d1 d2 d3 d4
    go_enter Try.func34, Try.ntmps34
    go_wp2_with fail
    go_ret
    exact ⟨⟨_, rfl⟩, .same HX.out HG.out hbl⟩
  have e4 : decide (1099511627776 < t) = false := decide_eq_false d4
  by_cases d5 : i < com
  · have e5 : decide (i < com) = true := decide_eq_true d5
    clear d1 d2 d3 d4 d5
    go_enter Try.func34, Try.ntmps34
    go_wp2_with fail
    go_ret
    exact ⟨⟨_, rfl⟩, .same HX.out HG.out hbl⟩
  have e5 : decide (i < com) = false := decide_eq_false d5
  have HI := Lib.hid (show inIdx i ∧ inIdx t from ⟨⟨by omega, by omega⟩, ⟨by omega, by omega⟩⟩)
  have k0 := c0 _ hbl
  have k1 := c1 _ hbl
  have k2 := c2 _ hbl
  have k3 := c3 _ hbl
  have k4 := c4 _ hbl
  have kf := fun i => pf i _ hbl
  clear d1 d2 d3 d4 d5 c0 c1 c2 c3 c4 pf
  go_enter Try.func34, Try.ntmps34
  go_wp2_with fail
  go_ret
  refine ⟨⟨0, rfl⟩, i, t, [], i, i, .slice none 0 0, ⟨blk_set (blk_set (blk_set (blk_set (blk_set HX.out.blk 0 _) 1 _) 2 _) 3 _) 4 _, HX.out.hB, World.ownsRow_nil _ _ _ _⟩, good_one HI.out.1 HI.out.2, ?_, ?_, by simp⟩
  · exact (((((Chg.refl _ w).set (p := ⟨p, 0, none⟩) (.inl List.mem_cons_self) _).set (p := ⟨p, 1, none⟩) (.inl List.mem_cons_self) _).set (p := ⟨p, 2, none⟩) (.inl List.mem_cons_self) _).set (p := ⟨p, 3, none⟩) (.inl List.mem_cons_self) _).set (p := ⟨p, 4, none⟩) (.inl List.mem_cons_self) _
  · exact .inl rfl
theorem RX.more (h : RX B w p b bt T com app u) {T' : List Ent} {u' : Value} {w2 : World} {row : Option Nat} (hown : w2.ownsRow B 45 4 u' T'.length (entsC T')) (hg : w.grownBy w2 row) (hrow : row = none ∨ row = u.ownBlock)
    (hat : u'.ownBlock = none ∨ u'.ownBlock = u.ownBlock ∨ ∃ g, u'.ownBlock = some g ∧ w.heap.size ≤ g) : RX B (w2.setCell ⟨p, 2, none⟩ u') p b bt T' com app u' ∧ Chg (gM p u) w (w2.setCell ⟨p, 2, none⟩ u') := by
  have hpr : row ≠ some p := by
    rcases hrow with e | e
    · rw [e]; simp
    · rw [e]; exact row_wb h.row h.blk (by decide)
  have hb2 := (hg.block p (blk_lt h.blk) (Ne.symm hpr)).trans h.blk
  have hp' : ∀ g, u'.ownBlock = some g → g ≠ p := fun g hg' e => by
    subst e
    rcases hat with h5 | h5 | ⟨g', h5, h6⟩
    · rw [h5] at hg'; cases hg'
    · exact h.ne g (by rw [← h5]; exact hg') rfl
    · rw [hg'] at h5
      injection h5 with h5
      have := blk_lt h.blk
      omega
  have hM1 : Chg (gM p u) w w2 := (Chg.refl (gM p u) w).grown hg (fun k hk => by
    rcases hrow with e | e
    · rw [e] at hk; cases hk
    · rw [e] at hk; exact .inl (List.mem_cons_of_mem _ (by rw [hk]; exact List.mem_singleton.2 rfl)))
  exact ⟨⟨blk_set hb2 2 u', h.hB, ownsRow_blk hown fun g hg' => Below.heap_setCell _ _ _ _ (hp' g hg')⟩, hM1.set (p := ⟨p, 2, none⟩) (.inl List.mem_cons_self) _⟩
set_option maxRecDepth 100000 in
set_option maxHeartbeats 2000000 in
theorem radd_at (h : RX B w p b bt T com app u) (hG : Good (hd b bt :: T) com app) (a : Option Addr) (l : List Ent) (c : Nat) (hi : In w a l) (hnl : a = none → c = 0) (hsz : T.length + l.length ≤ 100000) :
    Calls Try.prog 26 #[.pointer (some ⟨p, 0, none⟩), .slice a l.length c] w fun e w' => (∃ n : Int, e = .returned (.int .i64 n)) ∧ REnd B w p T u l.length w' := by
  obtain ⟨ua, uc, rfl⟩ := own_slice h.row
  have HX := Lib.hid h
  have HG := Lib.hid hG
  obtain ⟨N, hN⟩ : ∃ N, N = T.length := ⟨_, rfl⟩
  have HN := Lib.hid hN
  have n2 : (N : Int) ≤ 200000 := by have := hG.sz; simp at this; omega
  have b1 : 0 ≤ b := hG.b0
  have b2 : b + N ≤ 1099511627776 := by have := hG.top; simp at this; unfold maxI at this; rw [hN]; exact this
  have c0 : ∀ W, Below w.heap.size w W → W.cell? ⟨p, 0, none⟩ = some (.int .i64 b) := fun W k => blk_cell (blk_below HX.out.blk k (blk_lt HX.out.blk)) 0
  have c1 : ∀ W, Below w.heap.size w W → W.cell? ⟨p, 1, none⟩ = some (.int .i64 bt) := fun W k => blk_cell (blk_below HX.out.blk k (blk_lt HX.out.blk)) 1
  have c2 : ∀ W, Below w.heap.size w W → W.cell? ⟨p, 2, none⟩ = some (.slice ua N uc) := fun W k => by rw [HN.out]; exact blk_cell (blk_below HX.out.blk k (blk_lt HX.out.blk)) 2
  have c3 : ∀ W, Below w.heap.size w W → W.cell? ⟨p, 3, none⟩ = some (.int .i64 com) := fun W k => blk_cell (blk_below HX.out.blk k (blk_lt HX.out.blk)) 3
  have c4 : ∀ W, Below w.heap.size w W → W.cell? ⟨p, 4, none⟩ = some (.int .i64 app) := fun W k => blk_cell (blk_below HX.out.blk k (blk_lt HX.out.blk)) 4
  have pf : ∀ i W, Below w.heap.size w W → W.frozen? ⟨p, i, none⟩ = false := fun i W k => blk_frozen (blk_below HX.out.blk k (blk_lt HX.out.blk)) i
  have hbl := Below.refl w.heap.size w
  have hv1 : IntKind.i64.wrap (b + N) = b + N := IntWalk.i64_in _ (by omega)
  clear h hG hN
  have HI := Lib.hid hi
  have HS := Lib.hid hsz
  have HNIL := Lib.hid hnl
  have hr := rights_at a l c w hi.e (by unfold maxLen; omega) (fun j hj => (hi.d j hj).2.1)
  obtain ⟨n, hn⟩ : ∃ n, n = l.length := ⟨_, rfl⟩
  have HNL := Lib.hid hn
  rw [← hn] at hr ⊢
  have HR := Lib.hid hr
  clear hi hsz hnl hr hn c0 c1 c2 c3 c4 pf
  go_enter Try.func26, Try.ntmps26
  go_wp2_with fail
  refine HR.out.mono ?_
  rintro e w1 ⟨⟨bo, rfl, hbo⟩, hb1⟩
  cases bo with
  | false =>
    go_wp2_with fail
    go_ret
    exact ⟨⟨1, rfl⟩, .same HX.out HG.out hb1⟩
  | true =>
  have HNO := Lib.hid (show ∀ i, i < l.length → oddE (atE l i) = false from fun i hi => hbo rfl i (by rw [HNL.out]; exact hi))
  clear hbo
  have hla := rlast_at (HX.out.below hb1) HG.out
  go_wp2_with fail
  refine hla.mono ?_
  rintro e w2 ⟨rfl, hb2⟩
  replace hb1 := bl_trans hb1 hb2
  clear hb2 hla
  have hlt := rlastterm_at (HX.out.below hb1) HG.out
  obtain ⟨lt, hlte⟩ : ∃ lt, lt = (termR (hd b bt :: T) (b + T.length)).1 := ⟨_, rfl⟩
  rw [← hlte] at hlt
  clear hlte
  go_wp2_with fail
  refine hlt.mono ?_
  rintro e w3 ⟨rfl, hb2⟩
  replace hb1 := bl_trans hb1 hb2
  clear hb2 hlt
  have hfo := rfollow_at a l c (b + T.length) lt w3 (HI.out.keep hb1).e (by have := HS.out; unfold maxLen; omega) HNO.out
  rw [← HNL.out] at hfo
  go_wp2_with fail
  refine hfo.mono ?_
  rintro e w4 ⟨rfl, hb2⟩
  replace hb1 := bl_trans hb1 hb2
  clear hb2 hfo
  cases hfw : followE l (b + T.length) lt with
  | false =>
    go_wp2_with fail
    go_ret
    exact ⟨⟨7, rfl⟩, .same HX.out HG.out hb1⟩
  | true =>
    have HFW := Lib.hid hfw
    have HX4 := Lib.hid (HX.out.below hb1)
    have HB4 := Lib.hid hb1
    have k2 : w4.cell? ⟨p, 2, none⟩ = some (.slice ua N uc) := by rw [HN.out]; exact blk_cell HX4.out.blk 2
    clear hb1 hfw
    go_wp2_with (at_builtin; go_loud (refine wpList_clone rfl _ _ 33 rfl B 45 Try.underlying33 Try.infoEntry rfl (by decide) (by rw [HN.out]; rfl) HX4.out.row rfl (ys := entsC l) (by rw [entsC_len, HNL.out]) (fun j u hj => ents_at (HI.out.keep HB4.out).e j u hj) HNIL.out entsC_one (by have h1 := HS.out; have h2 := HNL.out; unfold maxLen; omega) (by have h1 := HS.out; have h2 := HNL.out; omega) (by have h1 := HX4.out.hB; have h2 := blk_lt HX4.out.blk; omega) ?_); intro v6 w6 hown1 hgrow hat1; obtain ⟨a6, c6, rfl⟩ := own_slice hown1; have hb6 := (hgrow.block p (blk_lt HX4.out.blk) (Ne.symm (row_wb HX4.out.row HX4.out.blk (by decide)))).trans HX4.out.blk; have hfr := blk_frozen hb6; have d2 := blk_cell hb6 2; simp only [List.getElem?_toArray, List.getElem?_cons_zero, List.getElem?_cons_succ] at d2)
    go_ret
    obtain ⟨hX, hC⟩ := HX4.out.more (T' := T ++ l) (u' := .slice a6 (T.length + n) c6) (w2 := w6) (by
      rw [List.length_append, ← HNL.out, show entsC (T ++ l) = entsC T ++ entsC l by simp [entsC]]
      exact hown1) hgrow (.inr rfl) (.inr hat1)
    refine ⟨⟨0, rfl⟩, b, bt, T ++ l, com, app, _, hX, ?_, (Chg.of_below HB4.out).trans hC, ?_, by rw [List.length_append, HNL.out]; exact Nat.le_refl _⟩
    · have hg := HG.out
      have hgh := good_hd hg
      have hss := HS.out
      have hgc := hg.cut (m := (hd b bt :: T).length) hg.ne (Nat.le_refl _) (by show com ≤ b + _; simp; omega) (l := l) (by simp; omega) (fun i hi => by
        have ho := odd_no (HNO.out i hi)
        have hf := follow_at HFW.out i hi
        show (atE l i).ix = b + _ + _ ∧ _
        refine ⟨by rw [List.length_cons]; omega, by omega, by omega, by omega⟩)
      rw [take_all] at hgc
      exact hgc
    · rcases hat1 with h5 | ⟨g, h5, h6⟩
      · exact .inr (.inl h5)
      · exact .inr (.inr ⟨g, h5, Nat.le_trans HB4.out.size h6⟩)
end
end Go.Proofs.Yteflgempjecnpaa
