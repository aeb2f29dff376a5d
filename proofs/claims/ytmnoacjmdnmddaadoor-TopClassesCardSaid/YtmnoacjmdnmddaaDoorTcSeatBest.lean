/- seat.Best. Conditions: none. -/
import Derived.Maps.AppendAt
import Derived.Test.YtmnoacjmdnmddaaDoorTcSeatRBest
namespace Go.Proofs.YtmnoacjmdnmddaaDoor
open Go.RowKit

/-- Two slices that lie in rows of their own. -/
def Apart (u v : Value) : Prop := u.ownBlock = none ∨ v.ownBlock = none ∨ u.ownBlock ≠ v.ownBlock
theorem Apart.symm {u v : Value} (h : Apart u v) : Apart v u := by
  rcases h with h | h | h
  · exact .inr (.inl h)
  · exact .inl h
  · exact .inr (.inr (Ne.symm h))
theorem Apart.row {u v : Value} (h : Apart u v) : u.ownBlock = none ∨ u.ownBlock ≠ v.ownBlock := by
  rcases h with h | h | h
  · exact .inl h
  · by_cases e : u.ownBlock = none
    · exact .inl e
    · exact .inr (by rw [h]; exact e)
  · exact .inr h
theorem Apart.grown {W : World} {b : Nat} {e : TypeId} {s n : Nat} {u v v' : Value} {xs : List Value} (h : Apart u v) (hu : W.ownsRow b e s u n xs) (hv : v'.ownBlock = v.ownBlock ∨ ∃ g, v'.ownBlock = some g ∧ W.heap.size ≤ g) : Apart u v' := by
  rcases hv with hv | ⟨g, hv, hg⟩
  · unfold Apart at *; rw [hv]; exact h
  · cases hub : u.ownBlock with
    | none => exact .inl hub
    | some k =>
      have := (hu.lt k hub).2
      refine .inr (.inr ?_)
      rw [hub, hv]
      intro e
      injection e with e
      omega
theorem apart_nil (v : Value) : Apart (.slice none 0 0) v := .inl rfl

/-- 'out = append(out, x)', and where the new row lies. -/
theorem wpList_app2 {P : Program} {W : World} {ops : Array Oper} {rest : List Oper} {o : Oper} {a : Act} {Q : Exit → Act → World → Prop} (hgd : o.guard = none) (s x : Operand) (T : TypeId)
    (ho : o.op = .call { callee := .builtin .append, args := #[s, x], argTypes := #[T, T] })
    (base : Nat) (E : TypeId) {z : Value} {size bytes : Nat} (hT : P.underlying T = some (.slice E)) (hinfo : (P.info? E).map (fun i => (i.zero, i.size, i.bytes)) = some (some z, size, bytes))
    (hzs : z.cells.size = size) (hsz : 0 < size) {v : Value} (hs : a.eval s = v) {n : Nat} {xs : List Value} (hown : W.ownsRow base E size v n xs)
    (hx : a.eval x = .slice (some ⟨W.heap.size, 0, none⟩) 1 1) (cs : List Value) {tb : TypeId} {fz : Nat × Nat} (hcs : cs.length = size) (h1 : ∀ u ∈ cs, u.oneCell' = true)
    (hm : n + 1 ≤ maxLen) (hb : (n + 1) * bytes ≤ 140737488355328) (hbase : base ≤ W.heap.size)
    (h : ∀ v' w', w'.ownsRow base E size v' (n + 1) (xs ++ cs) → W.grownBy w' v.ownBlock → (v'.ownBlock = v.ownBlock ∨ ∃ g, v'.ownBlock = some g ∧ W.heap.size ≤ g) → wpList P ops Q rest (a.put o.dst v') w') :
    wpList P ops Q (o :: rest) a (W.alloc (.cells cs.toArray tb fz)) := by
  obtain ⟨i0, hi, hz0, hz1, hz2⟩ := info_parts hinfo
  have hcell : ∀ j u, cs[j]? = some u → (W.alloc (.cells cs.toArray tb fz)).cell? ((⟨W.heap.size, 0, none⟩ : Addr).add j) = some u := by
    intro j u hj
    have hadd : (⟨W.heap.size, 0, none⟩ : Addr).add j = ⟨W.heap.size, j, none⟩ := by unfold Addr.add; split <;> simp_all
    rw [hadd, cell_of_row _ W.heap.size j cs.toArray tb fz (heap_alloc_new W _)]
    simpa using hj
  exact wpList_append_own_at _ hgd s x T ho base E i0 z size bytes hT hi hz0 hz1 hz2 hzs hsz v n xs hs (hown.alloc _) ⟨W.heap.size, 0, none⟩ 1 1 cs hx (by rw [hcs]; simp) hcell h1 hm hb (by simp; omega)
    (fun v' w' h2 h3 _ h5 => h v' w' h2 (grown_trans (World.grownBy_alloc W _ _) h3) (h5.imp id fun h6 => ⟨_, h6, by simp⟩))

theorem bl_set' {B : Nat} {W w1 : World} (h : Below B W w1) {b i : Nat} (hp : B ≤ b) (u : Value) : Below B W (w1.setCell ⟨b, i, none⟩ u) := h.setCell hp u
theorem Tryd.infoBool : (Tryd.prog.info? 4).map (fun i => (i.zero, i.size, i.bytes)) = some (some (.bool false), 1, 1) := by kernel_rfl

/-- Which seats are taken, of N, by some numbers. -/
def usedA (N : Nat) (tk : List Int) : List Value := (List.range N).map fun (j : Nat) => .bool (decide ((j : Int) ∈ tk))
theorem usedA_nil (N : Nat) : (madeCells (Value.bool false).cells (N * 1)).toList = usedA N [] := by
  unfold usedA madeCells
  apply List.ext_getElem
  · simp
  · intro i h1 h2
    simp [Value.cells, Nat.mod_one]
theorem usedA_get {N : Nat} {tk : List Int} {j : Nat} (h : j < N) : (usedA N tk)[j]? = some (.bool (decide ((j : Int) ∈ tk))) := by
  simp [usedA, List.getElem?_map, List.getElem?_range h]
theorem usedA_out {N : Nat} {tk : List Int} {x : Int} (h : ¬ (0 ≤ x ∧ x < N)) : usedA N (tk ++ [x]) = usedA N tk := by
  unfold usedA
  apply List.map_congr_left
  intro j hj
  have hj' := List.mem_range.1 hj
  have : (j : Int) ≠ x := by omega
  simp [this]
theorem usedA_in {N : Nat} {tk : List Int} {x : Nat} (h : x < N) : usedA N (tk ++ [(x : Int)]) = (usedA N tk).set x (.bool true) := by
  apply List.ext_getElem?
  intro j
  rw [List.getElem?_set]
  by_cases hj : j < N
  · rw [usedA_get hj, usedA_get hj]
    by_cases e : x = j
    · subst e; simp [usedA, h]
    · have : (j : Int) ≠ x := by omega
      simp [e, this]
  · have h1 : ∀ l, (usedA N l)[j]? = none := fun l => List.getElem?_eq_none (by simp [usedA]; omega)
    rw [h1, h1]
    split
    · rename_i e; omega
    · rfl

set_option maxRecDepth 100000 in
set_option maxHeartbeats 8000000 in
theorem best_any (rows : Int) (a : Option Addr) (gs : List Int) (cap : Nat) (ta : Option Addr) (tk : List Int) (tc : Nat) (m : Int) (w : World) (hg : GsAt w a gs) (hlm : gs.length ≤ maxLen) (ht : GsAt w ta tk) (htm : tk.length ≤ maxLen) :
    Calls Tryd.prog 26 #[.agg #[.int .i64 rows, .slice a gs.length cap], .slice ta tk.length tc, .int .i64 m] w (Tells2 w (bestL rows gs tk m)) := by
  have htm' : (tk.length : Int) ≤ 9223372036854775807 := by unfold maxLen at htm; omega
  have HT := Lib.hid (ht.keep (bl_alloc (Below.refl w.heap.size w) (.cells #[.int .i64 rows, .slice a gs.length cap] 24)))
  clear ht
  have hb1 := bl_alloc (Below.refl w.heap.size w) (.cells #[.int .i64 rows, .slice a gs.length cap] 24)
  have HB := Lib.hid hb1
  have HG := Lib.hid (hg.keep hb1)
  obtain ⟨w0, hw0⟩ : ∃ w0, w0 = w.alloc (.cells #[.int .i64 rows, .slice a gs.length cap] 24) := ⟨_, rfl⟩
  have hblk : w0.heap[w.heap.size]? = some (.cells #[.int .i64 rows, .slice a gs.length cap] 24) := by rw [hw0]; exact blk_new w _ rfl
  have q0 : ∀ w', Below w0.heap.size w0 w' → w'.cell? ⟨w.heap.size, 0, none⟩ = some (.int .i64 rows) := fun w' h => blk_cell (blk_below hblk h (blk_lt hblk)) 0
  have q1 : ∀ w', Below w0.heap.size w0 w' → w'.cell? ⟨w.heap.size, 1, none⟩ = some (.slice a gs.length cap) := fun w' h => blk_cell (blk_below hblk h (blk_lt hblk)) 1
  rw [← hw0] at HB HG
  have HW0 := Lib.hid hw0
  clear hg hb1 hblk hw0
  rw [← HW0.out] at HT
  have hb := Below.refl w0.heap.size w0
  have HC := Lib.hid (fun (W : World) (h : Below w0.heap.size w0 W) => count_any rows a gs cap W (HG.out.keep h) hlm)
  have hcr := countL_rng rows gs
  by_cases hbad : m < 1 ∨ countL rows gs < m
  · have HN := Lib.hid (bestL_bad (tk := tk) hbad)
    obtain ⟨F, hF⟩ : ∃ F, F = bestL rows gs tk m := ⟨_, rfl⟩
    rw [← hF] at HN ⊢
    obtain ⟨N, hN⟩ : ∃ N, N = countL rows gs := ⟨_, rfl⟩
    rw [← hN] at HC hbad hcr
    clear hF hN
    by_cases h1 : m < 1
    · clear hbad
      go_enter Tryd.func26, Tryd.ntmps26
      go_wp2_with fail
      rw [← HW0.out]
      go_ret2
      exact tells2_nil HN.out HB.out
    · have h2 : N < m := by omega
      clear hbad
      go_enter Tryd.func26, Tryd.ntmps26
      go_wp2_with fail
      rw [← HW0.out]
      refine (HC.out _ hb).mono ?_; rintro e w1 ⟨rfl, hb2⟩
      replace hb := bl_trans hb hb2; clear hb2
      go_wp2_with fail
      go_ret2
      exact tells2_nil HN.out (bl_trans HB.out hb)
  have hR : RightL rows gs := by
    by_cases h : RightL rows gs
    · exact h
    · rw [countL_no h] at hbad; omega
  have HNF := Lib.hid (fun hf => bestL_full (tk := tk) hbad hf)
  have HNW := Lib.hid (fun (s : Nat) hw => bestL_win (tk := tk) (s := s) hbad hw)
  have HNA := Lib.hid (fun hf hw => bestL_any (tk := tk) hbad hf hw)
  have HHY := Lib.hid (fun (x : Int) (h : hasL rows gs x) (W : World) (hw : Below w0.heap.size w0 W) => has_y rows a gs cap x W (HG.out.keep hw) hlm h)
  have HHN := Lib.hid (fun (x : Int) (h : ¬ hasL rows gs x) (W : World) (hw : Below w0.heap.size w0 W) => has_n rows a gs cap x W (HG.out.keep hw) hlm h)
  have HSD := Lib.hid (fun (x : Int) (h0 : 0 ≤ x) (h9 : x ≤ 600) (W : World) (hw : Below w0.heap.size w0 W) => sides_any rows a gs cap x W (HG.out.keep hw) hR h0 h9 _ (grpK_at hR (mod_rng (n := x) hR.tot.1).1 (mod_rng (n := x) hR.tot.1).2))
  have HHL := Lib.hid (fun (n : Int) => (show hasL rows gs n ↔ 0 ≤ n ∧ n < countL rows gs from Iff.rfl))
  obtain ⟨M, rfl⟩ : ∃ M : Nat, m = M := ⟨m.toNat, by omega⟩
  obtain ⟨N, hN⟩ : ∃ N : Nat, (N : Int) = countL rows gs := ⟨(countL rows gs).toNat, by omega⟩
  have hNt : (countL rows gs).toNat = N := by omega
  rw [hNt] at HNF HNW HNA
  rw [← hN] at HC hbad hcr HHL
  rw [Int.toNat_natCast] at HNW HNA
  obtain ⟨F, hF⟩ : ∃ F, F = bestL rows gs tk M := ⟨_, rfl⟩
  rw [← hF] at HNF HNW HNA ⊢
  have hM1 : 1 ≤ M := by omega
  have hMN : M ≤ N := by omega
  have hN6 : N ≤ 600 := by omega
  have g1 : ¬ (M : Int) < 1 := by omega
  have g2 : ¬ (N : Int) < M := by omega
  have g3 : decide (N < M) = false := by simpa using hMN
  have HR := Lib.hid hR
  obtain ⟨i0, hi, hz0, hz1, hz2⟩ := info_parts Tryd.infoBool
  clear hbad hF hN hNt hR
  go_enter Tryd.func26, Tryd.ntmps26
  go_wp2_with fail
  rw [← HW0.out]
  refine (HC.out _ hb).mono ?_; rintro e w1 ⟨rfl, hb2⟩
  replace hb := bl_trans hb hb2; clear hb2
  go_wp2_with fail
  refine (HC.out _ hb).mono ?_; rintro e w2 ⟨rfl, hb2⟩
  replace hb := bl_trans hb hb2; clear hb2
  go_wp2_with (refine wpList_make_full _ rfl _ _ 86 rfl w0.heap.size 4 i0 (.bool false) 1 Tryd.underlying86 hi hz0 hz1 .i64 .i64 N N N rfl rfl rfl rfl (by rw [hz2]; omega) (by unfold maxLen; omega) hb.size ?_; intro w3 hown hgrow)
  rw [usedA_nil] at hown
  have hub := hb.size
  replace hb := bl_trans' hb ((Below.refl w0.heap.size w2).grown hgrow hb.size (by intro k hk; cases hk)) (Nat.le_refl _)
  clear hgrow
  obtain ⟨ub, hue⟩ : ∃ ub, ub = w2.heap.size := ⟨_, rfl⟩
  rw [← hue] at hown hub ⊢
  clear hue
  go_loopg [29] tk.length (fun g i wr => Below w0.heap.size w0 wr ∧ ∃ k : Nat, k ≤ tk.length ∧ g = tk.length - k ∧ i = .int .i64 k ∧ wr.ownsRow w0.heap.size 4 1 (.slice (some ⟨ub, 0, none⟩) N N) N (usedA N (tk.take k)))
  case atStart => exact ⟨hb, 0, by omega, rfl, rfl, hown⟩
  case round =>
    clear hb hown
    obtain ⟨hb, k, k0, hgk, rfl, hown⟩ := hrel
    have HGK := Lib.hid hgk
    have HO := Lib.hid hown
    clear hgk hown
    by_cases hk : k < tk.length
    · obtain ⟨b1, o1, h1, c1⟩ := HT.out.keep hb k hk
      have HTS := Lib.hid (show tk.take (k + 1) = tk.take k ++ [tk.getD k 0] by rw [List.take_succ_eq_append_getElem hk, List.getD_eq_getElem?_getD, List.getElem?_eq_getElem hk]; rfl)
      obtain ⟨x, hx⟩ : ∃ x, x = tk.getD k 0 := ⟨_, rfl⟩
      rw [← hx] at c1 HTS
      clear hx
      subst h1
      by_cases hin : hasL rows gs x
      · obtain ⟨X, rfl⟩ : ∃ X : Nat, x = X := ⟨x.toNat, by have := hin.1; omega⟩
        have hXN : X < N := by have := ((HHL.out X).1 hin).2; omega
        have HH := Lib.hid (HHY.out X hin _ hb)
        have HUI := Lib.hid (usedA_in (tk := tk.take k) hXN)
        clear hin
        go_wp2_with fail
        refine HH.out.mono ?_; rintro e w4 ⟨rfl, hb2⟩
        have hown := own_keep HO.out hb2
        replace hb := bl_trans hb hb2
        have hcell : w4.cell? ⟨ub, X, none⟩ = some (.bool (decide ((X : Int) ∈ tk.take k))) := by rw [hown.cellAt X (by omega)]; exact usedA_get hXN
        have hfz : w4.frozen? ⟨ub, X, none⟩ = false := hown.frozenAt X
        have HO4 := Lib.hid (hown.stored X (.bool true))
        have hX1 : (X : Int) < N := by omega
        have hX0 : (0 : Int) ≤ (X : Int) := by omega
        clear hown hb2
        go_wp2_with fail
        go_roundg (tk.length - (k + 1))
        case measure => have := HGK.out; omega
        case rel => exact ⟨bl_set' hb hub _, k + 1, by omega, rfl, by go_num, by rw [HTS.out, HUI.out]; exact HO4.out.1⟩
      · have HH := Lib.hid (HHN.out x hin _ hb)
        have HUO := Lib.hid (usedA_out (N := N) (tk := tk.take k) (x := x) (fun h => hin ((HHL.out x).2 h)))
        clear hin
        go_wp2_with fail
        refine HH.out.mono ?_; rintro e w4 ⟨rfl, hb2⟩
        have HO4 := Lib.hid (own_keep HO.out hb2)
        replace hb := bl_trans hb hb2
        clear hb2
        go_wp2_with fail
        go_roundg (tk.length - (k + 1))
        case measure => have := HGK.out; omega
        case rel => exact ⟨hb, k + 1, by omega, rfl, by go_num, by rw [HTS.out, HUO.out]; exact HO4.out⟩
    · obtain rfl : k = tk.length := by omega
      have hown := HO.out
      rw [List.take_length] at hown
      have HO2 := Lib.hid hown
      clear hown HO
      go_wp2_with fail
      refine (HC.out _ hb).mono ?_; rintro e w5 ⟨rfl, hb2⟩
      have hu5 := own_keep HO2.out hb2
      replace hb := bl_trans hb hb2
      clear hb2
      have hcell : ∀ W, Below w5.heap.size w5 W → ∀ j : Nat, j < N → W.cell? ⟨ub, j, none⟩ = some (.bool (decide ((j : Int) ∈ tk))) := by
        intro W hW j hj
        rw [(own_keep hu5 hW).cellAt j (by omega)]
        exact usedA_get hj
      have HU := Lib.hid hcell
      have HB5 := Lib.hid hb
      have q0' := fun w' (h : Below w5.heap.size w5 w') => q0 w' (bl_trans HB5.out h)
      have q1' := fun w' (h : Below w5.heap.size w5 w') => q1 w' (bl_trans HB5.out h)
      clear hcell hu5 hb q0 q1
      go_wp2_with fail
      go_loopg [11, 12, 42] N (fun g v1 v2 i wr => Below w5.heap.size w5 wr ∧ ∃ k : Nat, k ≤ N ∧ g = N - k ∧ i = .int .i64 k ∧ wr.ownsRow w5.heap.size 3 1 v1 (freeTo tk k).length ((freeTo tk k).map (.int .i64)) ∧ wr.ownsRow w5.heap.size 3 1 v2 (runTo gs tk k).length ((runTo gs tk k).map (.int .i64)) ∧ Apart v2 v1 ∧ ∀ j, j ≤ k → (runTo gs tk j).length < M)
      case atStart => exact ⟨Below.refl _ _, 0, by omega, by omega, rfl, World.ownsRow_nil _ _ _ _, World.ownsRow_nil _ _ _ _, apart_nil _, fun j hj => by rw [show j = 0 by omega]; exact hM1⟩
      case round =>
        obtain ⟨hb5, k, k0, hgk, rfl, ho1, ho2, hap, hall⟩ := hrel
        have HGK2 := Lib.hid hgk
        have HALL := Lib.hid hall
        have HO1 := Lib.hid ho1
        have HO2 := Lib.hid ho2
        clear hgk hall ho1 ho2
        by_cases hk : k < N
        · have HFS := Lib.hid (freeTo_succ tk k)
          have HRS := Lib.hid (runTo_succ gs tk k)
          have hfl := freeTo_len tk k
          have hrl := HALL.out k (Nat.le_refl _)
          have HS := Lib.hid (fun (W : World) (h : Below w5.heap.size w5 W) => HSD.out (k : Int) (by omega) (by omega) W (bl_trans HB5.out h))
          have q9 : ∀ W, Below w5.heap.size w5 W → W.cell? ⟨ub, k, none⟩ = some (.bool (decide ((k : Int) ∈ tk))) := fun W h => HU.out W h k hk
          have hga := grpK_at HR.out (mod_rng (n := (k : Int)) HR.out.tot.1).1 (mod_rng (n := (k : Int)) HR.out.tot.1).2
          have hge := hga.2.1
          have HLE := Lib.hid (show lefty gs ((k : Int) % total gs) (grpK gs ((k : Int) % total gs)) ↔ ¬ ((k : Int) % total gs - sumK gs (grpK gs ((k : Int) % total gs)) = 0) from by unfold lefty; omega)
          obtain ⟨D, hD⟩ : ∃ D, D = (k : Int) % total gs - sumK gs (grpK gs ((k : Int) % total gs)) := ⟨_, rfl⟩
          obtain ⟨E, hE⟩ : ∃ E, E = sumK gs (grpK gs ((k : Int) % total gs) + 1) - 1 - (k : Int) % total gs := ⟨_, rfl⟩
          rw [← hD] at HLE HS
          rw [← hE] at HS
          have hk1 : (k : Int) < N := by omega
          have hk2 : (0 : Int) ≤ (k : Int) := by omega
          clear hga hge hD hE
          by_cases hin : (k : Int) ∈ tk
          · rw [decide_eq_true hin] at q9
            rw [if_pos hin, List.append_nil] at HFS
            rw [if_pos hin] at HRS
            clear hin
            go_wp2_with fail
            refine (HS.out _ hb5).mono ?_; rintro e w6 ⟨rfl, hb2⟩
            have HO1' := Lib.hid (own_keep HO1.out hb2)
            replace hb5 := bl_trans hb5 hb2
            clear hb2
            by_cases hd0 : D = 0
            · have e0 : (D == 0) = true := by simp [hd0]
              go_wp2_with fail
              go_roundg (N - (k + 1))
              case measure => have := HGK2.out; omega
              case rel =>
                refine ⟨hb5, k + 1, by omega, rfl, by go_num, by rw [HFS.out]; exact HO1'.out, by rw [HRS.out]; exact World.ownsRow_nil _ _ _ _, apart_nil _, fun j hj => ?_⟩
                by_cases hjk : j ≤ k
                · exact HALL.out j hjk
                · obtain rfl : j = k + 1 := by omega
                  rw [HRS.out]; exact hM1
            · have e0 : (D == 0) = false := by simp [hd0]
              go_wp2_with fail
              go_roundg (N - (k + 1))
              case measure => have := HGK2.out; omega
              case rel =>
                refine ⟨hb5, k + 1, by omega, rfl, by go_num, by rw [HFS.out]; exact HO1'.out, by rw [HRS.out]; exact World.ownsRow_nil _ _ _ _, apart_nil _, fun j hj => ?_⟩
                by_cases hjk : j ≤ k
                · exact HALL.out j hjk
                · obtain rfl : j = k + 1 := by omega
                  rw [HRS.out]; exact hM1
          · rw [decide_eq_false hin] at q9
            rw [if_neg hin] at HFS HRS
            clear hin
            have hprep : ∃ R : List Int, R.length < M ∧ runTo gs tk (k + 1) = R ++ [(k : Int)] ∧ ((D = 0 ∧ R = []) ∨ (¬ D = 0 ∧ R = runTo gs tk k)) := by
              by_cases hd0 : D = 0
              · exact ⟨[], hM1, by rw [HRS.out, if_neg (fun h => HLE.out.1 h hd0)], .inl ⟨hd0, rfl⟩⟩
              · exact ⟨runTo gs tk k, hrl, by rw [HRS.out, if_pos (HLE.out.2 hd0)], .inr ⟨hd0, rfl⟩⟩
            obtain ⟨R, hRM, hRS, hRc⟩ := hprep
            have HRS2 := Lib.hid hRS
            clear hRS
            go_wp2_with fail
            refine (HS.out _ hb5).mono ?_; rintro e w6 ⟨rfl, hb2⟩
            have HO1' := Lib.hid (own_keep HO1.out hb2)
            have HO2' := Lib.hid (own_keep HO2.out hb2)
            replace hb5 := bl_trans hb5 hb2
            clear hb2
            rcases hRc with ⟨hd0, hRe⟩ | ⟨hd0, hRe⟩
            · have e0 : (D == 0) = true := by simp [hd0]
              have HOR := Lib.hid (show w6.ownsRow w5.heap.size 3 1 (.slice none 0 0) R.length (R.map (.int .i64)) by rw [hRe]; exact World.ownsRow_nil _ _ _ _)
              have HAP := Lib.hid (apart_nil u11)
              clear hRe hd0
              have hRl : (R ++ [(k : Int)]).length = R.length + 1 := by simp
              have HRL := Lib.hid hRl
              clear hRl
              by_cases hm : R.length + 1 = M
              · have HM := Lib.hid hm
                have e3 : (((R.length : Int) + 1) == (M : Int)) = true := by rw [beq_iff_eq]; omega
                have e4 : ((R.length + 1) == M) = true := by rw [beq_iff_eq]; exact hm
                have HFst := Lib.hid (by
                  obtain ⟨h1, h2⟩ := runTo_first (N := N) HR.out hM1 (by omega) HALL.out (by rw [HRS2.out, HRL.out]; exact hm)
                  exact And.intro (HNW.out _ h1) h2)
                clear hm
                go_wp2_with (first
                  | ((with_reducible show wpList _ _ _ (⟨some 66, _, _, _, _, _⟩ :: _) _ _); refine wpList_app2 rfl _ _ 22 rfl w5.heap.size 3 Tryd.underlying22 Tryd.infoInt rfl (by decide) rfl HO1'.out rfl [.int .i64 (k : Int)] rfl (by simp [Value.oneCell']) (by unfold maxLen; omega) (by omega) hb5.size ?_; intro v1 w7 hof hg1 hv1; have HOF := Lib.hid hof; have HOR1 := Lib.hid (HOR.out.kept hg1 HAP.out.row); have HAP1 := Lib.hid (HAP.out.grown HOR.out hv1); replace hb5 := bl_trans' hb5 (own_below HO1'.out hg1 hb5.size) (Nat.le_refl _); clear hof hg1 hv1)
                  | ((with_reducible show wpList _ _ _ (⟨some 70, _, _, _, _, _⟩ :: _) _ _); refine wpList_app2 rfl _ _ 22 rfl w5.heap.size 3 Tryd.underlying22 Tryd.infoInt rfl (by decide) rfl HOR1.out rfl [.int .i64 (k : Int)] rfl (by simp [Value.oneCell']) (by unfold maxLen; omega) (by omega) hb5.size ?_; intro v2 w8 hor hg2 hv2; have HOF2 := Lib.hid (HOF.out.kept hg2 HAP1.out.symm.row); have HAP2 := Lib.hid (HAP1.out.symm.grown HOF.out hv2).symm; replace hb5 := bl_trans' hb5 (own_below HOR1.out hg2 hb5.size) (Nat.le_refl _); obtain ⟨ad2, c2, rfl, hgr, hcr2, hcm2⟩ := gs_own2 (xs := R ++ [(k : Int)]) (by rw [List.map_append]; exact hor); rw [HRL.out] at hor HAP2; have HOR2 := Lib.hid hor; have HGR := Lib.hid hgr; clear hor hg2 hv2 hgr hcr2 hcm2))
                go_ret2
                refine ⟨ad2, c2, ?_, ?_, bl_trans HB.out (bl_trans HB5.out hb5), fun x hx => Nat.le_trans (bl_trans HB.out HB5.out).size (HOR2.out.lt x.block (by rw [hx]; rfl)).1⟩
                · rw [HFst.out.1]
                  refine ret_sl ?_
                  rw [seatsOf_len]; exact HM.out
                · rw [HFst.out.1, ← HFst.out.2, HRS2.out]
                  exact HGR.out
              · have e3 : (((R.length : Int) + 1) == (M : Int)) = false := by rw [beq_eq_false_iff_ne]; omega
                have e4 : ((R.length + 1) == M) = false := by rw [beq_eq_false_iff_ne]; exact hm
                have HM := Lib.hid hm
                clear hm
                go_wp2_with (first
                  | ((with_reducible show wpList _ _ _ (⟨some 66, _, _, _, _, _⟩ :: _) _ _); refine wpList_app2 rfl _ _ 22 rfl w5.heap.size 3 Tryd.underlying22 Tryd.infoInt rfl (by decide) rfl HO1'.out rfl [.int .i64 (k : Int)] rfl (by simp [Value.oneCell']) (by unfold maxLen; omega) (by omega) hb5.size ?_; intro v1 w7 hof hg1 hv1; have HOF := Lib.hid hof; have HOR1 := Lib.hid (HOR.out.kept hg1 HAP.out.row); have HAP1 := Lib.hid (HAP.out.grown HOR.out hv1); replace hb5 := bl_trans' hb5 (own_below HO1'.out hg1 hb5.size) (Nat.le_refl _); clear hof hg1 hv1)
                  | ((with_reducible show wpList _ _ _ (⟨some 70, _, _, _, _, _⟩ :: _) _ _); refine wpList_app2 rfl _ _ 22 rfl w5.heap.size 3 Tryd.underlying22 Tryd.infoInt rfl (by decide) rfl HOR1.out rfl [.int .i64 (k : Int)] rfl (by simp [Value.oneCell']) (by unfold maxLen; omega) (by omega) hb5.size ?_; intro v2 w8 hor hg2 hv2; have HOF2 := Lib.hid (HOF.out.kept hg2 HAP1.out.symm.row); have HAP2 := Lib.hid (HAP1.out.symm.grown HOF.out hv2).symm; replace hb5 := bl_trans' hb5 (own_below HOR1.out hg2 hb5.size) (Nat.le_refl _); obtain ⟨ad2, c2, rfl, hgr, hcr2, hcm2⟩ := gs_own2 (xs := R ++ [(k : Int)]) (by rw [List.map_append]; exact hor); rw [HRL.out] at hor HAP2; have HOR2 := Lib.hid hor; have HGR := Lib.hid hgr; clear hor hg2 hv2 hgr hcr2 hcm2))
                go_roundg (N - (k + 1))
                case measure => have := HGK2.out; omega
                case rel =>
                  refine ⟨hb5, k + 1, by omega, rfl, by go_num, by rw [HFS.out, List.map_append, List.length_append]; exact HOF2.out, by rw [HRS2.out, HRL.out, List.map_append]; exact HOR2.out, HAP2.out, fun j hj => ?_⟩
                  by_cases hjk : j ≤ k
                  · exact HALL.out j hjk
                  · obtain rfl : j = k + 1 := by omega
                    have := HM.out
                    rw [HRS2.out, HRL.out]; omega
            · have e0 : (D == 0) = false := by simp [hd0]
              have HOR := Lib.hid (show w6.ownsRow w5.heap.size 3 1 u12 R.length (R.map (.int .i64)) by rw [hRe]; exact HO2'.out)
              have HAP := Lib.hid hap
              clear hRe hd0
              have hRl : (R ++ [(k : Int)]).length = R.length + 1 := by simp
              have HRL := Lib.hid hRl
              clear hRl
              by_cases hm : R.length + 1 = M
              · have HM := Lib.hid hm
                have e3 : (((R.length : Int) + 1) == (M : Int)) = true := by rw [beq_iff_eq]; omega
                have e4 : ((R.length + 1) == M) = true := by rw [beq_iff_eq]; exact hm
                have HFst := Lib.hid (by
                  obtain ⟨h1, h2⟩ := runTo_first (N := N) HR.out hM1 (by omega) HALL.out (by rw [HRS2.out, HRL.out]; exact hm)
                  exact And.intro (HNW.out _ h1) h2)
                clear hm
                go_wp2_with (first
                  | ((with_reducible show wpList _ _ _ (⟨some 66, _, _, _, _, _⟩ :: _) _ _); refine wpList_app2 rfl _ _ 22 rfl w5.heap.size 3 Tryd.underlying22 Tryd.infoInt rfl (by decide) rfl HO1'.out rfl [.int .i64 (k : Int)] rfl (by simp [Value.oneCell']) (by unfold maxLen; omega) (by omega) hb5.size ?_; intro v1 w7 hof hg1 hv1; have HOF := Lib.hid hof; have HOR1 := Lib.hid (HOR.out.kept hg1 HAP.out.row); have HAP1 := Lib.hid (HAP.out.grown HOR.out hv1); replace hb5 := bl_trans' hb5 (own_below HO1'.out hg1 hb5.size) (Nat.le_refl _); clear hof hg1 hv1)
                  | ((with_reducible show wpList _ _ _ (⟨some 70, _, _, _, _, _⟩ :: _) _ _); refine wpList_app2 rfl _ _ 22 rfl w5.heap.size 3 Tryd.underlying22 Tryd.infoInt rfl (by decide) rfl HOR1.out rfl [.int .i64 (k : Int)] rfl (by simp [Value.oneCell']) (by unfold maxLen; omega) (by omega) hb5.size ?_; intro v2 w8 hor hg2 hv2; have HOF2 := Lib.hid (HOF.out.kept hg2 HAP1.out.symm.row); have HAP2 := Lib.hid (HAP1.out.symm.grown HOF.out hv2).symm; replace hb5 := bl_trans' hb5 (own_below HOR1.out hg2 hb5.size) (Nat.le_refl _); obtain ⟨ad2, c2, rfl, hgr, hcr2, hcm2⟩ := gs_own2 (xs := R ++ [(k : Int)]) (by rw [List.map_append]; exact hor); rw [HRL.out] at hor HAP2; have HOR2 := Lib.hid hor; have HGR := Lib.hid hgr; clear hor hg2 hv2 hgr hcr2 hcm2))
                go_ret2
                refine ⟨ad2, c2, ?_, ?_, bl_trans HB.out (bl_trans HB5.out hb5), fun x hx => Nat.le_trans (bl_trans HB.out HB5.out).size (HOR2.out.lt x.block (by rw [hx]; rfl)).1⟩
                · rw [HFst.out.1]
                  refine ret_sl ?_
                  rw [seatsOf_len]; exact HM.out
                · rw [HFst.out.1, ← HFst.out.2, HRS2.out]
                  exact HGR.out
              · have e3 : (((R.length : Int) + 1) == (M : Int)) = false := by rw [beq_eq_false_iff_ne]; omega
                have e4 : ((R.length + 1) == M) = false := by rw [beq_eq_false_iff_ne]; exact hm
                have HM := Lib.hid hm
                clear hm
                go_wp2_with (first
                  | ((with_reducible show wpList _ _ _ (⟨some 66, _, _, _, _, _⟩ :: _) _ _); refine wpList_app2 rfl _ _ 22 rfl w5.heap.size 3 Tryd.underlying22 Tryd.infoInt rfl (by decide) rfl HO1'.out rfl [.int .i64 (k : Int)] rfl (by simp [Value.oneCell']) (by unfold maxLen; omega) (by omega) hb5.size ?_; intro v1 w7 hof hg1 hv1; have HOF := Lib.hid hof; have HOR1 := Lib.hid (HOR.out.kept hg1 HAP.out.row); have HAP1 := Lib.hid (HAP.out.grown HOR.out hv1); replace hb5 := bl_trans' hb5 (own_below HO1'.out hg1 hb5.size) (Nat.le_refl _); clear hof hg1 hv1)
                  | ((with_reducible show wpList _ _ _ (⟨some 70, _, _, _, _, _⟩ :: _) _ _); refine wpList_app2 rfl _ _ 22 rfl w5.heap.size 3 Tryd.underlying22 Tryd.infoInt rfl (by decide) rfl HOR1.out rfl [.int .i64 (k : Int)] rfl (by simp [Value.oneCell']) (by unfold maxLen; omega) (by omega) hb5.size ?_; intro v2 w8 hor hg2 hv2; have HOF2 := Lib.hid (HOF.out.kept hg2 HAP1.out.symm.row); have HAP2 := Lib.hid (HAP1.out.symm.grown HOF.out hv2).symm; replace hb5 := bl_trans' hb5 (own_below HOR1.out hg2 hb5.size) (Nat.le_refl _); obtain ⟨ad2, c2, rfl, hgr, hcr2, hcm2⟩ := gs_own2 (xs := R ++ [(k : Int)]) (by rw [List.map_append]; exact hor); rw [HRL.out] at hor HAP2; have HOR2 := Lib.hid hor; have HGR := Lib.hid hgr; clear hor hg2 hv2 hgr hcr2 hcm2))
                go_roundg (N - (k + 1))
                case measure => have := HGK2.out; omega
                case rel =>
                  refine ⟨hb5, k + 1, by omega, rfl, by go_num, by rw [HFS.out, List.map_append, List.length_append]; exact HOF2.out, by rw [HRS2.out, HRL.out, List.map_append]; exact HOR2.out, HAP2.out, fun j hj => ?_⟩
                  by_cases hjk : j ≤ k
                  · exact HALL.out j hjk
                  · obtain rfl : j = k + 1 := by omega
                    have := HM.out
                    rw [HRS2.out, HRL.out]; omega
        · obtain rfl : k = N := by omega
          obtain ⟨ad1, c1, rfl, hgf, hc1, hcm⟩ := gs_own2 HO1.out
          have hnw := runTo_none HR.out HALL.out
          have HAD := Lib.hid (fun x (hx : ad1 = some x) => Nat.le_trans (bl_trans HB.out HB5.out).size (HO1.out.lt x.block (by rw [hx]; rfl)).1)
          have HNN := Lib.hid hnw
          have HGF := Lib.hid hgf
          unfold maxLen at hcm
          obtain ⟨L, hL⟩ : ∃ L, L = freeTo tk k := ⟨_, rfl⟩
          rw [← hL] at hc1 HGF HNF HNA ⊢
          clear hgf hnw hL HO1 HO2 hap
          have hbz := bl_trans HB.out (bl_trans HB5.out hb5)
          by_cases hfull : L.length < M
          · have g4 : decide (L.length < M) = true := by simpa using hfull
            go_wp2_with fail
            go_ret2
            exact tells2_nil (HNF.out (by omega)) hbz
          · have g4 : decide (L.length < M) = false := by simpa using hfull
            have hcc : (M : Int) ≤ c1 := by omega
            have HFst := Lib.hid (HNA.out (by omega) HNN.out)
            go_wp2_with fail
            go_ret2
            rw [HFst.out]
            have hml : (L.take M).length = M := by simp; omega
            obtain ⟨b1, o1, hae, hc0⟩ := HGF.out 0 (by omega)
            refine ⟨ad1, c1, ret_sl hml.symm, fun j hj => ?_, hbz, HAD.out⟩
            rw [hml] at hj
            have e : (L.take M).getD j 0 = L.getD j 0 := by simp [List.getD, List.getElem?_take, hj]
            rw [e]
            exact HGF.out j (by omega)
end Go.Proofs.YtmnoacjmdnmddaaDoor
