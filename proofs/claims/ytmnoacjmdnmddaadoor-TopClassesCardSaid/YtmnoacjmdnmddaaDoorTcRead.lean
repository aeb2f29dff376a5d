/- flight: Sold, Left. Conditions: none. -/
import Derived.Test.YtmnoacjmdnmddaaDoorTcFl
import Derived.Test.YtmnoacjmdnmddaaDoorStagedL
namespace Go.Proofs.YtmnoacjmdnmddaaDoor
open Go.RowKit Go.Maps
set_option maxRecDepth 100000 in
set_option maxHeartbeats 1000000 in
theorem sold_at {w : World} {B p : Nat} {S : FS} (h : FlAt w B p S) (i : FInv S) :
    Calls Tryd.prog 12 #[.pointer (some ⟨p, 0, none⟩)] w fun e w' => ∃ a c, e = .returned (.slice a S.ls.length c) ∧ w'.ownsRow w.heap.size 3 1 (.slice a S.ls.length c) S.ls.length (intsV S.ss) ∧ Below w.heap.size w w' := by
  have hn := i.nest.len
  have hn8 := i.nest.n8
  have HC := cloneI_at S.sa S.ss S.sc w (own_gs h.sr) (by omega) (own_nil h.sr)
  rw [hn] at HC
  replace HC := Lib.hid HC
  have hcF : ∀ (i : Nat) (W : World), Below w.heap.size w W → W.cell? ⟨p, i, none⟩ = S.cells[i]? := fun i W hW => blk_cell (blk_below h.blk hW (blk_lt h.blk)) i
  have c1 := hcF 1
  have c2 := hcF 2
  have c3 := hcF 3
  have c4 := hcF 4
  have c5 := hcF 5
  have c6 := hcF 6
  simp only [FS.cells, List.getElem?_toArray, List.getElem?_cons_zero, List.getElem?_cons_succ] at c1 c2 c3 c4 c5 c6
  clear hcF
  have hb := Below.refl w.heap.size w
  obtain ⟨sv, hsv⟩ : ∃ sv, sv = S.sv := ⟨_, rfl⟩
  rw [← hsv] at c4
  rw [show Value.slice S.sa S.ls.length S.sc = sv from hsv.symm] at HC
  clear hsv h i c1 c2 c3 c5 c6 hn8 hn
  go_enter Tryd.func12, Tryd.ntmps12
  go_wp2_with fail
  refine HC.out.mono ?_
  rintro e w1 ⟨a', c', rfl, hr, hb1, _⟩
  go_wp2_with fail
  go_ret
  exact ⟨a', c', rfl, hr, hb1⟩
/-- What a flight has left, k classes of it. -/
def leftTo (ls ss : List Int) (k : Nat) : List Int := (List.range k).map fun j => leastL ls ss ((j : Nat) : Int)
theorem leftTo_len (ls ss : List Int) (k : Nat) : (leftTo ls ss k).length = k := by simp [leftTo]
theorem leftTo_at (ls ss : List Int) {k j : Nat} (h : j < k) : (leftTo ls ss k).getD j 0 = leastL ls ss (j : Int) := by
  unfold leftTo
  rw [List.getD_eq_getElem?_getD, List.getElem?_map, List.getElem?_range h]
  rfl
theorem made_int (n : Nat) : (madeCells (Value.int .i64 0).cells (n * 1)).toList = List.replicate n (Value.int .i64 0) := by
  unfold madeCells
  apply List.ext_getElem
  · simp
  · intro i h1 h2
    simp [Value.cells, Nat.mod_one]
def fillTo (ls ss : List Int) (n k : Nat) : List Value := intsV (leftTo ls ss k) ++ List.replicate (n - k) (.int .i64 0)
theorem fillTo_len {ls ss : List Int} {n k : Nat} (h : k ≤ n) : (fillTo ls ss n k).length = n := by
  unfold fillTo
  rw [List.length_append, intsV_len, leftTo_len, List.length_replicate]
  omega
theorem fillTo_get {ls ss : List Int} {n k : Nat} (h : k < n) : (fillTo ls ss n k)[k]? = some (.int .i64 0) := by
  unfold fillTo
  rw [List.getElem?_append_right (by rw [intsV_len, leftTo_len]; omega), intsV_len, leftTo_len, Nat.sub_self, List.getElem?_replicate, if_pos (by omega)]
theorem fillTo_set {ls ss : List Int} {n k : Nat} (h : k < n) : (fillTo ls ss n k).set k (.int .i64 (leastL ls ss (k : Int))) = fillTo ls ss n (k + 1) := by
  unfold fillTo
  rw [List.set_append, if_neg (by rw [intsV_len, leftTo_len]; omega), intsV_len, leftTo_len, Nat.sub_self, show n - k = (n - (k + 1)) + 1 by omega, List.replicate_succ, List.set_cons_zero]
  unfold leftTo intsV
  rw [List.range_succ, List.map_append, List.map_append, List.append_assoc]
  rfl
set_option maxRecDepth 100000 in
set_option maxHeartbeats 2000000 in
theorem left_fl {w : World} {B p : Nat} {S : FS} (h : FlAt w B p S) (i : FInv S) :
    Calls Tryd.prog 5 #[.pointer (some ⟨p, 0, none⟩)] w fun e w' => ∃ a c, e = .returned (.slice a S.ls.length c) ∧ w'.ownsRow w.heap.size 3 1 (.slice a S.ls.length c) S.ls.length (intsV (leftTo S.ls S.ss S.ls.length)) ∧ Below w.heap.size w w' := by
  have hn1 := i.nest.n1
  have hn8 := i.nest.n8
  have HL := Lib.hid (show ∀ (W : World) (k : Nat), Below w.heap.size w W → k < S.ls.length → Calls Tryd.prog 17 #[S.lv, S.sv, .int .i64 k] W fun e w' => e = .returned (.tuple #[.int .i64 (leastL S.ls S.ss (k : Int)), .int .i64 0]) ∧ Below W.heap.size W w' from fun W k hW hk => by
    have := left_at i.nest S.la S.sa S.lc S.sc (k : Int) ((own_gs h.lr).keep hW) ((own_gs h.sr).keep hW)
    have e : leftR S.ls S.ss (k : Int) = (leastL S.ls S.ss (k : Int), 0) := by
      unfold leftR
      rw [if_pos (by omega)]
    rw [e] at this
    exact this)
  have hcF : ∀ (i : Nat) (W : World), Below w.heap.size w W → W.cell? ⟨p, i, none⟩ = S.cells[i]? := fun i W hW => blk_cell (blk_below h.blk hW (blk_lt h.blk)) i
  have c1 := hcF 1
  have c2 := hcF 2
  have c3 := hcF 3
  have c4 := hcF 4
  have c5 := hcF 5
  have c6 := hcF 6
  simp only [FS.cells, List.getElem?_toArray, List.getElem?_cons_zero, List.getElem?_cons_succ] at c1 c2 c3 c4 c5 c6
  clear hcF
  have hb := Below.refl w.heap.size w
  obtain ⟨n, hn⟩ : ∃ n, n = S.ls.length := ⟨_, rfl⟩
  have hlv : S.lv = .slice S.la n S.lc := by rw [hn]; rfl
  rw [hlv] at c3
  rw [← hn] at hn1 hn8 HL ⊢
  rw [hlv] at HL
  obtain ⟨ls, hls⟩ : ∃ ls, ls = S.ls := ⟨_, rfl⟩
  obtain ⟨ss, hss⟩ : ∃ ss, ss = S.ss := ⟨_, rfl⟩
  obtain ⟨sv, hsv⟩ : ∃ sv, sv = S.sv := ⟨_, rfl⟩
  obtain ⟨la, hla⟩ : ∃ la, la = S.la := ⟨_, rfl⟩
  obtain ⟨lc, hlc⟩ : ∃ lc, lc = S.lc := ⟨_, rfl⟩
  rw [← hla, ← hlc] at c3 HL
  rw [← hsv] at c4 HL
  rw [← hls, ← hss] at HL ⊢
  obtain ⟨i0, hi, hz0, hz1, hz2⟩ := info_parts Tryd.infoInt
  clear hn hls hss hsv hla hlc hlv h i c1 c2 c5 c6
  go_enter Tryd.func5, Tryd.ntmps5
  go_wp2_with (refine wpList_make_full _ rfl _ _ 22 rfl w.heap.size 3 i0 (.int .i64 0) 1 Tryd.underlying22 hi hz0 hz1 .i64 .i64 n n n rfl rfl rfl rfl (by rw [hz2]; omega) (by unfold maxLen; omega) hb.size ?_; intro w3 hown hgrow)
  rw [show (madeCells (Value.int .i64 0).cells (n * 1)).toList = fillTo ls ss n 0 by rw [made_int]; simp [fillTo, leftTo, intsV]] at hown
  replace hb := bl_trans' hb ((Below.refl w.heap.size w).grown hgrow hb.size (by intro k hk; cases hk)) (Nat.le_refl _)
  clear hgrow
  obtain ⟨q, hq⟩ : ∃ q, q = w.heap.size := ⟨_, rfl⟩
  have HQ := Lib.hid hq
  rw [← hq] at hown ⊢
  clear hq
  go_loopg [13] n (fun g i wr => Below w.heap.size w wr ∧ ∃ k : Nat, k ≤ n ∧ g = n - k ∧ i = .int .i64 k ∧ wr.ownsRow q 3 1 (.slice (some ⟨q, 0, none⟩) n n) n (fillTo ls ss n k))
  case atStart => exact ⟨hb, 0, by omega, rfl, rfl, hown⟩
  case round =>
    obtain ⟨hb, k, hk, hg, rfl, hown⟩ := hrel
    have HG := Lib.hid hg
    have HO := Lib.hid hown
    clear hg hown
    by_cases hkn : k < n
    case neg =>
      obtain rfl : k = n := by omega
      go_wp2_with fail
      go_ret
      refine ⟨_, _, rfl, ?_, hb⟩
      have h1 := HO.out
      unfold fillTo at h1
      rw [Nat.sub_self, List.replicate_zero, List.append_nil] at h1
      rw [HQ.out] at h1 ⊢
      exact h1
    have z1 : decide ((k : Int) < n) = true := decide_eq_true (by omega)
    have hk0 : (0 : Int) ≤ (k : Int) := by omega
    have hk1 : (k : Int) < n := by omega
    go_wp2_with fail
    refine wp_region_in (Below w.heap.size w) (fun i => i == 11 || i == 16) (by kernel_rfl) (by kernel_rfl) (by exact hb.drew) ?_
    intro hne hx
    replace hb := hb.drew
    have HO2 := Lib.hid (show wr.drew.ownsRow q 3 1 _ n (fillTo ls ss n k) from HO.out)
    have hqw : w.heap.size ≤ q := by rw [HQ.out]; exact Nat.le_refl _
    refine stg_seg 11 (by dsimp only [List.take]) (by dsimp only [List.drop]) (by rfl) ?_
    repeat (go_big_quiet_step (fail))
    refine wpQuiet_nil ?_
    refine stg_loud (by rfl) ?_
    go_wp2_with fail
    refine (HL.out _ _ hb hkn).mono ?_; rintro e w5 ⟨rfl, hb2⟩
    have HO5 := Lib.hid (own_keep HO2.out hb2)
    replace hb := bl_trans hb hb2; clear hb2
    have yc : w5.cell? ⟨q, k, none⟩ = some (.int .i64 0) := row_cell HO5.out (fillTo_get hkn)
    have yf : w5.frozen? ⟨q, k, none⟩ = false := HO5.out.frozenAt k
    go_wp2_with fail
    refine lq_in rfl (hb) ?_
    refine stg_seg 4 (by dsimp only [List.take]) (by dsimp only [List.drop]) (by rfl) ?_
    repeat (go_big_quiet_step (fail))
    refine wpQuiet_nil ?_
    refine stg_loud (by rfl) ?_
    go_wp2_with fail
    refine lq_in rfl (hb.setCell hqw _) ?_
    refine stg_nil ?_
    clear hne hx
    go_wp2_with fail
    have hst := (HO5.out.stored k (.int .i64 (leastL ls ss (k : Int)))).1
    rw [fillTo_set hkn] at hst
    go_roundg (n - (k + 1))
    case measure => have := HG.out; omega
    case rel => exact ⟨hb.setCell hqw _, k + 1, by omega, rfl, by go_num, hst⟩
end Go.Proofs.YtmnoacjmdnmddaaDoor
