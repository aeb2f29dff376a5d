/- The reference's Label. Conditions: none. -/
import Derived.Laws.BytesArg
import Derived.Test.YtndagalglenbnaaDoorSeatLabel
import Derived.Test.YtndagalglenbnaaDoorSeatBesR
import Derived.Test.YtndagalglenbnaaDoorStaged
namespace Go.Proofs.YtndagalglenbnaaDoor
open Go.RowKit

theorem Tryd.infoByte : (Tryd.prog.info? 5).map (fun i => (i.zero, i.size, i.bytes)) = some (some (.int .u8 0), 1, 1) := by kernel_rfl

/-- 'out = append(out, x, y, ..)': the new ones lie in the newest block. -/
theorem wpList_appm {P : Program} {W : World} {ops : Array Oper} {rest : List Oper} {o : Oper} {a : Act} {Q : Exit → Act → World → Prop} (hgd : o.guard = none) (s x : Operand) (T : TypeId)
    (ho : o.op = .call { callee := .builtin .append, args := #[s, x], argTypes := #[T, T] })
    (base : Nat) (E : TypeId) {z : Value} {size bytes : Nat} (hT : P.underlying T = some (.slice E)) (hinfo : (P.info? E).map (fun i => (i.zero, i.size, i.bytes)) = some (some z, size, bytes))
    (hzs : z.cells.size = size) (hsz : 0 < size) {v : Value} (hs : a.eval s = v) {n m : Nat} {xs : List Value} (hown : W.ownsRow base E size v n xs)
    (hx : a.eval x = .slice (some ⟨W.heap.size, 0, none⟩) m m) (cs : List Value) {tb : TypeId} {fz : Nat × Nat} (hcs : cs.length = m * size) (h1 : ∀ u ∈ cs, u.oneCell' = true)
    (hm : n + m ≤ maxLen) (hb : (n + m) * bytes ≤ 140737488355328) (hbase : base ≤ W.heap.size)
    (h : ∀ v' w', w'.ownsRow base E size v' (n + m) (xs ++ cs) → W.grownBy w' v.ownBlock → wpList P ops Q rest (a.put o.dst v') w') :
    wpList P ops Q (o :: rest) a (W.alloc (.cells cs.toArray tb fz)) := by
  obtain ⟨i0, hi, hz0, hz1, hz2⟩ := info_parts hinfo
  have hcell : ∀ j u, cs[j]? = some u → (W.alloc (.cells cs.toArray tb fz)).cell? ((⟨W.heap.size, 0, none⟩ : Addr).add j) = some u := by
    intro j u hj
    have hadd : (⟨W.heap.size, 0, none⟩ : Addr).add j = ⟨W.heap.size, j, none⟩ := by unfold Addr.add; split <;> simp_all
    rw [hadd, cell_of_row _ W.heap.size j cs.toArray tb fz (heap_alloc_new W _)]
    simpa using hj
  exact wpList_append_own _ hgd s x T ho base E i0 z size bytes hT hi hz0 hz1 hz2 hzs hsz v n xs hs (hown.alloc _) ⟨W.heap.size, 0, none⟩ m m cs hx hcs hcell h1 hm hb (by simp; omega)
    (fun v' w' h2 h3 _ => h v' w' h2 (grown_trans (World.grownBy_alloc W _ _) h3))

/-- string(b), b of one's own. -/
theorem run_own_string {w : World} {base : Nat} {v : Value} {n : Nat} {xs : List Int} (h : w.ownsRow base 5 1 v n (xs.map (.int .u8))) :
    (convert 50 9 v).run Tryd.prog w = .ok (.string (strOfNums xs)) w := by
  have hl : xs.length = n := by have := h.1; simpa using this
  rcases h.2 with ⟨rfl, h0⟩ | ⟨g, cap, cur, rfl, _, _, h1, h2, _⟩
  · obtain rfl : n = 0 := h0
    have : xs = [] := by simpa using hl
    subst this
    exact run_convert_bytes_nil w 50 5 Tryd.underlying50 Tryd.underlying5 0 0 9 Tryd.underlying9
  · refine run_convert_bytes_arg w 50 5 Tryd.underlying50 Tryd.underlying5 g 0 n cap xs hl ?_ 9 Tryd.underlying9
    intro i hi
    have hc := h.cells (g := g) rfl i (.int .u8 (xs.getD i 0)) (by simp [List.getD, List.getElem?_eq_getElem (show i < xs.length by omega)])
    have hadd : (⟨g, 0, none⟩ : Addr).add i = ⟨g, 0 + i, none⟩ := by unfold Addr.add; split <;> simp_all
    rw [← hadd]
    exact hc

theorem run_index_letter (c : Nat) (h : c < 10) (w : World) :
    (Instr.index 9 (.string { data := #[65, 66, 67, 68, 69, 70, 71, 72, 74, 75] }) (.int .i64 (c : Int))).run Tryd.prog w = .ok (.int .u8 (letter c).toNat) w := by
  have h' : c = 0 ∨ c = 1 ∨ c = 2 ∨ c = 3 ∨ c = 4 ∨ c = 5 ∨ c = 6 ∨ c = 7 ∨ c = 8 ∨ c = 9 := by omega
  rcases h' with h' | h' | h' | h' | h' | h' | h' | h' | h' | h' <;> (subst h'; clear h; exact (by kernel_rfl : _ = _))

theorem name_all : ∀ r : Nat, r < 60 → ∀ c : Nat, c < 10 → (if r + 1 < 10 then strOfNums [48 + ((r : Int) + 1) % 10, ((letter c).toNat : Int)] else strOfNums ([48 + ((r : Int) + 1) / 10] ++ [48 + ((r : Int) + 1) % 10, ((letter c).toNat : Int)])) = nameS r c := by decide +kernel
theorem name_lo {r c : Nat} (hc : c < 10) (h : r + 1 < 10) : strOfNums [48 + ((r : Int) + 1) % 10, ((letter c).toNat : Int)] = nameS r c := by
  have := name_all r (by omega) c hc
  rwa [if_pos h] at this
theorem name_hi {r c : Nat} (hc : c < 10) (h : ¬ r + 1 < 10) (h2 : r < 60) : strOfNums ([48 + ((r : Int) + 1) / 10] ++ [48 + ((r : Int) + 1) % 10, ((letter c).toNat : Int)]) = nameS r c := by
  have := name_all r h2 c hc
  rwa [if_neg h] at this

theorem ret_lab {a b : ByteArray} (h : a = b) : Ending.returned (.tuple #[.string a, .int .i64 0]) = .returned (.tuple #[.string b, .int .i64 0]) := by rw [h]

set_option maxRecDepth 100000 in
set_option maxHeartbeats 1000000 in
theorem rlabel_ok (rows : Int) (a : Option Addr) (gs : List Int) (cap : Nat) (n : Int) (w : World) (hg : GsAt w a gs) (hlm : gs.length ≤ maxLen) (h : hasL rows gs n) (r c W : Nat)
    (hW : total gs = W) (hn : n = r * W + c) (hc : c < W) (hW10 : W ≤ 10) (hr : r < 60) :
    Calls Tryd.prog 19 #[.agg #[.int .i64 rows, .slice a gs.length cap], .int .i64 n] w fun e w' => e = .returned (.tuple #[.string (nameS r c), .int .i64 0]) ∧ Below w.heap.size w w' := by
  have hb1 := bl_alloc (Below.refl w.heap.size w) (.cells #[.int .i64 rows, .slice a gs.length cap] 24)
  have HB := Lib.hid hb1
  have HG := Lib.hid (hg.keep hb1)
  obtain ⟨w0, hw0⟩ : ∃ w0, w0 = w.alloc (.cells #[.int .i64 rows, .slice a gs.length cap] 24) := ⟨_, rfl⟩
  have hblk : w0.heap[w.heap.size]? = some (.cells #[.int .i64 rows, .slice a gs.length cap] 24) := by rw [hw0]; exact blk_new w _ rfl
  have q0 : ∀ w', Below w0.heap.size w0 w' → w'.cell? ⟨w.heap.size, 0, none⟩ = some (.int .i64 rows) := fun w' h => blk_cell (blk_below hblk h (blk_lt hblk)) 0
  have q1 : ∀ w', Below w0.heap.size w0 w' → w'.cell? ⟨w.heap.size, 1, none⟩ = some (.slice a gs.length cap) := fun w' h => blk_cell (blk_below hblk h (blk_lt hblk)) 1
  rw [← hw0] at HB HG
  have HW0 := Lib.hid hw0
  clear hg hb1 hblk hw0
  have hR := h.right
  have hn0 := h.1
  have hlt := h.2
  have hcr := countL_rng rows gs
  have hd : n / (W : Int) = r := by
    rw [hn, Int.add_comm, Int.add_mul_ediv_right _ _ (by omega), Int.ediv_eq_zero_of_lt (by omega) (by omega)]; omega
  have hm : n % (W : Int) = c := by
    rw [hn, Int.add_comm, Int.add_mul_emod_self_right, Int.emod_eq_of_lt (by omega) (by omega)]
  have f1 : n.tdiv (W : Int) = r := by rw [Int.tdiv_eq_ediv_of_nonneg hn0]; exact hd
  have f2 : n.tmod (W : Int) = c := by rw [Int.tmod_eq_emod_of_nonneg hn0]; exact hm
  have hix := run_index_letter c (by omega)
  have HC := Lib.hid (fun (W : World) (h : Below w0.heap.size w0 W) => rcount_any rows a gs cap W (HG.out.keep h) hlm)
  have HA := Lib.hid (fun (X : World) (h : Below w0.heap.size w0 X) => racross_any rows a gs cap X (HG.out.keep h) hR.2.2.2.1 hR.2.2.2.2.1)
  obtain ⟨N, hN⟩ : ∃ N, N = countL rows gs := ⟨_, rfl⟩
  rw [← hN] at HC hlt hcr
  rw [hW] at HA
  have g1 : ¬ n < 0 := by omega
  have g2 : ¬ N ≤ n := by omega
  have g3 : ¬ W = 0 := by omega
  have g4 : ((W : Int) == 0) = false := by rw [beq_eq_false_iff_ne]; omega
  have g5 : (W == 0) = false := by rw [beq_eq_false_iff_ne]; omega
  have g6 : ¬ (W : Int) = 0 := by omega
  have f5 : IntKind.i64.wrap (r : Int) = r := by exact IntWalk.i64_in _ (by omega)
  have f6 : IntKind.i64.wrap ((r : Int) + 1) = (r : Int) + 1 := by exact IntWalk.i64_in _ (by omega)
  have f9 : IntKind.i64.wrap (c : Int) = c := by exact IntWalk.i64_in _ (by omega)
  have hb := Below.refl w0.heap.size w0
  clear h hR hW hn hN
  by_cases ht : r + 1 < 10
  · have HT := Lib.hid (name_lo (c := c) (by omega) ht)
    have ht' : ¬ (10 : Int) ≤ (r : Int) + 1 := by omega
    go_enter Tryd.func19, Tryd.ntmps19
    go_wp2_with fail
    rw [← HW0.out]
    refine (HC.out _ hb).mono ?_; rintro e w1 ⟨rfl, hb2⟩
    replace hb := bl_trans hb hb2; clear hb2
    go_wp2_with fail
    refine (HA.out _ hb).mono ?_; rintro e w2 ⟨rfl, hb2⟩
    replace hb := bl_trans hb hb2; clear hb2
    go_wp2_with fail
    refine (HA.out _ hb).mono ?_; rintro e w3 ⟨rfl, hb2⟩
    replace hb := bl_trans hb hb2; clear hb2
    go_wp2_with (first
      | (at_builtin; refine wpList_appm rfl _ _ 50 rfl w0.heap.size 5 Tryd.underlying50 Tryd.infoByte rfl (by decide) rfl (World.ownsRow_nil _ _ _ _) rfl [.int .u8 (48 + ((r : Int) + 1) % 10), .int .u8 ((letter c).toNat : Int)] rfl (by simp [Value.oneCell']) (by unfold maxLen; omega) (by omega) hb.size ?_; intro v1 w4 hown1 hgrow)
      | ((with_reducible show wpList _ _ _ (⟨some 43, _, _, _, _, _⟩ :: _) _ _); refine wpList_convert rfl 50 9 (.tmp 42) rfl _ (run_own_string (xs := [48 + ((r : Int) + 1) % 10, ((letter c).toNat : Int)]) hown1) ?_))
    replace hb := bl_trans' hb (own_below (World.ownsRow_nil _ w0.heap.size 5 1) hgrow hb.size) (Nat.le_refl _)
    go_ret2
    exact ⟨ret_lab HT.out, bl_trans HB.out hb⟩
  · have HT := Lib.hid (name_hi (c := c) (by omega) ht hr)
    have ht' : (10 : Int) ≤ (r : Int) + 1 := by omega
    go_enter Tryd.func19, Tryd.ntmps19
    go_wp2_with fail
    rw [← HW0.out]
    refine (HC.out _ hb).mono ?_; rintro e w1 ⟨rfl, hb2⟩
    replace hb := bl_trans hb hb2; clear hb2
    go_wp2_with fail
    refine (HA.out _ hb).mono ?_; rintro e w2 ⟨rfl, hb2⟩
    replace hb := bl_trans hb hb2; clear hb2
    go_wp2_with (at_builtin; refine wpList_appm rfl _ _ 50 rfl w0.heap.size 5 Tryd.underlying50 Tryd.infoByte rfl (by decide) rfl (World.ownsRow_nil _ _ _ _) rfl [.int .u8 (48 + ((r : Int) + 1) / 10)] rfl (by simp [Value.oneCell']) (by unfold maxLen; omega) (by omega) hb.size ?_; intro v1 w4 hown1 hgrow; replace hb := bl_trans' hb (own_below (World.ownsRow_nil _ w0.heap.size 5 1) hgrow hb.size) (Nat.le_refl _); clear hgrow)
    refine (HA.out _ hb).mono ?_; rintro e w3 ⟨rfl, hb2⟩
    have hown2 := own_keep hown1 hb2
    replace hb := bl_trans hb hb2; clear hb2 hown1
    go_wp2_with (first
      | (at_builtin; refine wpList_appm rfl _ _ 50 rfl w0.heap.size 5 Tryd.underlying50 Tryd.infoByte rfl (by decide) rfl hown2 rfl [.int .u8 (48 + ((r : Int) + 1) % 10), .int .u8 ((letter c).toNat : Int)] rfl (by simp [Value.oneCell']) (by unfold maxLen; omega) (by omega) hb.size ?_; intro v2 w5 hown3 hgrow)
      | ((with_reducible show wpList _ _ _ (⟨some 43, _, _, _, _, _⟩ :: _) _ _); refine wpList_convert rfl 50 9 (.tmp 42) rfl _ (run_own_string (xs := [48 + ((r : Int) + 1) / 10] ++ [48 + ((r : Int) + 1) % 10, ((letter c).toNat : Int)]) hown3) ?_))
    replace hb := bl_trans' hb (own_below hown2 hgrow hb.size) (Nat.le_refl _)
    go_ret2
    exact ⟨ret_lab HT.out, bl_trans HB.out hb⟩

theorem rlabel_yes (rows : Int) (a : Option Addr) (gs : List Int) (cap : Nat) (n : Int) (w : World) (hg : GsAt w a gs) (hlm : gs.length ≤ maxLen) (h : hasL rows gs n) :
    Calls Tryd.prog 19 #[.agg #[.int .i64 rows, .slice a gs.length cap], .int .i64 n] w fun e w' => e = .returned (.tuple #[.string (labS (total gs) n), .int .i64 0]) ∧ Below w.heap.size w w' := by
  obtain ⟨r, c, W, hW, hn, hc, hW10, _, hr, hW1⟩ := seat_rc h
  have e1 : (n / total gs).toNat = r := by
    rw [hW, hn, Int.add_comm, Int.add_mul_ediv_right _ _ (by omega), Int.ediv_eq_zero_of_lt (by omega) (by omega)]; omega
  have e2 : (n % total gs).toNat = c := by
    rw [hW, hn, Int.add_comm, Int.add_mul_emod_self_right, Int.emod_eq_of_lt (by omega) (by omega)]; omega
  unfold labS
  rw [e1, e2]
  exact rlabel_ok rows a gs cap n w hg hlm h r c W hW hn hc hW10 hr

set_option maxHeartbeats 1000000 in
theorem rlabel_no (rows : Int) (a : Option Addr) (gs : List Int) (cap : Nat) (n : Int) (w : World) (hg : GsAt w a gs) (hlm : gs.length ≤ maxLen) (h : ¬ hasL rows gs n) :
    Calls Tryd.prog 19 #[.agg #[.int .i64 rows, .slice a gs.length cap], .int .i64 n] w fun e w' => e = .returned (.tuple #[.string ⟨#[]⟩, .int .i64 1]) ∧ Below w.heap.size w w' := by
  have hb1 := bl_alloc (Below.refl w.heap.size w) (.cells #[.int .i64 rows, .slice a gs.length cap] 24)
  have HB := Lib.hid hb1
  have HG := Lib.hid (hg.keep hb1)
  obtain ⟨w0, hw0⟩ : ∃ w0, w0 = w.alloc (.cells #[.int .i64 rows, .slice a gs.length cap] 24) := ⟨_, rfl⟩
  have hblk : w0.heap[w.heap.size]? = some (.cells #[.int .i64 rows, .slice a gs.length cap] 24) := by rw [hw0]; exact blk_new w _ rfl
  have q0 : ∀ w', Below w0.heap.size w0 w' → w'.cell? ⟨w.heap.size, 0, none⟩ = some (.int .i64 rows) := fun w' h => blk_cell (blk_below hblk h (blk_lt hblk)) 0
  have q1 : ∀ w', Below w0.heap.size w0 w' → w'.cell? ⟨w.heap.size, 1, none⟩ = some (.slice a gs.length cap) := fun w' h => blk_cell (blk_below hblk h (blk_lt hblk)) 1
  rw [← hw0] at HB HG
  have HW0 := Lib.hid hw0
  clear hg hb1 hblk hw0
  by_cases h0 : n < 0
  · go_enter Tryd.func19, Tryd.ntmps19
    go_wp2_with fail
    rw [← HW0.out]
    go_ret2
    exact ⟨rfl, HB.out⟩
  · have h1 : countL rows gs ≤ n := by
      by_cases k : n < countL rows gs
      · exact absurd ⟨by omega, k⟩ h
      · omega
    have HC := Lib.hid (rcount_any rows a gs cap _ HG.out hlm)
    obtain ⟨N, hN⟩ : ∃ N, N = countL rows gs := ⟨_, rfl⟩
    rw [← hN] at h1 HC
    clear h hN
    go_enter Tryd.func19, Tryd.ntmps19
    go_wp2_with fail
    rw [← HW0.out]
    refine HC.out.mono ?_; rintro e w1 ⟨rfl, hb2⟩
    go_wp2_with fail
    go_ret2
    exact ⟨rfl, bl_trans HB.out hb2⟩
end Go.Proofs.YtndagalglenbnaaDoor
