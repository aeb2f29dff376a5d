/- flight: New. Conditions: none. -/
import Derived.Test.YtmnoacjmdnmddaaDoorTcAuto
import Derived.Test.YtmnoacjmdnmddaaDoorTcEmpty
namespace Go.Proofs.YtmnoacjmdnmddaaDoor
open Go.RowKit Go.Maps
def NewOk (num rows : Int) (gs : List Int) (ps : List Nat) : Prop := (1 ≤ num ∧ num ≤ 9999) ∧ RightL rows gs ∧ 1 ≤ ps.length ∧ ps.length ≤ 8
theorem made_map {w : World} {b : Nat} {H : Type} {R : Value → Option (DataW H × List MemPlace)} (h : w.heap[b]? = some (.map #[] 0)) : w.ownsMap Tryd.prog 3 R b 0 (.map []) :=
  ⟨#[], 0, h, ⟨by simp, MapKept.stamped_empty 0, by simp⟩, Nat.le_refl _, rfl⟩
theorem made_size (n : Nat) : (madeCells (Value.int .i64 0).cells (n * 1)).size = n * 1 := by
  have := congrArg List.length (made_int n)
  simpa using this
theorem new_fl {w w' : World} {num rows : Int} {gs : List Int} {ps : List Nat} {ga la : Option Addr} {gc lc : Nat} {B : Nat} (hok : NewOk num rows gs ps) (hB : B ≤ w.heap.size)
    (hg : w.ownsRow B 3 1 (.slice ga gs.length gc) gs.length (intsV gs)) (hl : w.ownsRow B 3 1 (.slice la ps.length lc) ps.length (intsV (limL (countL rows gs) ps ps.length))) {e : Ending}
    (h : EmptyAt w num rows (.slice ga gs.length gc) (.slice la ps.length lc) ps.length (madeCells (Value.int .i64 0).cells (ps.length * 1)) e w') :
    ∃ p S, e = .returned (.pointer (some ⟨p, 0, none⟩)) ∧ FlAt w' B p S ∧ FInv S ∧ (S.rows = rows ∧ S.gs = gs ∧ S.ls = limL (countL rows gs) ps ps.length ∧ S.nn = 0) ∧ (∀ b ∈ S.blks p, B ≤ b) ∧ Below w.heap.size w w' := by
  obtain ⟨p, hb, ob, sb, rfl, hp, hm, ho, hs, hne, ⟨l1, l2, l3, l4⟩, hbl⟩ := h
  obtain ⟨_, hR, hn1, hn8⟩ := hok
  have hc := countL_rng rows gs
  have hlen := limL_len (countL rows gs) ps ps.length
  refine ⟨p, ⟨num, rows, gs, limL (countL rows gs) ps ps.length, List.replicate ps.length 0, ga, gc, la, lc, some ⟨sb, 0, none⟩, ps.length, hb, ob, [], 0⟩, rfl, ⟨?_, own_keep hg hbl, ?_, ?_, ⟨_, made_map hm, HmOk.nil⟩, ⟨_, made_map ho, OmOk.nil⟩, fun x hx => (by cases hx), fun x hx => (by cases hx), fun x hx => (by cases hx), hne, ⟨Nat.le_trans hB l1, Nat.le_trans hB l2, Nat.le_trans hB l3⟩⟩, ?_, ⟨rfl, rfl, rfl, rfl⟩, ?_, hbl⟩
  · rw [hp]
    unfold FS.cells FS.gv FS.lv FS.sv
    simp only [hlen]
  · unfold FS.lv
    simp only [hlen]
    exact own_keep hl hbl
  · unfold FS.sv
    simp only [hlen]
    refine ⟨by simp [intsV], .inr ⟨sb, ps.length, _, rfl, by omega, hs, Nat.le_refl _, by unfold maxLen; omega, made_size _, ?_⟩⟩
    rw [made_int, List.take_of_length_le (by simp)]
    simp [intsV]
  · refine ⟨lim_ok hc.1 (by omega) hn1 hn8, hR, List.nodup_nil, fun x hx => (by cases hx), fun x hx => (by cases hx), fun x hx => (by cases hx), fun c hc' => ?_, fun x hx => (by cases hx), fun x hx => (by cases hx), List.nodup_nil, fun x hx => (by cases hx)⟩
    show (List.replicate ps.length (0 : Int)).getD c 0 = 0
    rw [List.getD_eq_getElem?_getD, List.getElem?_replicate]
    split <;> rfl
  · intro b hb'
    simp only [FS.blks, List.flatMap_nil, List.mem_cons, List.not_mem_nil, or_false] at hb'
    rcases hb' with rfl | rfl | rfl <;> omega
set_option maxRecDepth 100000 in
set_option maxHeartbeats 4000000 in
theorem new_any (num rows : Int) (a : Option Addr) (gs : List Int) (cap : Nat) (pa : Option Addr) (ps : List Nat) (pc : Nat) (w : World) (hg : GsAt w a gs) (hgl : gs.length ≤ 100) (hgn : a = none → cap = 0) (hp : FsAt w pa ps) (hpl : ps.length ≤ 100) (hpc : ps.length ≤ pc) (hpc9 : pc ≤ 9223372036854775807) :
    Calls Tryd.prog 4 #[.int .i64 num, .agg #[.int .i64 rows, .slice a gs.length cap], .slice pa ps.length pc] w fun e w' => Below w.heap.size w w' ∧
      ((¬ NewOk num rows gs ps ∧ e = .returned (.tuple #[.pointer none, .int .i64 1])) ∨
       (NewOk num rows gs ps ∧ ∃ p S, e = .returned (.tuple #[.pointer (some ⟨p, 0, none⟩), .int .i64 0]) ∧ FlAt w' w.heap.size p S ∧ FInv S ∧ (S.rows = rows ∧ S.gs = gs ∧ S.ls = limL (countL rows gs) ps ps.length ∧ S.nn = 0))) := by
  have hlm : gs.length ≤ maxLen := by unfold maxLen; omega
  have HP := Lib.hid (hp.keep (bl_alloc (Below.refl w.heap.size w) (.cells #[.int .i64 rows, .slice a gs.length cap] 24)))
  clear hp
  have HBLK := Lib.hid (blk_new w (.cells #[.int .i64 rows, .slice a gs.length cap] 24) rfl)
  have hb1 := bl_alloc (Below.refl w.heap.size w) (.cells #[.int .i64 rows, .slice a gs.length cap] 24)
  have HB := Lib.hid hb1
  have HG := Lib.hid (hg.keep hb1)
  obtain ⟨w0, hw0⟩ : ∃ w0, w0 = w.alloc (.cells #[.int .i64 rows, .slice a gs.length cap] 24) := ⟨_, rfl⟩
  have hblk : w0.heap[w.heap.size]? = some (.cells #[.int .i64 rows, .slice a gs.length cap] 24) := by rw [hw0]; exact blk_new w _ rfl
  have q0 : ∀ w', Below w0.heap.size w0 w' → w'.cell? ⟨w.heap.size, 0, none⟩ = some (.int .i64 rows) := fun w' h => blk_cell (blk_below hblk h (blk_lt hblk)) 0
  have q1 : ∀ w', Below w0.heap.size w0 w' → w'.cell? ⟨w.heap.size, 1, none⟩ = some (.slice a gs.length cap) := fun w' h => blk_cell (blk_below hblk h (blk_lt hblk)) 1
  rw [← hw0] at HB HG
  have HW0 := Lib.hid hw0
  clear hg hb1 hblk hw0
  rw [← HW0.out] at HP HBLK
  obtain ⟨N, hN⟩ : ∃ N, N = countL rows gs := ⟨_, rfl⟩
  have hNr := countL_rng rows gs
  have HC := Lib.hid (fun (W : World) (h : Below w0.heap.size w0 W) => count_any rows a gs cap W (HG.out.keep h) hlm)
  have HR := Lib.hid (fun (W : World) (h : Below w0.heap.size w0 W) => right_any rows a gs cap W (HG.out.keep h) hlm)
  obtain ⟨b, hbe⟩ : ∃ b, b = rightB rows gs := ⟨_, rfl⟩
  rw [← hN] at HC hNr
  rw [← hbe] at HR
  have HN := Lib.hid hN
  have HBE := Lib.hid hbe
  have hb := Below.refl w0.heap.size w0
  have HLY := Lib.hid (fun (W : World) (h : Below w0.heap.size w0 W) => limits_yes N pa ps pc W hNr.1 (by omega) (HP.out.keep h))
  have HLN := Lib.hid (fun (W : World) => limits_no N pa ps pc W hNr.1 (by omega) (by unfold maxLen; omega))
  obtain ⟨n, hn⟩ : ∃ n, n = ps.length := ⟨_, rfl⟩
  have HNN := Lib.hid hn
  clear hN hbe hNr hn
  by_cases hl : 1 ≤ ps.length ∧ ps.length ≤ 8
  case neg =>
    have HNO := Lib.hid (show ¬ NewOk num rows gs ps from fun h => hl ⟨h.2.2.1, h.2.2.2⟩)
    have hl' : ps.length < 1 ∨ 8 < ps.length := by omega
    clear hl
    go_enter Tryd.func4, Tryd.ntmps4
    go_wp2_with fail
    rw [← HW0.out]
    refine (HC.out _ hb).mono ?_; rintro e w1 ⟨rfl, hb2⟩
    replace hb := bl_trans hb hb2; clear hb2
    go_wp2_with fail
    refine (HLN.out _ hl').mono ?_
    rintro e w2 ⟨rfl, rfl⟩
    clear hl'
    by_cases h1 : num < 1
    · have e1 : decide (num < 1) = true := decide_eq_true h1
      go_wp2_with fail
      go_ret2
      exact ⟨bl_trans HB.out hb, .inl ⟨HNO.out, rfl⟩⟩
    have e1 : decide (num < 1) = false := decide_eq_false h1
    by_cases h2 : (9999 : Int) < num
    · have e2 : decide ((9999 : Int) < num) = true := decide_eq_true h2
      clear h1
      go_wp2_with fail
      go_ret2
      exact ⟨bl_trans HB.out hb, .inl ⟨HNO.out, rfl⟩⟩
    have e2 : decide ((9999 : Int) < num) = false := decide_eq_false h2
    clear h1 h2
    go_wp2_with fail
    refine (HR.out _ hb).mono ?_
    rintro e w3 ⟨rfl, hb3⟩
    replace hb := bl_trans hb hb3
    clear hb3
    cases b with
    | false =>
      go_wp2_with fail
      go_ret2
      exact ⟨bl_trans HB.out hb, .inl ⟨HNO.out, rfl⟩⟩
    | true =>
      go_wp2_with fail
      go_ret2
      exact ⟨bl_trans HB.out hb, .inl ⟨HNO.out, rfl⟩⟩
  have HL := Lib.hid hl
  go_enter Tryd.func4, Tryd.ntmps4
  go_wp2_with fail
  rw [← HW0.out]
  refine (HC.out _ hb).mono ?_; rintro e w1 ⟨rfl, hb2⟩
  replace hb := bl_trans hb hb2; clear hb2
  go_wp2_with fail
  refine (HLY.out _ hb hl.1 hl.2 hpc hpc9).mono ?_
  rintro e w2 ⟨la, lc, rfl, hrow, hb2⟩
  have hbw := hb.size
  replace hb := bl_trans hb hb2
  have HROW := Lib.hid (row_base hrow hbw)
  clear hrow hb2 hbw hl
  by_cases h1 : num < 1
  · have e1 : decide (num < 1) = true := decide_eq_true h1
    have HNO := Lib.hid (show ¬ NewOk num rows gs ps from fun h => by have := h.1; omega)
    go_wp2_with fail
    go_ret2
    exact ⟨bl_trans HB.out hb, .inl ⟨HNO.out, rfl⟩⟩
  have e1 : decide (num < 1) = false := decide_eq_false h1
  by_cases h2 : (9999 : Int) < num
  · have e2 : decide ((9999 : Int) < num) = true := decide_eq_true h2
    have HNO := Lib.hid (show ¬ NewOk num rows gs ps from fun h => by have := h.1; omega)
    clear h1
    go_wp2_with fail
    go_ret2
    exact ⟨bl_trans HB.out hb, .inl ⟨HNO.out, rfl⟩⟩
  have e2 : decide ((9999 : Int) < num) = false := decide_eq_false h2
  have H12 := Lib.hid (show 1 ≤ num ∧ num ≤ 9999 by omega)
  clear h1 h2
  go_wp2_with fail
  refine (HR.out _ hb).mono ?_
  rintro e w3 ⟨rfl, hb3⟩
  have HROW3 := Lib.hid (own_keep HROW.out hb3)
  replace hb := bl_trans hb hb3
  clear hb3
  by_cases hR : RightL rows gs
  case neg =>
    have hbf : b = false := by rw [HBE.out, rightB_no hR]
    subst hbf
    have HNO := Lib.hid (show ¬ NewOk num rows gs ps from fun h => hR h.2.1)
    clear hR
    go_wp2_with fail
    go_ret2
    exact ⟨bl_trans HB.out hb, .inl ⟨HNO.out, rfl⟩⟩
  have hbt : b = true := by rw [HBE.out, rightB_yes hR]
  subst hbt
  have HOK := Lib.hid (show NewOk num rows gs ps from ⟨H12.out, hR, HL.out⟩)
  clear hR
  go_wp2_with fail
  refine (cloneI_at a gs cap w3 (HG.out.keep hb) (by omega) hgn).mono ?_
  rintro e w4 ⟨a', c', rfl, hr4, hb4, _⟩
  have hw0s : w0.heap.size = w.heap.size + 1 := by rw [HW0.out, World.size_alloc]
  have hwlt : w.heap.size < w3.heap.size := by have := hb.size; omega
  have HROW4 := Lib.hid (own_keep HROW3.out hb4)
  have HR4 := Lib.hid hr4
  replace hb := bl_trans hb hb4
  have hblk4 := blk_below HBLK.out hb (by omega)
  have yf : w4.frozen? ⟨w.heap.size, 1, none⟩ = false := blk_frozen hblk4 1
  have y1 : w4.cell? ⟨w.heap.size, 1, none⟩ = some (.slice a gs.length cap) := blk_cell hblk4 1
  have hblk5 := blk_set hblk4 1 (.slice a' gs.length c')
  obtain ⟨w5, hw5⟩ : ∃ w5, w5 = w4.setCell ⟨w.heap.size, 1, none⟩ (.slice a' gs.length c') := ⟨_, rfl⟩
  rw [← hw5] at hblk5
  have z0 : w5.cell? ⟨w.heap.size, 0, none⟩ = some (.int .i64 rows) := blk_cell hblk5 0
  have z1 : w5.cell? ⟨w.heap.size, 1, none⟩ = some (.slice a' gs.length c') := blk_cell hblk5 1
  have HB5 := Lib.hid (show Below w.heap.size w w5 by
    rw [hw5]
    exact bl_set (bl_trans HB.out hb) (Nat.le_refl _) _)
  have HG5 := Lib.hid (show w5.ownsRow w.heap.size 3 1 (.slice a' gs.length c') gs.length (intsV gs) from row_base (ownsRow_blk HR4.out fun g hg => by
    rw [hw5]
    have := (HR4.out.lt g hg).1
    exact Below.heap_setCell _ _ _ _ (by show g ≠ w.heap.size; omega)) (by omega))
  have HL5 := Lib.hid (show w5.ownsRow w.heap.size 3 1 (.slice la ps.length lc) ps.length (intsV (limL N ps ps.length)) from row_base (ownsRow_blk HROW4.out fun g hg => by
    rw [hw5]
    have := (HROW4.out.lt g hg).1
    exact Below.heap_setCell _ _ _ _ (by show g ≠ w.heap.size; omega)) (by omega))
  have HW5 := Lib.hid hw5
  clear hr4 hb4 hblk4 hblk5 hw5 hw0s hwlt q0 q1
  have hb5 := HB5.out
  have hn8 := HL.out.2
  go_wp2_with (rw [← HW5.out])
  refine (empty_at num rows a' gs.length c' la ps.length lc w5 hn8).mono ?_
  intro e w6 hE
  rw [HN.out] at HL5
  obtain ⟨p, S, rfl, hF, hI, hS, _, hb6⟩ := new_fl HOK.out hb5.size HG5.out HL5.out hE
  have HF := Lib.hid hF
  have HI := Lib.hid hI
  have HS := Lib.hid hS
  have HB6 := Lib.hid (hb5.trans (hb6.mono hb5.size))
  clear hE hF hI hS hb6 hb5
  go_wp2_with fail
  go_ret2
  exact ⟨HB6.out, .inr ⟨HOK.out, p, S, rfl, HF.out, HI.out, HS.out⟩⟩
end Go.Proofs.YtmnoacjmdnmddaaDoor
