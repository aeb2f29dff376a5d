/- record: records, Scan. Conditions: none. -/
import Derived.Test.YtnmmhggdjlfnfaaSmRange
namespace Go.Proofs.Ytnmmhggdjlfnfaa
open Go.RowKit
theorem BAt.take {w : World} {a : Option Addr} {l : List W8} (h : BAt w a l) (m : Nat) : BAt w a (l.take m) := fun j hj => by
  rw [List.length_take] at hj
  obtain ⟨b, off, e, hc⟩ := h j (by omega)
  refine ⟨b, off, e, ?_⟩
  rw [hc, List.getD_eq_getElem?_getD, List.getD_eq_getElem?_getD, List.getElem?_take, if_pos (by omega)]
theorem BAt.drop {w : World} {b o : Nat} {l : List W8} (h : BAt w (some ⟨b, o, none⟩) l) (m : Nat) : BAt w (some ⟨b, o + m, none⟩) (l.drop m) := fun j hj => by
  rw [List.length_drop] at hj
  obtain ⟨b', off, e, hc⟩ := h (m + j) (by omega)
  injection e with e
  injection e with e1 e2
  subst e1 e2
  refine ⟨b, o + m, rfl, ?_⟩
  rw [List.getD_eq_getElem?_getD, List.getElem?_drop, ← List.getD_eq_getElem?_getD, ← hc, Nat.add_assoc]
theorem BAt.nil (w : World) (a : Option Addr) : BAt w a [] := fun j hj => by simp at hj
/-- Records, one behind the other, from the k-th on. -/
def catR (ls : List (List W8)) : List W8 := (ls.map recB).flatten
theorem catR_cons (l : List W8) (ls : List (List W8)) : catR (l :: ls) = wordB (lenW l) ++ (wordB (checkW l) ++ (l ++ catR ls)) := by
  unfold catR recB
  simp [List.append_assoc]
theorem records_at (a : Option Addr) (n c : Nat) (w : World) :
    Calls Try.prog 15 #[.slice a n c] w fun e w' => e = .returned (.func (.func 19) #[] #[.pointer (some ⟨w.heap.size, 0, none⟩)]) ∧ w.alloc (.cells #[.slice a n c] 25) = w' := by
  go_enter Try.func15, Try.ntmps15
  go_wp2_with fail
  go_ret
  exact ⟨rfl, rfl⟩
def offR (ls : List (List W8)) (k : Nat) : Nat := (catR (ls.take k)).length
abbrev atL (ls : List (List W8)) (k : Nat) : List W8 := ls.getD k []
theorem catR_app (x y : List (List W8)) : catR (x ++ y) = catR x ++ catR y := by
  unfold catR
  rw [List.map_append, List.flatten_append]
theorem catR_drop (ls : List (List W8)) (k : Nat) : (catR ls).drop (offR ls k) = catR (ls.drop k) := by
  have h : catR ls = catR (ls.take k) ++ catR (ls.drop k) := by rw [← catR_app, List.take_append_drop]
  rw [h]
  unfold offR
  rw [List.drop_left]
theorem drop_at (ls : List (List W8)) {k : Nat} (h : k < ls.length) : ls.drop k = atL ls k :: ls.drop (k + 1) := by
  rw [List.drop_eq_getElem_cons h, show atL ls k = ls[k] from by
    unfold atL
    rw [List.getD_eq_getElem?_getD, List.getElem?_eq_getElem h]
    rfl]
theorem offR_len (ls : List (List W8)) (k : Nat) : offR ls k + (catR (ls.drop k)).length = (catR ls).length := by
  have h : catR ls = catR (ls.take k) ++ catR (ls.drop k) := by rw [← catR_app, List.take_append_drop]
  rw [h, List.length_append]
  rfl
theorem catR_at (ls : List (List W8)) {k : Nat} (h : k < ls.length) : (catR (ls.drop k)).length = 8 + (atL ls k).length + (catR (ls.drop (k + 1))).length := by
  rw [drop_at ls h, catR_cons]
  simp [wordB]
  omega
theorem BAt.keepN {w w' : World} {b o N : Nat} {l : List W8} (h : BAt w (some ⟨b, o, none⟩) l) (hb : b < N) (k : Below N w w') : BAt w' (some ⟨b, o, none⟩) l := fun j hj => by
  obtain ⟨b', off, e, hc⟩ := h j hj
  injection e with e
  injection e with e1 e2
  subst e1 e2
  exact ⟨b, o, rfl, (k.cell (p := ⟨b, o + j, none⟩) hb).trans hc⟩
/-- The k-th record's own bytes, as the iterator tells them. -/
def bodyV (b0 o0 c : Nat) (ls : List (List W8)) (k : Nat) : Value := .slice (some ⟨b0, if c - offR ls k = 8 then o0 + offR ls k else o0 + offR ls k + 8, none⟩) (atL ls k).length (c - offR ls k - 8)
/-- What a round keeps: what lay below, and the box. -/
def KpB (n0 Bx : Nat) (A B : World) : Prop := Below n0 A B ∧ B.heap[Bx]? = A.heap[Bx]?
theorem grown_set (A : World) (g : Nat) (v : Value) : A.grownBy (A.setCell ⟨g, 0, none⟩ v) (some g) := ⟨rfl, rfl, rfl, by simp [World.setCell], fun k _ hn => Below.heap_setCell A ⟨g, 0, none⟩ v k (fun e => hn (by rw [e]))⟩
theorem grown_below {A B : World} (h : Below A.heap.size A B) {r : Option Nat} : A.grownBy B r := ⟨h.os, h.tape, h.output, h.size, fun k hk _ => h.block k hk⟩
set_option maxRecDepth 100000 in
set_option maxHeartbeats 4000000 in
theorem records1_iter (ls : List (List W8)) (a : Option Addr) (b0 o0 c n0 Bx : Nat) (w : World) (ha : 0 < ls.length → a = some ⟨b0, o0, none⟩ ∧ BAt w a (catR ls)) (hb0 : b0 < n0) (hn0 : n0 ≤ Bx) (hbx : w.heap[Bx]? = some (.cells #[.slice a (catR ls).length c] 25 (0, 0)))
    (hc : (catR ls).length ≤ c) (hc9 : c ≤ 9223372036854775807) (hcl : (catR ls).length ≤ 1099511627776) (hl : ∀ j, j < ls.length → (atL ls j).length ≤ 65536) :
    Iter Try.prog 3 19 #[.pointer (some ⟨Bx, 0, none⟩)] (fun k => #[bodyV b0 o0 c ls k]) (KpB n0 Bx) ls.length Bx w := by
  intro l J W hW hJ hY h0
  refine callsIn_wide.2 ?_
  have hnx : n0 ≤ w.heap.size := by have := blk_lt hbx; omega
  have HHA := Lib.hid ha
  have HBX := Lib.hid (blk_below hbx hW (blk_lt hbx))
  have HW := Lib.hid (hW.mono hnx)
  have HJ := Lib.hid hJ
  have HY := Lib.hid hY
  have H0 := Lib.hid h0
  have HC := Lib.hid hc
  have HLL := Lib.hid hl
  have HCL9 := Lib.hid hcl
  obtain ⟨N, hN⟩ : ∃ N, N = ls.length := ⟨_, rfl⟩
  rw [← hN] at HHA HY HLL ⊢
  have HN := Lib.hid hN
  clear ha hbx hW hJ hY h0 hc hl hN hcl
  go_enter Try.func19, Try.ntmps19
  go_wp2_with fail
  go_loopg [3] N (fun g v3 wr => ∃ k : Nat, k ≤ N ∧ g = N - k ∧ J k wr ∧ Below n0 w wr ∧ ∃ a' c', wr.heap[Bx]? = some (.cells #[.slice a' (catR (ls.drop k)).length c'] 25 (0, 0)) ∧ (k < N → a' = some ⟨b0, o0 + offR ls k, none⟩ ∧ c' = c - offR ls k))
  case atStart => exact ⟨0, by omega, by omega, H0.out, HW.out, a, c, HBX.out, fun h => ⟨(HHA.out h).1, rfl⟩⟩
  case round =>
    obtain ⟨k, hk0, hgk, hj, hb, a', c', hbx, hac⟩ := hrel
    have HGK := Lib.hid hgk
    have HJK := Lib.hid hj
    have HB := Lib.hid hb
    have HBK := Lib.hid hbx
    clear hgk hj hb hbx
    by_cases hk : k < N
    case neg =>
      obtain rfl : k = N := by omega
      have HE := Lib.hid HBK.out
      have h1 := HBK.out
      rw [HN.out, List.drop_length] at h1
      have y0 := blk_cell h1 0
      have HN2 := Lib.hid h1
      replace y0 : wr.cell? ⟨Bx, 0, none⟩ = some (.slice a' 0 c') := y0
      clear h1 hac
      go_wp2_with fail
      exact ⟨rfl, _, results_none rfl _ _ _, ⟨_, rfl⟩, HJK.out⟩
    obtain ⟨rfl, hc'⟩ := hac hk
    have hkl : k < ls.length := by rw [← HN.out]; exact hk
    have hlen := catR_at ls hkl
    have hofl := offR_len ls k
    have HBT := Lib.hid ((HHA.out (by omega)).1 ▸ (HHA.out (by omega)).2 : BAt w (some ⟨b0, o0, none⟩) (catR ls))
    have hbt := ((HBT.out.drop (offR ls k)).keepN hb0 HB.out)
    rw [catR_drop] at hbt
    obtain ⟨x, hx⟩ : ∃ x, x = atL ls k := ⟨_, rfl⟩
    obtain ⟨m, hm⟩ : ∃ m, m = x.length := ⟨_, rfl⟩
    obtain ⟨M2, hM2⟩ : ∃ M2, M2 = (catR (ls.drop (k + 1))).length := ⟨_, rfl⟩
    obtain ⟨M, hM⟩ : ∃ M, M = (catR (ls.drop k)).length := ⟨_, rfl⟩
    obtain ⟨ok, hok⟩ : ∃ ok, ok = o0 + offR ls k := ⟨_, rfl⟩
    have hm6 := HLL.out k hk
    rw [← hx] at hlen hm6
    rw [← hm] at hlen hm6
    rw [← hM2, ← hM] at hlen
    rw [← hM] at HBK hofl
    rw [← hok] at HBK hbt
    have hMc : M ≤ c' := by have := HC.out; omega
    have hc9' : c' ≤ 9223372036854775807 := by omega
    have hc9i : (c' : Int) ≤ 9223372036854775807 := by omega
    have hM9 : M ≤ 1099511627776 := by have := HCL9.out; omega
    have hM9i : (M : Int) ≤ 1099511627776 := by omega
    have hM8 : 8 ≤ M := by omega
    have y0 : wr.cell? ⟨Bx, 0, none⟩ = some (.slice (some ⟨b0, ok, none⟩) M c') := blk_cell HBK.out 0
    have z1 : decide ((8 : Int) ≤ (M : Int)) = true := decide_eq_true (by omega)
    have z1' : decide (8 ≤ M) = true := decide_eq_true hM8
    have HM := Lib.hid hlen
    have hR : catR (ls.drop k) = wordB (lenW x) ++ (wordB (checkW x) ++ (x ++ catR (ls.drop (k + 1)))) := by rw [drop_at ls hkl, catR_cons, hx]
    rw [hR] at hbt
    have hbt0 : BAt wr (some ⟨b0, ok, none⟩) (wordB (lenW x)) := by have := hbt.take 4; exact this
    have hbt1 : BAt wr (some ⟨b0, ok + 4, none⟩) (wordB (checkW x)) := by have := (hbt.drop 4).take 4; exact this
    have hbt2 : BAt wr (some ⟨b0, ok + 8, none⟩) x := by
      have := (hbt.drop 8).take x.length
      rw [show List.drop 8 (wordB (lenW x) ++ (wordB (checkW x) ++ (x ++ catR (List.drop (k + 1) ls)))) = x ++ catR (List.drop (k + 1) ls) from rfl, List.take_left] at this
      exact this
    have hnl : (((numB (wordB (lenW x))).toNat : Nat) : Int) = (m : Int) := by rw [num_word]; unfold lenW; rw [BitVec.toNat_ofNat, ← hm]; omega
    have HNUM := Lib.hid (show ∀ V, Below wr.heap.size wr V → Calls Try.prog 20 #[.slice (some ⟨b0, ok, none⟩) 4 c'] V fun e V' => e = .returned (.int .u32 (m : Int)) ∧ Below V.heap.size V V' from fun V hV => by
      have := number_at (some ⟨b0, ok, none⟩) (wordB (lenW x)) c' V (hbt0.keep hV) (show (4 : Nat) ≤ _ by decide)
      rw [hnl] at this
      exact this)
    obtain ⟨s2, hs2⟩ : ∃ s2, s2 = checkW x := ⟨_, rfl⟩
    obtain ⟨s1, hs1⟩ : ∃ s1, s1 = sumC (wordB (lenW x)) := ⟨_, rfl⟩
    have HSUM := Lib.hid (show ∀ V, Below wr.heap.size wr V → Calls Try.prog 4 #[.slice (some ⟨b0, ok, none⟩) 4 c'] V fun e V' => e = .returned (.int .u32 (s1.toNat : Int)) ∧ Below V.heap.size V V' from fun V hV => by
      rw [hs1]
      exact sum_at (some ⟨b0, ok, none⟩) (wordB (lenW x)) c' V (hbt0.keep hV) (show (4 : Nat) ≤ _ by decide))
    have HNU2 := Lib.hid (show ∀ V cc, Below wr.heap.size wr V → Calls Try.prog 20 #[.slice (some ⟨b0, ok + 4, none⟩) 4 cc] V fun e V' => e = .returned (.int .u32 (s2.toNat : Int)) ∧ Below V.heap.size V V' from fun V cc hV => by
      have := number_at (some ⟨b0, ok + 4, none⟩) (wordB (checkW x)) cc V (hbt1.keep hV) (show (4 : Nat) ≤ _ by decide)
      rw [num_word, ← hs2] at this
      exact this)
    have HADD := Lib.hid (show ∀ V oo cc, Below wr.heap.size wr V → (oo = ok + 8 ∨ m = 0) → Calls Try.prog 9 #[.int .u32 (s1.toNat : Int), .slice (some ⟨b0, oo, none⟩) m cc] V fun e V' => e = .returned (.int .u32 (s2.toNat : Int)) ∧ Below V.heap.size V V' from fun V oo cc hV ho => by
      have hb9 : BAt wr (some ⟨b0, oo, none⟩) x := by
        rcases ho with rfl | h0
        · exact hbt2
        · rw [List.eq_nil_of_length_eq_zero (hm.symm.trans h0)]; exact BAt.nil _ _
      have := add_at s1 (some ⟨b0, oo, none⟩) x cc V (hb9.keep hV) (by omega)
      rw [← hm, hs1] at this
      rw [hs1, hs2]
      exact this)
    obtain ⟨d1, hd1⟩ : ∃ d1 : Int, d1 = (M : Int) - 8 := ⟨_, rfl⟩
    have z2 : decide ((65536 : Int) < (m : Int)) = false := decide_eq_false (by omega)
    have z2' : decide (65536 < m) = false := decide_eq_false (by omega)
    have z3 : decide ((M : Int) - 8 < (m : Int)) = false := decide_eq_false (by omega)
    have hm8 : 8 + (m : Int) ≤ (c' : Int) := by omega
    have hm80 : (0 : Int) ≤ 8 + (m : Int) := by omega
    have hb := Below.refl wr.heap.size wr
    have yB : ∀ V, Below wr.heap.size wr V → V.cell? ⟨Bx, 0, none⟩ = some (.slice (some ⟨b0, ok, none⟩) M c') := fun V hV => cell_keep hV y0
    have HXE := Lib.hid hx
    have HME := Lib.hid hm
    have HOK := Lib.hid hok
    have HC' := Lib.hid hc'
    have HM2 := Lib.hid hM2
    have HMM := Lib.hid hM
    have HKL := Lib.hid hkl
    clear hofl hbt hbt0 hbt1 hbt2 hnl hR hs1 hs2 hx hm hok hc' hM2 hM hlen hkl y0 hac hd1
    go_wp2_with fail
    refine (HNUM.out _ hb).mono ?_
    rintro e w1 ⟨rfl, hb1⟩
    replace hb := bl_trans hb hb1
    clear hb1
    go_upto_region 3 with fail
    go_cut [4] (fun s4 wx => (∃ bo c8, s4 = .slice (some ⟨b0, bo, none⟩) m c8 ∧ bodyV b0 o0 c ls k = .slice (some ⟨b0, bo, none⟩) m c8 ∧ (bo = ok + 8 ∨ m = 0)) ∧ w1 = wx)
    case first =>
      by_cases hc8 : c' = 8
      · have hm0 : m = 0 := by have := HM.out; omega
        have HBV := Lib.hid (show bodyV b0 o0 c ls k = .slice (some ⟨b0, ok, none⟩) m 0 by
          unfold bodyV
          rw [← HC'.out, if_pos hc8, ← HXE.out, ← HME.out, ← HOK.out, hc8])
        have HM0 := Lib.hid hm0
        clear hm0
        go_wp2_with fail
        go_meet
        exact ⟨⟨_, _, by rw [Nat.add_sub_cancel_left], HBV.out, .inr HM0.out⟩, rfl⟩
      · have HBV := Lib.hid (show bodyV b0 o0 c ls k = .slice (some ⟨b0, ok + 8, none⟩) m (c' - 8) by
          unfold bodyV
          rw [← HC'.out, if_neg hc8, ← HXE.out, ← HME.out, ← HOK.out])
        go_wp2_with fail
        go_meet
        exact ⟨⟨_, _, by rw [Nat.add_sub_cancel_left], HBV.out, .inl rfl⟩, rfl⟩
    case rest =>
    obtain ⟨⟨bo, c8, rfl, hbv, hbo⟩, rfl⟩ := hcut
    have hmix : Try.prog.follows .mixedOrders = true := by kernel_rfl
    have HKK := Lib.hid hbo
    have HYA := Lib.hid (show ∀ V, Below wr.heap.size wr V → YieldAt Fence.wide 2 Try.prog l #[.slice (some ⟨b0, bo, none⟩) m c8] V fun e B => e = .returned (.bool true) ∧ J (k + 1) B ∧ KpB n0 Bx V B from fun V hV => by
      have h9 := HY.out k V (HJ.out k wr V HJK.out (grown_below hV)) hk
      rw [hbv] at h9
      exact h9)
    clear hbo hbv
    go_upto_region 4 with fail
    go_cut [40] (fun s40 wx => s40 = .bool false ∧ J (k + 1) wx ∧ ∃ wc, Below wr.heap.size wr wc ∧ KpB n0 Bx wc wx)
    case first =>
      have hbd := hb.drew
      refine (wpIn_wide (n := 3)).1 ?_
      gi_region_with_o (first | (refine ⟨trivial, ?_⟩; refine (callsIn_wide.2 (HSUM.out _ (by assumption))).mono ?_; rintro e wa ⟨rfl, hba⟩; have hbA := bl_trans (by assumption) hba) | (refine ⟨trivial, ?_⟩; refine (callsIn_wide.2 (HADD.out _ _ _ (by assumption) HKK.out)).mono ?_; rintro e wb ⟨rfl, hbb⟩; have hbB := bl_trans (by assumption) hbb) | (refine ⟨trivial, ?_⟩; refine (callsIn_wide.2 (HNU2.out _ _ (by assumption))).mono ?_; rintro e wc ⟨rfl, hbc⟩; have hbC := bl_trans (by assumption) hbc; obtain ⟨fn9, tm9, as9, bd9, hy9, hR9⟩ := HYA.out _ hbC) | (refine hR9.mono ?_; rintro e wd ⟨rfl, hjd, hkd⟩))
      all_goals
        first
          | (go_simp; go_meet; exact ⟨rfl, hjd, _, hbC, hkd⟩)
          | (gi_wp2; go_meet; exact ⟨rfl, hjd, _, hbC, hkd⟩)
          | (go_at_K; go_meet; exact ⟨rfl, hjd, _, hbC, hkd⟩)
    case rest =>
      obtain ⟨rfl, hj, V, hV, hK1, hK2⟩ := hcut
      have hbx := hK2.trans (blk_below HBK.out hV (blk_lt HBK.out))
      have hBn : n0 ≤ wr.heap.size := by have := HB.out.size; omega
      have hbn := (HB.out.trans (hV.mono hBn)).trans hK1
      have y0 : wc.cell? ⟨Bx, 0, none⟩ = some (.slice (some ⟨b0, ok, none⟩) M c') := blk_cell hbx 0
      have yf : wc.frozen? ⟨Bx, 0, none⟩ = false := blk_frozen hbx 0
      have hm9 : (8 : Int) + (m : Int) ≤ (M : Int) := by have := HM.out; omega
      have hm9' : 8 + m ≤ M := by have := HM.out; omega
      have HFIN := Lib.hid (show ∀ A C, (k + 1 < N → A = some ⟨b0, o0 + offR ls (k + 1), none⟩ ∧ C = c - offR ls (k + 1)) → J (k + 1) (wc.setCell ⟨Bx, 0, none⟩ (.slice A (M - (8 + m)) C)) ∧ Below n0 w (wc.setCell ⟨Bx, 0, none⟩ (.slice A (M - (8 + m)) C)) ∧
          ∃ a' c', (wc.setCell ⟨Bx, 0, none⟩ (.slice A (M - (8 + m)) C)).heap[Bx]? = some (.cells #[.slice a' (catR (ls.drop (k + 1))).length c'] 25 (0, 0)) ∧ (k + 1 < N → a' = some ⟨b0, o0 + offR ls (k + 1), none⟩ ∧ c' = c - offR ls (k + 1)) from fun A C hA => by
        refine ⟨HJ.out (k + 1) wc _ hj (grown_set wc Bx _), hbn.setCell (p := ⟨Bx, 0, none⟩) hn0 _, A, C, ?_, hA⟩
        rw [blk_set hbx 0, ← HM2.out, show M - (8 + m) = M2 by have := HM.out; omega]
        rfl)
      have HOF := Lib.hid (show offR ls (k + 1) = offR ls k + (8 + m) by
        have h1 := offR_len ls k
        have h2 := offR_len ls (k + 1)
        have h3 := HM.out
        have h4 := HM2.out
        have h5 := HMM.out
        omega)
      have HNX := Lib.hid (show k + 1 < N → 8 ≤ M2 from fun h => by
        have := catR_at ls (k := k + 1) (by rw [← HN.out]; exact h)
        have := HM2.out
        omega)
      clear hj hV hK1 hK2 hbx hBn yB HNUM HSUM HADD HNU2 HYA hb hmix z1 z1' z2 z2' z3 hbn
      go_wp2_with fail
      all_goals
        go_roundg (N - (k + 1))
        case measure => have := HGK.out; omega
        case rel =>
          refine ⟨k + 1, by omega, rfl, ?_⟩
          first
            | exact HFIN.out _ _ (fun h => ⟨by rw [HOK.out, HOF.out, Nat.add_assoc], by have h1 := HC'.out; have h2 := HOF.out; omega⟩)
            | exact HFIN.out _ _ (fun h => absurd (HNX.out h) (by have h1 := HM.out; omega))
end Go.Proofs.Ytnmmhggdjlfnfaa
