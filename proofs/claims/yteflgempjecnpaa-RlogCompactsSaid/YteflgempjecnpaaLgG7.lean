/- rlog: Merge. Conditions: none. -/
import Derived.Test.YteflgempjecnpaaLgG6
namespace Go.Proofs.Yteflgempjecnpaa
open Go.RowKit

theorem GX.more2 {B : Nat} {w : World} {p : Nat} {L : List Ent} {com app : Int} {v : Value} (h : GX B w p L com app v) {L' : List Ent} {v' : Value} {w2 : World} {row : Option Nat} (hown : w2.ownsRow B 45 4 v' L'.length (entsC L')) (hg : w.grownBy w2 row)
    (hrow : row = none ∨ row = v.ownBlock) (hat : v'.ownBlock = v.ownBlock ∨ ∃ g, v'.ownBlock = some g ∧ w.heap.size ≤ g) (hd : ∀ i, i < L'.length → Own8 w2 (atE L' i).d) : GX B (w2.setCell ⟨p, 0, none⟩ v') p L' com app v' := by
  have hwb := row_wb h.row h.blk (by decide)
  have hpr : row ≠ some p := by
    rcases hrow with e | e
    · rw [e]; simp
    · rw [e]; exact hwb
  have hb2 : w2.heap[p]? = some (.cells #[v, .int .i64 com, .int .i64 app] 65 (0, 0)) := (hg.block p (blk_lt h.blk) (Ne.symm hpr)).trans h.blk
  have hp' : ∀ g, v'.ownBlock = some g → g ≠ p := fun g hg' e => by
    subst e
    rcases hat with h5 | ⟨g', h5, h6⟩
    · exact hwb (by rw [← h5]; exact hg')
    · rw [hg'] at h5
      injection h5 with h5
      have := blk_lt h.blk
      omega
  have hM : Chg [p] w2 (w2.setCell ⟨p, 0, none⟩ v') := (Chg.refl _ w2).set (p := ⟨p, 0, none⟩) (.inl (by simp)) _
  exact ⟨blk_set hb2 0 v', h.hB, ownsRow_blk hown fun g hg' => Below.heap_setCell _ _ _ _ (hp' g hg'), fun i hi => (hd i hi).keep hM (fun x hx => by rw [List.mem_singleton.1 hx]; exact ⟨_, _, _, hb2, by decide⟩)⟩
/-- From where on entries count. -/
def Cut (L : List Ent) (i t : Int) (l : List Ent) (d : Nat) (i2 t2 : Int) : Prop :=
  (i < bE L ∧ bE L - l.length < i ∧ d = (bE L - i).toNat ∧ i2 = bE L ∧ t2 = (atE L 0).tm ∧ (atE L 0).tm ≤ (atE l d).tm) ∨ (bE L ≤ i ∧ d = 0 ∧ i2 = i ∧ t2 = t)
/-- What Merge answers, and from which entry on it puts. -/
def MR (L : List Ent) (com i t : Int) (l : List Ent) (n e : Int) (put : Option Nat) : Prop :=
  (((∃ k, k < l.length ∧ oddE (atE l k) = true) ∨ followE l i t = false) ∧ n = 0 ∧ e = 1 ∧ put = none) ∨
  ((∀ j, j < l.length → oddE (atE l j) = false) ∧ followE l i t = true ∧
    ((i < bE L ∧ i ≤ bE L - l.length ∧ n = 0 ∧ e = 0 ∧ put = none) ∨
     (i < bE L ∧ ¬ i ≤ bE L - l.length ∧ (atE l (bE L - i).toNat).tm < (atE L 0).tm ∧ n = 0 ∧ e = 7 ∧ put = none) ∨
     ∃ d i2 t2, Cut L i t l d i2 t2 ∧
      ((termE L i2 ≠ some t2 ∧ n = 0 ∧ e = 7 ∧ put = none) ∨
       (termE L i2 = some t2 ∧ (∀ j, d ≤ j → j < l.length → unlikeE L (atE l j) = false) ∧ n = 0 ∧ e = 0 ∧ put = none) ∨
       (termE L i2 = some t2 ∧ ∃ m, d ≤ m ∧ m < l.length ∧ unlikeE L (atE l m) = true ∧ (∀ j, d ≤ j → j < m → unlikeE L (atE l j) = false) ∧
         (((atE l m).ix ≤ com ∧ n = 0 ∧ e = 9 ∧ put = none) ∨ (com < (atE l m).ix ∧ n = (atE l m).ix ∧ e = 0 ∧ put = some m))))))
/-- The log behind it. -/
def MEnd (B : Nat) (w : World) (p : Nat) (L : List Ent) (com app : Int) (v : Value) (l : List Ent) (put : Option Nat) (w' : World) : Prop :=
  match put with
  | none => Below w.heap.size w w'
  | some m => ∃ l' v', Sames (l.drop m) l' ∧ GX B w' p (L.take ((atE l m).ix - bE L).toNat ++ l') com app v' ∧ Good (L.take ((atE l m).ix - bE L).toNat ++ l') com app ∧ Chg (gM p v) w w' ∧ ∃ g, v'.ownBlock = some g ∧ w.heap.size ≤ g
def MPost (B : Nat) (w : World) (p : Nat) (L : List Ent) (com app : Int) (v : Value) (i t : Int) (l : List Ent) (e : Ending) (w' : World) : Prop :=
  ∃ n er put, e = .returned (.tuple #[.int .i64 n, .int .i64 er]) ∧ MR L com i t l n er put ∧ MEnd B w p L com app v l put w'
theorem like_term {L : List Ent} {x : Ent} (h : unlikeE L x = false) : termE L x.ix = some x.tm := by
  unfold unlikeE at h
  simpa using h
theorem term_in {L : List Ent} {i t : Int} (h : termE L i = some t) : bE L ≤ i ∧ i ≤ bE L + L.length - 1 := by
  unfold termE at h
  split at h
  · next hh => exact ⟨hh.1, by have := hh.2; have e : bE L = (atE L 0).ix := rfl; omega⟩
  · cases h
/-- Where the first one stands that is put. -/
theorem put_place {L : List Ent} {com app i t : Int} {l : List Ent} {d m : Nat} {i2 t2 : Int} (hG : Good L com app) (hf : followE l i t = true) (hc : Cut L i t l d i2 t2) (ht : termE L i2 = some t2) (hdm : d ≤ m) (hm : m < l.length)
    (hno : ∀ j, d ≤ j → j < m → unlikeE L (atE l j) = false) : (atE l m).ix ≤ bE L + L.length ∧ (atE l m).ix = i + 1 + m := by
  have h1 := follow_at hf m hm
  refine ⟨?_, h1⟩
  by_cases e : d = m
  · subst e
    have h2 := term_in ht
    rcases hc with ⟨c1, c2, c3, c4, _⟩ | ⟨c1, c2, c3, _⟩ <;> omega
  · have h2 := term_in (like_term (hno (m - 1) (by omega) (by omega)))
    have h3 := follow_at hf (m - 1) (by omega)
    omega
theorem good_put {L : List Ent} {com app i t : Int} {l l' : List Ent} {m : Nat} (hG : Good L com app) (hno : ∀ j, j < l.length → oddE (atE l j) = false) (hf : followE l i t = true) (hm : m < l.length) (hcm : com < (atE l m).ix) (hle : (atE l m).ix ≤ bE L + L.length)
    (hs : Sames (l.drop m) l') (hsz : L.length + l.length ≤ 200000) : Good (L.take ((atE l m).ix - bE L).toNat ++ l') com app := by
  have h0 := hG.c0
  have h1 := hG.c1
  have hb : bE L = (atE L 0).ix := rfl
  have h2 := follow_at hf m hm
  have hl : l'.length = l.length - m := by rw [hs.1, List.length_drop]
  obtain ⟨q, hq⟩ : ∃ q : Nat, (atE l m).ix = bE L + q := ⟨((atE l m).ix - bE L).toNat, by omega⟩
  rw [show ((atE l m).ix - bE L).toNat = q by omega]
  refine hG.cut (m := q) (by omega) (by omega) (by omega) (by omega) (fun j hj => ?_)
  have h3 := hs.2 j (by rw [List.length_drop]; omega)
  have h4 := odd_no (hno (m + j) (by omega))
  have h5 := follow_at hf (m + j) (by omega)
  rw [h3.ix, h3.tm, atE_drop]
  omega
set_option maxRecDepth 100000 in
set_option maxHeartbeats 4000000 in
theorem merge_at {B : Nat} {w : World} {p : Nat} {L : List Ent} {com app : Int} {v : Value} (h : GX B w p L com app v) (hG : Good L com app) (i t : Int) (a : Option Addr) (l : List Ent) (c : Nat) (hi : In w a l) (hcap : l.length ≤ c) (hsz : L.length + l.length ≤ 200000) :
    Calls Try.prog 12 #[.pointer (some ⟨p, 0, none⟩), .int .i64 i, .int .i64 t, .slice a l.length c] w fun e w' => MPost B w p L com app v i t l e w' := by
  obtain ⟨ea, ec, rfl⟩ := h.rowE hG.ne
  have hb0 := bl_alloc (Below.refl w.heap.size w) (.cells #[.pointer (some ⟨p, 0, none⟩)] 25)
  have hbk := blk_new w (.cells #[.pointer (some ⟨p, 0, none⟩)] 25) rfl
  have h0 := h.below hb0
  have hi0 := hi.keep hb0
  obtain ⟨w0, hw0⟩ : ∃ w0, w0 = w.alloc (.cells #[.pointer (some ⟨p, 0, none⟩)] 25) := ⟨_, rfl⟩
  rw [← hw0] at hb0 hbk h0 hi0
  have HW0 := Lib.hid hw0
  have HB0 := Lib.hid hb0
  have HX := Lib.hid h
  have HX0 := Lib.hid h0
  have HG := Lib.hid hG
  have HI := Lib.hid hi0
  have HS := Lib.hid hsz
  have HCAP := Lib.hid hcap
  have q0 : ∀ W, Below w0.heap.size w0 W → W.cell? ⟨w.heap.size, 0, none⟩ = some (.pointer (some ⟨p, 0, none⟩)) := fun W h => blk_cell (blk_below hbk h (blk_lt hbk)) 0
  obtain ⟨LN, hLN⟩ : ∃ LN, LN = L.length := ⟨_, rfl⟩
  have HLN := Lib.hid hLN
  have hLN1 : (1 : Int) ≤ LN := by have := hG.ne; omega
  have c0 : ∀ W, Below w0.heap.size w0 W → W.cell? ⟨p, 0, none⟩ = some (.slice (some ⟨ea, 0, none⟩) LN ec) := fun W k => by rw [HLN.out]; exact blk_cell (blk_below HX0.out.blk k (blk_lt HX0.out.blk)) 0
  have c1 : ∀ W, Below w0.heap.size w0 W → W.cell? ⟨p, 1, none⟩ = some (.int .i64 com) := fun W k => blk_cell (blk_below HX0.out.blk k (blk_lt HX0.out.blk)) 1
  obtain ⟨x0, hx0⟩ : ∃ x0, x0 = atE L 0 := ⟨_, rfl⟩
  have hL0 : 0 < L.length := by have := hG.ne; omega
  have e0 : ∀ W, Below w0.heap.size w0 W → W.cell? ⟨ea, 0, none⟩ = some (.int .i64 x0.ix) := fun W k' => by rw [hx0]; exact cell_keep k' (HX0.out.ent hL0 (j := 0) rfl)
  have e1 : ∀ W, Below w0.heap.size w0 W → W.cell? ⟨ea, 1, none⟩ = some (.int .i64 x0.tm) := fun W k' => by rw [hx0]; exact cell_keep k' (HX0.out.ent hL0 (j := 1) rfl)
  have e2 : ∀ W, Below w0.heap.size w0 W → W.cell? ⟨ea, 2, none⟩ = some (.int .i64 x0.kd) := fun W k' => by rw [hx0]; exact cell_keep k' (HX0.out.ent hL0 (j := 2) rfl)
  have e3 : ∀ W, Below w0.heap.size w0 W → W.cell? ⟨ea, 3, none⟩ = some (.slice x0.d.a x0.d.bs.length x0.d.c) := fun W k' => by rw [hx0]; exact cell_keep k' (HX0.out.ent hL0 (j := 3) rfl)
  obtain ⟨b, hbx⟩ : ∃ b, b = x0.ix := ⟨_, rfl⟩
  obtain ⟨tb, htb⟩ : ∃ tb, tb = x0.tm := ⟨_, rfl⟩
  obtain ⟨kb, hkb⟩ : ∃ kb, kb = x0.kd := ⟨_, rfl⟩
  obtain ⟨da, hda⟩ : ∃ da, da = x0.d.a := ⟨_, rfl⟩
  obtain ⟨dn, hdn⟩ : ∃ dn, dn = x0.d.bs.length := ⟨_, rfl⟩
  obtain ⟨dc, hdc⟩ : ∃ dc, dc = x0.d.c := ⟨_, rfl⟩
  rw [← hbx] at e0
  rw [← htb] at e1
  rw [← hkb] at e2
  rw [← hda, ← hdn, ← hdc] at e3
  have HBE := Lib.hid (show bE L = b by rw [hbx, hx0])
  have HTB := Lib.hid (show (atE L 0).tm = tb by rw [htb, hx0])
  have bb0 : 0 ≤ b := by rw [hbx, hx0]; exact hG.b0
  have bb1 : b ≤ 1099511627776 := by have h1 := hG.top; unfold maxI at h1; rw [hbx, hx0]; omega
  obtain ⟨n, hn⟩ : ∃ n, n = l.length := ⟨_, rfl⟩
  have HNL := Lib.hid hn
  have hn9 : (n : Int) ≤ 200000 := by omega
  have hnc : n ≤ c := by omega
  have hA := anyOdd_at a l c w0 HI.out.e (by have := HS.out; unfold maxLen; omega) (fun j hj => (HI.out.d j hj).2.1)
  rw [← hn] at hA ⊢
  have HA := Lib.hid hA
  have hb := Below.refl w0.heap.size w0
  clear h hG hi hcap hsz hb0 hbk h0 hi0 hw0 hLN hx0 hL0 hbx htb hkb hda hdn hdc hn hA
  go_enter Try.func12, Try.ntmps12
  go_upto_region 1 with fail
  rw [← HW0.out]
  go_wp2_with fail
  refine HA.out.mono ?_
  rintro e w1 ⟨⟨bo, rfl, hbo⟩, hb1⟩
  replace hb := bl_trans hb hb1
  clear hb1
  rcases hbo with ⟨rfl, hex⟩ | ⟨rfl, hno⟩
  · have HEX := Lib.hid hex
    clear hex
    go_wp2_with fail
    go_ret2
    exact ⟨0, 1, none, rfl, .inl ⟨.inl HEX.out, rfl, rfl, rfl⟩, bl_trans HB0.out hb⟩
  have HNO := Lib.hid hno
  have hfo := follow_at' a l c i t w1 (HI.out.keep hb).e (by have := HS.out; unfold maxLen; omega) hno
  rw [← HNL.out] at hfo
  have HF := Lib.hid hfo
  clear hno hfo
  go_wp2_with fail
  refine HF.out.mono ?_
  rintro e w2 ⟨rfl, hb1⟩
  replace hb := bl_trans hb hb1
  clear hb1
  cases hfw : followE l i t with
  | false =>
    have HFW := Lib.hid hfw
    clear hfw
    go_wp2_with fail
    go_ret2
    exact ⟨0, 1, none, rfl, .inl ⟨.inr HFW.out, rfl, rfl, rfl⟩, bl_trans HB0.out hb⟩
  | true =>
  have HFW := Lib.hid hfw
  clear hfw
  go_upto_region 4 with fail
  change Code.wp _ _ _ _ (w2.alloc (.cells #[.int .i64 b, .int .i64 tb, .int .i64 kb, .slice da dn dc] 45))
  have hk3 : (w2.alloc (.cells #[.int .i64 b, .int .i64 tb, .int .i64 kb, .slice da dn dc] 45)).heap[w2.heap.size]? = some (.cells #[.int .i64 b, .int .i64 tb, .int .i64 kb, .slice da dn dc] 45) := blk_new w2 _ rfl
  replace hb := bl_alloc hb (.cells #[.int .i64 b, .int .i64 tb, .int .i64 kb, .slice da dn dc] 45)
  obtain ⟨nb, hnb⟩ : ∃ nb, nb = w2.heap.size := ⟨_, rfl⟩
  obtain ⟨W3, hW3⟩ : ∃ W3, W3 = w2.alloc (.cells #[.int .i64 b, .int .i64 tb, .int .i64 kb, .slice da dn dc] 45) := ⟨_, rfl⟩
  rw [← hW3] at hb
  rw [← hW3, ← hnb] at hk3 ⊢
  have HK3 := Lib.hid hk3
  clear hW3 hnb hk3
  by_cases hlow : i < b
  case neg =>
    have dl : decide (i < b) = false := decide_eq_false hlow
    have z0 := blk_cell HK3.out 0
    simp only [List.getElem?_toArray, List.getElem?_cons_zero, List.getElem?_cons_succ] at z0
    obtain ⟨d, hd⟩ : ∃ d : Nat, d = 0 := ⟨_, rfl⟩
    obtain ⟨i2, hi2⟩ : ∃ i2, i2 = i := ⟨_, rfl⟩
    obtain ⟨t2, ht2⟩ : ∃ t2, t2 = t := ⟨_, rfl⟩
    obtain ⟨a2, ha2⟩ : ∃ a2, a2 = a := ⟨_, rfl⟩
    obtain ⟨n2, hn2⟩ : ∃ n2, n2 = n := ⟨_, rfl⟩
    obtain ⟨c2, hc2⟩ : ∃ c2, c2 = c := ⟨_, rfl⟩
    have HCUT := Lib.hid (show Cut L i t l d i2 t2 from .inr ⟨by have := HBE.out; omega, hd, hi2, ht2⟩)
    have HE2 := Lib.hid (show EA w0 a2 (l.drop d) by rw [hd, ha2]; exact HI.out.e)
    have HN2 := Lib.hid (show n2 = (l.drop d).length by rw [hd, hn2, HNL.out]; rfl)
    have HC2 := Lib.hid (show n2 ≤ c2 by rw [hn2, hc2]; exact hnc)
    clear hlow
    go_wp2_with fail
    rw [← hi2, ← ht2, ← ha2, ← hn2, ← hc2]
    clear hi2 ht2 ha2 hn2 hc2 hd z0
    -- i2 t2 a2 n2 c2 d: HCUT, HE2 (entries behind d at w0), HN2, hc2
    have ht := term_at (HX0.out.below hb) HG.out i2
    obtain ⟨tr, htr⟩ : ∃ tr, tr = termR L i2 := ⟨_, rfl⟩
    rw [← htr] at ht
    have HTR := Lib.hid htr
    obtain ⟨tt, ti⟩ := tr
    have HT := Lib.hid ht
    simp only at HT
    clear ht htr
    try go_wp2_with fail
    refine HT.out.mono ?_
    rintro e w5 ⟨rfl, hb5⟩
    replace hb := bl_trans hb hb5
    clear hb5
    have hte : termE L i2 = if ti = true then some tt else none := by
      have h := HTR.out
      unfold termR at h
      cases hh : termE L i2 with
      | none => rw [hh] at h; injection h with h1 h2; subst h2; rfl
      | some q => rw [hh] at h; injection h with h1 h2; subst h1 h2; rfl
    have HTE := Lib.hid hte
    clear hte
    cases ti with
    | false =>
      go_wp2_with fail
      go_ret2
      exact ⟨0, 7, none, rfl, .inr ⟨HNO.out, HFW.out, .inr (.inr ⟨d, i2, t2, HCUT.out, .inl ⟨by rw [HTE.out]; simp, rfl, rfl, rfl⟩⟩)⟩, bl_trans HB0.out hb⟩
    | true =>
    by_cases ct : tt = t2
    case neg =>
      have dt : (tt != t2) = true := by simp [ct]
      have HC := Lib.hid ct
      clear ct
      go_wp2_with fail
      go_ret2
      exact ⟨0, 7, none, rfl, .inr ⟨HNO.out, HFW.out, .inr (.inr ⟨d, i2, t2, HCUT.out, .inl ⟨by rw [HTE.out]; simp; exact HC.out, rfl, rfl, rfl⟩⟩)⟩, bl_trans HB0.out hb⟩
    have dt : (tt != t2) = false := by simp [ct]
    have HTS := Lib.hid (show termE L i2 = some t2 by rw [HTE.out, if_pos rfl, ct])
    clear ct
    have hix := indexUnlike_at a2 (l.drop d) c2 w.heap.size L w5 (HE2.out.keep hb) (by rw [List.length_drop]; have := HS.out; unfold maxLen; omega) (fun k _ W hW => unlike_at (HX0.out.below (bl_trans hb hW)) HG.out (q0 _ (bl_trans hb hW)) _)
    rw [← HN2.out] at hix
    have HIX := Lib.hid hix
    clear hix
    go_wp2_with fail
    refine HIX.out.mono ?_
    rintro e w6 ⟨hfd, hb6⟩
    replace hb := bl_trans hb hb6
    clear hb6
    rcases hfd with ⟨k, hk, rfl, hun, hbf⟩ | ⟨rfl, hall⟩
    case inr =>
      have HALL := Lib.hid hall
      clear hall
      go_wp2_with fail
      go_ret2
      exact ⟨0, 0, none, rfl, .inr ⟨HNO.out, HFW.out, .inr (.inr ⟨d, i2, t2, HCUT.out, .inr (.inl ⟨HTS.out, fun j h1 h2 => by
        have := HALL.out (j - d) (by rw [List.length_drop]; omega)
        rw [atE_drop, show d + (j - d) = j by omega] at this
        exact this, rfl, rfl, rfl⟩)⟩)⟩, bl_trans HB0.out hb⟩
    have hdl : d + k < l.length := by rw [List.length_drop] at hk; omega
    have HDL := Lib.hid hdl
    have HUN := Lib.hid (show unlikeE L (atE l (d + k)) = true by rw [← atE_drop]; exact hun)
    have HBF := Lib.hid (show ∀ j, d ≤ j → j < d + k → unlikeE L (atE l j) = false from fun j h1 h2 => by
      have := hbf (j - d) (by omega)
      rw [atE_drop, show d + (j - d) = j by omega] at this
      exact this)
    have HPL := Lib.hid (put_place HG.out HFW.out HCUT.out HTS.out (by omega) hdl HBF.out)
    have HOD := Lib.hid (odd_no (HNO.out (d + k) hdl))
    obtain ⟨x, hx⟩ : ∃ x, x = atE l (d + k) := ⟨_, rfl⟩
    have HXE := Lib.hid hx
    obtain ⟨b2, o2, rfl, hc⟩ := (HE2.out.keep hb) k hk
    have hcx : w6.cell? ⟨b2, o2 + k * 4, none⟩ = some (.int .i64 x.ix) := by
      have := hc 0 (.int .i64 x.ix) (by rw [hx, ← atE_drop]; rfl)
      rw [Nat.add_zero] at this
      exact this
    have hk1 : decide ((k : Int) < 0) = false := decide_eq_false (by omega)
    have hk2 : (0 : Int) ≤ (k : Int) := by omega
    have hkn : (k : Int) < (n2 : Int) := by have h1 := HN2.out; omega
    have g1 := c1 _ hb
    clear hk hun hbf hdl hc hx
    by_cases cm : x.ix ≤ com
    · have dm : decide (x.ix ≤ com) = true := decide_eq_true cm
      have HCM := Lib.hid cm
      clear cm
      go_wp2_with fail
      go_ret2
      exact ⟨0, 9, none, rfl, .inr ⟨HNO.out, HFW.out, .inr (.inr ⟨d, i2, t2, HCUT.out, .inr (.inr ⟨HTS.out, d + k, by omega, HDL.out, HUN.out, HBF.out, .inl ⟨by rw [← HXE.out]; exact HCM.out, rfl, rfl, rfl⟩⟩)⟩)⟩, bl_trans HB0.out hb⟩
    have dm : decide (x.ix ≤ com) = false := decide_eq_false cm
    have HCM := Lib.hid (show com < x.ix by omega)
    clear cm
    go_upto_region 21 with fail
    obtain ⟨q, hq⟩ : ∃ q : Nat, x.ix = b + q := ⟨(x.ix - b).toNat, by have h1 := HCM.out; have h2 := HG.out.c0; have h3 := HG.out.c1; have h4 := HBE.out; have h5 : (atE L 0).ix = bE L := rfl; omega⟩
    have HQ := Lib.hid hq
    have hq1 : 1 ≤ q := by have h1 := HCM.out; have h2 := HG.out.c0; have h3 := HG.out.c1; have h4 := HBE.out; have h5 : (atE L 0).ix = bE L := rfl; omega
    have hqL : q ≤ LN := by have h1 := HPL.out.1; rw [← HXE.out] at h1; have h4 := HBE.out; have h5 := HLN.out; omega
    have hLe : LN ≤ ec := by
      rcases HX.out.row.2 with ⟨h1, _⟩ | ⟨g', cap, cur, h1, _, _, h2, _⟩
      · cases h1
      · injection h1 with _ _ h3
        have := HLN.out
        omega
    have hx9 := HOD.out.2.1
    rw [← HXE.out] at hx9
    unfold maxI at hx9
    have hv3 : IntKind.i64.wrap (x.ix - b) = (q : Int) := by rw [IntWalk.i64_in _ (by omega)]; omega
    have hqe : (q : Int) ≤ (ec : Int) := by omega
    have hq0 : (0 : Int) ≤ (q : Int) := by omega
    have hq00 : q ≠ 0 := by omega
    have hkc : (k : Int) < (c2 : Int) := by have := HC2.out; omega
    have hkc' : k < c2 := by have := HC2.out; omega
    have HQL := Lib.hid hqL
    clear hq hqL hLe hq1 g1 hcx hx9
    refine wp_region_last 18 (Below w0.heap.size w0) (fun i => i == 7 || i == 10 || i == 14 || i == 15) (by kernel_rfl) (by rfl) (by kernel_rfl) (by kernel_rfl) (by exact hb.drew) ?_
    simp only [List.take_succ_cons, List.take_zero]
    intro hne hx
    replace hb := hb.drew
    change wpStg _ _ _ _ _ _ _ _ w6.drew
    obtain ⟨V7, hV⟩ : ∃ V, V = w6.drew := ⟨_, rfl⟩
    rw [← hV] at hb ⊢
    clear hV
    have HB7 := Lib.hid hb
    refine stg_seg 7 (by dsimp only [List.take]) (by dsimp only [List.drop]) (by rfl) ?_
    repeat (go_big_quiet_step (fail))
    refine wpQuiet_nil ?_
    refine stg_loud (by rfl) ?_
    go_wp2_with fail
    have hba := base_at (HX0.out.below hb) HG.out
    rw [HBE.out] at hba
    refine hba.mono ?_
    rintro e w8 ⟨rfl, rfl⟩
    clear hba
    go_wp2_with fail
    refine lq_in rfl (hb) ?_
    refine stg_seg 2 (by dsimp only [List.take]) (by dsimp only [List.drop]) (by rfl) ?_
    repeat (go_big_quiet_step (fail))
    refine wpQuiet_nil ?_
    refine stg_loud (by rfl) ?_
    go_wp2_with fail
    have hqt : (L.take q).length = q := by rw [List.length_take]; have h1 := HQL.out; have h2 := HLN.out; omega
    have hEt : EA V7 (some ⟨ea, 0, none⟩) (L.take q) := fun j hj => ⟨ea, 0, rfl, fun m u hu => by
      rw [hqt] at hj
      have hu' : (entC (atE L j))[m]? = some u := by rw [← atE_take hj]; exact hu
      have := (HX0.out.below hb).ent (i := j) (by have h1 := HQL.out; have h2 := HLN.out; omega) hu'
      rw [Nat.zero_add]
      exact this⟩
    have hcl := cloneE_at ea 0 (L.take q) ec V7 hEt (by rw [hqt]; have h1 := HQL.out; have h2 := HLN.out; have h3 := HG.out.sz; omega)
    rw [hqt] at hcl
    have HCL := Lib.hid hcl
    have HQT := Lib.hid hqt
    clear hqt hEt hcl
    refine HCL.out.mono ?_
    rintro e w9 ⟨v9, rfl, hr9, ⟨g9, hg9, hl9⟩, hb9⟩
    obtain ⟨a9, c9, rfl⟩ := own_slice hr9
    have HR9 := Lib.hid hr9
    have HG9 := Lib.hid hg9
    have HL9 := Lib.hid (Nat.le_trans hb.size hl9)
    replace hb := bl_trans hb hb9
    have HB9 := Lib.hid hb
    clear hr9 hg9 hl9 hb9 HCL
    go_wp2_with fail
    refine lq_in rfl (hb) ?_
    refine stg_seg 3 (by dsimp only [List.take]) (by dsimp only [List.drop]) (by rfl) ?_
    repeat (go_big_quiet_step (fail))
    refine wpQuiet_nil ?_
    refine stg_loud (by rfl) ?_
    go_wp2_with fail
    have hlen : n2 - k = (l.drop (d + k)).length := by rw [HN2.out, List.length_drop, List.length_drop]; omega
    have hEd : EA w0 (some ⟨b2, o2 + k * 4, none⟩) (l.drop (d + k)) := fun j hj => ⟨b2, o2 + k * 4, rfl, fun m u hu => by
      rw [← hlen] at hj
      obtain ⟨b3, o3, e3, hc3⟩ := HE2.out (k + j) (by rw [← HN2.out]; omega)
      injection e3 with e3
      injection e3 with e4 e5
      subst e4 e5
      have hu' : (entC ((l.drop d).getD (k + j) default))[m]? = some u := by
        have h1 : (l.drop d).getD (k + j) default = (l.drop (d + k)).getD j default := by
          show atE (l.drop d) (k + j) = atE (l.drop (d + k)) j
          rw [atE_drop, atE_drop, Nat.add_assoc]
        rw [h1]
        exact hu
      have := hc3 m u hu'
      rw [show o2 + (k + j) * 4 + m = o2 + k * 4 + j * 4 + m by omega] at this
      exact this⟩
    have hcp := copied_at (some ⟨b2, o2 + k * 4, none⟩) (l.drop (d + k)) (c2 - k) w9 (hEd.keep hb) (by rw [List.length_drop]; have := HS.out; omega) (fun j hj => by
      rw [List.length_drop] at hj
      rw [atE_drop]
      have h1 := HI.out.d (d + k + j) (by omega)
      exact ⟨h1.1.keep hb, by have := odd_len (HNO.out (d + k + j) (by omega)); omega, h1.2.2⟩)
    rw [← hlen] at hcp
    have HCP := Lib.hid hcp
    have HLEN := Lib.hid hlen
    clear hlen hEd hcp
    refine HCP.out.mono ?_
    rintro e w10 ⟨v10, l', rfl, hr10, hl10, hs10, hd10, hb10⟩
    obtain ⟨a10, c10, rfl⟩ := own_slice hr10
    have HR10 := Lib.hid hr10
    have HL10 := Lib.hid hl10
    have HS10 := Lib.hid hs10
    have HD10 := Lib.hid hd10
    have HR9' := Lib.hid (own_keep HR9.out hb10)
    replace hb := bl_trans hb hb10
    have HSZ := Lib.hid (Nat.le_trans HB9.out.size hb10.size)
    clear hr10 hl10 hs10 hd10 hb10 HCP
    go_wp2_with fail
    refine lq_in rfl (hb) ?_
    refine stg_loud (by rfl) ?_
    obtain ⟨nk, hnk⟩ : ∃ nk, nk = n2 - k := ⟨_, rfl⟩
    rw [← hnk] at HR10 HL10 HS10 HLEN ⊢
    clear hnk
    go_wp2_with (at_builtin; go_loud (refine wpList_clone rfl _ _ 33 rfl V7.heap.size 45 Try.underlying33 Try.infoEntry rfl (by decide) rfl HR9'.out rfl (ys := entsC l') HR10.out.1 (fun j u hj => by
          rcases HR10.out.2 with ⟨_, h0⟩ | ⟨g, cap, cur, h0, hh⟩
          · have := HR10.out.1; rw [h0] at this; simp at this; rw [this] at hj; simp at hj
          · injection h0 with h1 h2 h3
            subst h1 h3
            exact ⟨g, 0, rfl, by rw [Nat.zero_add]; exact row_cell HR10.out hj⟩) (fun h0 => by
          rcases HR10.out.2 with ⟨h1, _⟩ | ⟨g, cap, cur, h1, hh⟩
          · injection h1
          · injection h1 with h1 _ _; rw [h0] at h1; cases h1) entsC_one (by have h1 := HS.out; have h2 := HLEN.out; rw [List.length_drop] at h2; have h3 := HQL.out; have h4 := HLN.out; unfold maxLen; omega) (by have h1 := HS.out; have h2 := HLEN.out; rw [List.length_drop] at h2; have h3 := HQL.out; have h4 := HLN.out; omega) (by have h2 := HR9'.out.lt g9 HG9.out; omega) ?_); intro v11 w11 hown1 hgrow hat1)
    replace hgrow : w10.grownBy w11 (Value.slice a9 q c9).ownBlock := hgrow
    replace hat1 : v11.ownBlock = (Value.slice a9 q c9).ownBlock ∨ ∃ g, v11.ownBlock = some g ∧ w10.heap.size ≤ g := hat1
    obtain ⟨a11, c11, rfl⟩ := own_slice hown1
    have hb11 : Below w0.heap.size w0 w11 := hb.trans (own_below (row_mono HR9'.out (B' := w0.heap.size) (by have := HL9.out; have h2 := HB7.out.size; omega)) hgrow (by have := HB9.out.size; have := HSZ.out; omega))
    have HOW := Lib.hid hown1
    have HB11 := Lib.hid hb11
    have hch : Chg (Value.slice a9 q c9).ownBlock.toList w10 w11 := (Chg.refl _ w10).grown hgrow (fun g hg => .inl (by rw [hg]; exact List.mem_singleton.2 rfl))
    have hty : ∀ y, y ∈ (Value.slice a9 q c9).ownBlock.toList → ∃ cs t fz, w10.heap[y]? = some (.cells cs t fz) ∧ t ≠ 5 := fun y hy => by
      obtain ⟨cu, hcu⟩ := row_blk HR9'.out (g := y) (by simpa using hy)
      exact ⟨_, _, _, hcu, by decide⟩
    have HD11 := Lib.hid (show ∀ j, j < l'.length → Own8 w11 (atE l' j).d from fun j hj => (HD10.out j hj).keep hch hty)
    have HF11 := Lib.hid (show ∃ g, (Value.slice a11 (q + nk) c11).ownBlock = some g ∧ w.heap.size ≤ g by
      rcases hat1 with h1 | ⟨g, h1, h2⟩
      · exact ⟨g9, h1.trans HG9.out, by have := HL9.out; have := HB0.out.size; omega⟩
      · exact ⟨g, h1, by have := HSZ.out; have := HB0.out.size; omega⟩)
    have p0 := blk_cell (HX0.out.below hb11).blk 0
    have pf := blk_frozen (HX0.out.below hb11).blk
    simp only [List.getElem?_toArray, List.getElem?_cons_zero, List.getElem?_cons_succ] at p0
    clear hown1 hgrow hat1 hch hty hb
    refine lq_in rfl (hb11) ?_
    refine stg_seg 2 (by dsimp only [List.take]) (by dsimp only [List.drop]) (by rfl) ?_
    repeat (go_big_quiet_step (fail))
    refine wpQuiet_nil ?_
    refine stg_nil ?_
    clear hne hx
    intro _ hxx
    clear hxx hb11
    go_wp2_with fail
    go_ret2
    have hbb : Below w.heap.size w w11 := bl_trans HB0.out HB11.out
    have hqn : ((atE l (d + k)).ix - bE L).toNat = q := by rw [← HXE.out, HBE.out, HQ.out]; omega
    have hsm : Sames (l.drop (d + k)) l' := ⟨by rw [HL10.out, HLEN.out], fun j hj => HS10.out j (by rw [HLEN.out]; exact hj)⟩
    have hgp := good_put HG.out HNO.out HFW.out HDL.out (by rw [← HXE.out]; exact HCM.out) HPL.out.1 hsm HS.out
    have hXX := HX.out.more2 (L' := L.take q ++ l') (v' := .slice a11 (q + nk) c11) (w2 := w11) (row := none) (by
      rw [List.length_append, HQT.out, HL10.out, show entsC (L.take q ++ l') = entsC (L.take q) ++ entsC l' by simp [entsC]]
      exact row_mono HOW.out (by have h1 := HX.out.hB; have h2 := blk_lt HX.out.blk; have h3 := HB7.out.size; have h4 := HB0.out.size; omega)) ⟨hbb.os, hbb.tape, hbb.output, hbb.size, fun j hj _ => hbb.block j hj⟩ (.inl rfl) (.inr HF11.out) (fun j hj => by
      rw [atE_app, HQT.out]
      split
      · next hh => rw [atE_take hh]; exact (HX.out.dat j (by have h1 := HQL.out; have h2 := HLN.out; omega)).below hbb
      · next hh => exact HD11.out _ (by rw [List.length_append, HQT.out] at hj; omega))
    refine ⟨x.ix, 0, some (d + k), rfl, .inr ⟨HNO.out, HFW.out, .inr (.inr ⟨d, i2, t2, HCUT.out, .inr (.inr ⟨HTS.out, d + k, by omega, HDL.out, HUN.out, HBF.out, .inr ⟨by rw [← HXE.out]; exact HCM.out, HXE.out ▸ rfl, rfl, rfl⟩⟩)⟩)⟩, l', .slice a11 (q + nk) c11, hsm, ?_, hgp, ?_, HF11.out⟩
    · rw [hqn]; exact hXX
    · exact (Chg.of_below hbb).set (p := ⟨p, 0, none⟩) (.inl List.mem_cons_self) _
  case pos =>
    have dl : decide (i < b) = true := decide_eq_true hlow
    have z0 : ∀ W, Below W3.heap.size W3 W → W.cell? ⟨nb, 0, none⟩ = some (.int .i64 b) := fun W h => blk_cell (blk_below HK3.out h (blk_lt HK3.out)) 0
    have z1 : ∀ W, Below W3.heap.size W3 W → W.cell? ⟨nb, 1, none⟩ = some (.int .i64 tb) := fun W h => blk_cell (blk_below HK3.out h (blk_lt HK3.out)) 1
    have hb3 := Below.refl W3.heap.size W3
    have HLOW := Lib.hid hlow
    have hvb : IntKind.i64.wrap (b - n) = b - n := IntWalk.i64_in _ (by omega)
    by_cases hold : i ≤ b - n
    · have dold : decide (i ≤ b - n) = true := decide_eq_true hold
      have HO := Lib.hid hold
      clear hlow hold
      go_wp2_with fail
      go_ret2
      exact ⟨0, 0, none, rfl, .inr ⟨HNO.out, HFW.out, .inl ⟨by rw [HBE.out]; exact HLOW.out, by rw [HBE.out, ← HNL.out]; exact HO.out, rfl, rfl, rfl⟩⟩, bl_trans HB0.out hb⟩
    have dold : decide (i ≤ b - n) = false := decide_eq_false hold
    obtain ⟨d, hd⟩ : ∃ d : Nat, b - i = d := ⟨(b - i).toNat, by omega⟩
    have hdn : d < n := by omega
    have hdl : d < l.length := by rw [← HNL.out]; exact hdn
    obtain ⟨b1, o1, rfl, hc0⟩ := HI.out.e d hdl
    obtain ⟨ty, hty⟩ : ∃ ty, ty = (atE l d).tm := ⟨_, rfl⟩
    obtain ⟨o2, ho2⟩ : ∃ o2, o2 = o1 + d * 4 := ⟨_, rfl⟩
    obtain ⟨n2, hn2⟩ : ∃ n2, n2 = n - d := ⟨_, rfl⟩
    obtain ⟨c2, hc2⟩ : ∃ c2, c2 = c - d := ⟨_, rfl⟩
    have y1 : ∀ W, Below w0.heap.size w0 W → W.cell? ⟨b1, o2 + 1, none⟩ = some (.int .i64 ty) := fun W h => by rw [ho2, hty]; exact cell_keep h (hc0 1 _ rfl)
    have hv4 : IntKind.i64.wrap (b - i) = (d : Int) := by rw [IntWalk.i64_in _ (by omega)]; exact hd
    have hd0 : (0 : Int) ≤ (d : Int) := by omega
    have hd1 : (d : Int) ≤ (n : Int) := by omega
    have hd2 : (d : Int) < (c : Int) := by omega
    have hd3 : d < c := by omega
    have HD := Lib.hid hd
    have HDL := Lib.hid hdl
    have HTY := Lib.hid hty
    have HE2 := Lib.hid (show EA w0 (some ⟨b1, o2, none⟩) (l.drop d) from fun j hj => ⟨b1, o2, rfl, fun m u hu => by
      rw [List.length_drop] at hj
      obtain ⟨b3, o3, e3, hc3⟩ := HI.out.e (d + j) (by omega)
      injection e3 with e3
      injection e3 with e4 e5
      subst e4 e5
      have hu' : (entC (l.getD (d + j) default))[m]? = some u := by
        have h1 : l.getD (d + j) default = (l.drop d).getD j default := by
          show atE l (d + j) = atE (l.drop d) j
          rw [atE_drop]
        rw [h1]
        exact hu
      have := hc3 m u hu'
      rw [show o1 + (d + j) * 4 + m = o2 + j * 4 + m by rw [ho2]; omega] at this
      exact this⟩)
    have HN2 := Lib.hid (show n2 = (l.drop d).length by rw [List.length_drop, hn2, HNL.out])
    have HC2 := Lib.hid (show n2 ≤ c2 by rw [hn2, hc2]; omega)
    have hn20 : (0 : Int) < (n2 : Int) := by omega
    clear hlow hold hd hdn hdl hc0 hty
    go_upto_region 8 with fail
    rw [← ho2, ← hn2, ← hc2]
    clear ho2 hn2 hc2
    by_cases clt : ty < tb
    · have dlt : decide (ty < tb) = true := decide_eq_true clt
      have HC := Lib.hid clt
      clear clt
      refine wp_region_in (Below W3.heap.size W3) (fun _ => false) (by kernel_rfl) (by kernel_rfl) (by exact hb3.drew) ?_
      intro hne hx
      have HB3 := Lib.hid hb
      replace hb3 := hb3.drew
      replace hb := hb.drew
      change wpStg _ _ _ _ _ _ _ _ W3.drew
      obtain ⟨V4, hV⟩ : ∃ V, V = W3.drew := ⟨_, rfl⟩
      rw [← hV] at hb hb3 ⊢
      clear hV
      have y1' : ∀ W, Below W3.heap.size W3 W → W.cell? ⟨b1, o2 + 1, none⟩ = some (.int .i64 ty) := fun W h => y1 W (bl_trans HB3.out h)
      refine stg_seg 7 (by dsimp only [List.take]) (by dsimp only [List.drop]) (by rfl) ?_
      repeat (go_big_quiet_step (fail))
      refine wpQuiet_nil ?_
      refine stg_nil ?_
      clear hne hx
      go_wp2_with fail
      go_ret2
      exact ⟨0, 7, none, rfl, .inr ⟨HNO.out, HFW.out, .inr (.inl ⟨by rw [HBE.out]; exact HLOW.out, by rw [HBE.out]; have h1 := HD.out; have h2 := HDL.out; omega, by rw [HTB.out, HBE.out, HD.out]; show (atE l d).tm < tb; rw [← HTY.out]; exact HC.out, rfl, rfl, rfl⟩)⟩, bl_trans HB0.out hb⟩
    have dlt : decide (ty < tb) = false := decide_eq_false clt
    have HCUT := Lib.hid (show Cut L i t l d b tb from .inl ⟨by rw [HBE.out]; exact HLOW.out, by rw [HBE.out]; have h1 := HD.out; have h2 := HDL.out; omega, by rw [HBE.out, HD.out]; rfl, HBE.out.symm, HTB.out.symm, by rw [HTB.out, ← HTY.out]; omega⟩)
    clear clt
    refine wp_region_in (Below W3.heap.size W3) (fun _ => false) (by kernel_rfl) (by kernel_rfl) (by exact hb3.drew) ?_
    intro hne hx
    have HB3 := Lib.hid hb
    replace hb3 := hb3.drew
    replace hb := hb.drew
    change wpStg _ _ _ _ _ _ _ _ W3.drew
    obtain ⟨V4, hV⟩ : ∃ V, V = W3.drew := ⟨_, rfl⟩
    rw [← hV] at hb hb3 ⊢
    clear hV
    have y1' : ∀ W, Below W3.heap.size W3 W → W.cell? ⟨b1, o2 + 1, none⟩ = some (.int .i64 ty) := fun W h => y1 W (bl_trans HB3.out h)
    refine stg_seg 7 (by dsimp only [List.take]) (by dsimp only [List.drop]) (by rfl) ?_
    repeat (go_big_quiet_step (fail))
    refine wpQuiet_nil ?_
    refine stg_nil ?_
    clear hne hx
    go_upto_region 10 with fail
    refine wp_region_in (Below W3.heap.size W3) (fun _ => false) (by kernel_rfl) (by kernel_rfl) (by exact hb3.drew) ?_
    intro hne hx
    replace hb3 := hb3.drew
    replace hb := hb.drew
    change wpStg _ _ _ _ _ _ _ _ V4.drew
    obtain ⟨V5, hV⟩ : ∃ V, V = V4.drew := ⟨_, rfl⟩
    rw [← hV] at hb hb3 ⊢
    clear hV
    refine stg_seg 6 (by dsimp only [List.take]) (by dsimp only [List.drop]) (by rfl) ?_
    repeat (go_big_quiet_step (fail))
    refine wpQuiet_nil ?_
    refine stg_nil ?_
    clear hne hx
    clear y1 y1' z0 z1 hb3
    go_upto_region 11 with fail
    obtain ⟨i2, hi2⟩ : ∃ i2, i2 = b := ⟨_, rfl⟩
    obtain ⟨t2, ht2⟩ : ∃ t2, t2 = tb := ⟨_, rfl⟩
    obtain ⟨a2, ha2⟩ : ∃ a2 : Option Addr, a2 = some ⟨b1, o2, none⟩ := ⟨_, rfl⟩
    rw [← hi2, ← ht2] at HCUT
    rw [← ha2] at HE2
    rw [← hi2, ← ht2, ← ha2]
    clear hi2 ht2 ha2 hv4 hd0 hd1 hd2 hd3 hn20 hvb dold dlt dl
    -- i2 t2 a2 n2 c2 d: HCUT, HE2 (entries behind d at w0), HN2, hc2
    have ht := term_at (HX0.out.below hb) HG.out i2
    obtain ⟨tr, htr⟩ : ∃ tr, tr = termR L i2 := ⟨_, rfl⟩
    rw [← htr] at ht
    have HTR := Lib.hid htr
    obtain ⟨tt, ti⟩ := tr
    have HT := Lib.hid ht
    simp only at HT
    clear ht htr
    try go_wp2_with fail
    refine HT.out.mono ?_
    rintro e w5 ⟨rfl, hb5⟩
    replace hb := bl_trans hb hb5
    clear hb5
    have hte : termE L i2 = if ti = true then some tt else none := by
      have h := HTR.out
      unfold termR at h
      cases hh : termE L i2 with
      | none => rw [hh] at h; injection h with h1 h2; subst h2; rfl
      | some q => rw [hh] at h; injection h with h1 h2; subst h1 h2; rfl
    have HTE := Lib.hid hte
    clear hte
    cases ti with
    | false =>
      go_wp2_with fail
      go_ret2
      exact ⟨0, 7, none, rfl, .inr ⟨HNO.out, HFW.out, .inr (.inr ⟨d, i2, t2, HCUT.out, .inl ⟨by rw [HTE.out]; simp, rfl, rfl, rfl⟩⟩)⟩, bl_trans HB0.out hb⟩
    | true =>
    by_cases ct : tt = t2
    case neg =>
      have dt : (tt != t2) = true := by simp [ct]
      have HC := Lib.hid ct
      clear ct
      go_wp2_with fail
      go_ret2
      exact ⟨0, 7, none, rfl, .inr ⟨HNO.out, HFW.out, .inr (.inr ⟨d, i2, t2, HCUT.out, .inl ⟨by rw [HTE.out]; simp; exact HC.out, rfl, rfl, rfl⟩⟩)⟩, bl_trans HB0.out hb⟩
    have dt : (tt != t2) = false := by simp [ct]
    have HTS := Lib.hid (show termE L i2 = some t2 by rw [HTE.out, if_pos rfl, ct])
    clear ct
    have hix := indexUnlike_at a2 (l.drop d) c2 w.heap.size L w5 (HE2.out.keep hb) (by rw [List.length_drop]; have := HS.out; unfold maxLen; omega) (fun k _ W hW => unlike_at (HX0.out.below (bl_trans hb hW)) HG.out (q0 _ (bl_trans hb hW)) _)
    rw [← HN2.out] at hix
    have HIX := Lib.hid hix
    clear hix
    go_wp2_with fail
    refine HIX.out.mono ?_
    rintro e w6 ⟨hfd, hb6⟩
    replace hb := bl_trans hb hb6
    clear hb6
    rcases hfd with ⟨k, hk, rfl, hun, hbf⟩ | ⟨rfl, hall⟩
    case inr =>
      have HALL := Lib.hid hall
      clear hall
      go_wp2_with fail
      go_ret2
      exact ⟨0, 0, none, rfl, .inr ⟨HNO.out, HFW.out, .inr (.inr ⟨d, i2, t2, HCUT.out, .inr (.inl ⟨HTS.out, fun j h1 h2 => by
        have := HALL.out (j - d) (by rw [List.length_drop]; omega)
        rw [atE_drop, show d + (j - d) = j by omega] at this
        exact this, rfl, rfl, rfl⟩)⟩)⟩, bl_trans HB0.out hb⟩
    have hdl : d + k < l.length := by rw [List.length_drop] at hk; omega
    have HDL := Lib.hid hdl
    have HUN := Lib.hid (show unlikeE L (atE l (d + k)) = true by rw [← atE_drop]; exact hun)
    have HBF := Lib.hid (show ∀ j, d ≤ j → j < d + k → unlikeE L (atE l j) = false from fun j h1 h2 => by
      have := hbf (j - d) (by omega)
      rw [atE_drop, show d + (j - d) = j by omega] at this
      exact this)
    have HPL := Lib.hid (put_place HG.out HFW.out HCUT.out HTS.out (by omega) hdl HBF.out)
    have HOD := Lib.hid (odd_no (HNO.out (d + k) hdl))
    obtain ⟨x, hx⟩ : ∃ x, x = atE l (d + k) := ⟨_, rfl⟩
    have HXE := Lib.hid hx
    obtain ⟨b2, o2, rfl, hc⟩ := (HE2.out.keep hb) k hk
    have hcx : w6.cell? ⟨b2, o2 + k * 4, none⟩ = some (.int .i64 x.ix) := by
      have := hc 0 (.int .i64 x.ix) (by rw [hx, ← atE_drop]; rfl)
      rw [Nat.add_zero] at this
      exact this
    have hk1 : decide ((k : Int) < 0) = false := decide_eq_false (by omega)
    have hk2 : (0 : Int) ≤ (k : Int) := by omega
    have hkn : (k : Int) < (n2 : Int) := by have h1 := HN2.out; omega
    have g1 := c1 _ hb
    clear hk hun hbf hdl hc hx
    by_cases cm : x.ix ≤ com
    · have dm : decide (x.ix ≤ com) = true := decide_eq_true cm
      have HCM := Lib.hid cm
      clear cm
      go_wp2_with fail
      go_ret2
      exact ⟨0, 9, none, rfl, .inr ⟨HNO.out, HFW.out, .inr (.inr ⟨d, i2, t2, HCUT.out, .inr (.inr ⟨HTS.out, d + k, by omega, HDL.out, HUN.out, HBF.out, .inl ⟨by rw [← HXE.out]; exact HCM.out, rfl, rfl, rfl⟩⟩)⟩)⟩, bl_trans HB0.out hb⟩
    have dm : decide (x.ix ≤ com) = false := decide_eq_false cm
    have HCM := Lib.hid (show com < x.ix by omega)
    clear cm
    go_upto_region 21 with fail
    obtain ⟨q, hq⟩ : ∃ q : Nat, x.ix = b + q := ⟨(x.ix - b).toNat, by have h1 := HCM.out; have h2 := HG.out.c0; have h3 := HG.out.c1; have h4 := HBE.out; have h5 : (atE L 0).ix = bE L := rfl; omega⟩
    have HQ := Lib.hid hq
    have hq1 : 1 ≤ q := by have h1 := HCM.out; have h2 := HG.out.c0; have h3 := HG.out.c1; have h4 := HBE.out; have h5 : (atE L 0).ix = bE L := rfl; omega
    have hqL : q ≤ LN := by have h1 := HPL.out.1; rw [← HXE.out] at h1; have h4 := HBE.out; have h5 := HLN.out; omega
    have hLe : LN ≤ ec := by
      rcases HX.out.row.2 with ⟨h1, _⟩ | ⟨g', cap, cur, h1, _, _, h2, _⟩
      · cases h1
      · injection h1 with _ _ h3
        have := HLN.out
        omega
    have hx9 := HOD.out.2.1
    rw [← HXE.out] at hx9
    unfold maxI at hx9
    have hv3 : IntKind.i64.wrap (x.ix - b) = (q : Int) := by rw [IntWalk.i64_in _ (by omega)]; omega
    have hqe : (q : Int) ≤ (ec : Int) := by omega
    have hq0 : (0 : Int) ≤ (q : Int) := by omega
    have hq00 : q ≠ 0 := by omega
    have hkc : (k : Int) < (c2 : Int) := by have := HC2.out; omega
    have hkc' : k < c2 := by have := HC2.out; omega
    have HQL := Lib.hid hqL
    clear hq hqL hLe hq1 g1 hcx hx9
    refine wp_region_last 18 (Below w0.heap.size w0) (fun i => i == 7 || i == 10 || i == 14 || i == 15) (by kernel_rfl) (by rfl) (by kernel_rfl) (by kernel_rfl) (by exact hb.drew) ?_
    simp only [List.take_succ_cons, List.take_zero]
    intro hne hx
    replace hb := hb.drew
    change wpStg _ _ _ _ _ _ _ _ w6.drew
    obtain ⟨V7, hV⟩ : ∃ V, V = w6.drew := ⟨_, rfl⟩
    rw [← hV] at hb ⊢
    clear hV
    have HB7 := Lib.hid hb
    refine stg_seg 7 (by dsimp only [List.take]) (by dsimp only [List.drop]) (by rfl) ?_
    repeat (go_big_quiet_step (fail))
    refine wpQuiet_nil ?_
    refine stg_loud (by rfl) ?_
    go_wp2_with fail
    have hba := base_at (HX0.out.below hb) HG.out
    rw [HBE.out] at hba
    refine hba.mono ?_
    rintro e w8 ⟨rfl, rfl⟩
    clear hba
    go_wp2_with fail
    refine lq_in rfl (hb) ?_
    refine stg_seg 2 (by dsimp only [List.take]) (by dsimp only [List.drop]) (by rfl) ?_
    repeat (go_big_quiet_step (fail))
    refine wpQuiet_nil ?_
    refine stg_loud (by rfl) ?_
    go_wp2_with fail
    have hqt : (L.take q).length = q := by rw [List.length_take]; have h1 := HQL.out; have h2 := HLN.out; omega
    have hEt : EA V7 (some ⟨ea, 0, none⟩) (L.take q) := fun j hj => ⟨ea, 0, rfl, fun m u hu => by
      rw [hqt] at hj
      have hu' : (entC (atE L j))[m]? = some u := by rw [← atE_take hj]; exact hu
      have := (HX0.out.below hb).ent (i := j) (by have h1 := HQL.out; have h2 := HLN.out; omega) hu'
      rw [Nat.zero_add]
      exact this⟩
    have hcl := cloneE_at ea 0 (L.take q) ec V7 hEt (by rw [hqt]; have h1 := HQL.out; have h2 := HLN.out; have h3 := HG.out.sz; omega)
    rw [hqt] at hcl
    have HCL := Lib.hid hcl
    have HQT := Lib.hid hqt
    clear hqt hEt hcl
    refine HCL.out.mono ?_
    rintro e w9 ⟨v9, rfl, hr9, ⟨g9, hg9, hl9⟩, hb9⟩
    obtain ⟨a9, c9, rfl⟩ := own_slice hr9
    have HR9 := Lib.hid hr9
    have HG9 := Lib.hid hg9
    have HL9 := Lib.hid (Nat.le_trans hb.size hl9)
    replace hb := bl_trans hb hb9
    have HB9 := Lib.hid hb
    clear hr9 hg9 hl9 hb9 HCL
    go_wp2_with fail
    refine lq_in rfl (hb) ?_
    refine stg_seg 3 (by dsimp only [List.take]) (by dsimp only [List.drop]) (by rfl) ?_
    repeat (go_big_quiet_step (fail))
    refine wpQuiet_nil ?_
    refine stg_loud (by rfl) ?_
    go_wp2_with fail
    have hlen : n2 - k = (l.drop (d + k)).length := by rw [HN2.out, List.length_drop, List.length_drop]; omega
    have hEd : EA w0 (some ⟨b2, o2 + k * 4, none⟩) (l.drop (d + k)) := fun j hj => ⟨b2, o2 + k * 4, rfl, fun m u hu => by
      rw [← hlen] at hj
      obtain ⟨b3, o3, e3, hc3⟩ := HE2.out (k + j) (by rw [← HN2.out]; omega)
      injection e3 with e3
      injection e3 with e4 e5
      subst e4 e5
      have hu' : (entC ((l.drop d).getD (k + j) default))[m]? = some u := by
        have h1 : (l.drop d).getD (k + j) default = (l.drop (d + k)).getD j default := by
          show atE (l.drop d) (k + j) = atE (l.drop (d + k)) j
          rw [atE_drop, atE_drop, Nat.add_assoc]
        rw [h1]
        exact hu
      have := hc3 m u hu'
      rw [show o2 + (k + j) * 4 + m = o2 + k * 4 + j * 4 + m by omega] at this
      exact this⟩
    have hcp := copied_at (some ⟨b2, o2 + k * 4, none⟩) (l.drop (d + k)) (c2 - k) w9 (hEd.keep hb) (by rw [List.length_drop]; have := HS.out; omega) (fun j hj => by
      rw [List.length_drop] at hj
      rw [atE_drop]
      have h1 := HI.out.d (d + k + j) (by omega)
      exact ⟨h1.1.keep hb, by have := odd_len (HNO.out (d + k + j) (by omega)); omega, h1.2.2⟩)
    rw [← hlen] at hcp
    have HCP := Lib.hid hcp
    have HLEN := Lib.hid hlen
    clear hlen hEd hcp
    refine HCP.out.mono ?_
    rintro e w10 ⟨v10, l', rfl, hr10, hl10, hs10, hd10, hb10⟩
    obtain ⟨a10, c10, rfl⟩ := own_slice hr10
    have HR10 := Lib.hid hr10
    have HL10 := Lib.hid hl10
    have HS10 := Lib.hid hs10
    have HD10 := Lib.hid hd10
    have HR9' := Lib.hid (own_keep HR9.out hb10)
    replace hb := bl_trans hb hb10
    have HSZ := Lib.hid (Nat.le_trans HB9.out.size hb10.size)
    clear hr10 hl10 hs10 hd10 hb10 HCP
    go_wp2_with fail
    refine lq_in rfl (hb) ?_
    refine stg_loud (by rfl) ?_
    obtain ⟨nk, hnk⟩ : ∃ nk, nk = n2 - k := ⟨_, rfl⟩
    rw [← hnk] at HR10 HL10 HS10 HLEN ⊢
    clear hnk
    go_wp2_with (at_builtin; go_loud (refine wpList_clone rfl _ _ 33 rfl V7.heap.size 45 Try.underlying33 Try.infoEntry rfl (by decide) rfl HR9'.out rfl (ys := entsC l') HR10.out.1 (fun j u hj => by
          rcases HR10.out.2 with ⟨_, h0⟩ | ⟨g, cap, cur, h0, hh⟩
          · have := HR10.out.1; rw [h0] at this; simp at this; rw [this] at hj; simp at hj
          · injection h0 with h1 h2 h3
            subst h1 h3
            exact ⟨g, 0, rfl, by rw [Nat.zero_add]; exact row_cell HR10.out hj⟩) (fun h0 => by
          rcases HR10.out.2 with ⟨h1, _⟩ | ⟨g, cap, cur, h1, hh⟩
          · injection h1
          · injection h1 with h1 _ _; rw [h0] at h1; cases h1) entsC_one (by have h1 := HS.out; have h2 := HLEN.out; rw [List.length_drop] at h2; have h3 := HQL.out; have h4 := HLN.out; unfold maxLen; omega) (by have h1 := HS.out; have h2 := HLEN.out; rw [List.length_drop] at h2; have h3 := HQL.out; have h4 := HLN.out; omega) (by have h2 := HR9'.out.lt g9 HG9.out; omega) ?_); intro v11 w11 hown1 hgrow hat1)
    replace hgrow : w10.grownBy w11 (Value.slice a9 q c9).ownBlock := hgrow
    replace hat1 : v11.ownBlock = (Value.slice a9 q c9).ownBlock ∨ ∃ g, v11.ownBlock = some g ∧ w10.heap.size ≤ g := hat1
    obtain ⟨a11, c11, rfl⟩ := own_slice hown1
    have hb11 : Below w0.heap.size w0 w11 := hb.trans (own_below (row_mono HR9'.out (B' := w0.heap.size) (by have := HL9.out; have h2 := HB7.out.size; omega)) hgrow (by have := HB9.out.size; have := HSZ.out; omega))
    have HOW := Lib.hid hown1
    have HB11 := Lib.hid hb11
    have hch : Chg (Value.slice a9 q c9).ownBlock.toList w10 w11 := (Chg.refl _ w10).grown hgrow (fun g hg => .inl (by rw [hg]; exact List.mem_singleton.2 rfl))
    have hty : ∀ y, y ∈ (Value.slice a9 q c9).ownBlock.toList → ∃ cs t fz, w10.heap[y]? = some (.cells cs t fz) ∧ t ≠ 5 := fun y hy => by
      obtain ⟨cu, hcu⟩ := row_blk HR9'.out (g := y) (by simpa using hy)
      exact ⟨_, _, _, hcu, by decide⟩
    have HD11 := Lib.hid (show ∀ j, j < l'.length → Own8 w11 (atE l' j).d from fun j hj => (HD10.out j hj).keep hch hty)
    have HF11 := Lib.hid (show ∃ g, (Value.slice a11 (q + nk) c11).ownBlock = some g ∧ w.heap.size ≤ g by
      rcases hat1 with h1 | ⟨g, h1, h2⟩
      · exact ⟨g9, h1.trans HG9.out, by have := HL9.out; have := HB0.out.size; omega⟩
      · exact ⟨g, h1, by have := HSZ.out; have := HB0.out.size; omega⟩)
    have p0 := blk_cell (HX0.out.below hb11).blk 0
    have pf := blk_frozen (HX0.out.below hb11).blk
    simp only [List.getElem?_toArray, List.getElem?_cons_zero, List.getElem?_cons_succ] at p0
    clear hown1 hgrow hat1 hch hty hb
    refine lq_in rfl (hb11) ?_
    refine stg_seg 2 (by dsimp only [List.take]) (by dsimp only [List.drop]) (by rfl) ?_
    repeat (go_big_quiet_step (fail))
    refine wpQuiet_nil ?_
    refine stg_nil ?_
    clear hne hx
    intro _ hxx
    clear hxx hb11
    go_wp2_with fail
    go_ret2
    have hbb : Below w.heap.size w w11 := bl_trans HB0.out HB11.out
    have hqn : ((atE l (d + k)).ix - bE L).toNat = q := by rw [← HXE.out, HBE.out, HQ.out]; omega
    have hsm : Sames (l.drop (d + k)) l' := ⟨by rw [HL10.out, HLEN.out], fun j hj => HS10.out j (by rw [HLEN.out]; exact hj)⟩
    have hgp := good_put HG.out HNO.out HFW.out HDL.out (by rw [← HXE.out]; exact HCM.out) HPL.out.1 hsm HS.out
    have hXX := HX.out.more2 (L' := L.take q ++ l') (v' := .slice a11 (q + nk) c11) (w2 := w11) (row := none) (by
      rw [List.length_append, HQT.out, HL10.out, show entsC (L.take q ++ l') = entsC (L.take q) ++ entsC l' by simp [entsC]]
      exact row_mono HOW.out (by have h1 := HX.out.hB; have h2 := blk_lt HX.out.blk; have h3 := HB7.out.size; have h4 := HB0.out.size; omega)) ⟨hbb.os, hbb.tape, hbb.output, hbb.size, fun j hj _ => hbb.block j hj⟩ (.inl rfl) (.inr HF11.out) (fun j hj => by
      rw [atE_app, HQT.out]
      split
      · next hh => rw [atE_take hh]; exact (HX.out.dat j (by have h1 := HQL.out; have h2 := HLN.out; omega)).below hbb
      · next hh => exact HD11.out _ (by rw [List.length_append, HQT.out] at hj; omega))
    refine ⟨x.ix, 0, some (d + k), rfl, .inr ⟨HNO.out, HFW.out, .inr (.inr ⟨d, i2, t2, HCUT.out, .inr (.inr ⟨HTS.out, d + k, by omega, HDL.out, HUN.out, HBF.out, .inr ⟨by rw [← HXE.out]; exact HCM.out, HXE.out ▸ rfl, rfl, rfl⟩⟩)⟩)⟩, l', .slice a11 (q + nk) c11, hsm, ?_, hgp, ?_, HF11.out⟩
    · rw [hqn]; exact hXX
    · exact (Chg.of_below hbb).set (p := ⟨p, 0, none⟩) (.inl List.mem_cons_self) _
end Go.Proofs.Yteflgempjecnpaa
