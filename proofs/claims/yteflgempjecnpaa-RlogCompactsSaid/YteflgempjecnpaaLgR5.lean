/- The reference's log: Merge. Conditions: none. -/
import Derived.Test.YteflgempjecnpaaLgR4
namespace Go.Proofs.Yteflgempjecnpaa
open Go.RowKit
section
variable {B : Nat} {w w' : World} {p : Nat} {b bt : Int} {T : List Ent} {com app : Int} {u : Value}
theorem entsC_app (l l' : List Ent) : entsC (l ++ l') = entsC l ++ entsC l' := by simp [entsC]
def RMPost (B : Nat) (w : World) (p : Nat) (T : List Ent) (u : Value) (n : Nat) (e : Ending) (w' : World) : Prop := (∃ m k : Int, e = .returned (.tuple #[.int .i64 m, .int .i64 k])) ∧ REnd B w p T u n w'
theorem good_rput {b bt com app i t : Int} {T l : List Ent} {d m : Nat} {i2 t2 : Int} (hG : Good (hd b bt :: T) com app) (hno : ∀ j, j < l.length → oddE (atE l j) = false) (hf : followE l i t = true) (hm : m < l.length) (hcm : com < (atE l m).ix) (hle : (atE l m).ix ≤ b + T.length + 1) (hsz : T.length + l.length ≤ 100000) {q : Nat} (hq : (atE l m).ix - 1 - b = q) :
    Good (hd b bt :: (T.take q ++ l.drop m)) com app := by
  have hgh := good_hd hG
  have h2 := follow_at hf m hm
  have hc := hG.cut (m := q + 1) (by omega) (by simp; omega) (by show com ≤ b + _; omega) (l := l.drop m) (by rw [List.length_drop]; omega) (fun j hj => by
    rw [List.length_drop] at hj
    have h4 := odd_no (hno (m + j) (by omega))
    have h5 := follow_at hf (m + j) (by omega)
    rw [atE_drop]
    show (atE l (m + j)).ix = b + _ + _ ∧ _
    refine ⟨?_, by omega, by omega, by omega⟩
    have : ((q + 1 : Nat) : Int) = q + 1 := by omega
    rw [this]
    omega)
  exact hc
def RCut (w : World) (b : Int) (l : List Ent) (d : Nat) (a2 : Option Addr) (n2 c2x : Nat) : Prop := d ≤ l.length ∧ n2 = (l.drop d).length ∧ n2 ≤ c2x ∧ (a2 = none → c2x = 0) ∧ EA w a2 (l.drop d) ∧ ∀ j, j < d → (atE l j).ix ≤ b
theorem RCut.next {w : World} {b : Int} {l : List Ent} {d : Nat} {b2 o2 n2 c2x : Nat} (h : RCut w b l d (some ⟨b2, o2, none⟩) n2 c2x) (h1 : 0 < n2) (hx : (atE l d).ix ≤ b) (a3 : Option Addr) (ha : 1 < c2x → a3 = some ⟨b2, o2 + 4, none⟩) (ha3 : a3 = none → c2x - 1 = 0) : RCut w b l (d + 1) a3 (n2 - 1) (c2x - 1) := by
  obtain ⟨q1, q2, q3, q4, q5, q6⟩ := h
  rw [List.length_drop] at q2
  refine ⟨by omega, by rw [List.length_drop]; omega, by omega, ha3, fun j hj => ?_, fun j hj => ?_⟩
  · rw [List.length_drop] at hj
    refine ⟨b2, o2 + 4, ha (by omega), fun m u hu => ?_⟩
    obtain ⟨b3, o3, e3, hc3⟩ := q5 (j + 1) (by rw [List.length_drop]; omega)
    injection e3 with e3
    injection e3 with e4 e5
    subst e4 e5
    have hu' : (entC ((l.drop d).getD (j + 1) default))[m]? = some u := by
      have h1 : (l.drop d).getD (j + 1) default = (l.drop (d + 1)).getD j default := by
        show atE (l.drop d) (j + 1) = atE (l.drop (d + 1)) j
        rw [atE_drop, atE_drop, show d + (j + 1) = d + 1 + j by omega]
      rw [h1]
      exact hu
    have := hc3 m u hu'
    rw [show o2 + (j + 1) * 4 + m = o2 + 4 + j * 4 + m by omega] at this
    exact this
  · by_cases hj2 : j = d
    · rw [hj2]; exact hx
    · exact q6 j (by omega)
set_option maxRecDepth 100000 in
set_option maxHeartbeats 4000000 in
theorem rmerge_at (h : RX B w p b bt T com app u) (hG : Good (hd b bt :: T) com app) (i t : Int) (a : Option Addr) (l : List Ent) (c : Nat) (hi : In w a l) (hnl : a = none → c = 0) (hcap : l.length ≤ c) (hsz : T.length + l.length ≤ 100000) :
    Calls Try.prog 27 #[.pointer (some ⟨p, 0, none⟩), .int .i64 i, .int .i64 t, .slice a l.length c] w fun e w' => RMPost B w p T u l.length e w' := by
  obtain ⟨ua, uc, rfl⟩ := own_slice h.row
  have HX := Lib.hid h
  have HG := Lib.hid hG
  obtain ⟨N, hN⟩ : ∃ N, N = T.length := ⟨_, rfl⟩
  have HN := Lib.hid hN
  have n2' : (N : Int) ≤ 200000 := by have := hG.sz; simp at this; omega
  have b1 : 0 ≤ b := hG.b0
  have b2' : b + N ≤ 1099511627776 := by have := hG.top; simp at this; unfold maxI at this; rw [hN]; exact this
  have c0 : ∀ W, Below w.heap.size w W → W.cell? ⟨p, 0, none⟩ = some (.int .i64 b) := fun W k => blk_cell (blk_below HX.out.blk k (blk_lt HX.out.blk)) 0
  have c1 : ∀ W, Below w.heap.size w W → W.cell? ⟨p, 1, none⟩ = some (.int .i64 bt) := fun W k => blk_cell (blk_below HX.out.blk k (blk_lt HX.out.blk)) 1
  have c2 : ∀ W, Below w.heap.size w W → W.cell? ⟨p, 2, none⟩ = some (.slice ua N uc) := fun W k => by rw [HN.out]; exact blk_cell (blk_below HX.out.blk k (blk_lt HX.out.blk)) 2
  have c3 : ∀ W, Below w.heap.size w W → W.cell? ⟨p, 3, none⟩ = some (.int .i64 com) := fun W k => blk_cell (blk_below HX.out.blk k (blk_lt HX.out.blk)) 3
  clear h hG hN
  have HI := Lib.hid hi
  have HS := Lib.hid hsz
  have HNIL := Lib.hid hnl
  have hr := rights_at a l c w hi.e (by unfold maxLen; omega) (fun j hj => (hi.d j hj).2.1)
  obtain ⟨n, hn⟩ : ∃ n, n = l.length := ⟨_, rfl⟩
  have HNL := Lib.hid hn
  have hn9 : (n : Int) ≤ 100000 := by omega
  have hnc : n ≤ c := by omega
  rw [← hn] at hr ⊢
  have HR := Lib.hid hr
  clear hi hsz hnl hr hn hcap
  go_enter Try.func27, Try.ntmps27
  go_wp2_with fail
  refine HR.out.mono ?_
  rintro e w1 ⟨⟨bo, rfl, hbo⟩, hb⟩
  cases bo with
  | false =>
    go_wp2_with fail
    go_ret2
    exact ⟨⟨0, 1, rfl⟩, .same HX.out HG.out hb⟩
  | true =>
  have HNO := Lib.hid (show ∀ i, i < l.length → oddE (atE l i) = false from fun i hi => hbo rfl i (by rw [HNL.out]; exact hi))
  clear hbo
  have hfo := rfollow_at a l c i t w1 (HI.out.keep hb).e (by have := HS.out; unfold maxLen; omega) HNO.out
  rw [← HNL.out] at hfo
  go_wp2_with fail
  refine hfo.mono ?_
  rintro e w2 ⟨rfl, hb2⟩
  replace hb := bl_trans hb hb2
  clear hb2 hfo
  cases hfw : followE l i t with
  | false =>
    clear hfw
    go_wp2_with fail
    go_ret2
    exact ⟨⟨0, 1, rfl⟩, .same HX.out HG.out hb⟩
  | true =>
  have HFW := Lib.hid hfw
  clear hfw
  by_cases hlow : i < b
  case neg =>
    have dl : decide (i < b) = false := decide_eq_false hlow
    obtain ⟨d, hd0⟩ : ∃ d : Nat, d = 0 := ⟨_, rfl⟩
    obtain ⟨i2, hi2⟩ : ∃ i2, i2 = i := ⟨_, rfl⟩
    obtain ⟨t2, ht2⟩ : ∃ t2, t2 = t := ⟨_, rfl⟩
    obtain ⟨a2, ha2⟩ : ∃ a2, a2 = a := ⟨_, rfl⟩
    obtain ⟨n2, hn2⟩ : ∃ n2, n2 = n := ⟨_, rfl⟩
    obtain ⟨c2x, hc2⟩ : ∃ c2x, c2x = c := ⟨_, rfl⟩
    have HE2 := Lib.hid (show EA w a2 (l.drop d) by rw [hd0, ha2]; exact HI.out.e)
    have HN2 := Lib.hid (show n2 = (l.drop d).length by rw [hd0, hn2, HNL.out]; rfl)
    have HC2 := Lib.hid (show n2 ≤ c2x by rw [hn2, hc2]; exact hnc)
    have HNI2 := Lib.hid (show a2 = none → c2x = 0 by rw [ha2, hc2]; exact HNIL.out)
    have HAT := Lib.hid (show i + 1 + d = i2 + 1 by rw [hd0, hi2]; omega)
    clear hlow
    go_upto_region 16 with fail
    rw [← hi2, ← ht2, ← ha2, ← hn2, ← hc2]
    clear hi2 ht2 ha2 hn2 hc2 hd0 dl
    -- i2 t2 a2 n2 c2x d
    have ht := rterm_at (HX.out.below hb) HG.out i2
    obtain ⟨tr, htr⟩ : ∃ tr, tr = termR (hd b bt :: T) i2 := ⟨_, rfl⟩
    rw [← htr] at ht
    have HTR := Lib.hid htr
    obtain ⟨tt, ti⟩ := tr
    have HT := Lib.hid ht
    simp only at HT
    clear ht htr
    try go_wp2_with fail
    refine HT.out.mono ?_
    rintro e w5 ⟨rfl, hb5⟩
    replace hb := bl_trans hb hb5
    clear hb5
    cases ti with
    | false =>
      go_wp2_with fail
      go_ret2
      exact ⟨⟨0, 7, rfl⟩, .same HX.out HG.out hb⟩
    | true =>
    by_cases ct : tt = t2
    case neg =>
      have dt : (tt != t2) = true := by simp [ct]
      clear ct
      go_wp2_with fail
      go_ret2
      exact ⟨⟨0, 7, rfl⟩, .same HX.out HG.out hb⟩
    have dt : (tt != t2) = false := by simp [ct]
    have HIN := Lib.hid (show b ≤ i2 ∧ i2 ≤ b + N by
      have h := HTR.out
      rw [hd_term] at h
      by_cases e1 : i2 = b
      · omega
      · rw [if_neg e1] at h
        split at h
        · next hh => rw [HN.out]; exact ⟨by omega, hh.2⟩
        · injection h with _ h; cases h)
    clear ct
    have HB5 := Lib.hid hb
    have hn29 : (n2 : Int) ≤ 100000 := by have h1 := HN2.out; rw [List.length_drop] at h1; have h2 := HS.out; omega
    clear hb
    go_wp2_with fail
    go_loopg [12, 13, 14, 15] n2 (fun g v12 v13 j v15 wr => Below w.heap.size w wr ∧ ∃ k : Nat, k ≤ n2 ∧ g = n2 - k ∧ j = .int .i64 k ∧ i2 + k ≤ b + N)
    case atStart => exact ⟨HB5.out, 0, by omega, by omega, rfl, by have := HIN.out.2; omega⟩
    case round =>
      clear HB5
      obtain ⟨hb, k, hk0, hgk, rfl, hkN⟩ := hrel
      have HGK := Lib.hid hgk
      have HKN := Lib.hid hkN
      clear hgk hkN
      by_cases hk : k < n2
      · have hk1 : decide ((k : Int) < n2) = true := decide_eq_true (by omega)
        have hk2 : (0 : Int) ≤ (k : Int) := by omega
        have hk4 : (k : Int) < n2 := by omega
        have hkl : k < (l.drop d).length := by rw [← HN2.out]; exact hk
        have hdl : d + k < l.length := by rw [List.length_drop] at hkl; omega
        have HDL := Lib.hid hdl
        obtain ⟨x, hx⟩ : ∃ x, x = atE l (d + k) := ⟨_, rfl⟩
        have HXE := Lib.hid hx
        obtain ⟨b2, o2, ha2, hc⟩ := (HE2.out.keep hb) k hkl
        have hc0 := hc 0 (.int .i64 x.ix) (by rw [hx, ← atE_drop]; rfl)
        have hc1 := hc 1 (.int .i64 x.tm) (by rw [hx, ← atE_drop]; rfl)
        have g0 : ∀ W, Below wr.heap.size wr W → W.cell? ⟨b2, o2 + k * 4, none⟩ = some (.int .i64 x.ix) := fun W hW => cell_keep hW (by rw [Nat.add_zero] at hc0; exact hc0)
        have g1 : ∀ W, Below wr.heap.size wr W → W.cell? ⟨b2, o2 + k * 4 + 1, none⟩ = some (.int .i64 x.tm) := fun W hW => cell_keep hW hc1
        have hbr := Below.refl wr.heap.size wr
        have hxi := follow_at HFW.out (d + k) hdl
        rw [← hx] at hxi
        have HXI := Lib.hid (show x.ix = i2 + 1 + k by have := HAT.out; omega)
        have HOD := Lib.hid (odd_no (HNO.out (d + k) hdl))
        have ht := rterm_at (HX.out.below hb) HG.out x.ix
        obtain ⟨tr, htr⟩ : ∃ tr, tr = termR (hd b bt :: T) x.ix := ⟨_, rfl⟩
        rw [← htr] at ht
        obtain ⟨t', is'⟩ := tr
        have HT' := Lib.hid ht
        simp only at HT'
        have HIS := Lib.hid (show (is' = true → x.ix ≤ b + N) ∧ (is' = false → b + N < x.ix) by
          have hxx := HXI.out
          have hin := HIN.out
          rw [hd_term] at htr
          rw [if_neg (by omega)] at htr
          split at htr
          · next hh => injection htr with _ h2; subst h2; exact ⟨fun _ => (by rw [HN.out]; exact hh.2), fun h => (by cases h)⟩
          · next hh => injection htr with _ h2; subst h2; exact ⟨fun h => (by cases h), fun _ => (by rw [HN.out]; omega)⟩)
        clear hkl hdl hx hc hc0 hc1 ht htr hxi
        subst ha2
        go_wp2_with fail
        refine HT'.out.mono ?_
        rintro e w6 ⟨rfl, hb6⟩
        replace hb := bl_trans hb hb6
        replace hbr := hb6
        clear hb6
        cases is' with
        | false =>
          have HCM := Lib.hid (show com < x.ix by have h1 := HIS.out.2 (by trivial); have h2 := (good_hd HG.out).2.2; rw [HN.out] at h1; omega)
          go_upto_region 27 with fail
          obtain ⟨q, hq⟩ : ∃ q : Nat, x.ix - 1 - b = q := ⟨(x.ix - 1 - b).toNat, by have h1 := HXI.out; have h2 := HIN.out; omega⟩
          have HQ := Lib.hid hq
          have hqN : q ≤ N := by have h1 := HXI.out; have h2 := HKN.out; omega
          have hNc : N ≤ uc := by
            rcases HX.out.row.2 with ⟨h1, h2⟩ | ⟨g', cap, cur, h1, _, _, h2, _⟩
            · have := HN.out; omega
            · injection h1 with _ _ h3
              have := HN.out
              omega
          have hx9 := HOD.out
          rw [← HXE.out] at hx9
          obtain ⟨hx1, hx2, _, _⟩ := hx9
          unfold maxI at hx2
          have hv5 : IntKind.i64.wrap (x.ix - 1) = x.ix - 1 := IntWalk.i64_in _ (by omega)
          have hv6 : IntKind.i64.wrap (x.ix - 1 - b) = (q : Int) := by rw [IntWalk.i64_in _ (by omega)]; exact hq
          have hq0 : (0 : Int) ≤ (q : Int) := by omega
          have hqc : (q : Int) ≤ (uc : Int) := by omega
          have hkc : (k : Int) < (c2x : Int) := by have := HC2.out; omega
          have hkc' : k < c2x := by have := HC2.out; omega
          have HQN := Lib.hid hqN
          clear hq hqN hNc hx1 hx2 hbr g0 g1
          refine wp_region_last 21 (Below w.heap.size w) (fun i => i == 1 || i == 14 || i == 18) (by kernel_rfl) (by rfl) (by kernel_rfl) (by kernel_rfl) (by exact hb.drew) ?_
          simp only [List.take_succ_cons, List.take_zero]
          intro hne hx
          replace hb := hb.drew
          change wpStg _ _ _ _ _ _ _ _ w6.drew
          obtain ⟨V, hV⟩ : ∃ V, V = w6.drew := ⟨_, rfl⟩
          rw [← hV] at hb ⊢
          clear hV
          refine stg_seg 1 (by dsimp only [List.take]) (by dsimp only [List.drop]) (by rfl) ?_
          repeat (go_big_quiet_step (fail))
          refine wpQuiet_nil ?_
          refine stg_loud (by rfl) ?_
          go_wp2_with fail
          have hbl2 := bl_alloc hb (.cells #[] 45)
          have HCELL := Lib.hid (show ∀ j u, (entsC (T.take q))[j]? = some u → ∃ b off, ua = some ⟨b, off, none⟩ ∧ (V.alloc (.cells #[] 45)).cell? ⟨b, off + j, none⟩ = some u from fun j u hj => by
            have hlt := (List.getElem?_eq_some_iff.1 hj).1
            rw [entsC_len, List.length_take] at hlt
            have hTn : 0 < T.length := by omega
            obtain ⟨g, cc, he, _⟩ := row_some HX.out.row hTn
            have he0 := he
            injection he with he1 _ _
            refine ⟨g, 0, he1, ?_⟩
            have h1 : (entsC T)[j]? = some u := by
              have h2 : entsC T = entsC (T.take q) ++ entsC (T.drop q) := by rw [← entsC_app, List.take_append_drop]
              rw [h2, List.getElem?_append_left (by rw [entsC_len, List.length_take]; exact hlt)]
              exact hj
            have h3 := (HX.out.below hbl2).row
            rw [he0] at h3
            rw [Nat.zero_add]
            exact row_cell h3 h1)
          refine lq_in rfl (hbl2) ?_
          refine stg_seg 12 (by dsimp only [List.take]) (by dsimp only [List.drop]) (by rfl) ?_
          repeat (go_big_quiet_step (fail))
          refine wpQuiet_nil ?_
          refine stg_loud (by rfl) ?_
          go_wp2_with (at_builtin; go_loud (refine wpList_clone rfl _ _ 33 rfl V.heap.size 45 Try.underlying33 Try.infoEntry rfl (by decide) rfl (World.ownsRow_made V #[] 0 (Nat.le_refl _) (by simp) rfl) rfl (ys := entsC (T.take q)) (by rw [entsC_len, List.length_take]; have h1 := HN.out; have h2 := HQN.out; omega) HCELL.out (fun h0 => by rcases HX.out.row.2 with ⟨h1, _⟩ | ⟨g, cap, cur, h1, hh⟩; injection h1; injection h1 with h1 _ _; rw [h0] at h1; cases h1) entsC_one (by have h1 := HQN.out; unfold maxLen; omega) (by have h1 := HQN.out; omega) (by simp) ?_); intro v7 w7 hown1 hgrow hat1)
          rw [Nat.zero_add, List.nil_append] at hown1
          try rw [Nat.zero_add] at hat1
          obtain ⟨a7, c7, rfl⟩ := own_slice hown1
          have hb7 : Below w.heap.size w w7 := hbl2.trans (own_below (World.ownsRow_made V #[] 0 (base := w.heap.size) (e := 45) (size := 4) hb.size (by simp) rfl) hgrow (by have := hb.size; simp; omega))
          have HV7 := Lib.hid hb.size
          have hlt7 : V.heap.size ≤ w7.heap.size := by have := hgrow.size; simp at this; omega
          have HL7 := Lib.hid hlt7
          have HOW7 := Lib.hid hown1
          have HF7 := Lib.hid (show ∃ g, (Value.slice a7 q c7).ownBlock = some g ∧ w.heap.size ≤ g by
            rcases hat1 with h1 | ⟨g, h1, h2⟩
            · exact ⟨V.heap.size, h1, hb.size⟩
            · exact ⟨g, h1, by have := hb.size; simp at h2; omega⟩)
          have HN27 := Lib.hid (show n2 - k = (l.drop (d + k)).length by rw [HN2.out, List.length_drop, List.length_drop]; omega)
          have HCE := Lib.hid (show ∀ W, Below w.heap.size w W → ∀ j u, (entsC (l.drop (d + k)))[j]? = some u → ∃ b off, (some ⟨b2, o2 + k * 4, none⟩ : Option Addr) = some ⟨b, off, none⟩ ∧ W.cell? ⟨b, off + j, none⟩ = some u from fun W hW j u hj => by
            rw [← List.drop_drop] at hj
            have h1 := ents_drop hj
            obtain ⟨b3, o3, e3, hc3⟩ := ents_at (HE2.out.keep hW) _ _ h1
            injection e3 with e3
            injection e3 with e4 e5
            subst e4 e5
            exact ⟨b2, o2 + k * 4, rfl, by rw [Nat.add_assoc]; exact hc3⟩)
          clear hown1 hgrow hat1 hlt7 HCELL hbl2 hb
          refine lq_in rfl (hb7) ?_
          refine stg_seg 3 (by dsimp only [List.take]) (by dsimp only [List.drop]) (by rfl) ?_
          repeat (go_big_quiet_step (fail))
          refine wpQuiet_nil ?_
          refine stg_loud (by rfl) ?_
          go_wp2_with (at_builtin; go_loud (refine wpList_clone rfl _ _ 33 rfl V.heap.size 45 Try.underlying33 Try.infoEntry rfl (by decide) rfl HOW7.out rfl (ys := entsC (l.drop (d + k))) (by rw [entsC_len, ← HN27.out]) (HCE.out _ hb7) (fun h0 => by cases h0) entsC_one (by have h1 := HQN.out; unfold maxLen; omega) (by have h1 := HQN.out; omega) HL7.out ?_); intro v8 w8 hown1 hgrow hat1)
          obtain ⟨a8, c8, rfl⟩ := own_slice hown1
          replace hgrow : w7.grownBy w8 (Value.slice a7 q c7).ownBlock := hgrow
          replace hat1 : (Value.slice a8 (q + (n2 - k)) c8).ownBlock = (Value.slice a7 q c7).ownBlock ∨ ∃ g, (Value.slice a8 (q + (n2 - k)) c8).ownBlock = some g ∧ w7.heap.size ≤ g := hat1
          have hb8 : Below w.heap.size w w8 := hb7.trans (own_below (row_mono HOW7.out HV7.out) hgrow (Nat.le_trans HV7.out HL7.out))
          have hlen : (T.take q ++ l.drop (d + k)).length = q + (n2 - k) := by rw [List.length_append, List.length_take, HN27.out]; have h1 := HQN.out; have h2 := HN.out; omega
          have HOW8 := Lib.hid (show w8.ownsRow B 45 4 (.slice a8 (q + (n2 - k)) c8) (T.take q ++ l.drop (d + k)).length (entsC (T.take q ++ l.drop (d + k))) by
            rw [hlen, entsC_app]
            exact row_mono hown1 (by have h1 := HX.out.hB; have h2 := blk_lt HX.out.blk; have h3 := HV7.out; omega))
          have HF8 := Lib.hid (show ∃ g, (Value.slice a8 (q + (n2 - k)) c8).ownBlock = some g ∧ w.heap.size ≤ g by
            obtain ⟨g7, e7, h7⟩ := HF7.out
            rcases hat1 with h1 | ⟨g, h1, h2⟩
            · exact ⟨g7, h1.trans e7, h7⟩
            · exact ⟨g, h1, Nat.le_trans (Nat.le_trans HV7.out HL7.out) h2⟩)
          have HB8 := Lib.hid hb8
          have hbk := (HX.out.below hb8).blk
          have p2 := blk_cell hbk 2
          have pf2 := blk_frozen hbk
          simp only [List.getElem?_toArray, List.getElem?_cons_zero, List.getElem?_cons_succ] at p2
          clear hown1 hgrow hat1 hbk hlen hb7 c0 c1 c2 c3
          refine lq_in rfl (hb8) ?_
          refine stg_seg 2 (by dsimp only [List.take]) (by dsimp only [List.drop]) (by rfl) ?_
          repeat (go_big_quiet_step (fail))
          refine wpQuiet_nil ?_
          refine stg_nil ?_
          clear hne hx
          intro _ hxx
          clear hxx hb8
          go_wp2_with fail
          go_ret2
          obtain ⟨hX, hC⟩ := HX.out.more (T' := T.take q ++ l.drop (d + k)) (u' := .slice a8 (q + (n2 - k)) c8) (w2 := w8) (row := none) HOW8.out ⟨HB8.out.os, HB8.out.tape, HB8.out.output, HB8.out.size, fun j hj _ => HB8.out.block j hj⟩ (.inl rfl) (.inr (.inr HF8.out))
          refine ⟨⟨_, _, rfl⟩, b, bt, T.take q ++ l.drop (d + k), com, app, _, hX, ?_, hC, .inr (.inr HF8.out), by rw [List.length_append, List.length_take, List.length_drop, HNL.out]; omega⟩
          have hxe := HXE.out
          exact good_rput (d := d) (i2 := i2) (t2 := t2) HG.out HNO.out HFW.out HDL.out (by rw [← hxe]; exact HCM.out) (by rw [← hxe]; have h1 := HXI.out; have h2 := HKN.out; have h3 := HN.out; omega) HS.out (by rw [← hxe]; exact HQ.out)
        | true =>
          by_cases ct : t' = x.tm
          · have dt' : (t' == x.tm) = true := by simp [ct]
            clear ct
            go_wp2_with fail
            go_roundg (n2 - (k + 1))
            case measure => have := HGK.out; omega
            case rel => exact ⟨hb, k + 1, by omega, rfl, by go_num, by have h1 := HIS.out.1 (by trivial); have h2 := HXI.out; omega⟩
          · have dt' : (t' == x.tm) = false := by simp [ct]
            clear ct
            have k3 := c3 _ hb
            by_cases cm : x.ix ≤ com
            · have dm : decide (x.ix ≤ com) = true := decide_eq_true cm
              clear cm
              go_wp2_with fail
              go_ret2
              exact ⟨⟨0, 9, rfl⟩, .same HX.out HG.out hb⟩
            · have dm : decide (x.ix ≤ com) = false := decide_eq_false cm
              have HCM := Lib.hid (show com < x.ix by omega)
              clear cm
              go_upto_region 27 with fail
              clear k3 dm dt'
              obtain ⟨q, hq⟩ : ∃ q : Nat, x.ix - 1 - b = q := ⟨(x.ix - 1 - b).toNat, by have h1 := HXI.out; have h2 := HIN.out; omega⟩
              have HQ := Lib.hid hq
              have hqN : q ≤ N := by have h1 := HXI.out; have h2 := HKN.out; omega
              have hNc : N ≤ uc := by
                rcases HX.out.row.2 with ⟨h1, h2⟩ | ⟨g', cap, cur, h1, _, _, h2, _⟩
                · have := HN.out; omega
                · injection h1 with _ _ h3
                  have := HN.out
                  omega
              have hx9 := HOD.out
              rw [← HXE.out] at hx9
              obtain ⟨hx1, hx2, _, _⟩ := hx9
              unfold maxI at hx2
              have hv5 : IntKind.i64.wrap (x.ix - 1) = x.ix - 1 := IntWalk.i64_in _ (by omega)
              have hv6 : IntKind.i64.wrap (x.ix - 1 - b) = (q : Int) := by rw [IntWalk.i64_in _ (by omega)]; exact hq
              have hq0 : (0 : Int) ≤ (q : Int) := by omega
              have hqc : (q : Int) ≤ (uc : Int) := by omega
              have hkc : (k : Int) < (c2x : Int) := by have := HC2.out; omega
              have hkc' : k < c2x := by have := HC2.out; omega
              have HQN := Lib.hid hqN
              clear hq hqN hNc hx1 hx2 hbr g0 g1
              refine wp_region_last 21 (Below w.heap.size w) (fun i => i == 1 || i == 14 || i == 18) (by kernel_rfl) (by rfl) (by kernel_rfl) (by kernel_rfl) (by exact hb.drew) ?_
              simp only [List.take_succ_cons, List.take_zero]
              intro hne hx
              replace hb := hb.drew
              change wpStg _ _ _ _ _ _ _ _ w6.drew
              obtain ⟨V, hV⟩ : ∃ V, V = w6.drew := ⟨_, rfl⟩
              rw [← hV] at hb ⊢
              clear hV
              refine stg_seg 1 (by dsimp only [List.take]) (by dsimp only [List.drop]) (by rfl) ?_
              repeat (go_big_quiet_step (fail))
              refine wpQuiet_nil ?_
              refine stg_loud (by rfl) ?_
              go_wp2_with fail
              have hbl2 := bl_alloc hb (.cells #[] 45)
              have HCELL := Lib.hid (show ∀ j u, (entsC (T.take q))[j]? = some u → ∃ b off, ua = some ⟨b, off, none⟩ ∧ (V.alloc (.cells #[] 45)).cell? ⟨b, off + j, none⟩ = some u from fun j u hj => by
                have hlt := (List.getElem?_eq_some_iff.1 hj).1
                rw [entsC_len, List.length_take] at hlt
                have hTn : 0 < T.length := by omega
                obtain ⟨g, cc, he, _⟩ := row_some HX.out.row hTn
                have he0 := he
                injection he with he1 _ _
                refine ⟨g, 0, he1, ?_⟩
                have h1 : (entsC T)[j]? = some u := by
                  have h2 : entsC T = entsC (T.take q) ++ entsC (T.drop q) := by rw [← entsC_app, List.take_append_drop]
                  rw [h2, List.getElem?_append_left (by rw [entsC_len, List.length_take]; exact hlt)]
                  exact hj
                have h3 := (HX.out.below hbl2).row
                rw [he0] at h3
                rw [Nat.zero_add]
                exact row_cell h3 h1)
              refine lq_in rfl (hbl2) ?_
              refine stg_seg 12 (by dsimp only [List.take]) (by dsimp only [List.drop]) (by rfl) ?_
              repeat (go_big_quiet_step (fail))
              refine wpQuiet_nil ?_
              refine stg_loud (by rfl) ?_
              go_wp2_with (at_builtin; go_loud (refine wpList_clone rfl _ _ 33 rfl V.heap.size 45 Try.underlying33 Try.infoEntry rfl (by decide) rfl (World.ownsRow_made V #[] 0 (Nat.le_refl _) (by simp) rfl) rfl (ys := entsC (T.take q)) (by rw [entsC_len, List.length_take]; have h1 := HN.out; have h2 := HQN.out; omega) HCELL.out (fun h0 => by rcases HX.out.row.2 with ⟨h1, _⟩ | ⟨g, cap, cur, h1, hh⟩; injection h1; injection h1 with h1 _ _; rw [h0] at h1; cases h1) entsC_one (by have h1 := HQN.out; unfold maxLen; omega) (by have h1 := HQN.out; omega) (by simp) ?_); intro v7 w7 hown1 hgrow hat1)
              rw [Nat.zero_add, List.nil_append] at hown1
              try rw [Nat.zero_add] at hat1
              obtain ⟨a7, c7, rfl⟩ := own_slice hown1
              have hb7 : Below w.heap.size w w7 := hbl2.trans (own_below (World.ownsRow_made V #[] 0 (base := w.heap.size) (e := 45) (size := 4) hb.size (by simp) rfl) hgrow (by have := hb.size; simp; omega))
              have HV7 := Lib.hid hb.size
              have hlt7 : V.heap.size ≤ w7.heap.size := by have := hgrow.size; simp at this; omega
              have HL7 := Lib.hid hlt7
              have HOW7 := Lib.hid hown1
              have HF7 := Lib.hid (show ∃ g, (Value.slice a7 q c7).ownBlock = some g ∧ w.heap.size ≤ g by
                rcases hat1 with h1 | ⟨g, h1, h2⟩
                · exact ⟨V.heap.size, h1, hb.size⟩
                · exact ⟨g, h1, by have := hb.size; simp at h2; omega⟩)
              have HN27 := Lib.hid (show n2 - k = (l.drop (d + k)).length by rw [HN2.out, List.length_drop, List.length_drop]; omega)
              have HCE := Lib.hid (show ∀ W, Below w.heap.size w W → ∀ j u, (entsC (l.drop (d + k)))[j]? = some u → ∃ b off, (some ⟨b2, o2 + k * 4, none⟩ : Option Addr) = some ⟨b, off, none⟩ ∧ W.cell? ⟨b, off + j, none⟩ = some u from fun W hW j u hj => by
                rw [← List.drop_drop] at hj
                have h1 := ents_drop hj
                obtain ⟨b3, o3, e3, hc3⟩ := ents_at (HE2.out.keep hW) _ _ h1
                injection e3 with e3
                injection e3 with e4 e5
                subst e4 e5
                exact ⟨b2, o2 + k * 4, rfl, by rw [Nat.add_assoc]; exact hc3⟩)
              clear hown1 hgrow hat1 hlt7 HCELL hbl2 hb
              refine lq_in rfl (hb7) ?_
              refine stg_seg 3 (by dsimp only [List.take]) (by dsimp only [List.drop]) (by rfl) ?_
              repeat (go_big_quiet_step (fail))
              refine wpQuiet_nil ?_
              refine stg_loud (by rfl) ?_
              go_wp2_with (at_builtin; go_loud (refine wpList_clone rfl _ _ 33 rfl V.heap.size 45 Try.underlying33 Try.infoEntry rfl (by decide) rfl HOW7.out rfl (ys := entsC (l.drop (d + k))) (by rw [entsC_len, ← HN27.out]) (HCE.out _ hb7) (fun h0 => by cases h0) entsC_one (by have h1 := HQN.out; unfold maxLen; omega) (by have h1 := HQN.out; omega) HL7.out ?_); intro v8 w8 hown1 hgrow hat1)
              obtain ⟨a8, c8, rfl⟩ := own_slice hown1
              replace hgrow : w7.grownBy w8 (Value.slice a7 q c7).ownBlock := hgrow
              replace hat1 : (Value.slice a8 (q + (n2 - k)) c8).ownBlock = (Value.slice a7 q c7).ownBlock ∨ ∃ g, (Value.slice a8 (q + (n2 - k)) c8).ownBlock = some g ∧ w7.heap.size ≤ g := hat1
              have hb8 : Below w.heap.size w w8 := hb7.trans (own_below (row_mono HOW7.out HV7.out) hgrow (Nat.le_trans HV7.out HL7.out))
              have hlen : (T.take q ++ l.drop (d + k)).length = q + (n2 - k) := by rw [List.length_append, List.length_take, HN27.out]; have h1 := HQN.out; have h2 := HN.out; omega
              have HOW8 := Lib.hid (show w8.ownsRow B 45 4 (.slice a8 (q + (n2 - k)) c8) (T.take q ++ l.drop (d + k)).length (entsC (T.take q ++ l.drop (d + k))) by
                rw [hlen, entsC_app]
                exact row_mono hown1 (by have h1 := HX.out.hB; have h2 := blk_lt HX.out.blk; have h3 := HV7.out; omega))
              have HF8 := Lib.hid (show ∃ g, (Value.slice a8 (q + (n2 - k)) c8).ownBlock = some g ∧ w.heap.size ≤ g by
                obtain ⟨g7, e7, h7⟩ := HF7.out
                rcases hat1 with h1 | ⟨g, h1, h2⟩
                · exact ⟨g7, h1.trans e7, h7⟩
                · exact ⟨g, h1, Nat.le_trans (Nat.le_trans HV7.out HL7.out) h2⟩)
              have HB8 := Lib.hid hb8
              have hbk := (HX.out.below hb8).blk
              have p2 := blk_cell hbk 2
              have pf2 := blk_frozen hbk
              simp only [List.getElem?_toArray, List.getElem?_cons_zero, List.getElem?_cons_succ] at p2
              clear hown1 hgrow hat1 hbk hlen hb7 c0 c1 c2 c3
              refine lq_in rfl (hb8) ?_
              refine stg_seg 2 (by dsimp only [List.take]) (by dsimp only [List.drop]) (by rfl) ?_
              repeat (go_big_quiet_step (fail))
              refine wpQuiet_nil ?_
              refine stg_nil ?_
              clear hne hx
              intro _ hxx
              clear hxx hb8
              go_wp2_with fail
              go_ret2
              obtain ⟨hX, hC⟩ := HX.out.more (T' := T.take q ++ l.drop (d + k)) (u' := .slice a8 (q + (n2 - k)) c8) (w2 := w8) (row := none) HOW8.out ⟨HB8.out.os, HB8.out.tape, HB8.out.output, HB8.out.size, fun j hj _ => HB8.out.block j hj⟩ (.inl rfl) (.inr (.inr HF8.out))
              refine ⟨⟨_, _, rfl⟩, b, bt, T.take q ++ l.drop (d + k), com, app, _, hX, ?_, hC, .inr (.inr HF8.out), by rw [List.length_append, List.length_take, List.length_drop, HNL.out]; omega⟩
              have hxe := HXE.out
              exact good_rput (d := d) (i2 := i2) (t2 := t2) HG.out HNO.out HFW.out HDL.out (by rw [← hxe]; exact HCM.out) (by rw [← hxe]; have h1 := HXI.out; have h2 := HKN.out; have h3 := HN.out; omega) HS.out (by rw [← hxe]; exact HQ.out)
      · obtain rfl : k = n2 := by omega
        have hk1 : decide ((k : Int) < (k : Int)) = false := decide_eq_false (by omega)
        go_wp2_with fail
        go_ret2
        exact ⟨⟨0, 0, rfl⟩, .same HX.out HG.out hb⟩
  case pos =>
    have dl : decide (i < b) = true := decide_eq_true hlow
    have HLOW := Lib.hid hlow
    have HB1 := Lib.hid hb
    have HRC0 := Lib.hid (show RCut w b l 0 a n c from ⟨Nat.zero_le _, by rw [List.drop_zero]; exact HNL.out, hnc, HNIL.out, by rw [List.drop_zero]; exact HI.out.e, fun j hj => by omega⟩)
    clear hlow
    go_wp2_with fail
    clear hb
    go_loopg [3] n (fun g v3 wr => Below w.heap.size w wr ∧ ∃ (d : Nat) (a2 : Option Addr) (n2 c2x : Nat), v3 = .slice a2 n2 c2x ∧ n2 = g ∧ RCut w b l d a2 n2 c2x)
    case atStart => exact ⟨HB1.out, 0, a, n, c, rfl, rfl, HRC0.out⟩
    case round =>
      clear HB1 HRC0
      obtain ⟨hb, d, a2, n2, c2x, rfl, rfl, hrc⟩ := hrel
      have HRC := Lib.hid hrc
      by_cases hk : n2 = 0
      · have z1 : decide ((0 : Int) < (n2 : Int)) = false := decide_eq_false (by omega)
        have z1' : decide (0 < n2) = false := decide_eq_false (by omega)
        have z2 : ((n2 : Int) == 0) = true := by simp [hk]
        clear hk hrc
        have hbr := Below.refl wr.heap.size wr
        go_wp2_with fail
        refine wp_region_in (Below wr.heap.size wr) (fun _ => false) (by kernel_rfl) (by kernel_rfl) (by exact hbr.drew) ?_
        intro hne hx
        replace hbr := hbr.drew
        replace hb := hb.drew
        change wpStg _ _ _ _ _ _ _ _ wr.drew
        obtain ⟨V3, hV⟩ : ∃ V, V = wr.drew := ⟨_, rfl⟩
        rw [← hV] at hb hbr ⊢
        clear hV
        refine stg_seg 14 (by dsimp only [List.take]) (by dsimp only [List.drop]) (by rfl) ?_
        repeat (go_big_quiet_step (fail))
        refine wpQuiet_nil ?_
        refine stg_nil ?_
        clear hne hx
        go_wp2_with fail
        go_ret2
        exact ⟨⟨0, 0, rfl⟩, .same HX.out HG.out hb⟩
      have z1 : decide ((0 : Int) < (n2 : Int)) = true := decide_eq_true (by omega)
      have z1' : decide (0 < n2) = true := decide_eq_true (by omega)
      have z2 : ((n2 : Int) == 0) = false := by simp; omega
      have z3 : (0 : Int) < (n2 : Int) := by omega
      have z4 : (0 : Int) ≤ (0 : Int) := by omega
      have hnn : 0 < n2 := by omega
      have HNN := Lib.hid hnn
      obtain ⟨q1, q2, q3, q4, q5, q6⟩ := hrc
      have hc1 : (1 : Int) ≤ (n2 : Int) := by omega
      have hdl : d < l.length := by rw [List.length_drop] at q2; omega
      have HDL := Lib.hid hdl
      obtain ⟨x, hx⟩ : ∃ x, x = atE l d := ⟨_, rfl⟩
      have HXE := Lib.hid hx
      obtain ⟨b2, o2, rfl, hc⟩ := (q5.keep hb) 0 (by omega)
      have hc0 := hc 0 (.int .i64 x.ix) (by rw [hx, ← Nat.add_zero d, ← atE_drop]; rfl)
      have hc2 := hc 1 (.int .i64 x.tm) (by rw [hx, ← Nat.add_zero d, ← atE_drop]; rfl)
      have g0 : ∀ W, Below wr.heap.size wr W → W.cell? ⟨b2, o2, none⟩ = some (.int .i64 x.ix) := fun W hW => cell_keep hW (by simpa using hc0)
      have g1 : ∀ W, Below wr.heap.size wr W → W.cell? ⟨b2, o2 + 1, none⟩ = some (.int .i64 x.tm) := fun W hW => cell_keep hW (by simpa using hc2)
      have hbr := Below.refl wr.heap.size wr
      have r0 : ∀ W, Below wr.heap.size wr W → W.cell? ⟨p, 0, none⟩ = some (.int .i64 b) := fun W hW => c0 W (bl_trans hb hW)
      have r1 : ∀ W, Below wr.heap.size wr W → W.cell? ⟨p, 1, none⟩ = some (.int .i64 bt) := fun W hW => c1 W (bl_trans hb hW)
      clear q1 q2 q4 q5 hdl hx hc hc0 hc2 hk hnn
      by_cases hle : x.ix ≤ b
      · have dle : decide (x.ix ≤ b) = true := decide_eq_true hle
        have HLE := Lib.hid hle
        clear q6 hle
        go_wp2_with fail
        refine wp_region_in (Below wr.heap.size wr) (fun _ => false) (by kernel_rfl) (by kernel_rfl) (by exact hbr.drew) ?_
        intro hne hx
        replace hbr := hbr.drew
        replace hb := hb.drew
        change wpStg _ _ _ _ _ _ _ _ wr.drew
        obtain ⟨V3, hV⟩ : ∃ V, V = wr.drew := ⟨_, rfl⟩
        rw [← hV] at hb hbr ⊢
        clear hV
        refine stg_seg 14 (by dsimp only [List.take]) (by dsimp only [List.drop]) (by rfl) ?_
        repeat (go_big_quiet_step (fail))
        refine wpQuiet_nil ?_
        refine stg_nil ?_
        clear hne hx
        go_wp2_with fail
        · go_roundg (n2 - 1)
          case measure => have := HNN.out; omega
          case rel =>
            have h1 : c2x = 1 := by assumption
            have h2 := HRC.out.next HNN.out (by rw [← HXE.out]; exact HLE.out) (some ⟨b2, o2, none⟩) (fun h => by omega) (fun _ => by omega)
            rw [show c2x - 1 = 0 by omega] at h2
            exact ⟨hb, d + 1, _, _, _, rfl, rfl, h2⟩
        · go_roundg (n2 - 1)
          case measure => have := HNN.out; omega
          case rel => exact ⟨hb, d + 1, _, _, _, rfl, rfl, HRC.out.next HNN.out (by rw [← HXE.out]; exact HLE.out) _ (fun _ => rfl) (fun h => by cases h)⟩
      · have dle : decide (x.ix ≤ b) = false := decide_eq_false hle
        have HLE := Lib.hid hle
        clear hle
        have hxi := follow_at HFW.out d HDL.out
        rw [← HXE.out] at hxi
        have HXB := Lib.hid (show i + 1 + d = b + 1 by
          have h1 := HLOW.out
          have h2 := HLE.out
          by_cases h0 : d = 0
          · subst h0; omega
          · have h3 := follow_at HFW.out (d - 1) (by have := HDL.out; omega)
            have h4 := q6 (d - 1) (by omega)
            omega)
        clear hxi q6
        by_cases clt : x.tm < bt
        · have dlt : decide (x.tm < bt) = true := decide_eq_true clt
          clear clt
          go_wp2_with fail
          refine wp_region_in (Below wr.heap.size wr) (fun _ => false) (by kernel_rfl) (by kernel_rfl) (by exact hbr.drew) ?_
          intro hne hx
          replace hbr := hbr.drew
          replace hb := hb.drew
          change wpStg _ _ _ _ _ _ _ _ wr.drew
          obtain ⟨V3, hV⟩ : ∃ V, V = wr.drew := ⟨_, rfl⟩
          rw [← hV] at hb hbr ⊢
          clear hV
          refine stg_seg 14 (by dsimp only [List.take]) (by dsimp only [List.drop]) (by rfl) ?_
          repeat (go_big_quiet_step (fail))
          refine wpQuiet_nil ?_
          refine stg_nil ?_
          clear hne hx
          go_wp2_with fail
          refine wp_region_in (Below wr.heap.size wr) (fun _ => false) (by kernel_rfl) (by kernel_rfl) (by exact hbr.drew) ?_
          intro hne hx
          replace hbr := hbr.drew
          replace hb := hb.drew
          change wpStg _ _ _ _ _ _ _ _ V3.drew
          obtain ⟨V4, hV⟩ : ∃ V, V = V3.drew := ⟨_, rfl⟩
          rw [← hV] at hb hbr ⊢
          clear hV
          refine stg_seg 9 (by dsimp only [List.take]) (by dsimp only [List.drop]) (by rfl) ?_
          repeat (go_big_quiet_step (fail))
          refine wpQuiet_nil ?_
          refine stg_nil ?_
          clear hne hx
          go_wp2_with fail
          go_ret2
          exact ⟨⟨0, 7, rfl⟩, .same HX.out HG.out hb⟩
        have dlt : decide (x.tm < bt) = false := decide_eq_false clt
        clear clt
        go_wp2_with fail
        refine wp_region_in (Below wr.heap.size wr) (fun _ => false) (by kernel_rfl) (by kernel_rfl) (by exact hbr.drew) ?_
        intro hne hx
        replace hbr := hbr.drew
        replace hb := hb.drew
        change wpStg _ _ _ _ _ _ _ _ wr.drew
        obtain ⟨V3, hV⟩ : ∃ V, V = wr.drew := ⟨_, rfl⟩
        rw [← hV] at hb hbr ⊢
        clear hV
        refine stg_seg 14 (by dsimp only [List.take]) (by dsimp only [List.drop]) (by rfl) ?_
        repeat (go_big_quiet_step (fail))
        refine wpQuiet_nil ?_
        refine stg_nil ?_
        clear hne hx
        go_wp2_with fail
        refine wp_region_in (Below wr.heap.size wr) (fun _ => false) (by kernel_rfl) (by kernel_rfl) (by exact hbr.drew) ?_
        intro hne hx
        replace hbr := hbr.drew
        replace hb := hb.drew
        change wpStg _ _ _ _ _ _ _ _ V3.drew
        obtain ⟨V4, hV⟩ : ∃ V, V = V3.drew := ⟨_, rfl⟩
        rw [← hV] at hb hbr ⊢
        clear hV
        refine stg_seg 9 (by dsimp only [List.take]) (by dsimp only [List.drop]) (by rfl) ?_
        repeat (go_big_quiet_step (fail))
        refine wpQuiet_nil ?_
        refine stg_nil ?_
        clear hne hx
        go_upto_region 16 with fail
        obtain ⟨i2, hi2⟩ : ∃ i2, i2 = b := ⟨_, rfl⟩
        obtain ⟨t2, ht2⟩ : ∃ t2, t2 = bt := ⟨_, rfl⟩
        obtain ⟨a2, ha2⟩ : ∃ a2 : Option Addr, a2 = some ⟨b2, o2, none⟩ := ⟨_, rfl⟩
        have HE2 := Lib.hid (show EA w a2 (l.drop d) by rw [ha2]; exact HRC.out.2.2.2.2.1)
        have HN2 := Lib.hid HRC.out.2.1
        have HC2 := Lib.hid HRC.out.2.2.1
        have HNI2 := Lib.hid (show a2 = none → c2x = 0 by rw [ha2]; exact HRC.out.2.2.2.1)
        have HAT := Lib.hid (show i + 1 + d = i2 + 1 by rw [hi2]; exact HXB.out)
        rw [← hi2, ← ht2, ← ha2]
        clear hi2 ht2 ha2 dl z1 z1' z2 z3 z4 q3 hc1 g0 g1 r0 r1 dle dlt hbr
        -- i2 t2 a2 n2 c2x d
        have ht := rterm_at (HX.out.below hb) HG.out i2
        obtain ⟨tr, htr⟩ : ∃ tr, tr = termR (hd b bt :: T) i2 := ⟨_, rfl⟩
        rw [← htr] at ht
        have HTR := Lib.hid htr
        obtain ⟨tt, ti⟩ := tr
        have HT := Lib.hid ht
        simp only at HT
        clear ht htr
        try go_wp2_with fail
        refine HT.out.mono ?_
        rintro e w5 ⟨rfl, hb5⟩
        replace hb := bl_trans hb hb5
        clear hb5
        cases ti with
        | false =>
          go_wp2_with fail
          go_ret2
          exact ⟨⟨0, 7, rfl⟩, .same HX.out HG.out hb⟩
        | true =>
        by_cases ct : tt = t2
        case neg =>
          have dt : (tt != t2) = true := by simp [ct]
          clear ct
          go_wp2_with fail
          go_ret2
          exact ⟨⟨0, 7, rfl⟩, .same HX.out HG.out hb⟩
        have dt : (tt != t2) = false := by simp [ct]
        have HIN := Lib.hid (show b ≤ i2 ∧ i2 ≤ b + N by
          have h := HTR.out
          rw [hd_term] at h
          by_cases e1 : i2 = b
          · omega
          · rw [if_neg e1] at h
            split at h
            · next hh => rw [HN.out]; exact ⟨by omega, hh.2⟩
            · injection h with _ h; cases h)
        clear ct
        have HB5 := Lib.hid hb
        have hn29 : (n2 : Int) ≤ 100000 := by have h1 := HN2.out; rw [List.length_drop] at h1; have h2 := HS.out; omega
        clear hb
        go_wp2_with fail
        go_loopg [12, 13, 14, 15] n2 (fun g v12 v13 j v15 wr => Below w.heap.size w wr ∧ ∃ k : Nat, k ≤ n2 ∧ g = n2 - k ∧ j = .int .i64 k ∧ i2 + k ≤ b + N)
        case atStart => exact ⟨HB5.out, 0, by omega, by omega, rfl, by have := HIN.out.2; omega⟩
        case round =>
          clear HB5
          obtain ⟨hb, k, hk0, hgk, rfl, hkN⟩ := hrel
          have HGK := Lib.hid hgk
          have HKN := Lib.hid hkN
          clear hgk hkN
          by_cases hk : k < n2
          · have hk1 : decide ((k : Int) < n2) = true := decide_eq_true (by omega)
            have hk2 : (0 : Int) ≤ (k : Int) := by omega
            have hk4 : (k : Int) < n2 := by omega
            have hkl : k < (l.drop d).length := by rw [← HN2.out]; exact hk
            have hdl : d + k < l.length := by rw [List.length_drop] at hkl; omega
            have HDL := Lib.hid hdl
            obtain ⟨x, hx⟩ : ∃ x, x = atE l (d + k) := ⟨_, rfl⟩
            have HXE := Lib.hid hx
            obtain ⟨b2, o2, ha2, hc⟩ := (HE2.out.keep hb) k hkl
            have hc0 := hc 0 (.int .i64 x.ix) (by rw [hx, ← atE_drop]; rfl)
            have hc1 := hc 1 (.int .i64 x.tm) (by rw [hx, ← atE_drop]; rfl)
            have g0 : ∀ W, Below wr.heap.size wr W → W.cell? ⟨b2, o2 + k * 4, none⟩ = some (.int .i64 x.ix) := fun W hW => cell_keep hW (by rw [Nat.add_zero] at hc0; exact hc0)
            have g1 : ∀ W, Below wr.heap.size wr W → W.cell? ⟨b2, o2 + k * 4 + 1, none⟩ = some (.int .i64 x.tm) := fun W hW => cell_keep hW hc1
            have hbr := Below.refl wr.heap.size wr
            have hxi := follow_at HFW.out (d + k) hdl
            rw [← hx] at hxi
            have HXI := Lib.hid (show x.ix = i2 + 1 + k by have := HAT.out; omega)
            have HOD := Lib.hid (odd_no (HNO.out (d + k) hdl))
            have ht := rterm_at (HX.out.below hb) HG.out x.ix
            obtain ⟨tr, htr⟩ : ∃ tr, tr = termR (hd b bt :: T) x.ix := ⟨_, rfl⟩
            rw [← htr] at ht
            obtain ⟨t', is'⟩ := tr
            have HT' := Lib.hid ht
            simp only at HT'
            have HIS := Lib.hid (show (is' = true → x.ix ≤ b + N) ∧ (is' = false → b + N < x.ix) by
              have hxx := HXI.out
              have hin := HIN.out
              rw [hd_term] at htr
              rw [if_neg (by omega)] at htr
              split at htr
              · next hh => injection htr with _ h2; subst h2; exact ⟨fun _ => (by rw [HN.out]; exact hh.2), fun h => (by cases h)⟩
              · next hh => injection htr with _ h2; subst h2; exact ⟨fun h => (by cases h), fun _ => (by rw [HN.out]; omega)⟩)
            clear hkl hdl hx hc hc0 hc1 ht htr hxi
            subst ha2
            go_wp2_with fail
            refine HT'.out.mono ?_
            rintro e w6 ⟨rfl, hb6⟩
            replace hb := bl_trans hb hb6
            replace hbr := hb6
            clear hb6
            cases is' with
            | false =>
              have HCM := Lib.hid (show com < x.ix by have h1 := HIS.out.2 (by trivial); have h2 := (good_hd HG.out).2.2; rw [HN.out] at h1; omega)
              go_upto_region 27 with fail
              obtain ⟨q, hq⟩ : ∃ q : Nat, x.ix - 1 - b = q := ⟨(x.ix - 1 - b).toNat, by have h1 := HXI.out; have h2 := HIN.out; omega⟩
              have HQ := Lib.hid hq
              have hqN : q ≤ N := by have h1 := HXI.out; have h2 := HKN.out; omega
              have hNc : N ≤ uc := by
                rcases HX.out.row.2 with ⟨h1, h2⟩ | ⟨g', cap, cur, h1, _, _, h2, _⟩
                · have := HN.out; omega
                · injection h1 with _ _ h3
                  have := HN.out
                  omega
              have hx9 := HOD.out
              rw [← HXE.out] at hx9
              obtain ⟨hx1, hx2, _, _⟩ := hx9
              unfold maxI at hx2
              have hv5 : IntKind.i64.wrap (x.ix - 1) = x.ix - 1 := IntWalk.i64_in _ (by omega)
              have hv6 : IntKind.i64.wrap (x.ix - 1 - b) = (q : Int) := by rw [IntWalk.i64_in _ (by omega)]; exact hq
              have hq0 : (0 : Int) ≤ (q : Int) := by omega
              have hqc : (q : Int) ≤ (uc : Int) := by omega
              have hkc : (k : Int) < (c2x : Int) := by have := HC2.out; omega
              have hkc' : k < c2x := by have := HC2.out; omega
              have HQN := Lib.hid hqN
              clear hq hqN hNc hx1 hx2 hbr g0 g1
              refine wp_region_last 21 (Below w.heap.size w) (fun i => i == 1 || i == 14 || i == 18) (by kernel_rfl) (by rfl) (by kernel_rfl) (by kernel_rfl) (by exact hb.drew) ?_
              simp only [List.take_succ_cons, List.take_zero]
              intro hne hx
              replace hb := hb.drew
              change wpStg _ _ _ _ _ _ _ _ w6.drew
              obtain ⟨V, hV⟩ : ∃ V, V = w6.drew := ⟨_, rfl⟩
              rw [← hV] at hb ⊢
              clear hV
              refine stg_seg 1 (by dsimp only [List.take]) (by dsimp only [List.drop]) (by rfl) ?_
              repeat (go_big_quiet_step (fail))
              refine wpQuiet_nil ?_
              refine stg_loud (by rfl) ?_
              go_wp2_with fail
              have hbl2 := bl_alloc hb (.cells #[] 45)
              have HCELL := Lib.hid (show ∀ j u, (entsC (T.take q))[j]? = some u → ∃ b off, ua = some ⟨b, off, none⟩ ∧ (V.alloc (.cells #[] 45)).cell? ⟨b, off + j, none⟩ = some u from fun j u hj => by
                have hlt := (List.getElem?_eq_some_iff.1 hj).1
                rw [entsC_len, List.length_take] at hlt
                have hTn : 0 < T.length := by omega
                obtain ⟨g, cc, he, _⟩ := row_some HX.out.row hTn
                have he0 := he
                injection he with he1 _ _
                refine ⟨g, 0, he1, ?_⟩
                have h1 : (entsC T)[j]? = some u := by
                  have h2 : entsC T = entsC (T.take q) ++ entsC (T.drop q) := by rw [← entsC_app, List.take_append_drop]
                  rw [h2, List.getElem?_append_left (by rw [entsC_len, List.length_take]; exact hlt)]
                  exact hj
                have h3 := (HX.out.below hbl2).row
                rw [he0] at h3
                rw [Nat.zero_add]
                exact row_cell h3 h1)
              refine lq_in rfl (hbl2) ?_
              refine stg_seg 12 (by dsimp only [List.take]) (by dsimp only [List.drop]) (by rfl) ?_
              repeat (go_big_quiet_step (fail))
              refine wpQuiet_nil ?_
              refine stg_loud (by rfl) ?_
              go_wp2_with (at_builtin; go_loud (refine wpList_clone rfl _ _ 33 rfl V.heap.size 45 Try.underlying33 Try.infoEntry rfl (by decide) rfl (World.ownsRow_made V #[] 0 (Nat.le_refl _) (by simp) rfl) rfl (ys := entsC (T.take q)) (by rw [entsC_len, List.length_take]; have h1 := HN.out; have h2 := HQN.out; omega) HCELL.out (fun h0 => by rcases HX.out.row.2 with ⟨h1, _⟩ | ⟨g, cap, cur, h1, hh⟩; injection h1; injection h1 with h1 _ _; rw [h0] at h1; cases h1) entsC_one (by have h1 := HQN.out; unfold maxLen; omega) (by have h1 := HQN.out; omega) (by simp) ?_); intro v7 w7 hown1 hgrow hat1)
              rw [Nat.zero_add, List.nil_append] at hown1
              try rw [Nat.zero_add] at hat1
              obtain ⟨a7, c7, rfl⟩ := own_slice hown1
              have hb7 : Below w.heap.size w w7 := hbl2.trans (own_below (World.ownsRow_made V #[] 0 (base := w.heap.size) (e := 45) (size := 4) hb.size (by simp) rfl) hgrow (by have := hb.size; simp; omega))
              have HV7 := Lib.hid hb.size
              have hlt7 : V.heap.size ≤ w7.heap.size := by have := hgrow.size; simp at this; omega
              have HL7 := Lib.hid hlt7
              have HOW7 := Lib.hid hown1
              have HF7 := Lib.hid (show ∃ g, (Value.slice a7 q c7).ownBlock = some g ∧ w.heap.size ≤ g by
                rcases hat1 with h1 | ⟨g, h1, h2⟩
                · exact ⟨V.heap.size, h1, hb.size⟩
                · exact ⟨g, h1, by have := hb.size; simp at h2; omega⟩)
              have HN27 := Lib.hid (show n2 - k = (l.drop (d + k)).length by rw [HN2.out, List.length_drop, List.length_drop]; omega)
              have HCE := Lib.hid (show ∀ W, Below w.heap.size w W → ∀ j u, (entsC (l.drop (d + k)))[j]? = some u → ∃ b off, (some ⟨b2, o2 + k * 4, none⟩ : Option Addr) = some ⟨b, off, none⟩ ∧ W.cell? ⟨b, off + j, none⟩ = some u from fun W hW j u hj => by
                rw [← List.drop_drop] at hj
                have h1 := ents_drop hj
                obtain ⟨b3, o3, e3, hc3⟩ := ents_at (HE2.out.keep hW) _ _ h1
                injection e3 with e3
                injection e3 with e4 e5
                subst e4 e5
                exact ⟨b2, o2 + k * 4, rfl, by rw [Nat.add_assoc]; exact hc3⟩)
              clear hown1 hgrow hat1 hlt7 HCELL hbl2 hb
              refine lq_in rfl (hb7) ?_
              refine stg_seg 3 (by dsimp only [List.take]) (by dsimp only [List.drop]) (by rfl) ?_
              repeat (go_big_quiet_step (fail))
              refine wpQuiet_nil ?_
              refine stg_loud (by rfl) ?_
              go_wp2_with (at_builtin; go_loud (refine wpList_clone rfl _ _ 33 rfl V.heap.size 45 Try.underlying33 Try.infoEntry rfl (by decide) rfl HOW7.out rfl (ys := entsC (l.drop (d + k))) (by rw [entsC_len, ← HN27.out]) (HCE.out _ hb7) (fun h0 => by cases h0) entsC_one (by have h1 := HQN.out; unfold maxLen; omega) (by have h1 := HQN.out; omega) HL7.out ?_); intro v8 w8 hown1 hgrow hat1)
              obtain ⟨a8, c8, rfl⟩ := own_slice hown1
              replace hgrow : w7.grownBy w8 (Value.slice a7 q c7).ownBlock := hgrow
              replace hat1 : (Value.slice a8 (q + (n2 - k)) c8).ownBlock = (Value.slice a7 q c7).ownBlock ∨ ∃ g, (Value.slice a8 (q + (n2 - k)) c8).ownBlock = some g ∧ w7.heap.size ≤ g := hat1
              have hb8 : Below w.heap.size w w8 := hb7.trans (own_below (row_mono HOW7.out HV7.out) hgrow (Nat.le_trans HV7.out HL7.out))
              have hlen : (T.take q ++ l.drop (d + k)).length = q + (n2 - k) := by rw [List.length_append, List.length_take, HN27.out]; have h1 := HQN.out; have h2 := HN.out; omega
              have HOW8 := Lib.hid (show w8.ownsRow B 45 4 (.slice a8 (q + (n2 - k)) c8) (T.take q ++ l.drop (d + k)).length (entsC (T.take q ++ l.drop (d + k))) by
                rw [hlen, entsC_app]
                exact row_mono hown1 (by have h1 := HX.out.hB; have h2 := blk_lt HX.out.blk; have h3 := HV7.out; omega))
              have HF8 := Lib.hid (show ∃ g, (Value.slice a8 (q + (n2 - k)) c8).ownBlock = some g ∧ w.heap.size ≤ g by
                obtain ⟨g7, e7, h7⟩ := HF7.out
                rcases hat1 with h1 | ⟨g, h1, h2⟩
                · exact ⟨g7, h1.trans e7, h7⟩
                · exact ⟨g, h1, Nat.le_trans (Nat.le_trans HV7.out HL7.out) h2⟩)
              have HB8 := Lib.hid hb8
              have hbk := (HX.out.below hb8).blk
              have p2 := blk_cell hbk 2
              have pf2 := blk_frozen hbk
              simp only [List.getElem?_toArray, List.getElem?_cons_zero, List.getElem?_cons_succ] at p2
              clear hown1 hgrow hat1 hbk hlen hb7 c0 c1 c2 c3
              refine lq_in rfl (hb8) ?_
              refine stg_seg 2 (by dsimp only [List.take]) (by dsimp only [List.drop]) (by rfl) ?_
              repeat (go_big_quiet_step (fail))
              refine wpQuiet_nil ?_
              refine stg_nil ?_
              clear hne hx
              intro _ hxx
              clear hxx hb8
              go_wp2_with fail
              go_ret2
              obtain ⟨hX, hC⟩ := HX.out.more (T' := T.take q ++ l.drop (d + k)) (u' := .slice a8 (q + (n2 - k)) c8) (w2 := w8) (row := none) HOW8.out ⟨HB8.out.os, HB8.out.tape, HB8.out.output, HB8.out.size, fun j hj _ => HB8.out.block j hj⟩ (.inl rfl) (.inr (.inr HF8.out))
              refine ⟨⟨_, _, rfl⟩, b, bt, T.take q ++ l.drop (d + k), com, app, _, hX, ?_, hC, .inr (.inr HF8.out), by rw [List.length_append, List.length_take, List.length_drop, HNL.out]; omega⟩
              have hxe := HXE.out
              exact good_rput (d := d) (i2 := i2) (t2 := t2) HG.out HNO.out HFW.out HDL.out (by rw [← hxe]; exact HCM.out) (by rw [← hxe]; have h1 := HXI.out; have h2 := HKN.out; have h3 := HN.out; omega) HS.out (by rw [← hxe]; exact HQ.out)
            | true =>
              by_cases ct : t' = x.tm
              · have dt' : (t' == x.tm) = true := by simp [ct]
                clear ct
                go_wp2_with fail
                go_roundg (n2 - (k + 1))
                case measure => have := HGK.out; omega
                case rel => exact ⟨hb, k + 1, by omega, rfl, by go_num, by have h1 := HIS.out.1 (by trivial); have h2 := HXI.out; omega⟩
              · have dt' : (t' == x.tm) = false := by simp [ct]
                clear ct
                have k3 := c3 _ hb
                by_cases cm : x.ix ≤ com
                · have dm : decide (x.ix ≤ com) = true := decide_eq_true cm
                  clear cm
                  go_wp2_with fail
                  go_ret2
                  exact ⟨⟨0, 9, rfl⟩, .same HX.out HG.out hb⟩
                · have dm : decide (x.ix ≤ com) = false := decide_eq_false cm
                  have HCM := Lib.hid (show com < x.ix by omega)
                  clear cm
                  go_upto_region 27 with fail
                  clear k3 dm dt'
                  obtain ⟨q, hq⟩ : ∃ q : Nat, x.ix - 1 - b = q := ⟨(x.ix - 1 - b).toNat, by have h1 := HXI.out; have h2 := HIN.out; omega⟩
                  have HQ := Lib.hid hq
                  have hqN : q ≤ N := by have h1 := HXI.out; have h2 := HKN.out; omega
                  have hNc : N ≤ uc := by
                    rcases HX.out.row.2 with ⟨h1, h2⟩ | ⟨g', cap, cur, h1, _, _, h2, _⟩
                    · have := HN.out; omega
                    · injection h1 with _ _ h3
                      have := HN.out
                      omega
                  have hx9 := HOD.out
                  rw [← HXE.out] at hx9
                  obtain ⟨hx1, hx2, _, _⟩ := hx9
                  unfold maxI at hx2
                  have hv5 : IntKind.i64.wrap (x.ix - 1) = x.ix - 1 := IntWalk.i64_in _ (by omega)
                  have hv6 : IntKind.i64.wrap (x.ix - 1 - b) = (q : Int) := by rw [IntWalk.i64_in _ (by omega)]; exact hq
                  have hq0 : (0 : Int) ≤ (q : Int) := by omega
                  have hqc : (q : Int) ≤ (uc : Int) := by omega
                  have hkc : (k : Int) < (c2x : Int) := by have := HC2.out; omega
                  have hkc' : k < c2x := by have := HC2.out; omega
                  have HQN := Lib.hid hqN
                  clear hq hqN hNc hx1 hx2 hbr g0 g1
                  refine wp_region_last 21 (Below w.heap.size w) (fun i => i == 1 || i == 14 || i == 18) (by kernel_rfl) (by rfl) (by kernel_rfl) (by kernel_rfl) (by exact hb.drew) ?_
                  simp only [List.take_succ_cons, List.take_zero]
                  intro hne hx
                  replace hb := hb.drew
                  change wpStg _ _ _ _ _ _ _ _ w6.drew
                  obtain ⟨V, hV⟩ : ∃ V, V = w6.drew := ⟨_, rfl⟩
                  rw [← hV] at hb ⊢
                  clear hV
                  refine stg_seg 1 (by dsimp only [List.take]) (by dsimp only [List.drop]) (by rfl) ?_
                  repeat (go_big_quiet_step (fail))
                  refine wpQuiet_nil ?_
                  refine stg_loud (by rfl) ?_
                  go_wp2_with fail
                  have hbl2 := bl_alloc hb (.cells #[] 45)
                  have HCELL := Lib.hid (show ∀ j u, (entsC (T.take q))[j]? = some u → ∃ b off, ua = some ⟨b, off, none⟩ ∧ (V.alloc (.cells #[] 45)).cell? ⟨b, off + j, none⟩ = some u from fun j u hj => by
                    have hlt := (List.getElem?_eq_some_iff.1 hj).1
                    rw [entsC_len, List.length_take] at hlt
                    have hTn : 0 < T.length := by omega
                    obtain ⟨g, cc, he, _⟩ := row_some HX.out.row hTn
                    have he0 := he
                    injection he with he1 _ _
                    refine ⟨g, 0, he1, ?_⟩
                    have h1 : (entsC T)[j]? = some u := by
                      have h2 : entsC T = entsC (T.take q) ++ entsC (T.drop q) := by rw [← entsC_app, List.take_append_drop]
                      rw [h2, List.getElem?_append_left (by rw [entsC_len, List.length_take]; exact hlt)]
                      exact hj
                    have h3 := (HX.out.below hbl2).row
                    rw [he0] at h3
                    rw [Nat.zero_add]
                    exact row_cell h3 h1)
                  refine lq_in rfl (hbl2) ?_
                  refine stg_seg 12 (by dsimp only [List.take]) (by dsimp only [List.drop]) (by rfl) ?_
                  repeat (go_big_quiet_step (fail))
                  refine wpQuiet_nil ?_
                  refine stg_loud (by rfl) ?_
                  go_wp2_with (at_builtin; go_loud (refine wpList_clone rfl _ _ 33 rfl V.heap.size 45 Try.underlying33 Try.infoEntry rfl (by decide) rfl (World.ownsRow_made V #[] 0 (Nat.le_refl _) (by simp) rfl) rfl (ys := entsC (T.take q)) (by rw [entsC_len, List.length_take]; have h1 := HN.out; have h2 := HQN.out; omega) HCELL.out (fun h0 => by rcases HX.out.row.2 with ⟨h1, _⟩ | ⟨g, cap, cur, h1, hh⟩; injection h1; injection h1 with h1 _ _; rw [h0] at h1; cases h1) entsC_one (by have h1 := HQN.out; unfold maxLen; omega) (by have h1 := HQN.out; omega) (by simp) ?_); intro v7 w7 hown1 hgrow hat1)
                  rw [Nat.zero_add, List.nil_append] at hown1
                  try rw [Nat.zero_add] at hat1
                  obtain ⟨a7, c7, rfl⟩ := own_slice hown1
                  have hb7 : Below w.heap.size w w7 := hbl2.trans (own_below (World.ownsRow_made V #[] 0 (base := w.heap.size) (e := 45) (size := 4) hb.size (by simp) rfl) hgrow (by have := hb.size; simp; omega))
                  have HV7 := Lib.hid hb.size
                  have hlt7 : V.heap.size ≤ w7.heap.size := by have := hgrow.size; simp at this; omega
                  have HL7 := Lib.hid hlt7
                  have HOW7 := Lib.hid hown1
                  have HF7 := Lib.hid (show ∃ g, (Value.slice a7 q c7).ownBlock = some g ∧ w.heap.size ≤ g by
                    rcases hat1 with h1 | ⟨g, h1, h2⟩
                    · exact ⟨V.heap.size, h1, hb.size⟩
                    · exact ⟨g, h1, by have := hb.size; simp at h2; omega⟩)
                  have HN27 := Lib.hid (show n2 - k = (l.drop (d + k)).length by rw [HN2.out, List.length_drop, List.length_drop]; omega)
                  have HCE := Lib.hid (show ∀ W, Below w.heap.size w W → ∀ j u, (entsC (l.drop (d + k)))[j]? = some u → ∃ b off, (some ⟨b2, o2 + k * 4, none⟩ : Option Addr) = some ⟨b, off, none⟩ ∧ W.cell? ⟨b, off + j, none⟩ = some u from fun W hW j u hj => by
                    rw [← List.drop_drop] at hj
                    have h1 := ents_drop hj
                    obtain ⟨b3, o3, e3, hc3⟩ := ents_at (HE2.out.keep hW) _ _ h1
                    injection e3 with e3
                    injection e3 with e4 e5
                    subst e4 e5
                    exact ⟨b2, o2 + k * 4, rfl, by rw [Nat.add_assoc]; exact hc3⟩)
                  clear hown1 hgrow hat1 hlt7 HCELL hbl2 hb
                  refine lq_in rfl (hb7) ?_
                  refine stg_seg 3 (by dsimp only [List.take]) (by dsimp only [List.drop]) (by rfl) ?_
                  repeat (go_big_quiet_step (fail))
                  refine wpQuiet_nil ?_
                  refine stg_loud (by rfl) ?_
                  go_wp2_with (at_builtin; go_loud (refine wpList_clone rfl _ _ 33 rfl V.heap.size 45 Try.underlying33 Try.infoEntry rfl (by decide) rfl HOW7.out rfl (ys := entsC (l.drop (d + k))) (by rw [entsC_len, ← HN27.out]) (HCE.out _ hb7) (fun h0 => by cases h0) entsC_one (by have h1 := HQN.out; unfold maxLen; omega) (by have h1 := HQN.out; omega) HL7.out ?_); intro v8 w8 hown1 hgrow hat1)
                  obtain ⟨a8, c8, rfl⟩ := own_slice hown1
                  replace hgrow : w7.grownBy w8 (Value.slice a7 q c7).ownBlock := hgrow
                  replace hat1 : (Value.slice a8 (q + (n2 - k)) c8).ownBlock = (Value.slice a7 q c7).ownBlock ∨ ∃ g, (Value.slice a8 (q + (n2 - k)) c8).ownBlock = some g ∧ w7.heap.size ≤ g := hat1
                  have hb8 : Below w.heap.size w w8 := hb7.trans (own_below (row_mono HOW7.out HV7.out) hgrow (Nat.le_trans HV7.out HL7.out))
                  have hlen : (T.take q ++ l.drop (d + k)).length = q + (n2 - k) := by rw [List.length_append, List.length_take, HN27.out]; have h1 := HQN.out; have h2 := HN.out; omega
                  have HOW8 := Lib.hid (show w8.ownsRow B 45 4 (.slice a8 (q + (n2 - k)) c8) (T.take q ++ l.drop (d + k)).length (entsC (T.take q ++ l.drop (d + k))) by
                    rw [hlen, entsC_app]
                    exact row_mono hown1 (by have h1 := HX.out.hB; have h2 := blk_lt HX.out.blk; have h3 := HV7.out; omega))
                  have HF8 := Lib.hid (show ∃ g, (Value.slice a8 (q + (n2 - k)) c8).ownBlock = some g ∧ w.heap.size ≤ g by
                    obtain ⟨g7, e7, h7⟩ := HF7.out
                    rcases hat1 with h1 | ⟨g, h1, h2⟩
                    · exact ⟨g7, h1.trans e7, h7⟩
                    · exact ⟨g, h1, Nat.le_trans (Nat.le_trans HV7.out HL7.out) h2⟩)
                  have HB8 := Lib.hid hb8
                  have hbk := (HX.out.below hb8).blk
                  have p2 := blk_cell hbk 2
                  have pf2 := blk_frozen hbk
                  simp only [List.getElem?_toArray, List.getElem?_cons_zero, List.getElem?_cons_succ] at p2
                  clear hown1 hgrow hat1 hbk hlen hb7 c0 c1 c2 c3
                  refine lq_in rfl (hb8) ?_
                  refine stg_seg 2 (by dsimp only [List.take]) (by dsimp only [List.drop]) (by rfl) ?_
                  repeat (go_big_quiet_step (fail))
                  refine wpQuiet_nil ?_
                  refine stg_nil ?_
                  clear hne hx
                  intro _ hxx
                  clear hxx hb8
                  go_wp2_with fail
                  go_ret2
                  obtain ⟨hX, hC⟩ := HX.out.more (T' := T.take q ++ l.drop (d + k)) (u' := .slice a8 (q + (n2 - k)) c8) (w2 := w8) (row := none) HOW8.out ⟨HB8.out.os, HB8.out.tape, HB8.out.output, HB8.out.size, fun j hj _ => HB8.out.block j hj⟩ (.inl rfl) (.inr (.inr HF8.out))
                  refine ⟨⟨_, _, rfl⟩, b, bt, T.take q ++ l.drop (d + k), com, app, _, hX, ?_, hC, .inr (.inr HF8.out), by rw [List.length_append, List.length_take, List.length_drop, HNL.out]; omega⟩
                  have hxe := HXE.out
                  exact good_rput (d := d) (i2 := i2) (t2 := t2) HG.out HNO.out HFW.out HDL.out (by rw [← hxe]; exact HCM.out) (by rw [← hxe]; have h1 := HXI.out; have h2 := HKN.out; have h3 := HN.out; omega) HS.out (by rw [← hxe]; exact HQ.out)
          · obtain rfl : k = n2 := by omega
            have hk1 : decide ((k : Int) < (k : Int)) = false := decide_eq_false (by omega)
            go_wp2_with fail
            go_ret2
            exact ⟨⟨0, 0, rfl⟩, .same HX.out HG.out hb⟩
end
end Go.Proofs.Yteflgempjecnpaa
