/- RlogCompacts. Conditions: none. -/
import Derived.Test.YteflgempjecnpaaLgMerW
import Derived.Test.YteflgempjecnpaaLgGet
import Derived.Test.YteflgempjecnpaaLgSame
namespace Go.Proofs.Yteflgempjecnpaa
open Go.RowKit
theorem bare_drop (L : List Ent) : (bare L).drop 1 = L.drop 1 := by
  cases L with
  | nil => rfl
  | cons x r => rfl
theorem comp_law {L : List Ent} {com app i : Int} (hG : Good L com app) (h1 : bE L ≤ i) (h2 : i ≤ app) :
    bE (bare (L.drop (i - bE L).toNat)) = i ∧ lastE (bare (L.drop (i - bE L).toNat)) = lastE L ∧ (∃ t, termR L i = (t, true) ∧ termR (bare (L.drop (i - bE L).toNat)) i = (t, true)) ∧ (bare (L.drop (i - bE L).toNat)).length ≤ L.length ∧
    (bare (L.drop (i - bE L).toNat)).drop (i + 1 - i).toNat = L.drop (i + 1 - bE L).toNat ∧ i ≤ lastE L := by
  obtain ⟨k, hk⟩ : ∃ k : Nat, i = bE L + k := ⟨(i - bE L).toNat, by omega⟩
  have hki : (i - bE L).toNat = k := by omega
  have hki1 : (i + 1 - bE L).toNat = k + 1 := by omega
  rw [hki, hki1]
  have c1 := hG.c1
  have c2 := hG.c2
  have c3 : (atE L 0).ix = bE L := rfl
  have hkl : k < L.length := by omega
  have hlen : (bare (L.drop k)).length = L.length - k := by rw [bare_len, List.length_drop]
  have hb : bE (bare (L.drop k)) = i := by
    show (atE (bare (L.drop k)) 0).ix = i
    rw [(bare_at _ 0).1, atE_drop, hG.ix (k + 0) (by omega)]
    omega
  have hb' : (atE (bare (L.drop k)) 0).ix = i := hb
  refine ⟨hb, by unfold lastE; rw [hb, hlen]; omega, ⟨(atE L k).tm, ?_, ?_⟩, by omega, ?_, by unfold lastE; omega⟩
  · unfold termR
    rw [term_some (by omega), c3, hki]
  · unfold termR
    rw [term_some (by rw [hb', hlen]; omega), hb', show (i - i).toNat = 0 by omega, (bare_at _ 0).2.1, atE_drop]
    rfl
  · rw [show (i + 1 - i).toNat = 1 by omega, bare_drop, List.drop_drop]
theorem own_ea {w : World} {B : Nat} {a : Option Addr} {n c : Nat} {l : List Ent} (h : w.ownsRow B 45 4 (.slice a n c) n (entsC l)) (hn : l.length = n) : EA w a l := fun j hj => by
  obtain ⟨g, cap, e, _⟩ := row_some h (by omega)
  injection e with e1 e2 e3
  subst e1 e3
  exact ⟨g, 0, rfl, fun m u hu => by
    have := row_cell h (entsC_get hj hu)
    rw [Nat.zero_add]
    exact this⟩
theorem sames_tri {D l l' : List Ent} (h : Sames D l) (h' : Sames D l') : Sames l l' :=
  ⟨h'.1.trans h.1.symm, fun j hj => by
    have h1 := h.2 j (by rw [← h.1]; exact hj)
    have h2 := h'.2 j (by rw [← h.1]; exact hj)
    exact ⟨h2.ix.trans h1.ix.symm, h2.tm.trans h1.tm.symm, h2.kd.trans h1.kd.symm, h2.bs.trans h1.bs.symm⟩⟩
theorem applied_at {B : Nat} {w : World} {p : Nat} {L : List Ent} {com app : Int} {v : Value} (h : GX B w p L com app v) :
    Calls Try.prog 16 #[.pointer (some ⟨p, 0, none⟩)] w fun e w' => e = .returned (.int .i64 app) ∧ w = w' := by
  have c2 : w.cell? ⟨p, 2, none⟩ = some (.int .i64 app) := blk_cell h.blk 2
  clear h
  go_enter Try.func16, Try.ntmps16
  go_wp2_with fail
  go_ret
  exact ⟨rfl, rfl⟩
set_option maxRecDepth 100000 in
set_option maxHeartbeats 4000000 in
theorem rlogCompacts_at (P : StsV) (i : Int) (w : World) (hp : P.At w) :
    Calls Try.prog 6 #[.slice P.a P.l.length P.c, .int .i64 i] w fun e w' => e = .returned (.bool true) ∧ Below w.heap.size w w' := by
  obtain ⟨pa, pl, pc⟩ := P
  obtain ⟨n, hn⟩ : ∃ n, n = pl.length := ⟨_, rfl⟩
  simp only
  rw [← hn]
  have HN := Lib.hid hn
  have HP := Lib.hid hp
  have z0 : inIdx 0 := by unfold inIdx; omega
  have HF := Lib.hid (fresh_ok 0 0 w z0 z0)
  have hmx : n ≤ maxLen := by rw [hn]; exact hp.max
  have hn9 : (n : Int) ≤ 9223372036854775807 := by unfold maxLen at hmx; omega
  clear z0 hn hp hmx
  go_enter Try.func6, Try.ntmps6
  go_wp2_with fail
  refine HF.out.mono ?_
  rintro e w1 ⟨rfl, hw1⟩
  have hb : Below w.heap.size w w1 := by rw [← hw1]; exact bl_fresh w 0 0
  have hx := fresh_px w
  rw [hw1] at hx
  clear hw1 HF
  have HPX := Lib.hid hx
  have hmu := much_at pa pl pc w1 (HP.out.keep hb).at_ HP.out.max (fun j hj => ((HP.out.s j hj).e).keep hb)
  rw [← HN.out] at hmu
  have HMU := Lib.hid hmu
  clear hx hmu
  go_wp2_with fail
  refine HMU.out.mono ?_
  rintro e w2 ⟨⟨bv, rfl, hbv⟩, hb2⟩
  have HBV := Lib.hid hbv
  have hbc := bl_trans hb hb2
  have HPC := Lib.hid (HPX.out.below hb2)
  clear hbv hb2 hb HMU
  cases bv with
  | true =>
    go_wp2_with fail
    go_ret
    exact ⟨rfl, hbc⟩
  | false =>
  have HLE := Lib.hid (HBV.out rfl)
  have HBC := Lib.hid hbc
  go_wp2_with fail
  clear hbc
  obtain ⟨B, hB⟩ : ∃ B, B = w.heap.size := ⟨_, rfl⟩
  have HBW := Lib.hid hB.symm
  rw [← hB]
  rw [← hB] at HPC
  clear hB
  go_loopg [9] n (fun g v9 wr => ∃ k : Nat, k ≤ n ∧ k ≤ 100 ∧ g = n - k ∧ v9 = .int .i64 k ∧ PX B wr (B + 1) (B + 2) (lensTo pl k) ∧ Below w.heap.size w wr)
  case atStart => exact ⟨0, by omega, by omega, rfl, rfl, HPC.out, HBC.out⟩
  case round =>
    obtain ⟨k, hkn, hk100, hg, rfl, hpx, hb⟩ := hrel
    have HG := Lib.hid hg
    have HPK := Lib.hid hpx
    clear hg hpx
    by_cases c1 : k < n
    case neg =>
      have d2 : decide ((k : Int) < n) = false := decide_eq_false (by omega)
      have d2' : decide (k < n) = false := decide_eq_false c1
      clear c1
      obtain ⟨L, com, app, v, _, _, T, _, _, u, hX, hG, _, _, _, hLl, _⟩ := HPK.out
      have hle := HLE.out k (by have := HN.out; omega) hk100
      have hBr : B ≤ wr.heap.size := by have h1 := hX.hB; have h2 := blk_lt hX.blk; omega
      have hfi := first_at hX hG
      have hap := applied_at hX
      obtain ⟨F, hF⟩ : ∃ F, F = bE L + 1 := ⟨_, rfl⟩
      obtain ⟨b, hbe⟩ : ∃ b, b = bE L := ⟨_, rfl⟩
      rw [← hF] at hfi
      have b0 : 0 ≤ b := by rw [hbe]; exact hG.b0
      have b1 : b ≤ 1099511627776 := by have h3 := hG.top; have h4 := hG.ne; unfold maxI at h3; have : bE L = (atE L 0).ix := rfl; omega
      have a1 : app ≤ 1099511627776 := by have h1 := hG.c1; have h2 := hG.c2; have h3 := hG.top; unfold maxI at h3; omega
      have hFb : F - 1 = b := by omega
      have HX := Lib.hid hX
      have HGG := Lib.hid hG
      have HLL := Lib.hid (show L.length ≤ 5001 by omega)
      have HBR := Lib.hid hBr
      have HBE := Lib.hid hbe
      have hcp := compact_at hX hG i
      have HFI := Lib.hid hfi
      have HAP := Lib.hid hap
      have HCP := Lib.hid hcp
      have F1 : F ≤ 1099511627777 := by omega
      have F0 : 1 ≤ F := by omega
      clear hX hG hLl hle hBr hF hbe hcp hfi hap
      by_cases ca : i < b
      · have d5 : decide (i < b) = true := decide_eq_true ca
        have d5' : decide (i < F - 1) = true := decide_eq_true (by omega)
        have HCA := Lib.hid ca
        clear ca
        go_wp2_with fail
        refine HFI.out.mono ?_; rintro e w5 ⟨rfl, rfl⟩
        go_wp2_with fail
        refine HCP.out.mono ?_; rintro e w6 (⟨_, rfl, hb6⟩ | ⟨hn, _⟩)
        case inr => exact absurd hn.1 (by have h1 := HCA.out; have h2 := HBE.out; omega)
        clear HFI HAP HCP
        have HB6 := Lib.hid (bl_trans hb hb6)
        clear hb6 hb
        go_wp2_with fail
        go_ret
        exact ⟨rfl, HB6.out⟩
      have d5 : decide (i < b) = false := decide_eq_false ca
      have d5' : decide (i < F - 1) = false := decide_eq_false (by omega)
      by_cases cb : app < i
      · have d6 : decide (app < i) = true := decide_eq_true cb
        have HCB := Lib.hid cb
        clear ca cb
        go_wp2_with fail
        refine HFI.out.mono ?_; rintro e w5 ⟨rfl, rfl⟩
        go_wp2_with fail
        refine HAP.out.mono ?_; rintro e w5 ⟨rfl, rfl⟩
        go_wp2_with fail
        refine HCP.out.mono ?_; rintro e w6 (⟨_, rfl, hb6⟩ | ⟨hn, _⟩)
        case inr => exact absurd hn.2 (by have h1 := HCB.out; omega)
        clear HFI HAP HCP
        have HB6 := Lib.hid (bl_trans hb hb6)
        clear hb6 hb
        go_wp2_with fail
        go_ret
        exact ⟨rfl, HB6.out⟩
      have d6 : decide (app < i) = false := decide_eq_false cb
      have i0 : 0 ≤ i := by omega
      have i1 : i ≤ 1099511627776 := by omega
      have HCA := Lib.hid (show bE L ≤ i by have := HBE.out; omega)
      have HCB := Lib.hid (show i ≤ app by omega)
      clear ca cb
      obtain ⟨l1, l2, ⟨t, l3, l4⟩, l5, l6, l7⟩ := comp_law HGG.out HCA.out HCB.out
      obtain ⟨lv, hlv⟩ : ∃ lv, lv = lastE L := ⟨_, rfl⟩
      rw [← hlv] at l2
      have HL1 := Lib.hid l1
      have HL2 := Lib.hid l2
      have HL3 := Lib.hid l3
      have HL4 := Lib.hid l4
      have HL5 := Lib.hid l5
      have HL6 := Lib.hid l6
      have HL7 := Lib.hid l7
      have HLV := Lib.hid hlv
      clear l1 l2 l3 l4 l5 l6 l7 hlv HCP
      go_wp2_with fail
      refine HFI.out.mono ?_; rintro e w5 ⟨rfl, rfl⟩
      go_wp2_with fail
      refine HAP.out.mono ?_; rintro e w5 ⟨rfl, rfl⟩
      clear HFI HAP
      have ht := term_at HX.out HGG.out i
      rw [HL3.out] at ht
      have HT := Lib.hid ht
      clear ht
      go_wp2_with fail
      refine HT.out.mono ?_; rintro e w6 ⟨rfl, hb6⟩
      have HX6 := Lib.hid (HX.out.below hb6)
      have hb' := bl_trans hb hb6
      have HBR6 := Lib.hid (Nat.le_trans HBR.out hb6.size)
      clear HT hb6 hb
      have hg := get_at HX6.out HGG.out i HCA.out HL7.out (by have := HLL.out; omega) (i + 1) rfl
      have HGE := Lib.hid hg
      clear hg
      go_wp2_with fail
      refine HGE.out.mono ?_; rintro e w7 ⟨ga, gl, gc, rfl, hrow, hsam, h8, hb7⟩
      have HX7 := Lib.hid (HX6.out.below hb7)
      have hbb := bl_trans hb' hb7
      have HROW := Lib.hid hrow
      have HSAM := Lib.hid hsam
      have H8 := Lib.hid h8
      have HS7 := Lib.hid (show w6.heap.size ≤ w7.heap.size from hb7.size)
      obtain ⟨gn, hgn⟩ : ∃ gn, gn = gl.length := ⟨_, rfl⟩
      have HGN := Lib.hid hgn
      rw [← hgn]
      clear HGE hb' hb7 hrow hsam h8 hgn
      have hla := last_at HX7.out HGG.out
      rw [← HLV.out] at hla
      have HLA := Lib.hid hla
      clear hla
      go_wp2_with fail
      refine HLA.out.mono ?_; rintro e w8 ⟨rfl, hb8⟩
      have HX8 := Lib.hid (HX7.out.below hb8)
      have hbc := bl_trans hbb hb8
      have HB8 := Lib.hid hb8
      clear HLA hbb hb8
      have HCP := Lib.hid (compact_at HX8.out HGG.out i)
      go_wp2_with fail
      refine HCP.out.mono ?_; rintro e w9 (⟨hn, _⟩ | ⟨_, rfl, v', hX9, hG9, hch, _⟩)
      case inl => exact absurd ⟨HCA.out, HCB.out⟩ hn
      clear HCP
      obtain ⟨L', hL'⟩ : ∃ L', L' = bare (L.drop (i - bE L).toNat) := ⟨_, rfl⟩
      rw [← hL'] at hX9 hG9 HL1 HL2 HL4 HL5 HL6
      have HX9 := Lib.hid hX9
      have HG9 := Lib.hid hG9
      have HCH := Lib.hid hch
      have hbd : Below w.heap.size w w9 := hbc.trans (HBW.out ▸ HX8.out.bl hch)
      clear hX9 hG9 hch hL' hbc
      have ht := term_at HX9.out HG9.out i
      rw [HL4.out] at ht
      have HT := Lib.hid ht
      clear ht
      go_wp2_with fail
      refine HT.out.mono ?_; rintro e w10 ⟨rfl, hb10⟩
      have HXA := Lib.hid (HX9.out.below hb10)
      have HB10 := Lib.hid hb10
      have hbe := bl_trans hbd hb10
      clear HT hbd hb10
      have hg := get_at HXA.out HG9.out i (by rw [HL1.out]; exact Int.le_refl _) (by rw [HL2.out, HLV.out]; exact HL7.out) (by have := HLL.out; have := HL5.out; omega) (i + 1) rfl
      rw [HL1.out, HL6.out] at hg
      have HGE := Lib.hid hg
      clear hg
      go_wp2_with fail
      refine HGE.out.mono ?_; rintro e w11 ⟨ha, hl, hc, rfl, hrow, hsam, h8, hb11⟩
      have HXB := Lib.hid (HXA.out.below hb11)
      have HB11 := Lib.hid (bl_trans HB10.out hb11)
      have hbf := bl_trans hbe hb11
      have hnotin : ∀ g, (Value.slice ga gl.length gc).ownBlock = some g → ¬ g ∈ gM (B + 1) v := fun g hg hm => by
        have h1 := HROW.out.lt g hg
        rcases List.mem_cons.1 hm with h2 | h2
        · have := blk_lt HX6.out.blk; omega
        · have := (HX6.out.row.lt g (by simpa using h2)).2; omega
      have hrow8 := own_keep HROW.out HB8.out
      have hrow9 := ownsRow_blk hrow8 (fun g hg => HCH.out.block g (hrow8.lt g hg).2 (hnotin g hg))
      have hrow11 := own_keep hrow9 HB11.out
      have hold : ∀ j, j < gl.length → Own8 w11 (atE gl j).d := fun j hj => (((H8.out j hj).below HB8.out).keep HCH.out HX8.out.ty).below HB11.out
      have hss := sames_tri hsam HSAM.out
      have hln : hl.length ≤ 1000000 := by
        rw [hsam.1, List.length_drop]
        have := HLL.out
        omega
      have hsa := sames_at ha ga hl gl hc gc w11 (own_ea hrow rfl) (own_ea hrow11 rfl) hln hss (fun j hj => (h8 j hj).at_) (fun j hj => (hold j (by rw [hss.1]; exact hj)).at_)
      obtain ⟨hn, hhn⟩ : ∃ hn, hn = hl.length := ⟨_, rfl⟩
      rw [← hhn, ← HGN.out] at hsa
      rw [← hhn]
      have HSA := Lib.hid hsa
      clear HGE hbe hrow hsam h8 hb11 hnotin hrow8 hrow9 hrow11 hold hss hln hsa hhn
      go_wp2_with fail
      refine HSA.out.mono ?_; rintro e w12 ⟨rfl, hb12⟩
      have HXC := Lib.hid (HXB.out.below hb12)
      have hbg := bl_trans hbf hb12
      clear HSA hbf hb12
      have hfi := first_at HXC.out HG9.out
      rw [HL1.out] at hfi
      have hla := last_at HXC.out HG9.out
      rw [HL2.out] at hla
      have HFI := Lib.hid hfi
      have HLA := Lib.hid hla
      clear hfi hla
      go_wp2_with fail
      refine HFI.out.mono ?_; rintro e w13 ⟨rfl, rfl⟩
      go_wp2_with fail
      refine HLA.out.mono ?_; rintro e w13 ⟨rfl, hb13⟩
      have hbh := bl_trans hbg hb13
      clear HFI HLA hbg hb13
      go_wp2_with fail
      go_ret
      exact ⟨rfl, hbh⟩
    have d2 : decide ((k : Int) < n) = true := decide_eq_true (by omega)
    have d2' : decide (k < n) = true := decide_eq_true c1
    by_cases c2 : k < 100
    case neg =>
      have d3 : decide ((k : Int) < 100) = false := decide_eq_false (by omega)
      have d3' : decide (k < 100) = false := decide_eq_false c2
      clear c1 c2
      obtain ⟨L, com, app, v, _, _, T, _, _, u, hX, hG, _, _, _, hLl, _⟩ := HPK.out
      have hle := HLE.out k (by have := HN.out; omega) hk100
      have hBr : B ≤ wr.heap.size := by have h1 := hX.hB; have h2 := blk_lt hX.blk; omega
      have hfi := first_at hX hG
      have hap := applied_at hX
      obtain ⟨F, hF⟩ : ∃ F, F = bE L + 1 := ⟨_, rfl⟩
      obtain ⟨b, hbe⟩ : ∃ b, b = bE L := ⟨_, rfl⟩
      rw [← hF] at hfi
      have b0 : 0 ≤ b := by rw [hbe]; exact hG.b0
      have b1 : b ≤ 1099511627776 := by have h3 := hG.top; have h4 := hG.ne; unfold maxI at h3; have : bE L = (atE L 0).ix := rfl; omega
      have a1 : app ≤ 1099511627776 := by have h1 := hG.c1; have h2 := hG.c2; have h3 := hG.top; unfold maxI at h3; omega
      have hFb : F - 1 = b := by omega
      have HX := Lib.hid hX
      have HGG := Lib.hid hG
      have HLL := Lib.hid (show L.length ≤ 5001 by omega)
      have HBR := Lib.hid hBr
      have HBE := Lib.hid hbe
      have hcp := compact_at hX hG i
      have HFI := Lib.hid hfi
      have HAP := Lib.hid hap
      have HCP := Lib.hid hcp
      have F1 : F ≤ 1099511627777 := by omega
      have F0 : 1 ≤ F := by omega
      clear hX hG hLl hle hBr hF hbe hcp hfi hap
      by_cases ca : i < b
      · have d5 : decide (i < b) = true := decide_eq_true ca
        have d5' : decide (i < F - 1) = true := decide_eq_true (by omega)
        have HCA := Lib.hid ca
        clear ca
        go_wp2_with fail
        refine HFI.out.mono ?_; rintro e w5 ⟨rfl, rfl⟩
        go_wp2_with fail
        refine HCP.out.mono ?_; rintro e w6 (⟨_, rfl, hb6⟩ | ⟨hn, _⟩)
        case inr => exact absurd hn.1 (by have h1 := HCA.out; have h2 := HBE.out; omega)
        clear HFI HAP HCP
        have HB6 := Lib.hid (bl_trans hb hb6)
        clear hb6 hb
        go_wp2_with fail
        go_ret
        exact ⟨rfl, HB6.out⟩
      have d5 : decide (i < b) = false := decide_eq_false ca
      have d5' : decide (i < F - 1) = false := decide_eq_false (by omega)
      by_cases cb : app < i
      · have d6 : decide (app < i) = true := decide_eq_true cb
        have HCB := Lib.hid cb
        clear ca cb
        go_wp2_with fail
        refine HFI.out.mono ?_; rintro e w5 ⟨rfl, rfl⟩
        go_wp2_with fail
        refine HAP.out.mono ?_; rintro e w5 ⟨rfl, rfl⟩
        go_wp2_with fail
        refine HCP.out.mono ?_; rintro e w6 (⟨_, rfl, hb6⟩ | ⟨hn, _⟩)
        case inr => exact absurd hn.2 (by have h1 := HCB.out; omega)
        clear HFI HAP HCP
        have HB6 := Lib.hid (bl_trans hb hb6)
        clear hb6 hb
        go_wp2_with fail
        go_ret
        exact ⟨rfl, HB6.out⟩
      have d6 : decide (app < i) = false := decide_eq_false cb
      have i0 : 0 ≤ i := by omega
      have i1 : i ≤ 1099511627776 := by omega
      have HCA := Lib.hid (show bE L ≤ i by have := HBE.out; omega)
      have HCB := Lib.hid (show i ≤ app by omega)
      clear ca cb
      obtain ⟨l1, l2, ⟨t, l3, l4⟩, l5, l6, l7⟩ := comp_law HGG.out HCA.out HCB.out
      obtain ⟨lv, hlv⟩ : ∃ lv, lv = lastE L := ⟨_, rfl⟩
      rw [← hlv] at l2
      have HL1 := Lib.hid l1
      have HL2 := Lib.hid l2
      have HL3 := Lib.hid l3
      have HL4 := Lib.hid l4
      have HL5 := Lib.hid l5
      have HL6 := Lib.hid l6
      have HL7 := Lib.hid l7
      have HLV := Lib.hid hlv
      clear l1 l2 l3 l4 l5 l6 l7 hlv HCP
      go_wp2_with fail
      refine HFI.out.mono ?_; rintro e w5 ⟨rfl, rfl⟩
      go_wp2_with fail
      refine HAP.out.mono ?_; rintro e w5 ⟨rfl, rfl⟩
      clear HFI HAP
      have ht := term_at HX.out HGG.out i
      rw [HL3.out] at ht
      have HT := Lib.hid ht
      clear ht
      go_wp2_with fail
      refine HT.out.mono ?_; rintro e w6 ⟨rfl, hb6⟩
      have HX6 := Lib.hid (HX.out.below hb6)
      have hb' := bl_trans hb hb6
      have HBR6 := Lib.hid (Nat.le_trans HBR.out hb6.size)
      clear HT hb6 hb
      have hg := get_at HX6.out HGG.out i HCA.out HL7.out (by have := HLL.out; omega) (i + 1) rfl
      have HGE := Lib.hid hg
      clear hg
      go_wp2_with fail
      refine HGE.out.mono ?_; rintro e w7 ⟨ga, gl, gc, rfl, hrow, hsam, h8, hb7⟩
      have HX7 := Lib.hid (HX6.out.below hb7)
      have hbb := bl_trans hb' hb7
      have HROW := Lib.hid hrow
      have HSAM := Lib.hid hsam
      have H8 := Lib.hid h8
      have HS7 := Lib.hid (show w6.heap.size ≤ w7.heap.size from hb7.size)
      obtain ⟨gn, hgn⟩ : ∃ gn, gn = gl.length := ⟨_, rfl⟩
      have HGN := Lib.hid hgn
      rw [← hgn]
      clear HGE hb' hb7 hrow hsam h8 hgn
      have hla := last_at HX7.out HGG.out
      rw [← HLV.out] at hla
      have HLA := Lib.hid hla
      clear hla
      go_wp2_with fail
      refine HLA.out.mono ?_; rintro e w8 ⟨rfl, hb8⟩
      have HX8 := Lib.hid (HX7.out.below hb8)
      have hbc := bl_trans hbb hb8
      have HB8 := Lib.hid hb8
      clear HLA hbb hb8
      have HCP := Lib.hid (compact_at HX8.out HGG.out i)
      go_wp2_with fail
      refine HCP.out.mono ?_; rintro e w9 (⟨hn, _⟩ | ⟨_, rfl, v', hX9, hG9, hch, _⟩)
      case inl => exact absurd ⟨HCA.out, HCB.out⟩ hn
      clear HCP
      obtain ⟨L', hL'⟩ : ∃ L', L' = bare (L.drop (i - bE L).toNat) := ⟨_, rfl⟩
      rw [← hL'] at hX9 hG9 HL1 HL2 HL4 HL5 HL6
      have HX9 := Lib.hid hX9
      have HG9 := Lib.hid hG9
      have HCH := Lib.hid hch
      have hbd : Below w.heap.size w w9 := hbc.trans (HBW.out ▸ HX8.out.bl hch)
      clear hX9 hG9 hch hL' hbc
      have ht := term_at HX9.out HG9.out i
      rw [HL4.out] at ht
      have HT := Lib.hid ht
      clear ht
      go_wp2_with fail
      refine HT.out.mono ?_; rintro e w10 ⟨rfl, hb10⟩
      have HXA := Lib.hid (HX9.out.below hb10)
      have HB10 := Lib.hid hb10
      have hbe := bl_trans hbd hb10
      clear HT hbd hb10
      have hg := get_at HXA.out HG9.out i (by rw [HL1.out]; exact Int.le_refl _) (by rw [HL2.out, HLV.out]; exact HL7.out) (by have := HLL.out; have := HL5.out; omega) (i + 1) rfl
      rw [HL1.out, HL6.out] at hg
      have HGE := Lib.hid hg
      clear hg
      go_wp2_with fail
      refine HGE.out.mono ?_; rintro e w11 ⟨ha, hl, hc, rfl, hrow, hsam, h8, hb11⟩
      have HXB := Lib.hid (HXA.out.below hb11)
      have HB11 := Lib.hid (bl_trans HB10.out hb11)
      have hbf := bl_trans hbe hb11
      have hnotin : ∀ g, (Value.slice ga gl.length gc).ownBlock = some g → ¬ g ∈ gM (B + 1) v := fun g hg hm => by
        have h1 := HROW.out.lt g hg
        rcases List.mem_cons.1 hm with h2 | h2
        · have := blk_lt HX6.out.blk; omega
        · have := (HX6.out.row.lt g (by simpa using h2)).2; omega
      have hrow8 := own_keep HROW.out HB8.out
      have hrow9 := ownsRow_blk hrow8 (fun g hg => HCH.out.block g (hrow8.lt g hg).2 (hnotin g hg))
      have hrow11 := own_keep hrow9 HB11.out
      have hold : ∀ j, j < gl.length → Own8 w11 (atE gl j).d := fun j hj => (((H8.out j hj).below HB8.out).keep HCH.out HX8.out.ty).below HB11.out
      have hss := sames_tri hsam HSAM.out
      have hln : hl.length ≤ 1000000 := by
        rw [hsam.1, List.length_drop]
        have := HLL.out
        omega
      have hsa := sames_at ha ga hl gl hc gc w11 (own_ea hrow rfl) (own_ea hrow11 rfl) hln hss (fun j hj => (h8 j hj).at_) (fun j hj => (hold j (by rw [hss.1]; exact hj)).at_)
      obtain ⟨hn, hhn⟩ : ∃ hn, hn = hl.length := ⟨_, rfl⟩
      rw [← hhn, ← HGN.out] at hsa
      rw [← hhn]
      have HSA := Lib.hid hsa
      clear HGE hbe hrow hsam h8 hb11 hnotin hrow8 hrow9 hrow11 hold hss hln hsa hhn
      go_wp2_with fail
      refine HSA.out.mono ?_; rintro e w12 ⟨rfl, hb12⟩
      have HXC := Lib.hid (HXB.out.below hb12)
      have hbg := bl_trans hbf hb12
      clear HSA hbf hb12
      have hfi := first_at HXC.out HG9.out
      rw [HL1.out] at hfi
      have hla := last_at HXC.out HG9.out
      rw [HL2.out] at hla
      have HFI := Lib.hid hfi
      have HLA := Lib.hid hla
      clear hfi hla
      go_wp2_with fail
      refine HFI.out.mono ?_; rintro e w13 ⟨rfl, rfl⟩
      go_wp2_with fail
      refine HLA.out.mono ?_; rintro e w13 ⟨rfl, hb13⟩
      have hbh := bl_trans hbg hb13
      clear HFI HLA hbg hb13
      go_wp2_with fail
      go_ret
      exact ⟨rfl, hbh⟩
    have d3 : decide ((k : Int) < 100) = true := decide_eq_true (by omega)
    have d3' : decide (k < 100) = true := decide_eq_true c2
    have hkl : k < pl.length := by rw [← HN.out]; exact c1
    obtain ⟨b1, o1, ha, hc⟩ := (HP.out.at_.keep hb) k hkl
    obtain ⟨x, hx⟩ : ∃ x, x = atS pl k := ⟨_, rfl⟩
    have hxe := (HP.out.s k hkl).e
    have hlk : lensTo pl (k + 1) = lensTo pl k + (atS pl k).e.l.length := rfl
    have hle := HLE.out (k + 1) (by omega) (by omega)
    have hc' : ∀ j u, x.c[j]? = some u → wr.cell? ⟨b1, o1 + k * 4 + j, none⟩ = some u := by rw [hx]; exact hc
    have hxe' : x.e.At w := by rw [hx]; exact hxe
    rw [← hx] at hlk
    obtain ⟨xa, xi, xt, xea, xl, xec⟩ := x
    simp only at hlk hxe'
    obtain ⟨xn, hxn⟩ : ∃ xn, xn = xl.length := ⟨_, rfl⟩
    have g0 := hc' 0 (.int .i64 xa) rfl
    have g1 := hc' 1 (.int .i64 xi) rfl
    have g2 := hc' 2 (.int .i64 xt) rfl
    have g3 := hc' 3 (.slice xea xn xec) (by rw [hxn]; rfl)
    rw [Nat.add_zero] at g0
    have hd := do_at HPK.out HBW.out (by rw [← HBW.out]; exact hb) xa xi xt xea xl xec hxe' (by rw [← hlk]; omega)
    rw [← hlk, ← hxn] at hd
    have HD := Lib.hid hd
    have hk2 : (0 : Int) ≤ (k : Int) := by omega
    have hk4 : (k : Int) < n := by omega
    have hk5 : k < 100 := c2
    subst ha
    clear c1 c2 hkl hc hc' hxe hxe' hlk hle hx hxn hd
    go_wp2_with fail
    refine HD.out.mono ?_
    rintro e w5 ⟨⟨bb, rfl⟩, hpx, hb5⟩
    have HPX5 := Lib.hid hpx
    have HB5 := Lib.hid (hb.trans (HBW.out ▸ hb5))
    clear hpx hb5 HD
    go_wp2_with fail
    go_roundg (n - (k + 1))
    case measure => have := HG.out; omega
    case rel => exact ⟨k + 1, by omega, by omega, rfl, by go_num, HPX5.out, HB5.out⟩
end Go.Proofs.Yteflgempjecnpaa
