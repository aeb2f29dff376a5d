/- flight: Holds. Conditions: none. -/
import Derived.Test.YtmnoacjmdnmddaaDoorTcLabs
namespace Go.Proofs.YtmnoacjmdnmddaaDoor
open Go.RowKit Go.Maps
theorem infoHold : (Tryd.prog.info? 50).map (fun i => (i.zero, i.size, i.bytes)) = some (some (.agg #[.int .i64 0, .int .i64 0, .int .i64 0, .slice none 0 0]), 4, 48) := by kernel_rfl
def HD.key (h : HD) : Int × Nat × Int := (h.own, h.cls, h.many)
def HD.four (h : HD) : List Value := [.int .i64 h.own, .int .i64 h.cls, .int .i64 h.many, h.row]
def fours (L : List HD) : List Value := L.flatMap HD.four
theorem fours_snoc (L : List HD) (h : HD) : fours (L ++ [h]) = fours L ++ h.four := by simp [fours]
theorem fours_len (L : List HD) : (fours L).length = L.length * 4 := by
  induction L with
  | nil => rfl
  | cons x r ih =>
    show (x.four ++ fours r).length = _
    rw [List.length_append, ih, List.length_cons]
    show 4 + _ = _
    omega
theorem fours_get {L : List HD} : ∀ {k : Nat} (hk : k < L.length) (j : Nat) (hj : j < 4), (fours L)[k * 4 + j]? = L[k].four[j]? := by
  induction L with
  | nil => intro k hk; cases hk
  | cons x r ih =>
    intro k hk j hj
    show (x.four ++ fours r)[k * 4 + j]? = _
    cases k with
    | zero =>
      rw [Nat.zero_mul, Nat.zero_add, List.getElem?_append_left (show j < 4 from hj)]
      rfl
    | succ k =>
      rw [List.getElem?_append_right (show 4 ≤ _ by omega), show (k + 1) * 4 + j - x.four.length = k * 4 + j from (show (k + 1) * 4 + j - 4 = _ by omega), ih (by simpa using hk) j hj]
      rfl
theorem HD.perm {H L : List HD} (hn : (H.map HD.own).Nodup) (hp : (L.map HD.own).Perm (H.map HD.own)) (hm : ∀ x ∈ L, x ∈ H) : L.Perm H := by
  have h1 : (L.map HD.own).Nodup := hp.nodup_iff.2 hn
  have nd : ∀ {l : List HD}, (l.map HD.own).Nodup → l.Nodup := fun {l} h => by
    rw [List.nodup_iff_pairwise_ne] at h ⊢
    exact (List.pairwise_map.1 h).imp (fun {a b} hab e => hab (by rw [e]))
  refine (List.perm_ext_iff_of_nodup (nd h1) (nd hn)).2 fun x => ⟨hm x, fun hx => ?_⟩
  have : x.own ∈ L.map HD.own := hp.mem_iff.2 (List.mem_map.2 ⟨x, hx, rfl⟩)
  obtain ⟨y, hy, e⟩ := List.mem_map.1 this
  rw [HD.same hn hx (hm y hy) e.symm]
  exact hy
theorem hm_keys {w : World} {B p : Nat} {S : FS} (h : FlAt w B p S) (i : FInv S) {D : DataW Unit} (hD : w.ownsMap Tryd.prog 3 ptrR S.hb S.nn D) (hDo : HmOk D (S.H.map fun h => (h.own, h.blk))) : (intKeys D).Perm (S.H.map HD.own) := by
  obtain ⟨k1, k2, _⟩ := keys_mem hD int_key Tryd.underlying3
  refine (List.perm_ext_iff_of_nodup k1 i.nod).2 fun x => ?_
  rw [k2 x]
  constructor
  · intro hx
    rw [List.mem_map]
    by_cases e : ∃ h ∈ S.H, h.own = x
    · exact e
    · have := hDo.2 x (fun p hp => by
        obtain ⟨h', h1, rfl⟩ := List.mem_map.1 hp
        exact fun e' => e ⟨h', h1, e'⟩)
      rw [this] at hx
      cases hx
  · intro hx
    obtain ⟨h', h1, rfl⟩ := List.mem_map.1 hx
    exact has_true_of_atKey (hDo.1 (h'.own, h'.blk) (List.mem_map.2 ⟨h', h1, rfl⟩))
theorem row_base {w : World} {B B' : Nat} {e : TypeId} {size n : Nat} {v : Value} {xs : List Value} (h : w.ownsRow B e size v n xs) (hB : B' ≤ B) : w.ownsRow B' e size v n xs := by
  refine ⟨h.1, ?_⟩
  rcases h.2 with h1 | ⟨g, cap, cur, h1, h2, h3⟩
  · exact .inl h1
  · exact .inr ⟨g, cap, cur, h1, Nat.le_trans hB h2, h3⟩
set_option maxRecDepth 100000 in
set_option maxHeartbeats 2000000 in
theorem holds_at {w : World} {B p : Nat} {S : FS} (h : FlAt w B p S) (i : FInv S) (hnn : S.nn ≤ 10000000) :
    Calls Tryd.prog 13 #[.pointer (some ⟨p, 0, none⟩)] w fun e w' => ∃ a c, ∃ L L0 : List HD, e = .returned (.slice a L.length c) ∧ L0.Perm S.H ∧ L.map HD.key = L0.map HD.key ∧ w'.ownsRow w.heap.size 50 4 (.slice a L.length c) L.length (fours L) ∧ Below w.heap.size w w' := by
  obtain ⟨D, hD, hDo⟩ := h.hm
  have hks := hm_keys h i hD hDo
  have hsz := hD.size_le
  have hkl := (keys_mem hD int_key Tryd.underlying3).2.2
  have HH := Lib.hid h
  have HI := Lib.hid i
  have HD0 := Lib.hid hD
  have HDO := Lib.hid hDo
  have HKS := Lib.hid hks
  have hcF : ∀ (i : Nat) (W : World), Below w.heap.size w W → W.cell? ⟨p, i, none⟩ = S.cells[i]? := fun i W hW => blk_cell (blk_below h.blk hW (blk_lt h.blk)) i
  have c1 := hcF 1
  have c2 := hcF 2
  have c3 := hcF 3
  have c4 := hcF 4
  have c5 := hcF 5
  have c6 := hcF 6
  simp only [FS.cells, List.getElem?_toArray, List.getElem?_cons_zero, List.getElem?_cons_succ] at c1 c2 c3 c4 c5 c6
  clear hcF
  have hb := Below.refl w.heap.size w
  obtain ⟨hb1, hhb⟩ : ∃ hb1, hb1 = S.hb := ⟨_, rfl⟩
  rw [← hhb] at c5 HD0
  have hm0 : (w.alloc (.cells #[.map (some hb1)] 60)).cell? ⟨w.heap.size, 0, none⟩ = some (.map (some hb1)) := blk_cell (blk_new w _ rfl) 0
  have HS := Lib.hid (sorted_at (map_keep HD0.out (bl_alloc hb (.cells #[.map (some hb1)] 60))) hm0 (by omega))
  have HB0 := Lib.hid (bl_alloc hb (.cells #[.map (some hb1)] 60))
  have HN := Lib.hid (show S.H.length ≤ 10000000 by
    have := hks.length_eq
    rw [List.length_map] at this
    omega)
  clear hhb h i hD hDo hks hsz hkl hm0 c1 c2 c3 c4 c6
  go_enter Tryd.func13, Tryd.ntmps13
  go_wp2_with fail
  refine (keysH_at _ _).mono ?_
  rintro e w1 ⟨rfl, rfl⟩
  go_wp2_with fail
  refine HS.out.mono ?_
  rintro e w2 ⟨a, c, ks, rfl, hp, hrow, hb2⟩
  replace hb := bl_trans HB0.out hb2
  have HP := Lib.hid (hp.trans HKS.out)
  have HRW := Lib.hid hrow
  have hksl : ks.length ≤ 10000000 := by
    have := HP.out.length_eq
    rw [List.length_map] at this
    have := HN.out
    omega
  clear hp hrow hb2 HS HB0
  obtain ⟨n, hn⟩ : ∃ n, n = ks.length := ⟨_, rfl⟩
  rw [← hn] at HRW hksl ⊢
  have HNN := Lib.hid hn
  have HB2 := Lib.hid hb
  clear hn
  have h0 : (0 : Int) ≤ (n : Int) := by omega
  go_wp2_with fail
  go_loopg [3, 14] n (fun g v3 i wr => Below w2.heap.size w2 wr ∧ ∃ k : Nat, k ≤ n ∧ g = n - k ∧ i = .int .i64 k ∧ ∃ L L0 : List HD, L0.map HD.own = ks.take k ∧ (∀ x ∈ L0, x ∈ S.H) ∧ L.map HD.key = L0.map HD.key ∧ wr.ownsRow w2.heap.size 50 4 v3 k (fours L))
  case atStart => exact ⟨Below.refl _ _, 0, by omega, rfl, rfl, [], [], rfl, by simp, rfl, World.ownsRow_nil _ _ _ _⟩
  case round =>
    obtain ⟨hb, k, hk, hg, rfl, L, L0, hL1, hL2, hL3, hown⟩ := hrel
    obtain ⟨va, vc, rfl⟩ := own_slice hown
    have HG := Lib.hid hg
    have HO := Lib.hid hown
    have H1 := Lib.hid hL1
    have H2 := Lib.hid hL2
    have H3 := Lib.hid hL3
    clear hg hown hL1 hL2 hL3
    by_cases hkn : k < n
    case neg =>
      obtain rfl : k = n := by omega
      have z1 : decide ((k : Int) < (k : Int)) = false := decide_eq_false (by omega)
      go_wp2_with fail
      go_ret
      have hl : L.length = k := by
        have h1 := HO.out.1
        rw [fours_len] at h1
        omega
      refine ⟨va, vc, L, L0, by rw [hl]; rfl, HD.perm HI.out.nod ?_ H2.out, H3.out, by rw [hl]; exact row_base HO.out HB2.out.size, HB2.out.trans (hb.mono HB2.out.size)⟩
      rw [H1.out, HNN.out, List.take_length]
      exact HP.out
    have z1 : decide ((k : Int) < n) = true := decide_eq_true (by omega)
    have hk0 : (0 : Int) ≤ (k : Int) := by omega
    have hk1 : (k : Int) < n := by omega
    have hbw := HB2.out.trans (hb.mono HB2.out.size)
    obtain ⟨ga, gc, e, hge⟩ := row_some HRW.out (by omega)
    injection e with e1 e2 e3
    subst e1 e3
    have hkl : k < ks.length := by rw [← HNN.out]; exact hkn
    have yk : ∀ W, Below wr.heap.size wr W → W.cell? ⟨ga, k, none⟩ = some (.int .i64 (ks.getD k 0)) := fun W hW => cell_keep hW (cell_keep hb (row_cell HRW.out (intsV_get hkl)))
    obtain ⟨x, hx, hxo⟩ := List.mem_map.1 (HP.out.mem_iff.1 (show ks.getD k 0 ∈ ks by rw [List.getD_eq_getElem?_getD, List.getElem?_eq_getElem hkl]; exact List.getElem_mem hkl))
    have HT := Lib.hid (show ks.take (k + 1) = ks.take k ++ [x.own] by
      rw [List.take_add_one, List.getElem?_eq_getElem hkl, hxo, List.getD_eq_getElem?_getD, List.getElem?_eq_getElem hkl]
      rfl)
    rw [← hxo] at yk
    have HX := Lib.hid hx
    have hat := HDO.out.1 (x.own, x.blk) (List.mem_map.2 ⟨x, hx, rfl⟩)
    have hkey := keyOf_int_mk Tryd.underlying3 (HI.out.own x hx)
    obtain ⟨v, ps, hlk, hv⟩ := (map_keep HD0.out hbw).lookup int_key Tryd.underlying60 (zeroPtr wr) (zd := .lit (.bool false)) (zp := []) rfl hkey
    rw [hat] at hv
    obtain rfl := ptrR_some hv
    have hxa := (HH.out.hs x hx)
    have y0 : ∀ W, Below wr.heap.size wr W → W.cell? ⟨x.blk, 0, none⟩ = some (.int .i64 x.own) := fun W hW => cell_keep hW (cell_keep hbw (by rw [blk_cell hxa.blk]; rfl))
    have y1 : ∀ W, Below wr.heap.size wr W → W.cell? ⟨x.blk, 1, none⟩ = some (.int .i64 x.cls) := fun W hW => cell_keep hW (cell_keep hbw (by rw [blk_cell hxa.blk]; rfl))
    have y2 : ∀ W, Below wr.heap.size wr W → W.cell? ⟨x.blk, 2, none⟩ = some (.int .i64 x.many) := fun W hW => cell_keep hW (cell_keep hbw (by rw [blk_cell hxa.blk]; rfl))
    have y3 : ∀ W, Below wr.heap.size wr W → W.cell? ⟨x.blk, 3, none⟩ = some x.row := fun W hW => cell_keep hW (cell_keep hbw (by rw [blk_cell hxa.blk]; rfl))
    obtain ⟨ra, rc, hrr⟩ := own_slice hxa.row
    have HCL := Lib.hid (show ∀ V, Below wr.heap.size wr V → Calls Tryd.prog 19 #[.slice ra x.seats.length rc] V fun e w' => ∃ a' c', e = .returned (.slice a' x.seats.length c') ∧ Below V.heap.size V w' from fun V hV => by
      have hr := own_keep (own_keep hxa.row hbw) hV
      rw [hrr] at hr
      refine (cloneI_at ra x.seats rc V (own_gs hr) (by have h1 := HI.out.len x hx; have h2 := (HI.out.many x hx).2; omega) (own_nil hr)).mono ?_
      rintro e w' ⟨a', c', rfl, _, hb, _⟩
      exact ⟨_, _, rfl, hb⟩)
    rw [hrr] at y3
    obtain ⟨m, hm⟩ : ∃ m, m = x.seats.length := ⟨_, rfl⟩
    obtain ⟨xb, hxb⟩ : ∃ xb, xb = x.blk := ⟨_, rfl⟩
    obtain ⟨xo, hxo'⟩ : ∃ xo, xo = x.own := ⟨_, rfl⟩
    obtain ⟨xc, hxc⟩ : ∃ xc, xc = x.cls := ⟨_, rfl⟩
    obtain ⟨xm, hxm⟩ : ∃ xm, xm = x.many := ⟨_, rfl⟩
    rw [← hm] at y3 HCL
    rw [← hxb] at y0 y1 y2 y3 hlk
    rw [← hxo'] at y0 yk hlk
    rw [← hxc] at y1
    rw [← hxm] at y2
    have HXX := Lib.hid (show xo = x.own ∧ xc = x.cls ∧ xm = x.many from ⟨hxo', hxc, hxm⟩)
    have hbq := Below.refl wr.heap.size wr
    have HB := Lib.hid hb
    have hcw : ∀ W, Below wr.heap.size wr W → W.cell? ⟨p, 5, none⟩ = some (.map (some hb1)) := fun W hW => cell_keep hW (c5 wr hbw)
    clear hm hxb hxo' hxc hxm hxo hx hxa hrr hat hv hkey hge hkl hbw hb c5
    go_wp2_with fail
    have hba := bl_alloc hbq (.cells #[.int .i64 xo, .int .i64 xc, .int .i64 xm, .slice ra m rc] 50)
    have hlb := blk_new wr (.cells #[.int .i64 xo, .int .i64 xc, .int .i64 xm, .slice ra m rc] 50) rfl
    refine (HCL.out _ hba).mono ?_
    rintro e w5 ⟨ca, cc, rfl, hb5⟩
    have hlb5 := blk_below hlb hb5 (blk_lt hlb)
    replace hb5 := bl_trans hba hb5
    obtain ⟨lb, hlbe⟩ : ∃ lb, lb = wr.heap.size := ⟨_, rfl⟩
    rw [← hlbe] at hlb5 ⊢
    have z0 : w5.cell? ⟨lb, 0, none⟩ = some (.int .i64 xo) := blk_cell hlb5 0
    have zz1 : w5.cell? ⟨lb, 1, none⟩ = some (.int .i64 xc) := blk_cell hlb5 1
    have z2 : w5.cell? ⟨lb, 2, none⟩ = some (.int .i64 xm) := blk_cell hlb5 2
    have z3 : w5.cell? ⟨lb, 3, none⟩ = some (.slice ra m rc) := blk_cell hlb5 3
    have zf : w5.frozen? ⟨lb, 3, none⟩ = false := blk_frozen hlb5 3
    have hbs := hb5.setCell (p := ⟨lb, 3, none⟩) (by rw [hlbe]; exact Nat.le_refl _) (.slice ca m cc)
    have HBS := Lib.hid hbs
    have HO5 := Lib.hid (own_keep HO.out hbs)
    have hws : w2.heap.size ≤ (w5.setCell ⟨lb, 3, none⟩ (.slice ca m cc)).heap.size := Nat.le_trans HB.out.size hbs.size
    have HWS := Lib.hid hws
    clear hb5 hba hlb hlb5 hlbe hbs
    obtain ⟨w6, hw6⟩ : ∃ w6, w6 = w5.setCell ⟨lb, 3, none⟩ (.slice ca m cc) := ⟨_, rfl⟩
    have HW6 := Lib.hid hw6
    rw [← hw6] at hws HO5 HBS HWS
    have HLC := Lib.hid (show ∀ (j : Nat) (u : Value), ([.int .i64 xo, .int .i64 xc, .int .i64 xm, .slice ca m cc] : List Value)[j]? = some u → ∃ b off, some (⟨w5.heap.size, 0, none⟩ : Addr) = some ⟨b, off, none⟩ ∧ (w6.alloc (.cells #[.int .i64 xo, .int .i64 xc, .int .i64 xm, .slice ca m cc] 50)).cell? ⟨b, off + j, none⟩ = some u from fun j u hj => ⟨w5.heap.size, 0, rfl, by rw [Nat.zero_add, blk_cell (blk_new w6 _ (show w5.heap.size = w6.heap.size by rw [hw6]; simp [World.setCell]))]; simpa using hj⟩)
    have HOA := Lib.hid (own_keep HO5.out (bl_alloc (Below.refl _ _) (.cells #[.int .i64 xo, .int .i64 xc, .int .i64 xm, .slice ca m cc] 50)))
    have HWA := Lib.hid (Nat.le_trans hws (bl_alloc (Below.refl w6.heap.size w6) (.cells #[.int .i64 xo, .int .i64 xc, .int .i64 xm, .slice ca m cc] 50)).size)
    have HBA := Lib.hid (bl_alloc HBS.out (.cells #[.int .i64 xo, .int .i64 xc, .int .i64 xm, .slice ca m cc] 50))
    subst hw6
    clear hws
    go_wp2_with (at_builtin; go_loud (refine wpList_clone rfl _ _ 46 rfl w2.heap.size 50 Tryd.underlying46 infoHold rfl (by decide) rfl HOA.out rfl (ys := [.int .i64 xo, .int .i64 xc, .int .i64 xm, .slice ca m cc]) rfl HLC.out (fun h => by cases h) (by simp [Value.oneCell']) (by unfold maxLen; omega) (by omega) HWA.out ?_); intro v1 w7 hown1 hgrow hat1; obtain ⟨va1, vc1, rfl⟩ := own_slice hown1)
    have hb7 := HB.out.trans ((HBA.out).mono HB.out.size)
    replace hb7 := hb7.trans (own_below HOA.out hgrow HWA.out)
    go_roundg (n - (k + 1))
    case measure => have := HG.out; omega
    case rel =>
      refine ⟨hb7, k + 1, by omega, rfl, by go_num, L ++ [⟨xo, xc, xm, [], 0, .slice ca m cc⟩], L0 ++ [x], ?_, ?_, ?_, ?_⟩
      · rw [HT.out, List.map_append, H1.out]; rfl
      · intro y hy
        rcases List.mem_append.1 hy with h1 | h1
        · exact H2.out y h1
        · have : y = x := by simpa using h1
          rw [this]; exact HX.out
      · rw [List.map_append, List.map_append, H3.out]
        show _ ++ [(xo, xc, xm)] = _ ++ [(x.own, x.cls, x.many)]
        rw [HXX.out.1, HXX.out.2.1, HXX.out.2.2]
      · rw [fours_snoc]
        exact hown1
end Go.Proofs.YtmnoacjmdnmddaaDoor
