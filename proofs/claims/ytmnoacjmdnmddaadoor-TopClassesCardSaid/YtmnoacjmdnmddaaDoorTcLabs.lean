/- flight: labels, Labels. Conditions: none. -/
import Derived.Test.YtmnoacjmdnmddaaDoorTcRead
namespace Go.Proofs.YtmnoacjmdnmddaaDoor
open Go.RowKit Go.Maps
theorem infoStr : (Tryd.prog.info? 9).map (fun i => (i.zero, i.size, i.bytes)) = some (some (.string ⟨#[]⟩), 1, 16) := by kernel_rfl
def labV (S : FS) (xs : List Int) : List Value := xs.map fun x => .string (labS (total S.gs) x)
theorem labV_len (S : FS) (xs : List Int) : (labV S xs).length = xs.length := by simp [labV]
theorem labV_snoc (S : FS) {xs : List Int} {k : Nat} (h : k < xs.length) : labV S (xs.take (k + 1)) = labV S (xs.take k) ++ [.string (labS (total S.gs) (xs.getD k 0))] := by
  unfold labV
  rw [List.take_add_one, List.map_append, List.getElem?_eq_getElem h, List.getD_eq_getElem?_getD, List.getElem?_eq_getElem h]
  rfl
set_option maxRecDepth 100000 in
set_option maxHeartbeats 2000000 in
theorem labels_at {w : World} {B p : Nat} {S : FS} (h : FlAt w B p S) (i : FInv S) {a : Option Addr} {xs : List Int} (c : Nat) (hx : GsAt w a xs) (hl : ∀ x ∈ xs, hasL S.rows S.gs x) (hm : xs.length ≤ 10000) :
    Calls Tryd.prog 30 #[.pointer (some ⟨p, 0, none⟩), .slice a xs.length c] w fun e w' => ∃ a' c', e = .returned (.slice a' xs.length c') ∧ w'.ownsRow w.heap.size 9 1 (.slice a' xs.length c') xs.length (labV S xs) ∧ Below w.heap.size w w' := by
  have hg4 := i.right.2.2.2.1
  have HL := Lib.hid (show ∀ (W : World) (k : Nat), Below w.heap.size w W → k < xs.length → Calls Tryd.prog 47 #[.agg #[.int .i64 S.rows, S.gv], .int .i64 (xs.getD k 0)] W fun e w' => e = .returned (.tuple #[.string (labS (total S.gs) (xs.getD k 0)), .int .i64 0]) ∧ Below W.heap.size W w' from fun W k hW hk =>
    label_yes S.rows S.ga S.gs S.gc _ W ((own_gs h.gr).keep hW) (by unfold maxLen; omega) (hl _ (by rw [List.getD_eq_getElem?_getD, List.getElem?_eq_getElem hk]; exact List.getElem_mem hk)))
  have hcF : ∀ (i : Nat) (W : World), Below w.heap.size w W → W.cell? ⟨p, i, none⟩ = S.cells[i]? := fun i W hW => blk_cell (blk_below h.blk hW (blk_lt h.blk)) i
  have c1 := hcF 1
  have c2 := hcF 2
  have c3 := hcF 3
  have c4 := hcF 4
  have c5 := hcF 5
  have c6 := hcF 6
  simp only [FS.cells, List.getElem?_toArray, List.getElem?_cons_zero, List.getElem?_cons_succ] at c1 c2 c3 c4 c5 c6
  clear hcF
  have hb := Below.refl w.heap.size w
  have HX := Lib.hid hx
  have HSN := Lib.hid (fun (k : Nat) (hk : k < xs.length) => labV_snoc S (xs := xs) hk)
  have HFN := Lib.hid (show labV S (xs.take xs.length) = labV S xs by rw [List.take_length])
  obtain ⟨n, hn⟩ : ∃ n, n = xs.length := ⟨_, rfl⟩
  rw [← hn] at HL hm HSN HFN ⊢
  obtain ⟨gv, hgv⟩ : ∃ gv, gv = S.gv := ⟨_, rfl⟩
  obtain ⟨rows, hrows⟩ : ∃ r, r = S.rows := ⟨_, rfl⟩
  rw [← hgv, ← hrows] at HL
  rw [← hgv] at c2
  rw [← hrows] at c1
  have HNN := Lib.hid hn
  have h0 : (0 : Int) ≤ (n : Int) := by omega
  clear hgv hrows h i hl hx hn c3 c4 c5 c6 hg4
  go_enter Tryd.func30, Tryd.ntmps30
  go_wp2_with fail
  go_loopg [5, 12] n (fun g v5 i wr => Below w.heap.size w wr ∧ ∃ k : Nat, k ≤ n ∧ g = n - k ∧ i = .int .i64 k ∧ wr.ownsRow w.heap.size 9 1 v5 k (labV S (xs.take k)))
  case atStart => exact ⟨hb, 0, by omega, rfl, rfl, World.ownsRow_nil _ _ _ _⟩
  case round =>
    obtain ⟨hb, k, hk, hg, rfl, hown⟩ := hrel
    obtain ⟨va, vc, rfl⟩ := own_slice hown
    have HG := Lib.hid hg
    have HO := Lib.hid hown
    clear hg hown
    by_cases hkn : k < n
    case neg =>
      obtain rfl : k = n := by omega
      have z1 : decide ((k : Int) < (k : Int)) = false := decide_eq_false (by omega)
      go_wp2_with fail
      go_ret
      exact ⟨va, vc, rfl, by rw [← HFN.out]; exact HO.out, hb⟩
    have z1 : decide ((k : Int) < n) = true := decide_eq_true (by omega)
    have hk0 : (0 : Int) ≤ (k : Int) := by omega
    have hk1 : (k : Int) < n := by omega
    obtain ⟨ab, ao, ha, hcx⟩ := (HX.out.keep hb) k (by rw [← HNN.out]; exact hkn)
    subst ha
    have HCL := Lib.hid (HL.out wr k hb hkn)
    obtain ⟨x, hxe⟩ : ∃ x, x = xs.getD k 0 := ⟨_, rfl⟩
    obtain ⟨s, hse⟩ : ∃ s, s = labS (total S.gs) x := ⟨_, rfl⟩
    have HSS := Lib.hid (show labV S (xs.take (k + 1)) = labV S (xs.take k) ++ [.string s] by rw [HSN.out k hkn, hse, hxe])
    rw [← hxe, ← hse] at HCL
    rw [← hxe] at hcx
    clear hxe hse
    go_wp2_with fail
    refine HCL.out.mono ?_
    rintro e w2 ⟨rfl, hb2⟩
    have HO2 := Lib.hid (own_keep HO.out hb2)
    replace hb := bl_trans hb hb2
    clear hb2 hcx
    go_wp2_with (at_builtin; go_loud (refine wpList_clone rfl _ _ 42 rfl w.heap.size 9 Tryd.underlying42 infoStr rfl (by decide) rfl (own_keep HO2.out (bl_alloc (Below.refl _ _) (.cells #[.string s] 9))) rfl (ys := [.string s]) rfl (fun j u hj => ⟨w2.heap.size, 0, rfl, by rw [Nat.zero_add, blk_cell (blk_new w2 (.cells #[.string s] 9) rfl)]; simpa using hj⟩) (fun h => by cases h) (by simp [Value.oneCell']) (by unfold maxLen; omega) (by omega) (Nat.le_trans hb.size (bl_alloc (Below.refl w2.heap.size w2) (.cells #[.string s] 9)).size) ?_); intro v1 w4 hown1 hgrow hat1; obtain ⟨va1, vc1, rfl⟩ := own_slice hown1; have HOWN := Lib.hid hown1; have HB4 := Lib.hid ((bl_alloc hb (.cells #[.string s] 9)).trans (own_below (own_keep HO2.out (bl_alloc (Below.refl _ _) (.cells #[.string s] 9))) hgrow (Nat.le_trans hb.size (bl_alloc (Below.refl w2.heap.size w2) (.cells #[.string s] 9)).size))); clear hown1 hgrow hat1)
    go_roundg (n - (k + 1))
    case measure => have := HG.out; omega
    case rel => exact ⟨HB4.out, k + 1, by omega, rfl, by go_num, by rw [HSS.out]; exact HOWN.out⟩
/-- A look-up in the holds. -/
theorem zeroPtr (w : World) : (zeroValue 66).run Tryd.prog w = .ok (.pointer none) w := Tryd.zeroValue66 w
set_option maxRecDepth 100000 in
set_option maxHeartbeats 2000000 in
theorem labelsOf_at {w : World} {B p : Nat} {S : FS} (h : FlAt w B p S) (i : FInv S) {x : HD} (hx : x ∈ S.H) :
    Calls Tryd.prog 14 #[.pointer (some ⟨p, 0, none⟩), .int .i64 x.own] w fun e w' => ∃ a' c', e = .returned (.slice a' x.seats.length c') ∧ w'.ownsRow w.heap.size 9 1 (.slice a' x.seats.length c') x.seats.length (labV S x.seats) ∧ Below w.heap.size w w' := by
  obtain ⟨D, hD, hDo⟩ := h.hm
  have hx9 := i.len x hx
  have hx8 := (i.many x hx).2
  obtain ⟨ra, rc, hrow⟩ := own_slice (h.hs x hx).row
  have HC := Lib.hid (labels_at h i rc (own_gs (show w.ownsRow B 3 1 (.slice ra x.seats.length rc) _ _ by rw [← hrow]; exact (h.hs x hx).row)) (i.seat x hx) (by omega))
  have hat := hDo.1 (x.own, x.blk) (List.mem_map.2 ⟨x, hx, rfl⟩)
  have hhas := has_true_of_atKey hat
  have hkey := keyOf_int_mk Tryd.underlying3 (i.own x hx)
  have y3 : w.cell? ⟨x.blk, 3, none⟩ = some x.row := by rw [blk_cell (h.hs x hx).blk]; rfl
  rw [hrow] at y3
  have hcF : ∀ (i : Nat) (W : World), Below w.heap.size w W → W.cell? ⟨p, i, none⟩ = S.cells[i]? := fun i W hW => blk_cell (blk_below h.blk hW (blk_lt h.blk)) i
  have c1 := hcF 1
  have c2 := hcF 2
  have c3 := hcF 3
  have c4 := hcF 4
  have c5 := hcF 5
  have c6 := hcF 6
  simp only [FS.cells, List.getElem?_toArray, List.getElem?_cons_zero, List.getElem?_cons_succ] at c1 c2 c3 c4 c5 c6
  clear hcF
  have hb := Below.refl w.heap.size w
  have e5 := c5 w hb
  obtain ⟨hb1, hhb⟩ : ∃ hb1, hb1 = S.hb := ⟨_, rfl⟩
  rw [← hhb] at e5 hD
  obtain ⟨o, ho⟩ : ∃ o, o = x.own := ⟨_, rfl⟩
  rw [← ho] at hat hhas hkey ⊢
  clear hhb ho c1 c2 c3 c4 c5 c6 h i hx hrow
  go_enter Tryd.func14, Tryd.ntmps14
  go_wp2_with (at_lookup; refine wpList_lookup_own_ok _ rfl _ _ 60 rfl 3 66 int_key Tryd.underlying60 ptrR (zeroPtr _) (.lit (.bool false)) [] rfl hb1 S.nn D rfl hD _ _ rfl hkey ?_; intro v ps hv; rw [hat] at hv; obtain rfl := ptrR_some hv; rw [hhas])
  refine HC.out.mono ?_
  rintro e w2 ⟨a', c', rfl, hr, hb2⟩
  go_wp2_with fail
  go_ret
  exact ⟨a', c', rfl, hr, hb2⟩
end Go.Proofs.YtmnoacjmdnmddaaDoor
