/- rlog: copies. Conditions: none. -/
import Derived.Test.YteflgempjecnpaaLgG2
namespace Go.Proofs.Yteflgempjecnpaa
open Go.RowKit

theorem info_parts {i : Option TypeInfo} {z : Value} {size bytes : Nat} (h : i.map (fun i => (i.zero, i.size, i.bytes)) = some (some z, size, bytes)) : ∃ i0, i = some i0 ∧ i0.zero = some z ∧ i0.size = size ∧ i0.bytes = bytes := by
  cases i with
  | none => cases h
  | some i0 => simp at h; exact ⟨i0, rfl, h.1, h.2.1, h.2.2⟩
/-- 'out = append(out, x, ..)': the new ones lie in the newest block; where the new row lies. -/
theorem wpList_appm {P : Program} {W : World} {ops : Array Oper} {rest : List Oper} {o : Oper} {a : Act} {Q : Exit → Act → World → Prop} (hgd : o.guard = none) (s x : Operand) (T : TypeId)
    (ho : o.op = .call { callee := .builtin .append, args := #[s, x], argTypes := #[T, T] })
    (base : Nat) (E : TypeId) {z : Value} {size bytes : Nat} (hT : P.underlying T = some (.slice E)) (hinfo : (P.info? E).map (fun i => (i.zero, i.size, i.bytes)) = some (some z, size, bytes))
    (hzs : z.cells.size = size) (hsz : 0 < size) {v : Value} (hs : a.eval s = v) {n m : Nat} {xs : List Value} (hown : W.ownsRow base E size v n xs)
    (hx : a.eval x = .slice (some ⟨W.heap.size, 0, none⟩) m m) (cs : List Value) {tb : TypeId} {fz : Nat × Nat} (hcs : cs.length = m * size) (h1 : ∀ u ∈ cs, u.oneCell' = true)
    (hm : n + m ≤ maxLen) (hb : (n + m) * bytes ≤ 140737488355328) (hbase : base ≤ W.heap.size)
    (h : ∀ v' w', w'.ownsRow base E size v' (n + m) (xs ++ cs) → W.grownBy w' v.ownBlock → (v'.ownBlock = v.ownBlock ∨ ∃ g, v'.ownBlock = some g ∧ W.heap.size ≤ g) → wpList P ops Q rest (a.put o.dst v') w') :
    wpList P ops Q (o :: rest) a (W.alloc (.cells cs.toArray tb fz)) := by
  obtain ⟨i0, hi, hz0, hz1, hz2⟩ := info_parts hinfo
  have hcell : ∀ j u, cs[j]? = some u → (W.alloc (.cells cs.toArray tb fz)).cell? ((⟨W.heap.size, 0, none⟩ : Addr).add j) = some u := by
    intro j u hj
    have hadd : (⟨W.heap.size, 0, none⟩ : Addr).add j = ⟨W.heap.size, j, none⟩ := by unfold Addr.add; split <;> simp_all
    rw [hadd, cell_of_row _ W.heap.size j cs.toArray tb fz (heap_alloc_new W _)]
    simpa using hj
  refine wpList_append_own_at _ hgd s x T ho base E i0 z size bytes hT hi hz0 hz1 hz2 hzs hsz v n xs hs (hown.alloc _) ⟨W.heap.size, 0, none⟩ m m cs hx hcs hcell h1 hm hb (by simp; omega) ?_
  intro v' w' h2 h3 _ h5
  refine h v' w' h2 (grown_trans (World.grownBy_alloc W _ _) h3) ?_
  rcases h5 with h5 | h5
  · exact .inl h5
  · exact .inr ⟨_, h5, by simp⟩
/-- 'append(S{}, s...)': the first one has just been made, and holds nothing; s is whatever can be read. -/
theorem wpList_clone {P : Program} {W : World} {ops : Array Oper} {rest : List Oper} {o : Oper} {a : Act} {Q : Exit → Act → World → Prop} (hgd : o.guard = none) (s x : Operand) (T : TypeId)
    (ho : o.op = .call { callee := .builtin .append, args := #[s, x], argTypes := #[T, T] })
    (base : Nat) (E : TypeId) {z : Value} {size bytes : Nat} (hT : P.underlying T = some (.slice E)) (hinfo : (P.info? E).map (fun i => (i.zero, i.size, i.bytes)) = some (some z, size, bytes))
    (hzs : z.cells.size = size) (hsz : 0 < size) {v : Value} (hs : a.eval s = v) {n m c : Nat} {xs ys : List Value} (hown : W.ownsRow base E size v n xs)
    {ad : Option Addr} (hx : a.eval x = .slice ad m c) (hys : ys.length = m * size) (hcell : ∀ j u, ys[j]? = some u → ∃ b off, ad = some ⟨b, off, none⟩ ∧ W.cell? ⟨b, off + j, none⟩ = some u) (hnil : ad = none → c = 0) (h1 : ∀ u ∈ ys, u.oneCell' = true)
    (hm : n + m ≤ maxLen) (hb : (n + m) * bytes ≤ 140737488355328) (hbase : base ≤ W.heap.size)
    (h : ∀ v' w', w'.ownsRow base E size v' (n + m) (xs ++ ys) → W.grownBy w' v.ownBlock → (v'.ownBlock = v.ownBlock ∨ ∃ g, v'.ownBlock = some g ∧ W.heap.size ≤ g) → wpList P ops Q rest (a.put o.dst v') w') :
    wpList P ops Q (o :: rest) a W := by
  obtain ⟨i0, hi, hz0, hz1, hz2⟩ := info_parts hinfo
  cases ad with
  | none =>
    have hm0 : m = 0 := by
      cases m with
      | zero => rfl
      | succ m =>
        have : 0 < ys.length := by rw [hys]; exact Nat.mul_pos (by omega) hsz
        obtain ⟨b, off, e, _⟩ := hcell 0 ys[0] (by rw [List.getElem?_eq_getElem this])
        cases e
    subst hm0
    have hc0 := hnil rfl
    subst hc0
    have hy : ys = [] := List.eq_nil_of_length_eq_zero (by rw [hys]; simp)
    subst hy
    refine wpList_plain hgd fun K hK => ?_
    have hr := run_append_owned_none (P := P) W base T o.type E i0 size hT hi v n xs hown
    unfold Oper.wp execOp
    simp only [ho, resolve, invoke, builtin, Sem.run_bind, Sem.run_pure, Result.andThen_ok, List.map_toArray, List.map_cons, List.map_nil, hs, hx, hr]
    exact hK _ _ (h v W (by simpa using hown) ⟨rfl, rfl, rfl, Nat.le_refl _, fun _ _ _ => rfl⟩ (.inl rfl))
  | some a' =>
    have hcell' : ∀ j u, ys[j]? = some u → W.cell? (a'.add j) = some u := fun j u hj => by
      obtain ⟨b', off', e, hc⟩ := hcell j u hj
      injection e with e
      rw [e, addr_add]
      exact hc
    refine wpList_append_own_at _ hgd s x T ho base E i0 z size bytes hT hi hz0 hz1 hz2 hzs hsz v n xs hs hown a' m c ys hx hys hcell' h1 hm hb hbase ?_
    intro v' w' h2 h3 _ h5
    refine h v' w' h2 h3 ?_
    rcases h5 with h5 | h5
    · exact .inl h5
    · exact .inr ⟨_, h5, Nat.le_refl _⟩
def bytesC (l : List Int) : List Value := l.map (.int .u8)
theorem bytes_at {d : DV} {W : World} (h : d.At W) : ∀ j u, (bytesC d.bs)[j]? = some u → ∃ b off, d.a = some ⟨b, off, none⟩ ∧ W.cell? ⟨b, off + j, none⟩ = some u := fun j u hj => by
  unfold bytesC at hj
  rw [List.getElem?_map] at hj
  cases hb : d.bs[j]? with
  | none => rw [hb] at hj; cases hj
  | some k =>
    rw [hb] at hj
    have hlt := (List.getElem?_eq_some_iff.1 hb).1
    obtain ⟨b, off, e, hc⟩ := h j hlt
    refine ⟨b, off, e, ?_⟩
    rw [hc, ← hj, List.getD_eq_getElem?_getD, hb]
    rfl
theorem bytesC_one (l : List Int) : ∀ u ∈ bytesC l, u.oneCell' = true := fun u hu => by
  unfold bytesC at hu
  obtain ⟨k, _, rfl⟩ := List.mem_map.1 hu
  rfl
/-- A row of bytes of one's own. -/
theorem own8_row {W : World} {B n : Nat} {a : Option Addr} {c : Nat} {l : List Int} (h : W.ownsRow B 5 1 (.slice a n c) n (bytesC l)) (hl : l.length ≤ 1000000) (hn : a = none → c = 0) : Own8 W ⟨a, l, c⟩ := by
  refine ⟨hl, hn, ?_⟩
  clear hl
  rcases h.2 with ⟨e, h0⟩ | ⟨g, cap, cur, e, _, hg, _, _, _, ht⟩
  · left
    have := h.1
    rw [h0] at this
    simp [bytesC] at this
    show l = []
    exact this
  · right
    injection e with e1 e2 e3
    refine ⟨g, 0, cur, e1, hg, fun j hj => ?_⟩
    replace hj : j < l.length := hj
    show _ = some (Value.int .u8 (l.getD j 0))
    have hl : l.length = n := by have := h.1; simp [bytesC] at this; omega
    have h2 : (bytesC l)[j]? = some (.int .u8 (l.getD j 0)) := by
      unfold bytesC
      rw [List.getElem?_map, List.getD_eq_getElem?_getD, List.getElem?_eq_getElem hj]
      rfl
    rw [← ht, List.getElem?_take, if_pos (by simp; omega)] at h2
    rw [Nat.zero_add]
    simpa using h2
set_option maxRecDepth 100000 in
set_option maxHeartbeats 1000000 in
theorem cloneB_at (d : DV) (w : World) (hd : d.At w) (hm : d.bs.length ≤ 1000000) (hn : d.a = none → d.c = 0) :
    Calls Try.prog 51 #[.slice d.a d.bs.length d.c] w fun e w' => ∃ a c, e = .returned (.slice a d.bs.length c) ∧ Own8 w' ⟨a, d.bs, c⟩ ∧ (a = none → c = 0) ∧ Below w.heap.size w w' := by
  have q22 : ∀ (w : World) (a : Option Addr) (n c n' c' : Nat), (binOp .eql 43 (.slice a n c) (.slice none n' c')).run Try.prog w = .ok (.bool a.isNone) w := fun w a n c n' c' => Lib.run_eql_slice_nil w _ _ a n c n' c' Try.underlying43
  have HD := Lib.hid hd
  obtain ⟨da, dbs, dc⟩ := d
  simp only at hn hm ⊢
  obtain ⟨n, hnn⟩ : ∃ n, n = dbs.length := ⟨_, rfl⟩
  have HN := Lib.hid hnn
  cases da with
  | none =>
    have hb0 : dbs = [] := by
      cases dbs with
      | nil => rfl
      | cons x r =>
        obtain ⟨b, off, e, _⟩ := hd 0 (by simp)
        cases e
    subst hb0
    have hc0 := hn rfl
    subst hc0
    simp only [List.length_nil] at *
    clear hd hn hnn hm
    go_enter Try.func51, Try.ntmps51
    go_wp2_with fail
    go_ret
    exact ⟨none, 0, rfl, own8_nil _, fun _ => rfl, Below.refl _ _⟩
  | some a' =>
    have HM := Lib.hid hm
    have hown0 : (w.alloc (.cells #[] 5)).ownsRow w.heap.size 5 1 (.slice (some ⟨w.heap.size, 0, none⟩) 0 0) 0 [] := World.ownsRow_made w #[] 0 (Nat.le_refl _) (by simp) rfl
    have HO := Lib.hid hown0
    have HB := Lib.hid (bl_alloc (Below.refl w.heap.size w) (.cells #[] 5))
    rw [← hnn]
    clear hd hn hm hnn hown0
    go_enter Try.func51, Try.ntmps51
    go_wp2_with (at_builtin; go_loud (refine wpList_clone rfl _ _ 43 rfl w.heap.size 5 Try.underlying43 Try.infoByte rfl (by decide) rfl HO.out rfl (ys := bytesC dbs) (by simp [bytesC]; exact HN.out.symm) (fun j u hj => bytes_at (HD.out.keep HB.out) j u hj) (fun h => by cases h) (bytesC_one dbs) (by have h1 := HM.out; have h2 := HN.out; unfold maxLen; omega) (by have h1 := HM.out; have h2 := HN.out; omega) (by simp) ?_); intro v1 w4 hown1 hgrow hat1; obtain ⟨va1, vc1, rfl⟩ := own_slice hown1)
    go_ret
    rw [List.nil_append, Nat.zero_add] at hown1
    have hne : va1 ≠ none := by
      rintro rfl
      rcases hat1 with h | ⟨g, h, _⟩ <;> cases h
    refine ⟨va1, vc1, rfl, own8_row hown1 HM.out (fun h => absurd h hne), fun h => absurd h hne, ?_⟩
    exact HB.out.trans (own_below HO.out hgrow (by simp))
theorem sames_snoc {l l' : List Ent} {k : Nat} {y : Ent} (h : l'.length = k) (hs : ∀ i, i < k → Same (atE l i) (atE l' i)) (hy : Same (atE l k) y) : ∀ i, i < k + 1 → Same (atE l i) (atE (l' ++ [y]) i) := fun i hi => by
  rw [atE_app]
  split
  · next hh => exact hs i (by omega)
  · next hh =>
    have e : i = k := by omega
    subst e
    rw [h, Nat.sub_self]
    exact hy
set_option maxRecDepth 100000 in
set_option maxHeartbeats 2000000 in
theorem copied_at (a : Option Addr) (l : List Ent) (c : Nat) (w : World) (he : EA w a l) (hlm : l.length ≤ 1000000) (hd : ∀ i, i < l.length → (atE l i).d.At w ∧ (atE l i).d.bs.length ≤ 1000000 ∧ ((atE l i).d.a = none → (atE l i).d.c = 0)) :
    Calls Try.prog 42 #[.slice a l.length c] w fun e w' => ∃ v l', e = .returned v ∧ w'.ownsRow w.heap.size 45 4 v l.length (entsC l') ∧ l'.length = l.length ∧ (∀ i, i < l.length → Same (atE l i) (atE l' i)) ∧ (∀ i, i < l'.length → Own8 w' (atE l' i).d) ∧ Below w.heap.size w w' := by
  have hlm' : (l.length : Int) ≤ 1000000 := by omega
  have HE := Lib.hid he
  have HD := Lib.hid hd
  obtain ⟨N, hN⟩ : ∃ N, N = l.length := ⟨_, rfl⟩
  have HN := Lib.hid hN
  rw [← hN] at hlm' ⊢
  have hb := Below.refl w.heap.size w
  clear he hlm hN hd
  go_enter Try.func42, Try.ntmps42
  go_wp2_with fail
  go_loopg [3, 8] N (fun g v j wr => Below w.heap.size w wr ∧ ∃ k : Nat, k ≤ N ∧ g = N - k ∧ j = .int .i64 k ∧ ∃ l', wr.ownsRow w.heap.size 45 4 v k (entsC l') ∧ l'.length = k ∧ (∀ i, i < k → Same (atE l i) (atE l' i)) ∧ ∀ i, i < k → Own8 wr (atE l' i).d)
  case atStart => exact ⟨hb, 0, by omega, by omega, rfl, [], World.ownsRow_nil _ _ _ _, rfl, fun i hi => by omega, fun i hi => by omega⟩
  case round =>
    clear hb
    obtain ⟨hb, k, hk0, hgk, rfl, l', hrow, hll, hsm, hdt⟩ := hrel
    have HGK := Lib.hid hgk
    have HROW := Lib.hid hrow
    have HLL := Lib.hid hll
    have HSM := Lib.hid hsm
    have HDT := Lib.hid hdt
    obtain ⟨oa, oc, rfl⟩ := own_slice hrow
    clear hgk hrow hll hsm hdt
    by_cases hk : k < N
    · have hk1 : decide ((k : Int) < N) = true := decide_eq_true (by omega)
      have hk2 : (0 : Int) ≤ (k : Int) := by omega
      have hk4 : (k : Int) < N := by omega
      have hkl : k < l.length := by rw [← HN.out]; exact hk
      obtain ⟨b1, o1, rfl, hc⟩ := (HE.out.keep hb) k hkl
      obtain ⟨x, hx⟩ : ∃ x, x = l.getD k default := ⟨_, rfl⟩
      have HXE := Lib.hid hx
      have hdx := HD.out k hkl
      rw [show atE l k = x from hx.symm] at hdx
      have HDX := Lib.hid hdx
      simp only [← hx] at hc
      have g0 := hc 0 _ rfl
      have g1 := hc 1 _ rfl
      have g2 := hc 2 _ rfl
      have g3 := hc 3 _ rfl
      rw [Nat.add_zero] at g0
      unfold DV.v at g3
      clear hc hx hkl hdx
      go_upto_region 5 with fail
      change Code.wp _ _ _ _ (wr.alloc (.cells #[.int .i64 x.ix, .int .i64 x.tm, .int .i64 x.kd, .slice x.d.a x.d.bs.length x.d.c] 45))
      have hk5 : (wr.alloc (.cells #[.int .i64 x.ix, .int .i64 x.tm, .int .i64 x.kd, .slice x.d.a x.d.bs.length x.d.c] 45)).heap[wr.heap.size]? = some (.cells #[.int .i64 x.ix, .int .i64 x.tm, .int .i64 x.kd, .slice x.d.a x.d.bs.length x.d.c] 45) := blk_new wr _ rfl
      have HBA := Lib.hid (bl_alloc (Below.refl wr.heap.size wr) (.cells #[.int .i64 x.ix, .int .i64 x.tm, .int .i64 x.kd, .slice x.d.a x.d.bs.length x.d.c] 45))
      obtain ⟨nb, hnb⟩ : ∃ nb, nb = wr.heap.size := ⟨_, rfl⟩
      obtain ⟨V, hV⟩ : ∃ V, V = wr.alloc (.cells #[.int .i64 x.ix, .int .i64 x.tm, .int .i64 x.kd, .slice x.d.a x.d.bs.length x.d.c] 45) := ⟨_, rfl⟩
      rw [← hV] at HBA
      rw [← hV, ← hnb] at hk5 ⊢
      have HK5 := Lib.hid hk5
      have HNB := Lib.hid hnb
      have y3 := blk_cell HK5.out 3
      have hcl := cloneB_at x.d V ((HDX.out.1.keep hb).keep HBA.out) HDX.out.2.1 HDX.out.2.2
      have HCL := Lib.hid hcl
      simp only [List.getElem?_toArray, List.getElem?_cons_zero, List.getElem?_cons_succ] at y3
      clear hV hnb hk5 g0 g1 g2 g3 hcl
      go_wp2_with fail
      refine HCL.out.mono ?_
      rintro e w2 ⟨ca, cc, rfl, h8, hnl, hb2⟩
      have hk6 := blk_below HK5.out hb2 (blk_lt HK5.out)
      have z0 := blk_cell hk6 0
      have z1 := blk_cell hk6 1
      have z2 := blk_cell hk6 2
      have z3 := blk_cell hk6 3
      have zf := blk_frozen hk6
      simp only [List.getElem?_toArray, List.getElem?_cons_zero, List.getElem?_cons_succ] at z0 z1 z2 z3
      have HK6 := Lib.hid hk6
      have H8 := Lib.hid h8
      have HB2 := Lib.hid hb2
      clear y3 hk6 h8 hnl hb2
      go_upto_region 6 with fail
      change Code.wp _ _ _ _ (w2.setCell ⟨nb, 3, none⟩ (.slice ca x.d.bs.length cc))
      have hk7 : (w2.setCell ⟨nb, 3, none⟩ (.slice ca x.d.bs.length cc)).heap[nb]? = some (.cells #[.int .i64 x.ix, .int .i64 x.tm, .int .i64 x.kd, .slice ca x.d.bs.length cc] 45 (0, 0)) := blk_set HK6.out 3 _
      have hb3 := bl_set (bl_trans HBA.out HB2.out) (p := ⟨nb, 3, none⟩) (by rw [HNB.out]; exact Nat.le_refl _) (.slice ca x.d.bs.length cc)
      have h83 : Own8 (w2.setCell ⟨nb, 3, none⟩ (.slice ca x.d.bs.length cc)) ⟨ca, x.d.bs, cc⟩ := H8.out.keep (M := [nb]) ((Chg.refl _ w2).set (.inl (by simp)) _) (fun y hy => by rw [List.mem_singleton.1 hy]; exact ⟨_, _, _, HK6.out, by decide⟩)
      obtain ⟨W3, hW3⟩ : ∃ W3, W3 = w2.setCell ⟨nb, 3, none⟩ (.slice ca x.d.bs.length cc) := ⟨_, rfl⟩
      rw [← hW3] at hk7 hb3 h83 ⊢
      have HB3 := Lib.hid hb3
      have H83 := Lib.hid h83
      have HR3 := Lib.hid (own_keep HROW.out hb3)
      have hN2 : N ≤ 1000000 := by omega
      have z0 := blk_cell hk7 0
      have z1 := blk_cell hk7 1
      have z2 := blk_cell hk7 2
      have z3 := blk_cell hk7 3
      simp only [List.getElem?_toArray, List.getElem?_cons_zero, List.getElem?_cons_succ] at z0 z1 z2 z3
      clear hW3 hk7 hb3 h83 zf
      go_wp2_with (at_builtin; go_loud (refine wpList_appm rfl _ _ 33 rfl w.heap.size 45 Try.underlying33 Try.infoEntry rfl (by decide) rfl HR3.out rfl [.int .i64 x.ix, .int .i64 x.tm, .int .i64 x.kd, .slice ca x.d.bs.length cc] rfl (by simp [Value.oneCell']) (by unfold maxLen; omega) (by omega) (by have h1 := hb.size; have h2 := HB3.out.size; omega) ?_); intro v1 w4 hown1 hgrow hat1)
      replace hgrow : W3.grownBy w4 (Value.slice oa k oc).ownBlock := hgrow
      have hb4 : Below w.heap.size w w4 := (bl_trans hb HB3.out).trans (own_below HR3.out hgrow (by have h1 := hb.size; have h2 := HB3.out.size; omega))
      have hch : Chg (Value.slice oa k oc).ownBlock.toList W3 w4 := (Chg.refl _ W3).grown hgrow (fun g hg => .inl (by rw [hg]; simp))
      have hty : ∀ y, y ∈ (Value.slice oa k oc).ownBlock.toList → ∃ cs t fz, W3.heap[y]? = some (.cells cs t fz) ∧ t ≠ 5 := fun y hy => by
        obtain ⟨cu, hcu⟩ := row_blk HR3.out (g := y) (by simpa using hy)
        exact ⟨_, _, _, hcu, by decide⟩
      have HNEW := Lib.hid (show ∀ i, i < k + 1 → Own8 w4 (atE (l' ++ [⟨x.ix, x.tm, x.kd, ⟨ca, x.d.bs, cc⟩⟩]) i).d from fun i hi => by
        rw [atE_app]
        split
        · next hh => exact ((HDT.out i (by rw [← HLL.out]; exact hh)).below HB3.out).keep hch hty
        · next hh =>
          have e : i - l'.length = 0 := by have := HLL.out; omega
          rw [e]
          exact H83.out.keep hch hty)
      have HSN := Lib.hid (sames_snoc (l := l) (y := ⟨x.ix, x.tm, x.kd, ⟨ca, x.d.bs, cc⟩⟩) HLL.out HSM.out (by rw [show atE l k = x from HXE.out.symm]; exact ⟨rfl, rfl, rfl, rfl⟩))
      have HO4 := Lib.hid (show w4.ownsRow w.heap.size 45 4 v1 (k + 1) (entsC (l' ++ [⟨x.ix, x.tm, x.kd, ⟨ca, x.d.bs, cc⟩⟩])) by
        rw [show entsC (l' ++ [⟨x.ix, x.tm, x.kd, ⟨ca, x.d.bs, cc⟩⟩]) = entsC l' ++ [.int .i64 x.ix, .int .i64 x.tm, .int .i64 x.kd, .slice ca x.d.bs.length cc] by simp [entsC, entC, DV.v]]
        exact hown1)
      have HB4 := Lib.hid hb4
      clear hown1 hgrow hat1 hb4 hch hty
      go_roundg (N - (k + 1))
      case measure => have := HGK.out; omega
      case rel => exact ⟨HB4.out, k + 1, by omega, rfl, by go_num, _, HO4.out, by rw [List.length_append, HLL.out]; rfl, HSN.out, HNEW.out⟩
    · obtain rfl : k = N := by omega
      have hk1 : decide ((k : Int) < (k : Int)) = false := decide_eq_false (by omega)
      go_wp2_with fail
      go_ret
      exact ⟨_, l', rfl, HROW.out, HLL.out, HSM.out, fun i hi => HDT.out i (by rw [← HLL.out]; exact hi), hb⟩
end Go.Proofs.Yteflgempjecnpaa
