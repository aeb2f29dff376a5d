/- Rows of integers: copies; nest: more, Sell, Back. Conditions: none. -/
import Derived.Test.YtmnoacjmdnmddaaDoorTcSell
import Derived.Deep.AppendLies
import Derived.Maps.AppendAt
namespace Go.Proofs.YtmnoacjmdnmddaaDoor
open Go.RowKit
theorem info_parts {i : Option TypeInfo} {z : Value} {size bytes : Nat} (h : i.map (fun i => (i.zero, i.size, i.bytes)) = some (some z, size, bytes)) : ∃ i0, i = some i0 ∧ i0.zero = some z ∧ i0.size = size ∧ i0.bytes = bytes := by
  cases i with
  | none => cases h
  | some i0 => simp at h; exact ⟨i0, rfl, h.1, h.2.1, h.2.2⟩
/-- 'append(S{}, s...)': the first one has just been made, and holds nothing; s is whatever can be read. -/
theorem wpList_clone {P : Program} {W : World} {ops : Array Oper} {rest : List Oper} {o : Oper} {a : Act} {Q : Exit → Act → World → Prop} (hgd : o.guard = none) (s x : Operand) (T : TypeId)
    (ho : o.op = .call { callee := .builtin .append, args := #[s, x], argTypes := #[T, T] })
    (base : Nat) (E : TypeId) {z : Value} {size bytes : Nat} (hT : P.underlying T = some (.slice E)) (hinfo : (P.info? E).map (fun i => (i.zero, i.size, i.bytes)) = some (some z, size, bytes))
    (hzs : z.cells.size = size) (hsz : 0 < size) {v : Value} (hs : a.eval s = v) {n m c : Nat} {xs ys : List Value} (hown : W.ownsRow base E size v n xs)
    {ad : Option Addr} (hx : a.eval x = .slice ad m c) (hys : ys.length = m * size) (hcell : ∀ j u, ys[j]? = some u → ∃ b off, ad = some ⟨b, off, none⟩ ∧ W.cell? ⟨b, off + j, none⟩ = some u) (hnil : ad = none → c = 0) (h1 : ∀ u ∈ ys, u.oneCell' = true)
    (hm : n + m ≤ maxLen) (hb : (n + m) * bytes ≤ 140737488355328) (hbase : base ≤ W.heap.size)
    (h : ∀ v' w', w'.ownsRow base E size v' (n + m) (xs ++ ys) → W.grownBy w' v.ownBlock → (v'.ownBlock = v.ownBlock ∨ ∃ g, v'.ownBlock = some g ∧ W.heap.size ≤ g) → wpList P ops Q rest (a.put o.dst v') w') :
    wpList P ops Q (o :: rest) a W := by
  obtain ⟨i0, hi, hz0, hz1, hz2⟩ := info_parts hinfo
  cases ad with
  | none =>
    have hm0 : m = 0 := by
      cases m with
      | zero => rfl
      | succ m =>
        have : 0 < ys.length := by rw [hys]; exact Nat.mul_pos (by omega) hsz
        obtain ⟨b, off, e, _⟩ := hcell 0 ys[0] (by rw [List.getElem?_eq_getElem this])
        cases e
    subst hm0
    have hc0 := hnil rfl
    subst hc0
    have hy : ys = [] := List.eq_nil_of_length_eq_zero (by rw [hys]; simp)
    subst hy
    refine wpList_plain hgd fun K hK => ?_
    have hr := run_append_owned_none (P := P) W base T o.type E i0 size hT hi v n xs hown
    unfold Oper.wp execOp
    simp only [ho, resolve, invoke, builtin, Sem.run_bind, Sem.run_pure, Result.andThen_ok, List.map_toArray, List.map_cons, List.map_nil, hs, hx, hr]
    exact hK _ _ (h v W (by simpa using hown) ⟨rfl, rfl, rfl, Nat.le_refl _, fun _ _ _ => rfl⟩ (.inl rfl))
  | some a' =>
    have hcell' : ∀ j u, ys[j]? = some u → W.cell? (a'.add j) = some u := fun j u hj => by
      obtain ⟨b', off', e, hc⟩ := hcell j u hj
      injection e with e
      rw [e, addr_add]
      exact hc
    refine wpList_append_own_at _ hgd s x T ho base E i0 z size bytes hT hi hz0 hz1 hz2 hzs hsz v n xs hs hown a' m c ys hx hys hcell' h1 hm hb hbase ?_
    intro v' w' h2 h3 _ h5
    refine h v' w' h2 h3 ?_
    rcases h5 with h5 | h5
    · exact .inl h5
    · exact .inr ⟨_, h5, Nat.le_refl _⟩
def intsV (xs : List Int) : List Value := xs.map (.int .i64)
theorem intsV_len (xs : List Int) : (intsV xs).length = xs.length := by simp [intsV]
theorem intsV_one (xs : List Int) : ∀ u ∈ intsV xs, u.oneCell' = true := fun u hu => by
  unfold intsV at hu
  obtain ⟨k, _, rfl⟩ := List.mem_map.1 hu
  rfl
theorem intsV_get {xs : List Int} {j : Nat} (h : j < xs.length) : (intsV xs)[j]? = some (.int .i64 (xs.getD j 0)) := by
  unfold intsV
  rw [List.getElem?_map, List.getD_eq_getElem?_getD, List.getElem?_eq_getElem h]
  rfl
theorem GsAt.cells {w : World} {a : Option Addr} {xs : List Int} (h : GsAt w a xs) : ∀ j u, (intsV xs)[j]? = some u → ∃ b off, a = some ⟨b, off, none⟩ ∧ w.cell? ⟨b, off + j, none⟩ = some u := fun j u hj => by
  have hl : j < xs.length := by
    rcases Nat.lt_or_ge j xs.length with h | h
    · exact h
    · rw [List.getElem?_eq_none (by rw [intsV_len]; exact h)] at hj
      cases hj
  rw [intsV_get hl] at hj
  injection hj with hj
  obtain ⟨b, off, e, hc⟩ := h j hl
  exact ⟨b, off, e, by rw [hc, hj]⟩
theorem own_gs {w : World} {B n c : Nat} {a : Option Addr} {xs : List Int} (h : w.ownsRow B 3 1 (.slice a n c) n (intsV xs)) : GsAt w a xs := fun j hj => by
  have hl : xs.length = n := by have := h.1; rw [intsV_len] at this; omega
  obtain ⟨g, cap, e, _⟩ := row_some h (by omega)
  injection e with e1 e2 e3
  subst e1 e3
  refine ⟨g, 0, rfl, ?_⟩
  rw [Nat.zero_add]
  exact row_cell h (intsV_get hj)
theorem own_nil {w : World} {B n c : Nat} {e : TypeId} {size : Nat} {a : Option Addr} {xs : List Value} (h : w.ownsRow B e size (.slice a n c) n xs) : a = none → c = 0 := fun ha => by
  rcases h.2 with ⟨e, _⟩ | ⟨g, cap, cur, e, _⟩
  · injection e
  · rw [ha] at e
    cases e
set_option maxRecDepth 100000 in
set_option maxHeartbeats 1000000 in
theorem cloneI_at (a : Option Addr) (l : List Int) (c : Nat) (w : World) (hl : GsAt w a l) (hm : l.length ≤ 1099511627776) (hn : a = none → c = 0) :
    Calls Tryd.prog 19 #[.slice a l.length c] w fun e w' => ∃ a' c', e = .returned (.slice a' l.length c') ∧ w'.ownsRow w.heap.size 3 1 (.slice a' l.length c') l.length (intsV l) ∧ Below w.heap.size w w' ∧ (a' = none → a = none) := by
  have q22 : ∀ (w : World) (a : Option Addr) (n c n' c' : Nat), (binOp .eql 22 (.slice a n c) (.slice none n' c')).run Tryd.prog w = .ok (.bool a.isNone) w := fun w a n c n' c' => Lib.run_eql_slice_nil w _ _ a n c n' c' Tryd.underlying22
  have HL := Lib.hid hl
  obtain ⟨n, hnn⟩ : ∃ n, n = l.length := ⟨_, rfl⟩
  have HN := Lib.hid hnn
  cases a with
  | none =>
    have hb0 : l = [] := by
      cases l with
      | nil => rfl
      | cons x r =>
        obtain ⟨b, off, e, _⟩ := hl 0 (by simp)
        cases e
    subst hb0
    have hc0 := hn rfl
    subst hc0
    simp only [List.length_nil] at *
    clear hl hn hnn hm
    go_enter Tryd.func19, Tryd.ntmps19
    go_wp2_with fail
    go_ret
    exact ⟨none, 0, rfl, World.ownsRow_nil _ _ _ _, Below.refl _ _, by simp⟩
  | some a' =>
    have HM := Lib.hid hm
    have hown0 : (w.alloc (.cells #[] 3)).ownsRow w.heap.size 3 1 (.slice (some ⟨w.heap.size, 0, none⟩) 0 0) 0 [] := World.ownsRow_made w #[] 0 (Nat.le_refl _) (by simp) rfl
    have HO := Lib.hid hown0
    have HB := Lib.hid (bl_alloc (Below.refl w.heap.size w) (.cells #[] 3))
    rw [← hnn]
    clear hl hn hm hnn hown0
    go_enter Tryd.func19, Tryd.ntmps19
    go_wp2_with (at_builtin; go_loud (refine wpList_clone rfl _ _ 22 rfl w.heap.size 3 Tryd.underlying22 Tryd.infoInt rfl (by decide) rfl HO.out rfl (ys := intsV l) (by rw [intsV_len]; have := HN.out; omega) (fun j u hj => (HL.out.keep HB.out).cells j u hj) (fun h => by cases h) (intsV_one l) (by have h1 := HM.out; have h2 := HN.out; unfold maxLen; omega) (by have h1 := HM.out; have h2 := HN.out; omega) (by simp) ?_); intro v1 w4 hown1 hgrow hat1; obtain ⟨va1, vc1, rfl⟩ := own_slice hown1)
    go_ret
    rw [List.nil_append, Nat.zero_add] at hown1
    have hne : va1 ≠ none := by
      rintro rfl
      rcases hat1 with h | ⟨g, h, _⟩ <;> cases h
    exact ⟨va1, vc1, rfl, hown1, HB.out.trans (own_below HO.out hgrow (by simp)), fun h => absurd h hne⟩
set_option maxRecDepth 100000 in
set_option maxHeartbeats 1000000 in
theorem more_at (a : Option Addr) (ss : List Int) (sc : Nat) (c : Nat) (m : Int) (w : World) (hs : GsAt w a ss) (hl : ss.length ≤ 8) (hc : c < ss.length) (hv : 0 ≤ ss.getD c 0 ∧ ss.getD c 0 ≤ 10000) (hm : -10000 ≤ m ∧ m ≤ 10000) :
    Calls Tryd.prog 40 #[.slice a ss.length sc, .int .i64 c, .int .i64 m] w fun e w' => ∃ a' c', e = .returned (.slice a' ss.length c') ∧ w'.ownsRow w.heap.size 3 1 (.slice a' ss.length c') ss.length (intsV (moreL ss c m)) ∧ Below w.heap.size w w' := by
  have hn : a = none → sc = 0 := fun h => by
    obtain ⟨b, o, e, _⟩ := hs.form (by omega)
    rw [h] at e
    cases e
  have HCL := Lib.hid (cloneI_at a ss sc w hs (by omega) hn)
  obtain ⟨n, hnn⟩ : ∃ n, n = ss.length := ⟨_, rfl⟩
  have HN := Lib.hid hnn
  obtain ⟨x, hx⟩ : ∃ x, x = ss.getD c 0 := ⟨_, rfl⟩
  rw [← hx] at hv
  rw [← hnn] at HCL hl hc ⊢
  have HX := Lib.hid hx
  have hx0 := hv.1
  have hx1 := hv.2
  have hm0 := hm.1
  have hm1 := hm.2
  have hc0 : (0 : Int) ≤ (c : Int) := by omega
  have hc1 : (c : Int) < n := by omega
  clear hs hn hnn hx hv hm
  go_enter Tryd.func40, Tryd.ntmps40
  go_wp2_with fail
  refine HCL.out.mono ?_
  rintro e w1 ⟨a', c', rfl, hr, hb, _⟩
  obtain ⟨g, cap, e, hg⟩ := row_some hr (by omega)
  injection e with e1 e2 e3
  subst e1 e3
  have y0 : w1.cell? ⟨g, c, none⟩ = some (.int .i64 x) := by
    have := row_cell hr (intsV_get (by rw [← HN.out]; exact hc))
    rw [← HX.out] at this
    exact this
  have yf : w1.frozen? ⟨g, c, none⟩ = false := hr.frozenAt c
  have HR := Lib.hid hr
  have HB := Lib.hid hb
  have HG := Lib.hid hg
  clear hr hb hg HCL
  go_wp2_with fail
  go_ret
  have hst := HR.out.stored c (.int .i64 (x + m))
  refine ⟨_, _, rfl, ?_, HB.out.setCell (p := ⟨g, c, none⟩) HG.out _⟩
  have he : intsV (moreL ss c m) = (intsV ss).set c (.int .i64 (x + m)) := by
    unfold intsV moreL
    rw [List.map_set, HX.out]
  rw [he]
  exact hst.1
set_option maxRecDepth 100000 in
set_option maxHeartbeats 1000000 in
theorem sell_at {ls ss : List Int} (h : NestOk ls ss) (la sa : Option Addr) (lc sc : Nat) (c m : Int) {w : World} (hl : GsAt w la ls) (hs : GsAt w sa ss) :
    Calls Tryd.prog 24 #[.slice la ls.length lc, .slice sa ls.length sc, .int .i64 c, .int .i64 m] w fun e w' => Below w.heap.size w w' ∧
      ((∃ k : Nat, (k : Int) = c ∧ k < ls.length ∧ 1 ≤ m ∧ m ≤ leastL ls ss c ∧ ∃ a' c', e = .returned (.tuple #[.slice a' ls.length c', .int .i64 0]) ∧ w'.ownsRow w.heap.size 3 1 (.slice a' ls.length c') ls.length (intsV (moreL ss k m))) ∨
       (∃ r, r ≠ 0 ∧ e = .returned (.tuple #[.slice none 0 0, .int .i64 r]))) := by
  have hle := left_at h la sa lc sc c hl hs
  obtain ⟨n, hnn⟩ : ∃ n, n = ls.length := ⟨_, rfl⟩
  have HN := Lib.hid hnn
  rw [← hnn] at hle ⊢
  obtain ⟨l1, l2⟩ : ∃ p : Int × Int, p = leftR ls ss c := ⟨_, rfl⟩
  rw [← l2] at hle
  obtain ⟨le, er⟩ := l1
  have HLR := Lib.hid l2
  have HLE := Lib.hid hle
  have H := Lib.hid h
  have HS := Lib.hid hs
  clear hle l2 h hl hs hnn
  simp only at HLE
  by_cases he : er = 0
  case neg =>
    have d0 : (er != 0) = true := by simp [he]
    have d0' : (er == 0) = false := by simp [he]
    go_enter Tryd.func24, Tryd.ntmps24
    go_wp2_with fail
    refine HLE.out.mono ?_
    rintro e w1 ⟨rfl, hb⟩
    go_wp2_with fail
    go_ret2
    exact ⟨hb, .inr ⟨1, by omega, rfl⟩⟩
  subst he
  have hlr : (0 ≤ c ∧ c < ls.length) ∧ le = leastL ls ss c := by
    have h1 := HLR.out
    unfold leftR at h1
    split at h1
    · next hc => injection h1 with h1; exact ⟨hc, h1⟩
    · injection h1 with _ h2; omega
  obtain ⟨⟨hc0, hc1⟩, hle⟩ := hlr
  have HLL := Lib.hid hle
  have hlr := leastD_rng H.out c ls.length (Nat.le_refl _)
  have hle0 : 0 ≤ le := by rw [hle]; exact hlr.1
  have hle1 : le ≤ 10000 := by rw [hle]; exact hlr.2
  clear hlr hle
  by_cases h1 : m < 1
  · have d1 : decide (m < 1) = true := decide_eq_true h1
    go_enter Tryd.func24, Tryd.ntmps24
    go_wp2_with fail
    refine HLE.out.mono ?_
    rintro e w1 ⟨rfl, hb⟩
    go_wp2_with fail
    go_ret2
    exact ⟨hb, .inr ⟨1, by omega, rfl⟩⟩
  have d1 : decide (m < 1) = false := decide_eq_false h1
  by_cases h2 : 10000 < m
  · have d2 : decide (10000 < m) = true := decide_eq_true h2
    go_enter Tryd.func24, Tryd.ntmps24
    go_wp2_with fail
    refine HLE.out.mono ?_
    rintro e w1 ⟨rfl, hb⟩
    go_wp2_with fail
    go_ret2
    exact ⟨hb, .inr ⟨1, by omega, rfl⟩⟩
  have d2 : decide (10000 < m) = false := decide_eq_false h2
  by_cases h3 : le < m
  · have d3 : decide (le < m) = true := decide_eq_true h3
    go_enter Tryd.func24, Tryd.ntmps24
    go_wp2_with fail
    refine HLE.out.mono ?_
    rintro e w1 ⟨rfl, hb⟩
    go_wp2_with fail
    go_ret2
    exact ⟨hb, .inr ⟨3, by omega, rfl⟩⟩
  have d3 : decide (le < m) = false := decide_eq_false h3
  obtain ⟨k, rfl⟩ : ∃ k : Nat, c = (k : Int) := ⟨c.toNat, by omega⟩
  have hkn : k < ls.length := by omega
  have HMO := Lib.hid (show ∀ V, Below w.heap.size w V → Calls Tryd.prog 40 #[.slice sa n sc, .int .i64 k, .int .i64 m] V fun e w' => ∃ a' c', e = .returned (.slice a' n c') ∧ w'.ownsRow V.heap.size 3 1 (.slice a' n c') n (intsV (moreL ss k m)) ∧ Below V.heap.size V w' from fun V hV => by
    have := more_at sa ss sc k m V (HS.out.keep hV) (by rw [H.out.len]; exact H.out.n8) (by rw [H.out.len]; exact hkn) (H.out.sw k hkn) (by omega)
    rw [H.out.len, ← HN.out] at this
    exact this)
  have HK := Lib.hid hkn
  have HM1 := Lib.hid (show 1 ≤ m by omega)
  have HM2 := Lib.hid (show m ≤ le by omega)
  clear h1 h2 h3 hkn
  go_enter Tryd.func24, Tryd.ntmps24
  go_wp2_with fail
  refine HLE.out.mono ?_
  rintro e w1 ⟨rfl, hb⟩
  go_wp2_with fail
  refine (HMO.out _ hb).mono ?_
  rintro e w2 ⟨a', c', rfl, hr, hb2⟩
  have HR := Lib.hid (show w2.ownsRow w.heap.size 3 1 (.slice a' n c') n (intsV (moreL ss k m)) from ⟨hr.1, by
    rcases hr.2 with h1 | ⟨g, cap, cur, h1, h2, h3⟩
    · exact .inl h1
    · exact .inr ⟨g, cap, cur, h1, Nat.le_trans hb.size h2, h3⟩⟩)
  have HB2 := Lib.hid (bl_trans hb hb2)
  clear hb hr hb2 HLE HMO
  go_wp2_with fail
  go_ret2
  exact ⟨HB2.out, .inl ⟨k, rfl, by rw [HN.out]; exact HK.out, HM1.out, by rw [← HLL.out]; exact HM2.out, a', c', rfl, HR.out⟩⟩
end Go.Proofs.YtmnoacjmdnmddaaDoor
