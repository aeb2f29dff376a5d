/- Rows of bytes; append of what can be read. Conditions: none. -/
import Derived.Test.YtnmmhggdjlfnfaaSmAdd
import Derived.Deep.AppendLies
import Derived.Maps.AppendAt
import Derived.Lib.AppendZerosOnto
namespace Go.Proofs.Ytnmmhggdjlfnfaa
open Go.RowKit
theorem Try.infoByte : (Try.prog.info? 5).map (fun i => (i.zero, i.size, i.bytes)) = some (some (.int .u8 0), 1, 1) := by kernel_rfl
theorem Try.infoBytes : (Try.prog.info? 25).map (fun i => (i.zero, i.size, i.bytes)) = some (some (.slice none 0 0), 1, 24) := by kernel_rfl
theorem addr_add (b off j : Nat) : (⟨b, off, none⟩ : Addr).add j = ⟨b, off + j, none⟩ := by
  unfold Addr.add
  split
  · next h => subst h; rfl
  · rfl
theorem info_parts {i : Option TypeInfo} {z : Value} {size bytes : Nat} (h : i.map (fun i => (i.zero, i.size, i.bytes)) = some (some z, size, bytes)) : ∃ i0, i = some i0 ∧ i0.zero = some z ∧ i0.size = size ∧ i0.bytes = bytes := by
  cases i with
  | none => cases h
  | some i0 => simp at h; exact ⟨i0, rfl, h.1, h.2.1, h.2.2⟩
/-- 'append(S{}, s...)': the first one has just been made, and holds nothing; s is whatever can be read. -/
theorem wpList_clone {P : Program} {W : World} {ops : Array Oper} {rest : List Oper} {o : Oper} {a : Act} {Q : Exit → Act → World → Prop} (hgd : o.guard = none) (s x : Operand) (T : TypeId)
    (ho : o.op = .call { callee := .builtin .append, args := #[s, x], argTypes := #[T, T] })
    (base : Nat) (E : TypeId) {z : Value} {size bytes : Nat} (hT : P.underlying T = some (.slice E)) (hinfo : (P.info? E).map (fun i => (i.zero, i.size, i.bytes)) = some (some z, size, bytes))
    (hzs : z.cells.size = size) (hsz : 0 < size) {v : Value} (hs : a.eval s = v) {n m c : Nat} {xs ys : List Value} (hown : W.ownsRow base E size v n xs)
    {ad : Option Addr} (hx : a.eval x = .slice ad m c) (hys : ys.length = m * size) (hcell : ∀ j u, ys[j]? = some u → ∃ b off, ad = some ⟨b, off, none⟩ ∧ W.cell? ⟨b, off + j, none⟩ = some u) (hnil : ad = none → c = 0) (h1 : ∀ u ∈ ys, u.oneCell' = true)
    (hm : n + m ≤ maxLen) (hb : (n + m) * bytes ≤ 140737488355328) (hbase : base ≤ W.heap.size)
    (h : ∀ v' w', w'.ownsRow base E size v' (n + m) (xs ++ ys) → W.grownBy w' v.ownBlock → (v'.ownBlock = v.ownBlock ∨ ∃ g, v'.ownBlock = some g ∧ W.heap.size ≤ g) → wpList P ops Q rest (a.put o.dst v') w') :
    wpList P ops Q (o :: rest) a W := by
  obtain ⟨i0, hi, hz0, hz1, hz2⟩ := info_parts hinfo
  cases ad with
  | none =>
    have hm0 : m = 0 := by
      cases m with
      | zero => rfl
      | succ m =>
        have : 0 < ys.length := by rw [hys]; exact Nat.mul_pos (by omega) hsz
        obtain ⟨b, off, e, _⟩ := hcell 0 ys[0] (by rw [List.getElem?_eq_getElem this])
        cases e
    subst hm0
    have hc0 := hnil rfl
    subst hc0
    have hy : ys = [] := List.eq_nil_of_length_eq_zero (by rw [hys]; simp)
    subst hy
    refine wpList_plain hgd fun K hK => ?_
    have hr := run_append_owned_none (P := P) W base T o.type E i0 size hT hi v n xs hown
    unfold Oper.wp execOp
    simp only [ho, resolve, invoke, builtin, Sem.run_bind, Sem.run_pure, Result.andThen_ok, List.map_toArray, List.map_cons, List.map_nil, hs, hx, hr]
    exact hK _ _ (h v W (by simpa using hown) ⟨rfl, rfl, rfl, Nat.le_refl _, fun _ _ _ => rfl⟩ (.inl rfl))
  | some a' =>
    have hcell' : ∀ j u, ys[j]? = some u → W.cell? (a'.add j) = some u := fun j u hj => by
      obtain ⟨b', off', e, hc⟩ := hcell j u hj
      injection e with e
      rw [e, addr_add]
      exact hc
    refine wpList_append_own_at _ hgd s x T ho base E i0 z size bytes hT hi hz0 hz1 hz2 hzs hsz v n xs hs hown a' m c ys hx hys hcell' h1 hm hb hbase ?_
    intro v' w' h2 h3 _ h5
    refine h v' w' h2 h3 ?_
    rcases h5 with h5 | h5
    · exact .inl h5
    · exact .inr ⟨_, h5, Nat.le_refl _⟩
theorem ownsRow_blk {w w' : World} {base : Nat} {e : TypeId} {size : Nat} {v : Value} {n : Nat} {xs : List Value} (h : w.ownsRow base e size v n xs) (hb : ∀ g, v.ownBlock = some g → w'.heap[g]? = w.heap[g]?) : w'.ownsRow base e size v n xs := by
  refine ⟨h.1, ?_⟩
  rcases h.2 with h1 | ⟨g, cap, cur, h1, h2, h3, h4⟩
  · exact Or.inl h1
  · exact Or.inr ⟨g, cap, cur, h1, h2, (hb g (by rw [h1]; rfl)).trans h3, h4⟩
theorem own_keep {w w' : World} {base : Nat} {e : TypeId} {size : Nat} {v : Value} {n : Nat} {xs : List Value} (h : w.ownsRow base e size v n xs) (k : Below w.heap.size w w') : w'.ownsRow base e size v n xs :=
  ownsRow_blk h fun g hg => k.block g (h.lt g hg).2
theorem own_slice {w : World} {base : Nat} {e : TypeId} {size : Nat} {v : Value} {n : Nat} {xs : List Value} (h : w.ownsRow base e size v n xs) : ∃ a c, v = .slice a n c := by
  rcases h.2 with ⟨rfl, h0⟩ | ⟨g, cap, cur, rfl, _⟩
  · exact ⟨none, 0, by rw [h0]⟩
  · exact ⟨_, _, rfl⟩
theorem row_blk {w : World} {B : Nat} {e : TypeId} {size : Nat} {v : Value} {n : Nat} {xs : List Value} (h : w.ownsRow B e size v n xs) {g : Nat} (hg : v.ownBlock = some g) : ∃ cur, w.heap[g]? = some (.cells cur e (0, 0)) := by
  rcases h.2 with ⟨rfl, _⟩ | ⟨g', cap, cur, rfl, _, hh, _⟩
  · cases hg
  · have : g' = g := by simpa [Value.ownBlock] using hg
    subst this
    exact ⟨cur, hh⟩
theorem row_some {w : World} {B : Nat} {e : TypeId} {size : Nat} {v : Value} {n : Nat} {xs : List Value} (h : w.ownsRow B e size v n xs) (hn : 0 < n) : ∃ g cap, v = .slice (some ⟨g, 0, none⟩) n cap ∧ B ≤ g := by
  rcases h.2 with ⟨rfl, h0⟩ | ⟨g', cap, cur, rfl, hb, _⟩
  · omega
  · exact ⟨g', cap, rfl, hb⟩
theorem row_cell {w : World} {B : Nat} {e : TypeId} {size : Nat} {n cap g : Nat} {xs : List Value} (h : w.ownsRow B e size (.slice (some ⟨g, 0, none⟩) n cap) n xs) {j : Nat} {u : Value} (hu : xs[j]? = some u) : w.cell? ⟨g, j, none⟩ = some u := by
  have := h.cells (g := g) rfl j u hu
  rw [addr_add, Nat.zero_add] at this
  exact this
theorem row_mono {w : World} {B B' : Nat} {e : TypeId} {size : Nat} {v : Value} {n : Nat} {xs : List Value} (h : w.ownsRow B e size v n xs) (hb : B' ≤ B) : w.ownsRow B' e size v n xs :=
  ⟨h.1, by
    rcases h.2 with h1 | ⟨g, cap, cur, h1, h2, h3⟩
    · exact .inl h1
    · exact .inr ⟨g, cap, cur, h1, Nat.le_trans hb h2, h3⟩⟩
def bytesV (l : List W8) : List Value := l.map fun b => .int .u8 (b.toNat : Int)
theorem bytesV_len (l : List W8) : (bytesV l).length = l.length := by simp [bytesV]
theorem bytesV_app (l r : List W8) : bytesV (l ++ r) = bytesV l ++ bytesV r := by simp [bytesV]
theorem bytesV_get {l : List W8} {j : Nat} (h : j < l.length) : (bytesV l)[j]? = some (.int .u8 ((l.getD j 0).toNat : Int)) := by
  unfold bytesV
  rw [List.getElem?_map, List.getD_eq_getElem?_getD, List.getElem?_eq_getElem h]
  rfl
theorem bytesV_one (l : List W8) : ∀ u ∈ bytesV l, u.oneCell' = true := fun u hu => by
  unfold bytesV at hu
  obtain ⟨k, _, rfl⟩ := List.mem_map.1 hu
  rfl
theorem BAt.cells {w : World} {a : Option Addr} {l : List W8} (h : BAt w a l) : ∀ j u, (bytesV l)[j]? = some u → ∃ b off, a = some ⟨b, off, none⟩ ∧ w.cell? ⟨b, off + j, none⟩ = some u := fun j u hj => by
  have hl : j < l.length := by
    rcases Nat.lt_or_ge j l.length with h | h
    · exact h
    · rw [List.getElem?_eq_none (by rw [bytesV_len]; exact h)] at hj
      cases hj
  rw [bytesV_get hl] at hj
  injection hj with hj
  obtain ⟨b, off, e, hc⟩ := h j hl
  exact ⟨b, off, e, by rw [hc, hj]⟩
theorem own_bat {w : World} {B n c : Nat} {a : Option Addr} {l : List W8} (h : w.ownsRow B 5 1 (.slice a n c) n (bytesV l)) : BAt w a l := fun j hj => by
  have hl : l.length = n := by have := h.1; rw [bytesV_len] at this; omega
  obtain ⟨g, cap, e, _⟩ := row_some h (by omega)
  injection e with e1 e2 e3
  subst e1 e3
  refine ⟨g, 0, rfl, ?_⟩
  rw [Nat.zero_add]
  exact row_cell h (bytesV_get hj)
theorem own_nil {w : World} {B n c : Nat} {e : TypeId} {size : Nat} {a : Option Addr} {xs : List Value} (h : w.ownsRow B e size (.slice a n c) n xs) : a = none → c = 0 := fun ha => by
  rcases h.2 with ⟨e, _⟩ | ⟨g, cap, cur, e, _⟩
  · injection e
  · rw [ha] at e
    cases e
set_option maxRecDepth 100000 in
set_option maxHeartbeats 1000000 in
theorem clone_at (a : Option Addr) (l : List W8) (c : Nat) (w : World) (hl : BAt w a l) (hm : l.length ≤ 1099511627776) (hn : a = none → c = 0) :
    Calls Try.prog 16 #[.slice a l.length c] w fun e w' => ∃ a' c', e = .returned (.slice a' l.length c') ∧ w'.ownsRow w.heap.size 5 1 (.slice a' l.length c') l.length (bytesV l) ∧ Below w.heap.size w w' := by
  have q22 : ∀ (w : World) (a : Option Addr) (n c n' c' : Nat), (binOp .eql 25 (.slice a n c) (.slice none n' c')).run Try.prog w = .ok (.bool a.isNone) w := fun w a n c n' c' => Lib.run_eql_slice_nil w _ _ a n c n' c' Try.underlying25
  have HL := Lib.hid hl
  obtain ⟨n, hnn⟩ : ∃ n, n = l.length := ⟨_, rfl⟩
  have HN := Lib.hid hnn
  cases a with
  | none =>
    have hb0 : l = [] := by
      cases l with
      | nil => rfl
      | cons x r =>
        obtain ⟨b, off, e, _⟩ := hl 0 (by simp)
        cases e
    subst hb0
    have hc0 := hn rfl
    subst hc0
    simp only [List.length_nil] at *
    clear hl hn hnn hm
    go_enter Try.func16, Try.ntmps16
    go_wp2_with fail
    go_ret
    exact ⟨none, 0, rfl, World.ownsRow_nil _ _ _ _, Below.refl _ _⟩
  | some a' =>
    have HM := Lib.hid hm
    have hown0 : (w.alloc (.cells #[] 5)).ownsRow w.heap.size 5 1 (.slice (some ⟨w.heap.size, 0, none⟩) 0 0) 0 [] := World.ownsRow_made w #[] 0 (Nat.le_refl _) (by simp) rfl
    have HO := Lib.hid hown0
    have HB := Lib.hid (bl_alloc (Below.refl w.heap.size w) (.cells #[] 5))
    rw [← hnn]
    clear hl hn hm hnn hown0
    go_enter Try.func16, Try.ntmps16
    go_wp2_with (at_builtin; go_loud (refine wpList_clone rfl _ _ 25 rfl w.heap.size 5 Try.underlying25 Try.infoByte rfl (by decide) rfl HO.out rfl (ys := bytesV l) (by rw [bytesV_len]; have := HN.out; omega) (fun j u hj => (HL.out.keep HB.out).cells j u hj) (fun h => by cases h) (bytesV_one l) (by have h1 := HM.out; have h2 := HN.out; unfold maxLen; omega) (by have h1 := HM.out; have h2 := HN.out; omega) (by simp) ?_); intro v1 w4 hown1 hgrow hat1; obtain ⟨va1, vc1, rfl⟩ := own_slice hown1)
    go_ret
    rw [List.nil_append, Nat.zero_add] at hown1
    exact ⟨va1, vc1, rfl, hown1, HB.out.trans (own_below HO.out hgrow (by simp))⟩
end Go.Proofs.Ytnmmhggdjlfnfaa
