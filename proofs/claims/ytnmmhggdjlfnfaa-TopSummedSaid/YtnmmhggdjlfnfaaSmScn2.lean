/- record: Scan. Conditions: none. -/
import Derived.Test.YtnmmhggdjlfnfaaSmScan
import Derived.Test.YtnmmhggdjlfnfaaSmIn
namespace Go.Proofs.Ytnmmhggdjlfnfaa
open Go.RowKit Go.Shelf
attribute [local go_sem] Oper.semAt_some
/-! Worlds that differ in some blocks, and new ones. -/
structure Chg (L : List Nat) (w w' : World) : Prop where
  os : w'.os = w.os
  tape : w'.tape = w.tape
  output : w'.output = w.output
  size : w.heap.size ≤ w'.heap.size
  block : ∀ k, k < w.heap.size → ¬ k ∈ L → w'.heap[k]? = w.heap[k]?
theorem Chg.refl (L : List Nat) (w : World) : Chg L w w := ⟨rfl, rfl, rfl, Nat.le_refl _, fun _ _ _ => rfl⟩
theorem Chg.trans' {L L' : List Nat} {a b c : World} (h : Chg L a b) (k : Chg L' b c) (hL : ∀ x, x ∈ L' → x ∈ L ∨ a.heap.size ≤ x) : Chg L a c :=
  ⟨k.os.trans h.os, k.tape.trans h.tape, k.output.trans h.output, Nat.le_trans h.size k.size, fun i hi hn => (k.block i (Nat.lt_of_lt_of_le hi h.size) (fun hm => by
    rcases hL i hm with h1 | h1
    · exact hn h1
    · omega)).trans (h.block i hi hn)⟩
theorem Chg.trans {L : List Nat} {a b c : World} (h : Chg L a b) (k : Chg L b c) : Chg L a c := h.trans' k fun x hx => .inl hx
theorem Chg.of_below {L : List Nat} {w w' : World} (h : Below w.heap.size w w') : Chg L w w' := ⟨h.os, h.tape, h.output, h.size, fun k hk _ => h.block k hk⟩
theorem Chg.to_below {w w' : World} {B : Nat} {L : List Nat} (h : Chg L w w') (hB : B ≤ w.heap.size) (hL : ∀ x, x ∈ L → B ≤ x) : Below B w w' :=
  ⟨h.os, h.tape, h.output, h.size, fun k hk => h.block k (by omega) (fun hm => by have := hL k hm; omega)⟩
theorem Chg.set {L : List Nat} {w w1 : World} (h : Chg L w w1) {p : Addr} (hp : p.block ∈ L ∨ w.heap.size ≤ p.block) (u : Value) : Chg L w (w1.setCell p u) :=
  h.trans' (L' := [p.block]) ⟨rfl, rfl, rfl, by simp [World.setCell], fun k _ hk => Below.heap_setCell _ _ _ _ (fun e => hk (by simp [e]))⟩ (fun x hx => by
    have : x = p.block := by simpa using hx
    subst this; exact hp)
theorem Chg.below {L : List Nat} {w w1 w2 : World} (h : Chg L w w1) (k : Below w1.heap.size w1 w2) : Chg L w w2 := h.trans (.of_below k)
theorem Chg.blk {L : List Nat} {w w' : World} (h : Chg L w w') {g : Nat} {o : Obj} (hg : w.heap[g]? = some o) (hn : ¬ g ∈ L) : w'.heap[g]? = some o := (h.block g (blk_lt hg) hn).trans hg
theorem Chg.drew {L : List Nat} {w w1 : World} (h : Chg L w w1) : Chg L w w1.drew := ⟨h.os, h.tape, h.output, h.size, h.block⟩
theorem Chg.grown {L : List Nat} {w w1 w2 : World} {row : Option Nat} (h : Chg L w w1) (hg : w1.grownBy w2 row) (hr : ∀ k, row = some k → k ∈ L ∨ w.heap.size ≤ k) : Chg L w w2 :=
  h.trans' (L' := row.toList) ⟨hg.os, hg.tape, hg.output, hg.size, fun k hk hn => hg.block k hk (fun e => hn (by rw [← e]; simp))⟩ (fun x hx => hr x (by simpa using hx))
def bsC (bs : List BV) : List Value := bs.map fun x => .slice x.a x.l.length x.c
theorem bsC_len (bs : List BV) : (bsC bs).length = bs.length := by simp [bsC]
theorem row_wb {w : World} {B wb : Nat} {e : TypeId} {size : Nat} {v : Value} {n : Nat} {xs : List Value} {cs : Array Value} {t : TypeId} {fz : Nat × Nat} (h : w.ownsRow B e size v n xs) (hb : w.heap[wb]? = some (.cells cs t fz)) (he : t ≠ e) : v.ownBlock ≠ some wb := by
  intro hg
  obtain ⟨c, hc⟩ := row_blk h hg
  rw [hb] at hc
  injection hc with hc
  injection hc with _ h2 _
  exact he h2
/-- Bytes of one's own, from block B on, that nothing changes any more. -/
def OwnB (B : Nat) (W : World) (x : BV) : Prop := (x.a = none → x.c = 0) ∧ (x.l = [] ∨ ∃ b cs, x.a = some ⟨b, 0, none⟩ ∧ B ≤ b ∧ W.heap[b]? = some (.cells cs 5 (0, 0)) ∧ ∀ j, j < x.l.length → cs[j]? = some (.int .u8 ((x.l.getD j 0).toNat : Int)))
theorem OwnB.at_ {B : Nat} {W : World} {x : BV} (h : OwnB B W x) : x.At W := ⟨fun j hj => by
  rcases h.2 with h | ⟨b, cs, e, _, hb, hc⟩
  · rw [h] at hj; simp at hj
  · exact ⟨b, 0, e, by rw [Nat.zero_add, blk_cell hb]; exact hc j hj⟩, h.1⟩
theorem OwnB.of_row {B B' : Nat} {W : World} {a : Option Addr} {n c : Nat} {l : List W8} (h : W.ownsRow B' 5 1 (.slice a n c) n (bytesV l)) (hb : B ≤ B') : OwnB B W ⟨a, l, c⟩ := by
  refine ⟨own_nil h, ?_⟩
  have hl : l.length = n := by have := h.1; rw [bytesV_len] at this; omega
  rcases h.2 with ⟨_, h0⟩ | ⟨g, cap, cur, e, hg, hh, _, _, _, ht⟩
  · left
    exact List.eq_nil_of_length_eq_zero (hl.trans h0)
  · right
    injection e with e1 e2 e3
    refine ⟨g, cur, e1, Nat.le_trans hb hg, hh, fun j hj => ?_⟩
    replace hj : j < l.length := hj
    have h2 := bytesV_get hj
    rw [← ht, List.getElem?_take, if_pos (by omega)] at h2
    simpa using h2
theorem OwnB.move {B : Nat} {W V : World} {x : BV} (h : OwnB B W x) (hm : ∀ b cs, B ≤ b → W.heap[b]? = some (.cells cs 5 (0, 0)) → V.heap[b]? = W.heap[b]?) : OwnB B V x :=
  ⟨h.1, by
    rcases h.2 with h | ⟨b, cs, e, hB, hb, hc⟩
    · exact .inl h
    · exact .inr ⟨b, cs, e, hB, (hm b cs hB hb).trans hb, hc⟩⟩
theorem offR_succ (ls : List (List W8)) {k : Nat} (h : k < ls.length) : offR ls (k + 1) = offR ls k + (8 + (atL ls k).length) := by
  have h1 := offR_len ls k
  have h2 := offR_len ls (k + 1)
  have h3 := catR_at ls h
  omega
theorem catR_len8 : ∀ ls : List (List W8), ls.length * 8 ≤ (catR ls).length
  | [] => by simp
  | l :: ls => by
    have := catR_len8 ls
    rw [catR_cons]
    simp [wordB]
    omega
/-- Between two rounds. -/
def InvS (n0 : Nat) (w : World) (ls : List (List W8)) (k : Nat) (W : World) : Prop :=
  (Below n0 w W ∧ n0 + 3 ≤ W.heap.size) ∧ ∃ v bs, W.heap[n0]? = some (.cells #[v] 22 (0, 0)) ∧ W.heap[n0 + 1]? = some (.cells #[.int .i64 (offR ls k)] 3 (0, 0)) ∧ W.ownsRow (n0 + 3) 25 1 v k (bsC bs) ∧ bs.length = k ∧
    (∀ j, j < k → (atB bs j).l = atL ls j) ∧ ∀ j, j < k → OwnB (n0 + 3) W (atB bs j)
theorem InvS.move {n0 : Nat} {w : World} {ls : List (List W8)} {k : Nat} {A B : World} (h : InvS n0 w ls k A) (hb : Below n0 w B) (hs : A.heap.size ≤ B.heap.size) (hm : ∀ g cs t fz, A.heap[g]? = some (.cells cs t fz) → g ≠ n0 + 2 → B.heap[g]? = A.heap[g]?) : InvS n0 w ls k B := by
  obtain ⟨h0, v, bs, h1, h2, h3, h4, h5, h6⟩ := h
  refine ⟨⟨hb, Nat.le_trans h0.2 hs⟩, v, bs, (hm _ _ _ _ h1 (by omega)).trans h1, (hm _ _ _ _ h2 (by omega)).trans h2, ownsRow_blk h3 (fun g hg => ?_), h4, h5, fun j hj => (h6 j hj).move (fun b cs hB hb => hm _ _ _ _ hb (by omega))⟩
  obtain ⟨cur, hc⟩ := row_blk h3 hg
  exact hm _ _ _ _ hc (by have := (h3.lt g hg).1; omega)
theorem body_bat {ls : List (List W8)} {b0 o0 c k : Nat} {w : World} (h : BAt w (some ⟨b0, o0, none⟩) (catR ls)) (hk : k < ls.length) (hc : (catR ls).length ≤ c) :
    ∃ X Y, bodyV b0 o0 c ls k = .slice (some ⟨b0, X, none⟩) (atL ls k).length Y ∧ BAt w (some ⟨b0, X, none⟩) (atL ls k) := by
  have h1 := offR_len ls k
  have h2 := catR_at ls hk
  refine ⟨_, _, rfl, ?_⟩
  split
  · next h8 =>
    have : (atL ls k).length = 0 := by omega
    rw [List.eq_nil_of_length_eq_zero this]
    exact BAt.nil _ _
  · have hb := (h.drop (offR ls k)).drop 8
    rw [catR_drop, drop_at ls hk, catR_cons] at hb
    have := hb.take (atL ls k).length
    rw [show List.drop 8 (wordB (lenW (atL ls k)) ++ (wordB (checkW (atL ls k)) ++ (atL ls k ++ catR (List.drop (k + 1) ls)))) = atL ls k ++ catR (List.drop (k + 1) ls) from rfl, List.take_left] at this
    exact this
set_option maxRecDepth 100000 in
set_option maxHeartbeats 4000000 in
theorem scan_at (ls : List (List W8)) (a : Option Addr) (b0 o0 c : Nat) (w : World) (ha : 0 < ls.length → a = some ⟨b0, o0, none⟩ ∧ BAt w a (catR ls)) (hb0 : b0 < w.heap.size) (hc : (catR ls).length ≤ c) (hc9 : c ≤ 9223372036854775807) (hcl : (catR ls).length ≤ 1099511627776) (hl : ∀ j, j < ls.length → (atL ls j).length ≤ 65536) :
    Calls Try.prog 7 #[.slice a (catR ls).length c] w fun e w' => ∃ a' c' bs, e = .returned (.tuple #[.slice a' ls.length c', .int .i64 ((catR ls).length : Nat)]) ∧ SAt w' a' bs ∧ bs.length = ls.length ∧ (∀ j, j < ls.length → (atB bs j).l = atL ls j) ∧ Below w.heap.size w w' := by
  refine (callsIn_wide (n := 4)).1 ?_
  obtain ⟨M, hM⟩ : ∃ M, M = (catR ls).length := ⟨_, rfl⟩
  rw [← hM]
  have HM := Lib.hid hM
  have HA := Lib.hid ha
  have HC := Lib.hid hc
  have HL := Lib.hid hl
  have HCL9 := Lib.hid hcl
  clear ha hc hl hM hcl
  refine callsIn_of_wp_marks Try.func7 rfl trivial ?_ rfl
  simp only [Try.ntmps7, List.size_toArray, List.length_cons, List.length_nil, Nat.reduceAdd, Nat.reduceSub, Array.replicate_succ, Array.replicate_zero, List.push_toArray, List.append_toArray, List.nil_append, List.cons_append]
  gi_wp2_with (refine ⟨trivial, ?_⟩; refine (callsIn_wide.2 (records_at _ _ _ _)).mono ?_; rintro e w1 ⟨rfl, rfl⟩)
  obtain ⟨n0, hn0⟩ : ∃ n0, n0 = w.heap.size := ⟨_, rfl⟩
  have hk1 : (((w.alloc (.cells #[.slice none 0 0] 22)).alloc (.cells #[.int .i64 0] 3)).alloc (.cells #[.slice a M c] 25)).heap[n0]? = some (.cells #[.slice none 0 0] 22 (0, 0)) := blk_alloc (blk_alloc (blk_new w _ hn0) _) _
  have hk2 : (((w.alloc (.cells #[.slice none 0 0] 22)).alloc (.cells #[.int .i64 0] 3)).alloc (.cells #[.slice a M c] 25)).heap[n0 + 1]? = some (.cells #[.int .i64 0] 3 (0, 0)) := blk_alloc (blk_new _ _ (by rw [hn0]; simp)) _
  have hk3 : (((w.alloc (.cells #[.slice none 0 0] 22)).alloc (.cells #[.int .i64 0] 3)).alloc (.cells #[.slice a M c] 25)).heap[n0 + 2]? = some (.cells #[.slice a M c] 25 (0, 0)) := blk_new _ _ (by rw [hn0]; simp)
  have hsz : (((w.alloc (.cells #[.slice none 0 0] 22)).alloc (.cells #[.int .i64 0] 3)).alloc (.cells #[.slice a M c] 25)).heap.size = n0 + 3 := by rw [hn0]; simp
  have hbl : Below n0 w (((w.alloc (.cells #[.slice none 0 0] 22)).alloc (.cells #[.int .i64 0] 3)).alloc (.cells #[.slice a M c] 25)) := by rw [hn0]; exact bl_alloc (bl_alloc (bl_alloc (Below.refl _ w) _) _) _
  rw [show w.heap.size + 1 + 1 = n0 + 2 by rw [hn0], ← hn0]
  rw [← hn0] at hb0
  obtain ⟨W4, hW4⟩ : ∃ W4, W4 = (((w.alloc (.cells #[.slice none 0 0] 22)).alloc (.cells #[.int .i64 0] 3)).alloc (.cells #[.slice a M c] 25)) := ⟨_, rfl⟩
  rw [← hW4] at hk1 hk2 hk3 hsz hbl ⊢
  have HN0 := Lib.hid hn0
  have HSZ := Lib.hid hsz
  have HBL := Lib.hid hbl
  have HK1 := Lib.hid hk1
  have HK2 := Lib.hid hk2
  have HK3 := Lib.hid hk3
  clear hW4 hn0 hk1 hk2 hk3 hsz hbl
  have hit := records1_iter ls a b0 o0 c n0 (n0 + 2) W4 (fun h => ⟨(HA.out h).1, (HA.out h).2.keep (by rw [← HN0.out]; exact HBL.out)⟩) hb0 (by omega) (by rw [← HM.out]; exact HK3.out) HC.out hc9 HCL9.out HL.out
  refine range_law (n := 4) (gf := 19) (lb := #[.pointer (some ⟨n0 + 2, 0, none⟩)]) rfl (enters_of Try.func19 (by kernel_rfl) rfl) hit (by rw [HSZ.out]; omega) ?kt ?kb (fun _ => rfl) (InvS n0 w ls) ?hI ?hIo ?h0
    (fun k => { tmps := #[.slice a M c, undef, .slice none 0 0, .int .i64 0, .pointer (some ⟨n0, 0, none⟩), .pointer (some ⟨n0 + 1, 0, none⟩), bodyV b0 o0 c ls k, .slice a M c, .func (.func 19) #[] #[.pointer (some ⟨n0 + 2, 0, none⟩)], bodyV b0 o0 c ls k, undef, undef, undef, undef, undef, undef, undef, undef, undef, undef, undef, undef], defers := [] }) ?assign ?body ?done
  case kt => exact fun h k => ⟨h.1.trans k.1, k.2.trans h.2⟩
  case kb => 
    intro V l o o' hl ho hcc
    rw [HSZ.out] at hl
    exact ⟨(Below.refl n0 V).grown (grownBy_putObj' V l o') (by have := (Array.getElem?_eq_some_iff.1 ho).1; omega) (fun k e => by cases e; omega), World.putObj_heap_other (by omega)⟩
  case hI =>
    intro k A B h hg
    refine h.move (h.1.1.grown hg (by have := h.1.2; omega) (fun k e => by cases e; omega)) hg.size (fun g cs t fz hgc hne => hg.block g (Array.getElem?_eq_some_iff.1 hgc).1 (fun e => hne (by cases e; rfl)))
  case hIo =>
    intro k A l o o' h hl ho hcc
    rw [HSZ.out] at hl
    refine h.move (h.1.1.grown (grownBy_putObj' A l o') (by have := h.1.2; omega) (fun k e => by cases e; omega)) (grownBy_putObj' A l o').size (fun g cs t fz hgc _ => World.putObj_heap_other (fun e => ?_))
    subst e
    rw [ho] at hgc
    cases hgc
    cases hcc
  case h0 => exact ⟨⟨HBL.out, by rw [HSZ.out]; exact Nat.le_refl _⟩, .slice none 0 0, [], HK1.out, HK2.out, World.ownsRow_nil _ _ _ _, rfl, fun j hj => by omega, fun j hj => by omega⟩
  case assign =>
    intro l k W K hK
    gi_wp2
    exact hK
  case body =>
    intro l k W hI hk
    obtain ⟨⟨hbl, hW3⟩, v, bs, h1, h2, h3, h4, h5, h6⟩ := hI
    obtain ⟨X, Y, hbv, hbt⟩ := body_bat (o0 := o0) (b0 := b0) ((HA.out (by omega)).1 ▸ (HA.out (by omega)).2) hk HC.out
    have HBT := Lib.hid hbt
    have HBL2 := Lib.hid hbl
    have HW3 := Lib.hid (show n0 + 3 ≤ W.heap.size from hW3)
    have HV1 := Lib.hid h1
    have HV2 := Lib.hid h2
    obtain ⟨va, vc, rfl⟩ := own_slice h3
    have HR3 := Lib.hid h3
    have H4 := Lib.hid h4
    have H5 := Lib.hid h5
    have H6 := Lib.hid h6
    rw [hbv]
    obtain ⟨x, hx⟩ : ∃ x, x = atL ls k := ⟨_, rfl⟩
    rw [← hx] at HBT ⊢
    have hx9 : x.length ≤ 65536 := by rw [hx]; exact HL.out k hk
    obtain ⟨m, hm⟩ : ∃ m, m = x.length := ⟨_, rfl⟩
    rw [← hm] at hx9 ⊢
    have HX := Lib.hid hx
    have HM2 := Lib.hid hm
    have HCL := Lib.hid (show ∀ V, Below W.heap.size W V → Calls Try.prog 16 #[.slice (some ⟨b0, X, none⟩) m Y] V fun e V' => ∃ a' c', e = .returned (.slice a' m c') ∧ V'.ownsRow V.heap.size 5 1 (.slice a' m c') m (bytesV x) ∧ Below V.heap.size V V' from fun V hV => by
      have hb9 : BAt V (some ⟨b0, X, none⟩) x := (HBT.out.keepN (N := n0) hb0 HBL2.out).keepN (N := n0) hb0 (hV.mono (by have := HBL2.out.size; have := HN0.out; omega))
      have := clone_at (some ⟨b0, X, none⟩) x Y V hb9 (by omega) (fun h => by cases h)
      rw [← hm] at this
      exact this)
    have hbd : Below W.heap.size W W.drew := (Below.refl _ W).drew
    have g0 : ∀ V, Below W.heap.size W V → V.cell? ⟨n0, 0, none⟩ = some (.slice va k vc) := fun V hV => cell_keep hV (blk_cell HV1.out 0)
    have hk9 : k ≤ 137438953472 := by
      have h8 := catR_len8 ls
      have := HCL9.out
      omega
    clear h1 h2 h3 h4 h5 h6 hbv hbt hx hm hbl hit hW3
    gi_wp2
    refine wpIn_region_last 5 (fun V => V.cell? ⟨n0, 0, none⟩ = some (.slice va k vc)) (fun i => i == 2 || i == 3 || i == 4) (by kernel_rfl) (by rintro ⟨_, _, h⟩; exact h) (by kernel_rfl) (by rfl) (by kernel_rfl) (by kernel_rfl) (by exact blk_cell HV1.out 0) ?_
    simp only [List.take_succ_cons, List.take_zero]
    intro hne hx
    have gC : ∀ V : World, V.cell? ⟨n0, 0, none⟩ = some (.slice va k vc) → V.cell? ⟨n0, 0, none⟩ = some (.slice va k vc) := fun V h => h
    change wpStg _ _ _ _ _ _ _ _ W.drew
    obtain ⟨W0, hW0⟩ : ∃ W0, W0 = W.drew := ⟨_, rfl⟩
    rw [← hW0] at hbd ⊢
    have hbd9 := Lib.hid hbd
    have c0 : W0.cell? ⟨n0, 0, none⟩ = some (.slice va k vc) := g0 _ hbd
    clear hW0
    refine stg_seg 2 (by dsimp only [List.take]) (by dsimp only [List.drop]) (by rfl) ?_
    repeat (go_big_quiet_step (fail))
    refine wpQuiet_nil ?_
    refine stg_loud (by rfl) ?_
    go_wp2_with fail
    refine (HCL.out _ hbd).mono ?_
    rintro e w2 ⟨a', c', rfl, hrow2, hb2⟩
    replace hb2 := bl_trans hbd hb2
    have HB2 := Lib.hid hb2
    have HRW2 := Lib.hid hrow2
    clear hrow2 c0 hbd
    go_wp2_with fail
    refine lq_in rfl (g0 _ HB2.out) ?_
    refine stg_loud (by rfl) ?_
    go_wp2_with fail
    have hb3 := bl_alloc HB2.out (.cells #[.slice a' m c'] 25)
    have hnw3 := blk_new w2 (.cells #[.slice a' m c'] 25) rfl
    have HB3 := Lib.hid hb3
    have HNW3 := Lib.hid hnw3
    clear hb3 hnw3 hb2
    refine lq_in rfl (g0 _ HB3.out) ?_
    have HRA := Lib.hid (own_keep HR3.out HB3.out)
    have HBN := Lib.hid (show n0 + 3 ≤ (w2.alloc (.cells #[.slice a' m c'] 25)).heap.size from by
      have h1 := HBL2.out.size
      have h2 := HB3.out.size
      have h3 := HW3.out
      omega)
    refine stg_loud (by rfl) ?_
    go_wp2_with (at_builtin; go_loud (refine wpList_clone rfl _ _ 22 rfl (n0 + 3) 25 Try.underlying22 Try.infoBytes rfl (by decide) rfl HRA.out rfl (ys := [.slice a' m c']) rfl (fun j u hj => ⟨w2.heap.size, 0, rfl, by rw [Nat.zero_add, blk_cell HNW3.out]; simpa using hj⟩) (fun h => by cases h) (by simp [Value.oneCell']) (by unfold maxLen; omega) (by omega) HBN.out ?_); intro v1 w4 hown1 hgrow hat1)
    replace hgrow : (w2.alloc (.cells #[.slice a' m c'] 25)).grownBy w4 (Value.slice va k vc).ownBlock := hgrow
    have hch4 : Chg (n0 :: (n0 + 1) :: (Value.slice va k vc).ownBlock.toList) W w4 := ((Chg.of_below HB3.out).grown hgrow (fun g hg => .inl (List.mem_cons_of_mem _ (List.mem_cons_of_mem _ (by rw [hg]; simp)))))
    have hnm : ∀ j, j < 3 → j + n0 < W.heap.size → w4.heap[j + n0]? = W.heap[j + n0]? := fun j hj hlt => (hgrow.block (j + n0) (Nat.lt_of_lt_of_le hlt HB3.out.size) (fun e => by have := (HR3.out.lt _ e.symm).1; omega)).trans (HB3.out.block (j + n0) hlt)
    have hk41 : w4.heap[n0]? = some (.cells #[.slice va k vc] 22 (0, 0)) := by
      have := hnm 0 (by omega) (by have := HW3.out; omega)
      rw [Nat.zero_add] at this
      exact this.trans HV1.out
    have hk42 : w4.heap[n0 + 1]? = some (.cells #[.int .i64 (offR ls k)] 3 (0, 0)) := by
      have := hnm 1 (by omega) (by have := HW3.out; omega)
      rw [Nat.add_comm] at this
      exact this.trans HV2.out
    obtain ⟨va1, vc1, rfl⟩ := own_slice hown1
    have HOW4 := Lib.hid hown1
    have HCH4 := Lib.hid hch4
    have HK41 := Lib.hid hk41
    have HK42 := Lib.hid hk42
    have HRB := Lib.hid (show OwnB (n0 + 3) w4 ⟨a', x, c'⟩ from by
      have h1 := OwnB.of_row (B := n0 + 3) HRW2.out (by have := HW3.out; have := hbd9.out.size; omega)
      refine h1.move (fun b cs hB hb => ?_)
      have h2 : (w2.alloc (.cells #[.slice a' m c'] 25)).heap[b]? = w2.heap[b]? := Below.heap_alloc w2 _ b (blk_lt hb)
      refine (hgrow.block b (by rw [World.size_alloc]; have := blk_lt hb; omega) (fun e => ?_)).trans h2
      exact row_wb HRA.out (h2.trans hb) (by decide) e.symm)
    refine lq_in rfl (blk_cell hk41 0) ?_
    clear hown1 hgrow hat1 hch4 hnm gC g0
    have c0 := blk_cell hk41 0
    have cf := blk_frozen hk41 0
    have c1 := blk_cell hk42 0
    have c1f := blk_frozen hk42 0
    replace c0 : w4.cell? ⟨n0, 0, none⟩ = some (.slice va k vc) := c0
    replace c1 : w4.cell? ⟨n0 + 1, 0, none⟩ = some (.int .i64 (offR ls k)) := c1
    clear hk41 hk42
    refine stg_nil ?_
    clear hne hx
    intro _ hxx
    clear hxx
    go_wp2_with fail
    have hk51 : (w4.setCell ⟨n0, 0, none⟩ (.slice va1 (k + 1) vc1)).heap[n0]? = some (.cells #[.slice va1 (k + 1) vc1] 22 (0, 0)) := blk_set HK41.out 0 _
    have hk52 := blk_far HK42.out (p := ⟨n0, 0, none⟩) (by simp) (.slice va1 (k + 1) vc1)
    have hch5 := HCH4.out.set (p := ⟨n0, 0, none⟩) (.inl List.mem_cons_self) (.slice va1 (k + 1) vc1)
    obtain ⟨W5, hW5⟩ : ∃ W5, W5 = w4.setCell ⟨n0, 0, none⟩ (.slice va1 (k + 1) vc1) := ⟨_, rfl⟩
    have hs5 : ∀ g, g ≠ n0 → W5.heap[g]? = w4.heap[g]? := fun g hg => by rw [hW5]; exact Below.heap_setCell w4 _ _ g hg
    rw [← hW5] at hk51 hk52 hch5 ⊢
    have HK51 := Lib.hid hk51
    have HK52 := Lib.hid hk52
    have HCH5 := Lib.hid hch5
    have HS5 := Lib.hid hs5
    obtain ⟨s9, hs9⟩ : ∃ s9, s9 = offR ls k := ⟨_, rfl⟩
    obtain ⟨z9, hz9⟩ : ∃ z9, z9 = offR ls (k + 1) := ⟨_, rfl⟩
    have hzs : z9 = s9 + (8 + m) := by
      rw [hz9, hs9, offR_succ ls hk, HM2.out, HX.out]
    have hzc : z9 ≤ 1099511627776 := by
      have h1 := offR_len ls (k + 1)
      have h2 := HCL9.out
      omega
    rw [← hs9] at hk52
    have c1 := blk_cell hk52 0
    have c1f := blk_frozen hk52 0
    replace c1 : W5.cell? ⟨n0 + 1, 0, none⟩ = some (.int .i64 s9) := c1
    have hsum : (s9 : Int) + (8 + (m : Int)) = (z9 : Int) := by omega
    have hm0 : (0 : Int) ≤ (m : Int) := by omega
    have hm1 : (m : Int) ≤ 65536 := by omega
    have hs0 : (0 : Int) ≤ (s9 : Int) := by omega
    have hs1 : (s9 : Int) ≤ 1099511627776 := by omega
    have HZ9 := Lib.hid hz9
    clear hk51 hk52 hch5 hs5 hW5 hs9 hz9 hzs hzc cf c0
    gi_wp2
    have HCH6 := HCH5.out.set (p := ⟨n0 + 1, 0, none⟩) (.inl (List.mem_cons_of_mem _ List.mem_cons_self)) (.int .i64 z9)
    have hs6 : ∀ g, g ≠ n0 + 1 → (W5.setCell ⟨n0 + 1, 0, none⟩ (.int .i64 z9)).heap[g]? = W5.heap[g]? := fun g hg => Below.heap_setCell W5 _ _ g hg
    have hk61 := (hs6 n0 (by omega)).trans HK51.out
    have hk62 : (W5.setCell ⟨n0 + 1, 0, none⟩ (.int .i64 z9)).heap[n0 + 1]? = some (.cells #[.int .i64 (offR ls (k + 1))] 3 (0, 0)) := by rw [blk_set HK52.out 0, ← HZ9.out]; rfl
    obtain ⟨W6, hW6⟩ : ∃ W6, W6 = W5.setCell ⟨n0 + 1, 0, none⟩ (.int .i64 z9) := ⟨_, rfl⟩
    rw [← hW6] at HCH6 hs6 hk61 hk62 ⊢
    have hL : ∀ g, g ∈ n0 :: (n0 + 1) :: (Value.slice va k vc).ownBlock.toList → g = n0 ∨ g = n0 + 1 ∨ (Value.slice va k vc).ownBlock = some g := fun g hg => by
      rcases List.mem_cons.1 hg with h | hg
      · exact .inl h
      · rcases List.mem_cons.1 hg with h | hg
        · exact .inr (.inl h)
        · exact .inr (.inr (by simpa using hg))
    have hKp : KpB n0 (n0 + 2) W W6 := by
      refine ⟨HCH6.to_below (by have := HW3.out; omega) (fun g hg => ?_), HCH6.block (n0 + 2) (by have := HW3.out; omega) (fun hg => ?_)⟩
      · rcases hL g hg with h | h | h
        · omega
        · omega
        · have := (HR3.out.lt _ h).1; omega
      · rcases hL _ hg with h | h | h
        · omega
        · omega
        · have := (HR3.out.lt _ h).1; omega
    have hrw : ∀ g, n0 + 3 ≤ g → W6.heap[g]? = w4.heap[g]? := fun g hg => (hs6 g (by omega)).trans (HS5.out g (by omega))
    refine ⟨⟨HCH6.size, fun g o hB hg hc => (HCH6.block g (blk_lt hg) (fun hm => ?_)).trans hg⟩, hKp, ⟨HBL2.out.trans hKp.1, Nat.le_trans HW3.out HCH6.size⟩, .slice va1 (k + 1) vc1, bs ++ [⟨a', x, c'⟩], hk61, hk62, ?_, ?_, ?_, ?_⟩
    · rw [HSZ.out] at hB
      rcases hL g hm with h | h | h
      · omega
      · omega
      · obtain ⟨cur, hcur⟩ := row_blk HR3.out h
        rw [hg] at hcur
        cases hcur
        cases hc
    · have h1 : bsC (bs ++ [⟨a', x, c'⟩]) = bsC bs ++ [.slice a' m c'] := by
        unfold bsC
        rw [List.map_append, HM2.out]
        rfl
      rw [h1]
      exact ownsRow_blk HOW4.out (fun g hg => hrw g (HOW4.out.lt g hg).1)
    · rw [List.length_append, H4.out]
      rfl
    · intro j hj
      rcases Nat.lt_or_ge j k with hjk | hjk
      · rw [show atB (bs ++ [⟨a', x, c'⟩]) j = atB bs j from by unfold atB; rw [List.getD_eq_getElem?_getD, List.getD_eq_getElem?_getD, List.getElem?_append_left (by rw [H4.out]; exact hjk)]]
        exact H5.out j hjk
      · obtain rfl : j = k := by omega
        rw [show atB (bs ++ [⟨a', x, c'⟩]) j = ⟨a', x, c'⟩ from by unfold atB; rw [List.getD_eq_getElem?_getD, List.getElem?_append_right (by rw [H4.out]; omega), H4.out, Nat.sub_self]; rfl]
        exact HX.out
    · intro j hj
      rcases Nat.lt_or_ge j k with hjk | hjk
      · rw [show atB (bs ++ [⟨a', x, c'⟩]) j = atB bs j from by unfold atB; rw [List.getD_eq_getElem?_getD, List.getD_eq_getElem?_getD, List.getElem?_append_left (by rw [H4.out]; exact hjk)]]
        refine (H6.out j hjk).move (fun g cs hB hg => HCH6.block g (blk_lt hg) (fun hm => ?_))
        rcases hL g hm with h | h | h
        · omega
        · omega
        · exact row_wb HR3.out hg (by decide) h
      · obtain rfl : j = k := by omega
        rw [show atB (bs ++ [⟨a', x, c'⟩]) j = ⟨a', x, c'⟩ from by unfold atB; rw [List.getD_eq_getElem?_getD, List.getElem?_append_right (by rw [H4.out]; omega), H4.out, Nat.sub_self]; rfl]
        exact HRB.out.move (fun g cs hB hg => hrw g hB)
  case done =>
    intro D W hD hI hDD
    clear hit
    obtain ⟨⟨hbl, hW3⟩, v, bs, h1, h2, h3, h4, h5, h6⟩ := hI
    obtain ⟨va, vc, rfl⟩ := own_slice h3
    have HV1 := Lib.hid h1
    have HV2 := Lib.hid h2
    have HR3 := Lib.hid h3
    have H4 := Lib.hid h4
    have H5 := Lib.hid h5
    have H6 := Lib.hid h6
    have HBL2 := Lib.hid hbl
    have HD := Lib.hid hD
    have HDD := Lib.hid hDD
    have HW3 := Lib.hid hW3
    obtain ⟨N, hN⟩ : ∃ N, N = ls.length := ⟨_, rfl⟩
    obtain ⟨s9, hs9⟩ : ∃ s9, s9 = offR ls ls.length := ⟨_, rfl⟩
    have g0 : ∀ V, Below W.heap.size W V → V.cell? ⟨n0, 0, none⟩ = some (.slice va N vc) := fun V hV => by rw [hN]; exact cell_keep hV (blk_cell HV1.out 0)
    have g1 : ∀ V, Below W.heap.size W V → V.cell? ⟨n0 + 1, 0, none⟩ = some (.int .i64 s9) := fun V hV => by rw [hs9]; exact cell_keep hV (blk_cell HV2.out 0)
    have HN := Lib.hid hN
    have HS9 := Lib.hid hs9
    clear h1 h2 h3 h4 h5 h6 hbl hD hDD hN hs9 hW3
    gi_wp2
    refine wpIn_wide.2 ?_
    have hbd : Below W.heap.size W W.drew := (Below.refl _ W).drew
    refine wp_region_in (Below W.heap.size W) (fun _ => false) (by kernel_rfl) (by kernel_rfl) (by exact hbd) ?_
    intro hne hx
    change wpStg _ _ _ _ _ _ _ _ W.drew
    obtain ⟨V, hV⟩ : ∃ V, V = W.drew := ⟨_, rfl⟩
    have HDV := Lib.hid (show V.heap[D]? = some (.deferred (some [])) by rw [hV]; exact HDD.out)
    have hve : V.heap = W.heap := by rw [hV]; rfl
    have HVE := Lib.hid hve
    have hblv : Below n0 w V := by rw [hV]; exact HBL2.out.drew
    rw [← hV] at hbd ⊢
    clear hV hve
    refine stg_seg 4 (by dsimp only [List.take]) (by dsimp only [List.drop]) (by rfl) ?_
    repeat (go_big_quiet_step (fail))
    refine wpQuiet_nil ?_
    refine stg_nil ?_
    clear hne hx
    gi_wp2
    have hlt : D < V.heap.size := blk_lt HDV.out
    have hw7 : ∀ (g : Nat) (cs : Array Value) (t : TypeId) (fz : Nat × Nat), W.heap[g]? = some (.cells cs t fz) → (V.putObj D (.deferred none)).heap[g]? = W.heap[g]? := fun g cs t fz hg => by
      rw [World.putObj_heap_other (fun e => by subst e; rw [HDD.out] at hg; cases hg), HVE.out]
    have hb7 : Below n0 w (V.putObj D (.deferred none)) := hblv.grown (grownBy_putObj' V D (.deferred none)) (by have := HW3.out; rw [HVE.out]; omega) (fun k e => by cases e; have := HD.out; rw [HSZ.out] at this; omega)
    refine ⟨by simp, .inl ⟨_, _, rfl, run_takeDeferred HDV.out, _, results_tmp2 rfl _ _ _, va, vc, bs, ?_, ?_, H4.out, H5.out, by rw [← HN0.out]; exact hb7⟩⟩
    · rw [← HN.out]
      have : (catR ls).length = s9 := by
        have h1 := offR_len ls ls.length
        rw [List.drop_length] at h1
        rw [HS9.out]
        simpa [catR] using h1.symm
      rw [HM.out.trans this]
      rfl
    · intro j hj
      have hj' : j < ls.length := by rw [← H4.out]; exact hj
      obtain ⟨g, cap, e, hg⟩ := row_some HR3.out (by omega)
      injection e with e1 e2 e3
      subst e1
      have hcl : (bsC bs)[j]? = some (.slice (atB bs j).a (atB bs j).l.length (atB bs j).c) := by
        unfold bsC
        rw [List.getElem?_map, List.getElem?_eq_getElem hj]
        unfold atB
        rw [List.getD_eq_getElem?_getD, List.getElem?_eq_getElem hj]
        rfl
      obtain ⟨cur, hcur⟩ := row_blk HR3.out (g := g) rfl
      have hc := row_cell HR3.out hcl
      refine ⟨g, 0, rfl, ?_, ?_⟩
      · rw [Nat.zero_add, blk_cell ((hw7 g _ _ _ hcur).trans hcur), ← hc, blk_cell hcur]
      · exact ((H6.out j hj').move (fun b cs _ hb => hw7 b _ _ _ hb)).at_
end Go.Proofs.Ytnmmhggdjlfnfaa
