/- flight: tell, plainly and in memory. Conditions: none. -/
import Derived.Test.YtmnoacjmdnmddaaDoorTcTake
namespace Go.Proofs.YtmnoacjmdnmddaaDoor
open Go.RowKit Go.Maps
theorem insL_mem {xs : List Int} {i : Nat} {x y : Int} : y ∈ insL xs i x ↔ y = x ∨ y ∈ xs := by
  unfold insL
  have h : y ∈ xs ↔ y ∈ xs.take i ∨ y ∈ xs.drop i := by
    rw [← List.mem_append, List.take_append_drop]
  rw [List.mem_append, List.mem_cons, h]
  constructor
  · rintro (h | h | h)
    · exact .inr (.inl h)
    · exact .inl h
    · exact .inr (.inr h)
  · rintro (h | h | h)
    · exact .inr (.inl h)
    · exact .inl h
    · exact .inr (.inr h)
theorem insL_perm (xs : List Int) (i : Nat) (x : Int) : (insL xs i x).Perm (x :: xs) := by
  unfold insL
  refine List.perm_middle.trans (List.Perm.cons x ?_)
  rw [List.take_append_drop]
theorem count_lt_zero {xs : List Int} {x : Int} (h : ∀ y ∈ xs, x ≤ y) : xs.countP (· < x) = 0 := by
  rw [List.countP_eq_zero]
  intro y hy
  have := h y hy
  simp
  omega
theorem insL_sorted {x : Int} : ∀ {xs : List Int}, xs.Pairwise (· ≤ ·) → (insL xs (xs.countP (· < x)) x).Pairwise (· ≤ ·)
  | [], _ => by simp [insL]
  | y :: r, h => by
    have h1 := List.pairwise_cons.1 h
    by_cases e : y < x
    · have ih := insL_sorted (x := x) h1.2
      have ec : (y :: r).countP (· < x) = r.countP (· < x) + 1 := List.countP_cons_of_pos (by simpa using e)
      rw [ec]
      show (y :: insL r (r.countP (· < x)) x).Pairwise (· ≤ ·)
      refine List.pairwise_cons.2 ⟨fun z hz => ?_, ih⟩
      rcases insL_mem.1 hz with rfl | hz
      · omega
      · exact h1.1 z hz
    · have ec : (y :: r).countP (· < x) = 0 := count_lt_zero (fun z hz => by
        rcases List.mem_cons.1 hz with rfl | hz
        · omega
        · have := h1.1 z hz; omega)
      rw [ec]
      show (x :: y :: r).Pairwise (· ≤ ·)
      refine List.pairwise_cons.2 ⟨fun z hz => ?_, h⟩
      rcases List.mem_cons.1 hz with rfl | hz
      · omega
      · have := h1.1 z hz; omega
/-- A step of one hold: k more seats. -/
structure Toldk (B p : Nat) (S : FS) (x : HD) (k : Nat) (w w' : World) (S' : FS) (x' : HD) : Prop where
  fl : FlAt w' B p S'
  inv : FInv S'
  rows : S'.rows = S.rows
  gs : S'.gs = S.gs
  ls : S'.ls = S.ls
  nn : S'.nn ≤ S.nn + k
  chg : Chg (S.blks p) w w'
  new : ∀ b ∈ S'.blks p, b ∈ S.blks p ∨ w.heap.size ≤ b
  mem : x' ∈ S'.H
  blk : x'.blk = x.blk
  own : x'.own = x.own
  many : x'.many = x.many
  len : x'.seats.length = x.seats.length + k
theorem Toldk.moved {B p : Nat} {S S' : FS} {x x' : HD} {k : Nat} {w w' : World} (h : Toldk B p S x k w w' S' x') (hk : k ≤ 10001) : Moved B p S w w' := ⟨S', h.fl, h.inv, ⟨h.rows, h.gs, h.ls, by have := h.nn; omega⟩, h.chg, h.new⟩
theorem Toldk.keep {B p : Nat} {S S' : FS} {x x' : HD} {k : Nat} {w w1 w' : World} (h : Toldk B p S x k w w1 S' x') (b : Below w1.heap.size w1 w') : Toldk B p S x k w w' S' x' :=
  ⟨h.fl.keep b, h.inv, h.rows, h.gs, h.ls, h.nn, h.chg.below b, h.new, h.mem, h.blk, h.own, h.many, h.len⟩
theorem Toldk.from {B p : Nat} {S S' : FS} {x x' : HD} {k : Nat} {w0 w w' : World} (b : Below w0.heap.size w0 w) (h : Toldk B p S x k w w' S' x') : Toldk B p S x k w0 w' S' x' :=
  ⟨h.fl, h.inv, h.rows, h.gs, h.ls, h.nn, (Chg.of_below (L := S.blks p) b).trans h.chg, fun y hy => (h.new y hy).imp id (fun k => Nat.le_trans b.size k), h.mem, h.blk, h.own, h.many, h.len⟩
theorem Toldk.trans {B p : Nat} {S S1 S2 : FS} {x x1 x2 : HD} {k l : Nat} {w w1 w2 : World} (h : Toldk B p S x k w w1 S1 x1) (g : Toldk B p S1 x1 l w1 w2 S2 x2) : Toldk B p S x (k + l) w w2 S2 x2 :=
  ⟨g.fl, g.inv, g.rows.trans h.rows, g.gs.trans h.gs, g.ls.trans h.ls, by have := h.nn; have := g.nn; omega, h.chg.trans' g.chg (fun y hy => h.new y hy), fun y hy => by
    rcases g.new y hy with h1 | h1
    · exact h.new y h1
    · exact .inr (Nat.le_trans h.chg.size h1), g.mem, g.blk.trans h.blk, g.own.trans h.own, g.many.trans h.many, by have := h.len; have := g.len; omega⟩
theorem Toldk.refl {B p : Nat} {S : FS} {x : HD} {w w' : World} (h : FlAt w B p S) (i : FInv S) (hx : x ∈ S.H) (b : Below w.heap.size w w') : Toldk B p S x 0 w w' S x :=
  ⟨h.keep b, i, rfl, rfl, rfl, Nat.le_refl _, .of_below b, fun _ hb => .inl hb, hx, rfl, rfl, rfl, rfl⟩
/-- The hold with one seat more, and a flight with that. -/
def HD.tell (x : HD) (n : Int) (v : Value) : HD := { x with seats := insL x.seats (x.seats.countP (· < n)) n, row := v }
def FS.tell (S : FS) (A C : List HD) (x : HD) : FS := { S with H := A ++ x :: C, nn := S.nn + 1 }
theorem told_mid (A C : List HD) (x : HD) (y : Int) : y ∈ (A ++ x :: C).flatMap HD.seats ↔ y ∈ x.seats ∨ y ∈ (A ++ C).flatMap HD.seats := by
  rw [List.flatMap_append, List.flatMap_append, List.flatMap_cons, List.mem_append, List.mem_append, List.mem_append]
  constructor
  · rintro (h | h | h)
    · exact .inr (.inl h)
    · exact .inl h
    · exact .inr (.inr h)
  · rintro (h | h | h)
    · exact .inr (.inl h)
    · exact .inl h
    · exact .inr (.inr h)
theorem told_perm (A C : List HD) (x : HD) : ((A ++ x :: C).flatMap HD.seats).Perm (x.seats ++ (A ++ C).flatMap HD.seats) := by
  rw [List.flatMap_append, List.flatMap_append, List.flatMap_cons, ← List.append_assoc, ← List.append_assoc]
  exact List.Perm.append_right _ List.perm_append_comm
theorem mid_mem {A C : List HD} {x y : HD} : y ∈ A ++ x :: C ↔ y = x ∨ y ∈ A ++ C := by
  rw [List.mem_append, List.mem_cons, List.mem_append]
  constructor
  · rintro (h | h | h)
    · exact .inr (.inl h)
    · exact .inl h
    · exact .inr (.inr h)
  · rintro (h | h | h)
    · exact .inr (.inl h)
    · exact .inl h
    · exact .inr (.inr h)
theorem FInv.tell {S : FS} (i : FInv S) {A C : List HD} {x : HD} (hH : S.H = A ++ x :: C) {n : Int} (v : Value) (hl : (x.seats.length : Int) < x.many) (hn : hasL S.rows S.gs n) (ht : ¬ n ∈ S.told) : FInv (S.tell A C (x.tell n v)) := by
  have hx : x ∈ S.H := by rw [hH]; simp
  have old : ∀ y ∈ A ++ C, y ∈ S.H := fun y hy => by rw [hH]; exact mid_mem.2 (.inr hy)
  have all : ∀ {P : HD → Prop}, (∀ h ∈ S.H, P h) → P (x.tell n v) → ∀ h ∈ A ++ x.tell n v :: C, P h := fun {P} ha hx h hh => by
    rcases mid_mem.1 hh with rfl | h1
    · exact hx
    · exact ha h (old h h1)
  have hc : x.seats.countP (· < n) ≤ x.seats.length := List.countP_le_length
  refine ⟨i.nest, i.right, ?_, all i.cls (i.cls x hx), all i.many (i.many x hx), all i.len ?_, fun c hc' => ?_, all i.seat ?_, all i.srt (insL_sorted (i.srt x hx)), ?_, all i.own (i.own x hx)⟩
  · have h1 := i.nod
    rw [hH] at h1
    show ((A ++ x.tell n v :: C).map HD.own).Nodup
    rw [List.map_append, List.map_cons] at h1 ⊢
    exact h1
  · show ((insL x.seats _ n).length : Int) ≤ x.many
    rw [insL_len hc]
    omega
  · show S.ss.getD c 0 = heldC (A ++ x.tell n v :: C) c
    have h1 : S.ss.getD c 0 = heldC S.H c := i.sum c hc'
    rw [h1, hH, heldC_mid, heldC_mid]
    rfl
  · intro y hy
    rcases insL_mem.1 hy with rfl | h1
    · exact hn
    · exact i.seat x hx y h1
  · show ((A ++ x.tell n v :: C).flatMap HD.seats).Nodup
    have h1 := i.uni
    unfold FS.told at h1 ht
    rw [hH] at h1 ht
    have h2 := (told_perm A C x).nodup_iff.1 h1
    have h3 : ¬ n ∈ x.seats ++ (A ++ C).flatMap HD.seats := fun e => ht ((told_perm A C x).mem_iff.2 e)
    refine (told_perm A C (x.tell n v)).nodup_iff.2 ?_
    have h4 : ((x.tell n v).seats ++ (A ++ C).flatMap HD.seats).Perm (n :: (x.seats ++ (A ++ C).flatMap HD.seats)) := List.Perm.append_right _ (insL_perm x.seats _ n)
    exact h4.nodup_iff.2 (List.nodup_cons.2 ⟨h3, h2⟩)
theorem tell_fl {w w1 w2 w4 : World} {B p : Nat} {S : FS} (h : FlAt w B p S) (i : FInv S) (hB : B ≤ w.heap.size) {x : HD} (hx : x ∈ S.H) {n : Int} {v : Value} (hl : (x.seats.length : Int) < x.many) (hn : hasL S.rows S.gs n) (ht : ¬ n ∈ S.told)
    (hb : Below w.heap.size w w1) (hg : w1.grownBy w2 x.row.ownBlock) (hv : v.ownBlock = x.row.ownBlock ∨ v.ownBlock = some w1.heap.size) (hrow : w2.ownsRow B 3 1 v (x.seats.length + 1) (intsV (insL x.seats (x.seats.countP (· < n)) n)))
    {D : DataW Unit} {d : DataW Unit} (hDo : OmOk D S.told) (hID : IsMap D)
    (hmap : w4.ownsMap Tryd.prog 3 (plainElem Tryd.prog 3) S.ob (S.nn + 1) (D.put (.int .i64 n) d)) (hg4 : (w2.setCell ⟨x.blk, 3, none⟩ v).grownBy w4 (some S.ob)) : ∃ S' x', Toldk B p S x 1 w w4 S' x' ∧ ∀ y, y ∈ S'.told ↔ y = n ∨ y ∈ S.told := by
  obtain ⟨A, C, hH⟩ := List.append_of_mem hx
  have old : ∀ y ∈ A ++ C, y ∈ S.H := fun y hy => by rw [hH]; exact mid_mem.2 (.inr hy)
  have hnod := i.nod
  have ne_own : ∀ y ∈ A ++ C, y.own ≠ x.own := by
    intro y hy e
    rw [hH, List.map_append, List.map_cons] at hnod
    have h2 := (List.perm_middle (a := x.own) (l₁ := A.map HD.own) (l₂ := C.map HD.own)).nodup_iff.1 hnod
    have h3 := (List.nodup_cons.1 h2).1
    rw [← e, ← List.map_append] at h3
    exact h3 (List.mem_map.2 ⟨y, hy, rfl⟩)
  have hk := h.kinds
  have hxk := hk.2.2.1 x hx
  have hxa := h.hs x hx
  obtain ⟨D1, hD1, hDo1⟩ := h.hm
  obtain ⟨D2, hD2, hDo2⟩ := h.om
  have hxlt := blk_lt hxa.blk
  -- what changes
  have k4 : Chg (x.blk :: S.ob :: x.row.ownBlock.toList) w w4 := by
    have k1 : Chg (x.blk :: S.ob :: x.row.ownBlock.toList) w w2 := (Chg.of_below hb).grown hg (fun k hk => by left; simp [hk])
    exact (k1.set (p := ⟨x.blk, 3, none⟩) (.inl (by simp)) v).grown hg4 (fun k hk => by injection hk with hk; left; simp [hk])
  have notin : ∀ b, b ≠ x.blk → b ≠ S.ob → x.row.ownBlock ≠ some b → ¬ b ∈ x.blk :: S.ob :: x.row.ownBlock.toList := fun b h1 h2 h3 hm => by
    rcases List.mem_cons.1 hm with e | hm
    · exact h1 e
    · rcases List.mem_cons.1 hm with e | hm
      · exact h2 e
      · exact h3 (by simpa using hm)
  have hp4 : w4.heap[p]? = some (.cells S.cells 63 (0, 0)) := k4.blk h.blk (notin p hxk.1 hk.2.1 hxk.2.2.2.1)
  have fixrow : ∀ {v' : Value} {m : Nat} {xs : List Value}, w.ownsRow B 3 1 v' m xs → (∀ y ∈ S.H, v'.ownBlock ≠ some y.blk) → v'.ownBlock ≠ some S.ob → (∀ g, x.row.ownBlock = some g → v'.ownBlock ≠ some g) → w4.ownsRow B 3 1 v' m xs := fun {v'} {m} {xs} hr n1 n2 n3 =>
    ownsRow_blk hr fun g hg' => k4.block g (hr.lt g hg').2 (notin g (fun e => n1 x hx (by rw [hg', e])) (fun e => n2 (by rw [hg', e])) (fun e => n3 g e hg'))
  have hvnew : ∀ g, v.ownBlock = some g → x.row.ownBlock = some g ∨ w.heap.size ≤ g := fun g hg' => by
    rcases hv with e | e
    · left; rw [← e]; exact hg'
    · right
      rw [e] at hg'
      injection hg' with hg'
      have := hb.size
      omega
  have hx1 : w1.heap[x.blk]? = some (.cells x.cells 50 (0, 0)) := blk_below hxa.blk hb hxlt
  have hx2 : w2.heap[x.blk]? = some (.cells x.cells 50 (0, 0)) := (hg.block _ (blk_lt hx1) (fun e => hxk.2.2.2.2.2.2 x hx e.symm)).trans hx1
  have hx3 : (w2.setCell ⟨x.blk, 3, none⟩ v).heap[x.blk]? = some (.cells (x.tell n v).cells 50 (0, 0)) := (blk_set hx2 3 v).trans rfl
  have hx4 : w4.heap[x.blk]? = some (.cells (x.tell n v).cells 50 (0, 0)) := (hg4.block _ (blk_lt hx3) (fun e => hxk.2.2.1 (by injection e with e; exact e.symm))).trans hx3
  have hvob : v.ownBlock ≠ some S.ob := fun e => by
    rcases hvnew _ e with h1 | h1
    · exact hxk.2.2.2.2.2.1 h1
    · have := hD2.lt; omega
  have hvx : v.ownBlock ≠ some x.blk := fun e => by
    rcases hvnew _ e with h1 | h1
    · exact hxk.2.2.2.2.2.2 x hx h1
    · omega
  have hrow4 : w4.ownsRow B 3 1 v (x.seats.length + 1) (intsV (insL x.seats (x.seats.countP (· < n)) n)) := ownsRow_blk hrow fun g hg' =>
    (hg4.block g (by have := (hrow.lt g hg').2; simp [World.setCell]; exact this) (fun e => hvob (by rw [hg', e]))).trans (Below.heap_setCell _ _ _ _ (fun e => hvx (by rw [hg', e])))
  have hlen : (x.tell n v).seats.length = x.seats.length + 1 := insL_len List.countP_le_length
  have hmem : ∀ y, y ∈ (A ++ x.tell n v :: C).flatMap HD.seats ↔ y = n ∨ y ∈ S.told := fun y => by
    unfold FS.told
    rw [told_mid, hH, told_mid]
    show y ∈ insL x.seats _ n ∨ _ ↔ _
    rw [insL_mem, or_assoc]
  have hsame : (A ++ x.tell n v :: C).map (fun h => (h.own, h.blk)) = S.H.map fun h => (h.own, h.blk) := by
    rw [hH, List.map_append, List.map_append, List.map_cons, List.map_cons]
    rfl
  refine ⟨S.tell A C (x.tell n v), x.tell n v, ⟨⟨hp4, fixrow h.gr hk.2.2.2.1.2.2.2 hk.2.2.2.1.2.2.1 (fun g hg' => (h.ap x hx g hg').1), fixrow h.lr hk.2.2.2.2.1.2.2.2 hk.2.2.2.2.1.2.2.1 (fun g hg' => (h.ap x hx g hg').2.1), fixrow h.sr hk.2.2.2.2.2.2.2.2 hk.2.2.2.2.2.2.2.1 (fun g hg' => (h.ap x hx g hg').2.2), ⟨D1, (map_blk hD1 (k4.block _ hD1.lt (notin _ hxk.2.1 h.ne hxk.2.2.2.2.1))).mono (Nat.le_succ _), by
      show HmOk D1 ((A ++ x.tell n v :: C).map _)
      rw [hsame]; exact hDo1⟩, ⟨_, hmap, hDo.put hID hmem⟩, ?_, ?_, ?_, h.ne, h.low⟩, i.tell hH v hl hn ht, rfl, rfl, rfl, Nat.le_refl _, ?_, ?_, mid_mem.2 (.inl rfl), rfl, rfl, rfl, hlen⟩, hmem⟩
  · intro y hy
    rcases mid_mem.1 hy with rfl | h5
    · exact ⟨hx4, by rw [hlen]; exact hrow4, hxa.low⟩
    · have hyH := old y h5
      have hya := h.apart hyH hx (ne_own y h5)
      refine (h.hs y hyH).move (k4.block _ (blk_lt (h.hs y hyH).blk) (notin _ hya.1 (fun e => (hk.2.2.1 y hyH).2.2.1 e.symm) (hxk.2.2.2.2.2.2 y hyH))) (fun g hg' => k4.block g ((h.hs y hyH).row.lt g hg').2 (notin g (fun e => (hk.2.2.1 y hyH).2.2.2.2.2.2 x hx (by rw [hg', e])) (fun e => (hk.2.2.1 y hyH).2.2.2.2.2.1 (by rw [hg', e])) (hya.2 g hg')))
  · intro y hy g hg'
    rcases mid_mem.1 hy with rfl | h5
    · rcases hvnew g hg' with e | e
      · exact h.ap x hx g e
      · exact ⟨fun k => by have := (h.gr.lt g k).2; omega, fun k => by have := (h.lr.lt g k).2; omega, fun k => by have := (h.sr.lt g k).2; omega⟩
    · exact h.ap y (old y h5) g hg'
  · have key : ∀ y ∈ A ++ C, ∀ g, y.row.ownBlock = some g → v.ownBlock ≠ some g := fun y hy g h1 h2 => by
      rcases hvnew g h2 with e | e
      · exact (h.apart (old y hy) hx (ne_own y hy)).2 g h1 e
      · have := ((h.hs y (old y hy)).row.lt g h1).2
        omega
    intro y hy z hz g hy' hz'
    rcases mid_mem.1 hy with rfl | h5
    · rcases mid_mem.1 hz with rfl | h6
      · rfl
      · exact absurd hy' (key z h6 g hz')
    · rcases mid_mem.1 hz with rfl | h6
      · exact absurd hz' (key y h5 g hy')
      · exact h.hp y (old y h5) z (old z h6) g hy' hz'
  · refine k4.wide fun b hb' => ?_
    simp only [FS.blks, List.mem_cons]
    rcases List.mem_cons.1 hb' with e | hb'
    · right; right; right
      exact List.mem_flatMap.2 ⟨x, hx, by simp [HD.bl, e]⟩
    · rcases List.mem_cons.1 hb' with e | hb'
      · right; right; left; exact e
      · right; right; right
        exact List.mem_flatMap.2 ⟨x, hx, List.mem_cons_of_mem _ hb'⟩
  · intro b hb'
    simp only [FS.blks, List.mem_cons] at hb' ⊢
    rcases hb' with e | e | e | e
    · left; left; exact e
    · left; right; left; exact e
    · left; right; right; left; exact e
    · obtain ⟨y, hy, hby⟩ := List.mem_flatMap.1 e
      rcases mid_mem.1 hy with rfl | h5
      · rcases List.mem_cons.1 hby with e | e
        · left; right; right; right
          exact List.mem_flatMap.2 ⟨x, hx, by
            have e : b = x.blk := e
            simp [HD.bl, e]⟩
        · have e : v.ownBlock = some b := by simpa [HD.tell] using e
          rcases hvnew b e with h1 | h1
          · left; right; right; right
            exact List.mem_flatMap.2 ⟨x, hx, by simp [HD.bl, h1]⟩
          · right; exact h1
      · left; right; right; right
        exact List.mem_flatMap.2 ⟨y, old y h5, hby⟩
end Go.Proofs.YtmnoacjmdnmddaaDoor
