/- flight: what a flight is, plainly; how it lies in memory. Conditions: none. -/
import Derived.Test.YtmnoacjmdnmddaaDoorTcKeys
namespace Go.Proofs.YtmnoacjmdnmddaaDoor
open Go.RowKit Go.Maps
/-- A hold: whose, of which class, how many seats, which were told; where it lies. -/
structure HD where
  own : Int
  cls : Nat
  many : Int
  seats : List Int
  blk : Nat
  row : Value
def HD.bl (h : HD) : List Nat := h.blk :: h.row.ownBlock.toList
def HD.cells (h : HD) : Array Value := #[.int .i64 h.own, .int .i64 h.cls, .int .i64 h.many, h.row]
structure HD.At (h : HD) (B : Nat) (w : World) : Prop where
  blk : w.heap[h.blk]? = some (.cells h.cells 50 (0, 0))
  row : w.ownsRow B 3 1 h.row h.seats.length (intsV h.seats)
  low : B ≤ h.blk
theorem HD.At.move {h : HD} {B : Nat} {w w' : World} (a : h.At B w) (h1 : w'.heap[h.blk]? = w.heap[h.blk]?) (h2 : ∀ g, h.row.ownBlock = some g → w'.heap[g]? = w.heap[g]?) : h.At B w' :=
  ⟨h1.trans a.blk, ownsRow_blk a.row h2, a.low⟩
/-- A flight. -/
structure FS where
  num : Int
  rows : Int
  gs : List Int
  ls : List Int
  ss : List Int
  ga : Option Addr
  gc : Nat
  la : Option Addr
  lc : Nat
  sa : Option Addr
  sc : Nat
  hb : Nat
  ob : Nat
  H : List HD
  nn : Nat
def FS.gv (S : FS) : Value := .slice S.ga S.gs.length S.gc
def FS.lv (S : FS) : Value := .slice S.la S.ls.length S.lc
def FS.sv (S : FS) : Value := .slice S.sa S.ls.length S.sc
def FS.cells (S : FS) : Array Value := #[.int .i64 S.num, .int .i64 S.rows, S.gv, S.lv, S.sv, .map (some S.hb), .map (some S.ob)]
def FS.blks (S : FS) (p : Nat) : List Nat := p :: S.hb :: S.ob :: S.H.flatMap HD.bl
def FS.told (S : FS) : List Int := S.H.flatMap HD.seats
/-- How a pointer reads. -/
def ptrR : Value → Option (DataW Unit × List MemPlace)
  | .pointer none => some (.lit (.bool false), [])
  | .pointer (some ⟨b, 0, none⟩) => some (.lit (.int .i64 b), [])
  | _ => none
theorem ptrR_none {v : Value} {ps : List MemPlace} (h : ptrR v = some (.lit (.bool false), ps)) : v = .pointer none := by
  unfold ptrR at h
  split at h
  · rfl
  · simp at h
  · cases h
theorem ptrR_some {v : Value} {b : Nat} {ps : List MemPlace} (h : ptrR v = some (.lit (.int .i64 b), ps)) : v = .pointer (some ⟨b, 0, none⟩) := by
  unfold ptrR at h
  split at h
  · simp at h
  · next b' =>
    simp at h
    have e : b' = b := by omega
    rw [e]
  · cases h
def HmOk (D : DataW Unit) (l : List (Int × Nat)) : Prop := (∀ p ∈ l, ∀ z, D.atKey (.int .i64 p.1) z = .lit (.int .i64 p.2)) ∧ ∀ x, (∀ p ∈ l, p.1 ≠ x) → has D (.int .i64 x) = false
def OmOk (D : DataW Unit) (l : List Int) : Prop := ∀ x, has D (.int .i64 x) = true ↔ x ∈ l
theorem HmOk.nil : HmOk (.map []) [] := ⟨fun p h => (by cases h), fun x _ => rfl⟩
theorem OmOk.nil : OmOk (.map []) [] := fun x => by
  show false = true ↔ _
  simp
theorem key_ne {a b : Int} (h : a ≠ b) : (Lit.int .i64 a) ≠ (Lit.int .i64 b) := fun e => h (by injection e)
theorem HmOk.put {D : DataW Unit} {l : List (Int × Nat)} (h : HmOk D l) (hD : IsMap D) {o : Int} {b : Nat} (hn : ∀ p ∈ l, p.1 ≠ o) : HmOk (D.put (.int .i64 o) (.lit (.int .i64 b))) (l ++ [(o, b)]) := by
  refine ⟨fun p hp z => ?_, fun x hx => ?_⟩
  · rcases List.mem_append.1 hp with h1 | h1
    · rw [atKey_put_other (key_ne (hn p h1))]
      exact h.1 p h1 z
    · have : p = (o, b) := by simpa using h1
      subst this
      exact atKey_put_same hD (show WideAt.IsKeyLit (.int .i64 o) from trivial) _ _
  · have h1 : o ≠ x := hx (o, b) (by simp)
    rw [has_put_other (key_ne (Ne.symm h1))]
    exact h.2 x fun p hp => hx p (List.mem_append_left _ hp)
theorem HmOk.del {D : DataW Unit} {l l' : List (Int × Nat)} {o : Int} {b : Nat} (h : HmOk D (l ++ (o, b) :: l')) (hn : ∀ p ∈ l ++ l', p.1 ≠ o) : HmOk (D.del (.int .i64 o)) (l ++ l') := by
  refine ⟨fun p hp z => ?_, fun x hx => ?_⟩
  · rw [atKey_del_other (key_ne (hn p hp))]
    refine h.1 p ?_ z
    rcases List.mem_append.1 hp with h1 | h1
    · exact List.mem_append_left _ h1
    · exact List.mem_append_right _ (List.mem_cons_of_mem _ h1)
  · by_cases e : x = o
    · subst e; exact has_del_same
    · rw [has_del_other (key_ne e)]
      refine h.2 x fun p hp => ?_
      rcases List.mem_append.1 hp with h1 | h1
      · exact hx p (List.mem_append_left _ h1)
      · rcases List.mem_cons.1 h1 with rfl | h1
        · exact Ne.symm e
        · exact hx p (List.mem_append_right _ h1)
theorem OmOk.put {D : DataW Unit} {l l' : List Int} (h : OmOk D l) (hD : IsMap D) {x : Int} {d : DataW Unit} (hl : ∀ y, y ∈ l' ↔ y = x ∨ y ∈ l) : OmOk (D.put (.int .i64 x) d) l' := fun y => by
  rw [hl y]
  by_cases e : y = x
  · subst e
    rw [has_put_same hD (show WideAt.IsKeyLit (.int .i64 y) from trivial)]
    simp
  · rw [has_put_other (key_ne e), h y]
    simp [e]
theorem OmOk.del {D : DataW Unit} {l l' : List Int} (h : OmOk D l) {x : Int} (hl : ∀ y, y ∈ l' ↔ y ≠ x ∧ y ∈ l) : OmOk (D.del (.int .i64 x)) l' := fun y => by
  rw [hl y]
  by_cases e : y = x
  · subst e
    rw [has_del_same]
    simp
  · rw [has_del_other (key_ne e), h y]
    simp [e]
structure FlAt (w : World) (B p : Nat) (S : FS) : Prop where
  blk : w.heap[p]? = some (.cells S.cells 63 (0, 0))
  gr : w.ownsRow B 3 1 S.gv S.gs.length (intsV S.gs)
  lr : w.ownsRow B 3 1 S.lv S.ls.length (intsV S.ls)
  sr : w.ownsRow B 3 1 S.sv S.ls.length (intsV S.ss)
  hm : ∃ D : DataW Unit, w.ownsMap Tryd.prog 3 ptrR S.hb S.nn D ∧ HmOk D (S.H.map fun h => (h.own, h.blk))
  om : ∃ D : DataW Unit, w.ownsMap Tryd.prog 3 (plainElem Tryd.prog 3) S.ob S.nn D ∧ OmOk D S.told
  hs : ∀ h ∈ S.H, h.At B w
  ap : ∀ h ∈ S.H, ∀ g, h.row.ownBlock = some g → S.gv.ownBlock ≠ some g ∧ S.lv.ownBlock ≠ some g ∧ S.sv.ownBlock ≠ some g
  hp : ∀ h ∈ S.H, ∀ h' ∈ S.H, ∀ g, h.row.ownBlock = some g → h'.row.ownBlock = some g → h.own = h'.own
  ne : S.hb ≠ S.ob
  low : B ≤ p ∧ B ≤ S.hb ∧ B ≤ S.ob
/-- What holds of a flight, plainly. -/
structure FInv (S : FS) : Prop where
  nest : NestOk S.ls S.ss
  right : RightL S.rows S.gs
  nod : (S.H.map HD.own).Nodup
  cls : ∀ h ∈ S.H, h.cls < S.ls.length
  many : ∀ h ∈ S.H, 1 ≤ h.many ∧ h.many ≤ 10000
  len : ∀ h ∈ S.H, (h.seats.length : Int) ≤ h.many
  sum : ∀ c, c < S.ls.length → S.ss.getD c 0 = ((S.H.filter (fun h => h.cls == c)).map HD.many).sum
  seat : ∀ h ∈ S.H, ∀ x ∈ h.seats, hasL S.rows S.gs x
  srt : ∀ h ∈ S.H, h.seats.Pairwise (· ≤ ·)
  uni : S.told.Nodup
  own : ∀ h ∈ S.H, (Lit.int .i64 h.own).wf = true
theorem ne_obj {w : World} {a b : Nat} {x y : Obj} (ha : w.heap[a]? = some x) (hb : w.heap[b]? = some y) (h : x ≠ y) : a ≠ b := fun e => by
  subst e
  rw [ha] at hb
  injection hb with hb
  exact h hb
theorem map_obj {P : Program} {H : Type} {R : Value → Option (DataW H × List MemPlace)} {w : World} {k : TypeId} {b n : Nat} {D : DataW H} (h : w.ownsMap P k R b n D) : ∃ es clock, w.heap[b]? = some (.map es clock) := by
  obtain ⟨es, clock, hb, _⟩ := h
  exact ⟨es, clock, hb⟩
theorem row_map {P : Program} {H : Type} {R : Value → Option (DataW H × List MemPlace)} {w : World} {k : TypeId} {b n : Nat} {D : DataW H} (h : w.ownsMap P k R b n D) {B : Nat} {e : TypeId} {size : Nat} {v : Value} {m : Nat} {xs : List Value} (hr : w.ownsRow B e size v m xs) : v.ownBlock ≠ some b := by
  intro hg
  obtain ⟨c, hc⟩ := row_blk hr hg
  obtain ⟨es, ck, hb⟩ := map_obj h
  rw [hb] at hc
  injection hc with hc
  cases hc
theorem FlAt.keep {w w' : World} {B p : Nat} {S : FS} (h : FlAt w B p S) (k : Below w.heap.size w w') : FlAt w' B p S := by
  obtain ⟨D1, h1, k1⟩ := h.hm
  obtain ⟨D2, h2, k2⟩ := h.om
  exact ⟨blk_below h.blk k (blk_lt h.blk), own_keep h.gr k, own_keep h.lr k, own_keep h.sr k, ⟨D1, map_keep h1 k, k1⟩, ⟨D2, map_keep h2 k, k2⟩, fun x hx => (h.hs x hx).move (k.block _ (blk_lt (h.hs x hx).blk)) (fun g hg => k.block g ((h.hs x hx).row.lt g hg).2), h.ap, h.hp, h.ne, h.low⟩
theorem HD.same {l : List HD} (h : (l.map HD.own).Nodup) {a b : HD} (ha : a ∈ l) (hb : b ∈ l) (e : a.own = b.own) : a = b := by
  induction l with
  | nil => cases ha
  | cons x r ih =>
    rw [List.map_cons, List.nodup_cons] at h
    rcases List.mem_cons.1 ha with rfl | ha'
    · rcases List.mem_cons.1 hb with rfl | hb'
      · rfl
      · exact absurd (List.mem_map.2 ⟨b, hb', e.symm⟩) h.1
    · rcases List.mem_cons.1 hb with rfl | hb'
      · exact absurd (List.mem_map.2 ⟨a, ha', e⟩) h.1
      · exact ih h.2 ha' hb'
/-- Two holds that are not one lie apart. -/
theorem FlAt.apart {w : World} {B p : Nat} {S : FS} (h : FlAt w B p S) {a b : HD} (ha : a ∈ S.H) (hb : b ∈ S.H) (e : a.own ≠ b.own) : a.blk ≠ b.blk ∧ ∀ g, a.row.ownBlock = some g → b.row.ownBlock ≠ some g :=
  ⟨ne_obj (h.hs a ha).blk (h.hs b hb).blk (fun k => e (by
    injection k with k
    unfold HD.cells at k
    injection k with k
    injection k with k _
    injection k)), fun g h1 h2 => e (h.hp a ha b hb g h1 h2)⟩
theorem FlAt.lt {w : World} {B p : Nat} {S : FS} (h : FlAt w B p S) : ∀ b ∈ S.blks p, b < w.heap.size ∧ B ≤ b := fun b hb => by
  obtain ⟨D1, h1, _⟩ := h.hm
  obtain ⟨D2, h2, _⟩ := h.om
  simp only [FS.blks, List.mem_cons, List.mem_flatMap] at hb
  rcases hb with rfl | rfl | rfl | ⟨x, hx, hb⟩
  · exact ⟨blk_lt h.blk, h.low.1⟩
  · exact ⟨h1.lt, h.low.2.1⟩
  · exact ⟨h2.lt, h.low.2.2⟩
  · unfold HD.bl at hb
    rcases List.mem_cons.1 hb with rfl | hb
    · exact ⟨blk_lt (h.hs x hx).blk, (h.hs x hx).low⟩
    · have hg : x.row.ownBlock = some b := by simpa using hb
      have := (h.hs x hx).row.lt b hg
      exact ⟨this.2, this.1⟩
/-- The blocks of a flight differ. -/
theorem FlAt.kinds {w : World} {B p : Nat} {S : FS} (h : FlAt w B p S) : p ≠ S.hb ∧ p ≠ S.ob ∧ (∀ x ∈ S.H, p ≠ x.blk ∧ S.hb ≠ x.blk ∧ S.ob ≠ x.blk ∧ x.row.ownBlock ≠ some p ∧ x.row.ownBlock ≠ some S.hb ∧ x.row.ownBlock ≠ some S.ob ∧ ∀ y ∈ S.H, x.row.ownBlock ≠ some y.blk) ∧
    (S.gv.ownBlock ≠ some p ∧ S.gv.ownBlock ≠ some S.hb ∧ S.gv.ownBlock ≠ some S.ob ∧ ∀ x ∈ S.H, S.gv.ownBlock ≠ some x.blk) ∧
    (S.lv.ownBlock ≠ some p ∧ S.lv.ownBlock ≠ some S.hb ∧ S.lv.ownBlock ≠ some S.ob ∧ ∀ x ∈ S.H, S.lv.ownBlock ≠ some x.blk) ∧
    (S.sv.ownBlock ≠ some p ∧ S.sv.ownBlock ≠ some S.hb ∧ S.sv.ownBlock ≠ some S.ob ∧ ∀ x ∈ S.H, S.sv.ownBlock ≠ some x.blk) := by
  obtain ⟨D1, h1, _⟩ := h.hm
  obtain ⟨D2, h2, _⟩ := h.om
  obtain ⟨e1, c1, m1⟩ := map_obj h1
  obtain ⟨e2, c2, m2⟩ := map_obj h2
  have row : ∀ {v : Value} {n : Nat} {xs : List Value}, w.ownsRow B 3 1 v n xs → v.ownBlock ≠ some p ∧ v.ownBlock ≠ some S.hb ∧ v.ownBlock ≠ some S.ob ∧ ∀ x ∈ S.H, v.ownBlock ≠ some x.blk := fun hr =>
    ⟨row_wb hr h.blk (by decide), row_map h1 hr, row_map h2 hr, fun x hx => row_wb hr (h.hs x hx).blk (by decide)⟩
  refine ⟨ne_obj h.blk m1 (by simp), ne_obj h.blk m2 (by simp), fun x hx => ⟨ne_obj h.blk (h.hs x hx).blk (by
    unfold FS.cells HD.cells
    intro k
    injection k with _ k
    revert k
    decide), ne_obj m1 (h.hs x hx).blk (by simp), ne_obj m2 (h.hs x hx).blk (by simp), row (h.hs x hx).row⟩, row h.gr, row h.lr, row h.sr⟩
/-- What a step of a flight may do. -/
def Moved (B p : Nat) (S : FS) (w w' : World) : Prop := ∃ S', FlAt w' B p S' ∧ FInv S' ∧ (S'.rows = S.rows ∧ S'.gs = S.gs ∧ S'.ls = S.ls ∧ S'.nn ≤ S.nn + 10001) ∧ Chg (S.blks p) w w' ∧ ∀ b ∈ S'.blks p, b ∈ S.blks p ∨ w.heap.size ≤ b
theorem Moved.same {B p : Nat} {S : FS} {w w' : World} (h : FlAt w B p S) (i : FInv S) (k : Below w.heap.size w w') : Moved B p S w w' :=
  ⟨S, h.keep k, i, ⟨rfl, rfl, rfl, by omega⟩, .of_below k, fun _ hb => .inl hb⟩
end Go.Proofs.YtmnoacjmdnmddaaDoor
