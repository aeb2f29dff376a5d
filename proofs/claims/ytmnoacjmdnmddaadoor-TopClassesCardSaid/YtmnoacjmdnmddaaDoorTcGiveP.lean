/- flight: Give, plainly and in memory. Conditions: none. -/
import Derived.Test.YtmnoacjmdnmddaaDoorTcTell
namespace Go.Proofs.YtmnoacjmdnmddaaDoor
open Go.RowKit Go.Maps
def FS.give (S : FS) (A C : List HD) (x : HD) (sa : Option Addr) (sc : Nat) : FS := { S with ss := moreL S.ss x.cls (-x.many), sa := sa, sc := sc, H := A ++ C }
theorem FInv.many0 {S : FS} (i : FInv S) : ∀ h ∈ S.H, 0 ≤ h.many := fun h hh => by have := (i.many h hh).1; omega
theorem FInv.sold {S : FS} (i : FInv S) {x : HD} (hx : x ∈ S.H) : x.many ≤ S.ss.getD x.cls 0 := by
  have h1 : S.ss.getD x.cls 0 = heldC S.H x.cls := i.sum x.cls (i.cls x hx)
  rw [h1]
  exact (heldC_le i.many0 hx).1
theorem sub_mid {A C : List HD} {x : HD} {f : HD → Int} (h : ((A ++ x :: C).map f).Nodup) : ((A ++ C).map f).Nodup := by
  rw [List.map_append, List.map_cons] at h
  have h2 := (List.perm_middle (a := f x) (l₁ := A.map f) (l₂ := C.map f)).nodup_iff.1 h
  rw [List.map_append]
  exact (List.nodup_cons.1 h2).2
theorem FInv.give {S : FS} (i : FInv S) {A C : List HD} {x : HD} (hH : S.H = A ++ x :: C) (sa : Option Addr) (sc : Nat) : FInv (S.give A C x sa sc) := by
  have hx : x ∈ S.H := by rw [hH]; simp
  have old : ∀ y ∈ A ++ C, y ∈ S.H := fun y hy => by rw [hH]; exact mid_mem.2 (.inr hy)
  have hso := i.sold hx
  refine ⟨i.nest.back (i.cls x hx) (i.many x hx).1 hso, i.right, ?_, fun h hh => i.cls h (old h hh), fun h hh => i.many h (old h hh), fun h hh => i.len h (old h hh), fun c hc' => ?_, fun h hh => i.seat h (old h hh), fun h hh => i.srt h (old h hh), ?_, fun h hh => i.own h (old h hh)⟩
  · have h1 := i.nod
    rw [hH] at h1
    exact sub_mid h1
  · show (moreL S.ss x.cls (-x.many)).getD c 0 = heldC (A ++ C) c
    rw [moreL_at _ _ _ (by rw [i.nest.len]; exact hc')]
    have h3 : S.ss.getD c 0 = heldC S.H c := i.sum c hc'
    rw [hH, heldC_mid] at h3
    by_cases e : c = x.cls
    · rw [if_pos e]
      rw [if_pos e.symm] at h3
      rw [← e, h3]; omega
    · rw [if_neg e]
      rw [if_neg (fun k => e k.symm)] at h3
      rw [h3]; omega
  · show ((A ++ C).flatMap HD.seats).Nodup
    have h1 := i.uni
    unfold FS.told at h1
    rw [hH] at h1
    exact (List.nodup_append.1 ((told_perm A C x).nodup_iff.1 h1)).2.1
theorem told_give {S : FS} (i : FInv S) {A C : List HD} {x : HD} (hH : S.H = A ++ x :: C) (y : Int) : y ∈ (A ++ C).flatMap HD.seats ↔ y ∈ S.told ∧ ¬ y ∈ x.seats := by
  have h1 := i.uni
  unfold FS.told at h1 ⊢
  rw [hH] at h1 ⊢
  have h2 := List.nodup_append.1 ((told_perm A C x).nodup_iff.1 h1)
  rw [told_mid]
  constructor
  · intro h
    exact ⟨.inr h, fun k => h2.2.2 y k y h rfl⟩
  · rintro ⟨h | h, k⟩
    · exact absurd h k
    · exact h
theorem give_fl {w w1 w2 w4 : World} {B p : Nat} {S : FS} (h : FlAt w B p S) (i : FInv S) (hB : B ≤ w.heap.size) {x : HD} (hx : x ∈ S.H) {sa : Option Addr} {sc : Nat} {D D2 : DataW Unit}
    (hDo : HmOk D (S.H.map fun h => (h.own, h.blk))) (hg1 : w.grownBy w1 (some S.ob)) (ho1 : w1.ownsMap Tryd.prog 3 (plainElem Tryd.prog 3) S.ob S.nn D2) (hD2 : ∀ y, has D2 (.int .i64 y) = true ↔ y ∈ S.told ∧ ¬ y ∈ x.seats)
    (hb : Below w1.heap.size w1 w2) (hrow : w2.ownsRow w1.heap.size 3 1 (.slice sa S.ls.length sc) S.ls.length (intsV (moreL S.ss x.cls (-x.many))))
    (hmap : w4.ownsMap Tryd.prog 3 ptrR S.hb S.nn (D.del (.int .i64 x.own))) (hg : (w2.setCell ⟨p, 4, none⟩ (.slice sa S.ls.length sc)).grownBy w4 (some S.hb)) : Moved B p S w w4 := by
  obtain ⟨A, C, hH⟩ := List.append_of_mem hx
  have old : ∀ y ∈ A ++ C, y ∈ S.H := fun y hy => by rw [hH]; exact mid_mem.2 (.inr hy)
  have hnod := i.nod
  have ne_own : ∀ y ∈ A ++ C, y.own ≠ x.own := by
    intro y hy e
    rw [hH, List.map_append, List.map_cons] at hnod
    have h2 := (List.perm_middle (a := x.own) (l₁ := A.map HD.own) (l₂ := C.map HD.own)).nodup_iff.1 hnod
    have h3 := (List.nodup_cons.1 h2).1
    rw [← e, ← List.map_append] at h3
    exact h3 (List.mem_map.2 ⟨y, hy, rfl⟩)
  obtain ⟨w3, hw3⟩ : ∃ w3, w3 = w2.setCell ⟨p, 4, none⟩ (.slice sa S.ls.length sc) := ⟨_, rfl⟩
  rw [← hw3] at hg
  have hpw : p < w.heap.size := blk_lt h.blk
  have hk := h.kinds
  have hszs : w3.heap.size = w2.heap.size := by rw [hw3]; simp [World.setCell]
  have k1 : Chg [p, S.hb, S.ob] w w1 := (Chg.refl _ w).grown hg1 (fun k hk => by injection hk with hk; left; simp [hk])
  have k3 : Chg [p, S.hb, S.ob] w w3 := by
    rw [hw3]
    exact (k1.below hb).set (.inl (by simp)) _
  have k4 : Chg [p, S.hb, S.ob] w w4 := k3.grown hg (fun k hk => by injection hk with hk; left; simp [hk])
  have hp1 : w1.heap[p]? = some (.cells S.cells 63 (0, 0)) := (hg1.block p hpw (fun e => hk.2.1 (by injection e))).trans h.blk
  have hp2 := blk_below hp1 hb (blk_lt hp1)
  have hp3 : w3.heap[p]? = some (.cells (S.give A C x sa sc).cells 63 (0, 0)) := by
    rw [hw3]
    refine (blk_set hp2 4 _).trans ?_
    rfl
  have hp4 : w4.heap[p]? = some (.cells (S.give A C x sa sc).cells 63 (0, 0)) := (hg.block p (blk_lt hp3) (fun e => hk.1 (by injection e))).trans hp3
  obtain ⟨D1, hD1, _⟩ := h.hm
  have rowk : ∀ {v : Value} {n : Nat} {xs : List Value}, w.ownsRow B 3 1 v n xs → v.ownBlock ≠ some p → v.ownBlock ≠ some S.hb → v.ownBlock ≠ some S.ob → w4.ownsRow B 3 1 v n xs := fun {v} {n} {xs} hr n1 n2 n3 => ownsRow_blk hr fun g hg' => k4.block g (hr.lt g hg').2 (fun hm => by
    simp at hm
    rcases hm with e | e | e
    · exact n1 (by rw [hg', e])
    · exact n2 (by rw [hg', e])
    · exact n3 (by rw [hg', e]))
  have hsz1 : w.heap.size ≤ w1.heap.size := hg1.size
  have hrow4 : w4.ownsRow B 3 1 (.slice sa S.ls.length sc) S.ls.length (intsV (moreL S.ss x.cls (-x.many))) := by
    have h5 := row_base hrow (Nat.le_trans hB hsz1)
    refine ownsRow_blk h5 fun g hg' => ?_
    have hlt := (hrow.lt g hg')
    have hgs : g ≠ S.hb := by have := hD1.lt; omega
    have hgp : g ≠ p := by omega
    refine (hg.block g (by rw [hszs]; exact hlt.2) (fun e => hgs (by injection e))).trans ?_
    rw [hw3]
    exact Below.heap_setCell _ _ _ _ hgp
  have hob4 : w4.ownsMap Tryd.prog 3 (plainElem Tryd.prog 3) S.ob S.nn D2 := by
    have h2 := map_keep ho1 hb
    refine map_blk h2 ((hg.block _ (by rw [hszs]; exact h2.lt) (fun e => h.ne (by injection e with e; exact e.symm))).trans ?_)
    rw [hw3]
    exact Below.heap_setCell _ _ _ _ (fun e => hk.2.1 e.symm)
  have hsaB : ∀ g, (Value.slice sa S.ls.length sc).ownBlock = some g → w1.heap.size ≤ g := fun g hg' => (hrow.lt g hg').1
  have hskeep := h.hs_keep k4 (fun b hb => by simp at hb; exact hb)
  refine ⟨S.give A C x sa sc, ⟨hp4, rowk h.gr hk.2.2.2.1.1 hk.2.2.2.1.2.1 hk.2.2.2.1.2.2.1, rowk h.lr hk.2.2.2.2.1.1 hk.2.2.2.2.1.2.1 hk.2.2.2.2.1.2.2.1, hrow4, ⟨_, hmap, ?_⟩, ⟨D2, hob4, fun y => (hD2 y).trans (told_give i hH y).symm⟩, fun y hy => hskeep y (old y hy), ?_, fun y hy z hz => h.hp y (old y hy) z (old z hz), h.ne, h.low⟩, i.give hH sa sc, ⟨rfl, rfl, rfl, by show S.nn ≤ _; omega⟩, ?_, ?_⟩
  · show HmOk _ ((A ++ C).map _)
    rw [hH, List.map_append, List.map_cons] at hDo
    rw [List.map_append]
    refine hDo.del fun q hq => ?_
    rw [← List.map_append] at hq
    obtain ⟨y, hy, rfl⟩ := List.mem_map.1 hq
    exact ne_own y hy
  · intro y hy g hg'
    obtain ⟨b1, b2, _⟩ := h.ap y (old y hy) g hg'
    refine ⟨b1, b2, fun e => ?_⟩
    have := hsaB g e
    have := ((h.hs y (old y hy)).row.lt g hg').2
    omega
  · refine k4.wide fun b hb' => ?_
    simp at hb'
    rcases hb' with e | e | e <;> simp [FS.blks, e]
  · intro b hb'
    left
    simp only [FS.blks, List.mem_cons] at hb' ⊢
    rcases hb' with e | e | e | e
    · left; exact e
    · right; left; exact e
    · right; right; left; exact e
    · right; right; right
      obtain ⟨y, hy, hby⟩ := List.mem_flatMap.1 e
      exact List.mem_flatMap.2 ⟨y, old y hy, hby⟩
end Go.Proofs.YtmnoacjmdnmddaaDoor
