/- flight: what Take, Give, tell come to, plainly and in memory. Conditions: none. -/
import Derived.Test.YtmnoacjmdnmddaaDoorTcHolds
namespace Go.Proofs.YtmnoacjmdnmddaaDoor
open Go.RowKit Go.Maps
/-- How many of a class are held. -/
def heldC (H : List HD) (c : Nat) : Int := ((H.filter (fun h => h.cls == c)).map HD.many).sum
theorem heldC_nil (c : Nat) : heldC [] c = 0 := rfl
theorem heldC_cons (h : HD) (H : List HD) (c : Nat) : heldC (h :: H) c = (if h.cls = c then h.many else 0) + heldC H c := by
  unfold heldC
  by_cases e : h.cls = c
  · rw [if_pos e, List.filter_cons_of_pos (by simpa using e), List.map_cons, List.sum_cons]
  · rw [if_neg e, List.filter_cons_of_neg (by simpa using e), Int.zero_add]
theorem heldC_append (H H' : List HD) (c : Nat) : heldC (H ++ H') c = heldC H c + heldC H' c := by
  induction H with
  | nil => rw [List.nil_append, heldC_nil, Int.zero_add]
  | cons x r ih => rw [List.cons_append, heldC_cons, heldC_cons, ih, Int.add_assoc]
theorem heldC_mid (A C : List HD) (x : HD) (c : Nat) : heldC (A ++ x :: C) c = heldC (A ++ C) c + (if x.cls = c then x.many else 0) := by
  rw [heldC_append, heldC_cons, heldC_append]
  omega
theorem heldC_le {H : List HD} (hm : ∀ h ∈ H, 0 ≤ h.many) {x : HD} (hx : x ∈ H) : x.many ≤ heldC H x.cls ∧ ∀ c, 0 ≤ heldC H c := by
  have nn : ∀ {l : List HD}, (∀ h ∈ l, 0 ≤ h.many) → ∀ c, 0 ≤ heldC l c := by
    intro l
    induction l with
    | nil => intro _ c; rw [heldC_nil]; exact Int.le_refl _
    | cons y r ih =>
      intro h c
      rw [heldC_cons]
      have h1 := ih (fun z hz => h z (List.mem_cons_of_mem _ hz)) c
      have h2 := h y (List.mem_cons_self ..)
      split <;> omega
  refine ⟨?_, nn hm⟩
  obtain ⟨A, C, rfl⟩ := List.append_of_mem hx
  rw [heldC_mid, if_pos rfl]
  have := nn (l := A ++ C) (fun h hh => hm h (by
    rcases List.mem_append.1 hh with h1 | h1
    · exact List.mem_append_left _ h1
    · exact List.mem_append_right _ (List.mem_cons_of_mem _ h1))) x.cls
  omega
def FS.take (S : FS) (x : HD) (sa : Option Addr) (sc : Nat) : FS := { S with ss := moreL S.ss x.cls x.many, sa := sa, sc := sc, H := S.H ++ [x], nn := S.nn + 1 }
theorem FInv.take {S : FS} (i : FInv S) {x : HD} (sa : Option Addr) (sc : Nat) (hn : ∀ h ∈ S.H, h.own ≠ x.own) (hc : x.cls < S.ls.length) (h1 : 1 ≤ x.many) (h2 : x.many ≤ leastL S.ls S.ss x.cls) (hs : x.seats = []) (ho : (Lit.int .i64 x.own).wf = true) : FInv (S.take x sa sc) := by
  have hl := (leastD_rng i.nest (x.cls : Int) S.ls.length (Nat.le_refl _)).2
  change leastL S.ls S.ss x.cls ≤ 10000 at hl
  have all : ∀ {P : HD → Prop}, (∀ h ∈ S.H, P h) → P x → ∀ h ∈ S.H ++ [x], P h := fun {P} ha hx h hh => by
    rcases List.mem_append.1 hh with h1 | h1
    · exact ha h h1
    · have : h = x := by simpa using h1
      rw [this]; exact hx
  refine ⟨i.nest.sell hc h1 h2, i.right, ?_, all i.cls hc, all i.many ⟨h1, by omega⟩, all i.len (by rw [hs]; simp; omega), fun c hc' => ?_, all i.seat (by rw [hs]; simp), all i.srt (by rw [hs]; exact List.Pairwise.nil), ?_, all i.own ho⟩
  · show ((S.H ++ [x]).map HD.own).Nodup
    rw [List.map_append, List.nodup_append]
    refine ⟨i.nod, by simp, fun a ha b hb e => ?_⟩
    obtain ⟨h, hh, rfl⟩ := List.mem_map.1 ha
    have : b = x.own := by simpa using hb
    exact hn h hh (e.trans this)
  · show (moreL S.ss x.cls x.many).getD c 0 = heldC (S.H ++ [x]) c
    rw [moreL_at _ _ _ (by rw [i.nest.len]; exact hc'), heldC_append, heldC_cons, heldC_nil]
    have h3 : S.ss.getD c 0 = heldC S.H c := i.sum c hc'
    by_cases e : c = x.cls
    · rw [if_pos e, if_pos e.symm, ← e, h3]; omega
    · rw [if_neg e, if_neg (fun k => e k.symm), h3]; omega
  · show ((S.H ++ [x]).flatMap HD.seats).Nodup
    rw [List.flatMap_append]
    show (S.told ++ (x.seats ++ [])).Nodup
    rw [hs, List.append_nil, List.append_nil]
    exact i.uni
theorem Chg.wide {L L' : List Nat} {w w' : World} (h : Chg L w w') (hL : ∀ x ∈ L, x ∈ L') : Chg L' w w' := ⟨h.os, h.tape, h.output, h.size, fun k hk hn => h.block k hk (fun hm => hn (hL k hm))⟩
/-- The blocks of a flight stay. -/
theorem FlAt.hs_keep {w w' : World} {B p : Nat} {S : FS} (h : FlAt w B p S) {L : List Nat} (k : Chg L w w') (hL : ∀ b ∈ L, b = p ∨ b = S.hb ∨ b = S.ob) : ∀ x ∈ S.H, x.At B w' := fun x hx => by
  obtain ⟨a1, a2, a3, a4, a5, a6, _⟩ := h.kinds.2.2.1 x hx
  refine (h.hs x hx).move (k.block _ (blk_lt (h.hs x hx).blk) (fun hm => ?_)) (fun g hg => k.block g ((h.hs x hx).row.lt g hg).2 (fun hm => ?_))
  · rcases hL _ hm with e | e | e
    · exact a1 e.symm
    · exact a2 e.symm
    · exact a3 e.symm
  · rcases hL _ hm with e | e | e
    · exact a4 (by rw [hg, e])
    · exact a5 (by rw [hg, e])
    · exact a6 (by rw [hg, e])
theorem take_fl {w w1 w4 : World} {B p : Nat} {S : FS} (h : FlAt w B p S) (i : FInv S) {x : HD} {sa : Option Addr} {sc : Nat} (hn : ∀ h ∈ S.H, h.own ≠ x.own) (hc : x.cls < S.ls.length) (h1 : 1 ≤ x.many) (h2 : x.many ≤ leastL S.ls S.ss x.cls) (hs : x.seats = []) (ho : (Lit.int .i64 x.own).wf = true)
    (hr : x.row = .slice none 0 0) (hb : Below w.heap.size w w1) (hrow : w1.ownsRow w.heap.size 3 1 (.slice sa S.ls.length sc) S.ls.length (intsV (moreL S.ss x.cls x.many))) (hB : B ≤ w.heap.size) (hxb : x.blk = w1.heap.size) {D : DataW Unit} (hDo : HmOk D (S.H.map fun h => (h.own, h.blk))) (hID : IsMap D)
    (hmap : w4.ownsMap Tryd.prog 3 ptrR S.hb (S.nn + 1) (D.put (.int .i64 x.own) (.lit (.int .i64 x.blk)))) (hg : ((w1.setCell ⟨p, 4, none⟩ (.slice sa S.ls.length sc)).alloc (.cells x.cells 50)).grownBy w4 (some S.hb)) : Moved B p S w w4 := by
  obtain ⟨w3, hw3⟩ : ∃ w3, w3 = (w1.setCell ⟨p, 4, none⟩ (.slice sa S.ls.length sc)).alloc (.cells x.cells 50) := ⟨_, rfl⟩
  rw [← hw3] at hg
  have hpw : p < w.heap.size := blk_lt h.blk
  have hszs : (w1.setCell ⟨p, 4, none⟩ (.slice sa S.ls.length sc)).heap.size = w1.heap.size := by simp [World.setCell]
  have k1 : Chg [p] w w1 := .of_below hb
  have k2 : Chg [p] w (w1.setCell ⟨p, 4, none⟩ (.slice sa S.ls.length sc)) := k1.set (.inl (by simp)) _
  have k3 : Chg [p] w w3 := by
    rw [hw3]
    exact k2.below (bl_alloc (Below.refl _ _) _)
  have k4 : Chg [p, S.hb] w w4 := (k3.wide (L' := [p, S.hb]) (fun y hy => by simp at hy; simp [hy])).grown hg (fun k hk => by injection hk with hk; left; simp [hk])
  have hk := h.kinds
  have hp1 : w1.heap[p]? = some (.cells S.cells 63 (0, 0)) := blk_below h.blk hb hpw
  have hp3 : w3.heap[p]? = some (.cells (S.take x sa sc).cells 63 (0, 0)) := by
    rw [hw3]
    refine blk_alloc ((blk_set hp1 4 _).trans ?_) _
    rfl
  have hp4 : w4.heap[p]? = some (.cells (S.take x sa sc).cells 63 (0, 0)) := (hg.block p (blk_lt hp3) (fun e => hk.1 (by injection e))).trans hp3
  have hx3 : w3.heap[x.blk]? = some (.cells x.cells 50 (0, 0)) := by
    rw [hw3]
    exact blk_new _ _ (by rw [hxb, hszs])
  obtain ⟨es, ck, hmo⟩ := map_obj hmap
  obtain ⟨D1, hD1, _⟩ := h.hm
  obtain ⟨D2, hD2, hDo2⟩ := h.om
  have hxh : x.blk ≠ S.hb := by
    have := hD1.lt
    have := hb.size
    omega
  have hx4 : w4.heap[x.blk]? = some (.cells x.cells 50 (0, 0)) := (hg.block _ (blk_lt hx3) (fun e => hxh (by injection e))).trans hx3
  have rowk : ∀ {v : Value} {n : Nat} {xs : List Value}, w.ownsRow B 3 1 v n xs → v.ownBlock ≠ some p → v.ownBlock ≠ some S.hb → w4.ownsRow B 3 1 v n xs := fun {v} {n} {xs} hr n1 n2 => ownsRow_blk hr fun g hg' => k4.block g (hr.lt g hg').2 (fun hm => by
    simp at hm
    rcases hm with e | e
    · exact n1 (by rw [hg', e])
    · exact n2 (by rw [hg', e]))
  have hrow4 : w4.ownsRow B 3 1 (.slice sa S.ls.length sc) S.ls.length (intsV (moreL S.ss x.cls x.many)) := by
    have h5 := row_base hrow hB
    refine ownsRow_blk h5 fun g hg' => ?_
    have hlt := (hrow.lt g hg')
    have hgs : g ≠ S.hb := by have := hD1.lt; omega
    have hgp : g ≠ p := by omega
    refine (hg.block g ?_ (fun e => hgs (by injection e))).trans ?_
    · rw [hw3]; simp [hszs]; omega
    · rw [hw3]
      exact (Below.heap_alloc _ _ g (by rw [hszs]; exact hlt.2)).trans (Below.heap_setCell _ _ _ _ hgp)
  have hsaB : ∀ g, (Value.slice sa S.ls.length sc).ownBlock = some g → w.heap.size ≤ g := fun g hg' => (hrow.lt g hg').1
  refine ⟨S.take x sa sc, ⟨hp4, rowk h.gr hk.2.2.2.1.1 hk.2.2.2.1.2.1, rowk h.lr hk.2.2.2.2.1.1 hk.2.2.2.2.1.2.1, hrow4, ⟨_, hmap, ?_⟩, ⟨D2, (map_blk hD2 (k4.block _ hD2.lt (by
      simp
      exact ⟨fun e => hk.2.1 e.symm, fun e => h.ne e.symm⟩))).mono (by show S.nn ≤ S.nn + 1; omega), ?_⟩, ?_, ?_, ?_, h.ne, h.low⟩, i.take sa sc hn hc h1 h2 hs ho, ⟨rfl, rfl, rfl, by show S.nn + 1 ≤ _; omega⟩, ?_, ?_⟩
  · show HmOk _ ((S.H ++ [x]).map _)
    rw [List.map_append]
    exact hDo.put hID (fun p' hp' => by
      obtain ⟨y, hy, rfl⟩ := List.mem_map.1 hp'
      exact hn y hy)
  · show OmOk D2 ((S.H ++ [x]).flatMap HD.seats)
    rw [List.flatMap_append]
    show OmOk D2 (S.told ++ (x.seats ++ []))
    rw [hs, List.append_nil, List.append_nil]
    exact hDo2
  · intro y hy
    rcases List.mem_append.1 hy with h5 | h5
    · exact h.hs_keep k4 (fun b hb => by simp at hb; omega) y h5
    · have : y = x := by simpa using h5
      subst this
      refine ⟨hx4, ?_, ?_⟩
      · rw [hr, hs]; exact World.ownsRow_nil _ _ _ _
      · rw [hxb]; exact Nat.le_trans hB hb.size
  · intro y hy g hg'
    rcases List.mem_append.1 hy with h5 | h5
    · obtain ⟨b1, b2, _⟩ := h.ap y h5 g hg'
      refine ⟨b1, b2, fun e => ?_⟩
      have := hsaB g e
      have := ((h.hs y h5).row.lt g hg').2
      omega
    · have : y = x := by simpa using h5
      subst this
      rw [hr] at hg'
      cases hg'
  · intro y hy z hz g hy' hz'
    rcases List.mem_append.1 hy with h5 | h5
    · rcases List.mem_append.1 hz with h6 | h6
      · exact h.hp y h5 z h6 g hy' hz'
      · have : z = x := by simpa using h6
        subst this
        rw [hr] at hz'
        cases hz'
    · have : y = x := by simpa using h5
      subst this
      rw [hr] at hy'
      cases hy'
  · refine ⟨k4.os, k4.tape, k4.output, k4.size, fun j hj hn' => k4.block j hj (fun hm => hn' ?_)⟩
    simp at hm
    rcases hm with e | e <;> simp [FS.blks, e]
  · intro b hb'
    simp only [FS.blks, List.mem_cons] at hb'
    rcases hb' with e | e | e | e
    · left; simp [FS.blks, e]
    · left
      have e : b = S.hb := e
      simp [FS.blks, e]
    · left
      have e : b = S.ob := e
      simp [FS.blks, e]
    · have e : b ∈ (S.H ++ [x]).flatMap HD.bl := e
      rw [List.flatMap_append, List.mem_append] at e
      rcases e with e | e
      · left
        simp only [FS.blks, List.mem_cons]
        exact .inr (.inr (.inr e))
      · right
        have e : b ∈ x.bl ++ [] := e
        rw [List.append_nil] at e
        unfold HD.bl at e
        rw [hr] at e
        have : b = x.blk := by simpa [Value.ownBlock] using e
        rw [this, hxb]
        exact hb.size
end Go.Proofs.YtmnoacjmdnmddaaDoor
