/- slices.BinarySearch on a row of the caller's own; maps.Keys, slices.Sorted, slices.Collect at integers. Conditions: none. -/
import Derived.Test.YtmnoacjmdnmddaaDoorTcIns
namespace Go.Proofs.YtmnoacjmdnmddaaDoor
open Go.RowKit Go.Maps Go.Sort Go.Shelf
set_option maxRecDepth 100000 in
theorem search_at {w : World} {B : Nat} {v : Value} {n : Nat} {xs : List Int} (h : w.ownsRow B 3 1 v n (intsV xs)) (hs : xs.Pairwise (· ≤ ·)) (x : Int) (hn : n ≤ 100000) :
    Calls Tryd.prog 45 #[v, .int .i64 x] w fun e w' => e = .returned (.tuple #[.int .i64 (xs.countP (· < x) : Nat), .bool (xs.contains x)]) ∧ ∃ q, w' = w.drewN q := by
  have hl : xs.length = n := by have := h.1; rw [intsV_len] at this; omega
  rcases h.2 with ⟨rfl, h0⟩ | ⟨g, cap, cur, rfl, hg, hcur, hnc, hcm, hsz, htk⟩
  · subst h0
    have hx0 : xs = [] := List.eq_nil_of_length_eq_zero hl
    subst hx0
    refine (show Calls Tryd.prog 45 _ _ _ from Any.slices_BinarySearch_int_empty laySearch none 0 x w).mono ?_
    rintro e w' ⟨rfl, rfl⟩
    exact ⟨rfl, 0, rfl⟩
  · refine (show Calls Tryd.prog 45 _ _ _ from Any.slices_BinarySearch_int laySearch g 0 n cap xs x w (by omega) (by omega) (fun j hj => by rw [Nat.zero_add]; exact row_cell h (intsV_get hj)) (by rw [← hl, List.take_length]; exact hs)).mono ?_
    rintro e w' ⟨rfl, hq⟩
    refine ⟨?_, hq⟩
    rw [← hl, List.take_length]
/-- A map's keys. -/
theorem keys_mem {P : Program} {H : Type} {R : Value → Option (DataW H × List MemPlace)} {w : World} {k : TypeId} {b n : Nat} {D : DataW H} (hown : w.ownsMap P k R b n D) (K : Keyed P k) (hk : P.underlying k = some (.int .i64)) :
    (intKeys D).Nodup ∧ (∀ x, x ∈ intKeys D ↔ has D (.int .i64 x) = true) ∧ (intKeys D).length = Maps.size D := by
  obtain ⟨es, hD, hpw, _⟩ := hown.entries K
  obtain ⟨es', hD', hko⟩ := hown.keysOf
  obtain rfl : es = es' := by rw [hD] at hD'; simpa using hD'
  subst hD
  have hkx : ∀ p ∈ es, ∃ x, p.1 = .int .i64 x := fun p hp => by
    obtain ⟨v, hv⟩ := hko p hp
    obtain ⟨x, _, hx, _⟩ := Maps.keyOf_i64 hk hv
    exact ⟨x, hx⟩
  refine ⟨?_, fun x => ?_, ?_⟩
  · show (es.map fun p => _root_.Go.intOf p.1).Nodup
    refine List.pairwise_map.2 (hpw.imp_of_mem fun {p q} hp' hq' hne e => hne ?_)
    obtain ⟨a, ha⟩ := hkx p hp'
    obtain ⟨b, hb⟩ := hkx q hq'
    rw [ha, hb] at e ⊢
    exact congrArg _ e
  · rw [has_eq, List.any_eq_true]
    show x ∈ es.map (fun p => _root_.Go.intOf p.1) ↔ _
    rw [List.mem_map]
    constructor
    · rintro ⟨p, hp', rfl⟩
      obtain ⟨a, ha⟩ := hkx p hp'
      exact ⟨p, hp', by rw [ha]; simp [Lit.sameKey, _root_.Go.intOf]⟩
    · rintro ⟨p, hp', hs⟩
      obtain ⟨a, ha⟩ := hkx p hp'
      rw [ha] at hs
      exact ⟨p, hp', by rw [ha]; simpa [Lit.sameKey, _root_.Go.intOf] using hs⟩
  · show (es.map fun p => _root_.Go.intOf p.1).length = es.length
    simp
/-- A map at hand in another world. -/
theorem map_blk {P : Program} {H : Type} {R : Value → Option (DataW H × List MemPlace)} {w w' : World} {k : TypeId} {b n : Nat} {D : DataW H} (h : w.ownsMap P k R b n D) (hb : w'.heap[b]? = w.heap[b]?) : w'.ownsMap P k R b n D := by
  obtain ⟨es, clock, hb', F, hs, hD⟩ := h
  exact ⟨es, clock, hb.trans hb', F, hs, hD⟩
theorem map_keep {P : Program} {H : Type} {R : Value → Option (DataW H × List MemPlace)} {w w' : World} {k : TypeId} {b n : Nat} {D : DataW H} (h : w.ownsMap P k R b n D) (k' : Below w.heap.size w w') : w'.ownsMap P k R b n D := map_blk h (k'.block b h.lt)
theorem int_key : Keyed Tryd.prog 3 := int_keyed Tryd.underlying3
theorem sorts_at (m : Nat) : AnyZI.SortsIn Tryd.prog laySorted_ren Fence.wide m :=
  ⟨fun blk off cap ss W hH hblk hsz => callsIn_wide.2 (AnyM.slices_Sort_int laySort blk off cap ss W hH hblk hsz),
   fun p cap W => callsIn_wide.2 (AnyM.slices_Sort_int_none laySort p cap W)⟩
set_option maxRecDepth 100000 in
theorem keysH_at (mb : Option Nat) (w : World) : Calls Tryd.prog 33 #[.map mb] w fun e w' => e = .returned (.func (.func 49) #[] #[.pointer (some ⟨w.heap.size, 0, none⟩)]) ∧ w' = w.alloc (.cells #[.map mb] 60) :=
  (callsIn_wide (n := 6)).1 (AnyZI.keys_in layKeysH Fence.wide 6 trivial rfl mb w)
set_option maxRecDepth 100000 in
theorem keysO_at (mb : Option Nat) (w : World) : Calls Tryd.prog 28 #[.map mb] w fun e w' => e = .returned (.func (.func 44) #[] #[.pointer (some ⟨w.heap.size, 0, none⟩)]) ∧ w' = w.alloc (.cells #[.map mb] 61) :=
  (callsIn_wide (n := 6)).1 (AnyZI.keys_in layKeysO Fence.wide 6 trivial rfl mb w)
/-- Sorted numbers. -/
def sortI (ss : List Int) : List Int := ss.mergeSort (fun x y => decide (x ≤ y))
theorem sortI_perm (ss : List Int) : (sortI ss).Perm ss := List.mergeSort_perm _ _
set_option maxRecDepth 100000 in
theorem sorted_at {H : Type} {R : Value → Option (DataW H × List MemPlace)} {w : World} {b nn Bm : Nat} {D : DataW H} (hown : w.ownsMap Tryd.prog 3 R b nn D) (hm : w.cell? ⟨Bm, 0, none⟩ = some (.map (some b))) (hn : nn ≤ 1099511627776) :
    Calls Tryd.prog 32 #[.func (.func 49) #[] #[.pointer (some ⟨Bm, 0, none⟩)]] w fun e w' => ∃ (a : Option Addr) (c : Nat) (ss : List Int), e = .returned (.slice a ss.length c) ∧ ss.Perm (intKeys D) ∧
      w'.ownsRow w.heap.size 3 1 (.slice a ss.length c) ss.length (intsV ss) ∧ Below w.heap.size w w' := by
  have hsz := hown.size_le
  have hseq : SeqGives Fence.wide 3 Tryd.prog 49 #[.pointer (some ⟨Bm, 0, none⟩)] encZ (fun ss => ss.Perm (intKeys D)) (Maps.size D) w :=
    AnyZI.keys_gives (ρ := layKeysH_ren) { layKeysH with } Fence.wide _ trivial rfl (by omega) Bm b nn D w (World.block_lt_of_cell? w _ hm) hm hown
  have cS := AnyZI.sorted_in laySorted Fence.wide 6 trivial trivial trivial trivial rfl (by omega) (sorts_at _) (enters_of Tryd.func48 (by kernel_rfl) rfl) 49 #[.pointer (some ⟨Bm, 0, none⟩)] trivial (enters_of Tryd.func49 (by kernel_rfl) rfl) _ (Maps.size D) (by unfold maxLen; omega) (by omega) w hseq
  refine ((callsIn_wide (n := 6)).1 cS).mono ?_
  rintro e w' ⟨v, ss, rfl, hp, hrow, _, hb⟩
  have hp2 : (sortI ss).Perm (intKeys D) := (sortI_perm ss).trans hp
  have hl : (sortI ss).length = ss.length := (sortI_perm ss).length_eq
  obtain ⟨a, c, rfl⟩ := own_slice hrow
  rw [← hl] at hrow ⊢
  exact ⟨a, c, sortI ss, rfl, hp2, hrow, hb⟩
set_option maxRecDepth 100000 in
theorem collect_at {H : Type} {R : Value → Option (DataW H × List MemPlace)} {w : World} {b nn Bm : Nat} {D : DataW H} (hown : w.ownsMap Tryd.prog 3 R b nn D) (hm : w.cell? ⟨Bm, 0, none⟩ = some (.map (some b))) (hn : nn ≤ 1099511627776) :
    Calls Tryd.prog 27 #[.func (.func 44) #[] #[.pointer (some ⟨Bm, 0, none⟩)]] w fun e w' => ∃ (a : Option Addr) (c : Nat) (ss : List Int), e = .returned (.slice a ss.length c) ∧ ss.Perm (intKeys D) ∧
      w'.ownsRow w.heap.size 3 1 (.slice a ss.length c) ss.length (intsV ss) ∧ Below w.heap.size w w' := by
  have hsz := hown.size_le
  have hseq : SeqGives Fence.wide 4 Tryd.prog 44 #[.pointer (some ⟨Bm, 0, none⟩)] encZ (fun ss => ss.Perm (intKeys D)) (Maps.size D) w :=
    AnyZI.keys_gives (ρ := layKeysO_ren) { layKeysO with } Fence.wide _ trivial rfl (by omega) Bm b nn D w (World.block_lt_of_cell? w _ hm) hm hown
  have cS := AnyZI.collect_in layCollect Fence.wide 6 trivial trivial rfl (by omega) 44 #[.pointer (some ⟨Bm, 0, none⟩)] trivial (enters_of Tryd.func44 (by kernel_rfl) rfl) _ (Maps.size D) (by unfold maxLen; omega) (by omega) w hseq
  refine ((callsIn_wide (n := 6)).1 cS).mono ?_
  rintro e w' ⟨v, ss, rfl, hp, hrow, _, hb⟩
  obtain ⟨a, c, rfl⟩ := own_slice hrow
  exact ⟨a, c, ss, rfl, hp, hrow, hb⟩
end Go.Proofs.YtmnoacjmdnmddaaDoor
