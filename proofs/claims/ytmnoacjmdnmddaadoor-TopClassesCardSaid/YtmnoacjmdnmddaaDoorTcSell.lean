/- nest: Left, Sell, Back. Conditions: none. -/
import Derived.Test.YtmnoacjmdnmddaaDoorTcNest
namespace Go.Proofs.YtmnoacjmdnmddaaDoor
open Go.RowKit
def leftR (ls ss : List Int) (c : Int) : Int × Int := if 0 ≤ c ∧ c < ls.length then (leastL ls ss c, 0) else (0, 1)
set_option maxRecDepth 100000 in
set_option maxHeartbeats 1000000 in
theorem left_at {ls ss : List Int} (h : NestOk ls ss) (la sa : Option Addr) (lc sc : Nat) (c : Int) {w : World} (hl : GsAt w la ls) (hs : GsAt w sa ss) :
    Calls Tryd.prog 17 #[.slice la ls.length lc, .slice sa ls.length sc, .int .i64 c] w fun e w' => e = .returned (.tuple #[.int .i64 (leftR ls ss c).1, .int .i64 (leftR ls ss c).2]) ∧ Below w.heap.size w w' := by
  have hk1 := blk_new w (.cells #[.int .i64 c] 3) rfl
  have hb1 := bl_alloc (Below.refl w.heap.size w) (.cells #[.int .i64 c] 3)
  obtain ⟨n, hn⟩ : ∃ n, n = ls.length := ⟨_, rfl⟩
  have hn8 : (n : Int) ≤ 8 := by have := h.n8; omega
  have HN := Lib.hid hn
  have H := Lib.hid h
  have HL := Lib.hid hl
  have HS := Lib.hid hs
  rw [← hn]
  have HK1 := Lib.hid hk1
  have HB1 := Lib.hid hb1
  clear hk1 hb1 h hl hs hn
  go_enter Tryd.func17, Tryd.ntmps17
  go_upto_region 2 with fail
  have hk2 := blk_alloc HK1.out (.cells #[.int .i64 10000] 3)
  have hk3 := blk_new (w.alloc (.cells #[.int .i64 c] 3)) (.cells #[.int .i64 10000] 3) rfl
  have hb3 := bl_alloc HB1.out (.cells #[.int .i64 10000] 3)
  rw [World.size_alloc] at hk3
  obtain ⟨W2, hW2⟩ : ∃ W2, W2 = (w.alloc (.cells #[.int .i64 c] 3)).alloc (.cells #[.int .i64 10000] 3) := ⟨_, rfl⟩
  rw [← hW2] at hk2 hk3 hb3 ⊢
  have hlf := lefts_at H.out la sa lc sc w.heap.size (w.heap.size + 1) c HL.out HS.out hb3 (Nat.le_refl _) (Nat.le_succ _) (by omega) hk2 hk3
  rw [← HN.out] at hlf
  have HLF := Lib.hid hlf
  obtain ⟨cb, hcb⟩ : ∃ cb, cb = w.heap.size := ⟨_, rfl⟩
  rw [← hcb] at HLF ⊢
  have HCB := Lib.hid hcb
  clear hk2 hk3 hb3 hlf hW2 hcb
  obtain ⟨le, hle⟩ : ∃ le, le = leastL ls ss c := ⟨_, rfl⟩
  rw [← hle] at HLF
  have HLE := Lib.hid hle
  clear hle
  go_wp2_with fail
  refine HLF.out.mono ?_
  rintro e w4 ⟨rfl, hb4, hl4, hc4⟩
  have c0 := blk_cell hc4 0
  have c1 := blk_cell hl4 0
  replace c0 : w4.cell? ⟨cb, 0, none⟩ = some (.int .i64 c) := c0
  replace c1 : w4.cell? ⟨cb + 1, 0, none⟩ = some (.int .i64 le) := c1
  have HB4 := Lib.hid hb4
  clear hb4 hl4 hc4 HLF
  by_cases h0 : c < 0
  · have d0 : decide (c < 0) = true := decide_eq_true h0
    have HR := Lib.hid (show leftR ls ss c = (0, 1) by unfold leftR; rw [if_neg (by omega)])
    go_wp2_with fail
    go_ret2
    exact ⟨by rw [HR.out]; rfl, by rw [HCB.out] at HB4; exact HB4.out⟩
  have d0 : decide (c < 0) = false := decide_eq_false h0
  by_cases h1 : (n : Int) ≤ c
  · have d1 : decide ((n : Int) ≤ c) = true := decide_eq_true h1
    have HR := Lib.hid (show leftR ls ss c = (0, 1) by unfold leftR; rw [if_neg (by rw [← HN.out]; omega)])
    go_wp2_with fail
    go_ret2
    exact ⟨by rw [HR.out]; rfl, by rw [HCB.out] at HB4; exact HB4.out⟩
  have d1 : decide ((n : Int) ≤ c) = false := decide_eq_false h1
  have HR := Lib.hid (show leftR ls ss c = (le, 0) by unfold leftR; rw [if_pos (by rw [← HN.out]; omega), HLE.out])
  go_wp2_with fail
  go_ret2
  exact ⟨by rw [HR.out]; rfl, by rw [HCB.out] at HB4; exact HB4.out⟩
/-- One class so many more. -/
def moreL (ss : List Int) (c : Nat) (m : Int) : List Int := ss.set c (ss.getD c 0 + m)
theorem moreL_len (ss : List Int) (c : Nat) (m : Int) : (moreL ss c m).length = ss.length := by simp [moreL]
theorem moreL_at (ss : List Int) (c : Nat) (m : Int) {k : Nat} (h : k < ss.length) : (moreL ss c m).getD k 0 = if k = c then ss.getD c 0 + m else ss.getD k 0 := by
  unfold moreL
  rw [List.getD_eq_getElem?_getD, List.getElem?_set, List.getD_eq_getElem?_getD, List.getD_eq_getElem?_getD]
  by_cases e : c = k
  · subst e
    rw [if_pos rfl, if_pos h, if_pos rfl]
    rfl
  · rw [if_neg e, if_neg (fun h => e h.symm)]
theorem moreL_suf (ss : List Int) {c : Nat} (m : Int) (hc : c < ss.length) : ∀ d k, k + d = ss.length → suf (moreL ss c m) k = suf ss k + if k ≤ c then m else 0
  | 0, k, e => by
    obtain rfl : k = ss.length := by omega
    rw [suf_end, if_neg (by omega), Int.add_zero]
    have := suf_end (moreL ss c m)
    rw [moreL_len] at this
    exact this
  | d + 1, k, e => by
    rw [suf_at _ (by rw [moreL_len]; omega), suf_at ss (by omega), moreL_suf ss m hc d (k + 1) (by omega), moreL_at ss c m (by omega)]
    by_cases h1 : k = c
    · subst h1
      rw [if_pos rfl, if_neg (by omega), if_pos (Nat.le_refl _)]
      omega
    · rw [if_neg h1]
      by_cases h2 : k < c
      · rw [if_pos (by omega), if_pos (by omega)]
        omega
      · rw [if_neg (by omega), if_neg (by omega)]
        omega
theorem suf_ge (ss : List Int) (h : ∀ k, k < ss.length → 0 ≤ ss.getD k 0) : ∀ d k, k + d = ss.length → 0 ≤ suf ss k ∧ ∀ j, k ≤ j → j < ss.length → ss.getD j 0 ≤ suf ss k
  | 0, k, e => by
    obtain rfl : k = ss.length := by omega
    rw [suf_end]
    exact ⟨Int.le_refl _, fun j h1 h2 => by omega⟩
  | d + 1, k, e => by
    have ih := suf_ge ss h d (k + 1) (by omega)
    rw [suf_at ss (by omega)]
    have hk := h k (by omega)
    refine ⟨by omega, fun j h1 h2 => ?_⟩
    by_cases e2 : j = k
    · subst e2; omega
    · have := ih.2 j (by omega) h2
      omega
theorem NestOk.sell {ls ss : List Int} (h : NestOk ls ss) {c : Nat} (hc : c < ls.length) {m : Int} (h1 : 1 ≤ m) (h2 : m ≤ leastL ls ss c) : NestOk ls (moreL ss c m) := by
  have hcs : c < ss.length := by rw [h.len]; exact hc
  have hf : ∀ k, k < ls.length → suf (moreL ss c m) k ≤ ls.getD k 0 := fun k hk => by
    rw [moreL_suf ss m hcs (ls.length - k) k (by rw [h.len]; omega)]
    have h3 := h.fine k hk
    split
    · next hkc =>
      have := leastD_le (ls := ls) (ss := ss) (c : Int) ls.length (Nat.le_refl _) k (by omega) hk (by omega)
      unfold leastL at h2
      omega
    · omega
  have h0 : ∀ k, k < (moreL ss c m).length → 0 ≤ (moreL ss c m).getD k 0 := fun k hk => by
    rw [moreL_len] at hk
    rw [moreL_at ss c m hk]
    have h3 := (h.sw k (by rw [← h.len]; exact hk)).1
    have h4 := (h.sw c hc).1
    split <;> omega
  refine ⟨h.n1, h.n8, by rw [moreL_len]; exact h.len, h.lw, fun k hk => ⟨h0 k (by rw [moreL_len, h.len]; exact hk), ?_⟩, h.down, hf⟩
  have h5 := (suf_ge _ h0 (ls.length - 0) 0 (by rw [moreL_len, h.len]; omega)).2 k (Nat.zero_le _) (by rw [moreL_len, h.len]; exact hk)
  have h6 := hf 0 (by omega)
  have h7 := (h.lw 0 (by omega)).2
  omega
theorem NestOk.back {ls ss : List Int} (h : NestOk ls ss) {c : Nat} (hc : c < ls.length) {m : Int} (h1 : 1 ≤ m) (h2 : m ≤ ss.getD c 0) : NestOk ls (moreL ss c (-m)) := by
  have hcs : c < ss.length := by rw [h.len]; exact hc
  refine ⟨h.n1, h.n8, by rw [moreL_len]; exact h.len, h.lw, fun k hk => ?_, h.down, fun k hk => ?_⟩
  · rw [moreL_at ss c (-m) (by rw [h.len]; exact hk)]
    have h3 := h.sw k hk
    have h4 := h.sw c hc
    split <;> omega
  · rw [moreL_suf ss (-m) hcs (ls.length - k) k (by rw [h.len]; omega)]
    have h3 := h.fine k hk
    split <;> omega
end Go.Proofs.YtmnoacjmdnmddaaDoor
