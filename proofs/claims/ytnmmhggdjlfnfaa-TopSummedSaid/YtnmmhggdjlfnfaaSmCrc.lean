/- The check sum walked. Conditions: none. -/
import Derived.Test.YtnmmhggdjlfnfaaSmPure
import Derived.Test.YtnmmhggdjlfnfaaStagedT
import Derived.StillTailTactics
import Derived.Laws.BitsAllLaws
import Derived.Deep.WholeRow
namespace Go.Proofs.Ytnmmhggdjlfnfaa
open Go.RowKit
def vU (x : W32) : Value := .int .u32 (x.toNat : Int)
structure MatAt (w : World) (p : Nat) (f : W32 → W32) : Prop where
  lt : p < w.heap.size
  at_ : ∀ j, j < 32 → w.cell? ⟨p, j, none⟩ = some (.int .u32 ((f (unit j)).toNat : Int))
theorem MatAt.keep {w w' : World} {p : Nat} {f : W32 → W32} (h : MatAt w p f) (k : Below w.heap.size w w') : MatAt w' p f :=
  ⟨Nat.lt_of_lt_of_le h.lt k.size, fun j hj => (k.cell (p := ⟨p, j, none⟩) h.lt).trans (h.at_ j hj)⟩
theorem u_xor (a b : W32) : bits .xor .u32 (a.toNat : Int) (b.toNat : Int) = ((a ^^^ b).toNat : Int) := by
  rw [u32_xor_nat a.toNat b.toNat a.isLt b.isLt, BitVec.toNat_xor]
theorem u_and (a b : W32) : bits .and .u32 (a.toNat : Int) (b.toNat : Int) = ((a &&& b).toNat : Int) := by
  rw [u32_and_nat a.toNat b.toNat a.isLt b.isLt, BitVec.toNat_and]
theorem u_shr (a : W32) (k : Nat) : (a.toNat : Int) / 2 ^ k = ((a >>> k).toNat : Int) := by
  rw [BitVec.toNat_ushiftRight, Nat.shiftRight_eq_div_pow, Int.natCast_ediv]
  norm_cast
theorem u_neg (a : W32) : -(a.toNat : Int) % 4294967296 = ((-a).toNat : Int) := by
  rw [BitVec.toNat_neg]
  have := a.isLt
  omega
theorem u_mask (x o r : W32) (k : Nat) : bits .xor .u32 (o.toNat : Int) (bits .and .u32 (x.toNat : Int) (-bits .and .u32 ((r.toNat : Int) / 2 ^ k) 1 % 4294967296)) = ((o ^^^ (x &&& mask r k)).toNat : Int) := by
  rw [u_shr, show (1 : Int) = ((1#32 : W32).toNat : Int) from rfl, u_and, u_neg, u_and, u_xor]
  rfl
set_option maxRecDepth 100000 in
set_option maxHeartbeats 1000000 in
theorem times_at {p : Nat} {f : W32 → W32} {w : World} (h : MatAt w p f) (hf : LinF f) (r : W32) :
    Calls Try.prog 14 #[.pointer (some ⟨p, 0, none⟩), .int .u32 (r.toNat : Int)] w fun e w' => e = .returned (.int .u32 ((f r).toNat : Int)) ∧ Below w.heap.size w w' := by
  have H := Lib.hid h
  have HF := Lib.hid hf
  have hb := Below.refl w.heap.size w
  clear h hf
  go_enter Try.func14, Try.ntmps14
  go_wp2_with fail
  go_loopg [5, 7] 32 (fun g o j wr => Below w.heap.size w wr ∧ ∃ k : Nat, k ≤ 32 ∧ g = 32 - k ∧ j = .int .i64 k ∧ o = .int .u32 ((timesTo (fun j => f (unit j)) r k).toNat : Int))
  case atStart => exact ⟨hb, 0, by omega, by omega, rfl, rfl⟩
  case round =>
    clear hb
    obtain ⟨hb, k, hk0, hgk, rfl, rfl⟩ := hrel
    have HGK := Lib.hid hgk
    clear hgk
    by_cases hk : k < 32
    case neg =>
      obtain rfl : k = 32 := by omega
      go_wp2_with fail
      go_ret
      exact ⟨by rw [HF.out.times (m := fun j => f (unit j)) (fun _ _ => rfl)]; rfl, hb⟩
    have hk1 : decide ((k : Int) < 32) = true := decide_eq_true (by omega)
    have hk2 : (0 : Int) ≤ (k : Int) := by omega
    have hk4 : (k : Int) < 32 := by omega
    have hc := (H.out.keep hb).at_ k hk
    obtain ⟨x, hx⟩ : ∃ x, x = f (unit k) := ⟨_, rfl⟩
    rw [← hx] at hc
    have HX := Lib.hid hx
    have g0 : ∀ W, Below wr.heap.size wr W → W.cell? ⟨p, k, none⟩ = some (.int .u32 (x.toNat : Int)) := fun W hW => (hW.cell (p := ⟨p, k, none⟩) (H.out.keep hb).lt).trans hc
    obtain ⟨o, ho⟩ : ∃ o, o = timesTo (fun j => f (unit j)) r k := ⟨_, rfl⟩
    rw [← ho]
    have HO := Lib.hid ho
    have HE := Lib.hid (u_mask x o r k)
    clear hc hx ho
    have hbq := Below.refl wr.heap.size wr
    go_upto_region 5 with fail
    refine wp_region_in (Below wr.heap.size wr) (fun _ => false) (by kernel_rfl) (by kernel_rfl) (by exact hbq.drew) ?_
    intro hne hx
    change wpStg _ _ _ _ _ _ _ _ wr.drew
    have hbq1 := hbq.drew
    have hb1 := hb.drew
    obtain ⟨V, hV⟩ : ∃ V, V = wr.drew := ⟨_, rfl⟩
    rw [← hV] at hbq1 hb1 ⊢
    clear hV hb hbq
    refine stg_seg 14 (by dsimp only [List.take]) (by dsimp only [List.drop]) (by rfl) ?_
    repeat (go_big_quiet_step (fail))
    refine wpQuiet_nil ?_
    rw [HE.out]
    refine stg_nil ?_
    clear hne hx
    go_wp2_with fail
    go_roundg (32 - (k + 1))
    case measure => have := HGK.out; omega
    case rel => exact ⟨hb1, k + 1, by omega, rfl, by go_num, by rw [HO.out, HX.out]; rfl⟩
/-- A matrix in a block of its own. -/
def RowM (n : Nat) (cs : Array Value) (g : Nat → W32) (k : Nat) : Prop := cs.size = n ∧ ∀ j, j < k → cs[j]? = some (.int .u32 ((g j).toNat : Int))
theorem RowM.set {n : Nat} {cs : Array Value} {g : Nat → W32} {k : Nat} (h : RowM n cs g k) (hk : k < n) {v : Value} (hv : v = .int .u32 ((g k).toNat : Int)) : RowM n (cs.setIfInBounds k v) g (k + 1) := by
  refine ⟨by rw [Array.size_setIfInBounds]; exact h.1, fun j hj => ?_⟩
  rw [Array.getElem?_setIfInBounds]
  by_cases e : k = j
  · subst e
    rw [if_pos rfl, if_pos (by rw [h.1]; exact hk), hv]
  · rw [if_neg e]
    exact h.2 j (by omega)
theorem RowM.mat {w : World} {q : Nat} {cs : Array Value} {t : TypeId} {fz : Nat × Nat} {f : W32 → W32} {g : Nat → W32} (h : RowM 32 cs g 32) (hq : w.heap[q]? = some (.cells cs t fz)) (hg : ∀ j, j < 32 → g j = f (unit j)) : MatAt w q f :=
  ⟨blk_lt hq, fun j hj => by rw [blk_cell hq, h.2 j hj, hg j hj]⟩
theorem row_new {w : World} {g : Nat} {cs : Array Value} {t : TypeId} {fz : Nat × Nat} (h : w.heap[g]? = some (.cells cs t fz)) (cs' : Array Value) : (w.setRow g cs').heap[g]? = some (.cells cs' t fz) := by
  simp [World.setRow, Array.getElem?_modify, h]
theorem bl_row {w w1 : World} (h : Below w.heap.size w w1) {g : Nat} (hg : w.heap.size ≤ g) (cs : Array Value) : Below w.heap.size w (w1.setRow g cs) :=
  ⟨h.os, h.tape, h.output, by simp [World.setRow]; exact h.size, fun k hk => by
    rw [← h.block k hk]
    simp only [World.setRow, Array.getElem?_modify]
    rw [if_neg (by omega)]⟩
theorem RowM.one {n : Nat} {cs : Array Value} {g : Nat → W32} (h : RowM n cs g n) : cs.all (·.oneCell') = true := by
  rw [Array.all_eq_true]
  intro i hi
  have := h.2 i (by rw [← h.1]; exact hi)
  rw [Array.getElem?_eq_getElem hi] at this
  injection this with this
  rw [this]
  rfl
theorem RowM.nil (n : Nat) (cs : Array Value) (g : Nat → W32) (h : cs.size = n) : RowM n cs g 0 := ⟨h, fun j hj => by omega⟩
/-- The world whose newest block has turned. -/
theorem bl_new {w w1 : World} {q : Nat} (h : Below w.heap.size w w1) (hq : w.heap.size ≤ q) (k : Nat) (v : Value) : Below w.heap.size w (w1.setCell ⟨q, k, none⟩ v) := h.setCell (p := ⟨q, k, none⟩) hq v
set_option maxRecDepth 100000 in
set_option maxHeartbeats 1000000 in
theorem squared_at {p : Nat} {f : W32 → W32} {w : World} (h : MatAt w p f) (hf : LinF f) :
    Calls Try.prog 13 #[.pointer (some ⟨p, 0, none⟩)] w fun e w' => ∃ q, e = .returned (.pointer (some ⟨q, 0, none⟩)) ∧ MatAt w' q (fun x => f (f x)) ∧ Below w.heap.size w w' := by
  have H := Lib.hid h
  have HF := Lib.hid hf
  clear h hf
  go_enter Try.func13, Try.ntmps13
  go_upto_region 2 with fail
  have hk := blk_new w (.cells #[.int .u32 0, .int .u32 0, .int .u32 0, .int .u32 0, .int .u32 0, .int .u32 0, .int .u32 0, .int .u32 0, .int .u32 0, .int .u32 0, .int .u32 0, .int .u32 0, .int .u32 0, .int .u32 0, .int .u32 0, .int .u32 0, .int .u32 0, .int .u32 0, .int .u32 0, .int .u32 0, .int .u32 0, .int .u32 0, .int .u32 0, .int .u32 0, .int .u32 0, .int .u32 0, .int .u32 0, .int .u32 0, .int .u32 0, .int .u32 0, .int .u32 0, .int .u32 0] 50) rfl
  have hb := bl_alloc (Below.refl w.heap.size w) (.cells #[.int .u32 0, .int .u32 0, .int .u32 0, .int .u32 0, .int .u32 0, .int .u32 0, .int .u32 0, .int .u32 0, .int .u32 0, .int .u32 0, .int .u32 0, .int .u32 0, .int .u32 0, .int .u32 0, .int .u32 0, .int .u32 0, .int .u32 0, .int .u32 0, .int .u32 0, .int .u32 0, .int .u32 0, .int .u32 0, .int .u32 0, .int .u32 0, .int .u32 0, .int .u32 0, .int .u32 0, .int .u32 0, .int .u32 0, .int .u32 0, .int .u32 0, .int .u32 0] 50)
  have hr : RowM 32 (#[.int .u32 0, .int .u32 0, .int .u32 0, .int .u32 0, .int .u32 0, .int .u32 0, .int .u32 0, .int .u32 0, .int .u32 0, .int .u32 0, .int .u32 0, .int .u32 0, .int .u32 0, .int .u32 0, .int .u32 0, .int .u32 0, .int .u32 0, .int .u32 0, .int .u32 0, .int .u32 0, .int .u32 0, .int .u32 0, .int .u32 0, .int .u32 0, .int .u32 0, .int .u32 0, .int .u32 0, .int .u32 0, .int .u32 0, .int .u32 0, .int .u32 0, .int .u32 0] : Array Value) (fun j => f (f (unit j))) 0 := RowM.nil _ _ _ rfl
  obtain ⟨q, hq⟩ : ∃ q, q = w.heap.size := ⟨_, rfl⟩
  obtain ⟨cs0, hcs⟩ : ∃ cs0 : Array Value, cs0 = #[.int .u32 0, .int .u32 0, .int .u32 0, .int .u32 0, .int .u32 0, .int .u32 0, .int .u32 0, .int .u32 0, .int .u32 0, .int .u32 0, .int .u32 0, .int .u32 0, .int .u32 0, .int .u32 0, .int .u32 0, .int .u32 0, .int .u32 0, .int .u32 0, .int .u32 0, .int .u32 0, .int .u32 0, .int .u32 0, .int .u32 0, .int .u32 0, .int .u32 0, .int .u32 0, .int .u32 0, .int .u32 0, .int .u32 0, .int .u32 0, .int .u32 0, .int .u32 0] := ⟨_, rfl⟩
  rw [← hcs] at hk hb hr ⊢
  obtain ⟨W1, hW1⟩ : ∃ W1, W1 = w.alloc (.cells cs0 50) := ⟨_, rfl⟩
  rw [← hW1] at hk hb ⊢
  rw [← hq] at hk ⊢
  have HK := Lib.hid hk
  have HR := Lib.hid hr
  have HB := Lib.hid hb
  have HQ := Lib.hid hq
  clear hk hb hr hcs hW1 hq
  go_wp2_with fail
  go_loopg [7] 32 (fun g j wr => Below w.heap.size w wr ∧ ∃ k : Nat, k ≤ 32 ∧ g = 32 - k ∧ j = .int .i64 k ∧ ∃ cs, wr.heap[q]? = some (.cells cs 50 (0, 0)) ∧ RowM 32 cs (fun j => f (f (unit j))) k)
  case atStart => exact ⟨HB.out, 0, by omega, by omega, rfl, cs0, HK.out, HR.out⟩
  case round =>
    obtain ⟨hb, k, hk0, hgk, rfl, cs, hk, hr⟩ := hrel
    have HGK := Lib.hid hgk
    have HK' := Lib.hid hk
    have HR' := Lib.hid hr
    clear hgk hk hr
    by_cases hk : k < 32
    case neg =>
      obtain rfl : k = 32 := by omega
      go_wp2_with fail
      go_ret
      exact ⟨q, rfl, HR'.out.mat HK'.out (fun _ _ => rfl), hb⟩
    have hk1 : decide ((k : Int) < 32) = true := decide_eq_true (by omega)
    have hk2 : (0 : Int) ≤ (k : Int) := by omega
    have hk4 : (k : Int) < 32 := by omega
    have hc := (H.out.keep hb).at_ k hk
    obtain ⟨x, hx⟩ : ∃ x, x = f (unit k) := ⟨_, rfl⟩
    rw [← hx] at hc
    have HX := Lib.hid hx
    have g0 : ∀ W, Below wr.heap.size wr W → W.cell? ⟨p, k, none⟩ = some (.int .u32 (x.toNat : Int)) := fun W hW => (hW.cell (p := ⟨p, k, none⟩) (H.out.keep hb).lt).trans hc
    clear hc hx
    have hbq := Below.refl wr.heap.size wr
    go_upto_region 4 with fail
    refine wp_region_in (Below wr.heap.size wr) (fun _ => false) (by kernel_rfl) (by kernel_rfl) (by exact hbq.drew) ?_
    intro hne hx
    change wpStg _ _ _ _ _ _ _ _ wr.drew
    have hbq1 := hbq.drew
    have hb1 := hb.drew
    obtain ⟨V, hV⟩ : ∃ V, V = wr.drew := ⟨_, rfl⟩
    rw [← hV] at hbq1 hb1 ⊢
    clear hV hb hbq
    refine stg_seg 6 (by dsimp only [List.take]) (by dsimp only [List.drop]) (by rfl) ?_
    repeat (go_big_quiet_step (fail))
    refine wpQuiet_nil ?_
    refine stg_nil ?_
    clear hne hx
    have HT := Lib.hid (times_at (H.out.keep hb1) HF.out x)
    have HBQ := Lib.hid hbq1
    have HB1 := Lib.hid hb1
    clear hbq1 g0 hb1
    go_wp2_with fail
    refine HT.out.mono ?_
    rintro e w2 ⟨rfl, hb2⟩
    have hk2 := blk_below (blk_below HK'.out HBQ.out (blk_lt HK'.out)) hb2 (Nat.lt_of_lt_of_le (blk_lt HK'.out) HBQ.out.size)
    have HK2 := Lib.hid hk2
    have c0 : w2.cell? ⟨q, k, none⟩ = some cs[k]! := by
      rw [blk_cell hk2]
      have : k < cs.size := by rw [HR'.out.1]; exact hk
      simp [this]
    have fz := blk_frozen hk2 k
    have HB2 := Lib.hid (bl_trans HB1.out hb2)
    clear hk2 hb2
    go_upto_region 6 with fail
    change Code.wp _ _ _ _ (w2.setCell ⟨q, k, none⟩ (.int .u32 ((f x).toNat : Int)))
    have hk3 := blk_set HK2.out k (.int .u32 ((f x).toNat : Int))
    have hb3 := bl_new HB2.out (q := q) (by rw [HQ.out]; exact Nat.le_refl _) k (.int .u32 ((f x).toNat : Int))
    obtain ⟨W3, hW3⟩ : ∃ W3, W3 = w2.setCell ⟨q, k, none⟩ (.int .u32 ((f x).toNat : Int)) := ⟨_, rfl⟩
    rw [← hW3] at hk3 hb3 ⊢
    have HK3 := Lib.hid hk3
    clear hW3 c0 fz hk3
    go_wp2_with fail
    go_roundg (32 - (k + 1))
    case measure => have := HGK.out; omega
    case rel => exact ⟨hb3, k + 1, by omega, rfl, by go_num, _, HK3.out, HR'.out.set hk (by rw [HX.out])⟩
theorem u_shl (k : Nat) : IntKind.u32.wrap (2 ^ k) = ((1#32 <<< k).toNat : Int) := by
  rw [IntKind.wrap_u32', BitVec.toNat_shiftLeft, Nat.shiftLeft_eq, Int.natCast_emod, Int.natCast_mul, Int.natCast_pow]
  show _ = (1 * 2 ^ k) % 4294967296
  rw [Int.one_mul]
theorem i_wrap {x : Int} (h : 0 ≤ x) (h2 : x ≤ 1099511627776) : IntKind.i64.wrap x = x := by
  rw [IntKind.wrap_i64]
  omega
set_option maxRecDepth 100000 in
set_option maxHeartbeats 1000000 in
theorem stepped_at {w : World} :
    Calls Try.prog 12 #[] w fun e w' => ∃ q, e = .returned (.pointer (some ⟨q, 0, none⟩)) ∧ MatAt w' q S1 ∧ Below w.heap.size w w' := by
  go_enter Try.func12, Try.ntmps12
  go_upto_region 2 with fail
  have hk := blk_new w (.cells #[.int .u32 2197175160, .int .u32 0, .int .u32 0, .int .u32 0, .int .u32 0, .int .u32 0, .int .u32 0, .int .u32 0, .int .u32 0, .int .u32 0, .int .u32 0, .int .u32 0, .int .u32 0, .int .u32 0, .int .u32 0, .int .u32 0, .int .u32 0, .int .u32 0, .int .u32 0, .int .u32 0, .int .u32 0, .int .u32 0, .int .u32 0, .int .u32 0, .int .u32 0, .int .u32 0, .int .u32 0, .int .u32 0, .int .u32 0, .int .u32 0, .int .u32 0, .int .u32 0] 50) rfl
  have hb := bl_alloc (Below.refl w.heap.size w) (.cells #[.int .u32 2197175160, .int .u32 0, .int .u32 0, .int .u32 0, .int .u32 0, .int .u32 0, .int .u32 0, .int .u32 0, .int .u32 0, .int .u32 0, .int .u32 0, .int .u32 0, .int .u32 0, .int .u32 0, .int .u32 0, .int .u32 0, .int .u32 0, .int .u32 0, .int .u32 0, .int .u32 0, .int .u32 0, .int .u32 0, .int .u32 0, .int .u32 0, .int .u32 0, .int .u32 0, .int .u32 0, .int .u32 0, .int .u32 0, .int .u32 0, .int .u32 0, .int .u32 0] 50)
  have hr : RowM 32 (#[.int .u32 2197175160, .int .u32 0, .int .u32 0, .int .u32 0, .int .u32 0, .int .u32 0, .int .u32 0, .int .u32 0, .int .u32 0, .int .u32 0, .int .u32 0, .int .u32 0, .int .u32 0, .int .u32 0, .int .u32 0, .int .u32 0, .int .u32 0, .int .u32 0, .int .u32 0, .int .u32 0, .int .u32 0, .int .u32 0, .int .u32 0, .int .u32 0, .int .u32 0, .int .u32 0, .int .u32 0, .int .u32 0, .int .u32 0, .int .u32 0, .int .u32 0, .int .u32 0] : Array Value) steppedM 1 := ⟨rfl, fun j hj => by
    rw [Nat.lt_one_iff.1 hj]
    rfl⟩
  obtain ⟨q, hq⟩ : ∃ q, q = w.heap.size := ⟨_, rfl⟩
  obtain ⟨cs0, hcs⟩ : ∃ cs0 : Array Value, cs0 = #[.int .u32 2197175160, .int .u32 0, .int .u32 0, .int .u32 0, .int .u32 0, .int .u32 0, .int .u32 0, .int .u32 0, .int .u32 0, .int .u32 0, .int .u32 0, .int .u32 0, .int .u32 0, .int .u32 0, .int .u32 0, .int .u32 0, .int .u32 0, .int .u32 0, .int .u32 0, .int .u32 0, .int .u32 0, .int .u32 0, .int .u32 0, .int .u32 0, .int .u32 0, .int .u32 0, .int .u32 0, .int .u32 0, .int .u32 0, .int .u32 0, .int .u32 0, .int .u32 0] := ⟨_, rfl⟩
  rw [← hcs] at hk hb hr ⊢
  obtain ⟨W1, hW1⟩ : ∃ W1, W1 = w.alloc (.cells cs0 50) := ⟨_, rfl⟩
  rw [← hW1] at hk hb ⊢
  rw [← hq] at hk ⊢
  have HK := Lib.hid hk
  have HR := Lib.hid hr
  have HB := Lib.hid hb
  have HQ := Lib.hid hq
  clear hk hb hr hcs hW1 hq
  go_wp2_with fail
  go_loopg [5] 31 (fun g j wr => Below w.heap.size w wr ∧ ∃ k : Nat, k ≤ 31 ∧ g = 31 - k ∧ j = .int .i64 k ∧ ∃ cs, wr.heap[q]? = some (.cells cs 50 (0, 0)) ∧ RowM 32 cs steppedM (k + 1))
  case atStart => exact ⟨HB.out, 0, by omega, by omega, rfl, cs0, HK.out, HR.out⟩
  case round =>
    obtain ⟨hb, k, hk0, hgk, rfl, cs, hk, hr⟩ := hrel
    have HGK := Lib.hid hgk
    have HK' := Lib.hid hk
    have HR' := Lib.hid hr
    clear hgk hk hr
    by_cases hk : k < 31
    case neg =>
      obtain rfl : k = 31 := by omega
      go_wp2_with fail
      go_ret
      exact ⟨q, rfl, HR'.out.mat HK'.out stepped_eq, hb⟩
    have hk1 : decide ((k : Int) < 31) = true := decide_eq_true (by omega)
    have hk2 : (0 : Int) ≤ (k : Int) := by omega
    have hk4 : (k : Int) < 31 := by omega
    obtain ⟨z, hz⟩ : ∃ z : Nat, z = k + 1 := ⟨_, rfl⟩
    have hz1 : IntKind.i64.wrap ((k : Int) + 1) = (z : Int) := by rw [i_wrap (by omega) (by omega)]; omega
    have hz2 : (0 : Int) ≤ (z : Int) := by omega
    have hz3 : (z : Int) < 32 := by omega
    have hz4 : z < 32 := by omega
    obtain ⟨y, hy⟩ : ∃ y, y = 1#32 <<< k := ⟨_, rfl⟩
    have hy1 : IntKind.u32.wrap (2 ^ k) = (y.toNat : Int) := by rw [hy]; exact u_shl k
    have c0 : wr.cell? ⟨q, z, none⟩ = some cs[z]! := by
      rw [blk_cell HK'.out]
      have : z < cs.size := by rw [HR'.out.1]; omega
      simp [this]
    have fz : wr.frozen? ⟨q, z, none⟩ = false := blk_frozen HK'.out z
    have HZ := Lib.hid hz
    have HY := Lib.hid hy
    clear hz hy
    go_upto_region 5 with fail
    go_still_tail 7, (by kernel_rfl)
    go_upto_region 6 with fail
    have hk3 := blk_set HK'.out z (.int .u32 (y.toNat : Int))
    have hb3 := (bl_new hb (q := q) (by rw [HQ.out]; exact Nat.le_refl _) z (.int .u32 (y.toNat : Int))).drew
    change Code.wp _ _ _ _ (wr.setCell ⟨q, z, none⟩ (.int .u32 (y.toNat : Int))).drew
    have hk4' : (wr.setCell ⟨q, z, none⟩ (.int .u32 (y.toNat : Int))).drew.heap[q]? = some (.cells (cs.setIfInBounds z (.int .u32 (y.toNat : Int))) 50 (0, 0)) := hk3
    obtain ⟨W3, hW3⟩ : ∃ W3, W3 = (wr.setCell ⟨q, z, none⟩ (.int .u32 (y.toNat : Int))).drew := ⟨_, rfl⟩
    rw [← hW3] at hk4' hb3 ⊢
    have HK3 := Lib.hid hk4'
    clear hW3 c0 fz hk3 hk4' hy1 hz1
    go_wp2_with fail
    go_roundg (31 - (k + 1))
    case measure => have := HGK.out; omega
    case rel => exact ⟨hb3, k + 1, by omega, rfl, by go_num, _, HK3.out, by
        have h1 := HR'.out
        rw [← HZ.out] at h1 ⊢
        refine h1.set hz4 ?_
        rw [HY.out, HZ.out]
        rfl⟩
theorem Try.infoT : (Try.prog.info? 46).map (fun i => (i.zero, i.size)) = some (some (.agg (Array.replicate 256 (.int .u32 0))), 256) := by kernel_rfl
theorem zeroT : ∃ Z : Array Value, Z.size = 256 ∧ ∀ w, (zeroValue 46).run Try.prog w = .ok (.agg Z) w := ⟨_, by simp, (zero_of_info Try.infoT).1⟩
/-- What each byte does. -/
def tab (j : Nat) : W32 := S8 (BitVec.ofNat 32 j)
theorem u_tab (k : Nat) (h : k < 256) : ((k : Int)) = (((BitVec.ofNat 32 k).toNat : Nat) : Int) := by
  rw [BitVec.toNat_ofNat]
  omega
set_option maxRecDepth 100000 in
set_option maxHeartbeats 1000000 in
theorem table_at {w : World} :
    Calls Try.prog 17 #[] w fun e w' => ∃ cs, e = .returned (.agg cs) ∧ RowM 256 cs tab 256 ∧ Below w.heap.size w w' := by
  obtain ⟨Z, hZ1, hZ2⟩ := zeroT
  have HZ1 := Lib.hid hZ1
  clear hZ1
  go_enter Try.func17, Try.ntmps17
  go_upto_region 1 with fail
  have hk0 := blk_new w (.cells Z 46) rfl
  have hb0 := bl_alloc (Below.refl w.heap.size w) (.cells Z 46)
  obtain ⟨W0, hW0⟩ : ∃ W0, W0 = w.alloc (.cells Z 46) := ⟨_, rfl⟩
  obtain ⟨r0, hr0⟩ : ∃ r0, r0 = w.heap.size := ⟨_, rfl⟩
  rw [← hW0] at hk0 hb0 ⊢
  rw [← hr0] at hk0 ⊢
  have HK0 := Lib.hid hk0
  have HB0 := Lib.hid hb0
  have HR0 := Lib.hid hr0
  clear hk0 hb0 hW0 hr0
  go_wp2_with fail
  refine stepped_at.mono ?_; rintro e w1 ⟨q1, rfl, hm1, hb1⟩
  have HM1 := Lib.hid hm1
  clear hm1
  go_wp2_with fail
  refine (squared_at HM1.out S1_lin).mono ?_; rintro e w2 ⟨q2, rfl, hm2, hb2⟩
  have HM2 := Lib.hid hm2
  replace hb1 := bl_trans hb1 hb2
  clear hm2 hb2 HM1
  go_wp2_with fail
  refine (squared_at HM2.out S2_lin).mono ?_; rintro e w3 ⟨q3, rfl, hm3, hb3⟩
  have HM3 := Lib.hid hm3
  replace hb1 := bl_trans hb1 hb3
  clear hm3 hb3 HM2
  go_wp2_with fail
  refine (squared_at HM3.out S4_lin).mono ?_; rintro e w4 ⟨q4, rfl, hm4, hb4⟩
  have HM4 := Lib.hid (show MatAt w4 q4 S8 from hm4)
  replace hb1 := bl_trans hb1 hb4
  have HB4 := Lib.hid (bl_trans HB0.out hb1)
  have HK4 := Lib.hid (blk_below HK0.out hb1 (blk_lt HK0.out))
  clear hm4 hb4 HM3 hb1
  go_upto_region 3 with fail
  have hk5 := blk_new w4 (.cells Z 46) rfl
  have hb5 := bl_alloc (Below.refl w4.heap.size w4) (.cells Z 46)
  obtain ⟨W5, hW5⟩ : ∃ W5, W5 = w4.alloc (.cells Z 46) := ⟨_, rfl⟩
  obtain ⟨q5, hq5⟩ : ∃ q5, q5 = w4.heap.size := ⟨_, rfl⟩
  rw [← hW5] at hk5 hb5 ⊢
  rw [← hq5] at hk5 ⊢
  have HK5 := Lib.hid hk5
  have HB5 := Lib.hid hb5
  have HQ5 := Lib.hid hq5
  clear hk5 hb5 hW5 hq5
  go_wp2_with fail
  go_loopg [8] 256 (fun g j wr => Below w4.heap.size w4 wr ∧ ∃ k : Nat, k ≤ 256 ∧ g = 256 - k ∧ j = .int .i64 k ∧ ∃ cs, wr.heap[q5]? = some (.cells cs 46 (0, 0)) ∧ RowM 256 cs tab k)
  case atStart => exact ⟨HB5.out, 0, by omega, by omega, rfl, Z, HK5.out, RowM.nil _ _ _ HZ1.out⟩
  case round =>
    obtain ⟨hb, k, hk0, hgk, rfl, cs, hk, hr⟩ := hrel
    have HGK := Lib.hid hgk
    have HK' := Lib.hid hk
    have HR' := Lib.hid hr
    have HB := Lib.hid hb
    clear hgk hk hr hb
    by_cases hk : k < 256
    case neg =>
      obtain rfl : k = 256 := by omega
      have HK0' := Lib.hid (blk_below HK4.out HB.out (blk_lt HK4.out))
      have hd1 : decide (((256 : Nat) : Int) < 256) = false := by decide
      have HI := Lib.hid (show (Try.prog.info? 46).map (·.size) = some cs.size by rw [HR'.out.1]; exact (zero_of_info Try.infoT).2)
      have HSZ := Lib.hid (show Z.size = cs.size by rw [HR'.out.1, HZ1.out])
      have HON := Lib.hid (show cs.all (·.oneCell') = true from HR'.out.one)
      go_upto_region 8 with fail
      go_wp2_with (first | (refine wpList_load_row rfl 46 _ rfl q5 rfl 46 cs (0, 0) _ HK'.out Try.underlying46 rfl HI.out ?_) | (refine wpList_store_row rfl 46 _ _ rfl r0 cs rfl rfl 46 Z HK0'.out HI.out HSZ.out HON.out ?_))
      have hb9 := bl_row (bl_trans HB4.out HB.out) (g := r0) (by rw [HR0.out]; exact Nat.le_refl _) cs
      exact bodyPost_ret (results_cell_row rfl _ _ r0 46 cs (0, 0) _ rfl (row_new HK0'.out cs) Try.underlying46 rfl HI.out) rfl ⟨cs, rfl, HR'.out, hb9⟩
    have hk1 : decide ((k : Int) < 256) = true := decide_eq_true (by omega)
    have hk2 : (0 : Int) ≤ (k : Int) := by omega
    have hk4 : (k : Int) < 256 := by omega
    have ht := times_at (HM4.out.keep HB.out) S8_lin (BitVec.ofNat 32 k)
    rw [← u_tab k hk] at ht
    have HT := Lib.hid ht
    clear ht
    go_wp2_with fail
    refine HT.out.mono ?_
    rintro e w6 ⟨rfl, hb6⟩
    have hk2 := blk_below HK'.out hb6 (blk_lt HK'.out)
    have HK2 := Lib.hid hk2
    have c0 : w6.cell? ⟨q5, k, none⟩ = some cs[k]! := by
      rw [blk_cell hk2]
      have : k < cs.size := by rw [HR'.out.1]; exact hk
      simp [this]
    have fz := blk_frozen hk2 k
    have HB6 := Lib.hid (bl_trans HB.out hb6)
    clear hk2 hb6
    obtain ⟨y, hy⟩ : ∃ y, y = S8 (BitVec.ofNat 32 k) := ⟨_, rfl⟩
    rw [← hy]
    have HY := Lib.hid hy
    clear hy
    go_upto_region 7 with fail
    change Code.wp _ _ _ _ (w6.setCell ⟨q5, k, none⟩ (.int .u32 (y.toNat : Int)))
    have hk3 := blk_set HK2.out k (.int .u32 (y.toNat : Int))
    have hb3 := bl_new HB6.out (q := q5) (by rw [HQ5.out]; exact Nat.le_refl _) k (.int .u32 (y.toNat : Int))
    obtain ⟨W3, hW3⟩ : ∃ W3, W3 = w6.setCell ⟨q5, k, none⟩ (.int .u32 (y.toNat : Int)) := ⟨_, rfl⟩
    rw [← hW3] at hk3 hb3 ⊢
    have HK3 := Lib.hid hk3
    clear hW3 c0 fz hk3
    go_wp2_with fail
    go_roundg (256 - (k + 1))
    case measure => have := HGK.out; omega
    case rel => exact ⟨hb3, k + 1, by omega, rfl, by go_num, _, HK3.out, HR'.out.set hk (by rw [HY.out]; rfl)⟩
end Go.Proofs.Ytnmmhggdjlfnfaa
