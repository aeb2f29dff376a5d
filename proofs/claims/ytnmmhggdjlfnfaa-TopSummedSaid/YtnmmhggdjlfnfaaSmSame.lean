/- SameAll. Conditions: none. -/
import Derived.Test.YtnmmhggdjlfnfaaSmPut
import Derived.Laws.BytesArg
namespace Go.Proofs.Ytnmmhggdjlfnfaa
open Go.RowKit
def strB (l : List W8) : ByteArray := strOfNums (l.map fun b => (b.toNat : Int))
theorem conv_str {W : World} {a : Option Addr} {l : List W8} (c : Nat) (h : BAt W a l) : (convert 25 9 (.slice a l.length c)).run Try.prog W = .ok (.string (strB l)) W := by
  cases a with
  | none =>
    have hb0 : l = [] := by
      cases l with
      | nil => rfl
      | cons x r =>
        obtain ⟨b, off, e, _⟩ := h 0 (by simp)
        cases e
    subst hb0
    rw [run_convert_bytes_nil W _ _ Try.underlying25 Try.underlying5 _ _ _ Try.underlying9]
    rfl
  | some a =>
    have hl : (loadCells a l.length).run Try.prog W = .ok ((l.map fun b => (b.toNat : Int)).map (Value.int .u8)).toArray W := by
      have := run_loadCells_list (P := Try.prog) W a (bytesV l) (fun j v hj => by
        obtain ⟨b, off, e, hc⟩ := h.cells j v hj
        injection e with e
        subst e
        rw [addr_add, hc])
      rw [bytesV_len] at this
      rw [this]
      congr 1
      unfold bytesV
      rw [List.map_map]
      rfl
    have := run_bytesToString W a l.length c (l.map fun b => (b.toNat : Int)) hl
    rw [run_convert_bytes_string W _ _ 5 _ _ _ Try.underlying25 Try.underlying5 Try.underlying9, this, foldl_push_bytes]
    simp [strB, strOfNums, ByteArray.empty, ByteArray.emptyWithCapacity]
    rfl
set_option maxRecDepth 100000 in
set_option maxHeartbeats 2000000 in
theorem sameAll_at (a a' : Option Addr) (ls ls' : List BV) (c c' : Nat) (w : World) (he : SAt w a ls) (he' : SAt w a' ls') (hlm : ls.length ≤ 1000000) (hl : ls'.length = ls.length) (hs : ∀ j, j < ls.length → (atB ls' j).l = (atB ls j).l) :
    Calls Try.prog 8 #[.slice a ls.length c, .slice a' ls'.length c'] w fun e w' => e = .returned (.bool true) ∧ Below w.heap.size w w' := by
  have hlm' : (ls.length : Int) ≤ 1000000 := by omega
  have HE := Lib.hid he
  have HE' := Lib.hid he'
  have HS := Lib.hid hs
  have HL' := Lib.hid hl
  rw [hl]
  obtain ⟨N, hN⟩ : ∃ N, N = ls.length := ⟨_, rfl⟩
  have HN := Lib.hid hN
  rw [← hN] at hlm' ⊢
  have hb := Below.refl w.heap.size w
  have hne : ((N : Int) != (N : Int)) = false := by simp
  clear he he' hlm hN hl hs
  go_enter Try.func8, Try.ntmps8
  go_wp2_with fail
  clear hne
  go_loopg [5] N (fun g j wr => Below w.heap.size w wr ∧ ∃ k : Nat, k ≤ N ∧ g = N - k ∧ j = .int .i64 k)
  case atStart => exact ⟨hb, 0, by omega, by omega, rfl⟩
  case round =>
    clear hb
    obtain ⟨hb, k, hk0, hgk, rfl⟩ := hrel
    have HGK := Lib.hid hgk
    clear hgk
    by_cases hk : k < N
    case neg =>
      have hk1 : decide ((k : Int) < N) = false := decide_eq_false (by omega)
      have hk1' : decide (k < N) = false := decide_eq_false (by omega)
      clear hk
      go_wp2_with fail
      go_ret
      exact ⟨rfl, hb⟩
    have hk1 : decide ((k : Int) < N) = true := decide_eq_true (by omega)
    have hk1' : decide (k < N) = true := decide_eq_true hk
    have hk2 : (0 : Int) ≤ (k : Int) := by omega
    have hk4 : (k : Int) < N := by omega
    have hk5 : k < N := hk
    have hkl : k < ls.length := by rw [← HN.out]; exact hk
    have hkl' : k < ls'.length := by rw [HL'.out]; exact hkl
    obtain ⟨b1, o1, rfl, k0, hx⟩ := (HE.out.keep hb) k hkl
    obtain ⟨b2, o2, rfl, m0, hy⟩ := (HE'.out.keep hb) k hkl'
    have h4 := HS.out k hkl
    obtain ⟨x, hxe⟩ : ∃ x, x = atB ls k := ⟨_, rfl⟩
    obtain ⟨y, hye⟩ : ∃ y, y = atB ls' k := ⟨_, rfl⟩
    rw [← hxe] at k0 hx h4
    rw [← hye] at m0 hy h4
    obtain ⟨xa, xl, xc⟩ := x
    obtain ⟨ya, yl, yc⟩ := y
    simp only at h4 k0 m0
    subst h4
    have hv : ∀ W, Below wr.heap.size wr W → (convert 25 9 (.slice xa yl.length xc)).run Try.prog W = .ok (.string (strB yl)) W := fun W hW => conv_str xc (hx.keep hW).at_
    have hv2 : ∀ W, Below wr.heap.size wr W → (convert 25 9 (.slice ya yl.length yc)).run Try.prog W = .ok (.string (strB yl)) W := fun W hW => conv_str yc (hy.keep hW).at_
    have g0 : ∀ W, Below wr.heap.size wr W → W.cell? ⟨b1, o1 + k, none⟩ = some (.slice xa yl.length xc) := fun W hW => cell_keep hW k0
    have p0 : ∀ W, Below wr.heap.size wr W → W.cell? ⟨b2, o2 + k, none⟩ = some (.slice ya yl.length yc) := fun W hW => cell_keep hW m0
    obtain ⟨n8, hn8⟩ : ∃ n8, n8 = yl.length := ⟨_, rfl⟩
    obtain ⟨S8, hS8⟩ : ∃ S8, S8 = strB yl := ⟨_, rfl⟩
    simp only [← hn8, ← hS8] at hv hv2 g0 p0
    have hbq := Below.refl wr.heap.size wr
    clear hk hkl hkl' hx hy hxe hye k0 m0 hn8 hS8
    go_wp2_with fail
    refine wp_region_in (Below wr.heap.size wr) (fun _ => false) (by kernel_rfl) (by kernel_rfl) (by exact hbq.drew) ?_
    intro hne hx
    change wpStg _ _ _ _ _ _ _ _ wr.drew
    have hbq1 := hbq.drew
    have hb1 := hb.drew
    obtain ⟨V, hV⟩ : ∃ V, V = wr.drew := ⟨_, rfl⟩
    rw [← hV] at hbq1 hb1 ⊢
    clear hV hb hbq
    refine stg_seg 11 (by dsimp only [List.take]) (by dsimp only [List.drop]) (by rfl) ?_
    repeat (go_big_quiet_step (fail))
    refine wpQuiet_nil ?_
    refine stg_nil ?_
    clear hne hx
    go_wp2_with fail
    go_roundg (N - (k + 1))
    case measure => have := HGK.out; omega
    case rel => exact ⟨hb1, k + 1, by omega, rfl, by go_num⟩
end Go.Proofs.Ytnmmhggdjlfnfaa
