/- SameEntries. Conditions: none. -/
import Derived.Test.YteflgempjecnpaaLgG7
import Derived.Laws.BytesArg
namespace Go.Proofs.Yteflgempjecnpaa
open Go.RowKit
theorem conv_str {W : World} {d : DV} (h : d.At W) : (convert 43 9 (.slice d.a d.bs.length d.c)).run Try.prog W = .ok (.string (strOfNums d.bs)) W := by
  obtain ⟨a, bs, c⟩ := d
  cases a with
  | none =>
    have hb0 : bs = [] := by
      cases bs with
      | nil => rfl
      | cons x r =>
        obtain ⟨b, off, e, _⟩ := h 0 (by simp)
        cases e
    subst hb0
    rw [run_convert_bytes_nil W _ _ Try.underlying43 Try.underlying5 _ _ _ Try.underlying9]
    rfl
  | some a =>
    have hl : (loadCells a bs.length).run Try.prog W = .ok (bs.map (Value.int .u8)).toArray W := by
      have := run_loadCells_list (P := Try.prog) W a (bs.map (Value.int .u8)) (fun j v hj => by
        have hjl : j < bs.length := by
          rcases Nat.lt_or_ge j bs.length with h | h
          · exact h
          · simp [List.getElem?_eq_none (show (bs.map (Value.int .u8)).length ≤ j by simpa using h)] at hj
        obtain ⟨b, off, e, hc⟩ := h j hjl
        injection e with e
        subst e
        rw [addr_add, hc]
        simp [List.getElem?_eq_getElem hjl] at hj
        subst hj
        simp [List.getD, List.getElem?_eq_getElem hjl])
      simpa using this
    rw [run_convert_bytes_string W _ _ 5 _ _ _ Try.underlying43 Try.underlying5 Try.underlying9, run_bytesToString W _ bs.length _ bs hl, foldl_push_bytes]
    simp [strOfNums, ByteArray.empty, ByteArray.emptyWithCapacity]
    rfl
set_option maxRecDepth 100000 in
set_option maxHeartbeats 2000000 in
theorem sames_at (a a' : Option Addr) (l l' : List Ent) (c c' : Nat) (w : World) (he : EA w a l) (he' : EA w a' l') (hlm : l.length ≤ 1000000) (hs : Sames l l') (hd : ∀ i, i < l.length → (atE l i).d.At w) (hd' : ∀ i, i < l.length → (atE l' i).d.At w) :
    Calls Try.prog 19 #[.slice a l.length c, .slice a' l'.length c'] w fun e w' => e = .returned (.bool true) ∧ Below w.heap.size w w' := by
  have hlm' : (l.length : Int) ≤ 1000000 := by omega
  have HE := Lib.hid he
  have HE' := Lib.hid he'
  have HD := Lib.hid hd
  have HD' := Lib.hid hd'
  have HS := Lib.hid hs.2
  rw [hs.1]
  obtain ⟨N, hN⟩ : ∃ N, N = l.length := ⟨_, rfl⟩
  have HN := Lib.hid hN
  have HL' := Lib.hid hs.1
  rw [← hN] at hlm' ⊢
  have hb := Below.refl w.heap.size w
  have hne : ((N : Int) != (N : Int)) = false := by simp
  clear he he' hlm hN hd hd' hs
  go_enter Try.func19, Try.ntmps19
  go_wp2_with fail
  clear hne
  go_loopg [5] N (fun g j wr => Below w.heap.size w wr ∧ ∃ k : Nat, k ≤ N ∧ g = N - k ∧ j = .int .i64 k)
  case atStart => exact ⟨hb, 0, by omega, by omega, rfl⟩
  case round =>
    clear hb
    obtain ⟨hb, k, hk0, hgk, rfl⟩ := hrel
    have HGK := Lib.hid hgk
    clear hgk
    by_cases hk : k < N
    case neg =>
      have hk1 : decide ((k : Int) < N) = false := decide_eq_false (by omega)
      have hk1' : decide (k < N) = false := decide_eq_false (by omega)
      clear hk
      go_wp2_with fail
      go_ret
      exact ⟨rfl, hb⟩
    have hk1 : decide ((k : Int) < N) = true := decide_eq_true (by omega)
    have hk1' : decide (k < N) = true := decide_eq_true hk
    have hk2 : (0 : Int) ≤ (k : Int) := by omega
    have hk4 : (k : Int) < N := by omega
    have hk5 : k < N := hk
    have hkl : k < l.length := by rw [← HN.out]; exact hk
    have hkl' : k < l'.length := by rw [HL'.out]; exact hkl
    obtain ⟨b1, o1, rfl, hc⟩ := (HE.out.keep hb) k hkl
    obtain ⟨b2, o2, rfl, hc2⟩ := (HE'.out.keep hb) k hkl'
    have hdx := (HD.out k hkl).keep hb
    have hdy := (HD'.out k hkl).keep hb
    have hsm := HS.out k hkl
    unfold atE at hdx hdy hsm
    obtain ⟨x, hx⟩ : ∃ x, x = l.getD k default := ⟨_, rfl⟩
    obtain ⟨y, hy⟩ : ∃ y, y = l'.getD k default := ⟨_, rfl⟩
    simp only [← hx, ← hy] at hdx hdy hsm hc hc2
    obtain ⟨xi, xt, xk, xd⟩ := x
    obtain ⟨yi, yt, yk, yd⟩ := y
    obtain ⟨h1, h2, h3, h4⟩ := hsm
    simp only at h1 h2 h3 h4 hdx hdy
    subst h1 h2 h3
    have hv : ∀ W, Below wr.heap.size wr W → (convert 43 9 (.slice xd.a xd.bs.length xd.c)).run Try.prog W = .ok (.string (strOfNums xd.bs)) W := fun W hW => conv_str (hdx.keep hW)
    have hv2 : ∀ W, Below wr.heap.size wr W → (convert 43 9 (.slice yd.a xd.bs.length yd.c)).run Try.prog W = .ok (.string (strOfNums xd.bs)) W := fun W hW => by
      have := conv_str (hdy.keep hW)
      rw [h4] at this
      exact this
    have k0 := hc 0 (.int .i64 yi) rfl
    have k1 := hc 1 (.int .i64 yt) rfl
    have k2 := hc 2 (.int .i64 yk) rfl
    have k3 := hc 3 (.slice xd.a xd.bs.length xd.c) rfl
    have m0 := hc2 0 (.int .i64 yi) rfl
    have m1 := hc2 1 (.int .i64 yt) rfl
    have m2 := hc2 2 (.int .i64 yk) rfl
    have m3 := hc2 3 (.slice yd.a xd.bs.length yd.c) (by rw [← h4]; rfl)
    rw [Nat.add_zero] at k0 m0
    have g0 : ∀ W, Below wr.heap.size wr W → W.cell? ⟨b1, o1 + k * 4, none⟩ = some (.int .i64 yi) := fun W hW => cell_keep hW k0
    have g1 : ∀ W, Below wr.heap.size wr W → W.cell? ⟨b1, o1 + k * 4 + 1, none⟩ = some (.int .i64 yt) := fun W hW => cell_keep hW k1
    have g2 : ∀ W, Below wr.heap.size wr W → W.cell? ⟨b1, o1 + k * 4 + 2, none⟩ = some (.int .i64 yk) := fun W hW => cell_keep hW k2
    have g3 : ∀ W, Below wr.heap.size wr W → W.cell? ⟨b1, o1 + k * 4 + 3, none⟩ = some (.slice xd.a xd.bs.length xd.c) := fun W hW => cell_keep hW k3
    have p0 : ∀ W, Below wr.heap.size wr W → W.cell? ⟨b2, o2 + k * 4, none⟩ = some (.int .i64 yi) := fun W hW => cell_keep hW m0
    have p1 : ∀ W, Below wr.heap.size wr W → W.cell? ⟨b2, o2 + k * 4 + 1, none⟩ = some (.int .i64 yt) := fun W hW => cell_keep hW m1
    have p2 : ∀ W, Below wr.heap.size wr W → W.cell? ⟨b2, o2 + k * 4 + 2, none⟩ = some (.int .i64 yk) := fun W hW => cell_keep hW m2
    have p3 : ∀ W, Below wr.heap.size wr W → W.cell? ⟨b2, o2 + k * 4 + 3, none⟩ = some (.slice yd.a xd.bs.length yd.c) := fun W hW => cell_keep hW m3
    have e0 : (yi != yi) = false := by simp
    have e1 : (yt != yt) = false := by simp
    have e2 : (yk != yk) = false := by simp
    obtain ⟨n8, hn8⟩ : ∃ n8, n8 = xd.bs.length := ⟨_, rfl⟩
    obtain ⟨S8, hS8⟩ : ∃ S8, S8 = strOfNums xd.bs := ⟨_, rfl⟩
    simp only [← hn8, ← hS8] at hv hv2 g3 p3
    have hbq := Below.refl wr.heap.size wr
    clear hk hkl hkl' hc hc2 hdx hdy hx hy h4 k0 k1 k2 k3 m0 m1 m2 m3 hn8 hS8
    go_wp2_with fail
    refine wp_region_in (Below wr.heap.size wr) (fun _ => false) (by kernel_rfl) (by kernel_rfl) (by exact hbq.drew) ?_
    intro hne hx
    change wpStg _ _ _ _ _ _ _ _ wr.drew
    have hbq1 := hbq.drew
    have hb1 := hb.drew
    obtain ⟨V, hV⟩ : ∃ V, V = wr.drew := ⟨_, rfl⟩
    rw [← hV] at hbq1 hb1 ⊢
    clear hV hb hbq
    refine stg_seg 52 (by dsimp only [List.take]) (by dsimp only [List.drop]) (by rfl) ?_
    repeat (go_big_quiet_step (fail))
    refine wpQuiet_nil ?_
    refine stg_nil ?_
    clear hne hx
    go_wp2_with fail
    go_roundg (N - (k + 1))
    case measure => have := HGK.out; omega
    case rel => exact ⟨hb1, k + 1, by omega, rfl, by go_num⟩
end Go.Proofs.Yteflgempjecnpaa
