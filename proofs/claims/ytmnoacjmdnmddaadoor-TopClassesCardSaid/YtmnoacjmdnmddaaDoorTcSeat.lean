/- flight: both, Seat. Conditions: none. -/
import Derived.Test.YtmnoacjmdnmddaaDoorTcGive
namespace Go.Proofs.YtmnoacjmdnmddaaDoor
open Go.RowKit Go.Maps
theorem find_has {rows : Int} {gs : List Int} (hR : RightL rows gs) (s : ByteArray) : ((findL rows gs s).2 = 0 → hasL rows gs (findL rows gs s).1) ∧ (0 ≤ (findL rows gs s).1 ∧ (findL rows gs s).1 ≤ 600) := by
  rw [parse_find hR s]
  have ht := hR.tot
  have hc := countL_yes hR
  have hc6 := (countL_rng rows gs).2
  cases hp : parse s.data.toList 0 0 (-1) with
  | none => exact ⟨fun h => absurd h (show ¬ (2 : Int) = 0 by omega), by show 0 ≤ (0 : Int) ∧ (0 : Int) ≤ 600; omega⟩
  | some q =>
    obtain ⟨row, last⟩ := q
    by_cases hbad : row < 1 ∨ rows < row ∨ last < 0 ∨ total gs ≤ last
    · have e : seatOf rows (total gs) (some (row, last)) = none := by
        show (if _ then _ else _) = _
        rw [if_pos hbad]
      rw [e]
      exact ⟨fun h => absurd h (show ¬ (2 : Int) = 0 by omega), by show 0 ≤ (0 : Int) ∧ (0 : Int) ≤ 600; omega⟩
    · have e : seatOf rows (total gs) (some (row, last)) = some ((row - 1) * total gs + last) := by
        show (if _ then _ else _) = _
        rw [if_neg hbad]
      rw [e]
      have h1 : row * total gs ≤ rows * total gs := Int.mul_le_mul_of_nonneg_right (by omega) (by omega)
      have h2 : 0 ≤ (row - 1) * total gs := Int.mul_nonneg (by omega) (by omega)
      have h3 : (row - 1) * total gs = row * total gs - total gs := by rw [Int.sub_mul, Int.one_mul]
      have hh : hasL rows gs ((row - 1) * total gs + last) := ⟨by omega, by rw [hc]; omega⟩
      exact ⟨fun _ => hh, hh.1, by have := hh.2; show (row - 1) * total gs + last ≤ 600; omega⟩
/-- What a look-up in the holds comes to. -/
theorem look_run {w : World} {B p : Nat} {S : FS} (h : FlAt w B p S) {o : Int} (ho : (Lit.int .i64 o).wf = true) :
    (∃ x ∈ S.H, x.own = o ∧ (Instr.lookup 60 (.map (some S.hb)) (.int .i64 o) true).run Tryd.prog w = .ok (.tuple #[.pointer (some ⟨x.blk, 0, none⟩), .bool true]) w) ∨
    ((∀ x ∈ S.H, x.own ≠ o) ∧ (Instr.lookup 60 (.map (some S.hb)) (.int .i64 o) true).run Tryd.prog w = .ok (.tuple #[.pointer none, .bool false]) w) := by
  obtain ⟨D, hD, hDo⟩ := h.hm
  obtain ⟨v, ps, hrun, hv⟩ := hD.look_ok int_key Tryd.underlying60 (zeroPtr w) (zd := .lit (.bool false)) (zp := []) rfl (keyOf_int_mk Tryd.underlying3 ho)
  rcases hm_find hDo o with ⟨x, hx, hxo, hhas, hat⟩ | ⟨hno, hhas⟩
  · rw [hat] at hv
    obtain rfl := ptrR_some hv
    rw [hhas] at hrun
    exact .inl ⟨x, hx, hxo, hrun⟩
  · rw [atKey_of_not_has hhas] at hv
    obtain rfl := ptrR_none hv
    rw [hhas] at hrun
    exact .inr ⟨hno, hrun⟩
set_option maxRecDepth 100000 in
set_option maxHeartbeats 2000000 in
theorem both_at {w : World} {B p : Nat} {S : FS} (h : FlAt w B p S) (i : FInv S) (o : Int) (s : ByteArray) (hs : s.size ≤ maxLen) {b : Bool} {u : Option Addr}
    (hlk : (Instr.lookup 60 (.map (some S.hb)) (.int .i64 o) true).run Tryd.prog w = .ok (.tuple #[.pointer u, .bool b]) w) :
    Calls Tryd.prog 31 #[.pointer (some ⟨p, 0, none⟩), .int .i64 o, .string s] w fun e w' => e = .returned (.tuple #[.pointer u, .int .i64 (findL S.rows S.gs s).1, .bool (b && (findL S.rows S.gs s).2 == 0)]) ∧ Below w.heap.size w w' := by
  have hg4 := i.right.2.2.2.1
  have HF := Lib.hid (show Calls Tryd.prog 15 #[.agg #[.int .i64 S.rows, S.gv], .string s] w _ from find_any S.rows S.ga S.gs S.gc s w (own_gs h.gr) (by unfold maxLen; omega) hs)
  have c1 : w.cell? ⟨p, 1, none⟩ = some (.int .i64 S.rows) := by rw [blk_cell h.blk]; rfl
  have c2 : w.cell? ⟨p, 2, none⟩ = some S.gv := by rw [blk_cell h.blk]; rfl
  have c5 : w.cell? ⟨p, 5, none⟩ = some (.map (some S.hb)) := by rw [blk_cell h.blk]; rfl
  obtain ⟨hb1, hhb⟩ : ∃ hb1, hb1 = S.hb := ⟨_, rfl⟩
  obtain ⟨gv, hgv⟩ : ∃ gv, gv = S.gv := ⟨_, rfl⟩
  obtain ⟨rows, hrows⟩ : ∃ r, r = S.rows := ⟨_, rfl⟩
  obtain ⟨n, hn⟩ : ∃ n, n = (findL S.rows S.gs s).1 := ⟨_, rfl⟩
  obtain ⟨r, hr⟩ : ∃ n, n = (findL S.rows S.gs s).2 := ⟨_, rfl⟩
  rw [← hn, ← hr, ← hgv] at HF
  rw [← hn, ← hr]
  rw [← hrows] at c1
  replace HF := Lib.hid (show Calls Tryd.prog 15 #[.agg #[.int .i64 rows, gv], .string s] w fun e w' => e = .returned (.tuple #[.int .i64 n, .int .i64 r]) ∧ Below w.heap.size w w' by rw [hrows]; exact HF.out)
  rw [← hgv] at c2
  rw [← hhb] at c5 hlk
  clear hhb hgv hrows hn hr h i hg4
  go_enter Tryd.func31, Tryd.ntmps31
  go_wp2_with fail
  refine HF.out.mono ?_
  rintro e w1 ⟨rfl, hb⟩
  cases b with
  | false =>
    go_wp2_with fail
    go_ret3
    exact ⟨rfl, hb⟩
  | true =>
    by_cases h0 : r = 0
    · have e0 : (r == 0) = true := by simp [h0]
      go_wp2_with fail
      go_ret3
      exact ⟨by rw [e0]; rfl, hb⟩
    · have e0 : (r == 0) = false := by simp [h0]
      go_wp2_with fail
      go_ret3
      exact ⟨by rw [e0]; rfl, hb⟩
/-- What a look-up among those that were told comes to. -/
theorem told_run {w : World} {B p : Nat} {S : FS} (h : FlAt w B p S) {n : Int} (hn : (Lit.int .i64 n).wf = true) :
    ∃ c b, (Instr.lookup 61 (.map (some S.ob)) (.int .i64 n) true).run Tryd.prog w = .ok (.tuple #[.int .i64 c, .bool b]) w ∧ (b = true ↔ n ∈ S.told) := by
  obtain ⟨D, hD, hDo⟩ := h.om
  obtain ⟨v, ps, hrun, hv⟩ := hD.look_ok int_key Tryd.underlying61 (z := .int .i64 0) (Tryd.zeroValue3 w) (zd := .lit (.int .i64 0)) (zp := []) (plainElem_int Tryd.underlying3 (by decide)) (keyOf_int_mk Tryd.underlying3 hn)
  obtain ⟨c, rfl, _, _⟩ := plainElem_int_inv Tryd.underlying3 hv
  exact ⟨c, _, hrun, hDo n⟩
set_option maxRecDepth 100000 in
set_option maxHeartbeats 2000000 in
theorem seat_at {w : World} {B p : Nat} {S : FS} (h : FlAt w B p S) (i : FInv S) (hB : B ≤ w.heap.size) (hnn : S.nn ≤ 10000000) (o : Int) (ho : (Lit.int .i64 o).wf = true) (s : ByteArray) (hs : s.size ≤ maxLen) :
    Calls Tryd.prog 11 #[.pointer (some ⟨p, 0, none⟩), .int .i64 o, .string s] w fun e w' => (∃ v, e = .returned v) ∧ Moved B p S w w' := by
  have hfr := find_has i.right s
  have hwf : (Lit.int .i64 (findL S.rows S.gs s).1).wf = true := wf64 (by have := hfr.2; omega) (by have := hfr.2; omega)
  have HH := Lib.hid h
  have HI := Lib.hid i
  have HTR := Lib.hid (fun (W : World) (hW : Below w.heap.size w W) => told_run (h.keep hW) hwf)
  have HSM := Lib.hid (fun W (hW : Below w.heap.size w W) => Moved.same (w' := W) h i hW)
  have HFR := Lib.hid hfr
  have c6 : ∀ W, Below w.heap.size w W → W.cell? ⟨p, 6, none⟩ = some (.map (some S.ob)) := fun W hW => cell_keep hW (by rw [blk_cell h.blk]; rfl)
  rcases look_run h ho with ⟨x, hx, hxo, hlk⟩ | ⟨hno, hlk⟩
  case inr =>
    have HBO := Lib.hid (both_at h i o s hs hlk)
    obtain ⟨n, hn⟩ : ∃ n, n = (findL S.rows S.gs s).1 := ⟨_, rfl⟩
    obtain ⟨r, hr⟩ : ∃ n, n = (findL S.rows S.gs s).2 := ⟨_, rfl⟩
    rw [← hn, ← hr] at HBO
    rw [← hn] at HTR
    clear hlk hno h i hfr hwf hn hr
    go_enter Tryd.func11, Tryd.ntmps11
    go_wp2_with fail
    refine HBO.out.mono ?_
    rintro e w1 ⟨rfl, hb⟩
    obtain ⟨c, b, htr, _⟩ := HTR.out w1 hb
    go_wp2_with fail
    go_ret
    exact ⟨⟨_, rfl⟩, HSM.out _ hb⟩
  have HBO := Lib.hid (both_at h i o s hs hlk)
  have HX := Lib.hid hx
  obtain ⟨n, hn⟩ : ∃ n, n = (findL S.rows S.gs s).1 := ⟨_, rfl⟩
  obtain ⟨r, hr⟩ : ∃ n, n = (findL S.rows S.gs s).2 := ⟨_, rfl⟩
  rw [← hn, ← hr] at HBO HFR
  rw [← hn] at HTR
  obtain ⟨ob, hob⟩ : ∃ ob, ob = S.ob := ⟨_, rfl⟩
  rw [← hob] at c6 HTR
  have hxa := h.hs x hx
  obtain ⟨ra, rc, hrow⟩ := own_slice hxa.row
  have y2 : ∀ W, Below w.heap.size w W → W.cell? ⟨x.blk, 2, none⟩ = some (.int .i64 x.many) := fun W hW => cell_keep hW (by rw [blk_cell hxa.blk]; rfl)
  have y3 : ∀ W, Below w.heap.size w W → W.cell? ⟨x.blk, 3, none⟩ = some x.row := fun W hW => cell_keep hW (by rw [blk_cell hxa.blk]; rfl)
  rw [hrow] at y3
  obtain ⟨xb, hxb⟩ : ∃ xb, xb = x.blk := ⟨_, rfl⟩
  obtain ⟨xm, hxm⟩ : ∃ xb, xb = x.many := ⟨_, rfl⟩
  obtain ⟨m, hm⟩ : ∃ m, m = x.seats.length := ⟨_, rfl⟩
  rw [← hxb] at y2 y3 HBO
  rw [← hxm] at y2
  rw [← hm] at y3
  have hm0 := i.len x hx
  have hm1 := i.many x hx
  rw [← hm, ← hxm] at hm0
  rw [← hxm] at hm1
  have hm9 : (m : Int) ≤ 10000 := by omega
  have h0m : (0 : Int) ≤ (m : Int) := by omega
  have HE := Lib.hid (show xb = x.blk ∧ xm = x.many ∧ m = x.seats.length from ⟨hxb, hxm, hm⟩)
  clear hlk h i hfr hwf hn hr hx hxo hxa hrow hxb hxm hm hob
  by_cases hr0 : r = 0
  case neg =>
    have e0 : (r == 0) = false := by simp [hr0]
    go_enter Tryd.func11, Tryd.ntmps11
    go_wp2_with fail
    refine HBO.out.mono ?_
    rintro e w1 ⟨rfl, hb⟩
    obtain ⟨c, b, htr, _⟩ := HTR.out w1 hb
    rw [e0]
    go_wp2_with fail
    go_ret
    exact ⟨⟨_, rfl⟩, HSM.out _ hb⟩
  have e0 : (r == 0) = true := by simp [hr0]
  have hns := HFR.out.1 hr0
  by_cases hml : xm ≤ (m : Int)
  case pos =>
    have d1 : decide (xm ≤ (m : Int)) = true := decide_eq_true hml
    go_enter Tryd.func11, Tryd.ntmps11
    go_wp2_with fail
    refine HBO.out.mono ?_
    rintro e w1 ⟨rfl, hb⟩
    obtain ⟨c, b, htr, _⟩ := HTR.out w1 hb
    rw [e0]
    go_wp2_with fail
    refine wp_region_in (Below w.heap.size w) (fun _ => false) (by kernel_rfl) (by kernel_rfl) (by exact hb.drew) ?_
    intro hne hx
    replace hb := hb.drew
    refine stg_seg 11 (by dsimp only [List.take]) (by dsimp only [List.drop]) (by rfl) ?_
    repeat (go_big_quiet_step (fail))
    refine wpQuiet_nil ?_
    refine stg_nil ?_
    clear hne hx
    go_wp2_with fail
    go_ret
    exact ⟨⟨_, rfl⟩, HSM.out _ hb⟩
  have d1 : decide (xm ≤ (m : Int)) = false := decide_eq_false hml
  go_enter Tryd.func11, Tryd.ntmps11
  go_wp2_with fail
  refine HBO.out.mono ?_
  rintro e w1 ⟨rfl, hb⟩
  obtain ⟨c, b, htr, hbt⟩ := HTR.out w1 hb
  rw [e0]
  go_wp2_with fail
  refine wp_region_in (Below w.heap.size w) (fun _ => false) (by kernel_rfl) (by kernel_rfl) (by exact hb.drew) ?_
  intro hne hx
  replace hb := hb.drew
  refine stg_seg 11 (by dsimp only [List.take]) (by dsimp only [List.drop]) (by rfl) ?_
  repeat (go_big_quiet_step (fail))
  refine wpQuiet_nil ?_
  refine stg_nil ?_
  clear hne hx
  cases b with
  | true =>
    go_wp2_with fail
    go_ret
    exact ⟨⟨_, rfl⟩, HSM.out _ hb⟩
  | false =>
    have HT := Lib.hid (tell_at (HH.out.keep hb) HI.out (Nat.le_trans hB hb.size) hnn HX.out (n := n) (by rw [← HE.out.2.1, ← HE.out.2.2]; omega) hns (fun k => by have := hbt.2 k; cases this))
    rw [← HE.out.1] at HT
    clear hbt
    go_wp2_with fail
    refine HT.out.mono ?_
    rintro e w2 ⟨⟨v, rfl⟩, S', x', hto, _⟩
    have HMV := Lib.hid ((Toldk.from hb hto).moved (by omega))
    clear hto
    go_wp2_with fail
    go_ret
    exact ⟨⟨_, rfl⟩, HMV.out⟩
end Go.Proofs.YtmnoacjmdnmddaaDoor
