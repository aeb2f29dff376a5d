/- The reference's node: down, lead, says, all. Conditions: none. -/
import Derived.Test.YtiamfdnllpiikaaElRef
import Derived.Test.YtiamfdnllpiikaaElSay
namespace Go.Proofs.Ytiamfdnllpiikaa
open Go.RowKit

set_option maxRecDepth 100000 in
theorem rdown_at {b : Nat} {S : Nd} {L : List Nat} {w : World} (h : RefAt w b S L) (t : Int) :
    Calls Try.prog 48 #[.pointer (some ⟨b, 0, none⟩), .int .i64 t] w fun e w' => e = .returned (.tuple #[]) ∧ MovesR w b (S.down t) L w' := by
  obtain ⟨yv, nv, hx⟩ := h
  have c0 := hx.cell 0
  have c1 := hx.cell 1
  have c2 := hx.cell 2
  have c3 := hx.cell 3
  have c4 := hx.cell 4
  have c5 := hx.cell 5
  have c6 := hx.cell 6
  have c7 := hx.cell 7
  have c8 := hx.cell 8
  have c9 := hx.cell 9
  have c10 := hx.cell 10
  have c11 := hx.cell 11
  have fz := hx.frozen
  simp only [refC, List.getElem?_toArray, List.getElem?_cons_zero, List.getElem?_cons_succ] at c0 c1 c2 c3 c4 c5 c6 c7 c8 c9 c10 c11
  have HX := Lib.hid hx
  clear hx
  go_enter Try.func48, Try.ntmps48
  go_wp2_with fail
  go_end0
  have k : Chg [b] w ((((((w.setCell ⟨b, 1, none⟩ (.int .i64 t)).setCell ⟨b, 2, none⟩ (.int .i64 0)).setCell ⟨b, 6, none⟩ (.int .i64 0)).setCell ⟨b, 7, none⟩ (.int .i64 0)).setCell ⟨b, 10, none⟩ (.slice none 0 0)).setCell ⟨b, 11, none⟩ (.slice none 0 0)) :=
    ((((((Chg.refl _ _).set (by simp) _).set (by simp) _).set (by simp) _).set (by simp) _).set (by simp) _).set (by simp) _
  exact ⟨rfl, L, ⟨_, _, HX.out.none (S' := S.down t) k (blk_set (blk_set (blk_set (blk_set (blk_set (blk_set HX.out.blk 1 _) 2 _) 6 _) 7 _) 10 _) 11 _) ⟨rfl, rfl⟩ ⟨rfl, rfl⟩ rfl rfl⟩, k.up1 HX.out.inb, fun x hx => .inl hx⟩
set_option maxRecDepth 100000 in
theorem rlead_at {b : Nat} {S : Nd} {L : List Nat} {w : World} (h : RefAt w b S L) :
    Calls Try.prog 51 #[.pointer (some ⟨b, 0, none⟩)] w fun e w' => e = .returned (.tuple #[]) ∧ RefAt w' b S.lead L ∧ Chg L w w' := by
  obtain ⟨yv, nv, hx⟩ := h
  have c0 := hx.cell 0
  have c1 := hx.cell 1
  have c2 := hx.cell 2
  have c3 := hx.cell 3
  have c4 := hx.cell 4
  have c5 := hx.cell 5
  have c6 := hx.cell 6
  have c7 := hx.cell 7
  have c8 := hx.cell 8
  have c9 := hx.cell 9
  have c10 := hx.cell 10
  have c11 := hx.cell 11
  have fz := hx.frozen
  simp only [refC, List.getElem?_toArray, List.getElem?_cons_zero, List.getElem?_cons_succ] at c0 c1 c2 c3 c4 c5 c6 c7 c8 c9 c10 c11
  have HX := Lib.hid hx
  clear hx
  go_enter Try.func51, Try.ntmps51
  go_wp2_with fail
  go_end0
  have k : Chg [b] w ((w.setCell ⟨b, 6, none⟩ (.int .i64 3)).setCell ⟨b, 7, none⟩ (.int .i64 S.id)) := ((Chg.refl _ _).set (by simp) _).set (by simp) _
  exact ⟨rfl, ⟨_, _, HX.out.scal (S' := S.lead) k (blk_set (blk_set HX.out.blk 6 _) 7 _) ⟨rfl, rfl⟩ ⟨rfl, rfl⟩ rfl rfl⟩, k.up1 HX.out.inb⟩

set_option maxRecDepth 100000 in
set_option maxHeartbeats 1000000 in
theorem rall_at {b : Nat} {S : Nd} {L : List Nat} {w : World} (h : RefAt w b S L) (hv : S.vs.length ≤ 1000) (kind term last lt : Int) :
    Calls Try.prog 46 #[.pointer (some ⟨b, 0, none⟩), .int .i64 kind, .int .i64 term, .int .i64 last, .int .i64 lt] w fun e w' => ∃ v, e = .returned v ∧ Bals w w' v (S.all kind term last lt) ∧ Below w.heap.size w w' := by
  obtain ⟨yv, nv, hx⟩ := h
  have hcB : ∀ (i : Nat) (W : World), Below w.heap.size w W → W.cell? ⟨b, i, none⟩ = (refC S yv nv)[i]? := fun i W h => (hx.below h).cell i
  have c0 := hcB 0
  have c3 := hcB 3
  simp only [refC, List.getElem?_toArray, List.getElem?_cons_zero, List.getElem?_cons_succ] at c0 c3
  have hat := hx.vs.at_
  have HAS := Lib.hid (fun k (hk : k < S.vs.length) => allTo_succ S hk kind term last lt)
  have HAL := Lib.hid (fun k => allTo_len S k kind term last lt)
  have HAE := Lib.hid (show allTo S S.vs.length kind term last lt = S.all kind term last lt by unfold allTo Nd.all; rw [List.take_length])
  obtain ⟨va, hva⟩ : ∃ va, va = S.va := ⟨_, rfl⟩
  obtain ⟨N, hN⟩ : ∃ N, N = S.vs.length := ⟨_, rfl⟩
  rw [← hva] at c3 hat
  rw [← hN] at c3 hv HAS HAE
  have HV := Lib.hid hat
  have HN := Lib.hid hN
  have hN1 : (N : Int) ≤ 1000 := by omega
  have hb := Below.refl w.heap.size w
  clear hat hva hx hN hcB
  go_enter Try.func46, Try.ntmps46
  go_wp2_with fail
  go_loopg [11, 12] N (fun g v i wr => Below w.heap.size w wr ∧ ∃ k : Nat, k ≤ N ∧ g = N - k ∧ i = .int .i64 k ∧ Bals w wr v (allTo S k kind term last lt))
  case atStart => exact ⟨hb, 0, by omega, rfl, rfl, World.ownsRow_nil _ _ _ _⟩
  case round =>
    clear hb
    obtain ⟨hb, k, k0, hgk, rfl, hown⟩ := hrel
    have HGK := Lib.hid hgk
    have HO := Lib.hid hown
    have HO2 := Lib.hid (show wr.ownsRow w.heap.size 44 7 _ _ _ from hown)
    clear hgk hown
    by_cases hk : k < N
    · obtain ⟨b1, o1, rfl, hc⟩ := HV.out k (by rw [← HN.out]; exact hk)
      have q : ∀ W, Below w.heap.size w W → W.cell? ⟨b1, o1 + k, none⟩ = some (.int .i64 (S.vs.getD k 0)) := fun W h => cell_keep h hc
      have hS := HAS.out k hk
      obtain ⟨x, hx⟩ : ∃ x, x = S.vs.getD k 0 := ⟨_, rfl⟩
      rw [← hx] at q hS
      have hk1 : (k : Int) < N := by omega
      have hk2 : (0 : Int) ≤ (k : Int) := by omega
      clear hc hx
      by_cases hi : x = S.id
      · rw [if_pos hi, List.append_nil] at hS
        have HS := Lib.hid hS
        have e1 : (x != S.id) = false := by simp [hi]
        clear hS hi
        go_wp2_with fail
        refine wp_region_in (Below w.heap.size w) (fun _ => false) (by kernel_rfl) (by kernel_rfl) (by exact hb.drew) ?_
        intro hne hx
        replace hb := hb.drew
        refine stg_seg 13 (by dsimp only [List.take]) (by dsimp only [List.drop]) (by rfl) ?_
        repeat (go_big_quiet_step (fail))
        refine wpQuiet_nil ?_
        refine stg_nil ?_
        clear hne hx
        go_wp2_with fail
        go_roundg (N - (k + 1))
        case measure => have := HGK.out; omega
        case rel => exact ⟨hb, k + 1, by omega, rfl, by go_num, by rw [HS.out]; exact HO.out⟩
      · rw [if_neg hi] at hS
        have HS := Lib.hid hS
        have e1 : (x != S.id) = true := by simp [hi]
        have hAl := HAL.out k
        clear hS hi
        go_wp2_with fail
        refine wp_region_in (Below w.heap.size w) (fun _ => false) (by kernel_rfl) (by kernel_rfl) (by exact hb.drew) ?_
        intro hne hx
        replace hb := hb.drew
        refine stg_seg 13 (by dsimp only [List.take]) (by dsimp only [List.drop]) (by rfl) ?_
        repeat (go_big_quiet_step (fail))
        refine wpQuiet_nil ?_
        refine stg_nil ?_
        clear hne hx
        go_wp2_with fail
        refine wp_region_in (Below w.heap.size w) (fun i => i == 18 || i == 19) (by kernel_rfl) (by kernel_rfl) (by exact hb.drew) ?_
        intro hne hx
        replace hb := hb.drew
        have HO3 := Lib.hid (show wr.drew.drew.ownsRow w.heap.size 44 7 _ _ _ from HO2.out)
        refine stg_seg 18 (by dsimp only [List.take]) (by dsimp only [List.drop]) (by rfl) ?_
        repeat (go_big_quiet_step (fail))
        refine wpQuiet_nil ?_
        refine stg_loud (by rfl) ?_
        go_wp2_with fail
        refine lq_in rfl (bl_alloc hb _) ?_
        refine stg_loud (by rfl) ?_
        go_wp2_with (at_builtin; go_loud (refine wpList_appm rfl _ _ 32 rfl w.heap.size 44 Try.underlying32 Try.infoBal rfl (by decide) rfl HO3.out rfl [.int .i64 kind, .int .i64 S.id, .int .i64 x, .int .i64 term, .int .i64 last, .int .i64 lt, .bool false] rfl (by simp [Value.oneCell']) (by unfold maxLen; omega) (by omega) hb.size ?_); intro v1 w4 hown1 hgrow _)
        have hb4 := bl_trans' hb (own_below HO3.out hgrow hb.size) (Nat.le_refl _)
        clear hgrow
        refine lq_in rfl (hb4) ?_
        refine stg_seg 1 (by dsimp only [List.take]) (by dsimp only [List.drop]) (by rfl) ?_
        repeat (go_big_quiet_step (fail))
        refine wpQuiet_nil ?_
        refine stg_nil ?_
        clear hne hx
        clear hb
        go_wp2_with fail
        go_roundg (N - (k + 1))
        case measure => have := HGK.out; omega
        case rel => exact ⟨hb4, k + 1, by omega, rfl, by go_num, by rw [HS.out]; unfold Bals; rw [List.length_append, show balsC (allTo S k kind term last lt ++ [⟨kind, S.id, x, term, last, lt, false⟩]) = balsC (allTo S k kind term last lt) ++ balC ⟨kind, S.id, x, term, last, lt, false⟩ by simp [balsC]]; exact hown1⟩
    · obtain rfl : k = N := by omega
      go_wp2_with fail
      go_ret
      exact ⟨_, rfl, by rw [← HAE.out]; exact HO.out, hb⟩
end Go.Proofs.Ytiamfdnllpiikaa
