/- How many entries steps have. Conditions: none. -/
import Derived.Test.YteflgempjecnpaaLgDo
namespace Go.Proofs.Yteflgempjecnpaa
open Go.RowKit
abbrev atS (l : List StV) (k : Nat) : StV := l.getD k default
def lensTo (l : List StV) : Nat → Nat
  | 0 => 0
  | k + 1 => lensTo l k + (atS l k).e.l.length
theorem lensTo_mono (l : List StV) {i j : Nat} (h : i ≤ j) : lensTo l i ≤ lensTo l j := by
  induction h with
  | refl => exact Nat.le_refl _
  | step _ ih => exact Nat.le_trans ih (Nat.le_add_right _ _)
def MuchPost (l : List StV) (e : Ending) : Prop := ∃ b, e = .returned (.bool b) ∧ (b = false → ∀ k, k ≤ l.length → k ≤ 100 → lensTo l k ≤ 5000)
set_option maxRecDepth 100000 in
set_option maxHeartbeats 2000000 in
theorem much_at (a : Option Addr) (l : List StV) (c : Nat) (w : World) (hi : ItemsAt w a l.length 4 (fun i => (atS l i).c)) (hmax : l.length ≤ maxLen) (he : ∀ i, i < l.length → (atS l i).e.At w) :
    Calls Try.prog 10 #[.slice a l.length c] w fun e w' => MuchPost l e ∧ Below w.heap.size w w' := by
  obtain ⟨n, hn⟩ : ∃ n, n = l.length := ⟨_, rfl⟩
  have HN := Lib.hid hn
  have HI := Lib.hid hi
  have HE := Lib.hid he
  have hn9 : (n : Int) ≤ 9223372036854775807 := by have h1 := hmax; unfold maxLen at h1; omega
  have hb0 := Below.refl w.heap.size w
  rw [← hn]
  clear hi he hn hmax
  go_enter Try.func10, Try.ntmps10
  go_wp2_with fail
  go_loopg [3, 4, 5] n (fun g v3 v4 v5 wr => Below w.heap.size w wr ∧ ∃ (k m : Nat), k ≤ n ∧ k ≤ 100 ∧ g = n - k ∧ v3 = .int .i64 m ∧ v4 = .int .i64 k ∧ lensTo l k ≤ m ∧ m ≤ 5000)
  case atStart => exact ⟨hb0, 0, 0, by omega, by omega, rfl, rfl, rfl, Nat.le_refl _, by omega⟩
  case round =>
    clear hb0
    obtain ⟨hb, k, m, hkn, hk100, hg, rfl, rfl, hlm, hm5⟩ := hrel
    have HG := Lib.hid hg
    have HLM := Lib.hid hlm
    clear hg hlm
    by_cases c1 : k < n
    case neg =>
      have d1 : decide ((k : Int) < n) = false := decide_eq_false (by omega)
      have d1' : decide (k < n) = false := decide_eq_false (by omega)
      have HK := Lib.hid (show k = n by omega)
      clear c1
      go_wp2_with fail
      go_ret
      exact ⟨⟨false, rfl, fun _ j hj _ => by have h1 := lensTo_mono l (i := j) (j := k) (by have h1 := HK.out; have h2 := HN.out; omega); have h2 := HLM.out; omega⟩, hb⟩
    have d1 : decide ((k : Int) < n) = true := decide_eq_true (by omega)
    have d1' : decide (k < n) = true := decide_eq_true (by omega)
    by_cases c2 : k < 100
    case neg =>
      have d2 : decide ((k : Int) < 100) = false := decide_eq_false (by omega)
      have d2' : decide (k < 100) = false := decide_eq_false (by omega)
      have HK := Lib.hid (show k = 100 by omega)
      clear c1 c2
      go_wp2_with fail
      go_ret
      exact ⟨⟨false, rfl, fun _ j _ hj => by have h1 := lensTo_mono l (i := j) (j := k) (by have h1 := HK.out; omega); have h2 := HLM.out; omega⟩, hb⟩
    have d2 : decide ((k : Int) < 100) = true := decide_eq_true (by omega)
    have d2' : decide (k < 100) = true := decide_eq_true (by omega)
    have hkl : k < l.length := by rw [← HN.out]; exact c1
    obtain ⟨b1, o1, ha, hc⟩ := (HI.out.keep hb) k hkl
    have hc3 := hc 3 (atS l k).e.v rfl
    obtain ⟨ev, hev⟩ : ∃ ev, ev = (atS l k).e := ⟨_, rfl⟩
    have hE := (HE.out k hkl).keep hb
    have HLK := Lib.hid (show lensTo l (k + 1) = lensTo l k + ev.l.length by rw [hev]; rfl)
    rw [← hev] at hE hc3
    have hE0 := Lib.hid ((HE.out k hkl))
    obtain ⟨ea, el, ec⟩ := ev
    have HEV := Lib.hid hE
    obtain ⟨en, hen⟩ : ∃ en, en = el.length := ⟨_, rfl⟩
    have HEN := Lib.hid hen
    have hen9 : (en : Int) ≤ 9223372036854775807 := by have h1 := hE.max; unfold maxLen at h1; simp only at h1; omega
    have g3 : ∀ W, Below wr.heap.size wr W → W.cell? ⟨b1, o1 + k * 4 + 3, none⟩ = some (.slice ea en ec) := fun W hW => by rw [hen]; exact cell_keep hW hc3
    have hbr := Below.refl wr.heap.size wr
    subst ha
    have hk2 : (0 : Int) ≤ (k : Int) := by omega
    have hk4 : (k : Int) < n := by omega
    have hk5 : k < n := c1
    have hk6 : k < 100 := c2
    clear c1 c2 hc hc3 hev hE hen hkl
    by_cases c5 : 5000 < en
    case pos =>
      have d5 : decide ((5000 : Int) < en) = true := decide_eq_true (by omega)
      have d5' : decide (5000 < en) = true := decide_eq_true (by omega)
      clear c5
      go_wp2_with fail
      go_ret
      exact ⟨⟨true, rfl, fun h => by cases h⟩, hb⟩
    have d5 : decide ((5000 : Int) < en) = false := decide_eq_false (by omega)
    have d5' : decide (5000 < en) = false := decide_eq_false (by omega)
    have hen5 : en ≤ 5000 := by omega
    clear c5
    go_wp2_with fail
    go_loopg [3, 5] en (fun g v3 v5 wq => Below wr.heap.size wr wq ∧ ∃ (j x : Nat), j ≤ en ∧ g = en - j ∧ v3 = .int .i64 x ∧ v5 = .int .i64 j ∧ m + en ≤ x ∧ x ≤ 20000)
    case atStart => exact ⟨hbr, 0, m + en, by omega, rfl, by go_num, rfl, by omega, by omega⟩
    case round =>
      clear hbr
      obtain ⟨hbr, j, x, hje, hg2, rfl, rfl, hmx, hx2⟩ := hrel
      have HG2 := Lib.hid hg2
      clear hg2
      by_cases e1 : j < en
      case neg =>
        have f1 : decide ((j : Int) < en) = false := decide_eq_false (by omega)
        have f1' : decide (j < en) = false := decide_eq_false e1
        clear e1
        by_cases e3 : 5000 < x
        · have f3 : decide ((5000 : Int) < x) = true := decide_eq_true (by omega)
          have f3' : decide (5000 < x) = true := decide_eq_true e3
          clear e3
          go_wp2_with fail
          go_ret
          exact ⟨⟨true, rfl, fun h => by cases h⟩, bl_trans hb hbr⟩
        · have f3 : decide ((5000 : Int) < x) = false := decide_eq_false (by omega)
          have f3' : decide (5000 < x) = false := decide_eq_false e3
          have hx5 : x ≤ 5000 := by omega
          clear e3
          go_wp2_with fail
          go_roundg (n - (k + 1))
          case measure => have := HG.out; omega
          case rel => exact ⟨bl_trans hb hbr, k + 1, x, by omega, by omega, rfl, rfl, by go_num, by have h1 := HLK.out; have h2 := HLM.out; have h3 := HEN.out; omega, hx5⟩
      have f1 : decide ((j : Int) < en) = true := decide_eq_true (by omega)
      have f1' : decide (j < en) = true := decide_eq_true e1
      by_cases e2 : x < 10000
      case neg =>
        have f2 : decide ((x : Int) < 10000) = false := decide_eq_false (by omega)
        have f2' : decide (x < 10000) = false := decide_eq_false e2
        clear e1 e2
        by_cases e3 : 5000 < x
        · have f3 : decide ((5000 : Int) < x) = true := decide_eq_true (by omega)
          have f3' : decide (5000 < x) = true := decide_eq_true e3
          clear e3
          go_wp2_with fail
          go_ret
          exact ⟨⟨true, rfl, fun h => by cases h⟩, bl_trans hb hbr⟩
        · have f3 : decide ((5000 : Int) < x) = false := decide_eq_false (by omega)
          have f3' : decide (5000 < x) = false := decide_eq_false e3
          have hx5 : x ≤ 5000 := by omega
          clear e3
          go_wp2_with fail
          go_roundg (n - (k + 1))
          case measure => have := HG.out; omega
          case rel => exact ⟨bl_trans hb hbr, k + 1, x, by omega, by omega, rfl, rfl, by go_num, by have h1 := HLK.out; have h2 := HLM.out; have h3 := HEN.out; omega, hx5⟩
      have f2 : decide ((x : Int) < 10000) = true := decide_eq_true (by omega)
      have f2' : decide (x < 10000) = true := decide_eq_true e2
      have hj0 : (0 : Int) ≤ (j : Int) := by omega
      have hj1 : (j : Int) < en := by omega
      have hj2 : j < en := e1
      have hx1 : x < 10000 := e2
      obtain ⟨b4, o4, ha4, hc4⟩ := (HEV.out.keep hbr).at_ j (by show j < el.length; rw [← HEN.out]; exact e1)
      have hc5 := hc4 3 (atE el j).d.v rfl
      obtain ⟨dv, hdv⟩ : ∃ dv, dv = (atE el j).d := ⟨_, rfl⟩
      have hdm := ((HEV.out.d j (by show j < el.length; rw [← HEN.out]; exact e1)).2).1
      have hdm' : dv.bs.length ≤ maxLen := by rw [hdv]; exact hdm
      rw [← hdv] at hc5
      obtain ⟨da, dbs, dc⟩ := dv
      obtain ⟨dn, hdn⟩ : ∃ dn, dn = dbs.length := ⟨_, rfl⟩
      have hdn9 : (dn : Int) ≤ 9223372036854775807 := by unfold maxLen at hdm'; simp only at hdm'; omega
      have g4 : ∀ W, Below wr.heap.size wr W → W.cell? ⟨b4, o4 + j * 4 + 3, none⟩ = some (.slice da dn dc) := fun W hW => by rw [hdn]; exact cell_keep hW hc5
      subst ha4
      have hbq := Below.refl wr.heap.size wr
      have hdiv : Int.tdiv (dn : Int) 100 = ((dn / 100 : Nat) : Int) := by rw [Int.tdiv_eq_ediv_of_nonneg (by omega)]; rfl
      clear e1 e2 hc4 hc5 hdv hdm hdm' hdn
      go_wp2_with fail
      all_goals
        go_roundg (en - (j + 1))
        case measure => have := HG2.out; omega
        case rel =>
          first
            | exact ⟨hbr, j + 1, x + dn / 100, by omega, rfl, by go_num, by go_num, by omega, by omega⟩
            | exact ⟨hbr, j + 1, x + 10000, by omega, rfl, by go_num, by go_num, by omega, by omega⟩
end Go.Proofs.Yteflgempjecnpaa
