/- What seat.across, seat.Right, seat.Count, seat.has come to. Conditions: none. -/
import Derived.Test.YtmnoacjmdnmddaaDoorAid
namespace Go.Proofs.YtmnoacjmdnmddaaDoor
open Go.RowKit

/-- At the address a lie the ints gs. -/
def GsAt (w : World) (a : Option Addr) (gs : List Int) : Prop := ∀ j, j < gs.length → ∃ b off, a = some ⟨b, off, none⟩ ∧ w.cell? ⟨b, off + j, none⟩ = some (.int .i64 (gs.getD j 0))
theorem GsAt.keep {w w' : World} {a : Option Addr} {gs : List Int} (h : GsAt w a gs) (hb : Below w.heap.size w w') : GsAt w' a gs := by
  intro j hj
  obtain ⟨b, off, e, hc⟩ := h j hj
  exact ⟨b, off, e, cell_keep hb hc⟩
theorem GsAt.drewN {w : World} {a : Option Addr} {gs : List Int} (h : GsAt w a gs) (n : Nat) : GsAt (w.drewN n) a gs := by
  intro j hj
  obtain ⟨b, off, e, hc⟩ := h j hj
  exact ⟨b, off, e, by simpa using hc⟩

def okG (g : Int) : Prop := 1 ≤ g ∧ g ≤ 10
/-- The sum of the first k. -/
def sumK (gs : List Int) : Nat → Int
  | 0 => 0
  | k + 1 => sumK gs k + gs.getD k 0
theorem sumK_rng {gs : List Int} (h : ∀ j, j < gs.length → okG (gs.getD j 0)) : ∀ k, k ≤ gs.length → (k : Int) ≤ sumK gs k ∧ sumK gs k ≤ 10 * k
  | 0, _ => by simp [sumK]
  | k + 1, hk => by
    have i := sumK_rng h k (by omega)
    have g := h k (by omega)
    unfold okG at g
    unfold sumK
    omega
def total (gs : List Int) : Int := sumK gs gs.length

set_option maxRecDepth 100000 in
theorem across_any (rows : Int) (a : Option Addr) (gs : List Int) (cap : Nat) (w : World) (hg : GsAt w a gs) (hl : gs.length ≤ 4) (hok : ∀ j, j < gs.length → okG (gs.getD j 0)) :
    Calls Tryd.prog 23 #[.agg #[.int .i64 rows, .slice a gs.length cap]] w fun e w' => e = .returned (.int .i64 (total gs)) ∧ Below w.heap.size w w' := by
  have HK := Lib.hid hok
  have HG := Lib.hid (hg.keep (bl_alloc (Below.refl _ _) (.cells #[.int .i64 rows, .slice a gs.length cap] 24)))
  clear hok hg
  go_enter Tryd.func23, Tryd.ntmps23
  go_wp2
  go_loopg [3, 9] gs.length (fun g s i wr => (w.alloc (.cells #[.int .i64 rows, .slice a gs.length cap] 24)) = wr ∧ ∃ k : Nat, k ≤ gs.length ∧ g = gs.length - k ∧ i = .int .i64 k ∧ s = .int .i64 (sumK gs k))
  case atStart => exact ⟨rfl, 0, by omega, rfl, rfl, rfl⟩
  case round =>
    obtain ⟨rfl, k, k0, hgk, rfl, rfl⟩ := hrel
    have HGK := Lib.hid hgk
    clear hgk
    have hr := sumK_rng HK.out k k0
    by_cases hk : k < gs.length
    · obtain ⟨b, off, ha, hc⟩ := HG.out k hk
      have hx := HK.out k hk
      unfold okG at hx
      have hs : sumK gs (k + 1) = sumK gs k + gs.getD k 0 := rfl
      have HS := Lib.hid hs
      obtain ⟨x, hxe⟩ : ∃ x, x = gs.getD k 0 := ⟨_, rfl⟩
      rw [← hxe] at hc hx
      have HX := Lib.hid hxe
      clear hs hxe
      subst ha
      go_wp2
      go_roundg (gs.length - (k + 1))
      case measure => have := HGK.out; omega
      case rel => exact ⟨rfl, k + 1, by omega, rfl, by go_num, by rw [HS.out, HX.out]⟩
    · obtain rfl : k = gs.length := by omega
      go_wp2
      go_ret
      exact ⟨rfl, bl_alloc (Below.refl _ _) _⟩

theorem odd_yes {g : Int} (h : ¬ okG g) (w : World) : Calls Tryd.prog 37 #[.int .i64 g] w fun e w' => e = .returned (.bool true) ∧ w = w' := by
  unfold okG at h
  by_cases h1 : g < 1
  · clear h
    go_enter Tryd.func37, Tryd.ntmps37
    go_wp2
    go_ret
    exact ⟨rfl, rfl⟩
  · have h2 : 10 < g := by omega
    clear h
    go_enter Tryd.func37, Tryd.ntmps37
    go_wp2
    go_ret
    exact ⟨rfl, rfl⟩
theorem odd_no {g : Int} (h : okG g) (w : World) : Calls Tryd.prog 37 #[.int .i64 g] w fun e w' => e = .returned (.bool false) ∧ w = w' := by
  obtain ⟨h1, h2⟩ := h
  go_enter Tryd.func37, Tryd.ntmps37
  go_wp2
  go_ret
  exact ⟨ret_bool (by simp; omega), rfl⟩

set_option maxRecDepth 100000 in
/-- The first that is odd: where there is none. -/
theorem index_no (a : Option Addr) (gs : List Int) (cap : Nat) (w : World) (hg : GsAt w a gs) (hl : gs.length ≤ 4) (hok : ∀ j, j < gs.length → okG (gs.getD j 0)) :
    Calls Tryd.prog 50 #[.slice a gs.length cap, .func (.func 37) #[] #[]] w fun e w' => e = .returned (.int .i64 (-1)) ∧ w = w' := by
  have HK := Lib.hid hok
  have HG := Lib.hid hg
  clear hok hg
  go_enter Tryd.func50, Tryd.ntmps50
  go_wp2
  go_loopg [8] gs.length (fun g i wr => w = wr ∧ ∃ k : Nat, k ≤ gs.length ∧ g = gs.length - k ∧ i = .int .i64 k)
  case atStart => exact ⟨rfl, 0, by omega, rfl, rfl⟩
  case round =>
    obtain ⟨rfl, k, k0, hgk, rfl⟩ := hrel
    have HGK := Lib.hid hgk
    clear hgk
    by_cases hk : k < gs.length
    · obtain ⟨b, off, ha, hc⟩ := HG.out k hk
      have hx := HK.out k hk
      obtain ⟨x, hxe⟩ : ∃ x, x = gs.getD k 0 := ⟨_, rfl⟩
      rw [← hxe] at hc hx
      have HX := Lib.hid hx
      clear hxe hx
      subst ha
      go_wp2_with (go_at_call 37; refine (odd_no HX.out _).mono ?_; rintro e w' ⟨rfl, rfl⟩)
      go_roundg (gs.length - (k + 1))
      case measure => have := HGK.out; omega
      case rel => exact ⟨rfl, k + 1, by omega, rfl, by go_num⟩
    · obtain rfl : k = gs.length := by omega
      go_wp2
      go_ret
      exact ⟨rfl, rfl⟩

set_option maxRecDepth 100000 in
theorem index_yes (a : Option Addr) (gs : List Int) (cap : Nat) (w : World) (hg : GsAt w a gs) (hl : gs.length ≤ 4) (hbad : ¬ ∀ j, j < gs.length → okG (gs.getD j 0)) :
    Calls Tryd.prog 50 #[.slice a gs.length cap, .func (.func 37) #[] #[]] w fun e w' => (∃ n : Nat, e = .returned (.int .i64 n)) ∧ w = w' := by
  have HK := Lib.hid hbad
  have HG := Lib.hid hg
  clear hbad hg
  go_enter Tryd.func50, Tryd.ntmps50
  go_wp2
  go_loopg [8] gs.length (fun g i wr => w = wr ∧ ∃ k : Nat, k ≤ gs.length ∧ g = gs.length - k ∧ i = .int .i64 k ∧ ∀ j, j < k → okG (gs.getD j 0))
  case atStart => exact ⟨rfl, 0, by omega, rfl, rfl, fun j hj => by omega⟩
  case round =>
    obtain ⟨rfl, k, k0, hgk, rfl, hall⟩ := hrel
    have HGK := Lib.hid hgk
    have HA := Lib.hid hall
    clear hgk hall
    by_cases hk : k < gs.length
    · obtain ⟨b, off, ha, hc⟩ := HG.out k hk
      obtain ⟨x, hxe⟩ : ∃ x, x = gs.getD k 0 := ⟨_, rfl⟩
      rw [← hxe] at hc
      have HXE := Lib.hid hxe
      clear hxe
      subst ha
      by_cases hx : okG x
      · have HX := Lib.hid hx
        clear hx
        go_wp2_with (go_at_call 37; refine (odd_no HX.out _).mono ?_; rintro e w' ⟨rfl, rfl⟩)
        go_roundg (gs.length - (k + 1))
        case measure => have := HGK.out; omega
        case rel =>
          refine ⟨rfl, k + 1, by omega, rfl, by go_num, fun j hj => ?_⟩
          by_cases e : j = k
          · rw [e, ← HXE.out]; exact HX.out
          · exact HA.out j (by omega)
      · have HX := Lib.hid hx
        clear hx
        go_wp2_with (go_at_call 37; refine (odd_yes HX.out _).mono ?_; rintro e w' ⟨rfl, rfl⟩)
        go_ret
        exact ⟨⟨k, rfl⟩, rfl⟩
    · exact absurd (fun j hj => HA.out j (by omega)) HK.out

def oddFn : Value := .func (.func 37) #[] #[]

theorem contains_no (a : Option Addr) (gs : List Int) (cap : Nat) (w : World) (hg : GsAt w a gs) (hl : gs.length ≤ 4) (hok : ∀ j, j < gs.length → okG (gs.getD j 0)) :
    Calls Tryd.prog 38 #[.slice a gs.length cap, .func (.func 37) #[] #[]] w fun e w' => e = .returned (.bool false) ∧ w = w' := by
  have HC := Lib.hid (index_no a gs cap w hg hl hok)
  clear hg hok
  go_enter Tryd.func38, Tryd.ntmps38
  go_wp2_with (go_at_call 50; refine HC.out.mono ?_; rintro e w' ⟨rfl, rfl⟩)
  go_ret
  exact ⟨rfl, rfl⟩
theorem contains_yes (a : Option Addr) (gs : List Int) (cap : Nat) (w : World) (hg : GsAt w a gs) (hl : gs.length ≤ 4) (hbad : ¬ ∀ j, j < gs.length → okG (gs.getD j 0)) :
    Calls Tryd.prog 38 #[.slice a gs.length cap, .func (.func 37) #[] #[]] w fun e w' => e = .returned (.bool true) ∧ w = w' := by
  have HC := Lib.hid (index_yes a gs cap w hg hl hbad)
  clear hg hbad
  go_enter Tryd.func38, Tryd.ntmps38
  go_wp2_with (go_at_call 50; refine HC.out.mono ?_; rintro e w' ⟨⟨n, rfl⟩, rfl⟩)
  go_ret
  exact ⟨ret_bool (by simp), rfl⟩

/-- May the layout be? -/
def RightL (rows : Int) (gs : List Int) : Prop := 1 ≤ rows ∧ rows ≤ 60 ∧ 1 ≤ gs.length ∧ gs.length ≤ 4 ∧ (∀ j, j < gs.length → okG (gs.getD j 0)) ∧ total gs ≤ 10
theorem RightL.tot {rows : Int} {gs : List Int} (h : RightL rows gs) : 1 ≤ total gs ∧ total gs ≤ 10 := by
  have := sumK_rng h.2.2.2.2.1 gs.length (Nat.le_refl _)
  have h1 := h.2.2.1
  unfold total
  exact ⟨by omega, h.2.2.2.2.2⟩

set_option maxHeartbeats 1000000 in
theorem right_yes (rows : Int) (a : Option Addr) (gs : List Int) (cap : Nat) (w : World) (hg : GsAt w a gs) (h : RightL rows gs) :
    Calls Tryd.prog 18 #[.agg #[.int .i64 rows, .slice a gs.length cap]] w fun e w' => e = .returned (.bool true) ∧ Below w.heap.size w w' := by
  obtain ⟨r1, r2, l1, l2, hok, ht⟩ := h
  have hb1 := bl_alloc (Below.refl w.heap.size w) (.cells #[.int .i64 rows, .slice a gs.length cap] 24)
  have HC := Lib.hid (contains_no a gs cap _ (hg.keep hb1) l2 hok)
  have HA := Lib.hid (across_any rows a gs cap _ (hg.keep hb1) l2 hok)
  have k1 : ¬ (gs.length : Int) < 1 := by omega
  have k2 : ¬ (4 : Int) < (gs.length : Int) := by omega
  have k3 : ¬ rows < 1 := by omega
  have k4 : ¬ 60 < rows := by omega
  have HB := Lib.hid hb1
  clear hg hok hb1
  go_enter Tryd.func18, Tryd.ntmps18
  go_wp2_with (first
    | (go_at_call 38; refine HC.out.mono ?_; rintro e w' ⟨rfl, rfl⟩)
    | (go_at_call 23; refine HA.out.mono ?_; rintro e w' ⟨rfl, hb⟩))
  go_ret
  exact ⟨ret_bool (by simp), bl_trans HB.out hb⟩

set_option maxHeartbeats 2000000 in
theorem right_no (rows : Int) (a : Option Addr) (gs : List Int) (cap : Nat) (w : World) (hg : GsAt w a gs) (hlm : gs.length ≤ maxLen) (h : ¬ RightL rows gs) :
    Calls Tryd.prog 18 #[.agg #[.int .i64 rows, .slice a gs.length cap]] w fun e w' => e = .returned (.bool false) ∧ Below w.heap.size w w' := by
  unfold maxLen at hlm
  have hb1 := bl_alloc (Below.refl w.heap.size w) (.cells #[.int .i64 rows, .slice a gs.length cap] 24)
  have HB := Lib.hid hb1
  by_cases r1 : rows < 1
  · clear h hg hb1
    go_enter Tryd.func18, Tryd.ntmps18
    go_wp2
    go_ret
    exact ⟨rfl, HB.out⟩
  by_cases r2 : 60 < rows
  · clear h hg hb1
    go_enter Tryd.func18, Tryd.ntmps18
    go_wp2
    go_ret
    exact ⟨rfl, HB.out⟩
  by_cases l1 : (gs.length : Int) < 1
  · clear h hg hb1
    go_enter Tryd.func18, Tryd.ntmps18
    go_wp2
    go_ret
    exact ⟨rfl, HB.out⟩
  by_cases l2 : (4 : Int) < (gs.length : Int)
  · clear h hg hb1
    go_enter Tryd.func18, Tryd.ntmps18
    go_wp2
    go_ret
    exact ⟨rfl, HB.out⟩
  have l4 : gs.length ≤ 4 := by omega
  by_cases hok : ∀ j, j < gs.length → okG (gs.getD j 0)
  · have ht : ¬ total gs ≤ 10 := fun ht => h ⟨by omega, by omega, by omega, l4, hok, ht⟩
    have ht' : decide (total gs ≤ 10) = false := by simpa using ht
    have HT := Lib.hid ht'
    have HC := Lib.hid (contains_no a gs cap _ (hg.keep hb1) l4 hok)
    have HA := Lib.hid (across_any rows a gs cap _ (hg.keep hb1) l4 hok)
    clear h hg hb1 hok ht ht'
    go_enter Tryd.func18, Tryd.ntmps18
    go_wp2_with (first
      | (go_at_call 38; refine HC.out.mono ?_; rintro e w' ⟨rfl, rfl⟩)
      | (go_at_call 23; refine HA.out.mono ?_; rintro e w' ⟨rfl, hb⟩))
    go_ret
    exact ⟨ret_bool HT.out, bl_trans HB.out hb⟩
  · have HC := Lib.hid (contains_yes a gs cap _ (hg.keep hb1) l4 hok)
    clear h hg hb1 hok
    go_enter Tryd.func18, Tryd.ntmps18
    go_wp2_with (go_at_call 38; refine HC.out.mono ?_; rintro e w' ⟨rfl, rfl⟩)
    go_ret
    exact ⟨rfl, HB.out⟩
end Go.Proofs.YtmnoacjmdnmddaaDoor
