/- The plain laws of locators: what was made is read as it was; what is read is what was made; a slip is seen. No program in sight. -/
import Derived.Test.YthljeclddlcidaaLocPlain
namespace Go.Proofs.Ythljeclddlcidaa.Loc

theorem bt_mk (a b c d e f : UInt8) : bt ⟨#[a, b, c, d, e, f]⟩ 0 = a ∧ bt ⟨#[a, b, c, d, e, f]⟩ 1 = b ∧ bt ⟨#[a, b, c, d, e, f]⟩ 2 = c ∧ bt ⟨#[a, b, c, d, e, f]⟩ 3 = d ∧ bt ⟨#[a, b, c, d, e, f]⟩ 4 = e ∧ bt ⟨#[a, b, c, d, e, f]⟩ 5 = f := ⟨rfl, rfl, rfl, rfl, rfl, rfl⟩

theorem wk_locS (n : Int) :
    wk (locS n) 0 = n / 31 / 31 / 31 / 31 % 31 ∧ wk (locS n) 1 = n / 31 / 31 / 31 % 31 ∧ wk (locS n) 2 = n / 31 / 31 % 31 ∧ wk (locS n) 3 = n / 31 % 31 ∧ wk (locS n) 4 = n % 31 ∧
    wk (locS n) 5 = chk (n / 31 / 31 / 31 / 31 % 31) (n / 31 / 31 / 31 % 31) (n / 31 / 31 % 31) (n / 31 % 31) (n % 31) := by
  unfold locS wk
  obtain ⟨h0, h1, h2, h3, h4, h5⟩ := bt_mk (sgB (n / 31 / 31 / 31 / 31 % 31)) (sgB (n / 31 / 31 / 31 % 31)) (sgB (n / 31 / 31 % 31)) (sgB (n / 31 % 31)) (sgB (n % 31))
    (sgB (chk (n / 31 / 31 / 31 / 31 % 31) (n / 31 / 31 / 31 % 31) (n / 31 / 31 % 31) (n / 31 % 31) (n % 31)))
  rw [h0, h1, h2, h3, h4, h5]
  refine ⟨wvB_sg (by omega) (by omega), wvB_sg (by omega) (by omega), wvB_sg (by omega) (by omega), wvB_sg (by omega) (by omega), wvB_sg (by omega) (by omega), wvB_sg ?_ ?_⟩ <;> unfold chk <;> omega

theorem locS_size (n : Int) : (locS n).size = 6 := rfl

theorem valTo5 (s : ByteArray) : valTo s 5 = (((wk s 0 * 31 + wk s 1) * 31 + wk s 2) * 31 + wk s 3) * 31 + wk s 4 := by simp [valTo]

theorem good_locS (n : Int) : good (locS n) := by
  obtain ⟨h0, h1, h2, h3, h4, h5⟩ := wk_locS n
  refine ⟨rfl, fun j hj => ?_, ?_⟩
  · have hj' : j = 0 ∨ j = 1 ∨ j = 2 ∨ j = 3 ∨ j = 4 ∨ j = 5 := by omega
    rcases hj' with rfl | rfl | rfl | rfl | rfl | rfl
    · rw [h0]; omega
    · rw [h1]; omega
    · rw [h2]; omega
    · rw [h3]; omega
    · rw [h4]; omega
    · rw [h5]; unfold chk; omega
  · rw [← sum_mod, h0, h1, h2, h3, h4, h5]
    unfold chk
    omega

theorem val_locS (n : Int) (h0 : 0 ≤ n) (h1 : n < 28629151) : valTo (locS n) 5 = n := by
  obtain ⟨e0, e1, e2, e3, e4, _⟩ := wk_locS n
  rw [valTo5, e0, e1, e2, e3, e4]
  omega

theorem bytes6 (s : ByteArray) (h : s.size = 6) : s = ⟨#[bt s 0, bt s 1, bt s 2, bt s 3, bt s 4, bt s 5]⟩ := by
  apply ByteArray.ext
  apply Array.toList_inj.1
  have hl : s.data.toList.length = 6 := by simpa using h
  unfold bt
  match hs : s.data.toList, hl with
  | [a, b, c, d, e, f], _ => simp

theorem ext6 {s t : ByteArray} (hs : s.size = 6) (ht : t.size = 6) (h : ∀ j, j < 6 → bt s j = bt t j) : s = t := by
  rw [bytes6 s hs, bytes6 t ht, h 0 (by omega), h 1 (by omega), h 2 (by omega), h 3 (by omega), h 4 (by omega), h 5 (by omega)]

theorem sgB_wk {s : ByteArray} {j : Nat} (h : 0 ≤ wk s j) : sgB (wk s j) = bt s j := ((wvB_all (bt s j)).2.2 h).1

theorem once {s : ByteArray} (h : good s) : 0 ≤ valTo s 5 ∧ valTo s 5 < 28629151 ∧ locS (valTo s 5) = s := by
  obtain ⟨h6, hok, hs⟩ := h
  have a0 := hok 0 (by omega); have a1 := hok 1 (by omega); have a2 := hok 2 (by omega); have a3 := hok 3 (by omega); have a4 := hok 4 (by omega); have a5 := hok 5 (by omega)
  have b0 := (wk_rng s 0).2; have b1 := (wk_rng s 1).2; have b2 := (wk_rng s 2).2; have b3 := (wk_rng s 3).2; have b4 := (wk_rng s 4).2; have b5 := (wk_rng s 5).2
  have hv := valTo5 s
  have hn := sum_mod s
  rw [hs] at hn
  generalize e : valTo s 5 = n at *
  have d0 : n / 31 / 31 / 31 / 31 % 31 = wk s 0 := by omega
  have d1 : n / 31 / 31 / 31 % 31 = wk s 1 := by omega
  have d2 : n / 31 / 31 % 31 = wk s 2 := by omega
  have d3 : n / 31 % 31 = wk s 3 := by omega
  have d4 : n % 31 = wk s 4 := by omega
  have d5 : wk s 5 = chk (wk s 0) (wk s 1) (wk s 2) (wk s 3) (wk s 4) := by unfold chk; omega
  refine ⟨by omega, by omega, ?_⟩
  rw [locS_of d0 d1 d2 d3 d4 d5, sgB_wk a0, sgB_wk a1, sgB_wk a2, sgB_wk a3, sgB_wk a4, sgB_wk a5]
  exact (bytes6 s h6).symm

/-- The weights. -/
theorem good_sum {s : ByteArray} (h : good s) : (2 * wk s 0 + 3 * wk s 1 + 4 * wk s 2 + 5 * wk s 3 + 6 * wk s 4 + wk s 5) % 31 = 0 := by rw [sum_mod]; exact h.2.2

theorem wk_inj {s t : ByteArray} {i j : Nat} (hs : 0 ≤ wk s i) (ht : 0 ≤ wk t j) (h : wk s i = wk t j) : bt s i = bt t j := by rw [← sgB_wk hs, ← sgB_wk ht, h]
theorem wk_of_bt {s t : ByteArray} {i j : Nat} (h : bt s i = bt t j) : wk s i = wk t j := by unfold wk; rw [h]

theorem one_diff {s t : ByteArray} (hs : good s) (ht : good t) {i : Nat} (hi : i < 6) (h : ∀ j, j < 6 → j ≠ i → bt t j = bt s j) : bt t i = bt s i := by
  have a := good_sum hs
  have b := good_sum ht
  have ra := (wk_rng s i).2
  have rb := (wk_rng t i).2
  have pa := hs.2.1 i hi
  have pb := ht.2.1 i hi
  refine wk_inj pb pa ?_
  have e : ∀ j, j < 6 → j ≠ i → wk t j = wk s j := fun j hj hne => wk_of_bt (h j hj hne)
  have hi' : i = 0 ∨ i = 1 ∨ i = 2 ∨ i = 3 ∨ i = 4 ∨ i = 5 := by omega
  rcases hi' with rfl | rfl | rfl | rfl | rfl | rfl
  · rw [e 1 (by omega) (by omega), e 2 (by omega) (by omega), e 3 (by omega) (by omega), e 4 (by omega) (by omega), e 5 (by omega) (by omega)] at b; omega
  · rw [e 0 (by omega) (by omega), e 2 (by omega) (by omega), e 3 (by omega) (by omega), e 4 (by omega) (by omega), e 5 (by omega) (by omega)] at b; omega
  · rw [e 0 (by omega) (by omega), e 1 (by omega) (by omega), e 3 (by omega) (by omega), e 4 (by omega) (by omega), e 5 (by omega) (by omega)] at b; omega
  · rw [e 0 (by omega) (by omega), e 1 (by omega) (by omega), e 2 (by omega) (by omega), e 4 (by omega) (by omega), e 5 (by omega) (by omega)] at b; omega
  · rw [e 0 (by omega) (by omega), e 1 (by omega) (by omega), e 2 (by omega) (by omega), e 3 (by omega) (by omega), e 5 (by omega) (by omega)] at b; omega
  · rw [e 0 (by omega) (by omega), e 1 (by omega) (by omega), e 2 (by omega) (by omega), e 3 (by omega) (by omega), e 4 (by omega) (by omega)] at b; omega

theorem two_diff {s t : ByteArray} (hs : good s) (ht : good t) {i k : Nat} (hi : i < 6) (hk : k < 6) (hik : bt t i = bt s k) (hki : bt t k = bt s i) (h : ∀ j, j < 6 → j ≠ i → j ≠ k → bt t j = bt s j) : bt s i = bt s k := by
  by_cases hne : i = k
  · rw [hne]
  have a := good_sum hs
  have b := good_sum ht
  have ra := (wk_rng s i).2
  have rb := (wk_rng s k).2
  have pa := hs.2.1 i hi
  have pb := hs.2.1 k hk
  refine wk_inj pa pb ?_
  have e : ∀ j, j < 6 → wk t j = if j = i then wk s k else if j = k then wk s i else wk s j := by
    intro j hj
    split
    · rename_i h1; rw [h1]; exact wk_of_bt hik
    · split
      · rename_i h1; rw [h1]; exact wk_of_bt hki
      · rename_i h1 h2; exact wk_of_bt (h j hj h1 h2)
  have e0 := e 0 (by omega)
  have e1 := e 1 (by omega)
  have e2 := e 2 (by omega)
  have e3 := e 3 (by omega)
  have e4 := e 4 (by omega)
  have e5 := e 5 (by omega)
  clear e h hik hki
  have hi' : i = 0 ∨ i = 1 ∨ i = 2 ∨ i = 3 ∨ i = 4 ∨ i = 5 := by omega
  have hk' : k = 0 ∨ k = 1 ∨ k = 2 ∨ k = 3 ∨ k = 4 ∨ k = 5 := by omega
  rcases hi' with rfl | rfl | rfl | rfl | rfl | rfl <;> rcases hk' with rfl | rfl | rfl | rfl | rfl | rfl <;>
    first
      | exact absurd rfl hne
      | (simp (decide := true) only [if_true, if_false] at e0 e1 e2 e3 e4 e5
         rw [e0, e1, e2, e3, e4, e5] at b
         clear e0 e1 e2 e3 e4 e5
         omega)

/-- In how many of the first k signs two texts differ. -/
def cnt (s t : ByteArray) : Nat → Nat
  | 0 => 0
  | k + 1 => cnt s t k + if bt s k = bt t k then 0 else 1
theorem cnt_zero {s t : ByteArray} : ∀ k, cnt s t k = 0 → ∀ j, j < k → bt t j = bt s j
  | 0, _, j, hj => by omega
  | k + 1, h, j, hj => by
    unfold cnt at h
    split at h
    · rename_i hb
      by_cases e : j = k
      · rw [e, hb]
      · exact cnt_zero k (by omega) j (by omega)
    · omega
theorem cnt_one {s t : ByteArray} : ∀ k, cnt s t k ≤ 1 → ∃ i, ∀ j, j < k → j ≠ i → bt t j = bt s j
  | 0, _ => ⟨0, fun j hj => by omega⟩
  | k + 1, h => by
    unfold cnt at h
    split at h
    · rename_i hb
      obtain ⟨i, hi⟩ := cnt_one k (by omega)
      refine ⟨i, fun j hj hne => ?_⟩
      by_cases e : j = k
      · rw [e, hb]
      · exact hi j (by omega) hne
    · refine ⟨k, fun j hj hne => cnt_zero k (by omega) j (by omega)⟩
theorem cnt_le (s t : ByteArray) : ∀ k, cnt s t k ≤ k
  | 0 => Nat.le_refl _
  | k + 1 => by have := cnt_le s t k; unfold cnt; split <;> omega
theorem apart {a b : Int} (ha0 : 0 ≤ a) (ha1 : a < 28629151) (hb0 : 0 ≤ b) (hb1 : b < 28629151) (hne : a ≠ b) : 2 ≤ cnt (locS a) (locS b) 6 := by
  apply Nat.le_of_not_lt
  intro h
  obtain ⟨i, hi⟩ := cnt_one 6 (Nat.le_of_lt_succ h)
  have he : locS b = locS a := by
    refine ext6 rfl rfl fun j hj => ?_
    by_cases hji : j = i
    · subst hji
      exact one_diff (good_locS a) (good_locS b) hj hi
    · exact hi j hj hji
  apply hne
  rw [← val_locS a ha0 ha1, ← val_locS b hb0 hb1, he]

/-- A text of six signs, by place. -/
def sB (F : Nat → UInt8) : ByteArray := ⟨((List.range 6).map F).toArray⟩
theorem bt_sB (F : Nat → UInt8) {j : Nat} (h : j < 6) : bt (sB F) j = F j := by
  have hj' : j = 0 ∨ j = 1 ∨ j = 2 ∨ j = 3 ∨ j = 4 ∨ j = 5 := by omega
  rcases hj' with rfl | rfl | rfl | rfl | rfl | rfl <;> rfl
theorem sB_size (F : Nat → UInt8) : (sB F).size = 6 := rfl
/-- One sign is another one. -/
def put1 (s : ByteArray) (i : Nat) (x : UInt8) : Nat → UInt8 := fun j => if j = i then x else bt s j
theorem slip1 {s : ByteArray} (hs : good s) {i : Nat} (hi : i < 6) {x : UInt8} (hx : x ≠ bt s i) : rdE (sB (put1 s i x)) = 6 := by
  refine (rd_bad fun ht => hx ?_).1
  have h := one_diff hs ht hi (fun j hj hne => by rw [bt_sB _ hj]; simp [put1, hne])
  rw [bt_sB _ hi] at h
  simpa [put1] using h
def swap2 (s : ByteArray) (i k : Nat) : Nat → UInt8 := fun j => if j = k then bt s i else if j = i then bt s k else bt s j
theorem slip2 {s : ByteArray} (hs : good s) {i k : Nat} (hi : i < 6) (hk : k < 6) (hx : bt s i ≠ bt s k) : rdE (sB (swap2 s i k)) = 6 := by
  refine (rd_bad fun ht => hx ?_).1
  have hne : i ≠ k := fun e => hx (by rw [e])
  refine two_diff hs ht hi hk ?_ ?_ (fun j hj h1 h2 => by rw [bt_sB _ hj]; simp [swap2, h1, h2])
  · rw [bt_sB _ hi]; simp [swap2, hne]
  · rw [bt_sB _ hk]; simp [swap2]
end Go.Proofs.Ythljeclddlcidaa.Loc
