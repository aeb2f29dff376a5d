/- The check sum's arithmetic: linear maps on 32 bits. Conditions: none. -/
import Derived.Test.YtnmmhggdjlfnfaaAid
namespace Go.Proofs.Ytnmmhggdjlfnfaa
abbrev W32 := BitVec 32
abbrev W8 := BitVec 8
/-- All bits, or none. -/
def mask (r : W32) (i : Nat) : W32 := -((r >>> i) &&& 1#32)
theorem mask_eq (r : W32) (i : Nat) : mask r i = if r.getLsbD i then BitVec.allOnes 32 else 0#32 := by
  have h : (r >>> i) &&& 1#32 = if r.getLsbD i then 1#32 else 0#32 := by
    apply BitVec.eq_of_getLsbD_eq
    intro k hk
    rw [BitVec.getLsbD_and, BitVec.getLsbD_ushiftRight]
    by_cases hb : r.getLsbD i
    · rw [if_pos hb]
      by_cases h0 : k = 0
      · subst h0; simp [hb]
      · simp [h0]
    · rw [if_neg hb]
      by_cases h0 : k = 0
      · subst h0; simp [hb]
      · simp [h0]
  unfold mask
  rw [h]
  split <;> rfl
def timesTo (m : Nat → W32) (r : W32) : Nat → W32
  | 0 => 0#32
  | i + 1 => timesTo m r i ^^^ (m i &&& mask r i)
def LinF (f : W32 → W32) : Prop := ∀ a b, f (a ^^^ b) = f a ^^^ f b
theorem LinF.zero {f : W32 → W32} (h : LinF f) : f 0#32 = 0#32 := by
  have := h 0#32 0#32
  simpa using this
theorem LinF.comp {f g : W32 → W32} (h : LinF f) (k : LinF g) : LinF (fun x => f (g x)) := fun a b => by
  show f (g (a ^^^ b)) = _
  rw [k, h]
theorem LinF.mask {f : W32 → W32} (h : LinF f) (a r : W32) (i : Nat) : f (a &&& mask r i) = f a &&& mask r i := by
  rw [mask_eq]
  split
  · rw [BitVec.and_allOnes, BitVec.and_allOnes]
  · rw [BitVec.and_zero, BitVec.and_zero, h.zero]
theorem LinF.timesTo {f : W32 → W32} (h : LinF f) (m : Nat → W32) (r : W32) : ∀ i, f (timesTo m r i) = timesTo (fun j => f (m j)) r i
  | 0 => h.zero
  | i + 1 => by
    show f (Go.Proofs.Ytnmmhggdjlfnfaa.timesTo m r i ^^^ _) = _
    rw [h, h.timesTo m r i, h.mask]
    rfl
theorem timesTo_congr {m m' : Nat → W32} (r : W32) : ∀ i, (∀ j, j < i → m j = m' j) → timesTo m r i = timesTo m' r i
  | 0, _ => rfl
  | i + 1, h => by
    show timesTo m r i ^^^ _ = timesTo m' r i ^^^ _
    rw [timesTo_congr r i (fun j hj => h j (by omega)), h i (by omega)]
def unit (j : Nat) : W32 := 1#32 <<< j
theorem unit_bit (j k : Nat) (hk : k < 32) : (unit j).getLsbD k = decide (k = j) := by
  unfold unit
  rw [BitVec.getLsbD_shiftLeft]
  by_cases h : k = j
  · subst h; simp [hk]
  · by_cases h2 : k < j
    · simp [h, h2]
    · have : k - j ≠ 0 := by omega
      simp [h, h2, this]
theorem units_bit (r : W32) : ∀ i, ∀ k, k < 32 → (timesTo unit r i).getLsbD k = (decide (k < i) && r.getLsbD k)
  | 0, k, _ => by simp [timesTo]
  | i + 1, k, hk => by
    show (timesTo unit r i ^^^ (unit i &&& mask r i)).getLsbD k = _
    have hm : (mask r i).getLsbD k = r.getLsbD i := by
      rw [mask_eq]
      cases hb : r.getLsbD i
      · rw [if_neg (by decide)]; exact BitVec.getLsbD_zero
      · rw [if_pos rfl, BitVec.getLsbD_allOnes]; exact decide_eq_true hk
    rw [BitVec.getLsbD_xor, units_bit r i k hk, BitVec.getLsbD_and, unit_bit i k hk, hm]
    by_cases h : k = i
    · subst h
      rw [decide_eq_false (Nat.lt_irrefl k), decide_eq_true rfl, decide_eq_true (Nat.lt_succ_self k)]
      simp
    · rw [decide_eq_false h]
      by_cases h2 : k < i
      · rw [decide_eq_true h2, decide_eq_true (show k < i + 1 by omega)]; simp
      · rw [decide_eq_false h2, decide_eq_false (show ¬ k < i + 1 by omega)]; simp
theorem units (r : W32) : timesTo unit r 32 = r := by
  apply BitVec.eq_of_getLsbD_eq
  intro k hk
  rw [units_bit r 32 k hk]
  simp [hk]
/-- A linear map is its matrix. -/
theorem LinF.times {f : W32 → W32} (h : LinF f) {m : Nat → W32} (hm : ∀ j, j < 32 → m j = f (unit j)) (r : W32) : Go.Proofs.Ytnmmhggdjlfnfaa.timesTo m r 32 = f r := by
  rw [timesTo_congr r 32 (m' := fun j => f (unit j)) hm, ← h.timesTo, units]
def poly : W32 := 2197175160#32
/-- One step. -/
def S1 (r : W32) : W32 := (r >>> 1) ^^^ (if r.getLsbD 0 then poly else 0#32)
theorem S1_lin : LinF S1 := fun a b => by
  unfold S1
  rw [BitVec.ushiftRight_xor_distrib, BitVec.getLsbD_xor]
  have h : ∀ p q : Bool, (if (p ^^ q) = true then poly else 0#32) = (if p = true then poly else 0#32) ^^^ (if q = true then poly else 0#32) := by decide
  rw [h]
  ac_rfl
def steppedM (j : Nat) : W32 := if j = 0 then poly else 1#32 <<< (j - 1)
theorem stepped_eq : ∀ j, j < 32 → steppedM j = S1 (unit j) := by decide
def S2 (r : W32) : W32 := S1 (S1 r)
def S4 (r : W32) : W32 := S2 (S2 r)
def S8 (r : W32) : W32 := S4 (S4 r)
theorem S2_lin : LinF S2 := S1_lin.comp S1_lin
theorem S4_lin : LinF S4 := S2_lin.comp S2_lin
theorem S8_lin : LinF S8 := S4_lin.comp S4_lin
def hi8 (r : W32) : W32 := (r >>> 8) ^^^ S8 (r &&& 255#32)
theorem hi8_lin : LinF hi8 := fun a b => by
  unfold hi8
  have h : (a ^^^ b) &&& 255#32 = (a &&& 255#32) ^^^ (b &&& 255#32) := by
    apply BitVec.eq_of_getLsbD_eq
    intro k hk
    rw [BitVec.getLsbD_and, BitVec.getLsbD_xor, BitVec.getLsbD_xor, BitVec.getLsbD_and, BitVec.getLsbD_and]
    exact Bool.and_xor_distrib_right _ _ _
  rw [BitVec.ushiftRight_xor_distrib, h, S8_lin]
  ac_rfl
theorem lin_ext {f g : W32 → W32} (hf : LinF f) (hg : LinF g) (h : ∀ j, j < 32 → f (unit j) = g (unit j)) (r : W32) : f r = g r := by
  rw [← hf.times (m := fun j => f (unit j)) (fun _ _ => rfl), ← hg.times (m := fun j => f (unit j)) h]
theorem hi8_eq (r : W32) : (r >>> 8) ^^^ S8 (r &&& 255#32) = S8 r := lin_ext hi8_lin S8_lin (by decide) r
/-- A byte more. -/
def eat (r : W32) (c : W8) : W32 := S8 (r ^^^ c.setWidth 32)
theorem eat_eq (r : W32) (c : W8) : (r >>> 8) ^^^ S8 ((r.setWidth 8 ^^^ c).setWidth 32) = eat r c := by
  have h1 : (r.setWidth 8 ^^^ c).setWidth 32 = (r ^^^ c.setWidth 32) &&& 255#32 := by
    apply BitVec.eq_of_getLsbD_eq
    intro k hk
    have h255 : (255#32).getLsbD k = decide (k < 8) := by
      have : ∀ k, k < 32 → (255#32).getLsbD k = decide (k < 8) := by decide
      exact this k hk
    rw [BitVec.getLsbD_setWidth, BitVec.getLsbD_xor, BitVec.getLsbD_setWidth, BitVec.getLsbD_and, BitVec.getLsbD_xor, BitVec.getLsbD_setWidth, h255]
    by_cases h : k < 8
    · simp [h, hk]
    · simp [h, hk, BitVec.getLsbD_of_ge c k (by omega)]
  have h2 : r >>> 8 = (r ^^^ c.setWidth 32) >>> 8 := by
    rw [BitVec.ushiftRight_xor_distrib]
    have : (c.setWidth 32) >>> 8 = 0#32 := by
      apply BitVec.eq_of_getLsbD_eq
      intro k hk
      rw [BitVec.getLsbD_ushiftRight, BitVec.getLsbD_setWidth]
      simp [BitVec.getLsbD_of_ge c (8 + k) (by omega)]
    rw [this, BitVec.xor_zero]
  unfold eat
  rw [h1, h2, hi8_eq]
def eats (r : W32) (l : List W8) : W32 := l.foldl eat r
def addC (s : W32) (l : List W8) : W32 := ~~~ eats (~~~ s) l
def sumC (l : List W8) : W32 := addC 0#32 l
/-- The n-th power. -/
def pow (f : W32 → W32) : Nat → W32 → W32
  | 0, a => a
  | n + 1, a => pow f n (f a)
theorem pow_lin {f : W32 → W32} (h : LinF f) : ∀ n, LinF (pow f n)
  | 0 => fun _ _ => rfl
  | n + 1 => fun a b => by
    show pow f n (f (a ^^^ b)) = _
    rw [h, pow_lin h n]
    rfl
theorem pow_two (f : W32 → W32) : ∀ n a, pow (fun x => f (f x)) n a = pow f (2 * n) a
  | 0, _ => rfl
  | n + 1, a => by
    show pow (fun x => f (f x)) n (f (f a)) = _
    rw [pow_two f n]
    rfl
theorem eats_xor : ∀ (l : List W8) (r d : W32), eats (r ^^^ d) l = pow S8 l.length d ^^^ eats r l
  | [], r, d => by
    show r ^^^ d = d ^^^ r
    exact BitVec.xor_comm _ _
  | c :: l, r, d => by
    show eats (eat (r ^^^ d) c) l = _
    have : eat (r ^^^ d) c = eat r c ^^^ S8 d := by
      unfold eat
      rw [← S8_lin]
      congr 1
      ac_rfl
    rw [this, eats_xor l]
    rfl
theorem addC_join (s : W32) (l : List W8) : pow S8 l.length s ^^^ sumC l = addC s l := by
  unfold sumC addC
  have h : ~~~ s = ~~~ 0#32 ^^^ s := by
    apply BitVec.eq_of_getLsbD_eq
    intro k hk
    rw [BitVec.getLsbD_xor, BitVec.getLsbD_not, BitVec.getLsbD_not, BitVec.getLsbD_zero, decide_eq_true hk]
    cases s.getLsbD k <;> rfl
  rw [h, eats_xor]
  generalize pow S8 l.length s = p
  generalize eats _ l = q
  apply BitVec.eq_of_getLsbD_eq
  intro k hk
  rw [BitVec.getLsbD_xor, BitVec.getLsbD_not, BitVec.getLsbD_not, BitVec.getLsbD_xor, decide_eq_true hk]
  cases p.getLsbD k <;> cases q.getLsbD k <;> rfl
theorem addC_app (s : W32) (x y : List W8) : addC s (x ++ y) = addC (addC s x) y := by
  unfold addC eats
  rw [List.foldl_append, BitVec.not_not]
theorem sumC_app (x y : List W8) : sumC (x ++ y) = pow S8 y.length (sumC x) ^^^ sumC y := by
  rw [addC_join]
  exact addC_app _ _ _
theorem sum_nine : sumC [49#8, 50#8, 51#8, 52#8, 53#8, 54#8, 55#8, 56#8, 57#8] = 3808858755#32 := by decide +kernel
end Go.Proofs.Ytnmmhggdjlfnfaa
