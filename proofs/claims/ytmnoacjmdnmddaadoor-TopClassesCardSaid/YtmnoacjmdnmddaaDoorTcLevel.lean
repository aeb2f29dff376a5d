/- fare.Level: so much of some seats. Conditions: none. -/
import Derived.Test.YtmnoacjmdnmddaaDoorStagedT
import Derived.Laws.FloatArith
namespace Go.Proofs.YtmnoacjmdnmddaaDoor
open Go.RowKit
open Ieee
theorem add_bool {x t : Nat} (b : Bool) (h : x < t) : x + b.toNat ≤ t := by cases b <;> simp <;> omega
theorem cut_le (way : Toward) (neg : Bool) (n drop t : Nat) (h : n / 2 ^ drop < t) : way.cut neg n drop ≤ t := by
  unfold Toward.cut
  simp only [Nat.one_shiftLeft]
  have hlow : n / 2 ^ min drop (n.log2 + 2) < t := by
    rcases Nat.le_total drop (n.log2 + 2) with h1 | h1
    · rw [Nat.min_eq_left h1]; exact h
    · rw [Nat.min_eq_right h1, Nat.div_eq_of_lt]
      · exact Nat.lt_of_le_of_lt (Nat.zero_le _) h
      · have h2 : n < 2 ^ (n.log2 + 1) := Nat.lt_log2_self
        have h3 : 2 ^ (n.log2 + 1) ≤ 2 ^ (n.log2 + 2) := Nat.pow_le_pow_right (by omega) (by omega)
        omega
  exact add_bool _ hlow
/-- What stands for a number below 2 ^ (B + 1), not negative. -/
def Lt (d : Datum) (B : Int) : Prop := ∃ m k, d = .number false m k ∧ (m = 0 ∨ k + (m.log2 : Int) ≤ B)
theorem div_pow_lt {m d t : Nat} (h : m.log2 + 1 ≤ d + t) : m / 2 ^ d < 2 ^ t := by
  rw [Nat.div_lt_iff_lt_mul (Nat.two_pow_pos d), ← Nat.pow_add]
  have h2 : m < 2 ^ (m.log2 + 1) := Nat.lt_log2_self
  have h3 : 2 ^ (m.log2 + 1) ≤ 2 ^ (t + d) := Nat.pow_le_pow_right (by omega) (by omega)
  omega
theorem log2_shift {m s t : Nat} (h : m.log2 + s < t) : m * 2 ^ s < 2 ^ t := by
  have h2 : m < 2 ^ (m.log2 + 1) := Nat.lt_log2_self
  have h3 : m * 2 ^ s < 2 ^ (m.log2 + 1) * 2 ^ s := Nat.mul_lt_mul_of_pos_right h2 (Nat.two_pow_pos s)
  rw [← Nat.pow_add] at h3
  have h4 : 2 ^ (m.log2 + 1 + s) ≤ 2 ^ t := Nat.pow_le_pow_right (by omega) (by omega)
  omega
theorem pow_53 : (2 : Nat) ^ 53 = 9007199254740992 := by decide
structure Dbl (f : Format) : Prop where
  lp : f.leastPlace = -1074
  bi : f.binade = 4503599627370496
  fb : f.fractionBits = 52
  inr : f.infRung = 9218868437227405312
  sw : f.signWeight = 9223372036854775808
theorem word_pos (f : Format) (r : Nat) : f.word false r = r := rfl
theorem write_rung {f : Format} (hf : Dbl f) {m : Nat} {k B : Int} (hb : -1022 ≤ B) (h : m = 0 ∨ k + (m.log2 : Int) ≤ B) : ∃ r, f.write (.number false m k) = r ∧ (r : Int) ≤ (B + 1024) * 4503599627370496 := by
  refine ⟨f.nearest false m k, rfl, ?_⟩
  unfold Format.nearest
  by_cases h0 : m = 0
  · rw [if_pos h0, word_pos]
    omega
  · rw [if_neg h0, word_pos, hf.lp, hf.bi, hf.fb]
    have h := h.resolve_left h0
    obtain ⟨last, hlast⟩ : ∃ last, last = max (k + (m.log2 : Int) - ((52 : Nat) : Int)) (-1074) := ⟨_, rfl⟩
    rw [← hlast]
    have hcut : Toward.even.cut false (m <<< (k - last).toNat) (last - k).toNat ≤ 9007199254740992 := by
      rw [← pow_53]
      refine cut_le _ _ _ _ _ ?_
      rw [Nat.shiftLeft_eq]
      rcases Int.le_total k last with hk | hk
      · rw [show (k - last).toNat = 0 by omega, Nat.pow_zero, Nat.mul_one]
        exact div_pow_lt (by omega)
      · rw [show (last - k).toNat = 0 by omega, Nat.pow_zero, Nat.div_one]
        exact log2_shift (by omega)
    obtain ⟨c, hc⟩ : ∃ c, c = Toward.even.cut false (m <<< (k - last).toNat) (last - k).toNat := ⟨_, rfl⟩
    rw [← hc] at hcut ⊢
    have hmin := Nat.min_le_left ((last - -1074).toNat * 4503599627370496 + c) f.infRung
    generalize min ((last - -1074).toNat * 4503599627370496 + c) f.infRung = z at hmin ⊢
    omega
theorem read_rung {f : Format} (hf : Dbl f) {r : Nat} {B : Int} (hb : -1022 ≤ B) (hB : B ≤ 1023) (h : (r : Int) < (B + 1024) * 4503599627370496) : Lt (f.read r) B := by
  unfold Format.read
  rw [hf.sw, hf.lp, hf.bi, hf.inr]
  have h1 : r % 9223372036854775808 = r := Nat.mod_eq_of_lt (by omega)
  have h2 : (r / 9223372036854775808 % 2 == 1) = false := by
    rw [Nat.div_eq_of_lt (by omega)]
    rfl
  simp only [h1, h2]
  by_cases c1 : r < 4503599627370496
  · simp only [if_pos c1]
    refine ⟨_, _, rfl, ?_⟩
    by_cases h0 : r = 0
    · exact .inl h0
    · right
      have : r.log2 < 52 := (Nat.log2_lt h0).2 (by show r < 2 ^ 52; omega)
      omega
  · simp only [if_neg c1]
    rw [if_pos (by omega)]
    refine ⟨_, _, rfl, .inr ?_⟩
    have h3 : r % 4503599627370496 < 4503599627370496 := Nat.mod_lt _ (by omega)
    have : (4503599627370496 + r % 4503599627370496).log2 < 53 := (Nat.log2_lt (by omega)).2 (by show _ < 2 ^ 53; omega)
    have h4 : r / 4503599627370496 < (B + 1024).toNat := by
      rw [Nat.div_lt_iff_lt_mul (by omega)]
      omega
    omega
/-- To a word and back. -/
theorem round {f : Format} (hf : Dbl f) {d : Datum} {B : Int} (hb : -1022 ≤ B) (hB : B + 1 ≤ 1022) (h : Lt d B) : Lt (f.read (f.write d)) (B + 1) := by
  obtain ⟨m, k, rfl, h⟩ := h
  obtain ⟨r, e, hr⟩ := write_rung hf hb h
  rw [e]
  exact read_rung hf (by omega) (by omega) (by omega)
theorem cut_log {way : Toward} {m : Nat} {k : Int} {B : Nat} (h : m = 0 ∨ k + (m.log2 : Int) ≤ B) : way.cut false (m <<< k.toNat) (-k).toNat ≤ 2 ^ (B + 1) := by
  refine cut_le _ _ _ _ _ ?_
  rw [Nat.shiftLeft_eq]
  by_cases h0 : m = 0
  · subst h0
    rw [Nat.zero_mul, Nat.zero_div]
    exact Nat.two_pow_pos _
  · have h := h.resolve_left h0
    rcases Int.le_total k 0 with hk | hk
    · rw [show k.toNat = 0 by omega, Nat.pow_zero, Nat.mul_one]
      exact div_pow_lt (by omega)
    · rw [show (-k).toNat = 0 by omega, Nat.pow_zero, Nat.div_one]
      exact log2_shift (by omega)
theorem integral_lt {d : Datum} {B : Nat} (way : Toward) (h : Lt d B) : Lt (d.integral way) (B + 1) := by
  obtain ⟨m, k, rfl, h⟩ := h
  refine ⟨_, _, rfl, ?_⟩
  have hc := cut_log (way := way) h
  obtain ⟨c, hce⟩ : ∃ c, c = way.cut false (m <<< k.toNat) (-k).toNat := ⟨_, rfl⟩
  rw [← hce] at hc ⊢
  by_cases h0 : c = 0
  · exact .inl h0
  · right
    have h1 : 2 ^ c.log2 ≤ c := Nat.log2_self_le h0
    have h2 : c.log2 ≤ B + 1 := by
      have : 2 ^ c.log2 ≤ 2 ^ (B + 1) := Nat.le_trans h1 hc
      exact (Nat.pow_le_pow_iff_right (by omega)).1 this
    omega
theorem toInt_lt {d : Datum} {B : Nat} (way : Toward) (h : Lt d B) : ∃ n : Nat, d.toInt way = some (n : Int) ∧ n ≤ 2 ^ (B + 1) := by
  obtain ⟨m, k, rfl, h⟩ := h
  exact ⟨_, by unfold Datum.toInt Datum.integral signed; simp; rfl, by simpa using cut_log (way := way) h⟩
theorem dbl : Dbl double := ⟨by decide, by decide, by decide, by decide, by decide⟩
def one : Nat := 4607182418800017408
theorem read_one : double.read one = .number false 4503599627370496 (-52) := by decide
theorem read_zero : double.read 0 = .number false 0 (-1074) := by decide
theorem log2_of_lt {m s t : Nat} (h0 : m ≠ 0) (h : m * 2 ^ s < 2 ^ t) : m.log2 + s < t := by
  have h1 : 2 ^ m.log2 ≤ m := Nat.log2_self_le h0
  have h2 : 2 ^ m.log2 * 2 ^ s ≤ m * 2 ^ s := Nat.mul_le_mul_right _ h1
  rw [← Nat.pow_add] at h2
  exact (Nat.pow_lt_pow_iff_right (by omega)).1 (Nat.lt_of_le_of_lt h2 h)
/-- Of a number between nought and one. -/
theorem part_lt {p : Nat} (h0 : double.order p 0 = some .gt) (h1 : double.order p one = some .lt) : ∃ m k, double.read p = .number false m k ∧ m ≠ 0 ∧ k + (m.log2 : Int) ≤ -1 := by
  unfold Format.order at h0 h1
  rw [read_zero] at h0
  rw [read_one] at h1
  cases hr : double.read p with
  | nan s t => rw [hr] at h0; cases h0
  | infinity s =>
    rw [hr] at h0 h1
    cases s <;> simp [Datum.order] at h0 h1
  | number s m k =>
    rw [hr] at h0 h1
    simp only [Datum.order, Option.some.injEq] at h0 h1
    cases s with
    | true =>
      exfalso
      have h2 := Int.compare_eq_gt.1 h0
      unfold signed at h2
      rw [if_pos rfl, if_neg (by decide), Nat.zero_shiftLeft] at h2
      generalize m <<< (k - min k (-1074)).toNat = y at h2
      omega
    | false =>
      have h2 := Int.compare_eq_gt.1 h0
      have h3 := Int.compare_eq_lt.1 h1
      unfold signed at h2 h3
      simp only [Bool.false_eq_true, if_false, Nat.shiftLeft_eq] at h2 h3
      have hm : m ≠ 0 := by
        rintro rfl
        simp at h2
      refine ⟨m, k, rfl, hm, ?_⟩
      have h4 : m * 2 ^ (k - min k (-52)).toNat < 4503599627370496 * 2 ^ (-52 - min k (-52)).toNat := by exact_mod_cast h3
      rw [show (4503599627370496 : Nat) = 2 ^ 52 from by decide, ← Nat.pow_add] at h4
      have h5 := log2_of_lt hm h4
      omega
theorem log2_mul_le {a b : Nat} (ha : a ≠ 0) (hb : b ≠ 0) : (a * b).log2 ≤ a.log2 + b.log2 + 1 := by
  have h1 : a < 2 ^ (a.log2 + 1) := Nat.lt_log2_self
  have h2 : b < 2 ^ (b.log2 + 1) := Nat.lt_log2_self
  have h3 : a * b < 2 ^ (a.log2 + 1) * 2 ^ (b.log2 + 1) := Nat.mul_lt_mul'' h1 h2
  rw [← Nat.pow_add] at h3
  have := (Nat.log2_lt (Nat.mul_ne_zero ha hb)).2 h3
  omega
def prodF (p : Nat) (s : Int) : Nat := (floatBits .mul .f64 p (floatOfInt .f64 s)).getD 0
def floorF (x : Nat) : Nat := FloatKind.f64.encode ((FloatKind.f64.decode x).integral .down)
def flr (p : Nat) (s : Int) : Int := (floatToIntVal .f64 (floorF (prodF p s)) .i64).getD 0
theorem flr_ok {p : Nat} {s : Int} (h0 : double.order p 0 = some .gt) (h1 : double.order p one = some .lt) (hs0 : 0 ≤ s) (hs1 : s ≤ 10000) :
    floatBits .mul .f64 p (floatOfInt .f64 s) = some (prodF p s) ∧ (∃ m k, FloatKind.f64.decode (prodF p s) = .number false m k) ∧ floatToIntVal .f64 (floorF (prodF p s)) .i64 = some (flr p s) ∧ 0 ≤ flr p s ∧ flr p s ≤ 1048576 := by
  obtain ⟨m, k, hp, hm, hk⟩ := part_lt h0 h1
  have hq : Lt (double.read (floatOfInt .f64 s)) 14 := by
    have : floatOfInt .f64 s = double.write (.number false s.natAbs 0) := by
      unfold floatOfInt FloatKind.nearest
      rw [show decide (s < 0) = false from decide_eq_false (by omega)]
      rfl
    rw [this]
    refine round dbl (B := 13) (by omega) (by omega) ⟨_, _, rfl, ?_⟩
    by_cases hz : s.natAbs = 0
    · exact .inl hz
    · have : s.natAbs.log2 < 14 := (Nat.log2_lt hz).2 (by show s.natAbs < 2 ^ 14; omega)
      omega
  obtain ⟨m', j, hq, hj⟩ := hq
  have hmul : floatBits .mul .f64 p (floatOfInt .f64 s) = some (double.write (.number false (m * m') (k + j))) := by
    show ((double.read p).product (double.read (floatOfInt .f64 s))).map double.write = _
    rw [hp, hq]
    rfl
  have hpr : prodF p s = double.write (.number false (m * m') (k + j)) := by unfold prodF; rw [hmul]; rfl
  have hl : Lt (.number false (m * m') (k + j)) 14 := by
    refine ⟨_, _, rfl, ?_⟩
    by_cases hz : m' = 0
    · left; rw [hz, Nat.mul_zero]
    · right
      have := log2_mul_le hm hz
      have := hj.resolve_left hz
      omega
  have hd : Lt (double.read (prodF p s)) 15 := by rw [hpr]; exact round dbl (B := 14) (by omega) (by omega) hl
  obtain ⟨m2, k2, e2, h2⟩ := hd
  have hfl : Lt (double.read (floorF (prodF p s))) 17 := by
    refine round dbl (B := 16) (by omega) (by omega) ?_
    exact integral_lt (B := 15) .down ⟨m2, k2, e2, h2⟩
  obtain ⟨n, hn, hn2⟩ := toInt_lt (B := 17) .zero hfl
  have hn3 : n ≤ 262144 := hn2
  have hv : floatToIntVal .f64 (floorF (prodF p s)) .i64 = some (n : Int) := by
    unfold floatToIntVal
    rw [show (FloatKind.f64.decode (floorF (prodF p s))).toInt .zero = some (n : Int) from hn]
    simp only
    rw [if_pos]
    refine ⟨?_, ?_⟩
    · show (-9223372036854775808 : Int) ≤ _
      omega
    · show _ ≤ (9223372036854775807 : Int)
      omega
  have hf : flr p s = n := by unfold flr; rw [hv]; rfl
  exact ⟨by rw [hmul, hpr], ⟨m2, k2, e2⟩, by rw [hv, hf], by omega, by omega⟩
theorem extern_run {P : Program} {f : FuncId} {fn : Func} {e : Array Value → Sem Value} {args : Array Value} {v : Value} {w : World} (hf : P.funcs[f]? = some fn) (hname : (fn.name == "runtime.NumGoroutine") = false) (hb : fn.body.isNone = true)
    (hx : Extern.findNext fn = none) (he : Extern.find fn = some e) (hr : (e args).run P w = .ok v w) : (callFunc f args).run P w = .ok (.value v) w := by
  have h1 : fn.name ≠ "runtime.NumGoroutine" := by simpa using hname
  have hb' : fn.body = none := by simpa using hb
  have hm : Sem.run P (Sem.mark (Mark.extern f) (Sem.pure ())) w = .ok () w := rfl
  simp [callFunc, hf, h1, hb', mark, hx, he, Sem.run_bind, Result.andThen]
  rw [hm]
  simp [hr]
theorem arch_run {x : Nat} (h : ∃ m k, FloatKind.f64.decode x = .number false m k) (w : World) : (callFunc 51 #[.float .f64 x]).run Tryd.prog w = .ok (.value (.float .f64 (floorF x))) w := by
  refine extern_run (e := Extern.MathFloor.toIntegral "math.archFloor" .down) Tryd.func51 (by kernel_rfl) (by kernel_rfl) (by kernel_rfl) (by kernel_rfl) ?_
  obtain ⟨m, k, h⟩ := h
  have hq : FloatKind.f64.encode (Datum.integral .down (.number false m k)) = floorF x := by unfold floorF; rw [h]
  have hs : ∃ nc : Bool → Nat → Sem Value, Extern.MathFloor.toIntegral "math.archFloor" .down #[.float .f64 x] = (match FloatKind.f64.decode x with | .nan s t => nc s t | d => pure (.float .f64 (FloatKind.f64.encode (d.integral .down)))) := ⟨_, rfl⟩
  obtain ⟨nc, e⟩ := hs
  rw [e, h]
  simp only
  rw [hq]
  rfl
set_option maxRecDepth 100000 in
set_option maxHeartbeats 1000000 in
theorem floor_at {x : Nat} (h : ∃ m k, FloatKind.f64.decode x = .number false m k) (w : World) :
    Calls Tryd.prog 39 #[.float .f64 x] w fun e w' => e = .returned (.float .f64 (floorF x)) ∧ w = w' := by
  have hr := arch_run h
  clear h
  go_enter Tryd.func39, Tryd.ntmps39
  go_wp2_with fail
  go_ret
  exact ⟨rfl, rfl⟩
/-- So much of some seats. -/
def lvl (p : Nat) (s : Int) : Int := if double.order p 0 = some .gt then (if double.order p one = some .lt then flr p s else s) else 0
theorem lvl_rng {p : Nat} {s : Int} (hs0 : 0 ≤ s) (hs1 : s ≤ 10000) : 0 ≤ lvl p s ∧ lvl p s ≤ 1048576 := by
  unfold lvl
  split
  · next h0 =>
    split
    · next h1 => exact (flr_ok h0 h1 hs0 hs1).2.2.2
    · omega
  · omega
set_option maxRecDepth 100000 in
set_option maxHeartbeats 1000000 in
theorem level_at (p : Nat) (s : Int) (w : World) (h0 : 0 ≤ s) (h1 : s ≤ 10000) :
    Calls Tryd.prog 22 #[.float .f64 p, .int .i64 s] w fun e w' => e = .returned (.tuple #[.int .i64 (lvl p s), .int .i64 0]) ∧ w = w' := by
  have d0 : decide (s < 0) = false := decide_eq_false (by omega)
  have d1 : decide (10000 < s) = false := decide_eq_false (by omega)
  by_cases c0 : double.order p 0 = some .gt
  case neg =>
    have HV := Lib.hid (show lvl p s = 0 by unfold lvl; rw [if_neg c0])
    have e0 : (FloatKind.f64.format.order p 0 == some Ordering.gt) = false := beq_eq_false_iff_ne.2 c0
    clear c0
    go_enter Tryd.func22, Tryd.ntmps22
    go_wp2_with fail
    go_ret2
    exact ⟨by rw [HV.out]; rfl, rfl⟩
  have e0 : (FloatKind.f64.format.order p 0 == some Ordering.gt) = true := beq_iff_eq.2 c0
  by_cases c1 : double.order p one = some .lt
  case neg =>
    have HV := Lib.hid (show lvl p s = s by unfold lvl; rw [if_pos c0, if_neg c1])
    have e1 : (FloatKind.f64.format.order p 4607182418800017408 == some Ordering.gt) = true ∨ (FloatKind.f64.format.order p 4607182418800017408 == some Ordering.eq) = true := by
      cases hq : double.order p one with
      | none =>
        exfalso
        unfold Format.order at c0 hq
        rw [read_one] at hq
        rw [read_zero] at c0
        cases hr : double.read p with
        | nan s t => rw [hr] at c0; cases c0
        | infinity s => rw [hr] at hq; cases hq
        | number s m k => rw [hr] at hq; cases hq
      | some o =>
        have hq' : FloatKind.f64.format.order p 4607182418800017408 = some o := hq
        rw [hq']
        cases o with
        | lt => exact absurd hq c1
        | eq => right; rfl
        | gt => left; rfl
    have e2 : ((FloatKind.f64.format.order p 4607182418800017408 == some Ordering.gt) || (FloatKind.f64.format.order p 4607182418800017408 == some Ordering.eq)) = true := by simpa using e1
    clear c0 c1
    rcases e1 with e1 | e1
    all_goals
      go_enter Tryd.func22, Tryd.ntmps22
      go_wp2_with fail
      go_ret2
      exact ⟨by rw [HV.out]; rfl, rfl⟩
  have HV := Lib.hid (show lvl p s = flr p s by unfold lvl; rw [if_pos c0, if_pos c1])
  have hq' : FloatKind.f64.format.order p 4607182418800017408 = some .lt := c1
  have e1 : (FloatKind.f64.format.order p 4607182418800017408 == some Ordering.gt) = false := by rw [hq']; rfl
  have e2 : (FloatKind.f64.format.order p 4607182418800017408 == some Ordering.eq) = false := by rw [hq']; rfl
  obtain ⟨f1, f2, f3, _⟩ := flr_ok c0 c1 h0 h1
  have r1 : ∀ W : World, (binOp .mul 33 (.float .f64 p) (.float .f64 (floatOfInt .f64 s))).run Tryd.prog W = .ok (.float .f64 (prodF p s)) W := fun W => run_float_arith W .mul _ .f64 _ _ _ f1
  have HF := Lib.hid (floor_at f2 w)
  have r2 : ∀ W : World, (convert 33 3 (.float .f64 (floorF (prodF p s)))).run Tryd.prog W = .ok (.int .i64 (flr p s)) W := fun W => run_convert_float_int W _ _ .f64 .i64 _ _ (by rw [Tryd.underlying33]; rfl) Tryd.underlying3 f3
  clear f1 f2 f3 c0 c1 hq'
  go_enter Tryd.func22, Tryd.ntmps22
  go_wp2_with fail
  refine HF.out.mono ?_; rintro e w1 ⟨rfl, rfl⟩
  go_wp2_with fail
  go_ret2
  exact ⟨by rw [HV.out]; rfl, rfl⟩
end Go.Proofs.YtmnoacjmdnmddaaDoor
