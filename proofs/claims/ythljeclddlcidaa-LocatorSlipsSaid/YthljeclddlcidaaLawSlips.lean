/- The walk of LocatorSlips: it returns true. Conditions: none. -/
import Derived.Test.YthljeclddlcidaaLawApart
import Derived.Test.YthljeclddlcidaaOpenPair
namespace Go.Proofs.Ythljeclddlcidaa
open Go.RowKit _root_.Go.Proofs.Ythljeclddlcidaa.Loc

/-- In block g lie the six bytes F, none of them frozen. -/
def RowB (w : World) (g : Nat) (F : Nat → UInt8) : Prop := g < w.heap.size ∧ ∀ j, j < 6 → w.cell? ⟨g, j, none⟩ = some (.int .u8 (F j).toNat) ∧ w.frozen? ⟨g, j, none⟩ = false
theorem RowB.below {w w' : World} {g : Nat} {F : Nat → UInt8} (h : RowB w g F) (hb : Below w.heap.size w w') : RowB w' g F :=
  ⟨Nat.lt_of_lt_of_le h.1 hb.size, fun j hj => ⟨(hb.cell (p := ⟨g, j, none⟩) h.1).trans (h.2 j hj).1, (hb.frozen (p := ⟨g, j, none⟩) h.1).trans (h.2 j hj).2⟩⟩
def upd (F : Nat → UInt8) (i : Nat) (x : UInt8) : Nat → UInt8 := fun j => if j = i then x else F j
theorem RowB.set {w : World} {g : Nat} {F : Nat → UInt8} (h : RowB w g F) {i : Nat} (x : UInt8) : RowB (w.setCell ⟨g, i, none⟩ (.int .u8 x.toNat)) g (upd F i x) := by
  refine ⟨by simpa [World.setCell] using h.1, fun j hj => ⟨?_, ?_⟩⟩
  · by_cases e : j = i
    · subst e
      rw [World.cell?_setCell_same _ _ _ (h.2 j hj).1]
      simp [upd]
    · rw [World.cell?_setCell_other _ _ _ _ (fun hh => e (by injection hh with _ h2; exact h2.symm)), (h.2 j hj).1]
      simp [upd, e]
  · rw [World.frozen?_setCell]; exact (h.2 j hj).2
theorem RowB.far {w : World} {g g' : Nat} {F : Nat → UInt8} (h : RowB w g F) (hne : g ≠ g') (i : Nat) (u : Value) : RowB (w.setCell ⟨g', i, none⟩ u) g F := by
  refine ⟨by simpa [World.setCell] using h.1, fun j hj => ⟨?_, ?_⟩⟩
  · rw [World.cell?_setCell_other _ _ _ _ (fun hh => hne (by injection hh with h1 _; exact h1.symm))]
    exact (h.2 j hj).1
  · rw [World.frozen?_setCell]; exact (h.2 j hj).2

theorem bytesRow_get (s : ByteArray) (cap j : Nat) (hj : j < s.size) : (bytesRow s cap)[j]? = some (.int .u8 (bt s j).toNat) := by
  have hsz : s.data.size = s.size := rfl
  unfold bytesRow
  rw [Array.getElem?_append_left (by simpa using hj)]
  simp only [Array.getElem?_map]
  have : s.data[j]? = some (bt s j) := by
    rw [← bt_get s j hj]
    rw [Array.getElem?_eq_getElem (by rw [hsz]; exact hj)]
    rfl
  rw [this]
  rfl

/-- '[]byte(s)' of six bytes. -/
theorem wpList_bytes {P : Program} {ops : Array Oper} {Q : Exit → Act → World → Prop} {a : Act} {w : World} {rest : List Oper} {o : Oper} (hg : o.guard = none) (src dst e : TypeId) (x : Operand)
    (ho : o.op = .convert src dst x) (s : ByteArray) (hx : a.eval x = .string s) (h6 : s.size = 6) (h1 : P.underlying src = some .string) (h2 : P.underlying dst = some (.slice e)) (h3 : P.underlying e = some (.int .u8))
    (h : ∀ w' g cap, RowB w' g (bt s) → g = w.heap.size → w.heap.size < w'.heap.size → Below w.heap.size w w' → 6 ≤ cap → wpList P ops Q rest (a.put o.dst (.slice (some ⟨g, 0, none⟩) 6 cap)) w') : wpList P ops Q (o :: rest) a w := by
  have hr := run_bytes_of_string (P := P) w src dst e s h1 h2 h3
  rw [h6] at hr
  have hge := grownCap_ge w 6 0 e
  generalize hcap : grownCap w 6 0 e = cap at *
  have hsz : 6 ≤ (bytesRow s cap).size := by unfold bytesRow; simp [h6]
  refine wpList_convert hg src dst x ho _ (by rw [hx]; exact hr) (h _ _ cap ?_ rfl ?_ ?_ hge)
  · refine ⟨?_, fun j hj => ⟨?_, ?_⟩⟩
    · simp
    · have hb : (w.drew.alloc (.cells (bytesRow s cap) e ((bytesRow s cap).size, (bytesRow s cap).size + 1))).heap[w.heap.size]? = some (.cells (bytesRow s cap) e ((bytesRow s cap).size, (bytesRow s cap).size + 1)) := blk_new _ _ rfl
      rw [blk_cell hb]
      exact bytesRow_get s cap j (by rw [h6]; exact hj)
    · have hb : (w.drew.alloc (.cells (bytesRow s cap) e ((bytesRow s cap).size, (bytesRow s cap).size + 1))).heap[w.heap.size]? = some (.cells (bytesRow s cap) e ((bytesRow s cap).size, (bytesRow s cap).size + 1)) := blk_new _ _ rfl
      simp only [World.frozen?, hb]
      simp
      intro hh
      omega
  · simp
  · exact bl_alloc (bl_drew (Below.refl _ _)) _

/-- 'string(b)' of such a row. -/
theorem run_back {P : Program} {w : World} {g : Nat} {F : Nat → UInt8} (h : RowB w g F) (src dst e : TypeId) (cap : Nat) (hs : P.underlying src = some (.slice e)) (he : P.underlying e = some (.int .u8)) (hd : P.underlying dst = some .string) :
    (convert src dst (.slice (some ⟨g, 0, none⟩) 6 cap)).run P w = .ok (.string (sB F)) w := by
  refine run_convert_bytes_back (P := P) w src dst e ⟨g, 0, none⟩ cap ((List.range 6).map F) hs he hd ?_
  intro j hj
  have hj' : j < 6 := by simpa using hj
  have hadd : (⟨g, 0, none⟩ : Addr).add j = ⟨g, j, none⟩ := by unfold Addr.add; split <;> simp_all
  rw [hadd, (h.2 j hj').1]
  simp

theorem rd_any' (s : ByteArray) (x : Int) (h6 : s.size = 6) (hx : rdE s = x) (w : World) :
    Calls Try.prog 12 #[.string s] w fun e w' => (∃ n : Int, e = .returned (.tuple #[.int .i64 n, .int .i64 x])) ∧ Below w.heap.size w w' := by
  refine (read_long s w h6).mono ?_
  rintro e w' ⟨rfl, hb⟩
  exact ⟨⟨_, ret2_int rfl hx⟩, hb⟩

set_option maxRecDepth 100000 in
set_option maxHeartbeats 4000000 in
theorem slips_late (n l0 l1 : Int) (sign : UInt8) (w : World) (s : ByteArray) (hs : good s) (h0 : 0 ≤ l0) (h1 : 0 ≤ l1)
    (ho : ∀ w, Calls Try.prog 10 #[.int .i64 n] w fun e w' => e = .returned (.tuple #[.string s, .int .i64 0]) ∧ Below w.heap.size w w') :
    Calls Try.prog 7 #[.int .i64 n, .agg #[.int .i64 l0, .int .i64 l1], .int .u8 sign.toNat] w fun e w' => e = .returned (.bool true) ∧ Below w.heap.size w w' := by
  obtain ⟨i, hi⟩ : ∃ i : Nat, l0 % 6 = (i : Int) := ⟨(l0 % 6).toNat, by omega⟩
  obtain ⟨k, hk⟩ : ∃ k : Nat, l1 % 6 = (k : Int) := ⟨(l1 % 6).toNat, by omega⟩
  have hi6 : i < 6 := by omega
  have hk6 : k < 6 := by omega
  have HO := Lib.hid ho
  have hsz := hs.1
  have H6 := Lib.hid hsz
  have HG := Lib.hid hs
  have f1 : ((s.size : Int) == 6) = true := by rw [beq_iff_eq]; omega
  have f2 : ((s.size : Int) != 6) = false := by simp [bne, f1]
  have isi := run_index_bt (P := Try.prog) 9 Try.underlying9 s i (by rw [hsz]; exact hi6) (by rw [hsz]; omega)
  have isk := run_index_bt (P := Try.prog) 9 Try.underlying9 s k (by rw [hsz]; exact hk6) (by rw [hsz]; omega)
  have ISI := Lib.hid isi
  have ISK := Lib.hid isk
  clear ho hs hsz isi isk
  rcases (show i = k ∨ (i ≠ k ∧ k ≠ i) from by omega) with hik | ⟨hik, hki⟩
  · subst hik
    go_enter Try.func7, Try.ntmps7
    go_wp2_with fail
    refine (awake_any _).mono ?_; rintro e w1 ⟨rfl, hb1⟩
    go_wp2_with fail
    refine (HO.out _).mono ?_; rintro e w2 ⟨rfl, hb2⟩
    have hbw : Below w.heap.size w w2 := bl_trans (bl_trans (bl_alloc (Below.refl _ _) _) hb1) hb2
    have hb12 := bl_trans hb1 hb2
    have hA : w2.heap[w.heap.size]? = some (.cells #[.int .i64 l0, .int .i64 l1] 31 (0, 0)) := blk_below (blk_new w _ rfl) hb12 (by simp)
    have qa0 : w2.cell? ⟨w.heap.size, 0, none⟩ = some (.int .i64 l0) := blk_cell hA 0
    have qa1 : w2.cell? ⟨w.heap.size, 1, none⟩ = some (.int .i64 l1) := blk_cell hA 1
    have HBW := Lib.hid hbw
    clear hb1 hb2 hb12 hA hbw
    go_wp2_with (first
      | ((with_reducible show wpList _ _ _ (⟨some 47, _, _, _, _, _⟩ :: _) _ _); refine wpList_bytes rfl 9 32 5 (.tmp 46) rfl s rfl H6.out Try.underlying9 Try.underlying32 Try.underlying5 ?_; intro w3 g1 cap1 hr1 hg1 hz1 hb3 hc1; have HB3 := Lib.hid (bl_trans HBW.out hb3); have HR1 := Lib.hid hr1; have hw3 : w.heap.size ≤ g1 := (by rw [hg1]; exact HBW.out.size); have hl1 : g1 < w3.heap.size := hr1.1; clear hb3 hr1 hg1 qa0 qa1)
      | ((with_reducible show wpList _ _ _ (⟨some 49, _, _, _, _, _⟩ :: _) _ _); refine wpList_bytes rfl 9 32 5 (.tmp 48) rfl s rfl H6.out Try.underlying9 Try.underlying32 Try.underlying5 ?_; intro w4 g2 cap2 hr2 hg2 hz2 hb4 hc2; have hr1' := HR1.out.below hb4; have q1 := (hr1'.2 i hi6).1; have q2 := (hr1'.2 i hi6).2; have q3 := (hr2.2 i hi6).1; have q4 := (hr2.2 i hi6).2; have q5 := (hr2.2 i hi6).1; have q6 := (hr2.2 i hi6).2; have hne : g1 ≠ g2 := (by omega); have hne' : g2 ≠ g1 := (by omega); have HR1' := Lib.hid hr1'; have HR2 := Lib.hid hr2; have HB4 := Lib.hid (bl_trans HB3.out hb4); have hw4 : w.heap.size ≤ g2 := (by rw [hg2]; exact HB3.out.size); clear hr1' hr2 hb4 hg2)
      | ((with_reducible show wpList _ _ _ (⟨some 58, _, _, _, _, _⟩ :: _) _ _); refine wpList_index rfl 9 (.tmp 56) _ rfl _ (ISK.out _) ?_)
      | ((with_reducible show wpList _ _ _ (⟨some 64, _, _, _, _, _⟩ :: _) _ _); refine wpList_index rfl 9 (.tmp 62) _ rfl _ (ISI.out _) ?_)
      | ((with_reducible show wpList _ _ _ (⟨some 68, _, _, _, _, _⟩ :: _) _ _); refine wpList_convert rfl 32 9 (.tmp 67) rfl _ (run_back (F := upd (bt s) i sign) (by with_reducible first | exact ((HR1'.out.set sign).far hne _ _).far hne _ _ | exact (HR1'.out.set sign).far hne _ _) 32 9 5 cap1 Try.underlying32 Try.underlying5 Try.underlying9) ?_)
      | fail)
    refine (rd_any' (sB (upd (bt s) i sign)) _ rfl rfl _).mono ?_
    rintro e w5 ⟨⟨n1, rfl⟩, hb5⟩
    have HRb : RowB w5 g2 (upd (upd (bt s) i (bt s i)) i (bt s i)) := RowB.below (by with_reducible first | exact ((HR2.out.far hne' i _).set (i := i) (bt s i)).set (i := i) (bt s i) | (trace_state; sorry)) hb5
    have HRB := Lib.hid HRb
    have HB5 : Hid (Below w.heap.size w w5) := bl_trans (by with_reducible repeat (first | exact HB4.out | refine bl_set ?_ (by assumption) _)) hb5
    clear HRb hb5 q1 q2 q3 q4 q5 q6
    go_wp2_with (first
      | ((with_reducible show wpList _ _ _ (⟨some 74, _, _, _, _, _⟩ :: _) _ _); refine wpList_convert rfl 32 9 (.tmp 73) rfl _ (run_back HRB.out 32 9 5 cap2 Try.underlying32 Try.underlying5 Try.underlying9) ?_)
      | fail)
    obtain ⟨x1, hx1⟩ : ∃ x, x = rdE (sB (upd (bt s) i sign)) := ⟨_, rfl⟩
    obtain ⟨x2, hx2⟩ : ∃ x, x = rdE (sB (upd (upd (bt s) i (bt s i)) i (bt s i))) := ⟨_, rfl⟩
    refine (rd_any' (sB (upd (upd (bt s) i (bt s i)) i (bt s i))) _ rfl rfl _).mono ?_
    rintro e w6 ⟨⟨n2, rfl⟩, hb6⟩
    rw [← hx1, ← hx2]
    have HB6 : Hid (Below w.heap.size w w6) := bl_trans HB5.out hb6
    have HX1 : Hid (sign ≠ bt s i → x1 = 6) := fun hne => hx1.trans (slip1 HG.out hi6 hne)
    have HX2 : Hid (bt s i ≠ bt s i → x2 = 6) := fun hne => hx2.trans (slip2 HG.out hi6 hi6 hne)
    have isi := ISI.out
    have isk := ISK.out
    clear hx1 hx2 hb6 HRB HB5 HR1' HR2 HB4 HB3
    go_wp2
    by_cases c1 : sign = bt s i
    · have d1 : ((sign.toNat : Int) == (bt s i).toNat) = true := by rw [c1]; simp
      by_cases c2 : bt s i = bt s i
      · have d2 : (((bt s i).toNat : Int) == (bt s i).toNat) = true := by rw [c2]; simp
        clear c1 c2
        go_quiet (fail)
        go_wp2
        go_ret
        exact ⟨rfl, bl_drewN HB6.out _⟩
      · have d2 : (((bt s i).toNat : Int) == (bt s i).toNat) = false := by
          rw [beq_eq_false_iff_ne]; intro h; exact c2 (UInt8.toNat_inj.1 (by omega))
        have d3 : (x2 == 6) = true := by rw [beq_iff_eq]; exact HX2.out c2
        clear c1 c2
        go_quiet (fail)
        go_wp2
        go_ret
        exact ⟨rfl, bl_drewN HB6.out _⟩
    · have d1 : ((sign.toNat : Int) == (bt s i).toNat) = false := by
        rw [beq_eq_false_iff_ne]; intro h; exact c1 (UInt8.toNat_inj.1 (by omega))
      have d4 : (x1 == 6) = true := by rw [beq_iff_eq]; exact HX1.out c1
      by_cases c2 : bt s i = bt s i
      · have d2 : (((bt s i).toNat : Int) == (bt s i).toNat) = true := by rw [c2]; simp
        clear c1 c2
        go_quiet (fail)
        go_wp2
        go_ret
        exact ⟨rfl, bl_drewN HB6.out _⟩
      · have d2 : (((bt s i).toNat : Int) == (bt s i).toNat) = false := by
          rw [beq_eq_false_iff_ne]; intro h; exact c2 (UInt8.toNat_inj.1 (by omega))
        have d3 : (x2 == 6) = true := by rw [beq_iff_eq]; exact HX2.out c2
        clear c1 c2
        go_quiet (fail)
        go_wp2
        go_ret
        exact ⟨rfl, bl_drewN HB6.out _⟩

  · have _hx := hik
    go_enter Try.func7, Try.ntmps7
    go_wp2_with fail
    refine (awake_any _).mono ?_; rintro e w1 ⟨rfl, hb1⟩
    go_wp2_with fail
    refine (HO.out _).mono ?_; rintro e w2 ⟨rfl, hb2⟩
    have hbw : Below w.heap.size w w2 := bl_trans (bl_trans (bl_alloc (Below.refl _ _) _) hb1) hb2
    have hb12 := bl_trans hb1 hb2
    have hA : w2.heap[w.heap.size]? = some (.cells #[.int .i64 l0, .int .i64 l1] 31 (0, 0)) := blk_below (blk_new w _ rfl) hb12 (by simp)
    have qa0 : w2.cell? ⟨w.heap.size, 0, none⟩ = some (.int .i64 l0) := blk_cell hA 0
    have qa1 : w2.cell? ⟨w.heap.size, 1, none⟩ = some (.int .i64 l1) := blk_cell hA 1
    have HBW := Lib.hid hbw
    clear hb1 hb2 hb12 hA hbw
    go_wp2_with (first
      | ((with_reducible show wpList _ _ _ (⟨some 47, _, _, _, _, _⟩ :: _) _ _); refine wpList_bytes rfl 9 32 5 (.tmp 46) rfl s rfl H6.out Try.underlying9 Try.underlying32 Try.underlying5 ?_; intro w3 g1 cap1 hr1 hg1 hz1 hb3 hc1; have HB3 := Lib.hid (bl_trans HBW.out hb3); have HR1 := Lib.hid hr1; have hw3 : w.heap.size ≤ g1 := (by rw [hg1]; exact HBW.out.size); have hl1 : g1 < w3.heap.size := hr1.1; clear hb3 hr1 hg1 qa0 qa1)
      | ((with_reducible show wpList _ _ _ (⟨some 49, _, _, _, _, _⟩ :: _) _ _); refine wpList_bytes rfl 9 32 5 (.tmp 48) rfl s rfl H6.out Try.underlying9 Try.underlying32 Try.underlying5 ?_; intro w4 g2 cap2 hr2 hg2 hz2 hb4 hc2; have hr1' := HR1.out.below hb4; have q1 := (hr1'.2 i hi6).1; have q2 := (hr1'.2 i hi6).2; have q3 := (hr2.2 i hi6).1; have q4 := (hr2.2 i hi6).2; have q5 := (hr2.2 k hk6).1; have q6 := (hr2.2 k hk6).2; have hne : g1 ≠ g2 := (by omega); have hne' : g2 ≠ g1 := (by omega); have HR1' := Lib.hid hr1'; have HR2 := Lib.hid hr2; have HB4 := Lib.hid (bl_trans HB3.out hb4); have hw4 : w.heap.size ≤ g2 := (by rw [hg2]; exact HB3.out.size); clear hr1' hr2 hb4 hg2)
      | ((with_reducible show wpList _ _ _ (⟨some 58, _, _, _, _, _⟩ :: _) _ _); refine wpList_index rfl 9 (.tmp 56) _ rfl _ (ISK.out _) ?_)
      | ((with_reducible show wpList _ _ _ (⟨some 64, _, _, _, _, _⟩ :: _) _ _); refine wpList_index rfl 9 (.tmp 62) _ rfl _ (ISI.out _) ?_)
      | ((with_reducible show wpList _ _ _ (⟨some 68, _, _, _, _, _⟩ :: _) _ _); refine wpList_convert rfl 32 9 (.tmp 67) rfl _ (run_back (F := upd (bt s) i sign) (by with_reducible first | exact ((HR1'.out.set sign).far hne _ _).far hne _ _ | exact (HR1'.out.set sign).far hne _ _) 32 9 5 cap1 Try.underlying32 Try.underlying5 Try.underlying9) ?_)
      | fail)
    refine (rd_any' (sB (upd (bt s) i sign)) _ rfl rfl _).mono ?_
    rintro e w5 ⟨⟨n1, rfl⟩, hb5⟩
    have HRb : RowB w5 g2 (upd (upd (bt s) i (bt s k)) k (bt s i)) := RowB.below (by exact ((HR2.out.far hne' i _).set (i := i) (bt s k)).set (i := k) (bt s i)) hb5
    have HRB := Lib.hid HRb
    have HB5 : Hid (Below w.heap.size w w5) := bl_trans (by with_reducible repeat (first | exact HB4.out | refine bl_set ?_ (by assumption) _)) hb5
    clear HRb hb5 q1 q2 q3 q4 q5 q6
    go_wp2_with (first
      | ((with_reducible show wpList _ _ _ (⟨some 74, _, _, _, _, _⟩ :: _) _ _); refine wpList_convert rfl 32 9 (.tmp 73) rfl _ (run_back HRB.out 32 9 5 cap2 Try.underlying32 Try.underlying5 Try.underlying9) ?_)
      | fail)
    obtain ⟨x1, hx1⟩ : ∃ x, x = rdE (sB (upd (bt s) i sign)) := ⟨_, rfl⟩
    obtain ⟨x2, hx2⟩ : ∃ x, x = rdE (sB (upd (upd (bt s) i (bt s k)) k (bt s i))) := ⟨_, rfl⟩
    refine (rd_any' (sB (upd (upd (bt s) i (bt s k)) k (bt s i))) _ rfl rfl _).mono ?_
    rintro e w6 ⟨⟨n2, rfl⟩, hb6⟩
    rw [← hx1, ← hx2]
    have HB6 : Hid (Below w.heap.size w w6) := bl_trans HB5.out hb6
    have HX1 : Hid (sign ≠ bt s i → x1 = 6) := fun hne => hx1.trans (slip1 HG.out hi6 hne)
    have HX2 : Hid (bt s i ≠ bt s k → x2 = 6) := fun hne => hx2.trans (slip2 HG.out hi6 hk6 hne)
    have isi := ISI.out
    have isk := ISK.out
    clear hx1 hx2 hb6 HRB HB5 HR1' HR2 HB4 HB3
    go_wp2
    by_cases c1 : sign = bt s i
    · have d1 : ((sign.toNat : Int) == (bt s i).toNat) = true := by rw [c1]; simp
      by_cases c2 : bt s i = bt s k
      · have d2 : (((bt s i).toNat : Int) == (bt s k).toNat) = true := by rw [c2]; simp
        clear c1 c2
        go_quiet (fail)
        go_wp2
        go_ret
        exact ⟨rfl, bl_drewN HB6.out _⟩
      · have d2 : (((bt s i).toNat : Int) == (bt s k).toNat) = false := by
          rw [beq_eq_false_iff_ne]; intro h; exact c2 (UInt8.toNat_inj.1 (by omega))
        have d3 : (x2 == 6) = true := by rw [beq_iff_eq]; exact HX2.out c2
        clear c1 c2
        go_quiet (fail)
        go_wp2
        go_ret
        exact ⟨rfl, bl_drewN HB6.out _⟩
    · have d1 : ((sign.toNat : Int) == (bt s i).toNat) = false := by
        rw [beq_eq_false_iff_ne]; intro h; exact c1 (UInt8.toNat_inj.1 (by omega))
      have d4 : (x1 == 6) = true := by rw [beq_iff_eq]; exact HX1.out c1
      by_cases c2 : bt s i = bt s k
      · have d2 : (((bt s i).toNat : Int) == (bt s k).toNat) = true := by rw [c2]; simp
        clear c1 c2
        go_quiet (fail)
        go_wp2
        go_ret
        exact ⟨rfl, bl_drewN HB6.out _⟩
      · have d2 : (((bt s i).toNat : Int) == (bt s k).toNat) = false := by
          rw [beq_eq_false_iff_ne]; intro h; exact c2 (UInt8.toNat_inj.1 (by omega))
        have d3 : (x2 == 6) = true := by rw [beq_iff_eq]; exact HX2.out c2
        clear c1 c2
        go_quiet (fail)
        go_wp2
        go_ret
        exact ⟨rfl, bl_drewN HB6.out _⟩

set_option maxHeartbeats 1000000 in
theorem slips_early (n l0 l1 : Int) (x : Int) (s : ByteArray) (sign : Int) (w : World) (h : x ≠ 0 ∨ l0 < 0 ∨ l1 < 0)
    (ho : ∀ w, Calls Try.prog 10 #[.int .i64 n] w fun e w' => e = .returned (.tuple #[.string s, .int .i64 x]) ∧ Below w.heap.size w w') :
    Calls Try.prog 7 #[.int .i64 n, .agg #[.int .i64 l0, .int .i64 l1], .int .u8 sign] w fun e w' => e = .returned (.bool true) ∧ Below w.heap.size w w' := by
  have HO := Lib.hid ho
  have H := Lib.hid h
  clear ho h
  go_enter Try.func7, Try.ntmps7
  go_wp2_with fail
  refine (awake_any _).mono ?_; rintro e w1 ⟨rfl, hb1⟩
  go_wp2_with fail
  refine (HO.out _).mono ?_; rintro e w2 ⟨rfl, hb2⟩
  have hbw : Below w.heap.size w w2 := bl_trans (bl_trans (bl_alloc (Below.refl _ _) _) hb1) hb2
  have hb12 := bl_trans hb1 hb2
  have hA : w2.heap[w.heap.size]? = some (.cells #[.int .i64 l0, .int .i64 l1] 31 (0, 0)) := blk_below (blk_new w _ rfl) hb12 (by simp)
  have qa0 : w2.cell? ⟨w.heap.size, 0, none⟩ = some (.int .i64 l0) := blk_cell hA 0
  have qa1 : w2.cell? ⟨w.heap.size, 1, none⟩ = some (.int .i64 l1) := blk_cell hA 1
  have HBW := Lib.hid hbw
  clear hb1 hb2 hb12 hA hbw
  by_cases hx : x = 0
  · have f1 : (x == 0) = true := by rw [beq_iff_eq]; exact hx
    have f2 : (x != 0) = false := by simp [bne, f1]
    by_cases h0 : l0 < 0
    · clear hx
      go_wp2
      go_ret
      exact ⟨rfl, HBW.out⟩
    · have h1 : l1 < 0 := by have := H.out; omega
      clear hx
      go_wp2
      go_ret
      exact ⟨rfl, HBW.out⟩
  · have f1 : (x == 0) = false := by rw [beq_eq_false_iff_ne]; exact hx
    have f2 : (x != 0) = true := by simp [bne, f1]
    clear hx
    go_wp2
    go_ret
    exact ⟨rfl, HBW.out⟩

theorem slips_row (n : Int) (l : Int × Int) (sign : Int) (w : World) (_ : (Lit.int .i64 n).wf = true) (_ : (Lit.int .i64 l.1).wf = true ∧ (Lit.int .i64 l.2).wf = true) (hs : (Lit.int .u8 sign).wf = true) :
    Calls Try.prog 7 #[.int .i64 n, .agg #[.int .i64 l.1, .int .i64 l.2], .int .u8 sign] w fun e w' => e = .returned (.bool true) ∧ Below w.heap.size w w' := by
  by_cases hn : 0 ≤ n ∧ n < 28629151
  · by_cases h0 : 0 ≤ l.1
    · by_cases h1 : 0 ≤ l.2
      · have hb := (by simpa [Lit.wf, IntKind.min, IntKind.max, IntKind.signed, IntKind.bits] using hs : 0 ≤ sign ∧ sign ≤ 255)
        have e : sign = ((UInt8.ofNat sign.toNat).toNat : Int) := by
          rw [UInt8.toNat_ofNat_of_lt' (by show sign.toNat < 256; omega)]; omega
        rw [e]
        exact slips_late n l.1 l.2 _ w (locS n) (good_locS n) h0 h1 (fun w => of_ok n w hn.1 hn.2)
      · exact slips_early n l.1 l.2 0 (locS n) sign w (.inr (.inr (by omega))) (fun w => of_ok n w hn.1 hn.2)
    · exact slips_early n l.1 l.2 0 (locS n) sign w (.inr (.inl (by omega))) (fun w => of_ok n w hn.1 hn.2)
  · refine slips_early n l.1 l.2 1 ⟨#[]⟩ sign w (.inl (by decide)) (fun w => ?_)
    refine (of_bad n w (by omega)).mono ?_
    rintro e w' ⟨rfl, rfl⟩
    exact ⟨rfl, Below.refl _ _⟩
end Go.Proofs.Ythljeclddlcidaa
