/- The group: how it begins. Conditions: none. -/
import Derived.Test.YtiamfdnllpiikaaElWC
import Derived.Test.YtiamfdnllpiikaaElNew
namespace Go.Proofs.Ytiamfdnllpiikaa
open Go.RowKit

/-- A group that is being made: NV voters, some logs, some nodes. -/
structure WY (B : Nat) (w : World) (wb NV : Nat) (logs : List (Int × Int)) (ns : List NP) (vv nv lv : Value) : Prop where
  blk : w.heap[wb]? = some (.cells #[vv, .slice none 0 0, nv, lv, .slice none 0 0, .slice none 0 0] 56 (0, 0))
  hB : B ≤ wb
  vrow : w.ownsRow B 3 1 vv NV ((vsL NV).map (.int .i64))
  nrow : w.ownsRow B 25 1 nv ns.length (ptrs ns)
  lrow : w.ownsRow B 42 2 lv logs.length (pairsC logs)
  node : ∀ i, i < ns.length → NodeAt w (ns.getD i default).b (ns.getD i default).S (ns.getD i default).L
  vs : ∀ i, i < ns.length → (ns.getD i default).S.vs = vsL NV
  va : ∀ i, i < ns.length → ∃ c, vv = .slice (ns.getD i default).S.va NV c
  ls : ∀ i, i < ns.length → (ns.getD i default).S.ls = []
  dis : ∀ i j, i < ns.length → j < ns.length → i ≠ j → ∀ x, x ∈ (ns.getD i default).L → ¬ x ∈ (ns.getD j default).L
  out : ∀ i, i < ns.length → ∀ x, x ∈ (ns.getD i default).L → B ≤ x ∧ x ≠ wb ∧ vv.ownBlock ≠ some x ∧ nv.ownBlock ≠ some x ∧ lv.ownBlock ≠ some x
theorem vsL_succ (n : Nat) : vsL (n + 1) = vsL n ++ [(n : Int) + 1] := by simp [vsL, List.range_succ]
section
variable {B : Nat} {w w2 : World} {wb NV : Nat} {logs : List (Int × Int)} {ns : List NP} {vv nv lv v' : Value}
theorem WY.below {w' : World} (h : WY B w wb NV logs ns vv nv lv) (k : Below w.heap.size w w') : WY B w' wb NV logs ns vv nv lv :=
  ⟨blk_below h.blk k (blk_lt h.blk), h.hB, own_keep h.vrow k, own_keep h.nrow k, own_keep h.lrow k, fun i hi => (h.node i hi).below k, h.vs, h.va, h.ls, h.dis, h.out⟩
theorem WY.voter (h : WY B w wb NV logs [] vv nv lv) (hown : w2.ownsRow B 3 1 v' (NV + 1) ((vsL NV).map (.int .i64) ++ [.int .i64 ((NV : Int) + 1)])) (hg : w.grownBy w2 vv.ownBlock) (hat : v'.ownBlock = vv.ownBlock ∨ ∃ g, v'.ownBlock = some g ∧ w.heap.size ≤ g) :
    WY B (w2.setCell ⟨wb, 0, none⟩ v') wb (NV + 1) logs [] v' nv lv := by
  have hwb := row_wb h.vrow h.blk (by decide)
  refine ⟨blk_set ((hg.block wb (blk_lt h.blk) (Ne.symm hwb)).trans h.blk) 0 v', h.hB, row_new h.vrow (by rw [vsL_succ, List.map_append]; exact hown) hwb (blk_lt h.blk) hat _ _,
    row_far h.nrow hg (fun g hh => row_ne h.nrow h.vrow (by decide) hh) (row_wb h.nrow h.blk (by decide)) _ _,
    row_far h.lrow hg (fun g hh => row_ne h.lrow h.vrow (by decide) hh) (row_wb h.lrow h.blk (by decide)) _ _, ?_, ?_, ?_, ?_, ?_, ?_⟩
  all_goals intro i
  all_goals simp
theorem WY.log (h : WY B w wb NV logs [] vv nv lv) {x : Int × Int} (hown : w2.ownsRow B 42 2 v' (logs.length + 1) (pairsC logs ++ pairC x)) (hg : w.grownBy w2 lv.ownBlock) (hat : v'.ownBlock = lv.ownBlock ∨ ∃ g, v'.ownBlock = some g ∧ w.heap.size ≤ g) :
    WY B (w2.setCell ⟨wb, 3, none⟩ v') wb NV (logs ++ [x]) [] vv nv v' := by
  have hwb := row_wb h.lrow h.blk (by decide)
  refine ⟨blk_set ((hg.block wb (blk_lt h.blk) (Ne.symm hwb)).trans h.blk) 3 v', h.hB,
    row_far h.vrow hg (fun g hh => row_ne h.vrow h.lrow (by decide) hh) (row_wb h.vrow h.blk (by decide)) _ _,
    row_far h.nrow hg (fun g hh => row_ne h.nrow h.lrow (by decide) hh) (row_wb h.nrow h.blk (by decide)) _ _,
    row_new h.lrow (by rw [List.length_append, show pairsC (logs ++ [x]) = pairsC logs ++ pairC x by simp [pairsC]]; exact hown) hwb (blk_lt h.blk) hat _ _, ?_, ?_, ?_, ?_, ?_, ?_⟩
  all_goals intro i
  all_goals simp
theorem getD_app {l : List NP} {a : NP} {i : Nat} (hi : i < (l ++ [a]).length) : (l ++ [a]).getD i default = if i = l.length then a else l.getD i default := by
  rw [List.getD_eq_getElem?_getD, List.getD_eq_getElem?_getD]
  rw [List.length_append, List.length_singleton] at hi
  by_cases h : i = l.length
  · subst h; simp
  · rw [if_neg h, List.getElem?_append_left (by omega)]
theorem WY.gs (h : WY B w wb NV logs ns vv nv lv) (h1 : 1 ≤ NV) {va : Option Addr} {c : Nat} (hv : vv = .slice va NV c) {M : List Nat} (hM : ∀ g, vv.ownBlock = some g → ¬ g ∈ M) : GsOut w va (vsL NV) M := by
  obtain ⟨g, cap, e, _⟩ := row_some h.vrow (by omega)
  have e2 := e
  rw [hv] at e2
  injection e2 with e3 _ e4
  intro y hy
  rw [vsL_len] at hy
  refine ⟨g, 0, e3, fun hm => hM g (by rw [e]; rfl) hm, ?_⟩
  have hr := h.vrow
  rw [e] at hr
  have := row_cell hr (j := y) (u := .int .i64 ((vsL NV).getD y 0)) (by
    rw [List.getElem?_map, List.getD_eq_getElem?_getD, List.getElem?_eq_getElem (by rw [vsL_len]; exact hy)]
    rfl)
  rw [Nat.zero_add]
  exact this
theorem WY.more (h : WY B w wb NV logs ns vv nv lv) (h1 : 1 ≤ NV) {p : NP} (hp : NodeAt w p.b p.S p.L) (hvs : p.S.vs = vsL NV) (hva : ∃ c, vv = .slice p.S.va NV c) (hls : p.S.ls = [])
    (hd : ∀ i, i < ns.length → ∀ x, x ∈ p.L → ¬ x ∈ (ns.getD i default).L) (ho : ∀ x, x ∈ p.L → B ≤ x ∧ x ≠ wb ∧ vv.ownBlock ≠ some x ∧ nv.ownBlock ≠ some x ∧ lv.ownBlock ≠ some x)
    (hown : w2.ownsRow B 25 1 v' (ns.length + 1) (ptrs ns ++ [.pointer (some ⟨p.b, 0, none⟩)])) (hg : w.grownBy w2 nv.ownBlock) (hat : v'.ownBlock = nv.ownBlock ∨ ∃ g, v'.ownBlock = some g ∧ w.heap.size ≤ g) :
    WY B (w2.setCell ⟨wb, 2, none⟩ v') wb NV logs (ns ++ [p]) vv v' lv := by
  have hwb := row_wb h.nrow h.blk (by decide)
  have hM : Chg (nv.ownBlock.toList ++ [wb]) w (w2.setCell ⟨wb, 2, none⟩ v') := ((Chg.refl _ w).grown hg (fun k hk => .inl (by simp [hk]))).set (.inl (by simp)) _
  have hvM : ∀ g, vv.ownBlock = some g → ¬ g ∈ nv.ownBlock.toList ++ [wb] := fun g hgv hm => by
    rcases List.mem_append.1 hm with hm | hm
    · exact row_ne h.vrow h.nrow (by decide) hgv (by simpa using hm)
    · rw [List.mem_singleton.1 hm] at hgv
      exact row_wb h.vrow h.blk (by decide) hgv
  have keep : ∀ {q : NP}, NodeAt w q.b q.S q.L → q.S.vs = vsL NV → (∃ c, vv = .slice q.S.va NV c) → q.S.ls = [] → (∀ x, x ∈ q.L → x ≠ wb ∧ nv.ownBlock ≠ some x) → NodeAt (w2.setCell ⟨wb, 2, none⟩ v') q.b q.S q.L := by
    intro q hq h2 h3 h4 h5
    obtain ⟨c, h3⟩ := h3
    obtain ⟨m, es, clock, yv, nv', hx⟩ := hq
    refine ⟨m, es, clock, yv, nv', hx.keep hM (fun x hm _ hl => ?_) (by rw [h2]; exact h.gs h1 h3 hvM) (fun j hj => by rw [h4] at hj; simp at hj)⟩
    obtain ⟨h6, h7⟩ := h5 x hl
    rcases List.mem_append.1 hm with hm | hm
    · exact h7 (by simpa using hm)
    · exact h6 (List.mem_singleton.1 hm)
  have hlow := hp.low
  refine ⟨blk_set ((hg.block wb (blk_lt h.blk) (Ne.symm hwb)).trans h.blk) 2 v', h.hB,
    row_far h.vrow hg (fun g hh => row_ne h.vrow h.nrow (by decide) hh) (row_wb h.vrow h.blk (by decide)) _ _,
    row_new h.nrow (by rw [List.length_append, show ptrs (ns ++ [p]) = ptrs ns ++ [.pointer (some ⟨p.b, 0, none⟩)] by simp [ptrs]]; exact hown) hwb (blk_lt h.blk) hat _ _,
    row_far h.lrow hg (fun g hh => row_ne h.lrow h.nrow (by decide) hh) (row_wb h.lrow h.blk (by decide)) _ _, ?_, ?_, ?_, ?_, ?_, ?_⟩
  · intro i hi
    rw [getD_app hi]
    rw [List.length_append, List.length_singleton] at hi
    by_cases e : i = ns.length
    · rw [if_pos e]; exact keep hp hvs hva hls (fun x hx => ⟨(ho x hx).2.1, (ho x hx).2.2.2.1⟩)
    · rw [if_neg e]
      have hi' : i < ns.length := by omega
      exact keep (h.node i hi') (h.vs i hi') (h.va i hi') (h.ls i hi') (fun x hx => ⟨(h.out i hi' x hx).2.1, (h.out i hi' x hx).2.2.2.1⟩)
  · intro i hi
    rw [getD_app hi]
    rw [List.length_append, List.length_singleton] at hi
    by_cases e : i = ns.length
    · rw [if_pos e]; exact hvs
    · rw [if_neg e]; exact h.vs i (by omega)
  · intro i hi
    rw [getD_app hi]
    rw [List.length_append, List.length_singleton] at hi
    by_cases e : i = ns.length
    · rw [if_pos e]; exact hva
    · rw [if_neg e]; exact h.va i (by omega)
  · intro i hi
    rw [getD_app hi]
    rw [List.length_append, List.length_singleton] at hi
    by_cases e : i = ns.length
    · rw [if_pos e]; exact hls
    · rw [if_neg e]; exact h.ls i (by omega)
  · intro i j hi hj hij x
    rw [getD_app hi, getD_app hj]
    rw [List.length_append, List.length_singleton] at hi hj
    by_cases e : i = ns.length
    · rw [if_pos e, if_neg (by omega)]
      exact hd j (by omega) x
    · rw [if_neg e]
      by_cases e2 : j = ns.length
      · rw [if_pos e2]
        exact fun hx hm => hd i (by omega) x hm hx
      · rw [if_neg e2]; exact h.dis i j (by omega) (by omega) hij x
  · intro i hi x
    rw [getD_app hi]
    rw [List.length_append, List.length_singleton] at hi
    have hnew : ∀ q : NP, x ∈ q.L → NodeAt w q.b q.S q.L → (B ≤ x ∧ x ≠ wb ∧ vv.ownBlock ≠ some x ∧ nv.ownBlock ≠ some x ∧ lv.ownBlock ≠ some x) → (B ≤ x ∧ x ≠ wb ∧ vv.ownBlock ≠ some x ∧ v'.ownBlock ≠ some x ∧ lv.ownBlock ≠ some x) := by
      intro q hx hq ⟨o1, o2, o3, o4, o5⟩
      refine ⟨o1, o2, o3, fun hgx => ?_, o5⟩
      rcases hat with h5 | ⟨g, h5, h6⟩
      · exact o4 (by rw [← h5]; exact hgx)
      · rw [hgx] at h5
        injection h5 with h5
        have := hq.low x hx
        omega
    by_cases e : i = ns.length
    · rw [if_pos e]; exact fun hx => hnew p hx hp (ho x hx)
    · rw [if_neg e]
      have hi' : i < ns.length := by omega
      exact fun hx => hnew _ hx (h.node i hi') (h.out i hi' x hx)
theorem WY.done (h : WY B w wb NV logs ns vv nv lv) (hn : ns.length = NV) (hl : logs.length = NV) (h1 : 1 ≤ NV) (h7 : NV ≤ 7) : WX B w wb ⟨ns, logs, [], []⟩ ⟨vv, nv, lv, .slice none 0 0, .slice none 0 0⟩ := by
  subst hn
  refine ⟨h.blk, h.hB, h.vrow, h.nrow, by rw [← hl]; exact h.lrow, World.ownsRow_nil _ _ _ _, World.ownsRow_nil _ _ _ _, h1, h7, hl, h.node, h.vs, h.va, h.ls, h.dis, fun i hi x hx => ?_⟩
  obtain ⟨o1, o2, o3, o4, o5⟩ := h.out i hi x hx
  refine ⟨o1, o2, fun v hv => ?_⟩
  simp only [RV.all, List.mem_cons, List.not_mem_nil, or_false] at hv
  rcases hv with rfl | rfl | rfl | rfl | rfl
  · exact o3
  · exact o4
  · exact o5
  · simp [Value.ownBlock]
  · simp [Value.ownBlock]
end
def logsL (l : List (Int × Int)) (k : Nat) : List (Int × Int) := (List.range k).map fun i => l.getD i (0, 0)
theorem logsL_len (l : List (Int × Int)) (k : Nat) : (logsL l k).length = k := by simp [logsL]
theorem logsL_succ (l : List (Int × Int)) (k : Nat) : logsL l (k + 1) = logsL l k ++ [l.getD k (0, 0)] := by simp [logsL, List.range_succ]
def begunNs (N k : Nat) (va : Option Addr) (vc : Nat) : List Nd := (List.range k).map fun (i : Nat) => newNd ((i : Int) + 1) 0 0 3 (vsL N) [] va vc none 0
def begun (N : Nat) (l : List (Int × Int)) (va : Option Addr) (vc : Nat) : PW := ⟨begunNs N N va vc, logsL l N, [], []⟩
theorem begunNs_succ (N k : Nat) (va : Option Addr) (vc : Nat) : begunNs N (k + 1) va vc = begunNs N k va vc ++ [newNd ((k : Int) + 1) 0 0 3 (vsL N) [] va vc none 0] := by simp [begunNs, List.range_succ]
theorem right_fresh : ∀ N : Nat, 1 ≤ N → N ≤ 7 → rightG (vsL N) [] = true := fun N h1 h7 => by
  obtain rfl | rfl | rfl | rfl | rfl | rfl | rfl : N = 1 ∨ N = 2 ∨ N = 3 ∨ N = 4 ∨ N = 5 ∨ N = 6 ∨ N = 7 := by omega
  all_goals decide
theorem newOk_fresh {N k : Nat} (h1 : 1 ≤ N) (h7 : N ≤ 7) (hk : k < N) : newOk ((k : Int) + 1) 0 0 3 (vsL N) [] = true := by
  unfold newOk maxIx
  rw [right_fresh N h1 h7]
  simp
  omega
set_option maxRecDepth 100000 in
set_option maxHeartbeats 4000000 in
theorem world_at (N : Nat) (h1 : 1 ≤ N) (h7 : N ≤ 7) (ad : Option Addr) (l : List (Int × Int)) (cap : Nat) (w : World) (hl : ItemsAt w ad l.length 2 (fun i => pairC (l.getD i (0, 0)))) (hlm : l.length ≤ maxLen) :
    Calls Try.prog 17 #[.int .i64 N, .slice ad l.length cap] w fun e w' => ∃ wb va vc, e = .returned (.pointer (some ⟨wb, 0, none⟩)) ∧ WAt w.heap.size w' wb (begun N l va vc) ∧ Below w.heap.size w w' := by
  have hl9 : (l.length : Int) ≤ 9223372036854775807 := by unfold maxLen at hlm; omega
  obtain ⟨B, hB⟩ : ∃ B, B = w.heap.size := ⟨_, rfl⟩
  have hY0 : WY B (w.alloc (.cells #[.slice none 0 0, .slice none 0 0, .slice none 0 0, .slice none 0 0, .slice none 0 0, .slice none 0 0] 56)) w.heap.size 0 [] [] (.slice none 0 0) (.slice none 0 0) (.slice none 0 0) := by
    refine ⟨blk_new w _ rfl, by omega, World.ownsRow_nil _ _ _ _, World.ownsRow_nil _ _ _ _, World.ownsRow_nil _ _ _ _, ?_, ?_, ?_, ?_, ?_, ?_⟩
    all_goals intro i
    all_goals simp
  have HY0 := Lib.hid hY0
  have HL := Lib.hid hl
  have HB0 := Lib.hid (show Below B w (w.alloc (.cells #[.slice none 0 0, .slice none 0 0, .slice none 0 0, .slice none 0 0, .slice none 0 0, .slice none 0 0] 56)) by rw [hB]; exact bl_alloc (Below.refl _ _) _)
  have HBE := Lib.hid hB
  obtain ⟨wb, hwb⟩ : ∃ wb, wb = w.heap.size := ⟨_, rfl⟩
  have HWB := Lib.hid hwb
  obtain ⟨LN, hLN⟩ : ∃ LN, LN = l.length := ⟨_, rfl⟩
  have HLN := Lib.hid hLN
  rw [← hLN] at hl9 ⊢
  rw [← hB]
  clear hY0 hl hB hwb hlm hLN
  have hN1 : (1 : Int) ≤ N := by omega
  have hN7 : (N : Int) ≤ 7 := by omega
  go_enter Try.func17, Try.ntmps17
  go_wp2_with fail
  rw [← HWB.out] at HY0 ⊢
  go_loopg [6] N (fun g i wr => ∃ k : Nat, k ≤ N ∧ g = N - k ∧ i = .int .i64 ((k : Int) + 1) ∧ Below B w wr ∧ ∃ vv lv, WY B wr wb k (logsL l k) [] vv (.slice none 0 0) lv)
  case atStart => exact ⟨0, by omega, by omega, rfl, HB0.out, _, _, HY0.out⟩
  case round =>
    clear HY0 HB0
    obtain ⟨k, hk0, hgk, rfl, hbB, vv, lv, hY⟩ := hrel
    have HGK := Lib.hid hgk
    have HBB := Lib.hid hbB
    clear hgk hbB
    by_cases hk : k < N
    · have hk1 : decide ((k : Int) + 1 ≤ N) = true := decide_eq_true (by omega)
      have hk2 : (0 : Int) ≤ (k : Int) := by omega
      have hk7 : k < 7 := by omega
      obtain ⟨a0, cp0, rfl⟩ := own_slice hY.vrow
      have HWY := Lib.hid hY
      have c0 : wr.cell? ⟨wb, 0, none⟩ = some (.slice a0 k cp0) := blk_cell hY.blk 0
      clear hY
      go_upto_region 6 with (at_builtin; go_loud (refine wpList_appm rfl _ _ 29 rfl B 3 Try.underlying29 Try.infoInt rfl (by decide) rfl HWY.out.vrow rfl [.int .i64 ((k : Int) + 1)] rfl (by simp [Value.oneCell']) (by unfold maxLen; omega) (by omega) (by have h1 := HWY.out.hB; have h2 := blk_lt HWY.out.blk; omega) ?_); intro v1 w4 hown1 hgrow hat1; obtain ⟨va1, vc1, rfl⟩ := own_slice hown1; have hb4 := (hgrow.block wb (blk_lt HWY.out.blk) (Ne.symm (row_wb HWY.out.vrow HWY.out.blk (by decide)))).trans HWY.out.blk; have hfr := blk_frozen hb4; have d0 := blk_cell hb4 0; simp only [List.getElem?_toArray, List.getElem?_cons_zero, List.getElem?_cons_succ] at d0)
      have hY := HWY.out.voter hown1 hgrow hat1
      have hbY := (HBB.out.trans (own_below HWY.out.vrow hgrow (by have h1 := HWY.out.hB; have h2 := blk_lt HWY.out.blk; omega))).trans (Below.setCell (Below.refl B w4) HWY.out.hB (.slice va1 (k + 1) vc1) (p := ⟨wb, 0, none⟩))
      change Code.wp _ _ _ _ (w4.setCell ⟨wb, 0, none⟩ (.slice va1 (k + 1) vc1))
      obtain ⟨W5, hW5⟩ : ∃ W5, W5 = w4.setCell ⟨wb, 0, none⟩ (.slice va1 (k + 1) vc1) := ⟨_, rfl⟩
      rw [← hW5] at hY hbY ⊢
      have HY5 := Lib.hid hY
      have HB5 := Lib.hid hbY
      clear hW5 hY hbY hown1 hgrow hat1 hb4 hfr d0 c0
      go_upto_region 7 with fail
      change Code.wp _ _ _ _ (W5.alloc (.cells #[.int .i64 0, .int .i64 0] 42))
      have hb6 := bl_alloc (Below.refl W5.heap.size W5) (.cells #[.int .i64 0, .int .i64 0] 42)
      have hk6 : (W5.alloc (.cells #[.int .i64 0, .int .i64 0] 42)).heap[W5.heap.size]? = some (.cells #[.int .i64 0, .int .i64 0] 42) := blk_new W5 _ rfl
      obtain ⟨W6, hW6⟩ : ∃ W6, W6 = W5.alloc (.cells #[.int .i64 0, .int .i64 0] 42) := ⟨_, rfl⟩
      obtain ⟨nb, hnb⟩ : ∃ nb, nb = W5.heap.size := ⟨_, rfl⟩
      rw [← hW6, ← hnb] at hk6
      rw [← hW6] at hb6
      rw [← hW6, ← hnb]
      have HY6 := Lib.hid (HY5.out.below hb6)
      have hwl := blk_lt HY5.out.blk
      have HB6 := Lib.hid (HB5.out.trans (hb6.mono (by have := HY5.out.hB; omega)))
      have HK6 := Lib.hid hk6
      have HNBL := Lib.hid (show W5.heap.size ≤ nb by omega)
      have HB65 := Lib.hid hb6
      obtain ⟨a3, cp3, hlv⟩ : ∃ a3 cp3, lv = .slice a3 k cp3 := by
        have := own_slice HY5.out.lrow
        rw [logsL_len] at this
        exact this
      subst hlv
      obtain ⟨y, hy⟩ : ∃ y, y = l.getD k (0, 0) := ⟨_, rfl⟩
      have HYE := Lib.hid hy
      clear hW6 hnb hb6 hk6 hwl
      by_cases hkl : k < LN
      · have d1 : decide ((k : Int) + 1 ≤ LN) = true := decide_eq_true (by omega)
        have hkl1 : (k : Int) < LN := by omega
        obtain ⟨b1, o1, rfl, hc⟩ := HL.out k (by rw [← HLN.out]; exact hkl)
        simp only [← hy] at hc
        have l0 : W6.cell? ⟨b1, o1 + k * 2, none⟩ = some (.int .i64 y.1) := cell_keep (by rw [← HBE.out]; exact HB6.out) (hc 0 _ rfl)
        have l1 : W6.cell? ⟨b1, o1 + k * 2 + 1, none⟩ = some (.int .i64 y.2) := cell_keep (by rw [← HBE.out]; exact HB6.out) (hc 1 _ rfl)
        have x0 := blk_cell HK6.out 0
        have x1 := blk_cell HK6.out 1
        have xf := blk_frozen HK6.out
        simp only [List.getElem?_toArray, List.getElem?_cons_zero, List.getElem?_cons_succ] at x0 x1
        clear hc hy
        go_upto_region 9 with fail
        change Code.wp _ _ _ _ ((W6.setCell ⟨nb, 0, none⟩ (.int .i64 y.1)).setCell ⟨nb, 1, none⟩ (.int .i64 y.2))
        have hb7 := bl_set (bl_set HB65.out (p := ⟨nb, 0, none⟩) HNBL.out (.int .i64 y.1)) (p := ⟨nb, 1, none⟩) HNBL.out (.int .i64 y.2)
        have hk7' : ((W6.setCell ⟨nb, 0, none⟩ (.int .i64 y.1)).setCell ⟨nb, 1, none⟩ (.int .i64 y.2)).heap[nb]? = some (.cells #[.int .i64 y.1, .int .i64 y.2] 42 (0, 0)) := blk_set (blk_set HK6.out 0 _) 1 _
        obtain ⟨W7, hW7⟩ : ∃ W7, W7 = (W6.setCell ⟨nb, 0, none⟩ (.int .i64 y.1)).setCell ⟨nb, 1, none⟩ (.int .i64 y.2) := ⟨_, rfl⟩
        rw [← hW7] at hb7 hk7' ⊢
        clear hW7 l0 l1 x0 x1 xf
        have HY7 := Lib.hid (HY5.out.below hb7)
        have HK7 := Lib.hid hk7'
        have HB7 := Lib.hid (HB5.out.trans (hb7.mono (by have h1 := HY5.out.hB; have h2 := blk_lt HY5.out.blk; omega)))
        obtain ⟨M, hM⟩ : ∃ M, M = (Value.slice a3 k cp3).ownBlock.toList := ⟨_, rfl⟩
        have HM := Lib.hid hM
        have hmw : ¬ wb ∈ M := fun hm => by
          rw [hM] at hm
          exact row_wb HY7.out.lrow HY7.out.blk (by decide) (by simpa using hm)
        have hmb : ¬ nb ∈ M := fun hm => by
          rw [hM] at hm
          have h1 := (HY5.out.lrow.lt nb (by simpa using hm)).2
          have := HNBL.out
          omega
        have HMW := Lib.hid hmw
        have HMB := Lib.hid hmb
        clear hM hmw hmb hb7 hk7'
        have p3 : ∀ W, Chg M W7 W → W.cell? ⟨wb, 3, none⟩ = some (.slice a3 k cp3) := fun W h => blk_cell (h.blk HY7.out.blk HMW.out) 3
        have x0 : ∀ W, Chg M W7 W → W.cell? ⟨nb, 0, none⟩ = some (.int .i64 y.1) := fun W h => blk_cell (h.blk HK7.out HMB.out) 0
        have x1 : ∀ W, Chg M W7 W → W.cell? ⟨nb, 1, none⟩ = some (.int .i64 y.2) := fun W h => blk_cell (h.blk HK7.out HMB.out) 1
        refine wp_region_last 10 (Chg M W7) (fun i => i == 6 || i == 7) (by kernel_rfl) (by rfl) (by kernel_rfl) (by kernel_rfl) (by exact (Chg.refl M W7).drew) ?_
        simp only [List.take_succ_cons, List.take_zero]
        intro hne hx
        change wpStg _ _ _ _ _ _ _ _ (W7).drew
        have hc : Chg M W7 (W7).drew := (Chg.refl M W7).drew
        have hbV : Below (W7).heap.size W7 (W7).drew := (Below.refl _ W7).drew
        obtain ⟨V2, hV⟩ : ∃ V, V = (W7).drew := ⟨_, rfl⟩
        rw [← hV] at hc hbV ⊢
        have HY2 := Lib.hid (HY7.out.below hbV)
        have HBV := Lib.hid hbV
        clear hV hbV
        refine stg_seg 6 (by dsimp only [List.take]) (by dsimp only [List.drop]) (by rfl) ?_
        repeat (go_big_quiet_step (fail))
        refine wpQuiet_nil ?_
        refine stg_loud (by rfl) ?_
        go_wp2_with fail
        refine lq_in rfl (hc.alloc _) ?_
        refine stg_loud (by rfl) ?_
        go_wp2_with (at_builtin; go_loud (refine wpList_appm rfl _ _ 49 rfl B 42 Try.underlying49 Try.infoPair rfl (by decide) rfl HY2.out.lrow rfl [.int .i64 y.1, .int .i64 y.2] rfl (by simp [Value.oneCell']) (by rw [logsL_len]; unfold maxLen; omega) (by rw [logsL_len]; omega) (by have h1 := HY2.out.hB; have h2 := blk_lt HY2.out.blk; omega) ?_); intro v1 w8 hown1 hgrow hat1)
        replace hgrow : V2.grownBy w8 (Value.slice a3 k cp3).ownBlock := hgrow
        obtain ⟨va2, vc2, rfl⟩ := own_slice hown1
        have HOW := Lib.hid hown1
        have HGR := Lib.hid hgrow
        have HAT := Lib.hid hat1
        have hb4 := (hgrow.block wb (blk_lt HY2.out.blk) (Ne.symm (row_wb HY2.out.lrow HY2.out.blk (by decide)))).trans HY2.out.blk
        have hfr := blk_frozen hb4
        have d3 := blk_cell hb4 3
        simp only [List.getElem?_toArray, List.getElem?_cons_zero, List.getElem?_cons_succ] at d3
        have hc4 : Chg M W7 w8 := hc.grown hgrow (fun g hg => .inl (by rw [HM.out, hg]; simp))
        clear hown1 hgrow hat1 hb4 hc
        refine lq_in rfl (hc4) ?_
        clear hc4
        refine stg_seg 2 (by dsimp only [List.take]) (by dsimp only [List.drop]) (by rfl) ?_
        repeat (go_big_quiet_step (fail))
        refine wpQuiet_nil ?_
        refine stg_nil ?_
        clear hne hx
        intro _ hxx
        clear hxx p3 x0 x1
        go_wp2_with fail
        have HW := Lib.hid (HY2.out.log (x := y) HOW.out HGR.out HAT.out)
        have HBZ := Lib.hid (((HB7.out.trans (HBV.out.mono (by have h1 := HY7.out.hB; have h2 := blk_lt HY7.out.blk; omega))).trans (own_below HY2.out.lrow HGR.out (by have h1 := HY2.out.hB; have h2 := blk_lt HY2.out.blk; omega))).trans (Below.setCell (Below.refl B w8) HY2.out.hB (.slice va2 ((logsL l k).length + 1) vc2) (p := ⟨wb, 3, none⟩)))
        go_roundg (N - (k + 1))
        case measure => have := HGK.out; omega
        case rel => exact ⟨k + 1, by omega, rfl, by go_num, HBZ.out, _, _, by rw [logsL_succ, ← HYE.out]; exact HW.out⟩
      · have d1 : decide ((k : Int) + 1 ≤ LN) = false := decide_eq_false (by omega)
        have hy0 : y = (0, 0) := by
          rw [hy, List.getD_eq_getElem?_getD, List.getElem?_eq_none (by have := HLN.out; omega)]
          rfl
        have hk7' : W6.heap[nb]? = some (.cells #[.int .i64 y.1, .int .i64 y.2] 42 (0, 0)) := by rw [hy0]; exact HK6.out
        have hb7 := HB65.out
        clear hy hy0
        go_upto_region 9 with fail
        have HY7 := Lib.hid (HY5.out.below hb7)
        have HK7 := Lib.hid hk7'
        have HB7 := Lib.hid (HB5.out.trans (hb7.mono (by have h1 := HY5.out.hB; have h2 := blk_lt HY5.out.blk; omega)))
        obtain ⟨M, hM⟩ : ∃ M, M = (Value.slice a3 k cp3).ownBlock.toList := ⟨_, rfl⟩
        have HM := Lib.hid hM
        have hmw : ¬ wb ∈ M := fun hm => by
          rw [hM] at hm
          exact row_wb HY7.out.lrow HY7.out.blk (by decide) (by simpa using hm)
        have hmb : ¬ nb ∈ M := fun hm => by
          rw [hM] at hm
          have h1 := (HY5.out.lrow.lt nb (by simpa using hm)).2
          have := HNBL.out
          omega
        have HMW := Lib.hid hmw
        have HMB := Lib.hid hmb
        clear hM hmw hmb hb7 hk7'
        have p3 : ∀ W, Chg M W6 W → W.cell? ⟨wb, 3, none⟩ = some (.slice a3 k cp3) := fun W h => blk_cell (h.blk HY7.out.blk HMW.out) 3
        have x0 : ∀ W, Chg M W6 W → W.cell? ⟨nb, 0, none⟩ = some (.int .i64 y.1) := fun W h => blk_cell (h.blk HK7.out HMB.out) 0
        have x1 : ∀ W, Chg M W6 W → W.cell? ⟨nb, 1, none⟩ = some (.int .i64 y.2) := fun W h => blk_cell (h.blk HK7.out HMB.out) 1
        refine wp_region_last 10 (Chg M W6) (fun i => i == 6 || i == 7) (by kernel_rfl) (by rfl) (by kernel_rfl) (by kernel_rfl) (by exact (Chg.refl M W6).drew) ?_
        simp only [List.take_succ_cons, List.take_zero]
        intro hne hx
        change wpStg _ _ _ _ _ _ _ _ (W6).drew
        have hc : Chg M W6 (W6).drew := (Chg.refl M W6).drew
        have hbV : Below (W6).heap.size W6 (W6).drew := (Below.refl _ W6).drew
        obtain ⟨V2, hV⟩ : ∃ V, V = (W6).drew := ⟨_, rfl⟩
        rw [← hV] at hc hbV ⊢
        have HY2 := Lib.hid (HY7.out.below hbV)
        have HBV := Lib.hid hbV
        clear hV hbV
        refine stg_seg 6 (by dsimp only [List.take]) (by dsimp only [List.drop]) (by rfl) ?_
        repeat (go_big_quiet_step (fail))
        refine wpQuiet_nil ?_
        refine stg_loud (by rfl) ?_
        go_wp2_with fail
        refine lq_in rfl (hc.alloc _) ?_
        refine stg_loud (by rfl) ?_
        go_wp2_with (at_builtin; go_loud (refine wpList_appm rfl _ _ 49 rfl B 42 Try.underlying49 Try.infoPair rfl (by decide) rfl HY2.out.lrow rfl [.int .i64 y.1, .int .i64 y.2] rfl (by simp [Value.oneCell']) (by rw [logsL_len]; unfold maxLen; omega) (by rw [logsL_len]; omega) (by have h1 := HY2.out.hB; have h2 := blk_lt HY2.out.blk; omega) ?_); intro v1 w8 hown1 hgrow hat1)
        replace hgrow : V2.grownBy w8 (Value.slice a3 k cp3).ownBlock := hgrow
        obtain ⟨va2, vc2, rfl⟩ := own_slice hown1
        have HOW := Lib.hid hown1
        have HGR := Lib.hid hgrow
        have HAT := Lib.hid hat1
        have hb4 := (hgrow.block wb (blk_lt HY2.out.blk) (Ne.symm (row_wb HY2.out.lrow HY2.out.blk (by decide)))).trans HY2.out.blk
        have hfr := blk_frozen hb4
        have d3 := blk_cell hb4 3
        simp only [List.getElem?_toArray, List.getElem?_cons_zero, List.getElem?_cons_succ] at d3
        have hc4 : Chg M W6 w8 := hc.grown hgrow (fun g hg => .inl (by rw [HM.out, hg]; simp))
        clear hown1 hgrow hat1 hb4 hc
        refine lq_in rfl (hc4) ?_
        clear hc4
        refine stg_seg 2 (by dsimp only [List.take]) (by dsimp only [List.drop]) (by rfl) ?_
        repeat (go_big_quiet_step (fail))
        refine wpQuiet_nil ?_
        refine stg_nil ?_
        clear hne hx
        intro _ hxx
        clear hxx p3 x0 x1
        go_wp2_with fail
        have HW := Lib.hid (HY2.out.log (x := y) HOW.out HGR.out HAT.out)
        have HBZ := Lib.hid (((HB7.out.trans (HBV.out.mono (by have h1 := HY7.out.hB; have h2 := blk_lt HY7.out.blk; omega))).trans (own_below HY2.out.lrow HGR.out (by have h1 := HY2.out.hB; have h2 := blk_lt HY2.out.blk; omega))).trans (Below.setCell (Below.refl B w8) HY2.out.hB (.slice va2 ((logsL l k).length + 1) vc2) (p := ⟨wb, 3, none⟩)))
        go_roundg (N - (k + 1))
        case measure => have := HGK.out; omega
        case rel => exact ⟨k + 1, by omega, rfl, by go_num, HBZ.out, _, _, by rw [logsL_succ, ← HYE.out]; exact HW.out⟩
    · obtain rfl : k = N := by omega
      have hk1 : decide ((k : Int) + 1 ≤ (k : Int)) = false := decide_eq_false (by omega)
      obtain ⟨va, vc, rfl⟩ := own_slice hY.vrow
      have HY1 := Lib.hid hY
      have HH1 := Lib.hid (show 1 ≤ k by omega)
      have HH7 := Lib.hid (show k ≤ 7 by omega)
      obtain ⟨N, hNk⟩ : ∃ N, N = k := ⟨_, rfl⟩
      rw [← hNk] at HY1 HH1 HH7 hk1 hN1 hN7 ⊢
      have HNK := Lib.hid hNk
      clear hY hk hk0 HGK hNk
      go_wp2_with fail
      go_loopg [8] N (fun g i w2 => ∃ k : Nat, k ≤ N ∧ g = N - k ∧ i = .int .i64 ((k : Int) + 1) ∧ Below B w w2 ∧ ∃ ns nv, WY B w2 wb N (logsL l N) ns (.slice va N vc) nv lv ∧ ns.length = k ∧ ns.map NP.S = begunNs N k va vc)
      case atStart => exact ⟨0, by omega, by omega, rfl, HBB.out, [], _, HY1.out, rfl, rfl⟩
      case round =>
        clear HY1 HBB hk1
        obtain ⟨k, hk0, hgk, rfl, hbB, ns, nv, hY, hnl, hns⟩ := hrel
        have HGK := Lib.hid hgk
        have HBB := Lib.hid hbB
        have HY := Lib.hid hY
        have HNL := Lib.hid hnl
        have HNS := Lib.hid hns
        obtain ⟨na, nc, hnv⟩ : ∃ na nc, nv = .slice na k nc := by
          have := own_slice hY.nrow
          rw [hnl] at this
          exact this
        subst hnv
        clear hgk hbB hY hnl hns
        by_cases hk : k < N
        · have hk1 : decide ((k : Int) + 1 ≤ N) = true := decide_eq_true (by omega)
          have hk7 : k < 7 := by have := HH7.out; omega
          have hgs := HY.out.gs HH1.out (va := va) (c := vc) rfl (M := []) (fun g _ hm => by cases hm)
          have hnw := new_at ((k : Int) + 1) 0 0 3 (vsL N) [] va vc none 0 wr hgs.at_ (fun j hj => by simp at hj) (by rw [vsL_len]; have := HH7.out; unfold maxLen; omega) (by simp)
          rw [vsL_len] at hnw
          have HNW := Lib.hid (show Calls Try.prog 10 #[.int .i64 ((k : Int) + 1), .agg #[.int .i64 0, .int .i64 0], .agg #[.slice va N vc, .slice none 0 0], .int .i64 3] wr fun e w' => NewEnd wr ((k : Int) + 1) 0 0 3 (vsL N) [] va vc none 0 e w' from hnw)
          have c0 : wr.cell? ⟨wb, 0, none⟩ = some (.slice va N vc) := blk_cell HY.out.blk 0
          have c1 : wr.cell? ⟨wb, 1, none⟩ = some (.slice none 0 0) := blk_cell HY.out.blk 1
          clear hnw hgs
          go_wp2_with fail
          refine HNW.out.mono ?_
          rintro e w3 (⟨hno, _⟩ | ⟨_, b', L', rfl, hN, hb3, hL⟩)
          · rw [newOk_fresh HH1.out HH7.out hk] at hno
            cases hno
          have HN := Lib.hid hN
          have HB3 := Lib.hid hb3
          have HL := Lib.hid hL
          have HY3 := Lib.hid (HY.out.below hb3)
          have c2 : w3.cell? ⟨wb, 2, none⟩ = some (.slice na k nc) := blk_cell HY3.out.blk 2
          have hrow := HY3.out.nrow
          rw [HNL.out] at hrow
          have HROW := Lib.hid hrow
          clear c0 c1 hN hb3 hL hrow HNW
          go_wp2_with (at_builtin; go_loud (refine wpList_appm rfl _ _ 53 rfl B 25 Try.underlying53 Try.infoPtrNode rfl (by decide) rfl HROW.out rfl [.pointer (some ⟨b', 0, none⟩)] rfl (by simp [Value.oneCell']) (by unfold maxLen; omega) (by omega) (by have h1 := HY3.out.hB; have h2 := blk_lt HY3.out.blk; omega) ?_); intro v1 w4 hown1 hgrow hat1; obtain ⟨va1, vc1, rfl⟩ := own_slice hown1; have hb4 := (hgrow.block wb (blk_lt HY3.out.blk) (Ne.symm (row_wb HROW.out HY3.out.blk (by decide)))).trans HY3.out.blk; have hfr := blk_frozen hb4; have d2 := blk_cell hb4 2; simp only [List.getElem?_toArray, List.getElem?_cons_zero, List.getElem?_cons_succ] at d2)
          have hold : ∀ {e : TypeId} {size : Nat} {v : Value} {n : Nat} {xs : List Value}, wr.ownsRow B e size v n xs → ∀ x, wr.heap.size ≤ x → v.ownBlock ≠ some x := fun {e size v n xs} hr x hx hg => by
            have := (hr.lt x hg).2
            omega
          have hW := HY3.out.more HH1.out (p := ⟨b', newNd ((k : Int) + 1) 0 0 3 (vsL N) [] va vc none 0, L'⟩) HN.out rfl ⟨vc, rfl⟩ rfl
            (fun i hi x hx hm => by have h1 := HL.out x hx; have h2 := (HY.out.node i hi).low x hm; omega)
            (fun x hx => by
              have h1 := HL.out x hx
              have h2 := HY.out.hB
              have h3 := blk_lt HY.out.blk
              exact ⟨by omega, by omega, hold HY.out.vrow x h1, hold HY.out.nrow x h1, hold HY.out.lrow x h1⟩)
            (by rw [HNL.out]; exact hown1) hgrow hat1
          have HW := Lib.hid hW
          have HBZ := Lib.hid (((HBB.out.trans (HB3.out.mono (by have h1 := HY.out.hB; have h2 := blk_lt HY.out.blk; omega))).trans (own_below HROW.out hgrow (by have h1 := HY3.out.hB; have h2 := blk_lt HY3.out.blk; omega))).trans (Below.setCell (Below.refl B w4) HY3.out.hB (.slice va1 (k + 1) vc1) (p := ⟨wb, 2, none⟩)))
          clear hown1 hgrow hat1 hb4 hold hW
          go_roundg (N - (k + 1))
          case measure => have := HGK.out; omega
          case rel => exact ⟨k + 1, by omega, rfl, by go_num, HBZ.out, _, _, HW.out, by rw [List.length_append, HNL.out]; rfl, by rw [List.map_append, HNS.out, begunNs_succ]; rfl⟩
        · obtain rfl : k = N := by omega
          have hk1 : decide ((k : Int) + 1 ≤ (k : Int)) = false := decide_eq_false (by omega)
          go_wp2_with fail
          go_ret
          exact ⟨wb, va, vc, rfl, ⟨_, _, HY.out.done HNL.out (logsL_len _ _) HH1.out HH7.out, by
            unfold GX.pure begun
            rw [HNS.out, ← HNK.out]⟩, HBB.out⟩
end Go.Proofs.Ytiamfdnllpiikaa
