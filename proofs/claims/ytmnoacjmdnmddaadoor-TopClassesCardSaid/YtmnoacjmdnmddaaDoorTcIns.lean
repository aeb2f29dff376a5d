/- slices.Insert of one integer into a row of the caller's own; slices.BinarySearch; the keys of maps. Conditions: none. -/
import Derived.Test.YtmnoacjmdnmddaaDoorTcLays
namespace Go.Proofs.YtmnoacjmdnmddaaDoor
open Go.RowKit Go.Maps Go.Sort Go.Shelf
/-- An array with a list written over it from o on. -/
def updA (cur : Array Value) : Nat → List Value → Array Value
  | _, [] => cur
  | o, v :: r => updA (cur.setIfInBounds o v) (o + 1) r
theorem updA_size : ∀ (vs : List Value) (cur : Array Value) (o : Nat), (updA cur o vs).size = cur.size
  | [], _, _ => rfl
  | v :: r, cur, o => by
    unfold updA
    rw [updA_size r]
    simp
theorem updA_get : ∀ (vs : List Value) (cur : Array Value) (o j : Nat), o + vs.length ≤ cur.size → (updA cur o vs)[j]? = if o ≤ j ∧ j < o + vs.length then vs[j - o]? else cur[j]?
  | [], cur, o, j, _ => by
    rw [if_neg (by simp only [List.length_nil]; omega)]; rfl
  | v :: r, cur, o, j, h => by
    simp only [List.length_cons] at h
    unfold updA
    rw [updA_get r _ _ _ (by simp; omega)]
    by_cases hj : o = j
    · subst hj
      rw [if_neg (by omega), if_pos (by simp), Nat.sub_self, Array.getElem?_setIfInBounds, if_pos rfl, if_pos (by omega)]
      rfl
    · by_cases h1 : o + 1 ≤ j ∧ j < o + 1 + r.length
      · rw [if_pos h1, if_pos (by simp; omega)]
        rw [show j - o = (j - (o + 1)) + 1 by omega, List.getElem?_cons_succ]
      · rw [if_neg h1, if_neg (by simp; omega)]
        simp [Array.getElem?_setIfInBounds, hj]
theorem setCells_heap : ∀ (vs : List Value) (w : World) (b o : Nat) (cur : Array Value) (e : TypeId) (fz : Nat × Nat), w.heap[b]? = some (.cells cur e fz) → (w.setCells b o vs).heap[b]? = some (.cells (updA cur o vs) e fz)
  | [], w, b, o, cur, e, fz, h => h
  | v :: r, w, b, o, cur, e, fz, h => by
    unfold World.setCells updA
    exact setCells_heap r _ b (o + 1) _ e fz (blk_set h o v)
theorem setCells_far : ∀ (vs : List Value) (w : World) (b o : Nat) (k : Nat), k ≠ b → (w.setCells b o vs).heap[k]? = w.heap[k]?
  | [], w, b, o, k, h => rfl
  | v :: r, w, b, o, k, h => by
    unfold World.setCells
    rw [setCells_far r _ b (o + 1) k h]
    exact Below.heap_setCell _ _ _ _ h
theorem setCells_grown (vs : List Value) (w : World) (b o : Nat) : w.grownBy (w.setCells b o vs) (some b) := by
  have h1 : ∀ (vs : List Value) (w : World) (o : Nat), (w.setCells b o vs).os = w.os ∧ (w.setCells b o vs).tape = w.tape ∧ (w.setCells b o vs).output = w.output ∧ (w.setCells b o vs).heap.size = w.heap.size := by
    intro vs
    induction vs with
    | nil => intro w o; exact ⟨rfl, rfl, rfl, rfl⟩
    | cons v r ih =>
      intro w o
      unfold World.setCells
      obtain ⟨a1, a2, a3, a4⟩ := ih (w.setCell ⟨b, o, none⟩ v) (o + 1)
      exact ⟨a1, a2, a3, by rw [a4]; simp [World.setCell]⟩
  obtain ⟨a1, a2, a3, a4⟩ := h1 vs w o
  exact ⟨a1, a2, a3, by omega, fun k _ hk => setCells_far vs w b o k (fun e => hk (by rw [e]))⟩
/-- The row with one more. -/
def insL (xs : List Int) (i : Nat) (x : Int) : List Int := xs.take i ++ x :: xs.drop i
theorem insL_len {xs : List Int} {i : Nat} {x : Int} (h : i ≤ xs.length) : (insL xs i x).length = xs.length + 1 := by
  unfold insL
  simp
  omega
theorem insL_get {xs : List Int} {i : Nat} {x : Int} (h : i ≤ xs.length) (j : Nat) : (intsV (insL xs i x))[j]? = if j < i then (intsV xs)[j]? else if j = i then some (.int .i64 x) else (intsV xs)[j - 1]? := by
  unfold insL intsV
  rw [List.map_append, List.map_cons, List.map_take, List.map_drop]
  by_cases h1 : j < i
  · rw [if_pos h1, List.getElem?_append_left (by simp; omega), List.getElem?_take_of_lt h1]
  · rw [if_neg h1, List.getElem?_append_right (by simp; omega)]
    have hl : ((xs.map (Value.int .i64)).take i).length = i := by simp; omega
    rw [hl]
    by_cases h2 : j = i
    · subst h2; simp
    · rw [if_neg h2, show j - i = (j - i - 1) + 1 by omega, List.getElem?_cons_succ, List.getElem?_drop]
      congr 1
      omega
theorem take_row {cur : Array Value} {n : Nat} {xs : List Value} (h : cur.toList.take (n * 1) = xs) (hn : n ≤ cur.size) (j : Nat) : xs[j]? = if j < n then cur[j]? else none := by
  rw [← h, Nat.mul_one]
  by_cases hj : j < n
  · rw [if_pos hj, List.getElem?_take_of_lt hj, Array.getElem?_toList]
  · rw [if_neg hj, List.getElem?_take_eq_none (by omega)]
theorem row_take {cur : Array Value} {n : Nat} {ys : List Value} (hl : ys.length = n) (hn : n ≤ cur.size) (h : ∀ j, j < n → cur[j]? = ys[j]?) : cur.toList.take (n * 1) = ys := by
  rw [Nat.mul_one]
  apply List.ext_getElem?
  intro j
  by_cases hj : j < n
  · rw [List.getElem?_take_of_lt hj, Array.getElem?_toList, h j hj]
  · rw [List.getElem?_take_eq_none (by omega), List.getElem?_eq_none (by omega)]
set_option maxRecDepth 100000 in
set_option maxHeartbeats 2000000 in
theorem insert_at {w : World} {B : Nat} {v : Value} {n : Nat} {xs : List Int} (h : w.ownsRow B 3 1 v n (intsV xs)) {i : Nat} (hi : i ≤ n) (x : Int) {vb : Nat} (hvb : w.heap[vb]? = some (.cells #[.int .i64 x] 3 (0, 0))) (hne : v.ownBlock ≠ some vb) (hn : n ≤ 100000) (hB : B ≤ w.heap.size) :
    Calls Tryd.prog 46 #[v, .int .i64 i, .slice (some ⟨vb, 0, none⟩) 1 1] w fun e w' => ∃ v', e = .returned v' ∧ w'.ownsRow B 3 1 v' (n + 1) (intsV (insL xs i x)) ∧ w.grownBy w' v.ownBlock ∧ (v'.ownBlock = v.ownBlock ∨ v'.ownBlock = some w.heap.size) := by
  have hl : xs.length = n := by have := h.1; rw [intsV_len] at this; omega
  have hvs : ∀ (j : Nat) (u : Value), ([.int .i64 x] : List Value)[j]? = some u → w.cell? ⟨vb, 0 + j, none⟩ = some u := fun j u hu => by
    rw [Nat.zero_add, blk_cell hvb]
    simpa using hu
  have h1v : ∀ u ∈ ([.int .i64 x] : List Value), u.oneCell' = true := by simp [Value.oneCell']
  have hcl : (intsV xs).length = n := by rw [intsV_len, hl]
  rcases h.2 with ⟨rfl, h0⟩ | ⟨g, cap, cur, rfl, hg, hcur, hnc, hcm, hsz, htk⟩
  · subst h0
    have hi0 : i = 0 := by omega
    subst hi0
    have hx0 : xs = [] := List.eq_nil_of_length_eq_zero hl
    subst hx0
    refine (show Calls Tryd.prog 46 _ _ _ from Any2.slices_Insert_int_end_grow layInsert none 0 0 vb 0 1 1 [] [.int .i64 x] w (by omega) (by omega) (by omega) (by omega) rfl rfl (fun _ => rfl) (fun a ha => by cases ha) hvs h1v).mono ?_
    rintro e w' ⟨rfl, rfl⟩
    have hge := grownCap_ge w (0 + 1) 0 3
    have hle := grownCap_le_maxLen w (0 + 1) 0 3 (by unfold maxLen; omega)
    change 0 + 1 ≤ grownCap w (0 + 1) 0 (layInsert_ren.t 3) at hge
    change grownCap w (0 + 1) 0 (layInsert_ren.t 3) ≤ maxLen at hle
    refine ⟨_, rfl, ⟨rfl, .inr ⟨w.heap.size, _, _, rfl, hB, heap_alloc_new w.drew _, hge, hle, ?_, ?_⟩⟩, ⟨rfl, rfl, rfl, by simp, fun k hk _ => heap_alloc_old w.drew _ k hk⟩, .inr rfl⟩
    · simp only [Array.size_append, List.size_toArray, size_zeroCells, List.length_append, List.length_cons, List.length_nil]
      show 0 + (0 + 1) + (_ - (0 + 1)) * 1 = _
      omega
    · rw [Array.toList_append]
      rfl
  · have hn9 : n < maxLen := by unfold maxLen; omega
    have hcs : ∀ (j : Nat) (u : Value), (intsV xs)[j]? = some u → w.cell? ⟨g, 0 + j, none⟩ = some u := fun j u hu => by
      rw [Nat.zero_add]
      exact row_cell h hu
    have hsz' : cur.size = cap := by omega
    have hsp : ∀ j, j < cap → (w.cell? ⟨g, j, none⟩).isSome = true := fun j hj => by
      rw [blk_cell hcur, Array.getElem?_eq_getElem (by omega)]
      rfl
    have hfz : ∀ j, w.frozen? ⟨g, j, none⟩ = false := fun j => h.frozenAt j
    have hgb : vb ≠ g := fun e => hne (by rw [e]; rfl)
    have hxs := take_row htk (by omega)
    have hbg : g < w.heap.size := blk_lt hcur
    by_cases hin : i = n
    · subst hin
      by_cases hroom : i + 1 ≤ cap
      · refine (show Calls Tryd.prog 46 _ _ _ from Any2.slices_Insert_int_end_room layInsert g 0 i cap vb 0 1 1 [.int .i64 x] w (by omega) hroom (by unfold maxLen at hcm; omega) rfl (fun j hj => hsp _ (by omega)) (fun j hj => hfz _) hvs h1v).mono ?_
        rintro e w' ⟨rfl, rfl⟩
        refine ⟨_, rfl, ⟨by rw [intsV_len, insL_len (by omega)]; omega, .inr ⟨g, cap, _, rfl, hg, setCells_heap _ _ _ _ _ _ _ hcur, hroom, hcm, by rw [updA_size]; exact hsz, ?_⟩⟩, setCells_grown _ _ _ _, .inl rfl⟩
        refine row_take (by rw [intsV_len, insL_len (by omega)]; omega) (by rw [updA_size]; omega) fun j hj => ?_
        rw [updA_get _ _ _ _ (by simp; omega), insL_get (by omega), Nat.zero_add]
        by_cases h1 : j < i
        · rw [if_neg (by omega), if_pos h1, hxs, if_pos h1]
        · obtain rfl : j = i := by omega
          rw [if_pos (by simp), if_neg (by omega), if_pos rfl, Nat.sub_self]
          rfl
      · refine (show Calls Tryd.prog 46 _ _ _ from Any2.slices_Insert_int_end_grow layInsert (some ⟨g, 0, none⟩) i cap vb 0 1 1 (intsV xs) [.int .i64 x] w (by omega) (by omega) (by omega) (by omega) hcl rfl (fun e => by cases e) (fun a ha j u hu => by
          injection ha with ha
          subst ha
          rw [addr_add]
          exact hcs j u hu) hvs h1v).mono ?_
        rintro e w' ⟨rfl, rfl⟩
        have hge := grownCap_ge w (i + 1) cap 3
        have hle := grownCap_le_maxLen w (i + 1) cap 3 (by unfold maxLen; omega)
        change i + 1 ≤ grownCap w (i + 1) cap (layInsert_ren.t 3) at hge
        change grownCap w (i + 1) cap (layInsert_ren.t 3) ≤ maxLen at hle
        have hxx : intsV (insL xs i x) = intsV xs ++ [Value.int .i64 x] := by
          unfold insL intsV
          rw [List.take_of_length_le (by omega), List.drop_of_length_le (by omega), List.map_append]
          rfl
        rw [hxx]
        refine ⟨_, rfl, ⟨by simp [hcl], .inr ⟨w.heap.size, _, _, rfl, hB, heap_alloc_new w.drew _, hge, hle, ?_, ?_⟩⟩, ⟨rfl, rfl, rfl, by simp, fun k hk _ => heap_alloc_old w.drew _ k hk⟩, .inr rfl⟩
        · simp only [Array.size_append, List.size_toArray, size_zeroCells, List.length_append, List.length_cons, List.length_nil, hcl]
          show i + (0 + 1) + (_ - (i + 1)) * 1 = _
          omega
        · rw [Array.toList_append, Nat.mul_one]
          have : (intsV xs ++ [Value.int .i64 x]).length = i + 1 := by simp [hcl]
          rw [← this]
          exact List.take_left
    · have hin' : i < n := by omega
      have hdl : ((intsV xs).drop i).length = n - i := by rw [List.length_drop, hcl]
      by_cases hroom : n + 1 ≤ cap
      · refine (show Calls Tryd.prog 46 _ _ _ from Any2.slices_Insert_int_shift layInsert g 0 n cap i vb 0 1 1 (intsV xs) [.int .i64 x] w hin' (by omega) hroom (by unfold maxLen at hcm; omega) hgb hcl rfl hcs (fun j hj => by rw [Nat.zero_add]; exact hsp _ (by omega)) (fun j hj => hfz _) hvs (intsV_one xs) h1v 3 3 1 cap (by simp [World.shape?, hvb]) (by simp [World.shape?, hcur, hsz']) (by omega) (by simp [World.frozen?, hvb]) (by simp [World.frozen?, hvb])).mono ?_
        rintro e w' ⟨rfl, rfl⟩
        refine ⟨_, rfl, ⟨by rw [intsV_len, insL_len (by omega)]; omega, .inr ⟨g, cap, _, rfl, hg, setCells_heap _ _ _ _ _ _ _ (setCells_heap _ w.drew _ _ _ _ _ hcur), hroom, hcm, by rw [updA_size, updA_size]; exact hsz, ?_⟩⟩, ?_, .inl rfl⟩
        · refine row_take (by rw [intsV_len, insL_len (by omega)]; omega) (by rw [updA_size, updA_size]; omega) fun j hj => ?_
          rw [updA_get _ _ _ _ (by rw [updA_size]; simp; omega), updA_get _ _ _ _ (by rw [hdl]; omega), insL_get (by omega), hdl]
          simp only [Nat.zero_add, List.length_cons, List.length_nil]
          by_cases h1 : j < i
          · rw [if_neg (by omega), if_neg (by omega), if_pos h1, hxs, if_pos (by omega)]
          · by_cases h2 : j = i
            · subst h2
              rw [if_pos (by omega), if_neg (by omega), if_pos rfl, Nat.sub_self]
              rfl
            · rw [if_neg (by omega), if_pos (by omega), if_neg h1, if_neg h2, List.getElem?_drop]
              congr 1
              omega
        · exact (show w.grownBy w.drew (some g) from ⟨rfl, rfl, rfl, Nat.le_refl _, fun _ _ _ => rfl⟩) |> fun a => grown_trans (grown_trans a (setCells_grown _ _ _ _)) (setCells_grown _ _ _ _)
      · refine (show Calls Tryd.prog 46 _ _ _ from Any2.slices_Insert_int_grow layInsert g 0 n cap i vb 0 1 1 (intsV xs) [.int .i64 x] w hin' (by omega) hnc (by omega) (by omega) hcl rfl hcs hvs (intsV_one xs) h1v).mono ?_
        rintro e w' ⟨rfl, rfl⟩
        have hge := grownCap_ge w (n + 1) cap 3
        have hle := grownCap_le_maxLen w (n + 1) cap 3 (by unfold maxLen; omega)
        change n + 1 ≤ grownCap w (n + 1) cap (layInsert_ren.t 3) at hge
        change grownCap w (n + 1) cap (layInsert_ren.t 3) ≤ maxLen at hle
        obtain ⟨G, hG⟩ : ∃ G, G = grownCap w (n + 1) cap (layInsert_ren.t 3) := ⟨_, rfl⟩
        rw [← hG] at hge hle ⊢
        obtain ⟨ROW, hROW⟩ : ∃ ROW : Array Value, ROW = ((intsV xs).take i).toArray ++ Builtin.zeroCells (Value.int .i64 0).cells (n + 1 - i) ++ Builtin.zeroCells (Value.int .i64 0).cells (G - (n + 1)) := ⟨_, rfl⟩
        rw [← hROW]
        have hRS : ROW.size = G := by
          rw [hROW]
          simp only [Array.size_append, List.size_toArray, size_zeroCells, List.length_take, hcl]
          show min i n + (n + 1 - i) * 1 + (G - (n + 1)) * 1 = G
          omega
        have hRG : ∀ j, j < i → ROW[j]? = (intsV xs)[j]? := fun j hj => by
          rw [hROW, Array.append_assoc, Array.getElem?_append_left (by simp [hcl]; omega), List.getElem?_toArray, List.getElem?_take_of_lt hj]
        have hnew : ((w.alloc (.cells ROW (layInsert_ren.t 3))).drew).heap[w.heap.size]? = some (.cells ROW 3 (0, 0)) := heap_alloc_new w _
        refine ⟨_, rfl, ⟨by rw [intsV_len, insL_len (by omega)]; omega, .inr ⟨w.heap.size, G, _, rfl, hB, setCells_heap _ (World.setCells _ _ _ _).drew _ _ _ _ _ (setCells_heap _ _ _ _ _ _ _ hnew), hge, hle, by rw [updA_size, updA_size, hRS]; omega, ?_⟩⟩, ?_, .inr rfl⟩
        · refine row_take (by rw [intsV_len, insL_len (by omega)]; omega) (by rw [updA_size, updA_size]; omega) fun j hj => ?_
          rw [updA_get _ _ _ _ (by rw [updA_size, hdl, hRS]; omega), updA_get _ _ _ _ (by simp; omega), insL_get (by omega), hdl]
          simp only [List.length_cons, List.length_nil]
          by_cases h1 : j < i
          · rw [if_neg (by omega), if_neg (by omega), if_pos h1, hRG j h1]
          · by_cases h2 : j = i
            · subst h2
              rw [if_neg (by omega), if_pos (by omega), if_neg (by omega), if_pos rfl, Nat.sub_self]
              rfl
            · rw [if_pos (by omega), if_neg h1, if_neg h2, List.getElem?_drop]
              congr 1
              omega
        · refine ⟨?_, ?_, ?_, ?_, fun k hk hkg => ?_⟩
          · exact ((setCells_grown _ _ _ _).os.trans (setCells_grown _ _ _ _).os)
          · exact ((setCells_grown _ _ _ _).tape.trans (setCells_grown _ _ _ _).tape)
          · exact ((setCells_grown _ _ _ _).output.trans (setCells_grown _ _ _ _).output)
          · refine Nat.le_trans ?_ (setCells_grown _ _ _ _).size
            refine Nat.le_trans ?_ (setCells_grown _ _ _ _).size
            show _ ≤ (w.alloc _).heap.size
            simp
          · rw [setCells_far _ _ _ _ _ (by omega)]
            refine (setCells_far _ _ _ _ _ (by omega)).trans ?_
            exact heap_alloc_old w _ k hk
end Go.Proofs.YtmnoacjmdnmddaaDoor
