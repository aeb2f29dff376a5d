/- A group of nodes in memory, and what they have said. Conditions: none. -/
import Derived.Test.YtiamfdnllpiikaaElRefJ
import Derived.Test.YtiamfdnllpiikaaElTake
import Derived.Test.YtiamfdnllpiikaaElTick
namespace Go.Proofs.Ytiamfdnllpiikaa
open Go.RowKit

theorem Try.infoHard : (Try.prog.info? 23).map (fun i => (i.zero, i.size, i.bytes)) = some (some (.agg #[.int .i64 0, .int .i64 0]), 2, 16) := by kernel_rfl
theorem Try.infoPair : (Try.prog.info? 42).map (fun i => (i.zero, i.size, i.bytes)) = some (some (.agg #[.int .i64 0, .int .i64 0]), 2, 16) := by kernel_rfl
theorem Try.infoPtrNode : (Try.prog.info? 25).map (fun i => (i.zero, i.size, i.bytes)) = some (some (.pointer none), 1, 8) := by kernel_rfl

/-- 'append(l, m...)': both are rows of one's own. -/
theorem wpList_apps {P : Program} {W : World} {ops : Array Oper} {rest : List Oper} {o : Oper} {a : Act} {Q : Exit → Act → World → Prop} (hgd : o.guard = none) (s x : Operand) (T : TypeId)
    (ho : o.op = .call { callee := .builtin .append, args := #[s, x], argTypes := #[T, T] })
    (base : Nat) (E : TypeId) {z : Value} {size bytes : Nat} (hT : P.underlying T = some (.slice E)) (hinfo : (P.info? E).map (fun i => (i.zero, i.size, i.bytes)) = some (some z, size, bytes))
    (hzs : z.cells.size = size) (hsz : 0 < size) {v : Value} (hs : a.eval s = v) {n m : Nat} {xs ys : List Value} (hown : W.ownsRow base E size v n xs)
    {base2 : Nat} {u : Value} (hx : a.eval x = u) (hown2 : W.ownsRow base2 E size u m ys) (h1 : ∀ u ∈ ys, u.oneCell' = true)
    (hm : n + m ≤ maxLen) (hb : (n + m) * bytes ≤ 140737488355328) (hbase : base ≤ W.heap.size)
    (h : ∀ v' w', w'.ownsRow base E size v' (n + m) (xs ++ ys) → W.grownBy w' v.ownBlock → (v'.ownBlock = v.ownBlock ∨ ∃ g, v'.ownBlock = some g ∧ W.heap.size ≤ g) → wpList P ops Q rest (a.put o.dst v') w') :
    wpList P ops Q (o :: rest) a W := by
  obtain ⟨i0, hi, hz0, hz1, hz2⟩ := info_parts hinfo
  rcases hown2.2 with ⟨hu, h0⟩ | ⟨g, cap, cur, hu, hbg, hg, hnc, hcm, hcs, htake⟩
  · have hy : ys = [] := List.eq_nil_of_length_eq_zero (by rw [hown2.1, h0]; simp)
    subst hy
    subst h0
    refine wpList_plain hgd fun K hK => ?_
    have hr := run_append_owned_none (P := P) W base T o.type E i0 size hT hi v n xs hown
    unfold Oper.wp execOp
    simp only [ho, resolve, invoke, builtin, Sem.run_bind, Sem.run_pure, Result.andThen_ok, List.map_toArray, List.map_cons, List.map_nil, hs, hx, hu, hr]
    exact hK _ _ (h v W (by simpa using hown) ⟨rfl, rfl, rfl, Nat.le_refl _, fun _ _ _ => rfl⟩ (.inl rfl))
  · have hcell : ∀ j w, ys[j]? = some w → W.cell? ((⟨g, 0, none⟩ : Addr).add j) = some w := fun j w hj => hown2.cells (g := g) (by rw [hu]; rfl) j w hj
    refine wpList_append_own_at _ hgd s x T ho base E i0 z size bytes hT hi hz0 hz1 hz2 hzs hsz v n xs hs hown ⟨g, 0, none⟩ m cap ys (hx.trans hu) hown2.1 hcell h1 hm hb hbase ?_
    intro v' w' h2 h3 _ h5
    refine h v' w' h2 h3 ?_
    rcases h5 with h5 | h5
    · exact .inl h5
    · exact .inr ⟨_, h5, Nat.le_refl _⟩
theorem balsC_one : ∀ {l : List Bal}, ∀ u ∈ balsC l, u.oneCell' = true := fun {l} u hu => by
  unfold balsC at hu
  obtain ⟨x, _, hx⟩ := List.mem_flatMap.1 hu
  simp only [balC, List.mem_cons, List.not_mem_nil, or_false] at hx
  rcases hx with rfl | rfl | rfl | rfl | rfl | rfl | rfl <;> rfl

structure NP where
  b : Nat
  S : Nd
  L : List Nat
instance : Inhabited Nd := ⟨newNd 0 0 0 0 [] [] none 0 none 0⟩
instance : Inhabited NP := ⟨⟨0, default, []⟩⟩
structure GX where
  ns : List NP
  logs : List (Int × Int)
  sent : List Bal
  leads : List (Int × Int)
/-- The values of its rows: the voters, the nodes, the logs, what was sent, the leaders. -/
structure RV where
  vv : Value
  nv : Value
  lv : Value
  sv : Value
  dv : Value
def RV.all (R : RV) : List Value := [R.vv, R.nv, R.lv, R.sv, R.dv]
def vsL (n : Nat) : List Int := (List.range n).map fun (i : Nat) => (i : Int) + 1
theorem vsL_len (n : Nat) : (vsL n).length = n := by simp [vsL]
def pairC (p : Int × Int) : List Value := [.int .i64 p.1, .int .i64 p.2]
def pairsC (l : List (Int × Int)) : List Value := l.flatMap pairC
def ptrs (l : List NP) : List Value := l.map fun p => .pointer (some ⟨p.b, 0, none⟩)
def wldC (R : RV) : Array Value := #[R.vv, .slice none 0 0, R.nv, R.lv, R.sv, R.dv]
def GX.at (X : GX) (i : Nat) : NP := X.ns.getD i default

structure WX (B : Nat) (w : World) (wb : Nat) (X : GX) (R : RV) : Prop where
  blk : w.heap[wb]? = some (.cells (wldC R) 56 (0, 0))
  hB : B ≤ wb
  vrow : w.ownsRow B 3 1 R.vv X.ns.length ((vsL X.ns.length).map (.int .i64))
  nrow : w.ownsRow B 25 1 R.nv X.ns.length (ptrs X.ns)
  lrow : w.ownsRow B 42 2 R.lv X.ns.length (pairsC X.logs)
  srow : w.ownsRow B 44 7 R.sv X.sent.length (balsC X.sent)
  drow : w.ownsRow B 23 2 R.dv X.leads.length (pairsC X.leads)
  m1 : 1 ≤ X.ns.length
  m7 : X.ns.length ≤ 7
  ll : X.logs.length = X.ns.length
  node : ∀ i, i < X.ns.length → NodeAt w (X.at i).b (X.at i).S (X.at i).L
  vs : ∀ i, i < X.ns.length → (X.at i).S.vs = vsL X.ns.length
  va : ∀ i, i < X.ns.length → ∃ c, R.vv = .slice (X.at i).S.va X.ns.length c
  ls : ∀ i, i < X.ns.length → (X.at i).S.ls = []
  dis : ∀ i j, i < X.ns.length → j < X.ns.length → i ≠ j → ∀ x, x ∈ (X.at i).L → ¬ x ∈ (X.at j).L
  out : ∀ i, i < X.ns.length → ∀ x, x ∈ (X.at i).L → B ≤ x ∧ x ≠ wb ∧ ∀ v, v ∈ R.all → v.ownBlock ≠ some x

section
variable {w w' : World} {B B' wb : Nat} {X : GX} {R : RV}
theorem row_blk {e : TypeId} {size : Nat} {v : Value} {n : Nat} {xs : List Value} (h : w.ownsRow B e size v n xs) {g : Nat} (hg : v.ownBlock = some g) : ∃ cur, w.heap[g]? = some (.cells cur e (0, 0)) := by
  rcases h.2 with ⟨rfl, _⟩ | ⟨g', cap, cur, rfl, _, hh, _⟩
  · cases hg
  · have : g' = g := by simpa [Value.ownBlock] using hg
    subst this
    exact ⟨cur, hh⟩
theorem row_ne {e e' : TypeId} {size size' : Nat} {v v' : Value} {n n' : Nat} {xs xs' : List Value} (h : w.ownsRow B e size v n xs) (h' : w.ownsRow B' e' size' v' n' xs') (he : e ≠ e') {g : Nat} (hg : v.ownBlock = some g) : v'.ownBlock ≠ some g := by
  intro hg'
  obtain ⟨c, hc⟩ := row_blk h hg
  obtain ⟨c', hc'⟩ := row_blk h' hg'
  rw [hc] at hc'
  injection hc' with hc'
  injection hc' with _ h2 _
  exact he h2
theorem row_wb {e : TypeId} {size : Nat} {v : Value} {n : Nat} {xs : List Value} {cs : Array Value} {t : TypeId} {fz : Nat × Nat} (h : w.ownsRow B e size v n xs) (hb : w.heap[wb]? = some (.cells cs t fz)) (he : t ≠ e) : v.ownBlock ≠ some wb := by
  intro hg
  obtain ⟨c, hc⟩ := row_blk h hg
  rw [hb] at hc
  injection hc with hc
  injection hc with _ h2 _
  exact he h2
theorem row_keep {e : TypeId} {size : Nat} {v : Value} {n : Nat} {xs : List Value} {M : List Nat} (h : w.ownsRow B e size v n xs) (k : Chg M w w') (hM : ∀ g, v.ownBlock = some g → ¬ g ∈ M) : w'.ownsRow B e size v n xs :=
  ownsRow_blk h fun g hg => k.block g (h.lt g hg).2 (hM g hg)
theorem row_some {e : TypeId} {size : Nat} {v : Value} {n : Nat} {xs : List Value} (h : w.ownsRow B e size v n xs) (hn : 0 < n) : ∃ g cap, v = .slice (some ⟨g, 0, none⟩) n cap ∧ B ≤ g := by
  rcases h.2 with ⟨rfl, h0⟩ | ⟨g', cap, cur, rfl, hb, _⟩
  · omega
  · exact ⟨g', cap, rfl, hb⟩
theorem row_cell {e : TypeId} {size : Nat} {n cap g : Nat} {xs : List Value} (h : w.ownsRow B e size (.slice (some ⟨g, 0, none⟩) n cap) n xs) {j : Nat} {u : Value} (hu : xs[j]? = some u) : w.cell? ⟨g, j, none⟩ = some u := by
  have := h.cells (g := g) rfl j u hu
  rw [addr_add, Nat.zero_add] at this
  exact this
theorem at_set {l : List NP} {k i : Nat} {a : NP} (hk : k < l.length) : (l.set k a).getD i default = if i = k then a else l.getD i default := by
  rw [List.getD_eq_getElem?_getD, List.getD_eq_getElem?_getD, List.getElem?_set]
  by_cases h : k = i
  · subst h; simp [hk]
  · rw [if_neg h, if_neg (fun e => h e.symm)]
theorem ptrs_set {l : List NP} {k : Nat} {a : NP} (hk : k < l.length) (hb : a.b = (l.getD k default).b) : ptrs (l.set k a) = ptrs l := by
  unfold ptrs
  apply List.ext_getElem?
  intro i
  rw [List.getElem?_map, List.getElem?_map, List.getElem?_set]
  by_cases h : k = i
  · subst h
    rw [List.getD_eq_getElem?_getD, List.getElem?_eq_getElem hk] at hb
    simp [hk, hb]
  · rw [if_neg h]
theorem WX.gs (h : WX B w wb X R) {i j : Nat} (hi : i < X.ns.length) (hj : j < X.ns.length) : GsOut w (X.at i).S.va (X.at i).S.vs (X.at j).L := by
  obtain ⟨g, cap, e, _⟩ := row_some h.vrow (by have := h.m1; omega)
  obtain ⟨c, e2⟩ := h.va i hi
  rw [e] at e2
  injection e2 with e3 _ e4
  intro y hy
  rw [h.vs i hi] at hy ⊢
  rw [vsL_len] at hy
  refine ⟨g, 0, e3.symm, fun hm => (h.out j hj g hm).2.2 R.vv (by simp [RV.all]) (by rw [e]; rfl), ?_⟩
  have hr := h.vrow
  rw [e] at hr
  have := row_cell hr (j := y) (u := .int .i64 ((vsL X.ns.length).getD y 0)) (by
    rw [List.getElem?_map, List.getD_eq_getElem?_getD, List.getElem?_eq_getElem (by rw [vsL_len]; exact hy)]
    rfl)
  rw [Nat.zero_add]
  exact this
theorem WX.gl (h : WX B w wb X R) {i : Nat} (hi : i < X.ns.length) (w2 : World) (L : List Nat) : GsOut w2 (X.at i).S.la (X.at i).S.ls L := by
  intro y hy
  rw [h.ls i hi] at hy
  simp at hy
/-- What was done left the rows, and one node has gone on. -/
theorem WX.move (h : WX B w wb X R) {k : Nat} (hk : k < X.ns.length) {S' : Nd} {L' : List Nat} (hN : NodeAt w' (X.at k).b S' L') (kc : Chg (X.at k).L w w') (hL : ∀ x, x ∈ L' → x ∈ (X.at k).L ∨ w.heap.size ≤ x) (sg : SameG (X.at k).S S') : WX B w' wb { X with ns := X.ns.set k ⟨(X.at k).b, S', L'⟩ } R := by
  have hlen : (X.ns.set k ⟨(X.at k).b, S', L'⟩).length = X.ns.length := by simp
  have hrow : ∀ v, v ∈ R.all → ∀ g, v.ownBlock = some g → ¬ g ∈ (X.at k).L := fun v hv g hg hm => (h.out k hk g hm).2.2 v hv hg
  have hwb : ¬ wb ∈ (X.at k).L := fun hm => (h.out k hk wb hm).2.1 rfl
  have hat : ∀ i, ({ X with ns := X.ns.set k ⟨(X.at k).b, S', L'⟩ } : GX).at i = if i = k then ⟨(X.at k).b, S', L'⟩ else X.at i := fun i => at_set hk
  have hfresh : ∀ x, w.heap.size ≤ x → B ≤ x ∧ x ≠ wb ∧ ∀ v, v ∈ R.all → v.ownBlock ≠ some x := fun x hx => by
    have h1 := blk_lt h.blk
    have h2 := h.hB
    refine ⟨by omega, by omega, fun v hv hg => ?_⟩
    simp only [RV.all, List.mem_cons, List.not_mem_nil, or_false] at hv
    rcases hv with rfl | rfl | rfl | rfl | rfl
    · have := (h.vrow.lt x hg).2; omega
    · have := (h.nrow.lt x hg).2; omega
    · have := (h.lrow.lt x hg).2; omega
    · have := (h.srow.lt x hg).2; omega
    · have := (h.drow.lt x hg).2; omega
  refine ⟨kc.blk h.blk hwb, h.hB, ?_, ?_, ?_, row_keep h.srow kc (hrow _ (by simp [RV.all])), row_keep h.drow kc (hrow _ (by simp [RV.all])), ?_, ?_, ?_, ?_, ?_, ?_, ?_, ?_, ?_⟩
  · rw [hlen]; exact row_keep h.vrow kc (hrow _ (by simp [RV.all]))
  · show w'.ownsRow B _ 1 R.nv (X.ns.set k ⟨(X.at k).b, S', L'⟩).length (ptrs (X.ns.set k ⟨(X.at k).b, S', L'⟩))
    rw [hlen, ptrs_set (a := ⟨(X.at k).b, S', L'⟩) hk rfl]; exact row_keep h.nrow kc (hrow _ (by simp [RV.all]))
  · rw [hlen]; exact row_keep h.lrow kc (hrow _ (by simp [RV.all]))
  · rw [hlen]; exact h.m1
  · rw [hlen]; exact h.m7
  · rw [hlen]; exact h.ll
  · intro i hi
    rw [hlen] at hi
    rw [hat]
    by_cases e : i = k
    · rw [if_pos e]; exact hN
    · rw [if_neg e]
      obtain ⟨m, es, clock, yv, nv, hx⟩ := h.node i hi
      exact ⟨m, es, clock, yv, nv, hx.keep kc (fun x hm _ => h.dis k i hk hi (Ne.symm e) x hm) (h.gs hi hk) (h.gl hi w _)⟩
  · intro i hi
    rw [hlen] at hi ⊢
    rw [hat]
    by_cases e : i = k
    · rw [if_pos e]; exact sg.1.trans (h.vs k hk)
    · rw [if_neg e]; exact h.vs i hi
  · intro i hi
    rw [hlen] at hi ⊢
    rw [hat]
    by_cases e : i = k
    · rw [if_pos e]
      obtain ⟨c, e2⟩ := h.va k hk
      exact ⟨c, by rw [e2]; show _ = Value.slice S'.va _ _; rw [sg.2.1]⟩
    · rw [if_neg e]; exact h.va i hi
  · intro i hi
    rw [hlen] at hi
    rw [hat]
    by_cases e : i = k
    · rw [if_pos e]; exact sg.2.2.1.trans (h.ls k hk)
    · rw [if_neg e]; exact h.ls i hi
  · intro i j hi hj hij x hx
    rw [hlen] at hi hj
    rw [hat] at hx
    rw [hat]
    by_cases e : i = k
    · rw [if_pos e] at hx
      rw [if_neg (fun e2 => hij (e.trans e2.symm))]
      rcases hL x hx with h1 | h1
      · exact h.dis k j hk hj (fun e2 => hij (e.trans e2)) x h1
      · intro hm
        have := (h.node j hj).low x hm
        omega
    · rw [if_neg e] at hx
      by_cases e2 : j = k
      · rw [if_pos e2]
        intro hm
        rcases hL x hm with h1 | h1
        · exact h.dis i k hi hk e x hx h1
        · have := (h.node i hi).low x hx
          omega
      · rw [if_neg e2]; exact h.dis i j hi hj hij x hx
  · intro i hi x hx
    rw [hlen] at hi
    rw [hat] at hx
    by_cases e : i = k
    · rw [if_pos e] at hx
      rcases hL x hx with h1 | h1
      · exact h.out k hk x h1
      · exact hfresh x h1
    · rw [if_neg e] at hx; exact h.out i hi x hx
theorem WX.below (h : WX B w wb X R) (k : Below w.heap.size w w') : WX B w' wb X R :=
  ⟨blk_below h.blk k (blk_lt h.blk), h.hB, own_keep h.vrow k, own_keep h.nrow k, own_keep h.lrow k, own_keep h.srow k, own_keep h.drow k, h.m1, h.m7, h.ll, fun i hi => (h.node i hi).below k, h.vs, h.va, h.ls, h.dis, h.out⟩
/-- One row has grown, and the world has its new value. -/
theorem WX.grow (h : WX B w wb X R) {R' : RV} {X' : GX} {old v' : Value} {w2 : World} (hg : w.grownBy w2 old.ownBlock) (hat : v'.ownBlock = old.ownBlock ∨ ∃ g, v'.ownBlock = some g ∧ w.heap.size ≤ g) (i : Nat) (ho : old = R.sv ∨ old = R.dv)
    (hR : (wldC R).setIfInBounds i v' = wldC R') (hall : ∀ v, v ∈ R'.all → v ∈ R.all ∨ v = v') (hns : X'.ns = X.ns) (hlogs : X'.logs = X.logs)
    (hwb : old.ownBlock ≠ some wb)
    (r1 : (w2.setCell ⟨wb, i, none⟩ v').ownsRow B 3 1 R'.vv X.ns.length ((vsL X.ns.length).map (.int .i64)))
    (r2 : (w2.setCell ⟨wb, i, none⟩ v').ownsRow B 25 1 R'.nv X.ns.length (ptrs X.ns))
    (r3 : (w2.setCell ⟨wb, i, none⟩ v').ownsRow B 42 2 R'.lv X.ns.length (pairsC X.logs))
    (r4 : (w2.setCell ⟨wb, i, none⟩ v').ownsRow B 44 7 R'.sv X'.sent.length (balsC X'.sent))
    (r5 : (w2.setCell ⟨wb, i, none⟩ v').ownsRow B 23 2 R'.dv X'.leads.length (pairsC X'.leads))
    (hvv : R'.vv = R.vv) : WX B (w2.setCell ⟨wb, i, none⟩ v') wb X' R' := by
  obtain ⟨ns', logs', sent', leads'⟩ := X'
  simp only at hns hlogs
  subst hns
  subst hlogs
  have hoa : old ∈ R.all := by rcases ho with rfl | rfl <;> simp [RV.all]
  have hM : Chg (old.ownBlock.toList ++ [wb]) w (w2.setCell ⟨wb, i, none⟩ v') := ((Chg.refl _ w).grown hg (fun k hk => .inl (by simp [hk]))).set (.inl (by simp)) _
  have hb2 : w2.heap[wb]? = some (.cells (wldC R) 56 (0, 0)) := (hg.block wb (blk_lt h.blk) (Ne.symm hwb)).trans h.blk
  have hLM : ∀ j, j < X.ns.length → ∀ x, x ∈ old.ownBlock.toList ++ [wb] → ¬ x ∈ (X.at j).L := fun j hj x hx hm => by
    obtain ⟨_, h2, h3⟩ := h.out j hj x hm
    rcases List.mem_append.1 hx with hx | hx
    · exact h3 old hoa (by simpa using hx)
    · exact h2 (List.mem_singleton.1 hx)
  refine ⟨?_, h.hB, r1, r2, r3, r4, r5, h.m1, h.m7, h.ll, ?_, h.vs, ?_, h.ls, h.dis, ?_⟩
  · rw [← hR]; exact blk_set hb2 i _
  · intro j hj
    obtain ⟨m, es, clock, yv, nv, hx⟩ := h.node j hj
    refine ⟨m, es, clock, yv, nv, hx.keep hM (fun x hm _ => hLM j hj x hm) ?_ (h.gl hj w _)⟩
    intro y hy
    obtain ⟨g, cap, e, _⟩ := row_some h.vrow (by have := h.m1; omega)
    obtain ⟨b', o', e1, _, hc⟩ := h.gs hj hj y hy
    refine ⟨b', o', e1, fun hm => ?_, hc⟩
    obtain ⟨c, e2⟩ := h.va j hj
    have hob : R.vv.ownBlock = some b' := by rw [e2, e1]; rfl
    rcases List.mem_append.1 hm with hm | hm
    · have hoo : old.ownBlock = some b' := by simpa using hm
      rcases ho with rfl | rfl
      · exact row_ne h.vrow h.srow (by decide) hob hoo
      · exact row_ne h.vrow h.drow (by decide) hob hoo
    · rw [List.mem_singleton.1 hm] at hob
      exact row_wb h.vrow h.blk (by decide) hob
  · intro j hj
    obtain ⟨c, e2⟩ := h.va j hj
    exact ⟨c, hvv.trans e2⟩
  · intro j hj x hx
    obtain ⟨h1, h2, h3⟩ := h.out j hj x hx
    refine ⟨h1, h2, fun v hv hg => ?_⟩
    rcases hall v hv with h4 | rfl
    · exact h3 v h4 hg
    · rcases hat with h5 | ⟨g, h5, h6⟩
      · exact h3 old hoa (by rw [← h5]; exact hg)
      · rw [hg] at h5
        injection h5 with h5
        have := (h.node j hj).low x hx
        omega
theorem row_far {e : TypeId} {size : Nat} {v : Value} {n : Nat} {xs : List Value} {w2 : World} {row : Option Nat} (h : w.ownsRow B e size v n xs) (hg : w.grownBy w2 row) (h1 : ∀ g, v.ownBlock = some g → row ≠ some g) (hwb : v.ownBlock ≠ some wb) (i : Nat) (u : Value) : (w2.setCell ⟨wb, i, none⟩ u).ownsRow B e size v n xs :=
  ownsRow_blk (ownsRow_blk h fun g hh => hg.block g (h.lt g hh).2 (fun e => h1 g hh e.symm)) fun g hh => Below.heap_setCell _ _ _ _ (fun e => hwb (by rw [hh, e]))
theorem row_new {e : TypeId} {size : Nat} {v old : Value} {n n' : Nat} {xs xs' : List Value} {w2 : World} (ho : w.ownsRow B e size old n xs) (h : w2.ownsRow B e size v n' xs') (hwb : old.ownBlock ≠ some wb) (hl : wb < w.heap.size) (hat : v.ownBlock = old.ownBlock ∨ ∃ g, v.ownBlock = some g ∧ w.heap.size ≤ g) (i : Nat) (u : Value) : (w2.setCell ⟨wb, i, none⟩ u).ownsRow B e size v n' xs' :=
  ownsRow_blk h fun g hh => Below.heap_setCell _ _ _ _ (fun e => by
    have e' : g = wb := e
    subst e'
    rcases hat with h5 | ⟨g', h5, h6⟩
    · exact hwb (by rw [← h5]; exact hh)
    · rw [hh] at h5
      injection h5 with h5
      omega)
theorem WX.sentMore (h : WX B w wb X R) {out : List Bal} {v' : Value} {w2 : World} (hown : w2.ownsRow B 44 7 v' (X.sent.length + out.length) (balsC X.sent ++ balsC out)) (hg : w.grownBy w2 R.sv.ownBlock) (hat : v'.ownBlock = R.sv.ownBlock ∨ ∃ g, v'.ownBlock = some g ∧ w.heap.size ≤ g) :
    WX B (w2.setCell ⟨wb, 4, none⟩ v') wb { X with sent := X.sent ++ out } { R with sv := v' } := by
  have hwb := row_wb h.srow h.blk (by decide)
  exact h.grow hg hat 4 (.inl rfl) rfl (fun v hv => by
    simp only [RV.all, List.mem_cons, List.not_mem_nil, or_false] at hv ⊢
    rcases hv with h | h | h | h | h <;> simp [h]) rfl rfl hwb
    (row_far h.vrow hg (fun g hh => row_ne h.vrow h.srow (by decide) hh) (row_wb h.vrow h.blk (by decide)) _ _)
    (row_far h.nrow hg (fun g hh => row_ne h.nrow h.srow (by decide) hh) (row_wb h.nrow h.blk (by decide)) _ _)
    (row_far h.lrow hg (fun g hh => row_ne h.lrow h.srow (by decide) hh) (row_wb h.lrow h.blk (by decide)) _ _)
    (row_new h.srow (by
      show w2.ownsRow B 44 7 v' (X.sent ++ out).length (balsC (X.sent ++ out))
      rw [List.length_append, show balsC (X.sent ++ out) = balsC X.sent ++ balsC out by simp [balsC]]
      exact hown) hwb (blk_lt h.blk) hat _ _)
    (row_far h.drow hg (fun g hh => row_ne h.drow h.srow (by decide) hh) (row_wb h.drow h.blk (by decide)) _ _) rfl
theorem WX.leadMore (h : WX B w wb X R) {x : Int × Int} {v' : Value} {w2 : World} (hown : w2.ownsRow B 23 2 v' (X.leads.length + 1) (pairsC X.leads ++ pairC x)) (hg : w.grownBy w2 R.dv.ownBlock) (hat : v'.ownBlock = R.dv.ownBlock ∨ ∃ g, v'.ownBlock = some g ∧ w.heap.size ≤ g) :
    WX B (w2.setCell ⟨wb, 5, none⟩ v') wb { X with leads := X.leads ++ [x] } { R with dv := v' } := by
  have hwb := row_wb h.drow h.blk (by decide)
  exact h.grow hg hat 5 (.inr rfl) rfl (fun v hv => by
    simp only [RV.all, List.mem_cons, List.not_mem_nil, or_false] at hv ⊢
    rcases hv with h | h | h | h | h <;> simp [h]) rfl rfl hwb
    (row_far h.vrow hg (fun g hh => row_ne h.vrow h.drow (by decide) hh) (row_wb h.vrow h.blk (by decide)) _ _)
    (row_far h.nrow hg (fun g hh => row_ne h.nrow h.drow (by decide) hh) (row_wb h.nrow h.blk (by decide)) _ _)
    (row_far h.lrow hg (fun g hh => row_ne h.lrow h.drow (by decide) hh) (row_wb h.lrow h.blk (by decide)) _ _)
    (row_far h.srow hg (fun g hh => row_ne h.srow h.drow (by decide) hh) (row_wb h.srow h.blk (by decide)) _ _)
    (row_new h.drow (by
      show w2.ownsRow B 23 2 v' (X.leads ++ [x]).length (pairsC (X.leads ++ [x]))
      rw [List.length_append, show pairsC (X.leads ++ [x]) = pairsC X.leads ++ pairC x by simp [pairsC]]
      exact hown) hwb (blk_lt h.blk) hat _ _) rfl
end
end Go.Proofs.Ytiamfdnllpiikaa
