/- Two lists of ballots compared; what both nodes keep. Conditions: none. -/
import Derived.Test.YtiamfdnllpiikaaElRefF
import Derived.Test.YtiamfdnllpiikaaElSane
import Derived.Test.YtiamfdnllpiikaaOpenEl
namespace Go.Proofs.Ytiamfdnllpiikaa
open Go.RowKit

theorem balsC_get : ∀ {l : List Bal} {i : Nat}, i < l.length → ∀ {j : Nat} {u : Value}, (balC (l.getD i default))[j]? = some u → (balsC l)[i * 7 + j]? = some u
  | [], i, h, _, _, _ => by simp at h
  | x :: r, i, h, j, u, hu => by
    have hl : ∀ y : Bal, (balC y).length = 7 := fun _ => rfl
    have hj : j < 7 := by
      have := (List.getElem?_eq_some_iff.1 hu).1
      rw [hl] at this
      exact this
    show (balC x ++ balsC r)[i * 7 + j]? = some u
    cases i with
    | zero =>
      rw [Nat.zero_mul, Nat.zero_add, List.getElem?_append_left (by rw [hl]; exact hj)]
      simpa using hu
    | succ i =>
      rw [List.getElem?_append_right (by rw [hl]; omega), hl, show (i + 1) * 7 + j - 7 = i * 7 + j by omega]
      exact balsC_get (by simpa using h) (by simpa using hu)
theorem Bals.read {w0 w : World} {v : Value} {l : List Bal} (h : Bals w0 w v l) : ∃ ad cap, v = .slice ad l.length cap ∧ ItemsAt w ad l.length 7 (fun i => balC (l.getD i default)) ∧ l.length ≤ maxLen := by
  have hh := h
  rcases h.2 with ⟨rfl, h0⟩ | ⟨g, cap, cur, rfl, _, _, h1, h2, _⟩
  · exact ⟨none, 0, by rw [h0], fun i hi => by omega, by omega⟩
  · refine ⟨some ⟨g, 0, none⟩, cap, rfl, fun i hi => ⟨g, 0, rfl, fun j u hu => ?_⟩, by omega⟩
    have hc := World.ownsRow.cells hh (g := g) rfl (i * 7 + j) u (balsC_get hi hu)
    have hadd : (⟨g, 0, none⟩ : Addr).add (i * 7 + j) = ⟨g, 0 + i * 7 + j, none⟩ := by rw [addr_add]; simp [Nat.add_assoc]
    rw [← hadd]
    exact hc
set_option maxRecDepth 100000 in
set_option maxHeartbeats 2000000 in
theorem same_at (l : List Bal) (a1 a2 : Option Addr) (c1 c2 : Nat) (w : World) (h1 : ItemsAt w a1 l.length 7 (fun i => balC (l.getD i default))) (h2 : ItemsAt w a2 l.length 7 (fun i => balC (l.getD i default))) (hl : l.length ≤ maxLen) :
    Calls Try.prog 23 #[.slice a1 l.length c1, .slice a2 l.length c2] w fun e w' => e = .returned (.bool true) ∧ Below w.heap.size w w' := by
  have hl' : (l.length : Int) ≤ 9223372036854775807 := by unfold maxLen at hl; omega
  have H1 := Lib.hid h1
  have H2 := Lib.hid h2
  clear h1 h2
  obtain ⟨N, hN⟩ : ∃ N, N = l.length := ⟨_, rfl⟩
  rw [← hN] at hl' hl ⊢
  have HN := Lib.hid hN
  clear hN
  have hb := Below.refl w.heap.size w
  go_enter Try.func23, Try.ntmps23
  go_wp2_with fail
  go_loopg [5] N (fun g i wr => Below w.heap.size w wr ∧ ∃ k : Nat, k ≤ N ∧ g = N - k ∧ i = .int .i64 k)
  case atStart => exact ⟨hb, 0, by omega, by omega, rfl⟩
  case round =>
    clear hb
    obtain ⟨hb, k, k0, hgk, rfl⟩ := hrel
    have HGK := Lib.hid hgk
    clear hgk
    by_cases hk : k < N
    · have hk1 : (k : Int) < N := by omega
      have hk2 : (0 : Int) ≤ (k : Int) := by omega
      obtain ⟨b1, o1, rfl, hc1⟩ := H1.out k (by rw [← HN.out]; exact hk)
      obtain ⟨b2, o2, rfl, hc2⟩ := H2.out k (by rw [← HN.out]; exact hk)
      obtain ⟨x, hx⟩ : ∃ x, x = l.getD k default := ⟨_, rfl⟩
      simp only [← hx] at hc1 hc2
      clear hx
      have p0 : ∀ W, Below w.heap.size w W → W.cell? ⟨b1, o1 + k * 7, none⟩ = some (.int .i64 x.kind) := fun W h => cell_keep h (hc1 0 _ rfl)
      have p1 : ∀ W, Below w.heap.size w W → W.cell? ⟨b1, o1 + k * 7 + 1, none⟩ = some (.int .i64 x.src) := fun W h => cell_keep h (hc1 1 _ rfl)
      have p2 : ∀ W, Below w.heap.size w W → W.cell? ⟨b1, o1 + k * 7 + 2, none⟩ = some (.int .i64 x.dst) := fun W h => cell_keep h (hc1 2 _ rfl)
      have p3 : ∀ W, Below w.heap.size w W → W.cell? ⟨b1, o1 + k * 7 + 3, none⟩ = some (.int .i64 x.term) := fun W h => cell_keep h (hc1 3 _ rfl)
      have p4 : ∀ W, Below w.heap.size w W → W.cell? ⟨b1, o1 + k * 7 + 4, none⟩ = some (.int .i64 x.index) := fun W h => cell_keep h (hc1 4 _ rfl)
      have p5 : ∀ W, Below w.heap.size w W → W.cell? ⟨b1, o1 + k * 7 + 5, none⟩ = some (.int .i64 x.logTerm) := fun W h => cell_keep h (hc1 5 _ rfl)
      have p6 : ∀ W, Below w.heap.size w W → W.cell? ⟨b1, o1 + k * 7 + 6, none⟩ = some (.bool x.yes) := fun W h => cell_keep h (hc1 6 _ rfl)
      have s0 : ∀ W, Below w.heap.size w W → W.cell? ⟨b2, o2 + k * 7, none⟩ = some (.int .i64 x.kind) := fun W h => cell_keep h (hc2 0 _ rfl)
      have s1 : ∀ W, Below w.heap.size w W → W.cell? ⟨b2, o2 + k * 7 + 1, none⟩ = some (.int .i64 x.src) := fun W h => cell_keep h (hc2 1 _ rfl)
      have s2 : ∀ W, Below w.heap.size w W → W.cell? ⟨b2, o2 + k * 7 + 2, none⟩ = some (.int .i64 x.dst) := fun W h => cell_keep h (hc2 2 _ rfl)
      have s3 : ∀ W, Below w.heap.size w W → W.cell? ⟨b2, o2 + k * 7 + 3, none⟩ = some (.int .i64 x.term) := fun W h => cell_keep h (hc2 3 _ rfl)
      have s4 : ∀ W, Below w.heap.size w W → W.cell? ⟨b2, o2 + k * 7 + 4, none⟩ = some (.int .i64 x.index) := fun W h => cell_keep h (hc2 4 _ rfl)
      have s5 : ∀ W, Below w.heap.size w W → W.cell? ⟨b2, o2 + k * 7 + 5, none⟩ = some (.int .i64 x.logTerm) := fun W h => cell_keep h (hc2 5 _ rfl)
      have s6 : ∀ W, Below w.heap.size w W → W.cell? ⟨b2, o2 + k * 7 + 6, none⟩ = some (.bool x.yes) := fun W h => cell_keep h (hc2 6 _ rfl)
      clear hc1 hc2
      go_wp2_with fail
      refine wp_region_in (Below w.heap.size w) (fun _ => false) (by kernel_rfl) (by kernel_rfl) (by exact hb.drew) ?_
      intro hne hx
      replace hb := hb.drew
      refine stg_seg 9 (by dsimp only [List.take]) (by dsimp only [List.drop]) (by rfl) ?_
      repeat (go_big_quiet_step (fail))
      refine wpQuiet_nil ?_
      refine stg_nil ?_
      clear hne hx
      go_wp2_with fail
      go_roundg (N - (k + 1))
      case measure => have := HGK.out; omega
      case rel => exact ⟨hb, k + 1, by omega, rfl, by go_num⟩
    · obtain rfl : k = N := by omega
      go_wp2_with fail
      go_ret
      exact ⟨rfl, hb⟩
theorem rises_le15 : ∀ {xs : List Int} {l : Int}, risesB l xs = true → xs.length = 0 ∨ (l < 15 ∧ (xs.length : Int) ≤ 15 - l)
  | [], _, _ => .inl rfl
  | n :: r, l, h => by
    simp only [risesB, Bool.and_eq_true, decide_eq_true_eq] at h
    obtain ⟨⟨h1, h2⟩, h3⟩ := h
    rcases rises_le15 h3 with h4 | ⟨h4, h5⟩ <;> simp only [List.length_cons] <;> omega
theorem right_len15 {vs ls : List Int} (h : rightG vs ls = true) : vs.length ≤ 15 := by
  unfold rightG at h
  simp only [Bool.and_eq_true] at h
  rcases rises_le15 h.1.1.1 with h4 | ⟨h4, h5⟩ <;> omega
/-- The group's slices are as they were. -/
def SameG (S S' : Nd) : Prop := S'.vs = S.vs ∧ S'.va = S.va ∧ S'.ls = S.ls ∧ S'.la = S.la
theorem SameG.refl (S : Nd) : SameG S S := ⟨rfl, rfl, rfl, rfl⟩
theorem SameG.trans {S S' S'' : Nd} (h : SameG S S') (k : SameG S' S'') : SameG S S'' := ⟨k.1.trans h.1, k.2.1.trans h.2.1, k.2.2.1.trans h.2.2.1, k.2.2.2.trans h.2.2.2⟩
theorem run_g (S : Nd) (last lt : Int) : SameG S (S.run last lt).1 := by
  unfold Nd.run
  split
  · exact ⟨rfl, rfl, rfl, rfl⟩
  · split <;> exact ⟨rfl, rfl, rfl, rfl⟩
theorem says_g (S : Nd) (src : Int) (y : Bool) : SameG S (S.says src y) := by
  unfold Nd.says
  split
  · exact .refl S
  · split <;> exact ⟨rfl, rfl, rfl, rfl⟩
theorem counted_g (S : Nd) (last lt : Int) : SameG S (S.counted last lt).1 := by
  unfold Nd.counted
  split
  · split
    · exact run_g S last lt
    · exact ⟨rfl, rfl, rfl, rfl⟩
  · split
    · exact ⟨rfl, rfl, rfl, rfl⟩
    · exact .refl S
theorem tick_g (S : Nd) (draw last lt : Int) : SameG S (S.tick draw last lt).1 := by
  unfold Nd.tick
  split
  · exact .refl S
  · split
    · exact ⟨rfl, rfl, rfl, rfl⟩
    · split
      · exact SameG.trans ⟨rfl, rfl, rfl, rfl⟩ (run_g _ last lt)
      · exact ⟨rfl, rfl, rfl, rfl⟩
theorem heard_g (S : Nd) (src term : Int) : SameG S (S.heard src term).1 := by
  unfold Nd.heard
  split
  · exact .refl S
  · split <;> exact ⟨rfl, rfl, rfl, rfl⟩
theorem take_g (S : Nd) (x : Bal) (last lt : Int) : SameG S (S.take x last lt).1 := by
  unfold Nd.take
  split
  · exact .refl S
  · split
    · split <;> exact .refl S
    · split
      · split
        · exact ⟨rfl, rfl, rfl, rfl⟩
        · split
          · exact (says_g S _ _).trans (counted_g _ _ _)
          · exact .refl S
      · split
        · have hT : SameG S (if S.term < x.term then S.down x.term else S) := by
            split
            · exact ⟨rfl, rfl, rfl, rfl⟩
            · exact .refl S
          generalize (if S.term < x.term then S.down x.term else S) = T at hT
          simp only
          split
          · exact hT.trans ⟨rfl, rfl, rfl, rfl⟩
          · exact hT
        · split
          · split
            · exact ⟨rfl, rfl, rfl, rfl⟩
            · split
              · exact (says_g S _ _).trans (counted_g _ _ _)
              · exact .refl S
          · exact .refl S
/-- The group's slices, as they lie in an older world. -/
def Grp (w0 : World) (S : Nd) : Prop := GsAt w0 S.va S.vs ∧ GsAt w0 S.la S.ls
theorem Grp.same {w0 : World} {S S' : Nd} (h : Grp w0 S) (g : SameG S S') : Grp w0 S' := by
  obtain ⟨g1, g2, g3, g4⟩ := g
  unfold Grp
  rw [g1, g2, g3, g4]
  exact h
/-- One node has done something: the other one stands. -/
theorem RefAt.keepL {w0 w w' : World} {c : Nat} {S : Nd} {R L : List Nat} (h : RefAt w c S R) (hg : Grp w0 S) (h0 : Below w0.heap.size w0 w) (k : Chg L w w') (hd : ∀ x, x ∈ L → ¬ x ∈ R) (hL : ∀ x, x ∈ L → w0.heap.size ≤ x) : RefAt w' c S R := by
  obtain ⟨yv, nv, hx⟩ := h
  exact ⟨yv, nv, hx.keep k (fun x hm _ => hd x hm) (hg.1.out h0 hL) (hg.2.out h0 hL)⟩
theorem NodeAt.keepR {w0 w w' : World} {b : Nat} {S : Nd} {R L : List Nat} (h : NodeAt w b S L) (hg : Grp w0 S) (h0 : Below w0.heap.size w0 w) (k : Chg R w w') (hd : ∀ x, x ∈ R → ¬ x ∈ L) (hR : ∀ x, x ∈ R → w0.heap.size ≤ x) : NodeAt w' b S L := by
  obtain ⟨m, es, clock, yv, nv, hx⟩ := h
  exact ⟨m, es, clock, yv, nv, hx.keep k (fun x hm _ => hd x hm) (hg.1.out h0 hR) (hg.2.out h0 hR)⟩
theorem join_fit {S : Nd} {k : Int} (h : Sane S k) (vs ls : List Int) (va : Option Addr) (vc : Nat) (la : Option Addr) (lc : Nat) : Sane (S.join vs ls va vc la lc).1 (k + 1) := by
  unfold Nd.join
  split
  · next hr => exact ⟨h.p1, h.p9, h.t0, h.t9, right_len15 hr, h.w0, by have := h.w9; show S.waited ≤ k + 1; omega, by have := h.yl; show (S.yes.length : Int) ≤ _; omega, by have := h.nl; show (S.no.length : Int) ≤ _; omega⟩
  · exact h.more (by omega)
theorem join_grp {w0 : World} {S : Nd} (h : Grp w0 S) {vs ls : List Int} {va : Option Addr} {vc : Nat} {la : Option Addr} {lc : Nat} (hv : GsAt w0 va vs) (hl : GsAt w0 la ls) : Grp w0 (S.join vs ls va vc la lc).1 := by
  unfold Nd.join
  split
  · exact ⟨hv, hl⟩
  · exact h
end Go.Proofs.Ytiamfdnllpiikaa
