/- flight: empty. Conditions: none. -/
import Derived.Test.YtmnoacjmdnmddaaDoorAid
import Derived.BigRegion
namespace Go.Proofs.YtmnoacjmdnmddaaDoor
open Go.RowKit Go.Maps
theorem Tryd.intInfo : (Tryd.prog.info? 3).map (fun i => (i.zero, i.size, i.bytes)) = some (some (.int .i64 0), 1, 8) := by kernel_rfl
theorem int_parts : ∃ i0, Tryd.prog.info? 3 = some i0 ∧ i0.zero = some (.int .i64 0) ∧ i0.size = 1 ∧ i0.bytes = 8 := by
  have h := Tryd.intInfo
  obtain ⟨i0, hi, e⟩ := Option.map_eq_some_iff.1 h
  injection e with e1 e2
  injection e2 with e2 e3
  exact ⟨i0, hi, e1, e2, e3⟩
def EmptyAt (w : World) (num rows : Int) (gv lv : Value) (n : Nat) (cz : Array Value) (e : Ending) (w' : World) : Prop :=
  ∃ p hb ob sb : Nat, e = .returned (.pointer (some ⟨p, 0, none⟩)) ∧ w'.heap[p]? = some (.cells #[.int .i64 num, .int .i64 rows, gv, lv, .slice (some ⟨sb, 0, none⟩) n n, .map (some hb), .map (some ob)] 63 (0, 0)) ∧
    w'.heap[hb]? = some (.map #[] 0) ∧ w'.heap[ob]? = some (.map #[] 0) ∧ w'.heap[sb]? = some (.cells cz 3 (0, 0)) ∧ hb ≠ ob ∧ (w.heap.size ≤ p ∧ w.heap.size ≤ hb ∧ w.heap.size ≤ ob ∧ w.heap.size ≤ sb) ∧ Below w.heap.size w w'
theorem em_fin (w : World) (o0 o1 o2 o3 o4 : Obj) :
    ((((((w.alloc o0).alloc o1).alloc o2).alloc o3).alloc o4).drew).heap[w.heap.size + 1]? = some o1 ∧ ((((((w.alloc o0).alloc o1).alloc o2).alloc o3).alloc o4).drew).heap[w.heap.size + 1 + 1]? = some o2 ∧
    ((((((w.alloc o0).alloc o1).alloc o2).alloc o3).alloc o4).drew).heap[w.heap.size + 1 + 1 + 1]? = some o3 ∧ ((((((w.alloc o0).alloc o1).alloc o2).alloc o3).alloc o4).drew).heap[w.heap.size + 1 + 1 + 1 + 1]? = some o4 ∧
    Below w.heap.size w ((((((w.alloc o0).alloc o1).alloc o2).alloc o3).alloc o4).drew) := by
  have s0 : (w.alloc o0).heap.size = w.heap.size + 1 := by simp only [World.size_alloc]
  have s1 : ((w.alloc o0).alloc o1).heap.size = w.heap.size + 1 + 1 := by simp only [World.size_alloc]
  have s2 : (((w.alloc o0).alloc o1).alloc o2).heap.size = w.heap.size + 1 + 1 + 1 := by simp only [World.size_alloc]
  have s3 : ((((w.alloc o0).alloc o1).alloc o2).alloc o3).heap.size = w.heap.size + 1 + 1 + 1 + 1 := by simp only [World.size_alloc]
  exact ⟨blk_alloc (blk_alloc (blk_alloc (blk_new _ o1 s0.symm) o2) o3) o4, blk_alloc (blk_alloc (blk_new _ o2 s1.symm) o3) o4, blk_alloc (blk_new _ o3 s2.symm) o4, blk_new _ o4 s3.symm,
    (bl_alloc (bl_alloc (bl_alloc (bl_alloc (bl_alloc (Below.refl w.heap.size w) o0) o1) o2) o3) o4).drew⟩
theorem em_go {w : World} {o0 o1 o2 o3 : Obj} {num rows : Int} {gv lv : Value} {n : Nat} {cz : Array Value} {hb ob sb : Nat}
    (hs : ∀ W : World, W.heap[w.heap.size + 1]? = some o1 → W.heap[w.heap.size + 1 + 1]? = some o2 → W.heap[w.heap.size + 1 + 1 + 1]? = some o3 → W.heap[hb]? = some (.map #[] 0) ∧ W.heap[ob]? = some (.map #[] 0) ∧ W.heap[sb]? = some (.cells cz 3 (0, 0)))
    (hne : hb ≠ ob) (h1 : w.heap.size ≤ hb) (h2 : w.heap.size ≤ ob) (h3 : w.heap.size ≤ sb) :
    EmptyAt w num rows gv lv n cz (.returned (.pointer (some ⟨w.heap.size + 1 + 1 + 1 + 1, 0, none⟩))) ((((((w.alloc o0).alloc o1).alloc o2).alloc o3).alloc (.cells #[.int .i64 num, .int .i64 rows, gv, lv, .slice (some ⟨sb, 0, none⟩) n n, .map (some hb), .map (some ob)] 63 (0, 0))).drew) := by
  obtain ⟨a1, a2, a3, a4, a5⟩ := em_fin w o0 o1 o2 o3 (.cells #[.int .i64 num, .int .i64 rows, gv, lv, .slice (some ⟨sb, 0, none⟩) n n, .map (some hb), .map (some ob)] 63 (0, 0))
  obtain ⟨b1, b2, b3⟩ := hs _ a1 a2 a3
  exact ⟨_, hb, ob, sb, rfl, a4, b1, b2, b3, hne, ⟨by omega, h1, h2, h3⟩, a5⟩
set_option maxRecDepth 100000 in
set_option maxHeartbeats 4000000 in
theorem empty_at (num rows : Int) (ga : Option Addr) (gn gc : Nat) (la : Option Addr) (n lc : Nat) (w : World) (hn : n ≤ 8) :
    Calls Tryd.prog 20 #[.int .i64 num, .agg #[.int .i64 rows, .slice ga gn gc], .slice la n lc] w (EmptyAt w num rows (.slice ga gn gc) (.slice la n lc) n (madeCells (Value.int .i64 0).cells (n * 1))) := by
  obtain ⟨i0, hi, hz0, hz1, hz2⟩ := int_parts
  have hmk : ∀ W : World, (Instr.makeSlice 22 (.int .i64 n) (.int .i64 n)).run Tryd.prog W = .ok (.slice (some ⟨W.heap.size, 0, none⟩) n n) (W.alloc (.cells (madeCells (Value.int .i64 0).cells (n * 1)) 3)) := fun W => by
    have := run_make (P := Tryd.prog) W 22 3 i0 (.int .i64 0) Tryd.underlying22 hi hz0 .i64 .i64 n n (by omega) (by omega) (by rw [hz2]; omega) (by omega)
    rw [hz1] at this
    simpa using this
  obtain ⟨cz, hcz⟩ : ∃ cz, cz = madeCells (Value.int .i64 0).cells (n * 1) := ⟨_, rfl⟩
  rw [← hcz] at hmk ⊢
  have hmm := @run_makeMap Tryd.prog
  have h0 : (0 : Int) ≤ (n : Int) := by omega
  clear hi hz0 hz1 hz2 hcz
  go_enter Tryd.func20, Tryd.ntmps20
  go_wp2_with fail
  go_region
  all_goals
    go_wp2_with fail
    go_ret
    exact em_go (fun W c1 c2 c3 => by first | exact ⟨c1, c2, c3⟩ | exact ⟨c1, c3, c2⟩ | exact ⟨c2, c1, c3⟩ | exact ⟨c2, c3, c1⟩ | exact ⟨c3, c1, c2⟩ | exact ⟨c3, c2, c1⟩) (by omega) (by omega) (by omega) (by omega)
end Go.Proofs.YtmnoacjmdnmddaaDoor
