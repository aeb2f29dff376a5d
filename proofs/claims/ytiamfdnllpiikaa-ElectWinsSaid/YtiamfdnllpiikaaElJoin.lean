/- elect: Join. Conditions: none. -/
import Derived.Test.YtiamfdnllpiikaaElHeard
namespace Go.Proofs.Ytiamfdnllpiikaa
open Go.RowKit

theorem NodeX.rego {w w' : World} {b : Nat} {S : Nd} {L : List Nat} {m clock : Nat} {es : Array MapEntry} {yv nv : Value} (h : NodeX w b S L m es clock yv nv) {S' : Nd} (k : Chg [b] w w') (hb : w'.heap[b]? = some (.cells (nodeC S' m) 74 (0, 0)))
    (hv : GsOut w S'.va S'.vs L) (hl : GsOut w S'.la S'.ls L) (hvm : S'.vs.length ≤ maxLen) (hlm : S'.ls.length ≤ maxLen) (h3 : S'.yes = S.yes) (h4 : S'.no = S.no) : NodeX w' b S' L m es clock yv nv := by
  have hkL : Chg L w w' := k.up h.inb
  have hown : ∀ {v : Value} {xs : List Int}, Own w v xs L → Own w' v xs L := fun {v xs} ho => ho.keep fun g hg => by
    obtain ⟨cur, hc⟩ := ho.cells hg
    exact k.block g (blk_lt hc) (fun hm => (h.own_ne ho hg).1 (List.mem_singleton.1 hm))
  exact ⟨hb, hv.keep hkL, hl.keep hkL, hvm, hlm, k.blk h.map (fun hm => h.bm (List.mem_singleton.1 hm).symm), h.keys, h.gy, h.gn, by rw [h3]; exact hown h.yes, by rw [h4]; exact hown h.no, h.apart, h.inb, h.inm, by rw [h3]; exact h.yl, by rw [h4]; exact h.nl, fun x hx => Nat.lt_of_lt_of_le (h.low x hx) k.size⟩
def JoinEnd (w : World) (b : Nat) (S : Nd) (L : List Nat) (r : Nd × Int) (e : Ending) (w' : World) : Prop := e = .returned (.int .i64 r.2) ∧ Moves w b r.1 L w'
set_option maxRecDepth 100000 in
set_option maxHeartbeats 2000000 in
theorem join_at {b : Nat} {S : Nd} {L : List Nat} {w : World} (h : NodeAt w b S L) (vs ls : List Int) (va : Option Addr) (vc : Nat) (la : Option Addr) (lc : Nat)
    (hv : GsOut w va vs L) (hl : GsOut w la ls L) (hvm : vs.length ≤ maxLen) (hlm : ls.length ≤ maxLen) :
    Calls Try.prog 27 #[.pointer (some ⟨b, 0, none⟩), .agg #[.slice va vs.length vc, .slice la ls.length lc]] w fun e w' => JoinEnd w b S L (S.join vs ls va vc la lc) e w' := by
  have hb0 := bl_alloc (Below.refl w.heap.size w) (.cells #[.slice va vs.length vc, .slice la ls.length lc] 31)
  have HN0 := Lib.hid (h.below hb0)
  have hblk := blk_new w (.cells #[.slice va vs.length vc, .slice la ls.length lc] 31) rfl
  have hvo := hv.keep (Chg.of_below hb0)
  have hlo := hl.keep (Chg.of_below hb0)
  obtain ⟨w0, hw0⟩ : ∃ w0, w0 = w.alloc (.cells #[.slice va vs.length vc, .slice la ls.length lc] 31) := ⟨_, rfl⟩
  rw [← hw0] at hb0 HN0 hblk hvo hlo
  have HW0 := Lib.hid hw0
  have HB0 := Lib.hid hb0
  have HR := Lib.hid (fun (W : World) (h : Below w0.heap.size w0 W) => qright_at va la vs ls vc lc W (hvo.at_.keep h) (hlo.at_.keep h) hvm hlm)
  have c0 := fun W (h : Below w0.heap.size w0 W) => blk_cell (blk_below hblk h (blk_lt hblk)) 0
  have c1 := fun W (h : Below w0.heap.size w0 W) => blk_cell (blk_below hblk h (blk_lt hblk)) 1
  simp only [List.getElem?_toArray, List.getElem?_cons_zero, List.getElem?_cons_succ] at c0 c1
  have hb := Below.refl w0.heap.size w0
  clear hw0 hb0
  by_cases hr : rightG vs ls = true
  · rw [hr] at HR
    have HS := Lib.hid (show S.join vs ls va vc la lc = ({ S with vs := vs, ls := ls, va := va, vc := vc, la := la, lc := lc }, 0) by unfold Nd.join; rw [if_pos hr])
    clear hr
    go_enter Try.func27, Try.ntmps27
    go_wp2_with fail
    rw [← HW0.out]
    refine (HR.out _ hb).mono ?_; rintro e w2 ⟨rfl, hb2⟩
    have HN := Lib.hid (HN0.out.below hb2)
    have HB2 := Lib.hid hb2
    obtain ⟨m, es, clock, yv, nv, hx⟩ := HN0.out.below hb2
    have d0 := c0 w2 hb2
    have d1 := c1 w2 hb2
    clear c0 c1 hb hb2
    have HX := Lib.hid hx
    have c0 := hx.cell 0
    have c1 := hx.cell 1
    have c2 := hx.cell 2
    have c3 := hx.cell 3
    have c4 := hx.cell 4
    have c5 := hx.cell 5
    have c6 := hx.cell 6
    have c7 := hx.cell 7
    have c8 := hx.cell 8
    have c9 := hx.cell 9
    have c10 := hx.cell 10
    have fz := hx.frozen
    simp only [nodeC, List.getElem?_toArray, List.getElem?_cons_zero, List.getElem?_cons_succ] at c0 c1 c2 c3 c4 c5 c6 c7 c8 c9 c10
    clear hx
    go_wp2_with fail
    go_ret
    refine ⟨by rw [HS.out]; rfl, ?_⟩
    rw [HS.out]
    have k1 : Chg [b] w2 ((w2.setCell ⟨b, 4, none⟩ (.slice va vs.length vc)).setCell ⟨b, 5, none⟩ (.slice la ls.length lc)) := ((Chg.refl _ w2).set (by simp) _).set (by simp) _
    have h1 := HX.out.rego (S' := { S with vs := vs, ls := ls, va := va, vc := vc, la := la, lc := lc }) k1 (blk_set (blk_set HX.out.blk 4 _) 5 _) (hvo.keep (.of_below HB2.out)) (hlo.keep (.of_below HB2.out)) hvm hlm rfl rfl
    obtain ⟨k3, hL3⟩ := Moves.trans (L := L) (.of_below (bl_trans HB0.out HB2.out)) (fun x hx => .inl hx) (k1.up HX.out.inb) (fun x hx => .inl hx)
    exact ⟨L, ⟨m, es, clock, yv, nv, h1⟩, k3, hL3⟩
  · rw [eq_false_of_ne_true hr] at HR
    have HS := Lib.hid (show S.join vs ls va vc la lc = (S, 1) by unfold Nd.join; rw [if_neg hr])
    clear hr
    go_enter Try.func27, Try.ntmps27
    go_wp2_with fail
    rw [← HW0.out]
    refine (HR.out _ hb).mono ?_; rintro e w2 ⟨rfl, hb2⟩
    replace hb := bl_trans hb hb2; clear hb2
    go_wp2_with fail
    go_ret
    refine ⟨by rw [HS.out]; rfl, ?_⟩
    rw [HS.out]
    exact ⟨L, HN0.out.below hb, .of_below (bl_trans HB0.out hb), fun x hx => .inl hx⟩
end Go.Proofs.Ytiamfdnllpiikaa
