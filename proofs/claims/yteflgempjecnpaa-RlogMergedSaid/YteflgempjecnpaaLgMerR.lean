/- RlogMerged's walk as the row wants it. Conditions: none. -/
import Derived.Test.YteflgempjecnpaaLgMerW
import Derived.SizedLaws
namespace Go.Proofs.Yteflgempjecnpaa
open Go.RowKit
theorem Try.bytesStep : Try.prog.bytesOf 35 = 48 := by kernel_rfl
/-- The form's own reach: how many steps there may be. -/
theorem sts_room {H : Type} {ts : List TypeId} {d : DataW H} {ds : List (DataW H)} {n : Nat} (hsz : (DataW.weightsEach Try.prog (32 :: ts) (d :: ds)).all (· ≤ reachBytes) = true)
    (hd : (d = .nil ∧ n = 0) ∨ ∃ es sp, d = .slice es sp ∧ es.length = n) : n * 48 ≤ 140737488351232 := by
  rcases hd with ⟨_, h⟩ | ⟨es, sp, rfl, h⟩
  · omega
  · have h1 := sized_slice hsz (j := 0) (t := 32) (e := 35) rfl rfl Try.underlying32
    rw [Try.bytesStep] at h1
    unfold reachBytes at h1
    rw [Nat.add_mul] at h1
    rw [← h]
    omega
theorem rlogMerged_row (p : StsV) (s : StV) (W : World) (hp : p.At W) (hs : s.At W) (hroom : p.l.length * 48 ≤ 140737488351232) :
    Calls Try.prog 5 #[.slice p.a p.l.length p.c, .agg s.c.toArray] W fun e w' => e = .returned (.bool true) ∧ Below W.heap.size W w' :=
  rlogMerged_at p s W hp hs hroom
end Go.Proofs.Yteflgempjecnpaa
