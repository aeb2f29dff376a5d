/-
  No cell of these rows narrows 'for every input' (looked for: loops, veiled, ifaces, maps, wideKeys, modest, calm, conditions, laid).
  DERIVED. THE GIVEN ROWS OF THIS SEAT. 6 by the template 'for every input the law returns true; each argument reads behind the call as it read before'; 0 by the template 'total and deterministic' (their statements: YthljeclddlcidaaTotals.lean).
  GIVEN WITH THE SEED: the statements are not yours to turn. If you find one false, say at which input.
  Laid BY PROGRAM, IN A SANDBOX (cutbox-rows.mjs): the forced cells as the released guide's own fill.sh prints them over the translation 91c93e53e03e6e91… (all of the seat's roots in one cut). By AI agents, Wed Nov 11 2026. No macro, syntax, notation, axiom, sorry.
-/
import Derived.Test.YthljeclddlcidaaChecked
import GoSem.Claim
import GoSem.ClaimJoined
import GoSem.ClaimMapViews
import Derived.JoinedTies
import Derived.KernelRfl
namespace Go.Proofs.Ythljeclddlcidaa
/- THE CELL 'sum', in the pinned program and in every row, IS THE sha256 OF THE DUMP (.gsa) THAT YthljeclddlcidaaProg.lean LOADS. Nothing in Lean hashes anything: it is a label: what it is worth is what the hold of that sum in a sandbox is worth. -/
noncomputable def Try.pinned : Pinned := { name := "ythljeclddlcidaa", sum := "91c93e53e03e6e91030431b2631467a3056103ee1a348c3e63a9dc6c9fc29267", checked := Try.checked }
namespace Rows
def none {H : Type} : Left H := { results := [], args := [] }

/-- 'jetwaylaw16.LocatorMakes': WHATEVER THE INPUT: true; the input reads as it did. -/
def locatorMakesSpec : ChangeSpec := { name := "locatorMakes", fn := fun _ => fun
  | [d] => { results := [.lit (.bool true)], args := [d] }
  | _ => none }
def locatorMakesRow : OpenClaim := { program := "ythljeclddlcidaa", sum := "91c93e53e03e6e91030431b2631467a3056103ee1a348c3e63a9dc6c9fc29267", func := "jetway/jetwaylaw16.LocatorMakes", spec := "locatorMakes", unfollowed := true, recurses := true, apart := false }
def LocatorMakesSaid : Prop := locatorMakesRow.holds Try.pinned (OpenSpec.ofChange locatorMakesSpec)

/-- ITS FALSE NEIGHBOUR: 'it returns false'. Refute it at one input. -/
def locatorMakesWrong : ChangeSpec := { name := "locatorMakes", fn := fun _ => fun
  | [d] => { results := [.lit (.bool false)], args := [d] }
  | _ => none }
def LocatorMakesWrongFalsely : Prop := locatorMakesRow.holds Try.pinned (OpenSpec.ofChange locatorMakesWrong)

/-- 'jetwaylaw16.LocatorApart': WHATEVER THE INPUT: true; the input reads as it did. -/
def locatorApartSpec : ChangeSpec := { name := "locatorApart", fn := fun _ => fun
  | [d1, d2] => { results := [.lit (.bool true)], args := [d1, d2] }
  | _ => none }
def locatorApartRow : OpenClaim := { program := "ythljeclddlcidaa", sum := "91c93e53e03e6e91030431b2631467a3056103ee1a348c3e63a9dc6c9fc29267", func := "jetway/jetwaylaw16.LocatorApart", spec := "locatorApart", unfollowed := true, recurses := true, apart := false }
def LocatorApartSaid : Prop := locatorApartRow.holds Try.pinned (OpenSpec.ofChange locatorApartSpec)

/-- ITS FALSE NEIGHBOUR: 'it returns false'. Refute it at one input. -/
def locatorApartWrong : ChangeSpec := { name := "locatorApart", fn := fun _ => fun
  | [d1, d2] => { results := [.lit (.bool false)], args := [d1, d2] }
  | _ => none }
def LocatorApartWrongFalsely : Prop := locatorApartRow.holds Try.pinned (OpenSpec.ofChange locatorApartWrong)

/-- 'jetwaylaw16.LocatorReads': WHATEVER THE INPUT: true; the input reads as it did. -/
def locatorReadsSpec : ChangeSpec := { name := "locatorReads", fn := fun _ => fun
  | [d] => { results := [.lit (.bool true)], args := [d] }
  | _ => none }
def locatorReadsRow : OpenClaim := { program := "ythljeclddlcidaa", sum := "91c93e53e03e6e91030431b2631467a3056103ee1a348c3e63a9dc6c9fc29267", func := "jetway/jetwaylaw16.LocatorReads", spec := "locatorReads", inPlace := ["internal/bytealg.IndexByteString"], unfollowed := true, recurses := true, apart := false }
def LocatorReadsSaid : Prop := locatorReadsRow.holds Try.pinned (OpenSpec.ofChange locatorReadsSpec)

/-- ITS FALSE NEIGHBOUR: 'it returns false'. Refute it at one input. -/
def locatorReadsWrong : ChangeSpec := { name := "locatorReads", fn := fun _ => fun
  | [d] => { results := [.lit (.bool false)], args := [d] }
  | _ => none }
def LocatorReadsWrongFalsely : Prop := locatorReadsRow.holds Try.pinned (OpenSpec.ofChange locatorReadsWrong)

/-- 'jetwaylaw16.LocatorBack': WHATEVER THE INPUT: true; the input reads as it did. -/
def locatorBackSpec : ChangeSpec := { name := "locatorBack", fn := fun _ => fun
  | [d] => { results := [.lit (.bool true)], args := [d] }
  | _ => none }
def locatorBackRow : OpenClaim := { program := "ythljeclddlcidaa", sum := "91c93e53e03e6e91030431b2631467a3056103ee1a348c3e63a9dc6c9fc29267", func := "jetway/jetwaylaw16.LocatorBack", spec := "locatorBack", inPlace := ["internal/bytealg.IndexByteString"], unfollowed := true, recurses := true, apart := false }
def LocatorBackSaid : Prop := locatorBackRow.holds Try.pinned (OpenSpec.ofChange locatorBackSpec)

/-- ITS FALSE NEIGHBOUR: 'it returns false'. Refute it at one input. -/
def locatorBackWrong : ChangeSpec := { name := "locatorBack", fn := fun _ => fun
  | [d] => { results := [.lit (.bool false)], args := [d] }
  | _ => none }
def LocatorBackWrongFalsely : Prop := locatorBackRow.holds Try.pinned (OpenSpec.ofChange locatorBackWrong)

/-- 'jetwaylaw16.LocatorSlips': WHATEVER THE INPUT: true; the input reads as it did. -/
def locatorSlipsSpec : ChangeSpec := { name := "locatorSlips", fn := fun _ => fun
  | [d1, d2, d3] => { results := [.lit (.bool true)], args := [d1, d2, d3] }
  | _ => none }
def locatorSlipsRow : OpenClaim := { program := "ythljeclddlcidaa", sum := "91c93e53e03e6e91030431b2631467a3056103ee1a348c3e63a9dc6c9fc29267", func := "jetway/jetwaylaw16.LocatorSlips", spec := "locatorSlips", inPlace := ["internal/bytealg.IndexByteString"], unfollowed := true, recurses := true, apart := false }
def LocatorSlipsSaid : Prop := locatorSlipsRow.holds Try.pinned (OpenSpec.ofChange locatorSlipsSpec)

/-- ITS FALSE NEIGHBOUR: 'it returns false'. Refute it at one input. -/
def locatorSlipsWrong : ChangeSpec := { name := "locatorSlips", fn := fun _ => fun
  | [d1, d2, d3] => { results := [.lit (.bool false)], args := [d1, d2, d3] }
  | _ => none }
def LocatorSlipsWrongFalsely : Prop := locatorSlipsRow.holds Try.pinned (OpenSpec.ofChange locatorSlipsWrong)

/-- 'jetwaylaw16.LocatorOnce': WHATEVER THE INPUT: true; the input reads as it did. -/
def locatorOnceSpec : ChangeSpec := { name := "locatorOnce", fn := fun _ => fun
  | [d] => { results := [.lit (.bool true)], args := [d] }
  | _ => none }
def locatorOnceRow : OpenClaim := { program := "ythljeclddlcidaa", sum := "91c93e53e03e6e91030431b2631467a3056103ee1a348c3e63a9dc6c9fc29267", func := "jetway/jetwaylaw16.LocatorOnce", spec := "locatorOnce", inPlace := ["internal/bytealg.IndexByteString"], unfollowed := true, recurses := true, apart := false }
def LocatorOnceSaid : Prop := locatorOnceRow.holds Try.pinned (OpenSpec.ofChange locatorOnceSpec)

/-- ITS FALSE NEIGHBOUR: 'it returns false'. Refute it at one input. -/
def locatorOnceWrong : ChangeSpec := { name := "locatorOnce", fn := fun _ => fun
  | [d] => { results := [.lit (.bool false)], args := [d] }
  | _ => none }
def LocatorOnceWrongFalsely : Prop := locatorOnceRow.holds Try.pinned (OpenSpec.ofChange locatorOnceWrong)

/- THE SECOND FORM. 'bulk': how many values and letters a reading holds, each counted each time it is reached (what is shared counts as often as it is met; a slice's spare places count too). A statement '..UptoSaid' is the law's where the arguments, and the package variables that the reading takes, are together of bulk at most 1048576: NARROWER than '..Said'. Prove '..Said' where nothing that the law and all that it calls make is longer than what came in: it says more and counts as full. Else prove '..UptoSaid'. A law counts once. -/
mutual
def uptoBulk {H : Type} : DataW H → Nat
  | .lit (.string bytes) => bytes.length + 1
  | .lit _ => 1
  | .nil => 1
  | .ptr d => uptoBulk d + 1
  | .slice elems spare => uptoBulkAll elems + uptoBulkAll spare + 1
  | .agg parts => uptoBulkAll parts + 1
  | .iface _ d => uptoBulk d + 1
  | .map entries => uptoBulkEntries entries + 1
  | .held _ => 1
def uptoBulkAll {H : Type} : List (DataW H) → Nat
  | [] => 0
  | d :: r => uptoBulk d + uptoBulkAll r
def uptoBulkEntries {H : Type} : List (Lit × DataW H) → Nat
  | [] => 0
  | x :: r => uptoBulkEntry x + uptoBulkEntries r
def uptoBulkEntry {H : Type} : Lit × DataW H → Nat
  | (.string bytes, d) => bytes.length + uptoBulk d + 1
  | (_, d) => uptoBulk d + 1
 end
def uptoSmall : (H : Type) → List (DataW H) → Bool := fun _ ds => decide (uptoBulkAll ds ≤ 1048576)
def OpenSpec.upto (s : _root_.Go.ChangeSpec) : _root_.Go.OpenSpec := { _root_.Go.OpenSpec.ofChange s with cond := some uptoSmall }

/-- 'jetwaylaw16.LocatorMakes', WHERE WHAT IT READS IS OF BULK AT MOST 1048576: true; the input reads as it did. -/
def locatorMakesUptoRow : OpenClaim := { program := "ythljeclddlcidaa", sum := "91c93e53e03e6e91030431b2631467a3056103ee1a348c3e63a9dc6c9fc29267", func := "jetway/jetwaylaw16.LocatorMakes", spec := "locatorMakes", unfollowed := true, recurses := true, apart := false, narrowed := true }
def LocatorMakesUptoSaid : Prop := locatorMakesUptoRow.holds Try.pinned (OpenSpec.upto locatorMakesSpec)

/-- 'jetwaylaw16.LocatorApart', WHERE WHAT IT READS IS OF BULK AT MOST 1048576: true; the input reads as it did. -/
def locatorApartUptoRow : OpenClaim := { program := "ythljeclddlcidaa", sum := "91c93e53e03e6e91030431b2631467a3056103ee1a348c3e63a9dc6c9fc29267", func := "jetway/jetwaylaw16.LocatorApart", spec := "locatorApart", unfollowed := true, recurses := true, apart := false, narrowed := true }
def LocatorApartUptoSaid : Prop := locatorApartUptoRow.holds Try.pinned (OpenSpec.upto locatorApartSpec)

/-- 'jetwaylaw16.LocatorReads', WHERE WHAT IT READS IS OF BULK AT MOST 1048576: true; the input reads as it did. -/
def locatorReadsUptoRow : OpenClaim := { program := "ythljeclddlcidaa", sum := "91c93e53e03e6e91030431b2631467a3056103ee1a348c3e63a9dc6c9fc29267", func := "jetway/jetwaylaw16.LocatorReads", spec := "locatorReads", inPlace := ["internal/bytealg.IndexByteString"], unfollowed := true, recurses := true, apart := false, narrowed := true }
def LocatorReadsUptoSaid : Prop := locatorReadsUptoRow.holds Try.pinned (OpenSpec.upto locatorReadsSpec)

/-- 'jetwaylaw16.LocatorBack', WHERE WHAT IT READS IS OF BULK AT MOST 1048576: true; the input reads as it did. -/
def locatorBackUptoRow : OpenClaim := { program := "ythljeclddlcidaa", sum := "91c93e53e03e6e91030431b2631467a3056103ee1a348c3e63a9dc6c9fc29267", func := "jetway/jetwaylaw16.LocatorBack", spec := "locatorBack", inPlace := ["internal/bytealg.IndexByteString"], unfollowed := true, recurses := true, apart := false, narrowed := true }
def LocatorBackUptoSaid : Prop := locatorBackUptoRow.holds Try.pinned (OpenSpec.upto locatorBackSpec)

/-- 'jetwaylaw16.LocatorSlips', WHERE WHAT IT READS IS OF BULK AT MOST 1048576: true; the input reads as it did. -/
def locatorSlipsUptoRow : OpenClaim := { program := "ythljeclddlcidaa", sum := "91c93e53e03e6e91030431b2631467a3056103ee1a348c3e63a9dc6c9fc29267", func := "jetway/jetwaylaw16.LocatorSlips", spec := "locatorSlips", inPlace := ["internal/bytealg.IndexByteString"], unfollowed := true, recurses := true, apart := false, narrowed := true }
def LocatorSlipsUptoSaid : Prop := locatorSlipsUptoRow.holds Try.pinned (OpenSpec.upto locatorSlipsSpec)

/-- 'jetwaylaw16.LocatorOnce', WHERE WHAT IT READS IS OF BULK AT MOST 1048576: true; the input reads as it did. -/
def locatorOnceUptoRow : OpenClaim := { program := "ythljeclddlcidaa", sum := "91c93e53e03e6e91030431b2631467a3056103ee1a348c3e63a9dc6c9fc29267", func := "jetway/jetwaylaw16.LocatorOnce", spec := "locatorOnce", inPlace := ["internal/bytealg.IndexByteString"], unfollowed := true, recurses := true, apart := false, narrowed := true }
def LocatorOnceUptoSaid : Prop := locatorOnceUptoRow.holds Try.pinned (OpenSpec.upto locatorOnceSpec)

end Rows
end Go.Proofs.Ythljeclddlcidaa
