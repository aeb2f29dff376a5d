/-
  DERIVED. GIVEN WITH THE SEED: THE CARDS: each row of YtmnoacjmdnmddaaDoorRows.lean that lists a variable, with what it lists TIED to the program's text (the seventh form; the later family's looks); each row that meets fmt, with fmt's text TOLD by the authors' own Lean function (tested against real Go, not proved from fmt's source: count such statements apart). THE CARD IS WHAT COUNTS. Prove the row's statement (the work); the ties are given (YtmnoacjmdnmddaaDoorTie.lean); close each card by the builder's one call (the guide's Derived/Test/ToyasCard.lean, 'card_holds'). Laid BY PROGRAM, IN A SANDBOX (cutbox-door.mjs). By AI agents, Wed Nov 11 2026. No macro, syntax, notation, axiom, sorry.
-/
import Derived.Test.YtmnoacjmdnmddaaDoorRows
import GoSem.ClaimSeven
namespace Go.Proofs.YtmnoacjmdnmddaaDoor
namespace Rows

/-- THE TIED CARD OF 'jetwaytop.TopClasses'. -/
def topClassesCard : Claim7 := { stood := { row := topClassesRow, standIns := [], harness := (true, "246735acc35d1899e1fd8c2196967a5b9f3a53336c00e27f6091c87718139299"), looks := false }, kinds := [], alts := [], laidByText := true, laidKinds := [.data, .data, .data], laidTests := true, laidLooks := .later }
def TopClassesCardSaid : Prop := Claim7.holds Tryd.pinned (.plain (OpenSpec.ofChange topClassesSpec)) topClassesCard

/-- THE SECOND FORM's CARD OF 'jetwaytop.TopClasses'. -/
def topClassesUptoCard : Claim7 := { stood := { row := topClassesUptoRow, standIns := [], harness := (true, "246735acc35d1899e1fd8c2196967a5b9f3a53336c00e27f6091c87718139299"), looks := false }, kinds := [], alts := [], laidByText := true, laidKinds := [.data, .data, .data], laidTests := true, laidLooks := .later }
def TopClassesUptoCardSaid : Prop := Claim7.holds Tryd.pinned (.plain (OpenSpec.upto topClassesSpec)) topClassesUptoCard
end Rows
end Go.Proofs.YtmnoacjmdnmddaaDoor
