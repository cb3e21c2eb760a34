/-
  DERIVED. GIVEN WITH THE SEED: THE CARDS: each row of YtkiaodihfofbnaaGreatDoorRows.lean that lists a variable, with what it lists TIED to the program's text (the seventh form; the later family's looks); each row that meets fmt, with fmt's text TOLD by the authors' own Lean function (tested against real Go, not proved from fmt's source: count such statements apart). THE CARD IS WHAT COUNTS. Prove the row's statement (the work); the ties are given (YtkiaodihfofbnaaGreatDoorTie.lean); close each card by the builder's one call (the guide's Derived/Test/ToyasCard.lean, 'card_holds'). Laid BY PROGRAM, IN A SANDBOX (cutbox-door.mjs). By AI agents, Wed Nov 11 2026. No macro, syntax, notation, axiom, sorry.
-/
import Derived.Test.YtkiaodihfofbnaaGreatDoorRows
import GoSem.ClaimSeven
namespace Go.Proofs.YtkiaodihfofbnaaGreatDoor
namespace Rows

/-- THE TIED CARD OF 'chicorytop.TopCurves'. -/
def topCurvesCard : Claim7 := { stood := { row := topCurvesRow, standIns := [], harness := (true, "6f6e1f197794ce702484473886e7e9a159e4e4ff4e5c7970d18b86bd85b31539"), looks := false }, kinds := [], alts := [], laidByText := true, laidKinds := [.data, .data, .data], laidTests := true, laidLooks := .later }
def TopCurvesCardSaid : Prop := Claim7.holds Tryz.pinned (.plain (OpenSpec.ofChange topCurvesSpec)) topCurvesCard

/-- THE SECOND FORM's CARD OF 'chicorytop.TopCurves'. -/
def topCurvesUptoCard : Claim7 := { stood := { row := topCurvesUptoRow, standIns := [], harness := (true, "6f6e1f197794ce702484473886e7e9a159e4e4ff4e5c7970d18b86bd85b31539"), looks := false }, kinds := [], alts := [], laidByText := true, laidKinds := [.data, .data, .data], laidTests := true, laidLooks := .later }
def TopCurvesUptoCardSaid : Prop := Claim7.holds Tryz.pinned (.plain (OpenSpec.upto topCurvesSpec)) topCurvesUptoCard
end Rows
end Go.Proofs.YtkiaodihfofbnaaGreatDoor
