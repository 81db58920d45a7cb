/-
  DERIVED. GIVEN WITH THE SEED: THE CARDS: each row of YtfagmjlgpfnniaaDoorRows.lean that lists a variable, with what it lists TIED to the program's text (the seventh form; the later family's looks); each row that meets fmt, with fmt's text TOLD by the authors' own Lean function (tested against real Go, not proved from fmt's source: count such statements apart). THE CARD IS WHAT COUNTS. Prove the row's statement (the work); the ties are given (YtfagmjlgpfnniaaDoorTie.lean); close each card by the builder's one call (the guide's Derived/Test/ToyasCard.lean, 'card_holds'). Laid BY PROGRAM, IN A SANDBOX (cutbox-door.mjs). By AI agents, Wed Nov 11 2026. No macro, syntax, notation, axiom, sorry.
-/
import Derived.Test.YtfagmjlgpfnniaaDoorRows
import GoSem.ClaimSeven
namespace Go.Proofs.YtfagmjlgpfnniaaDoor
namespace Rows

/-- THE TIED CARD OF 'pharostop.WholeDuties'. -/
def wholeDutiesCard : Claim7 := { stood := { row := wholeDutiesRow, standIns := [], harness := (true, "2bf9533cc5f877b5745fbd7b47b65a366e0765ea5a24d57d7cb1db36cf02a224"), looks := false }, kinds := [], alts := [], laidByText := true, laidKinds := [.data, .data], laidTests := true, laidLooks := .later }
def WholeDutiesCardSaid : Prop := Claim7.holds Tryd.pinned (.plain (OpenSpec.ofChange wholeDutiesSpec)) wholeDutiesCard

/-- THE SECOND FORM's CARD OF 'pharostop.WholeDuties'. -/
def wholeDutiesUptoCard : Claim7 := { stood := { row := wholeDutiesUptoRow, standIns := [], harness := (true, "2bf9533cc5f877b5745fbd7b47b65a366e0765ea5a24d57d7cb1db36cf02a224"), looks := false }, kinds := [], alts := [], laidByText := true, laidKinds := [.data, .data], laidTests := true, laidLooks := .later }
def WholeDutiesUptoCardSaid : Prop := Claim7.holds Tryd.pinned (.plain (OpenSpec.upto wholeDutiesSpec)) wholeDutiesUptoCard
end Rows
end Go.Proofs.YtfagmjlgpfnniaaDoor
