/-
  DERIVED. GIVEN WITH THE SEED: THE CARDS: each row of YtckofmijaiahbaaDoorRows.lean that lists a variable, with what it lists TIED to the program's text (the seventh form; the later family's looks); each row that meets fmt, with fmt's text TOLD by the authors' own Lean function (tested against real Go, not proved from fmt's source: count such statements apart). THE CARD IS WHAT COUNTS. Prove the row's statement (the work); the ties are given (YtckofmijaiahbaaDoorTie.lean); close each card by the builder's one call (the guide's Derived/Test/ToyasCard.lean, 'card_holds'). Laid BY PROGRAM, IN A SANDBOX (cutbox-door.mjs). By AI agents, Wed Nov 11 2026. No macro, syntax, notation, axiom, sorry.
-/
import Derived.Test.YtckofmijaiahbaaDoorRows
import GoSem.ClaimSeven
namespace Go.Proofs.YtckofmijaiahbaaDoor
namespace Rows

/-- THE TIED CARD OF 'boltholelaw.IsaSizes'. -/
def isaSizesCard : Claim7 := { stood := { row := isaSizesRow, standIns := [], harness := (true, "fd17b978f538af548d9850c034a192eda19708cc76ef84fe9762689e22dffa72"), looks := false }, kinds := [], alts := [], laidByText := true, laidKinds := [.data, .data], laidTests := true, laidLooks := .later }
def IsaSizesCardSaid : Prop := Claim7.holds Tryd.pinned (.plain (OpenSpec.ofChange isaSizesSpec)) isaSizesCard

/-- THE TIED CARD OF 'boltholelaw.IsaEncodes'. -/
def isaEncodesCard : Claim7 := { stood := { row := isaEncodesRow, standIns := [], harness := (true, "fd17b978f538af548d9850c034a192eda19708cc76ef84fe9762689e22dffa72"), looks := false }, kinds := [], alts := [], laidByText := true, laidKinds := [.data], laidTests := true, laidLooks := .later }
def IsaEncodesCardSaid : Prop := Claim7.holds Tryd.pinned (.plain (OpenSpec.ofChange isaEncodesSpec)) isaEncodesCard

/-- THE TIED CARD OF 'boltholelaw.IsaDecodes'. -/
def isaDecodesCard : Claim7 := { stood := { row := isaDecodesRow, standIns := [], harness := (true, "fd17b978f538af548d9850c034a192eda19708cc76ef84fe9762689e22dffa72"), looks := false }, kinds := [], alts := [], laidByText := true, laidKinds := [.data, .data], laidTests := true, laidLooks := .later }
def IsaDecodesCardSaid : Prop := Claim7.holds Tryd.pinned (.plain (OpenSpec.ofChange isaDecodesSpec)) isaDecodesCard

/-- THE SECOND FORM's CARD OF 'boltholelaw.IsaSizes'. -/
def isaSizesUptoCard : Claim7 := { stood := { row := isaSizesUptoRow, standIns := [], harness := (true, "fd17b978f538af548d9850c034a192eda19708cc76ef84fe9762689e22dffa72"), looks := false }, kinds := [], alts := [], laidByText := true, laidKinds := [.data, .data], laidTests := true, laidLooks := .later }
def IsaSizesUptoCardSaid : Prop := Claim7.holds Tryd.pinned (.plain (OpenSpec.upto isaSizesSpec)) isaSizesUptoCard

/-- THE SECOND FORM's CARD OF 'boltholelaw.IsaEncodes'. -/
def isaEncodesUptoCard : Claim7 := { stood := { row := isaEncodesUptoRow, standIns := [], harness := (true, "fd17b978f538af548d9850c034a192eda19708cc76ef84fe9762689e22dffa72"), looks := false }, kinds := [], alts := [], laidByText := true, laidKinds := [.data], laidTests := true, laidLooks := .later }
def IsaEncodesUptoCardSaid : Prop := Claim7.holds Tryd.pinned (.plain (OpenSpec.upto isaEncodesSpec)) isaEncodesUptoCard

/-- THE SECOND FORM's CARD OF 'boltholelaw.IsaDecodes'. -/
def isaDecodesUptoCard : Claim7 := { stood := { row := isaDecodesUptoRow, standIns := [], harness := (true, "fd17b978f538af548d9850c034a192eda19708cc76ef84fe9762689e22dffa72"), looks := false }, kinds := [], alts := [], laidByText := true, laidKinds := [.data, .data], laidTests := true, laidLooks := .later }
def IsaDecodesUptoCardSaid : Prop := Claim7.holds Tryd.pinned (.plain (OpenSpec.upto isaDecodesSpec)) isaDecodesUptoCard
end Rows
end Go.Proofs.YtckofmijaiahbaaDoor
