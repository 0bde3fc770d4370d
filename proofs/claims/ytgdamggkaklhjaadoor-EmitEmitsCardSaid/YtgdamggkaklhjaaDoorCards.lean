/-
  DERIVED. GIVEN WITH THE SEED: THE CARDS: each row of YtgdamggkaklhjaaDoorRows.lean that lists a variable, with what it lists TIED to the program's text (the seventh form; the later family's looks); each row that meets fmt, with fmt's text TOLD by the authors' own Lean function (tested against real Go, not proved from fmt's source: count such statements apart). THE CARD IS WHAT COUNTS. Prove the row's statement (the work); the ties are given (YtgdamggkaklhjaaDoorTie.lean); close each card by the builder's one call (the guide's Derived/Test/ToyasCard.lean, 'card_holds'). Laid BY PROGRAM, IN A SANDBOX (cutbox-door.mjs). By AI agents, Wed Nov 11 2026. No macro, syntax, notation, axiom, sorry.
-/
import Derived.Test.YtgdamggkaklhjaaDoorRows
import GoSem.ClaimSeven
namespace Go.Proofs.YtgdamggkaklhjaaDoor
namespace Rows

/-- THE TIED CARD OF 'boltholelaw.EmitEmits'. -/
def emitEmitsCard : Claim7 := { stood := { row := emitEmitsRow, standIns := [], harness := (true, "83a1edc74c6ccf7f9588d4123b9fb8980a0c38a67f30d442515817b797cacac6"), looks := false }, kinds := [], alts := [], laidByText := true, laidKinds := [.data, .data], laidTests := true, laidLooks := .later }
def EmitEmitsCardSaid : Prop := Claim7.holds Tryd.pinned (.plain (OpenSpec.ofChange emitEmitsSpec)) emitEmitsCard

/-- THE SECOND FORM's CARD OF 'boltholelaw.EmitEmits'. -/
def emitEmitsUptoCard : Claim7 := { stood := { row := emitEmitsUptoRow, standIns := [], harness := (true, "83a1edc74c6ccf7f9588d4123b9fb8980a0c38a67f30d442515817b797cacac6"), looks := false }, kinds := [], alts := [], laidByText := true, laidKinds := [.data, .data], laidTests := true, laidLooks := .later }
def EmitEmitsUptoCardSaid : Prop := Claim7.holds Tryd.pinned (.plain (OpenSpec.upto emitEmitsSpec)) emitEmitsUptoCard
end Rows
end Go.Proofs.YtgdamggkaklhjaaDoor
