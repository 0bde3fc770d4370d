/-
  DERIVED. GIVEN WITH THE SEED: THE CARDS: each row of YtofaghcnkppmbaaDoorRows.lean that lists a variable, with what it lists TIED to the program's text (the seventh form; the later family's looks); each row that meets fmt, with fmt's text TOLD by the authors' own Lean function (tested against real Go, not proved from fmt's source: count such statements apart). THE CARD IS WHAT COUNTS. Prove the row's statement (the work); the ties are given (YtofaghcnkppmbaaDoorTie.lean); close each card by the builder's one call (the guide's Derived/Test/ToyasCard.lean, 'card_holds'). Laid BY PROGRAM, IN A SANDBOX (cutbox-door.mjs). By AI agents, Wed Nov 11 2026. No macro, syntax, notation, axiom, sorry.
-/
import Derived.Test.YtofaghcnkppmbaaDoorRows
import GoSem.ClaimSeven
namespace Go.Proofs.YtofaghcnkppmbaaDoor
namespace Rows

/-- THE TIED CARD OF 'boltholelaw.FlowRecovers'. -/
def flowRecoversCard : Claim7 := { stood := { row := flowRecoversRow, standIns := [], harness := (true, "5638982ea93b90467848c3b2ca350b3a496434aaaebbfb5c664b5ca46822f545"), looks := true }, kinds := [], alts := [], laidByText := true, laidKinds := [.data, .data], laidTests := true, laidLooks := .later }
def FlowRecoversCardSaid : Prop := Claim7.holds Tryd.pinned (.plain (OpenSpec.ofChange flowRecoversSpec)) flowRecoversCard

/-- THE TIED CARD OF 'boltholelaw.TallyReads'. -/
def tallyReadsCard : Claim7 := { stood := { row := tallyReadsRow, standIns := [], harness := (true, "5638982ea93b90467848c3b2ca350b3a496434aaaebbfb5c664b5ca46822f545"), looks := true }, kinds := [], alts := [], laidByText := true, laidKinds := [.data, .data, .data, .data, .sentinel, .sentinel, .pinned], laidTests := true, laidLooks := .later }
def TallyReadsCardSaid : Prop := Claim7.holds Tryd.pinned (.plain (OpenSpec.ofChange tallyReadsSpec)) tallyReadsCard

/-- THE TIED CARD OF 'boltholelaw.EmitEmits'. -/
def emitEmitsCard : Claim7 := { stood := { row := emitEmitsRow, standIns := [], harness := (true, "5638982ea93b90467848c3b2ca350b3a496434aaaebbfb5c664b5ca46822f545"), looks := true }, kinds := [], alts := [], laidByText := true, laidKinds := [.data, .data], laidTests := true, laidLooks := .later }
def EmitEmitsCardSaid : Prop := Claim7.holds Tryd.pinned (.plain (OpenSpec.ofChange emitEmitsSpec)) emitEmitsCard

/-- THE SECOND FORM's CARD OF 'boltholelaw.FlowRecovers'. -/
def flowRecoversUptoCard : Claim7 := { stood := { row := flowRecoversUptoRow, standIns := [], harness := (true, "5638982ea93b90467848c3b2ca350b3a496434aaaebbfb5c664b5ca46822f545"), looks := true }, kinds := [], alts := [], laidByText := true, laidKinds := [.data, .data], laidTests := true, laidLooks := .later }
def FlowRecoversUptoCardSaid : Prop := Claim7.holds Tryd.pinned (.plain (OpenSpec.upto flowRecoversSpec)) flowRecoversUptoCard

/-- THE SECOND FORM's CARD OF 'boltholelaw.TallyReads'. -/
def tallyReadsUptoCard : Claim7 := { stood := { row := tallyReadsUptoRow, standIns := [], harness := (true, "5638982ea93b90467848c3b2ca350b3a496434aaaebbfb5c664b5ca46822f545"), looks := true }, kinds := [], alts := [], laidByText := true, laidKinds := [.data, .data, .data, .data, .sentinel, .sentinel, .pinned], laidTests := true, laidLooks := .later }
def TallyReadsUptoCardSaid : Prop := Claim7.holds Tryd.pinned (.plain (OpenSpec.upto tallyReadsSpec)) tallyReadsUptoCard

/-- THE SECOND FORM's CARD OF 'boltholelaw.EmitEmits'. -/
def emitEmitsUptoCard : Claim7 := { stood := { row := emitEmitsUptoRow, standIns := [], harness := (true, "5638982ea93b90467848c3b2ca350b3a496434aaaebbfb5c664b5ca46822f545"), looks := true }, kinds := [], alts := [], laidByText := true, laidKinds := [.data, .data], laidTests := true, laidLooks := .later }
def EmitEmitsUptoCardSaid : Prop := Claim7.holds Tryd.pinned (.plain (OpenSpec.upto emitEmitsSpec)) emitEmitsUptoCard
end Rows
end Go.Proofs.YtofaghcnkppmbaaDoor
