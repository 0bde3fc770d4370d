/-
  DERIVED. GIVEN WITH THE SEED: THE CARDS: each row of YthelecdeaikmdaaDoorRows.lean that lists a variable, with what it lists TIED to the program's text (the seventh form; the later family's looks); each row that meets fmt, with fmt's text TOLD by the authors' own Lean function (tested against real Go, not proved from fmt's source: count such statements apart). THE CARD IS WHAT COUNTS. Prove the row's statement (the work); the ties are given (YthelecdeaikmdaaDoorTie.lean); close each card by the builder's one call (the guide's Derived/Test/ToyasCard.lean, 'card_holds'). Laid BY PROGRAM, IN A SANDBOX (cutbox-door.mjs). By AI agents, Wed Nov 11 2026. No macro, syntax, notation, axiom, sorry.
-/
import Derived.Test.YthelecdeaikmdaaDoorRows
import GoSem.ClaimSeven
namespace Go.Proofs.YthelecdeaikmdaaDoor
namespace Rows

/-- THE TIED CARD OF 'boltholelaw.IsaChecks'. -/
def isaChecksCard : Claim7 := { stood := { row := isaChecksRow, standIns := [], harness := (true, "a6d12a61987a31093c0dba50dc21c2766a3a4a36826473872d2b3fefd54e9a8f"), looks := true }, kinds := [], alts := [], laidByText := true, laidKinds := [.data], laidTests := true, laidLooks := .later }
def IsaChecksCardSaid : Prop := Claim7.holds Tryd.pinned (.plain (OpenSpec.ofChange isaChecksSpec)) isaChecksCard

/-- THE TIED CARD OF 'boltholelaw.IsaSizes'. -/
def isaSizesCard : Claim7 := { stood := { row := isaSizesRow, standIns := [], harness := (true, "a6d12a61987a31093c0dba50dc21c2766a3a4a36826473872d2b3fefd54e9a8f"), looks := true }, kinds := [], alts := [], laidByText := true, laidKinds := [.data, .data], laidTests := true, laidLooks := .later }
def IsaSizesCardSaid : Prop := Claim7.holds Tryd.pinned (.plain (OpenSpec.ofChange isaSizesSpec)) isaSizesCard

/-- THE TIED CARD OF 'boltholelaw.IsaEncodes'. -/
def isaEncodesCard : Claim7 := { stood := { row := isaEncodesRow, standIns := [], harness := (true, "a6d12a61987a31093c0dba50dc21c2766a3a4a36826473872d2b3fefd54e9a8f"), looks := true }, kinds := [], alts := [], laidByText := true, laidKinds := [.data], laidTests := true, laidLooks := .later }
def IsaEncodesCardSaid : Prop := Claim7.holds Tryd.pinned (.plain (OpenSpec.ofChange isaEncodesSpec)) isaEncodesCard

/-- THE TIED CARD OF 'boltholelaw.IsaDecodes'. -/
def isaDecodesCard : Claim7 := { stood := { row := isaDecodesRow, standIns := [], harness := (true, "a6d12a61987a31093c0dba50dc21c2766a3a4a36826473872d2b3fefd54e9a8f"), looks := true }, kinds := [], alts := [], laidByText := true, laidKinds := [.data, .data], laidTests := true, laidLooks := .later }
def IsaDecodesCardSaid : Prop := Claim7.holds Tryd.pinned (.plain (OpenSpec.ofChange isaDecodesSpec)) isaDecodesCard

/-- THE TIED CARD OF 'boltholelaw.FlowRecovers'. -/
def flowRecoversCard : Claim7 := { stood := { row := flowRecoversRow, standIns := [], harness := (true, "a6d12a61987a31093c0dba50dc21c2766a3a4a36826473872d2b3fefd54e9a8f"), looks := true }, kinds := [], alts := [], laidByText := true, laidKinds := [.data, .data], laidTests := true, laidLooks := .later }
def FlowRecoversCardSaid : Prop := Claim7.holds Tryd.pinned (.plain (OpenSpec.ofChange flowRecoversSpec)) flowRecoversCard

/-- THE TIED CARD OF 'boltholelaw.StepRuns'. -/
def stepRunsCard : Claim7 := { stood := { row := stepRunsRow, standIns := [], harness := (true, "a6d12a61987a31093c0dba50dc21c2766a3a4a36826473872d2b3fefd54e9a8f"), looks := true }, kinds := [], alts := [], laidByText := true, laidKinds := [.data, .data], laidTests := true, laidLooks := .later }
def StepRunsCardSaid : Prop := Claim7.holds Tryd.pinned (.plain (OpenSpec.ofChange stepRunsSpec)) stepRunsCard

/-- THE TIED CARD OF 'boltholelaw.TallyReads'. -/
def tallyReadsCard : Claim7 := { stood := { row := tallyReadsRow, standIns := [], harness := (true, "a6d12a61987a31093c0dba50dc21c2766a3a4a36826473872d2b3fefd54e9a8f"), looks := true }, kinds := [], alts := [], laidByText := true, laidKinds := [.data, .data, .data, .data, .sentinel, .sentinel, .pinned], laidTests := true, laidLooks := .later }
def TallyReadsCardSaid : Prop := Claim7.holds Tryd.pinned (.plain (OpenSpec.ofChange tallyReadsSpec)) tallyReadsCard

/-- THE TIED CARD OF 'boltholelaw.EmitEmits'. -/
def emitEmitsCard : Claim7 := { stood := { row := emitEmitsRow, standIns := [], harness := (true, "a6d12a61987a31093c0dba50dc21c2766a3a4a36826473872d2b3fefd54e9a8f"), looks := true }, kinds := [], alts := [], laidByText := true, laidKinds := [.data, .data], laidTests := true, laidLooks := .later }
def EmitEmitsCardSaid : Prop := Claim7.holds Tryd.pinned (.plain (OpenSpec.ofChange emitEmitsSpec)) emitEmitsCard

/-- THE SECOND FORM's CARD OF 'boltholelaw.IsaChecks'. -/
def isaChecksUptoCard : Claim7 := { stood := { row := isaChecksUptoRow, standIns := [], harness := (true, "a6d12a61987a31093c0dba50dc21c2766a3a4a36826473872d2b3fefd54e9a8f"), looks := true }, kinds := [], alts := [], laidByText := true, laidKinds := [.data], laidTests := true, laidLooks := .later }
def IsaChecksUptoCardSaid : Prop := Claim7.holds Tryd.pinned (.plain (OpenSpec.upto isaChecksSpec)) isaChecksUptoCard

/-- THE SECOND FORM's CARD OF 'boltholelaw.IsaSizes'. -/
def isaSizesUptoCard : Claim7 := { stood := { row := isaSizesUptoRow, standIns := [], harness := (true, "a6d12a61987a31093c0dba50dc21c2766a3a4a36826473872d2b3fefd54e9a8f"), looks := true }, kinds := [], alts := [], laidByText := true, laidKinds := [.data, .data], laidTests := true, laidLooks := .later }
def IsaSizesUptoCardSaid : Prop := Claim7.holds Tryd.pinned (.plain (OpenSpec.upto isaSizesSpec)) isaSizesUptoCard

/-- THE SECOND FORM's CARD OF 'boltholelaw.IsaEncodes'. -/
def isaEncodesUptoCard : Claim7 := { stood := { row := isaEncodesUptoRow, standIns := [], harness := (true, "a6d12a61987a31093c0dba50dc21c2766a3a4a36826473872d2b3fefd54e9a8f"), looks := true }, kinds := [], alts := [], laidByText := true, laidKinds := [.data], laidTests := true, laidLooks := .later }
def IsaEncodesUptoCardSaid : Prop := Claim7.holds Tryd.pinned (.plain (OpenSpec.upto isaEncodesSpec)) isaEncodesUptoCard

/-- THE SECOND FORM's CARD OF 'boltholelaw.IsaDecodes'. -/
def isaDecodesUptoCard : Claim7 := { stood := { row := isaDecodesUptoRow, standIns := [], harness := (true, "a6d12a61987a31093c0dba50dc21c2766a3a4a36826473872d2b3fefd54e9a8f"), looks := true }, kinds := [], alts := [], laidByText := true, laidKinds := [.data, .data], laidTests := true, laidLooks := .later }
def IsaDecodesUptoCardSaid : Prop := Claim7.holds Tryd.pinned (.plain (OpenSpec.upto isaDecodesSpec)) isaDecodesUptoCard

/-- THE SECOND FORM's CARD OF 'boltholelaw.FlowRecovers'. -/
def flowRecoversUptoCard : Claim7 := { stood := { row := flowRecoversUptoRow, standIns := [], harness := (true, "a6d12a61987a31093c0dba50dc21c2766a3a4a36826473872d2b3fefd54e9a8f"), looks := true }, kinds := [], alts := [], laidByText := true, laidKinds := [.data, .data], laidTests := true, laidLooks := .later }
def FlowRecoversUptoCardSaid : Prop := Claim7.holds Tryd.pinned (.plain (OpenSpec.upto flowRecoversSpec)) flowRecoversUptoCard

/-- THE SECOND FORM's CARD OF 'boltholelaw.StepRuns'. -/
def stepRunsUptoCard : Claim7 := { stood := { row := stepRunsUptoRow, standIns := [], harness := (true, "a6d12a61987a31093c0dba50dc21c2766a3a4a36826473872d2b3fefd54e9a8f"), looks := true }, kinds := [], alts := [], laidByText := true, laidKinds := [.data, .data], laidTests := true, laidLooks := .later }
def StepRunsUptoCardSaid : Prop := Claim7.holds Tryd.pinned (.plain (OpenSpec.upto stepRunsSpec)) stepRunsUptoCard

/-- THE SECOND FORM's CARD OF 'boltholelaw.TallyReads'. -/
def tallyReadsUptoCard : Claim7 := { stood := { row := tallyReadsUptoRow, standIns := [], harness := (true, "a6d12a61987a31093c0dba50dc21c2766a3a4a36826473872d2b3fefd54e9a8f"), looks := true }, kinds := [], alts := [], laidByText := true, laidKinds := [.data, .data, .data, .data, .sentinel, .sentinel, .pinned], laidTests := true, laidLooks := .later }
def TallyReadsUptoCardSaid : Prop := Claim7.holds Tryd.pinned (.plain (OpenSpec.upto tallyReadsSpec)) tallyReadsUptoCard

/-- THE SECOND FORM's CARD OF 'boltholelaw.EmitEmits'. -/
def emitEmitsUptoCard : Claim7 := { stood := { row := emitEmitsUptoRow, standIns := [], harness := (true, "a6d12a61987a31093c0dba50dc21c2766a3a4a36826473872d2b3fefd54e9a8f"), looks := true }, kinds := [], alts := [], laidByText := true, laidKinds := [.data, .data], laidTests := true, laidLooks := .later }
def EmitEmitsUptoCardSaid : Prop := Claim7.holds Tryd.pinned (.plain (OpenSpec.upto emitEmitsSpec)) emitEmitsUptoCard
end Rows
end Go.Proofs.YthelecdeaikmdaaDoor
