/-
  DERIVED. GIVEN WITH THE SEED: THE CARDS: each row of YtpgifkhgefbnfaaDoorRows.lean that lists a variable, with what it lists TIED to the program's text (the seventh form; the later family's looks); each row that meets fmt, with fmt's text TOLD by the authors' own Lean function (tested against real Go, not proved from fmt's source: count such statements apart). THE CARD IS WHAT COUNTS. Prove the row's statement (the work); the ties are given (YtpgifkhgefbnfaaDoorTie.lean); close each card by the builder's one call (the guide's Derived/Test/ToyasCard.lean, 'card_holds'). Laid BY PROGRAM, IN A SANDBOX (cutbox-door.mjs). By AI agents, Wed Nov 11 2026. No macro, syntax, notation, axiom, sorry.
-/
import Derived.Test.YtpgifkhgefbnfaaDoorRows
import GoSem.ClaimSeven
namespace Go.Proofs.YtpgifkhgefbnfaaDoor
namespace Rows

/-- THE TIED CARD OF 'boltholelaw.IsaDecodes'. -/
def isaDecodesCard : Claim7 := { stood := { row := isaDecodesRow, standIns := [], harness := (true, "55c16a8e44c79ae58ed8d901006d0163f2938e96cf049dcd2f7fc17819e22be2"), looks := false }, kinds := [], alts := [], laidByText := true, laidKinds := [.data, .data], laidTests := true, laidLooks := .later }
def IsaDecodesCardSaid : Prop := Claim7.holds Tryd.pinned (.plain (OpenSpec.ofChange isaDecodesSpec)) isaDecodesCard

/-- THE TIED CARD OF 'boltholelaw.FlowRecovers'. -/
def flowRecoversCard : Claim7 := { stood := { row := flowRecoversRow, standIns := [], harness := (true, "55c16a8e44c79ae58ed8d901006d0163f2938e96cf049dcd2f7fc17819e22be2"), looks := false }, kinds := [], alts := [], laidByText := true, laidKinds := [.data, .data], laidTests := true, laidLooks := .later }
def FlowRecoversCardSaid : Prop := Claim7.holds Tryd.pinned (.plain (OpenSpec.ofChange flowRecoversSpec)) flowRecoversCard

/-- THE TIED CARD OF 'boltholelaw.StepRuns'. -/
def stepRunsCard : Claim7 := { stood := { row := stepRunsRow, standIns := [], harness := (true, "55c16a8e44c79ae58ed8d901006d0163f2938e96cf049dcd2f7fc17819e22be2"), looks := false }, kinds := [], alts := [], laidByText := true, laidKinds := [.data, .data], laidTests := true, laidLooks := .later }
def StepRunsCardSaid : Prop := Claim7.holds Tryd.pinned (.plain (OpenSpec.ofChange stepRunsSpec)) stepRunsCard

/-- THE SECOND FORM's CARD OF 'boltholelaw.IsaDecodes'. -/
def isaDecodesUptoCard : Claim7 := { stood := { row := isaDecodesUptoRow, standIns := [], harness := (true, "55c16a8e44c79ae58ed8d901006d0163f2938e96cf049dcd2f7fc17819e22be2"), looks := false }, kinds := [], alts := [], laidByText := true, laidKinds := [.data, .data], laidTests := true, laidLooks := .later }
def IsaDecodesUptoCardSaid : Prop := Claim7.holds Tryd.pinned (.plain (OpenSpec.upto isaDecodesSpec)) isaDecodesUptoCard

/-- THE SECOND FORM's CARD OF 'boltholelaw.FlowRecovers'. -/
def flowRecoversUptoCard : Claim7 := { stood := { row := flowRecoversUptoRow, standIns := [], harness := (true, "55c16a8e44c79ae58ed8d901006d0163f2938e96cf049dcd2f7fc17819e22be2"), looks := false }, kinds := [], alts := [], laidByText := true, laidKinds := [.data, .data], laidTests := true, laidLooks := .later }
def FlowRecoversUptoCardSaid : Prop := Claim7.holds Tryd.pinned (.plain (OpenSpec.upto flowRecoversSpec)) flowRecoversUptoCard

/-- THE SECOND FORM's CARD OF 'boltholelaw.StepRuns'. -/
def stepRunsUptoCard : Claim7 := { stood := { row := stepRunsUptoRow, standIns := [], harness := (true, "55c16a8e44c79ae58ed8d901006d0163f2938e96cf049dcd2f7fc17819e22be2"), looks := false }, kinds := [], alts := [], laidByText := true, laidKinds := [.data, .data], laidTests := true, laidLooks := .later }
def StepRunsUptoCardSaid : Prop := Claim7.holds Tryd.pinned (.plain (OpenSpec.upto stepRunsSpec)) stepRunsUptoCard
end Rows
end Go.Proofs.YtpgifkhgefbnfaaDoor
