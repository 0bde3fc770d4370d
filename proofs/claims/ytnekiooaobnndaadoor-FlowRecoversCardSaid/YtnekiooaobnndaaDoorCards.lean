/-
  DERIVED. GIVEN WITH THE SEED: THE CARDS: each row of YtnekiooaobnndaaDoorRows.lean that lists a variable, with what it lists TIED to the program's text (the seventh form; the later family's looks); each row that meets fmt, with fmt's text TOLD by the authors' own Lean function (tested against real Go, not proved from fmt's source: count such statements apart). THE CARD IS WHAT COUNTS. Prove the row's statement (the work); the ties are given (YtnekiooaobnndaaDoorTie.lean); close each card by the builder's one call (the guide's Derived/Test/ToyasCard.lean, 'card_holds'). Laid BY PROGRAM, IN A SANDBOX (cutbox-door.mjs). By AI agents, Wed Nov 11 2026. No macro, syntax, notation, axiom, sorry.
-/
import Derived.Test.YtnekiooaobnndaaDoorRows
import GoSem.ClaimSeven
namespace Go.Proofs.YtnekiooaobnndaaDoor
namespace Rows

/-- THE TIED CARD OF 'boltholelaw.FlowRecovers'. -/
def flowRecoversCard : Claim7 := { stood := { row := flowRecoversRow, standIns := [], harness := (true, "1e4825c771f80b464819ac56db9673416ae0f582cfaf130ad4f8a7e2fe68e651"), looks := false }, kinds := [], alts := [], laidByText := true, laidKinds := [.data, .data], laidTests := true, laidLooks := .later }
def FlowRecoversCardSaid : Prop := Claim7.holds Tryd.pinned (.plain (OpenSpec.ofChange flowRecoversSpec)) flowRecoversCard

/-- THE TIED CARD OF 'boltholelaw.EmitEmits'. -/
def emitEmitsCard : Claim7 := { stood := { row := emitEmitsRow, standIns := [], harness := (true, "1e4825c771f80b464819ac56db9673416ae0f582cfaf130ad4f8a7e2fe68e651"), looks := false }, kinds := [], alts := [], laidByText := true, laidKinds := [.data, .data], laidTests := true, laidLooks := .later }
def EmitEmitsCardSaid : Prop := Claim7.holds Tryd.pinned (.plain (OpenSpec.ofChange emitEmitsSpec)) emitEmitsCard

/-- THE SECOND FORM's CARD OF 'boltholelaw.FlowRecovers'. -/
def flowRecoversUptoCard : Claim7 := { stood := { row := flowRecoversUptoRow, standIns := [], harness := (true, "1e4825c771f80b464819ac56db9673416ae0f582cfaf130ad4f8a7e2fe68e651"), looks := false }, kinds := [], alts := [], laidByText := true, laidKinds := [.data, .data], laidTests := true, laidLooks := .later }
def FlowRecoversUptoCardSaid : Prop := Claim7.holds Tryd.pinned (.plain (OpenSpec.upto flowRecoversSpec)) flowRecoversUptoCard

/-- THE SECOND FORM's CARD OF 'boltholelaw.EmitEmits'. -/
def emitEmitsUptoCard : Claim7 := { stood := { row := emitEmitsUptoRow, standIns := [], harness := (true, "1e4825c771f80b464819ac56db9673416ae0f582cfaf130ad4f8a7e2fe68e651"), looks := false }, kinds := [], alts := [], laidByText := true, laidKinds := [.data, .data], laidTests := true, laidLooks := .later }
def EmitEmitsUptoCardSaid : Prop := Claim7.holds Tryd.pinned (.plain (OpenSpec.upto emitEmitsSpec)) emitEmitsUptoCard
end Rows
end Go.Proofs.YtnekiooaobnndaaDoor
