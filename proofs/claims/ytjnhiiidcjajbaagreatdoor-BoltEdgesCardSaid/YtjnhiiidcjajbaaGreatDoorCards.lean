/-
  DERIVED. GIVEN WITH THE SEED: THE CARDS: each row of YtjnhiiidcjajbaaGreatDoorRows.lean that lists a variable, with what it lists TIED to the program's text (the seventh form; the later family's looks); each row that meets fmt, with fmt's text TOLD by the authors' own Lean function (tested against real Go, not proved from fmt's source: count such statements apart). THE CARD IS WHAT COUNTS. Prove the row's statement (the work); the ties are given (YtjnhiiidcjajbaaGreatDoorTie.lean); close each card by the builder's one call (the guide's Derived/Test/ToyasCard.lean, 'card_holds'). Laid BY PROGRAM, IN A SANDBOX (cutbox-door.mjs). By AI agents, Wed Nov 11 2026. No macro, syntax, notation, axiom, sorry.
-/
import Derived.Test.YtjnhiiidcjajbaaGreatDoorRows
import GoSem.ClaimSeven
namespace Go.Proofs.YtjnhiiidcjajbaaGreatDoor
namespace Rows

/-- THE TIED CARD OF 'boltholelaw.BoltEdges'. -/
def boltEdgesCard : Claim7 := { stood := { row := boltEdgesRow, standIns := [], harness := (true, "559821733bc0283f1899b92e241fe375ec0755a07564fdb5a6c7244c3b29c197"), looks := true }, kinds := [], alts := [], laidByText := true, laidKinds := [.data, .data, .data, .data, .sentinel, .sentinel, .data, .data, .pinned], laidTests := true, laidLooks := .later }
def BoltEdgesCardSaid : Prop := Claim7.holds Tryz.pinned (.plain (OpenSpec.ofChange boltEdgesSpec)) boltEdgesCard

/-- THE TIED CARD OF 'boltholelaw.BoltOptimizes'. -/
def boltOptimizesCard : Claim7 := { stood := { row := boltOptimizesRow, standIns := [], harness := (true, "559821733bc0283f1899b92e241fe375ec0755a07564fdb5a6c7244c3b29c197"), looks := true }, kinds := [], alts := [], laidByText := true, laidKinds := [.data, .data, .data, .data, .sentinel, .sentinel, .data, .data, .pinned], laidTests := true, laidLooks := .later }
def BoltOptimizesCardSaid : Prop := Claim7.holds Tryz.pinned (.plain (OpenSpec.ofChange boltOptimizesSpec)) boltOptimizesCard

/-- THE SECOND FORM's CARD OF 'boltholelaw.BoltEdges'. -/
def boltEdgesUptoCard : Claim7 := { stood := { row := boltEdgesUptoRow, standIns := [], harness := (true, "559821733bc0283f1899b92e241fe375ec0755a07564fdb5a6c7244c3b29c197"), looks := true }, kinds := [], alts := [], laidByText := true, laidKinds := [.data, .data, .data, .data, .sentinel, .sentinel, .data, .data, .pinned], laidTests := true, laidLooks := .later }
def BoltEdgesUptoCardSaid : Prop := Claim7.holds Tryz.pinned (.plain (OpenSpec.upto boltEdgesSpec)) boltEdgesUptoCard

/-- THE SECOND FORM's CARD OF 'boltholelaw.BoltOptimizes'. -/
def boltOptimizesUptoCard : Claim7 := { stood := { row := boltOptimizesUptoRow, standIns := [], harness := (true, "559821733bc0283f1899b92e241fe375ec0755a07564fdb5a6c7244c3b29c197"), looks := true }, kinds := [], alts := [], laidByText := true, laidKinds := [.data, .data, .data, .data, .sentinel, .sentinel, .data, .data, .pinned], laidTests := true, laidLooks := .later }
def BoltOptimizesUptoCardSaid : Prop := Claim7.holds Tryz.pinned (.plain (OpenSpec.upto boltOptimizesSpec)) boltOptimizesUptoCard
end Rows
end Go.Proofs.YtjnhiiidcjajbaaGreatDoor
