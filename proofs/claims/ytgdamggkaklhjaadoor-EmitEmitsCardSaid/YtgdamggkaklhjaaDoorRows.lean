/-
  NARROWER THAN 'FOR EVERY INPUT', by the rows' own cells (each row's printed sentence says how): EmitEmits: laid.
  DERIVED. THE GIVEN ROWS OF THIS SEAT. 1 by the template 'for every input the law returns true; each argument reads behind the call as it read before'; 0 by the template 'total and deterministic' (their statements: YtgdamggkaklhjaaDoorTotals.lean).
  GIVEN WITH THE SEED: the statements are not yours to turn. If you find one false, say at which input.
  Laid BY PROGRAM, IN A SANDBOX (cutbox-rows.mjs): the forced cells as the released guide's own fill.sh prints them over the translation ce0a63847395fd9d… (all of the seat's roots in one cut). By AI agents, Wed Nov 11 2026. No macro, syntax, notation, axiom, sorry.
-/
import Derived.Test.YtgdamggkaklhjaaDoorChecked
import GoSem.Claim
import GoSem.ClaimJoined
import GoSem.ClaimMapViews
import Derived.JoinedTies
import Derived.KernelRfl
namespace Go.Proofs.YtgdamggkaklhjaaDoor
/- THE CELL 'sum', in the pinned program and in every row, IS THE sha256 OF THE DUMP (.gsa) THAT YtgdamggkaklhjaaDoorProg.lean LOADS. Nothing in Lean hashes anything: it is a label: what it is worth is what the hold of that sum in a sandbox is worth. -/
noncomputable def Tryd.pinned : Pinned := { name := "ytgdamggkaklhjaadoor", sum := "ce0a63847395fd9d5ee2b1ffef0f0fdc273a1a6850b3da1442fc6ed96c80c7e5", checked := Tryd.checked }
namespace Rows
def none {H : Type} : Left H := { results := [], args := [] }

/- WHAT THE LISTED PACKAGE-LEVEL VARIABLES READ AS WHEN THE CALL BEGINS. Each datum BY PROGRAM (the guide's laid-datum.mjs) off the statement by which the dump's own 'gosem.cut.vars' lays the variable. In a bare row this is a premise. The card (YtgdamggkaklhjaaDoorCards.lean) ties it to the program's text. -/
def laid_bolthole_isa_rows {H : Type} : DataW H := .agg [.agg [.lit (.int .u8 0), .lit (.int .u8 0), .lit (.int .i64 0)], .agg [.lit (.int .u8 0), .lit (.int .u8 0), .lit (.int .i64 1)], .agg [.lit (.int .u8 1), .lit (.int .u8 0), .lit (.int .i64 1)], .agg [.lit (.int .u8 2), .lit (.int .u8 0), .lit (.int .i64 1)], .agg [.lit (.int .u8 3), .lit (.int .u8 0), .lit (.int .i64 1)], .agg [.lit (.int .u8 16), .lit (.int .u8 0), .lit (.int .i64 2)], .agg [.lit (.int .u8 17), .lit (.int .u8 0), .lit (.int .i64 3)], .agg [.lit (.int .u8 32), .lit (.int .u8 0), .lit (.int .i64 4)], .agg [.lit (.int .u8 33), .lit (.int .u8 0), .lit (.int .i64 4)], .agg [.lit (.int .u8 34), .lit (.int .u8 0), .lit (.int .i64 4)], .agg [.lit (.int .u8 35), .lit (.int .u8 0), .lit (.int .i64 4)], .agg [.lit (.int .u8 36), .lit (.int .u8 0), .lit (.int .i64 4)], .agg [.lit (.int .u8 37), .lit (.int .u8 0), .lit (.int .i64 4)], .agg [.lit (.int .u8 38), .lit (.int .u8 0), .lit (.int .i64 4)], .agg [.lit (.int .u8 48), .lit (.int .u8 0), .lit (.int .i64 3)], .agg [.lit (.int .u8 49), .lit (.int .u8 0), .lit (.int .i64 5)], .agg [.lit (.int .u8 64), .lit (.int .u8 0), .lit (.int .i64 6)], .agg [.lit (.int .u8 65), .lit (.int .u8 0), .lit (.int .i64 7)], .agg [.lit (.int .u8 80), .lit (.int .u8 84), .lit (.int .i64 8)], .agg [.lit (.int .u8 81), .lit (.int .u8 85), .lit (.int .i64 8)], .agg [.lit (.int .u8 82), .lit (.int .u8 86), .lit (.int .i64 8)], .agg [.lit (.int .u8 83), .lit (.int .u8 87), .lit (.int .i64 8)], .agg [.lit (.int .u8 96), .lit (.int .u8 97), .lit (.int .i64 9)], .agg [.lit (.int .u8 98), .lit (.int .u8 0), .lit (.int .i64 10)], .agg [.lit (.int .u8 99), .lit (.int .u8 0), .lit (.int .i64 11)]]
def laid_bolthole_isa_sizes {H : Type} : DataW H := .agg [.lit (.int .i64 0), .lit (.int .i64 1), .lit (.int .i64 4), .lit (.int .i64 3), .lit (.int .i64 3), .lit (.int .i64 3), .lit (.int .i64 2), .lit (.int .i64 2), .lit (.int .i64 3), .lit (.int .i64 2), .lit (.int .i64 3), .lit (.int .i64 3)]

/-- 'boltholelaw.EmitEmits': WHATEVER THE INPUT: true; the input reads as it did. -/
def emitEmitsSpec : ChangeSpec := { name := "emitEmits", fn := fun _ => fun
  | [d1, d2] => { results := [.lit (.bool true)], args := [d1, d2] }
  | _ => none }
def emitEmitsRow : OpenClaim := { program := "ytgdamggkaklhjaadoor", sum := "ce0a63847395fd9d5ee2b1ffef0f0fdc273a1a6850b3da1442fc6ed96c80c7e5", func := "bolthole/boltholelaw.EmitEmits", spec := "emitEmits", unfollowed := true, recurses := true, named := ["bolthole/isa.rows", "bolthole/isa.sizes"], apart := false, laid := [("bolthole/isa.rows", laid_bolthole_isa_rows), ("bolthole/isa.sizes", laid_bolthole_isa_sizes)] }
def EmitEmitsSaid : Prop := emitEmitsRow.holds Tryd.pinned (OpenSpec.ofChange emitEmitsSpec)

/-- ITS FALSE NEIGHBOUR: 'it returns false'. Refute it at one input. -/
def emitEmitsWrong : ChangeSpec := { name := "emitEmits", fn := fun _ => fun
  | [d1, d2] => { results := [.lit (.bool false)], args := [d1, d2] }
  | _ => none }
def EmitEmitsWrongFalsely : Prop := emitEmitsRow.holds Tryd.pinned (OpenSpec.ofChange emitEmitsWrong)

/- THE SECOND FORM. 'bulk': how many values and letters a reading holds, each counted each time it is reached (what is shared counts as often as it is met; a slice's spare places count too). A statement '..UptoSaid' is the law's where the arguments, and the package variables that the reading takes, are together of bulk at most 1048576: NARROWER than '..Said'. Prove '..Said' where nothing that the law and all that it calls make is longer than what came in: it says more and counts as full. Else prove '..UptoSaid'. A law counts once. -/
mutual
def uptoBulk {H : Type} : DataW H → Nat
  | .lit (.string bytes) => bytes.length + 1
  | .lit _ => 1
  | .nil => 1
  | .ptr d => uptoBulk d + 1
  | .slice elems spare => uptoBulkAll elems + uptoBulkAll spare + 1
  | .agg parts => uptoBulkAll parts + 1
  | .iface _ d => uptoBulk d + 1
  | .map entries => uptoBulkEntries entries + 1
  | .held _ => 1
def uptoBulkAll {H : Type} : List (DataW H) → Nat
  | [] => 0
  | d :: r => uptoBulk d + uptoBulkAll r
def uptoBulkEntries {H : Type} : List (Lit × DataW H) → Nat
  | [] => 0
  | x :: r => uptoBulkEntry x + uptoBulkEntries r
def uptoBulkEntry {H : Type} : Lit × DataW H → Nat
  | (.string bytes, d) => bytes.length + uptoBulk d + 1
  | (_, d) => uptoBulk d + 1
 end
def uptoSmall : (H : Type) → List (DataW H) → Bool := fun _ ds => decide (uptoBulkAll ds ≤ 1048576)
def OpenSpec.upto (s : _root_.Go.ChangeSpec) : _root_.Go.OpenSpec := { _root_.Go.OpenSpec.ofChange s with cond := some uptoSmall }

/-- 'boltholelaw.EmitEmits', WHERE WHAT IT READS IS OF BULK AT MOST 1048576: true; the input reads as it did. -/
def emitEmitsUptoRow : OpenClaim := { program := "ytgdamggkaklhjaadoor", sum := "ce0a63847395fd9d5ee2b1ffef0f0fdc273a1a6850b3da1442fc6ed96c80c7e5", func := "bolthole/boltholelaw.EmitEmits", spec := "emitEmits", unfollowed := true, recurses := true, named := ["bolthole/isa.rows", "bolthole/isa.sizes"], apart := false, laid := [("bolthole/isa.rows", laid_bolthole_isa_rows), ("bolthole/isa.sizes", laid_bolthole_isa_sizes)], narrowed := true }
def EmitEmitsUptoSaid : Prop := emitEmitsUptoRow.holds Tryd.pinned (OpenSpec.upto emitEmitsSpec)

end Rows
end Go.Proofs.YtgdamggkaklhjaaDoor
