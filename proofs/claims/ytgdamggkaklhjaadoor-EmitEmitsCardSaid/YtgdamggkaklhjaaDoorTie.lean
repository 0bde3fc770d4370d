/-
  DERIVED. GIVEN WITH THE SEED: THE PROGRAM's TIES (one call each: nine closed facts by the kernel) AND EACH ROW's TIE, after the 31st guide's Derived/Test/Toyas{Tie, Card}.lean. No idea stands in it: it is a product of the set-up. Laid BY PROGRAM, IN A SANDBOX (cutbox-door.mjs). By AI agents, Wed Nov 11 2026. No macro, syntax, notation, axiom, sorry.
-/
import Derived.Test.YtgdamggkaklhjaaDoorRows
import Derived.LaidByTextLater
import Derived.SevenTiedAt
import Derived.LaidSub
import Derived.LaidOnce
namespace Go.Proofs.YtgdamggkaklhjaaDoor
open Go
set_option maxRecDepth 100000
theorem seatTie1 : Tryd.prog.laidByTextLater [("bolthole/isa.rows", Rows.laid_bolthole_isa_rows), ("bolthole/isa.sizes", Rows.laid_bolthole_isa_sizes)] [.data, .data] true :=
  Program.laidByTextLater_by_one 43 8 76 (by kernel_rfl) (by kernel_rfl) (by kernel_rfl) (by kernel_rfl) (by kernel_rfl) (by kernel_rfl) (fun _ _ => by kernel_rfl)
theorem noOwnUnsafe : Tryd.pinned.checked.prog.headLifts.contains "ownunsafe" = false := by kernel_rfl
theorem tie : Tryd.prog.laidByTextLater [("bolthole/isa.rows", Rows.laid_bolthole_isa_rows), ("bolthole/isa.sizes", Rows.laid_bolthole_isa_sizes)] [.data, .data] true :=
  Program.laidByTextLater.sub seatTie1 ["bolthole/isa.rows", "bolthole/isa.sizes"] (by kernel_rfl) (by kernel_rfl)
theorem emitEmits_row_tie : Rows.emitEmitsRow.laidByTextAt .later Tryd.pinned [.data, .data] true :=
  OpenClaim.laidByTextAt_later rfl rfl tie noOwnUnsafe
theorem emitEmitsUpto_row_tie : Rows.emitEmitsUptoRow.laidByTextAt .later Tryd.pinned [.data, .data] true :=
  OpenClaim.laidByTextAt_later rfl rfl tie noOwnUnsafe
end Go.Proofs.YtgdamggkaklhjaaDoor
