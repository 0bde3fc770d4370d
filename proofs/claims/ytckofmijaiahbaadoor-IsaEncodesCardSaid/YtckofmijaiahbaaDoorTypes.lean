/-
  Closed facts on the types of the translation: how many cells and bytes an element has, and its zero.
-/
import Derived.Test.YtckofmijaiahbaaDoorProg
import Derived.KernelRfl
namespace Go.Proofs.YtckofmijaiahbaaDoor
theorem info_int : (Tryd.prog.info? 3).map (fun i => (i.zero, i.size, i.bytes)) = some (some (.int .i64 0), 1, 8) := by kernel_rfl
theorem info_u8 : (Tryd.prog.info? 5).map (fun i => (i.zero, i.size, i.bytes)) = some (some (.int .u8 0), 1, 1) := by kernel_rfl
end Go.Proofs.YtckofmijaiahbaaDoor
