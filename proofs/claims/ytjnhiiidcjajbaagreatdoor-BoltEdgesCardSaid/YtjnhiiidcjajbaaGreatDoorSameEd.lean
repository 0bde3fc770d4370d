/-
  The law's sameEdges, where both sides read alike.
-/
import Derived.Test.YtjnhiiidcjajbaaGreatDoorCore
import Derived.Test.YtjnhiiidcjajbaaGreatDoorProg
import Derived.Lib.Hide
import Derived.Deep.RegionHeld3
import Derived.OwnWalk
import Derived.Deep.QuietTactic
import Derived.BigQuiet
namespace Go.Proofs.YtjnhiiidcjajbaaGreatDoor
open Go.RowKit BH
set_option maxHeartbeats 10000000
set_option maxRecDepth 100000
theorem sameEdges_yes (va vb : Value) (l : List Ed) (w : World) (ha : Edges w va l) (hb : Edges w vb l) :
    Calls Tryz.prog 9 #[va, vb] w fun e w' => e = .returned (.bool true) ∧ Keeps w w' := by
  obtain ⟨ao, ca, rfl, a1, a2, -, a3⟩ := ha
  obtain ⟨bo, cb, rfl, b1, b2, -, b3⟩ := hb
  unfold maxLen at a2 b2
  go_enter Tryz.func9, Tryz.ntmps9
  go_wp2
  go_loopw [5] (fun i wr => ∃ k : Nat, k ≤ l.length ∧ i = .int .i64 k ∧ Keeps w wr) (fun i _ => l.length - (intOf i).toNat)
  case atStart => exact ⟨0, Nat.zero_le _, rfl, Keeps.refl _⟩
  case round =>
    obtain ⟨k, hk, rfl, hkeep⟩ := hrel
    by_cases hlt : k < l.length
    · have hltz : (k : Int) < (l.length : Int) := by omega
      obtain ⟨ab, af, rfl, ac⟩ := a3 (by omega)
      obtain ⟨bb, bf, rfl, bc⟩ := b3 (by omega)
      have c0 : wr.cell? ⟨ab, af + k * 3, none⟩ = some (.int .i64 (nth l k).From) := hkeep.cell (ac k 0 hlt (by omega))
      have c1 : wr.cell? ⟨ab, af + k * 3 + 1, none⟩ = some (.int .i64 (nth l k).To) := hkeep.cell (ac k 1 hlt (by omega))
      have c2 : wr.cell? ⟨ab, af + k * 3 + 2, none⟩ = some (.int .i64 (nth l k).Count) := hkeep.cell (ac k 2 hlt (by omega))
      have d0 : wr.cell? ⟨bb, bf + k * 3, none⟩ = some (.int .i64 (nth l k).From) := hkeep.cell (bc k 0 hlt (by omega))
      have d1 : wr.cell? ⟨bb, bf + k * 3 + 1, none⟩ = some (.int .i64 (nth l k).To) := hkeep.cell (bc k 1 hlt (by omega))
      have d2 : wr.cell? ⟨bb, bf + k * 3 + 2, none⟩ = some (.int .i64 (nth l k).Count) := hkeep.cell (bc k 2 hlt (by omega))
      generalize nth l k = E at *
      clear a3 b3 ac bc
      go_wp2
      go_quiet (fail)
      go_wp2
      go_roundw
      case rel => exact ⟨k + 1, by omega, by go_num, hkeep.drewN _⟩
      case measure => simp [intOf]; omega
    · clear a3 b3
      go_wp2
      go_ret
      exact ⟨rfl, hkeep⟩
end Go.Proofs.YtjnhiiidcjajbaaGreatDoor
