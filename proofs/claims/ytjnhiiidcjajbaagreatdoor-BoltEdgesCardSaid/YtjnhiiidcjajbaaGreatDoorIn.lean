/-
  The document's In: is a number from low to high?
-/
import Derived.Test.YtjnhiiidcjajbaaGreatDoorProg
import Derived.Test.YtjnhiiidcjajbaaGreatDoorCore
import Derived.Lib.Hide
namespace Go.Proofs.YtjnhiiidcjajbaaGreatDoor
open Go.RowKit BH

theorem in_yes (n lo hi : Int) (w : World) (h1 : lo ≤ n) (h2 : n ≤ hi) :
    Calls Tryz.prog 20 #[.int .i64 n, .int .i64 lo, .int .i64 hi] w fun e w' => e = .returned (.bool true) ∧ w = w' := by
  go_enter Tryz.func20, Tryz.ntmps20
  go_wp2
  go_ret
  exact ⟨by simp <;> omega, rfl⟩
theorem in_no (n lo hi : Int) (w : World) (h : n < lo ∨ hi < n) :
    Calls Tryz.prog 20 #[.int .i64 n, .int .i64 lo, .int .i64 hi] w fun e w' => e = .returned (.bool false) ∧ w = w' := by
  go_enter Tryz.func20, Tryz.ntmps20
  go_wp2
  all_goals
    go_ret
    exact ⟨by simp <;> omega, rfl⟩

end Go.Proofs.YtjnhiiidcjajbaaGreatDoor
