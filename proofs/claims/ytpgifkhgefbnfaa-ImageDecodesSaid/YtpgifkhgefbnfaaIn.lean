/-
  The document's In: is a number from low to high?
-/
import Derived.Test.YtpgifkhgefbnfaaProg
import Derived.Test.YtpgifkhgefbnfaaCore
import Derived.Lib.Hide
namespace Go.Proofs.Ytpgifkhgefbnfaa
open Go.RowKit BH

theorem in_yes (n lo hi : Int) (w : World) (h1 : lo ≤ n) (h2 : n ≤ hi) :
    Calls Try.prog 43 #[.int .i64 n, .int .i64 lo, .int .i64 hi] w fun e w' => e = .returned (.bool true) ∧ w = w' := by
  go_enter Try.func43, Try.ntmps43
  go_wp2
  go_ret
  exact ⟨by simp <;> omega, rfl⟩
theorem in_no (n lo hi : Int) (w : World) (h : n < lo ∨ hi < n) :
    Calls Try.prog 43 #[.int .i64 n, .int .i64 lo, .int .i64 hi] w fun e w' => e = .returned (.bool false) ∧ w = w' := by
  go_enter Try.func43, Try.ntmps43
  go_wp2
  all_goals
    go_ret
    exact ⟨by simp <;> omega, rfl⟩

end Go.Proofs.Ytpgifkhgefbnfaa
