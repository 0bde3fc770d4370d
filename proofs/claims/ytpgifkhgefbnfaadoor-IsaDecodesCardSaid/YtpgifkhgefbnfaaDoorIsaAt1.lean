/-
  What the document's InstrAt finds on its way: opOf for every kind; the block of the instruction as the search leaves it.
-/
import Derived.Test.YtpgifkhgefbnfaaDoorIsaDec2
namespace Go.Proofs.YtpgifkhgefbnfaaDoor
open Go.RowKit BH
set_option maxHeartbeats 1000000
set_option maxRecDepth 100000
theorem opOf_any (k : Nat) (h1 : 1 ≤ k) (h2 : k ≤ 24) (w : World) :
    Calls Tryd.prog 22 #[.int .i64 k] w fun e w' => e = .returned (.tuple #[.int .i64 (opT k), .int .i64 (longT k)]) ∧ w = w' := by
  by_cases hbare : k ≤ 4
  · exact opOf_bare k (by omega) hbare w
  by_cases hwide : k ≤ 5
  · exact opOf_wide k (by omega) hwide w
  by_cases hpairA : k ≤ 6
  · exact opOf_pairA k (by omega) hpairA w
  by_cases hthree : k ≤ 13
  · exact opOf_three k (by omega) hthree w
  by_cases hpairB : k ≤ 14
  · exact opOf_pairB k (by omega) hpairB w
  by_cases hstore : k ≤ 15
  · exact opOf_store k (by omega) hstore w
  by_cases hdest : k ≤ 16
  · exact opOf_dest k (by omega) hdest w
  by_cases hsource : k ≤ 17
  · exact opOf_source k (by omega) hsource w
  by_cases hbranch : k ≤ 21
  · exact opOf_branch k (by omega) hbranch w
  by_cases hjump : k ≤ 22
  · exact opOf_jump k (by omega) hjump w
  by_cases hcall : k ≤ 23
  · exact opOf_call k (by omega) hcall w
  exact opOf_table k (by omega) h2 w

/-- the block of the result, and behind it the one of the instruction as the search has left it behind the kinds below j -/
def AtIn (g : Nat) (x0 : Int) (j : Nat) (w : World) : Prop :=
  Blk w g (.cells #[.int .i64 0, .int .i64 0, .int .i64 0, .int .i64 0, .int .i64 0, .bool false] 24) ∧
  Blk w (g + 1) (.cells #[.int .i64 (refGo x0 j).1, .int .i64 0, .int .i64 0, .int .i64 0, .int .i64 0, .bool (refGo x0 j).2] 24)
theorem atIn_of {g gi : Nat} {x0 : Int} {j : Nat} {w : World} (q : Nat × Bool) (hg : g + 1 = gi) (h1 : Blk w g (.cells #[.int .i64 0, .int .i64 0, .int .i64 0, .int .i64 0, .int .i64 0, .bool false] 24))
    (h2 : Blk w gi (.cells #[.int .i64 q.1, .int .i64 0, .int .i64 0, .int .i64 0, .int .i64 0, .bool q.2] 24)) (hq : refGo x0 j = q) : AtIn g x0 j w := by
  subst hg
  subst hq
  exact ⟨h1, h2⟩
end Go.Proofs.YtpgifkhgefbnfaaDoor
