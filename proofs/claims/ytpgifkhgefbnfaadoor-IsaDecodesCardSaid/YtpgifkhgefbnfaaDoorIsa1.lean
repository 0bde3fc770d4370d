/-
  isa.Check and the document's InstrFault: one contract each, for every instruction.
-/
import Derived.Test.YtpgifkhgefbnfaaDoorIsaCheck1
import Derived.Test.YtpgifkhgefbnfaaDoorIsaCheck2
import Derived.Test.YtpgifkhgefbnfaaDoorIsaCheck3
import Derived.Test.YtpgifkhgefbnfaaDoorIsaFault1
import Derived.Test.YtpgifkhgefbnfaaDoorIsaFault2
import Derived.Test.YtpgifkhgefbnfaaDoorIsaFault3
namespace Go.Proofs.YtpgifkhgefbnfaaDoor
open Go.RowKit BH
set_option maxHeartbeats 1000000
set_option maxRecDepth 100000
theorem check_bad (K D A B N : Int) (Lg : Bool) (w : World) (h : K < 1 ∨ 24 < K) :
    Calls Tryd.prog 20 #[insV K D A B N Lg] w fun e w' => e = .returned (.int .i64 3) ∧ Keeps w w' := by
  unfold insV
  go_enter Tryd.func20, Tryd.ntmps20
  go_wp2_with fail
  all_goals first
    | (exfalso; omega)
    | (go_ret; exact ⟨rfl, by repeat (first | exact Keeps.refl _ | apply Keeps.alloc)⟩)
theorem instrFault_bad (K D A B N : Int) (Lg : Bool) (w : World) (h : K < 1 ∨ 24 < K) :
    Calls Tryd.prog 25 #[insV K D A B N Lg] w fun e w' => e = .returned (.int .i64 3) ∧ Keeps w w' := by
  unfold insV
  go_enter Tryd.func25, Tryd.ntmps25
  go_wp2_with (go_at_call 21; refine (in_no _ _ _ _ (by omega)).mono ?_; rintro e w' ⟨rfl, rfl⟩)
  go_ret
  exact ⟨rfl, by repeat (first | exact Keeps.refl _ | apply Keeps.alloc)⟩
theorem insFault_bad {K D A B N : Int} {Lg : Bool} (h : K < 1 ∨ 24 < K) : insFault K D A B N Lg = 3 := by unfold insFault; rw [if_pos h]
theorem check_any (K D A B N : Int) (Lg : Bool) (w : World) (ht : Tab w) :
    Calls Tryd.prog 20 #[insV K D A B N Lg] w fun e w' => e = .returned (.int .i64 (insFault K D A B N Lg)) ∧ Keeps w w' := by
  by_cases h : K < 1 ∨ 24 < K
  · rw [insFault_bad h]; exact check_bad K D A B N Lg w h
  · obtain ⟨k, rfl⟩ : ∃ k : Nat, K = k := ⟨K.toNat, by omega⟩
    by_cases hbare : k ≤ 4
    · rw [insFault_bare k (by omega) hbare]; exact check_bare k (by omega) hbare D A B N Lg w ht
    by_cases hwide : k ≤ 5
    · rw [insFault_wide k (by omega) hwide]; exact check_wide k (by omega) hwide D A B N Lg w ht
    by_cases hpairA : k ≤ 6
    · rw [insFault_pairA k (by omega) hpairA]; exact check_pairA k (by omega) hpairA D A B N Lg w ht
    by_cases hthree : k ≤ 13
    · rw [insFault_three k (by omega) hthree]; exact check_three k (by omega) hthree D A B N Lg w ht
    by_cases hpairB : k ≤ 14
    · rw [insFault_pairB k (by omega) hpairB]; exact check_pairB k (by omega) hpairB D A B N Lg w ht
    by_cases hstore : k ≤ 15
    · rw [insFault_store k (by omega) hstore]; exact check_store k (by omega) hstore D A B N Lg w ht
    by_cases hdest : k ≤ 16
    · rw [insFault_dest k (by omega) hdest]; exact check_dest k (by omega) hdest D A B N Lg w ht
    by_cases hsource : k ≤ 17
    · rw [insFault_source k (by omega) hsource]; exact check_source k (by omega) hsource D A B N Lg w ht
    by_cases hbranch : k ≤ 21
    · rw [insFault_branch k (by omega) hbranch]; exact check_branch k (by omega) hbranch D A B N Lg w ht
    by_cases hjump : k ≤ 22
    · rw [insFault_jump k (by omega) hjump]; exact check_jump k (by omega) hjump D A B N Lg w ht
    by_cases hcall : k ≤ 23
    · rw [insFault_call k (by omega) hcall]; exact check_call k (by omega) hcall D A B N Lg w ht
    by_cases htable : k ≤ 24
    · rw [insFault_table k (by omega) htable]; exact check_table k (by omega) htable D A B N Lg w ht
    omega
theorem instrFault_any (K D A B N : Int) (Lg : Bool) (w : World) :
    Calls Tryd.prog 25 #[insV K D A B N Lg] w fun e w' => e = .returned (.int .i64 (insFault K D A B N Lg)) ∧ Keeps w w' := by
  by_cases h : K < 1 ∨ 24 < K
  · rw [insFault_bad h]; exact instrFault_bad K D A B N Lg w h
  · obtain ⟨k, rfl⟩ : ∃ k : Nat, K = k := ⟨K.toNat, by omega⟩
    by_cases hbare : k ≤ 4
    · rw [insFault_bare k (by omega) hbare]; exact instrFault_bare k (by omega) hbare D A B N Lg w
    by_cases hwide : k ≤ 5
    · rw [insFault_wide k (by omega) hwide]; exact instrFault_wide k (by omega) hwide D A B N Lg w
    by_cases hpairA : k ≤ 6
    · rw [insFault_pairA k (by omega) hpairA]; exact instrFault_pairA k (by omega) hpairA D A B N Lg w
    by_cases hthree : k ≤ 13
    · rw [insFault_three k (by omega) hthree]; exact instrFault_three k (by omega) hthree D A B N Lg w
    by_cases hpairB : k ≤ 14
    · rw [insFault_pairB k (by omega) hpairB]; exact instrFault_pairB k (by omega) hpairB D A B N Lg w
    by_cases hstore : k ≤ 15
    · rw [insFault_store k (by omega) hstore]; exact instrFault_store k (by omega) hstore D A B N Lg w
    by_cases hdest : k ≤ 16
    · rw [insFault_dest k (by omega) hdest]; exact instrFault_dest k (by omega) hdest D A B N Lg w
    by_cases hsource : k ≤ 17
    · rw [insFault_source k (by omega) hsource]; exact instrFault_source k (by omega) hsource D A B N Lg w
    by_cases hbranch : k ≤ 21
    · rw [insFault_branch k (by omega) hbranch]; exact instrFault_branch k (by omega) hbranch D A B N Lg w
    by_cases hjump : k ≤ 22
    · rw [insFault_jump k (by omega) hjump]; exact instrFault_jump k (by omega) hjump D A B N Lg w
    by_cases hcall : k ≤ 23
    · rw [insFault_call k (by omega) hcall]; exact instrFault_call k (by omega) hcall D A B N Lg w
    by_cases htable : k ≤ 24
    · rw [insFault_table k (by omega) htable]; exact instrFault_table k (by omega) htable D A B N Lg w
    omega
end Go.Proofs.YtpgifkhgefbnfaaDoor
