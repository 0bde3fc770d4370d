/-
  isa.Encode and the document's BytesOf: one contract each, for every instruction.
-/
import Derived.Test.YtckofmijaiahbaaDoorIsaEnc2
import Derived.Test.YtckofmijaiahbaaDoorIsaRef1
import Derived.Test.YtckofmijaiahbaaDoorIsaRef2
namespace Go.Proofs.YtckofmijaiahbaaDoor
open Go.RowKit BH
set_option maxHeartbeats 1000000
set_option maxRecDepth 100000
/-- what isa.Encode answers -/
def encAns (K D A B N : Int) (Lg : Bool) : List Int := if insFault K D A B N Lg = 0 then insBytes K.toNat D A B N Lg else []
theorem encode_ok (k : Nat) (D A B N : Int) (Lg : Bool) (w : World) (ht : Tab w) (hF : insFault k D A B N Lg = 0) :
    Calls Tryd.prog 8 #[insV k D A B N Lg] w (GivesE (fun v w' => Octs w' v (insBytes k D A B N Lg)) 0 w) := by
  obtain ⟨b1, b2, -, -, -, hl⟩ := insFault_zero hF
  by_cases hbare : k ≤ 4
  · obtain rfl := hl (by omega)
    exact enc_bare k (by omega) hbare D A B N w ht hF
  by_cases hwide : k ≤ 5
  · obtain rfl := hl (by omega)
    exact enc_wide k (by omega) hwide D A B N w ht hF
  by_cases hpairA : k ≤ 6
  · obtain rfl := hl (by omega)
    exact enc_pairA k (by omega) hpairA D A B N w ht hF
  by_cases hthree : k ≤ 13
  · obtain rfl := hl (by omega)
    exact enc_three k (by omega) hthree D A B N w ht hF
  by_cases hpairB : k ≤ 14
  · obtain rfl := hl (by omega)
    exact enc_pairB k (by omega) hpairB D A B N w ht hF
  by_cases hstore : k ≤ 15
  · obtain rfl := hl (by omega)
    exact enc_store k (by omega) hstore D A B N w ht hF
  by_cases hdest : k ≤ 16
  · obtain rfl := hl (by omega)
    exact enc_dest k (by omega) hdest D A B N w ht hF
  by_cases hsource : k ≤ 17
  · obtain rfl := hl (by omega)
    exact enc_source k (by omega) hsource D A B N w ht hF
  by_cases hbranch : k ≤ 21
  · cases Lg with
    | false => exact enc_branchS k (by omega) hbranch D A B N w ht hF
    | true => exact enc_branchL k (by omega) hbranch D A B N w ht hF
  by_cases hjump : k ≤ 22
  · cases Lg with
    | false => exact enc_jumpS k (by omega) hjump D A B N w ht hF
    | true => exact enc_jumpL k (by omega) hjump D A B N w ht hF
  by_cases hcall : k ≤ 23
  · obtain rfl := hl (by omega)
    exact enc_call k (by omega) hcall D A B N w ht hF
  obtain rfl := hl (by omega)
  exact enc_table k (by omega) (by omega) D A B N w ht hF
theorem encode_bad (K D A B N : Int) (Lg : Bool) (w : World) (ht : Tab w) (h : insFault K D A B N Lg ≠ 0) :
    Calls Tryd.prog 8 #[insV K D A B N Lg] w (GivesE (fun v w' => Octs w' v []) (insFault K D A B N Lg) w) := by
  have HC := check_any K D A B N Lg _ (ht.keep ((Keeps.refl w).alloc (.cells #[.int .i64 K, .int .i64 D, .int .i64 A, .int .i64 B, .int .i64 N, .bool Lg] 23)))
  generalize insFault K D A B N Lg = F at h HC ⊢
  have hF : (F == 0) = false := by simpa using h
  have hF' : (F != 0) = true := by simpa using h
  clear h
  unfold insV at HC ⊢
  go_enter Tryd.func8, Tryd.ntmps8
  go_wp2_with fail
  refine HC.mono ?_
  rintro e w1 ⟨rfl, hk1⟩
  go_wp2
  go_ret2
  exact ⟨_, rfl, ⟨none, 0, rfl, by simp, by unfold maxLen; omega, fun _ => rfl, fun h => absurd h (by simp)⟩, ((Keeps.refl _).alloc _).trans hk1⟩
theorem encode_any (K D A B N : Int) (Lg : Bool) (w : World) (ht : Tab w) :
    Calls Tryd.prog 8 #[insV K D A B N Lg] w (GivesE (fun v w' => Octs w' v (encAns K D A B N Lg)) (insFault K D A B N Lg) w) := by
  unfold encAns
  by_cases h : insFault K D A B N Lg = 0
  · rw [if_pos h, h]
    obtain ⟨b1, b2⟩ := insFault_kind h
    obtain ⟨k, rfl⟩ : ∃ k : Nat, K = k := ⟨K.toNat, by omega⟩
    rw [Int.toNat_natCast]
    exact encode_ok k D A B N Lg w ht h
  · rw [if_neg h]; exact encode_bad K D A B N Lg w ht h
theorem bytesOf_ok (k : Nat) (D A B N : Int) (Lg : Bool) (w : World) (hF : insFault k D A B N Lg = 0) :
    Calls Tryd.prog 9 #[insV k D A B N Lg] w (GivesE (fun v w' => Octs w' v (insBytes k D A B N Lg)) 0 w) := by
  obtain ⟨b1, b2, -, -, -, hl⟩ := insFault_zero hF
  by_cases hbare : k ≤ 4
  · obtain rfl := hl (by omega)
    exact ref_bare k (by omega) hbare D A B N w hF
  by_cases hwide : k ≤ 5
  · obtain rfl := hl (by omega)
    exact ref_wide k (by omega) hwide D A B N w hF
  by_cases hpairA : k ≤ 6
  · obtain rfl := hl (by omega)
    exact ref_pairA k (by omega) hpairA D A B N w hF
  by_cases hthree : k ≤ 13
  · obtain rfl := hl (by omega)
    exact ref_three k (by omega) hthree D A B N w hF
  by_cases hpairB : k ≤ 14
  · obtain rfl := hl (by omega)
    exact ref_pairB k (by omega) hpairB D A B N w hF
  by_cases hstore : k ≤ 15
  · obtain rfl := hl (by omega)
    exact ref_store k (by omega) hstore D A B N w hF
  by_cases hdest : k ≤ 16
  · obtain rfl := hl (by omega)
    exact ref_dest k (by omega) hdest D A B N w hF
  by_cases hsource : k ≤ 17
  · obtain rfl := hl (by omega)
    exact ref_source k (by omega) hsource D A B N w hF
  by_cases hbranch : k ≤ 21
  · cases Lg with
    | false => exact ref_branchS k (by omega) hbranch D A B N w hF
    | true => exact ref_branchL k (by omega) hbranch D A B N w hF
  by_cases hjump : k ≤ 22
  · cases Lg with
    | false => exact ref_jumpS k (by omega) hjump D A B N w hF
    | true => exact ref_jumpL k (by omega) hjump D A B N w hF
  by_cases hcall : k ≤ 23
  · obtain rfl := hl (by omega)
    exact ref_call k (by omega) hcall D A B N w hF
  obtain rfl := hl (by omega)
  exact ref_table k (by omega) (by omega) D A B N w hF
theorem bytesOf_bad (K D A B N : Int) (Lg : Bool) (w : World) (h : insFault K D A B N Lg ≠ 0) :
    Calls Tryd.prog 9 #[insV K D A B N Lg] w (GivesE (fun v w' => Octs w' v []) (insFault K D A B N Lg) w) := by
  have HC := instrFault_any K D A B N Lg (w.alloc (.cells #[.int .i64 K, .int .i64 D, .int .i64 A, .int .i64 B, .int .i64 N, .bool Lg] 23))
  generalize insFault K D A B N Lg = F at h HC ⊢
  have hF : (F == 0) = false := by simpa using h
  have hF' : (F != 0) = true := by simpa using h
  clear h
  unfold insV at HC ⊢
  go_enter Tryd.func9, Tryd.ntmps9
  go_wp2_with fail
  refine HC.mono ?_
  rintro e w1 ⟨rfl, hk1⟩
  go_wp2
  go_ret2
  exact ⟨_, rfl, ⟨none, 0, rfl, by simp, by unfold maxLen; omega, fun _ => rfl, fun h => absurd h (by simp)⟩, ((Keeps.refl _).alloc _).trans hk1⟩
theorem bytesOf_any (K D A B N : Int) (Lg : Bool) (w : World) :
    Calls Tryd.prog 9 #[insV K D A B N Lg] w (GivesE (fun v w' => Octs w' v (encAns K D A B N Lg)) (insFault K D A B N Lg) w) := by
  unfold encAns
  by_cases h : insFault K D A B N Lg = 0
  · rw [if_pos h, h]
    obtain ⟨b1, b2⟩ := insFault_kind h
    obtain ⟨k, rfl⟩ : ∃ k : Nat, K = k := ⟨K.toNat, by omega⟩
    rw [Int.toNat_natCast]
    exact bytesOf_ok k D A B N Lg w h
  · rw [if_neg h]; exact bytesOf_bad K D A B N Lg w h
end Go.Proofs.YtckofmijaiahbaaDoor
