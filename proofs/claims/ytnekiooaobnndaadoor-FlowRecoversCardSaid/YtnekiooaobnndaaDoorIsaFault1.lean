/-
 The document answers what insFault says, at every instruction.
-/
import Derived.Test.YtnekiooaobnndaaDoorIsa0
namespace Go.Proofs.YtnekiooaobnndaaDoor
open Go.RowKit BH
set_option maxHeartbeats 2000000
set_option maxRecDepth 100000
theorem instrFault_bare (k : Nat) (h1 : 1 ≤ k) (h2 : k ≤ 4) (D A B N : Int) (Lg : Bool) (w : World) :
  Calls Tryd.prog 54 #[insV k D A B N Lg] w fun e w' => e = .returned (.int .i64 (fault false false false false true 2 D A B N Lg)) ∧ Keeps w w' := by
 obtain ⟨-, hl⟩ := row_bare k h1 h2
 have e5 : ((k : Int) == 5) = false := by simp; omega
 have e23 : ((k : Int) == 23) = false := by simp; omega
 have e24 : ((k : Int) == 24) = false := by simp; omega
 unfold insV
 by_cases zD : D ≠ 0
 have bD : (D == 0) = false := by simpa using zD
 have HF := Lib.hid (show fault false false false false true 2 D A B N Lg = 4 by simp [fault, regsOk, rangeOk] <;> omega)
 rotate_left
 obtain rfl : D = 0 := by omega
 by_cases zA : A ≠ 0
 have bA : (A == 0) = false := by simpa using zA
 have HF := Lib.hid (show fault false false false false true 2 0 A B N Lg = 4 by simp [fault, regsOk, rangeOk] <;> omega)
 rotate_left
 obtain rfl : A = 0 := by omega
 by_cases zB : B ≠ 0
 have bB : (B == 0) = false := by simpa using zB
 have HF := Lib.hid (show fault false false false false true 2 0 0 B N Lg = 4 by simp [fault, regsOk, rangeOk] <;> omega)
 rotate_left
 obtain rfl : B = 0 := by omega
 by_cases zN : N ≠ 0
 have bN : (N == 0) = false := by simpa using zN
 have HF := Lib.hid (show fault false false false false true 2 0 0 0 N Lg = 4 by simp [fault, regsOk, rangeOk] <;> omega)
 rotate_left
 obtain rfl : N = 0 := by omega
 rcases Bool.eq_false_or_eq_true Lg with rfl | rfl
 skip
 have HF := Lib.hid (show fault false false false false true 2 0 0 0 0 true = 4 by simp [fault])
 rotate_left
 have HF := Lib.hid (show fault false false false false true 2 0 0 0 0 false = 0 by simp [fault, regsOk, rangeOk] <;> omega)
 all_goals (go_enter Tryd.func54, Tryd.ntmps54; go_wp2_with (first | (go_at_call 73; refine (has_bare _ h1 h2 _).mono ?_; rintro e w' ⟨rfl, rfl⟩) | (go_at_call 52; refine (opOf_bare _ h1 h2 _).mono ?_; rintro e w' ⟨rfl, rfl⟩) | (go_at_call 23; refine (in_yes _ _ _ _ (by omega) (by omega)).mono ?_; rintro e w' ⟨rfl, rfl⟩) | (go_at_call 23; refine (in_no _ _ _ _ (by omega)).mono ?_; rintro e w' ⟨rfl, rfl⟩)); all_goals (go_ret; exact ⟨by rw [HF.out]; rfl, by repeat (first | exact Keeps.refl _ | apply Keeps.alloc)⟩))
theorem instrFault_wide (k : Nat) (h1 : 5 ≤ k) (h2 : k ≤ 5) (D A B N : Int) (Lg : Bool) (w : World) :
  Calls Tryd.prog 54 #[insV k D A B N Lg] w fun e w' => e = .returned (.int .i64 (fault true false false true true 0 D A B N Lg)) ∧ Keeps w w' := by
 obtain ⟨-, hl⟩ := row_wide k h1 h2
 have e5 : ((k : Int) == 5) = true := by simp; omega
 have e23 : ((k : Int) == 23) = false := by simp; omega
 have e24 : ((k : Int) == 24) = false := by simp; omega
 unfold insV
 by_cases zA : A ≠ 0
 have bA : (A == 0) = false := by simpa using zA
 have HF := Lib.hid (show fault true false false true true 0 D A B N Lg = 4 by simp [fault, regsOk, rangeOk] <;> omega)
 rotate_left
 obtain rfl : A = 0 := by omega
 by_cases zB : B ≠ 0
 have bB : (B == 0) = false := by simpa using zB
 have HF := Lib.hid (show fault true false false true true 0 D 0 B N Lg = 4 by simp [fault, regsOk, rangeOk] <;> omega)
 rotate_left
 obtain rfl : B = 0 := by omega
 rcases Bool.eq_false_or_eq_true Lg with rfl | rfl
 skip
 have HF := Lib.hid (show fault true false false true true 0 D 0 0 N true = 4 by simp [fault])
 rotate_left
 by_cases rD : D < 0 ∨ 8 ≤ D
 skip
 have HF := Lib.hid (show fault true false false true true 0 D 0 0 N false = 2 by simp [fault, regsOk, rangeOk] <;> omega)
 rotate_left
 obtain ⟨lD, uD⟩ : 0 ≤ D ∧ D < 8 := by omega
 clear rD
 by_cases rN : N < -32768 ∨ 32767 < N
 skip
 have HF := Lib.hid (show fault true false false true true 0 D 0 0 N false = 2 by simp [fault, regsOk, rangeOk] <;> omega)
 rotate_left
 obtain ⟨lN, uN⟩ : -32768 ≤ N ∧ N ≤ 32767 := by omega
 clear rN
 have HF := Lib.hid (show fault true false false true true 0 D 0 0 N false = 0 by simp [fault, regsOk, rangeOk] <;> omega)
 all_goals (go_enter Tryd.func54, Tryd.ntmps54; go_wp2_with (first | (go_at_call 73; refine (has_wide _ h1 h2 _).mono ?_; rintro e w' ⟨rfl, rfl⟩) | (go_at_call 52; refine (opOf_wide _ h1 h2 _).mono ?_; rintro e w' ⟨rfl, rfl⟩) | (go_at_call 23; refine (in_yes _ _ _ _ (by omega) (by omega)).mono ?_; rintro e w' ⟨rfl, rfl⟩) | (go_at_call 23; refine (in_no _ _ _ _ (by omega)).mono ?_; rintro e w' ⟨rfl, rfl⟩)); all_goals (go_ret; exact ⟨by rw [HF.out]; rfl, by repeat (first | exact Keeps.refl _ | apply Keeps.alloc)⟩))
theorem instrFault_pairA (k : Nat) (h1 : 6 ≤ k) (h2 : k ≤ 6) (D A B N : Int) (Lg : Bool) (w : World) :
  Calls Tryd.prog 54 #[insV k D A B N Lg] w fun e w' => e = .returned (.int .i64 (fault true true false true true 2 D A B N Lg)) ∧ Keeps w w' := by
 obtain ⟨-, hl⟩ := row_pairA k h1 h2
 have e5 : ((k : Int) == 5) = false := by simp; omega
 have e23 : ((k : Int) == 23) = false := by simp; omega
 have e24 : ((k : Int) == 24) = false := by simp; omega
 unfold insV
 by_cases zB : B ≠ 0
 have bB : (B == 0) = false := by simpa using zB
 have HF := Lib.hid (show fault true true false true true 2 D A B N Lg = 4 by simp [fault, regsOk, rangeOk] <;> omega)
 rotate_left
 obtain rfl : B = 0 := by omega
 rcases Bool.eq_false_or_eq_true Lg with rfl | rfl
 skip
 have HF := Lib.hid (show fault true true false true true 2 D A 0 N true = 4 by simp [fault])
 rotate_left
 by_cases rD : D < 0 ∨ 8 ≤ D
 skip
 have HF := Lib.hid (show fault true true false true true 2 D A 0 N false = 2 by simp [fault, regsOk, rangeOk] <;> omega)
 rotate_left
 obtain ⟨lD, uD⟩ : 0 ≤ D ∧ D < 8 := by omega
 clear rD
 by_cases rA : A < 0 ∨ 8 ≤ A
 skip
 have HF := Lib.hid (show fault true true false true true 2 D A 0 N false = 2 by simp [fault, regsOk, rangeOk] <;> omega)
 rotate_left
 obtain ⟨lA, uA⟩ : 0 ≤ A ∧ A < 8 := by omega
 clear rA
 by_cases rN : N < -128 ∨ 127 < N
 skip
 have HF := Lib.hid (show fault true true false true true 2 D A 0 N false = 2 by simp [fault, regsOk, rangeOk] <;> omega)
 rotate_left
 obtain ⟨lN, uN⟩ : -128 ≤ N ∧ N ≤ 127 := by omega
 clear rN
 have HF := Lib.hid (show fault true true false true true 2 D A 0 N false = 0 by simp [fault, regsOk, rangeOk] <;> omega)
 all_goals (go_enter Tryd.func54, Tryd.ntmps54; go_wp2_with (first | (go_at_call 73; refine (has_pairA _ h1 h2 _).mono ?_; rintro e w' ⟨rfl, rfl⟩) | (go_at_call 52; refine (opOf_pairA _ h1 h2 _).mono ?_; rintro e w' ⟨rfl, rfl⟩) | (go_at_call 23; refine (in_yes _ _ _ _ (by omega) (by omega)).mono ?_; rintro e w' ⟨rfl, rfl⟩) | (go_at_call 23; refine (in_no _ _ _ _ (by omega)).mono ?_; rintro e w' ⟨rfl, rfl⟩)); all_goals (go_ret; exact ⟨by rw [HF.out]; rfl, by repeat (first | exact Keeps.refl _ | apply Keeps.alloc)⟩))
theorem instrFault_three (k : Nat) (h1 : 7 ≤ k) (h2 : k ≤ 13) (D A B N : Int) (Lg : Bool) (w : World) :
  Calls Tryd.prog 54 #[insV k D A B N Lg] w fun e w' => e = .returned (.int .i64 (fault true true true false true 2 D A B N Lg)) ∧ Keeps w w' := by
 obtain ⟨-, hl⟩ := row_three k h1 h2
 have e5 : ((k : Int) == 5) = false := by simp; omega
 have e23 : ((k : Int) == 23) = false := by simp; omega
 have e24 : ((k : Int) == 24) = false := by simp; omega
 unfold insV
 by_cases zN : N ≠ 0
 have bN : (N == 0) = false := by simpa using zN
 have HF := Lib.hid (show fault true true true false true 2 D A B N Lg = 4 by simp [fault, regsOk, rangeOk] <;> omega)
 rotate_left
 obtain rfl : N = 0 := by omega
 rcases Bool.eq_false_or_eq_true Lg with rfl | rfl
 skip
 have HF := Lib.hid (show fault true true true false true 2 D A B 0 true = 4 by simp [fault])
 rotate_left
 by_cases rD : D < 0 ∨ 8 ≤ D
 skip
 have HF := Lib.hid (show fault true true true false true 2 D A B 0 false = 2 by simp [fault, regsOk, rangeOk] <;> omega)
 rotate_left
 obtain ⟨lD, uD⟩ : 0 ≤ D ∧ D < 8 := by omega
 clear rD
 by_cases rA : A < 0 ∨ 8 ≤ A
 skip
 have HF := Lib.hid (show fault true true true false true 2 D A B 0 false = 2 by simp [fault, regsOk, rangeOk] <;> omega)
 rotate_left
 obtain ⟨lA, uA⟩ : 0 ≤ A ∧ A < 8 := by omega
 clear rA
 by_cases rB : B < 0 ∨ 8 ≤ B
 skip
 have HF := Lib.hid (show fault true true true false true 2 D A B 0 false = 2 by simp [fault, regsOk, rangeOk] <;> omega)
 rotate_left
 obtain ⟨lB, uB⟩ : 0 ≤ B ∧ B < 8 := by omega
 clear rB
 have HF := Lib.hid (show fault true true true false true 2 D A B 0 false = 0 by simp [fault, regsOk, rangeOk] <;> omega)
 all_goals (go_enter Tryd.func54, Tryd.ntmps54; go_wp2_with (first | (go_at_call 73; refine (has_three _ h1 h2 _).mono ?_; rintro e w' ⟨rfl, rfl⟩) | (go_at_call 52; refine (opOf_three _ h1 h2 _).mono ?_; rintro e w' ⟨rfl, rfl⟩) | (go_at_call 23; refine (in_yes _ _ _ _ (by omega) (by omega)).mono ?_; rintro e w' ⟨rfl, rfl⟩) | (go_at_call 23; refine (in_no _ _ _ _ (by omega)).mono ?_; rintro e w' ⟨rfl, rfl⟩)); all_goals (go_ret; exact ⟨by rw [HF.out]; rfl, by repeat (first | exact Keeps.refl _ | apply Keeps.alloc)⟩))
end Go.Proofs.YtnekiooaobnndaaDoor
