/-
 isa.Check answers what insFault says, at every instruction.
-/
import Derived.Test.YtnekiooaobnndaaDoorIsa0
namespace Go.Proofs.YtnekiooaobnndaaDoor
open Go.RowKit BH
set_option maxHeartbeats 2000000
set_option maxRecDepth 100000
theorem check_pairB (k : Nat) (h1 : 14 ≤ k) (h2 : k ≤ 14) (D A B N : Int) (Lg : Bool) (w : World) (ht : Tab w) :
  Calls Tryd.prog 70 #[insV k D A B N Lg] w fun e w' => e = .returned (.int .i64 (fault true true false true true 2 D A B N Lg)) ∧ Keeps w w' := by
 obtain ⟨hs, hl⟩ := row_pairB k h1 h2
 obtain ⟨c0, c1, c2⟩ := ht k (by omega)
 rw [hs] at c2
 have hG : 0 < w.heap.size := lt_of_cell c0
 clear hs ht
 unfold insV
 by_cases zB : B ≠ 0
 have bB : (B == 0) = false := by simpa using zB
 have HF := Lib.hid (show fault true true false true true 2 D A B N Lg = 4 by simp [fault, regsOk, rangeOk] <;> omega)
 rotate_left
 obtain rfl : B = 0 := by omega
 rcases Bool.eq_false_or_eq_true Lg with rfl | rfl
 skip
 have HF := Lib.hid (show fault true true false true true 2 D A 0 N true = 4 by simp [fault])
 rotate_left
 by_cases rD : D < 0 ∨ 8 ≤ D
 skip
 have HF := Lib.hid (show fault true true false true true 2 D A 0 N false = 2 by simp [fault, regsOk, rangeOk] <;> omega)
 rotate_left
 obtain ⟨lD, uD⟩ : 0 ≤ D ∧ D < 8 := by omega
 clear rD
 by_cases rA : A < 0 ∨ 8 ≤ A
 skip
 have HF := Lib.hid (show fault true true false true true 2 D A 0 N false = 2 by simp [fault, regsOk, rangeOk] <;> omega)
 rotate_left
 obtain ⟨lA, uA⟩ : 0 ≤ A ∧ A < 8 := by omega
 clear rA
 by_cases rN : N < -128 ∨ 127 < N
 skip
 have HF := Lib.hid (show fault true true false true true 2 D A 0 N false = 2 by simp [fault, regsOk, rangeOk] <;> omega)
 rotate_left
 obtain ⟨lN, uN⟩ : -128 ≤ N ∧ N ≤ 127 := by omega
 clear rN
 have HF := Lib.hid (show fault true true false true true 2 D A 0 N false = 0 by simp [fault, regsOk, rangeOk] <;> omega)
 all_goals (go_enter Tryd.func70, Tryd.ntmps70; go_wp2_with (first | (go_at_call 80; refine (operands_3 _ _ _ _ _ _ _).mono ?_; rintro e w' ⟨rfl, rfl⟩) | (go_at_call 81; refine (reg_yes _ _ (by omega) (by omega)).mono ?_; rintro e w' ⟨rfl, rfl⟩) | (go_at_call 81; refine (reg_no _ _ (by omega)).mono ?_; rintro e w' ⟨rfl, rfl⟩) | (go_at_call 84; refine (near_yes _ _ (by omega) (by omega)).mono ?_; rintro e w' ⟨rfl, rfl⟩) | (go_at_call 84; refine (near_no _ _ (by omega)).mono ?_; rintro e w' ⟨rfl, rfl⟩) | (go_at_call 82; refine (far_yes _ _ (by omega) (by omega)).mono ?_; rintro e w' ⟨rfl, rfl⟩) | (go_at_call 82; refine (far_no _ _ (by omega)).mono ?_; rintro e w' ⟨rfl, rfl⟩) | (go_at_call 83; refine (within_yes _ _ _ _ (by omega) (by omega)).mono ?_; rintro e w' ⟨rfl, rfl⟩) | (go_at_call 83; refine (within_no _ _ _ _ (by omega)).mono ?_; rintro e w' ⟨rfl, rfl⟩)); all_goals (go_ret; exact ⟨by rw [HF.out]; rfl, by repeat (first | exact Keeps.refl _ | apply Keeps.alloc)⟩))
theorem check_store (k : Nat) (h1 : 15 ≤ k) (h2 : k ≤ 15) (D A B N : Int) (Lg : Bool) (w : World) (ht : Tab w) :
  Calls Tryd.prog 70 #[insV k D A B N Lg] w fun e w' => e = .returned (.int .i64 (fault false true true true true 2 D A B N Lg)) ∧ Keeps w w' := by
 obtain ⟨hs, hl⟩ := row_store k h1 h2
 obtain ⟨c0, c1, c2⟩ := ht k (by omega)
 rw [hs] at c2
 have hG : 0 < w.heap.size := lt_of_cell c0
 clear hs ht
 unfold insV
 by_cases zD : D ≠ 0
 have bD : (D == 0) = false := by simpa using zD
 have HF := Lib.hid (show fault false true true true true 2 D A B N Lg = 4 by simp [fault, regsOk, rangeOk] <;> omega)
 rotate_left
 obtain rfl : D = 0 := by omega
 rcases Bool.eq_false_or_eq_true Lg with rfl | rfl
 skip
 have HF := Lib.hid (show fault false true true true true 2 0 A B N true = 4 by simp [fault])
 rotate_left
 by_cases rA : A < 0 ∨ 8 ≤ A
 skip
 have HF := Lib.hid (show fault false true true true true 2 0 A B N false = 2 by simp [fault, regsOk, rangeOk] <;> omega)
 rotate_left
 obtain ⟨lA, uA⟩ : 0 ≤ A ∧ A < 8 := by omega
 clear rA
 by_cases rB : B < 0 ∨ 8 ≤ B
 skip
 have HF := Lib.hid (show fault false true true true true 2 0 A B N false = 2 by simp [fault, regsOk, rangeOk] <;> omega)
 rotate_left
 obtain ⟨lB, uB⟩ : 0 ≤ B ∧ B < 8 := by omega
 clear rB
 by_cases rN : N < -128 ∨ 127 < N
 skip
 have HF := Lib.hid (show fault false true true true true 2 0 A B N false = 2 by simp [fault, regsOk, rangeOk] <;> omega)
 rotate_left
 obtain ⟨lN, uN⟩ : -128 ≤ N ∧ N ≤ 127 := by omega
 clear rN
 have HF := Lib.hid (show fault false true true true true 2 0 A B N false = 0 by simp [fault, regsOk, rangeOk] <;> omega)
 all_goals (go_enter Tryd.func70, Tryd.ntmps70; go_wp2_with (first | (go_at_call 80; refine (operands_5 _ _ _ _ _ _ _).mono ?_; rintro e w' ⟨rfl, rfl⟩) | (go_at_call 81; refine (reg_yes _ _ (by omega) (by omega)).mono ?_; rintro e w' ⟨rfl, rfl⟩) | (go_at_call 81; refine (reg_no _ _ (by omega)).mono ?_; rintro e w' ⟨rfl, rfl⟩) | (go_at_call 84; refine (near_yes _ _ (by omega) (by omega)).mono ?_; rintro e w' ⟨rfl, rfl⟩) | (go_at_call 84; refine (near_no _ _ (by omega)).mono ?_; rintro e w' ⟨rfl, rfl⟩) | (go_at_call 82; refine (far_yes _ _ (by omega) (by omega)).mono ?_; rintro e w' ⟨rfl, rfl⟩) | (go_at_call 82; refine (far_no _ _ (by omega)).mono ?_; rintro e w' ⟨rfl, rfl⟩) | (go_at_call 83; refine (within_yes _ _ _ _ (by omega) (by omega)).mono ?_; rintro e w' ⟨rfl, rfl⟩) | (go_at_call 83; refine (within_no _ _ _ _ (by omega)).mono ?_; rintro e w' ⟨rfl, rfl⟩)); all_goals (go_ret; exact ⟨by rw [HF.out]; rfl, by repeat (first | exact Keeps.refl _ | apply Keeps.alloc)⟩))
theorem check_dest (k : Nat) (h1 : 16 ≤ k) (h2 : k ≤ 16) (D A B N : Int) (Lg : Bool) (w : World) (ht : Tab w) :
  Calls Tryd.prog 70 #[insV k D A B N Lg] w fun e w' => e = .returned (.int .i64 (fault true false false false true 2 D A B N Lg)) ∧ Keeps w w' := by
 obtain ⟨hs, hl⟩ := row_dest k h1 h2
 obtain ⟨c0, c1, c2⟩ := ht k (by omega)
 rw [hs] at c2
 have hG : 0 < w.heap.size := lt_of_cell c0
 clear hs ht
 unfold insV
 by_cases zA : A ≠ 0
 have bA : (A == 0) = false := by simpa using zA
 have HF := Lib.hid (show fault true false false false true 2 D A B N Lg = 4 by simp [fault, regsOk, rangeOk] <;> omega)
 rotate_left
 obtain rfl : A = 0 := by omega
 by_cases zB : B ≠ 0
 have bB : (B == 0) = false := by simpa using zB
 have HF := Lib.hid (show fault true false false false true 2 D 0 B N Lg = 4 by simp [fault, regsOk, rangeOk] <;> omega)
 rotate_left
 obtain rfl : B = 0 := by omega
 by_cases zN : N ≠ 0
 have bN : (N == 0) = false := by simpa using zN
 have HF := Lib.hid (show fault true false false false true 2 D 0 0 N Lg = 4 by simp [fault, regsOk, rangeOk] <;> omega)
 rotate_left
 obtain rfl : N = 0 := by omega
 rcases Bool.eq_false_or_eq_true Lg with rfl | rfl
 skip
 have HF := Lib.hid (show fault true false false false true 2 D 0 0 0 true = 4 by simp [fault])
 rotate_left
 by_cases rD : D < 0 ∨ 8 ≤ D
 skip
 have HF := Lib.hid (show fault true false false false true 2 D 0 0 0 false = 2 by simp [fault, regsOk, rangeOk] <;> omega)
 rotate_left
 obtain ⟨lD, uD⟩ : 0 ≤ D ∧ D < 8 := by omega
 clear rD
 have HF := Lib.hid (show fault true false false false true 2 D 0 0 0 false = 0 by simp [fault, regsOk, rangeOk] <;> omega)
 all_goals (go_enter Tryd.func70, Tryd.ntmps70; go_wp2_with (first | (go_at_call 80; refine (operands_6 _ _ _ _ _ _ _).mono ?_; rintro e w' ⟨rfl, rfl⟩) | (go_at_call 81; refine (reg_yes _ _ (by omega) (by omega)).mono ?_; rintro e w' ⟨rfl, rfl⟩) | (go_at_call 81; refine (reg_no _ _ (by omega)).mono ?_; rintro e w' ⟨rfl, rfl⟩) | (go_at_call 84; refine (near_yes _ _ (by omega) (by omega)).mono ?_; rintro e w' ⟨rfl, rfl⟩) | (go_at_call 84; refine (near_no _ _ (by omega)).mono ?_; rintro e w' ⟨rfl, rfl⟩) | (go_at_call 82; refine (far_yes _ _ (by omega) (by omega)).mono ?_; rintro e w' ⟨rfl, rfl⟩) | (go_at_call 82; refine (far_no _ _ (by omega)).mono ?_; rintro e w' ⟨rfl, rfl⟩) | (go_at_call 83; refine (within_yes _ _ _ _ (by omega) (by omega)).mono ?_; rintro e w' ⟨rfl, rfl⟩) | (go_at_call 83; refine (within_no _ _ _ _ (by omega)).mono ?_; rintro e w' ⟨rfl, rfl⟩)); all_goals (go_ret; exact ⟨by rw [HF.out]; rfl, by repeat (first | exact Keeps.refl _ | apply Keeps.alloc)⟩))
theorem check_source (k : Nat) (h1 : 17 ≤ k) (h2 : k ≤ 17) (D A B N : Int) (Lg : Bool) (w : World) (ht : Tab w) :
  Calls Tryd.prog 70 #[insV k D A B N Lg] w fun e w' => e = .returned (.int .i64 (fault false true false false true 2 D A B N Lg)) ∧ Keeps w w' := by
 obtain ⟨hs, hl⟩ := row_source k h1 h2
 obtain ⟨c0, c1, c2⟩ := ht k (by omega)
 rw [hs] at c2
 have hG : 0 < w.heap.size := lt_of_cell c0
 clear hs ht
 unfold insV
 by_cases zD : D ≠ 0
 have bD : (D == 0) = false := by simpa using zD
 have HF := Lib.hid (show fault false true false false true 2 D A B N Lg = 4 by simp [fault, regsOk, rangeOk] <;> omega)
 rotate_left
 obtain rfl : D = 0 := by omega
 by_cases zB : B ≠ 0
 have bB : (B == 0) = false := by simpa using zB
 have HF := Lib.hid (show fault false true false false true 2 0 A B N Lg = 4 by simp [fault, regsOk, rangeOk] <;> omega)
 rotate_left
 obtain rfl : B = 0 := by omega
 by_cases zN : N ≠ 0
 have bN : (N == 0) = false := by simpa using zN
 have HF := Lib.hid (show fault false true false false true 2 0 A 0 N Lg = 4 by simp [fault, regsOk, rangeOk] <;> omega)
 rotate_left
 obtain rfl : N = 0 := by omega
 rcases Bool.eq_false_or_eq_true Lg with rfl | rfl
 skip
 have HF := Lib.hid (show fault false true false false true 2 0 A 0 0 true = 4 by simp [fault])
 rotate_left
 by_cases rA : A < 0 ∨ 8 ≤ A
 skip
 have HF := Lib.hid (show fault false true false false true 2 0 A 0 0 false = 2 by simp [fault, regsOk, rangeOk] <;> omega)
 rotate_left
 obtain ⟨lA, uA⟩ : 0 ≤ A ∧ A < 8 := by omega
 clear rA
 have HF := Lib.hid (show fault false true false false true 2 0 A 0 0 false = 0 by simp [fault, regsOk, rangeOk] <;> omega)
 all_goals (go_enter Tryd.func70, Tryd.ntmps70; go_wp2_with (first | (go_at_call 80; refine (operands_7 _ _ _ _ _ _ _).mono ?_; rintro e w' ⟨rfl, rfl⟩) | (go_at_call 81; refine (reg_yes _ _ (by omega) (by omega)).mono ?_; rintro e w' ⟨rfl, rfl⟩) | (go_at_call 81; refine (reg_no _ _ (by omega)).mono ?_; rintro e w' ⟨rfl, rfl⟩) | (go_at_call 84; refine (near_yes _ _ (by omega) (by omega)).mono ?_; rintro e w' ⟨rfl, rfl⟩) | (go_at_call 84; refine (near_no _ _ (by omega)).mono ?_; rintro e w' ⟨rfl, rfl⟩) | (go_at_call 82; refine (far_yes _ _ (by omega) (by omega)).mono ?_; rintro e w' ⟨rfl, rfl⟩) | (go_at_call 82; refine (far_no _ _ (by omega)).mono ?_; rintro e w' ⟨rfl, rfl⟩) | (go_at_call 83; refine (within_yes _ _ _ _ (by omega) (by omega)).mono ?_; rintro e w' ⟨rfl, rfl⟩) | (go_at_call 83; refine (within_no _ _ _ _ (by omega)).mono ?_; rintro e w' ⟨rfl, rfl⟩)); all_goals (go_ret; exact ⟨by rw [HF.out]; rfl, by repeat (first | exact Keeps.refl _ | apply Keeps.alloc)⟩))
end Go.Proofs.YtnekiooaobnndaaDoor
