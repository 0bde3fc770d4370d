/-
 What isa.Check and the document's InstrFault answer, kind by kind; and the small functions that they call.
-/
import Derived.Test.YtnekiooaobnndaaDoorRegHead
namespace Go.Proofs.YtnekiooaobnndaaDoor
open Go.RowKit BH

/-- the table of the operators: first byte, first byte of the long form, shape -/
def opT (k : Nat) : Int := [0, 0, 1, 2, 3, 16, 17, 32, 33, 34, 35, 36, 37, 38, 48, 49, 64, 65, 80, 81, 82, 83, 96, 98, 99].getD k 0
def longT (k : Nat) : Int := [0, 0, 0, 0, 0, 0, 0, 0, 0, 0, 0, 0, 0, 0, 0, 0, 0, 0, 84, 85, 86, 87, 97, 0, 0].getD k 0
def shapeT (k : Nat) : Int := [0, 1, 1, 1, 1, 2, 3, 4, 4, 4, 4, 4, 4, 4, 3, 5, 6, 7, 8, 8, 8, 8, 9, 10, 11].getD k 0
def sizeT (s : Nat) : Int := [0, 1, 4, 3, 3, 3, 2, 2, 3, 2, 3, 3].getD s 0
/-- the package-level table isa.rows holds them -/
def Tab (w : World) : Prop := ∀ k, k < 25 → w.cell? ⟨0, k * 3, none⟩ = some (.int .u8 (opT k)) ∧ w.cell? ⟨0, k * 3 + 1, none⟩ = some (.int .u8 (longT k)) ∧ w.cell? ⟨0, k * 3 + 2, none⟩ = some (.int .i64 (shapeT k))
theorem Tab.keep {w w' : World} (h : Tab w) (hk : Keeps w w') : Tab w' := fun k hk' => ⟨hk.cell (h k hk').1, hk.cell (h k hk').2.1, hk.cell (h k hk').2.2⟩

def rangeOk (r : Nat) (N : Int) (Lg : Bool) : Prop :=
 if r = 0 ∨ Lg = true then -32768 ≤ N ∧ N ≤ 32767 else if r = 1 then 0 ≤ N ∧ N ≤ 19 else -128 ≤ N ∧ N ≤ 127
instance (r : Nat) (N : Int) (Lg : Bool) : Decidable (rangeOk r N Lg) := by unfold rangeOk; exact inferInstance
def regsOk (D A B : Int) : Prop := 0 ≤ D ∧ D < 8 ∧ 0 ≤ A ∧ A < 8 ∧ 0 ≤ B ∧ B < 8
instance (D A B : Int) : Decidable (regsOk D A B) := by unfold regsOk; exact inferInstance
/-- the fault of an instruction whose kind has these operands (d, a, b, n), no long form (lz), and numbers of the range r -/
def fault (d a b n lz : Bool) (r : Nat) (D A B N : Int) (Lg : Bool) : Int :=
 if (d = false ∧ D ≠ 0) ∨ (a = false ∧ A ≠ 0) ∨ (b = false ∧ B ≠ 0) ∨ (n = false ∧ N ≠ 0) ∨ (Lg = true ∧ lz = true) then 4
 else if ¬ regsOk D A B then 2
 else if ¬ rangeOk r N Lg then 2 else 0
def insFault (K D A B N : Int) (Lg : Bool) : Int :=
 if K < 1 ∨ 24 < K then 3
 else if K ≤ 4 then fault false false false false true 2 D A B N Lg
 else if K ≤ 5 then fault true false false true true 0 D A B N Lg
 else if K ≤ 6 then fault true true false true true 2 D A B N Lg
 else if K ≤ 13 then fault true true true false true 2 D A B N Lg
 else if K ≤ 14 then fault true true false true true 2 D A B N Lg
 else if K ≤ 15 then fault false true true true true 2 D A B N Lg
 else if K ≤ 16 then fault true false false false true 2 D A B N Lg
 else if K ≤ 17 then fault false true false false true 2 D A B N Lg
 else if K ≤ 21 then fault false true true true false 2 D A B N Lg
 else if K ≤ 22 then fault false false false true false 2 D A B N Lg
 else if K ≤ 23 then fault false false false true true 0 D A B N Lg
 else if K ≤ 24 then fault false true false true true 1 D A B N Lg
 else 0
theorem insFault_bare (k : Nat) (h1 : 1 ≤ k) (h2 : k ≤ 4) (D A B N : Int) (Lg : Bool) : insFault k D A B N Lg = fault false false false false true 2 D A B N Lg := by
 unfold insFault
 rw [if_neg (by omega)]
 rw [if_pos (by omega)]
theorem row_bare (k : Nat) (h1 : 1 ≤ k) (h2 : k ≤ 4) : shapeT k = 1 ∧ (longT k == 0) = true := by
 obtain rfl | rfl | rfl | rfl : k = 1 ∨ k = 2 ∨ k = 3 ∨ k = 4 := by omega
 all_goals exact ⟨rfl, rfl⟩
theorem insFault_wide (k : Nat) (h1 : 5 ≤ k) (h2 : k ≤ 5) (D A B N : Int) (Lg : Bool) : insFault k D A B N Lg = fault true false false true true 0 D A B N Lg := by
 unfold insFault
 rw [if_neg (by omega)]
 rw [if_neg (by omega)]
 rw [if_pos (by omega)]
theorem row_wide (k : Nat) (h1 : 5 ≤ k) (h2 : k ≤ 5) : shapeT k = 2 ∧ (longT k == 0) = true := by
 obtain rfl : k = 5 := by omega
 all_goals exact ⟨rfl, rfl⟩
theorem insFault_pairA (k : Nat) (h1 : 6 ≤ k) (h2 : k ≤ 6) (D A B N : Int) (Lg : Bool) : insFault k D A B N Lg = fault true true false true true 2 D A B N Lg := by
 unfold insFault
 rw [if_neg (by omega)]
 rw [if_neg (by omega)]
 rw [if_neg (by omega)]
 rw [if_pos (by omega)]
theorem row_pairA (k : Nat) (h1 : 6 ≤ k) (h2 : k ≤ 6) : shapeT k = 3 ∧ (longT k == 0) = true := by
 obtain rfl : k = 6 := by omega
 all_goals exact ⟨rfl, rfl⟩
theorem insFault_three (k : Nat) (h1 : 7 ≤ k) (h2 : k ≤ 13) (D A B N : Int) (Lg : Bool) : insFault k D A B N Lg = fault true true true false true 2 D A B N Lg := by
 unfold insFault
 rw [if_neg (by omega)]
 rw [if_neg (by omega)]
 rw [if_neg (by omega)]
 rw [if_neg (by omega)]
 rw [if_pos (by omega)]
theorem row_three (k : Nat) (h1 : 7 ≤ k) (h2 : k ≤ 13) : shapeT k = 4 ∧ (longT k == 0) = true := by
 obtain rfl | rfl | rfl | rfl | rfl | rfl | rfl : k = 7 ∨ k = 8 ∨ k = 9 ∨ k = 10 ∨ k = 11 ∨ k = 12 ∨ k = 13 := by omega
 all_goals exact ⟨rfl, rfl⟩
theorem insFault_pairB (k : Nat) (h1 : 14 ≤ k) (h2 : k ≤ 14) (D A B N : Int) (Lg : Bool) : insFault k D A B N Lg = fault true true false true true 2 D A B N Lg := by
 unfold insFault
 rw [if_neg (by omega)]
 rw [if_neg (by omega)]
 rw [if_neg (by omega)]
 rw [if_neg (by omega)]
 rw [if_neg (by omega)]
 rw [if_pos (by omega)]
theorem row_pairB (k : Nat) (h1 : 14 ≤ k) (h2 : k ≤ 14) : shapeT k = 3 ∧ (longT k == 0) = true := by
 obtain rfl : k = 14 := by omega
 all_goals exact ⟨rfl, rfl⟩
theorem insFault_store (k : Nat) (h1 : 15 ≤ k) (h2 : k ≤ 15) (D A B N : Int) (Lg : Bool) : insFault k D A B N Lg = fault false true true true true 2 D A B N Lg := by
 unfold insFault
 rw [if_neg (by omega)]
 rw [if_neg (by omega)]
 rw [if_neg (by omega)]
 rw [if_neg (by omega)]
 rw [if_neg (by omega)]
 rw [if_neg (by omega)]
 rw [if_pos (by omega)]
theorem row_store (k : Nat) (h1 : 15 ≤ k) (h2 : k ≤ 15) : shapeT k = 5 ∧ (longT k == 0) = true := by
 obtain rfl : k = 15 := by omega
 all_goals exact ⟨rfl, rfl⟩
theorem insFault_dest (k : Nat) (h1 : 16 ≤ k) (h2 : k ≤ 16) (D A B N : Int) (Lg : Bool) : insFault k D A B N Lg = fault true false false false true 2 D A B N Lg := by
 unfold insFault
 rw [if_neg (by omega)]
 rw [if_neg (by omega)]
 rw [if_neg (by omega)]
 rw [if_neg (by omega)]
 rw [if_neg (by omega)]
 rw [if_neg (by omega)]
 rw [if_neg (by omega)]
 rw [if_pos (by omega)]
theorem row_dest (k : Nat) (h1 : 16 ≤ k) (h2 : k ≤ 16) : shapeT k = 6 ∧ (longT k == 0) = true := by
 obtain rfl : k = 16 := by omega
 all_goals exact ⟨rfl, rfl⟩
theorem insFault_source (k : Nat) (h1 : 17 ≤ k) (h2 : k ≤ 17) (D A B N : Int) (Lg : Bool) : insFault k D A B N Lg = fault false true false false true 2 D A B N Lg := by
 unfold insFault
 rw [if_neg (by omega)]
 rw [if_neg (by omega)]
 rw [if_neg (by omega)]
 rw [if_neg (by omega)]
 rw [if_neg (by omega)]
 rw [if_neg (by omega)]
 rw [if_neg (by omega)]
 rw [if_neg (by omega)]
 rw [if_pos (by omega)]
theorem row_source (k : Nat) (h1 : 17 ≤ k) (h2 : k ≤ 17) : shapeT k = 7 ∧ (longT k == 0) = true := by
 obtain rfl : k = 17 := by omega
 all_goals exact ⟨rfl, rfl⟩
theorem insFault_branch (k : Nat) (h1 : 18 ≤ k) (h2 : k ≤ 21) (D A B N : Int) (Lg : Bool) : insFault k D A B N Lg = fault false true true true false 2 D A B N Lg := by
 unfold insFault
 rw [if_neg (by omega)]
 rw [if_neg (by omega)]
 rw [if_neg (by omega)]
 rw [if_neg (by omega)]
 rw [if_neg (by omega)]
 rw [if_neg (by omega)]
 rw [if_neg (by omega)]
 rw [if_neg (by omega)]
 rw [if_neg (by omega)]
 rw [if_pos (by omega)]
theorem row_branch (k : Nat) (h1 : 18 ≤ k) (h2 : k ≤ 21) : shapeT k = 8 ∧ (longT k == 0) = false := by
 obtain rfl | rfl | rfl | rfl : k = 18 ∨ k = 19 ∨ k = 20 ∨ k = 21 := by omega
 all_goals exact ⟨rfl, rfl⟩
theorem insFault_jump (k : Nat) (h1 : 22 ≤ k) (h2 : k ≤ 22) (D A B N : Int) (Lg : Bool) : insFault k D A B N Lg = fault false false false true false 2 D A B N Lg := by
 unfold insFault
 rw [if_neg (by omega)]
 rw [if_neg (by omega)]
 rw [if_neg (by omega)]
 rw [if_neg (by omega)]
 rw [if_neg (by omega)]
 rw [if_neg (by omega)]
 rw [if_neg (by omega)]
 rw [if_neg (by omega)]
 rw [if_neg (by omega)]
 rw [if_neg (by omega)]
 rw [if_pos (by omega)]
theorem row_jump (k : Nat) (h1 : 22 ≤ k) (h2 : k ≤ 22) : shapeT k = 9 ∧ (longT k == 0) = false := by
 obtain rfl : k = 22 := by omega
 all_goals exact ⟨rfl, rfl⟩
theorem insFault_call (k : Nat) (h1 : 23 ≤ k) (h2 : k ≤ 23) (D A B N : Int) (Lg : Bool) : insFault k D A B N Lg = fault false false false true true 0 D A B N Lg := by
 unfold insFault
 rw [if_neg (by omega)]
 rw [if_neg (by omega)]
 rw [if_neg (by omega)]
 rw [if_neg (by omega)]
 rw [if_neg (by omega)]
 rw [if_neg (by omega)]
 rw [if_neg (by omega)]
 rw [if_neg (by omega)]
 rw [if_neg (by omega)]
 rw [if_neg (by omega)]
 rw [if_neg (by omega)]
 rw [if_pos (by omega)]
theorem row_call (k : Nat) (h1 : 23 ≤ k) (h2 : k ≤ 23) : shapeT k = 10 ∧ (longT k == 0) = true := by
 obtain rfl : k = 23 := by omega
 all_goals exact ⟨rfl, rfl⟩
theorem insFault_table (k : Nat) (h1 : 24 ≤ k) (h2 : k ≤ 24) (D A B N : Int) (Lg : Bool) : insFault k D A B N Lg = fault false true false true true 1 D A B N Lg := by
 unfold insFault
 rw [if_neg (by omega)]
 rw [if_neg (by omega)]
 rw [if_neg (by omega)]
 rw [if_neg (by omega)]
 rw [if_neg (by omega)]
 rw [if_neg (by omega)]
 rw [if_neg (by omega)]
 rw [if_neg (by omega)]
 rw [if_neg (by omega)]
 rw [if_neg (by omega)]
 rw [if_neg (by omega)]
 rw [if_neg (by omega)]
 rw [if_pos (by omega)]
theorem row_table (k : Nat) (h1 : 24 ≤ k) (h2 : k ≤ 24) : shapeT k = 11 ∧ (longT k == 0) = true := by
 obtain rfl : k = 24 := by omega
 all_goals exact ⟨rfl, rfl⟩

set_option maxHeartbeats 1000000
set_option maxRecDepth 100000
theorem reg_yes (n : Int) (w : World) (h1 : 0 ≤ n) (h2 : n < 8) :
  Calls Tryd.prog 81 #[.int .i64 n] w fun e w' => e = .returned (.bool true) ∧ w = w' := by
 go_enter Tryd.func81, Tryd.ntmps81
 go_wp2
 go_ret
 exact ⟨by simp <;> omega, rfl⟩
theorem reg_no (n : Int) (w : World) (h : n < 0 ∨ 8 ≤ n) :
  Calls Tryd.prog 81 #[.int .i64 n] w fun e w' => e = .returned (.bool false) ∧ w = w' := by
 go_enter Tryd.func81, Tryd.ntmps81
 go_wp2
 all_goals
  go_ret
  exact ⟨by simp <;> omega, rfl⟩
theorem within_yes (n lo hi : Int) (w : World) (h1 : lo ≤ n) (h2 : n ≤ hi) :
  Calls Tryd.prog 83 #[.int .i64 n, .int .i64 lo, .int .i64 hi] w fun e w' => e = .returned (.bool true) ∧ w = w' := by
 go_enter Tryd.func83, Tryd.ntmps83
 go_wp2
 go_ret
 exact ⟨by simp <;> omega, rfl⟩
theorem within_no (n lo hi : Int) (w : World) (h : n < lo ∨ hi < n) :
  Calls Tryd.prog 83 #[.int .i64 n, .int .i64 lo, .int .i64 hi] w fun e w' => e = .returned (.bool false) ∧ w = w' := by
 go_enter Tryd.func83, Tryd.ntmps83
 go_wp2
 all_goals
  go_ret
  exact ⟨by simp <;> omega, rfl⟩
theorem near_yes (n : Int) (w : World) (h1 : -128 ≤ n) (h2 : n ≤ 127) :
  Calls Tryd.prog 84 #[.int .i64 n] w fun e w' => e = .returned (.bool true) ∧ w = w' := by
 go_enter Tryd.func84, Tryd.ntmps84
 go_wp2_with (go_at_call 83; refine (within_yes _ _ _ _ (by omega) (by omega)).mono ?_; rintro e w' ⟨rfl, rfl⟩)
 go_ret
 exact ⟨rfl, rfl⟩
theorem near_no (n : Int) (w : World) (h : n < -128 ∨ 127 < n) :
  Calls Tryd.prog 84 #[.int .i64 n] w fun e w' => e = .returned (.bool false) ∧ w = w' := by
 go_enter Tryd.func84, Tryd.ntmps84
 go_wp2_with (go_at_call 83; refine (within_no _ _ _ _ (by omega)).mono ?_; rintro e w' ⟨rfl, rfl⟩)
 go_ret
 exact ⟨rfl, rfl⟩
theorem far_yes (n : Int) (w : World) (h1 : -32768 ≤ n) (h2 : n ≤ 32767) :
  Calls Tryd.prog 82 #[.int .i64 n] w fun e w' => e = .returned (.bool true) ∧ w = w' := by
 go_enter Tryd.func82, Tryd.ntmps82
 go_wp2_with (go_at_call 83; refine (within_yes _ _ _ _ (by omega) (by omega)).mono ?_; rintro e w' ⟨rfl, rfl⟩)
 go_ret
 exact ⟨rfl, rfl⟩
theorem far_no (n : Int) (w : World) (h : n < -32768 ∨ 32767 < n) :
  Calls Tryd.prog 82 #[.int .i64 n] w fun e w' => e = .returned (.bool false) ∧ w = w' := by
 go_enter Tryd.func82, Tryd.ntmps82
 go_wp2_with (go_at_call 83; refine (within_no _ _ _ _ (by omega)).mono ?_; rintro e w' ⟨rfl, rfl⟩)
 go_ret
 exact ⟨rfl, rfl⟩
/-- an instruction as it is handed over -/
def insV (K D A B N : Int) (Lg : Bool) : Value := .agg #[.int .i64 K, .int .i64 D, .int .i64 A, .int .i64 B, .int .i64 N, .bool Lg]
theorem operands_1 (K D A B N : Int) (Lg : Bool) (w : World) :
  Calls Tryd.prog 80 #[insV K D A B N Lg, .int .i64 1] w fun e w' => e = .returned (.tuple #[.bool false, .bool false, .bool false, .bool false]) ∧ w.alloc (.cells #[.int .i64 K, .int .i64 D, .int .i64 A, .int .i64 B, .int .i64 N, .bool Lg] 61) = w' := by
 unfold insV
 go_enter Tryd.func80, Tryd.ntmps80
 go_wp2
 exact bodyPost_ret (v := .tuple #[.bool false, .bool false, .bool false, .bool false]) (by simp [results, Tryd.results80, go_sem]) rfl ⟨rfl, rfl⟩
theorem operands_2 (K D A B N : Int) (Lg : Bool) (w : World) :
  Calls Tryd.prog 80 #[insV K D A B N Lg, .int .i64 2] w fun e w' => e = .returned (.tuple #[.bool true, .bool false, .bool false, .bool true]) ∧ w.alloc (.cells #[.int .i64 K, .int .i64 D, .int .i64 A, .int .i64 B, .int .i64 N, .bool Lg] 61) = w' := by
 unfold insV
 go_enter Tryd.func80, Tryd.ntmps80
 go_wp2
 exact bodyPost_ret (v := .tuple #[.bool true, .bool false, .bool false, .bool true]) (by simp [results, Tryd.results80, go_sem]) rfl ⟨rfl, rfl⟩
theorem operands_3 (K D A B N : Int) (Lg : Bool) (w : World) :
  Calls Tryd.prog 80 #[insV K D A B N Lg, .int .i64 3] w fun e w' => e = .returned (.tuple #[.bool true, .bool true, .bool false, .bool true]) ∧ w.alloc (.cells #[.int .i64 K, .int .i64 D, .int .i64 A, .int .i64 B, .int .i64 N, .bool Lg] 61) = w' := by
 unfold insV
 go_enter Tryd.func80, Tryd.ntmps80
 go_wp2
 exact bodyPost_ret (v := .tuple #[.bool true, .bool true, .bool false, .bool true]) (by simp [results, Tryd.results80, go_sem]) rfl ⟨rfl, rfl⟩
theorem operands_4 (K D A B N : Int) (Lg : Bool) (w : World) :
  Calls Tryd.prog 80 #[insV K D A B N Lg, .int .i64 4] w fun e w' => e = .returned (.tuple #[.bool true, .bool true, .bool true, .bool false]) ∧ w.alloc (.cells #[.int .i64 K, .int .i64 D, .int .i64 A, .int .i64 B, .int .i64 N, .bool Lg] 61) = w' := by
 unfold insV
 go_enter Tryd.func80, Tryd.ntmps80
 go_wp2
 exact bodyPost_ret (v := .tuple #[.bool true, .bool true, .bool true, .bool false]) (by simp [results, Tryd.results80, go_sem]) rfl ⟨rfl, rfl⟩
theorem operands_5 (K D A B N : Int) (Lg : Bool) (w : World) :
  Calls Tryd.prog 80 #[insV K D A B N Lg, .int .i64 5] w fun e w' => e = .returned (.tuple #[.bool false, .bool true, .bool true, .bool true]) ∧ w.alloc (.cells #[.int .i64 K, .int .i64 D, .int .i64 A, .int .i64 B, .int .i64 N, .bool Lg] 61) = w' := by
 unfold insV
 go_enter Tryd.func80, Tryd.ntmps80
 go_wp2
 exact bodyPost_ret (v := .tuple #[.bool false, .bool true, .bool true, .bool true]) (by simp [results, Tryd.results80, go_sem]) rfl ⟨rfl, rfl⟩
theorem operands_6 (K D A B N : Int) (Lg : Bool) (w : World) :
  Calls Tryd.prog 80 #[insV K D A B N Lg, .int .i64 6] w fun e w' => e = .returned (.tuple #[.bool true, .bool false, .bool false, .bool false]) ∧ w.alloc (.cells #[.int .i64 K, .int .i64 D, .int .i64 A, .int .i64 B, .int .i64 N, .bool Lg] 61) = w' := by
 unfold insV
 go_enter Tryd.func80, Tryd.ntmps80
 go_wp2
 exact bodyPost_ret (v := .tuple #[.bool true, .bool false, .bool false, .bool false]) (by simp [results, Tryd.results80, go_sem]) rfl ⟨rfl, rfl⟩
theorem operands_7 (K D A B N : Int) (Lg : Bool) (w : World) :
  Calls Tryd.prog 80 #[insV K D A B N Lg, .int .i64 7] w fun e w' => e = .returned (.tuple #[.bool false, .bool true, .bool false, .bool false]) ∧ w.alloc (.cells #[.int .i64 K, .int .i64 D, .int .i64 A, .int .i64 B, .int .i64 N, .bool Lg] 61) = w' := by
 unfold insV
 go_enter Tryd.func80, Tryd.ntmps80
 go_wp2
 exact bodyPost_ret (v := .tuple #[.bool false, .bool true, .bool false, .bool false]) (by simp [results, Tryd.results80, go_sem]) rfl ⟨rfl, rfl⟩
theorem operands_8 (K D A B N : Int) (Lg : Bool) (w : World) :
  Calls Tryd.prog 80 #[insV K D A B N Lg, .int .i64 8] w fun e w' => e = .returned (.tuple #[.bool false, .bool true, .bool true, .bool true]) ∧ w.alloc (.cells #[.int .i64 K, .int .i64 D, .int .i64 A, .int .i64 B, .int .i64 N, .bool Lg] 61) = w' := by
 unfold insV
 go_enter Tryd.func80, Tryd.ntmps80
 go_wp2
 exact bodyPost_ret (v := .tuple #[.bool false, .bool true, .bool true, .bool true]) (by simp [results, Tryd.results80, go_sem]) rfl ⟨rfl, rfl⟩
theorem operands_9 (K D A B N : Int) (Lg : Bool) (w : World) :
  Calls Tryd.prog 80 #[insV K D A B N Lg, .int .i64 9] w fun e w' => e = .returned (.tuple #[.bool false, .bool false, .bool false, .bool true]) ∧ w.alloc (.cells #[.int .i64 K, .int .i64 D, .int .i64 A, .int .i64 B, .int .i64 N, .bool Lg] 61) = w' := by
 unfold insV
 go_enter Tryd.func80, Tryd.ntmps80
 go_wp2
 exact bodyPost_ret (v := .tuple #[.bool false, .bool false, .bool false, .bool true]) (by simp [results, Tryd.results80, go_sem]) rfl ⟨rfl, rfl⟩
theorem operands_10 (K D A B N : Int) (Lg : Bool) (w : World) :
  Calls Tryd.prog 80 #[insV K D A B N Lg, .int .i64 10] w fun e w' => e = .returned (.tuple #[.bool false, .bool false, .bool false, .bool true]) ∧ w.alloc (.cells #[.int .i64 K, .int .i64 D, .int .i64 A, .int .i64 B, .int .i64 N, .bool Lg] 61) = w' := by
 unfold insV
 go_enter Tryd.func80, Tryd.ntmps80
 go_wp2
 exact bodyPost_ret (v := .tuple #[.bool false, .bool false, .bool false, .bool true]) (by simp [results, Tryd.results80, go_sem]) rfl ⟨rfl, rfl⟩
theorem operands_11 (K D A B N : Int) (Lg : Bool) (w : World) :
  Calls Tryd.prog 80 #[insV K D A B N Lg, .int .i64 11] w fun e w' => e = .returned (.tuple #[.bool false, .bool true, .bool false, .bool true]) ∧ w.alloc (.cells #[.int .i64 K, .int .i64 D, .int .i64 A, .int .i64 B, .int .i64 N, .bool Lg] 61) = w' := by
 unfold insV
 go_enter Tryd.func80, Tryd.ntmps80
 go_wp2
 exact bodyPost_ret (v := .tuple #[.bool false, .bool true, .bool false, .bool true]) (by simp [results, Tryd.results80, go_sem]) rfl ⟨rfl, rfl⟩
theorem has_bare (k : Nat) (h1 : 1 ≤ k) (h2 : k ≤ 4) (w : World) :
  Calls Tryd.prog 73 #[.int .i64 k] w fun e w' => e = .returned (.tuple #[.bool false, .bool false, .bool false, .bool false]) ∧ w = w' := by
 go_enter Tryd.func73, Tryd.ntmps73
 go_wp2
 all_goals exact bodyPost_ret (v := .tuple #[.bool false, .bool false, .bool false, .bool false]) (by simp [results, Tryd.results73, go_sem]) rfl ⟨rfl, rfl⟩
theorem opOf_bare (k : Nat) (h1 : 1 ≤ k) (h2 : k ≤ 4) (w : World) :
  Calls Tryd.prog 52 #[.int .i64 k] w fun e w' => e = .returned (.tuple #[.int .i64 (opT k), .int .i64 (longT k)]) ∧ w = w' := by
 have hT : opT k = k - 1 + 0 ∧ longT k = 0 := by
  obtain rfl | rfl | rfl | rfl : k = 1 ∨ k = 2 ∨ k = 3 ∨ k = 4 := by omega
  all_goals exact ⟨rfl, rfl⟩
 obtain ⟨e1, e2⟩ := hT
 have H1 := Lib.hid e1
 have H2 := Lib.hid e2
 clear e1 e2
 go_enter Tryd.func52, Tryd.ntmps52
 go_wp2
 go_ret2
 refine ⟨?_, rfl⟩
 rw [H1.out, H2.out]
 first | rfl | (congr 1; simp <;> omega)
theorem has_wide (k : Nat) (h1 : 5 ≤ k) (h2 : k ≤ 5) (w : World) :
  Calls Tryd.prog 73 #[.int .i64 k] w fun e w' => e = .returned (.tuple #[.bool true, .bool false, .bool false, .bool true]) ∧ w = w' := by
 go_enter Tryd.func73, Tryd.ntmps73
 go_wp2
 all_goals exact bodyPost_ret (v := .tuple #[.bool true, .bool false, .bool false, .bool true]) (by simp [results, Tryd.results73, go_sem]) rfl ⟨rfl, rfl⟩
theorem opOf_wide (k : Nat) (h1 : 5 ≤ k) (h2 : k ≤ 5) (w : World) :
  Calls Tryd.prog 52 #[.int .i64 k] w fun e w' => e = .returned (.tuple #[.int .i64 (opT k), .int .i64 (longT k)]) ∧ w = w' := by
 have hT : opT k = k - 5 + 16 ∧ longT k = 0 := by
  obtain rfl : k = 5 := by omega
  all_goals exact ⟨rfl, rfl⟩
 obtain ⟨e1, e2⟩ := hT
 have H1 := Lib.hid e1
 have H2 := Lib.hid e2
 clear e1 e2
 go_enter Tryd.func52, Tryd.ntmps52
 go_wp2
 go_ret2
 refine ⟨?_, rfl⟩
 rw [H1.out, H2.out]
 first | rfl | (congr 1; simp <;> omega)
theorem has_pairA (k : Nat) (h1 : 6 ≤ k) (h2 : k ≤ 6) (w : World) :
  Calls Tryd.prog 73 #[.int .i64 k] w fun e w' => e = .returned (.tuple #[.bool true, .bool true, .bool false, .bool true]) ∧ w = w' := by
 go_enter Tryd.func73, Tryd.ntmps73
 go_wp2
 all_goals exact bodyPost_ret (v := .tuple #[.bool true, .bool true, .bool false, .bool true]) (by simp [results, Tryd.results73, go_sem]) rfl ⟨rfl, rfl⟩
theorem opOf_pairA (k : Nat) (h1 : 6 ≤ k) (h2 : k ≤ 6) (w : World) :
  Calls Tryd.prog 52 #[.int .i64 k] w fun e w' => e = .returned (.tuple #[.int .i64 (opT k), .int .i64 (longT k)]) ∧ w = w' := by
 have hT : opT k = k - 6 + 17 ∧ longT k = 0 := by
  obtain rfl : k = 6 := by omega
  all_goals exact ⟨rfl, rfl⟩
 obtain ⟨e1, e2⟩ := hT
 have H1 := Lib.hid e1
 have H2 := Lib.hid e2
 clear e1 e2
 go_enter Tryd.func52, Tryd.ntmps52
 go_wp2
 go_ret2
 refine ⟨?_, rfl⟩
 rw [H1.out, H2.out]
 first | rfl | (congr 1; simp <;> omega)
theorem has_three (k : Nat) (h1 : 7 ≤ k) (h2 : k ≤ 13) (w : World) :
  Calls Tryd.prog 73 #[.int .i64 k] w fun e w' => e = .returned (.tuple #[.bool true, .bool true, .bool true, .bool false]) ∧ w = w' := by
 go_enter Tryd.func73, Tryd.ntmps73
 go_wp2
 all_goals exact bodyPost_ret (v := .tuple #[.bool true, .bool true, .bool true, .bool false]) (by simp [results, Tryd.results73, go_sem]) rfl ⟨rfl, rfl⟩
theorem opOf_three (k : Nat) (h1 : 7 ≤ k) (h2 : k ≤ 13) (w : World) :
  Calls Tryd.prog 52 #[.int .i64 k] w fun e w' => e = .returned (.tuple #[.int .i64 (opT k), .int .i64 (longT k)]) ∧ w = w' := by
 have hT : opT k = k - 7 + 32 ∧ longT k = 0 := by
  obtain rfl | rfl | rfl | rfl | rfl | rfl | rfl : k = 7 ∨ k = 8 ∨ k = 9 ∨ k = 10 ∨ k = 11 ∨ k = 12 ∨ k = 13 := by omega
  all_goals exact ⟨rfl, rfl⟩
 obtain ⟨e1, e2⟩ := hT
 have H1 := Lib.hid e1
 have H2 := Lib.hid e2
 clear e1 e2
 go_enter Tryd.func52, Tryd.ntmps52
 go_wp2
 go_ret2
 refine ⟨?_, rfl⟩
 rw [H1.out, H2.out]
 first | rfl | (congr 1; simp <;> omega)
theorem has_pairB (k : Nat) (h1 : 14 ≤ k) (h2 : k ≤ 14) (w : World) :
  Calls Tryd.prog 73 #[.int .i64 k] w fun e w' => e = .returned (.tuple #[.bool true, .bool true, .bool false, .bool true]) ∧ w = w' := by
 go_enter Tryd.func73, Tryd.ntmps73
 go_wp2
 all_goals exact bodyPost_ret (v := .tuple #[.bool true, .bool true, .bool false, .bool true]) (by simp [results, Tryd.results73, go_sem]) rfl ⟨rfl, rfl⟩
theorem opOf_pairB (k : Nat) (h1 : 14 ≤ k) (h2 : k ≤ 14) (w : World) :
  Calls Tryd.prog 52 #[.int .i64 k] w fun e w' => e = .returned (.tuple #[.int .i64 (opT k), .int .i64 (longT k)]) ∧ w = w' := by
 have hT : opT k = k - 14 + 48 ∧ longT k = 0 := by
  obtain rfl : k = 14 := by omega
  all_goals exact ⟨rfl, rfl⟩
 obtain ⟨e1, e2⟩ := hT
 have H1 := Lib.hid e1
 have H2 := Lib.hid e2
 clear e1 e2
 go_enter Tryd.func52, Tryd.ntmps52
 go_wp2
 go_ret2
 refine ⟨?_, rfl⟩
 rw [H1.out, H2.out]
 first | rfl | (congr 1; simp <;> omega)
theorem has_store (k : Nat) (h1 : 15 ≤ k) (h2 : k ≤ 15) (w : World) :
  Calls Tryd.prog 73 #[.int .i64 k] w fun e w' => e = .returned (.tuple #[.bool false, .bool true, .bool true, .bool true]) ∧ w = w' := by
 go_enter Tryd.func73, Tryd.ntmps73
 go_wp2
 all_goals exact bodyPost_ret (v := .tuple #[.bool false, .bool true, .bool true, .bool true]) (by simp [results, Tryd.results73, go_sem]) rfl ⟨rfl, rfl⟩
theorem opOf_store (k : Nat) (h1 : 15 ≤ k) (h2 : k ≤ 15) (w : World) :
  Calls Tryd.prog 52 #[.int .i64 k] w fun e w' => e = .returned (.tuple #[.int .i64 (opT k), .int .i64 (longT k)]) ∧ w = w' := by
 have hT : opT k = k - 15 + 49 ∧ longT k = 0 := by
  obtain rfl : k = 15 := by omega
  all_goals exact ⟨rfl, rfl⟩
 obtain ⟨e1, e2⟩ := hT
 have H1 := Lib.hid e1
 have H2 := Lib.hid e2
 clear e1 e2
 go_enter Tryd.func52, Tryd.ntmps52
 go_wp2
 go_ret2
 refine ⟨?_, rfl⟩
 rw [H1.out, H2.out]
 first | rfl | (congr 1; simp <;> omega)
theorem has_dest (k : Nat) (h1 : 16 ≤ k) (h2 : k ≤ 16) (w : World) :
  Calls Tryd.prog 73 #[.int .i64 k] w fun e w' => e = .returned (.tuple #[.bool true, .bool false, .bool false, .bool false]) ∧ w = w' := by
 go_enter Tryd.func73, Tryd.ntmps73
 go_wp2
 all_goals exact bodyPost_ret (v := .tuple #[.bool true, .bool false, .bool false, .bool false]) (by simp [results, Tryd.results73, go_sem]) rfl ⟨rfl, rfl⟩
theorem opOf_dest (k : Nat) (h1 : 16 ≤ k) (h2 : k ≤ 16) (w : World) :
  Calls Tryd.prog 52 #[.int .i64 k] w fun e w' => e = .returned (.tuple #[.int .i64 (opT k), .int .i64 (longT k)]) ∧ w = w' := by
 have hT : opT k = k - 16 + 64 ∧ longT k = 0 := by
  obtain rfl : k = 16 := by omega
  all_goals exact ⟨rfl, rfl⟩
 obtain ⟨e1, e2⟩ := hT
 have H1 := Lib.hid e1
 have H2 := Lib.hid e2
 clear e1 e2
 go_enter Tryd.func52, Tryd.ntmps52
 go_wp2
 go_ret2
 refine ⟨?_, rfl⟩
 rw [H1.out, H2.out]
 first | rfl | (congr 1; simp <;> omega)
theorem has_source (k : Nat) (h1 : 17 ≤ k) (h2 : k ≤ 17) (w : World) :
  Calls Tryd.prog 73 #[.int .i64 k] w fun e w' => e = .returned (.tuple #[.bool false, .bool true, .bool false, .bool false]) ∧ w = w' := by
 go_enter Tryd.func73, Tryd.ntmps73
 go_wp2
 all_goals exact bodyPost_ret (v := .tuple #[.bool false, .bool true, .bool false, .bool false]) (by simp [results, Tryd.results73, go_sem]) rfl ⟨rfl, rfl⟩
theorem opOf_source (k : Nat) (h1 : 17 ≤ k) (h2 : k ≤ 17) (w : World) :
  Calls Tryd.prog 52 #[.int .i64 k] w fun e w' => e = .returned (.tuple #[.int .i64 (opT k), .int .i64 (longT k)]) ∧ w = w' := by
 have hT : opT k = k - 17 + 65 ∧ longT k = 0 := by
  obtain rfl : k = 17 := by omega
  all_goals exact ⟨rfl, rfl⟩
 obtain ⟨e1, e2⟩ := hT
 have H1 := Lib.hid e1
 have H2 := Lib.hid e2
 clear e1 e2
 go_enter Tryd.func52, Tryd.ntmps52
 go_wp2
 go_ret2
 refine ⟨?_, rfl⟩
 rw [H1.out, H2.out]
 first | rfl | (congr 1; simp <;> omega)
theorem has_branch (k : Nat) (h1 : 18 ≤ k) (h2 : k ≤ 21) (w : World) :
  Calls Tryd.prog 73 #[.int .i64 k] w fun e w' => e = .returned (.tuple #[.bool false, .bool true, .bool true, .bool true]) ∧ w = w' := by
 go_enter Tryd.func73, Tryd.ntmps73
 go_wp2
 all_goals exact bodyPost_ret (v := .tuple #[.bool false, .bool true, .bool true, .bool true]) (by simp [results, Tryd.results73, go_sem]) rfl ⟨rfl, rfl⟩
theorem opOf_branch (k : Nat) (h1 : 18 ≤ k) (h2 : k ≤ 21) (w : World) :
  Calls Tryd.prog 52 #[.int .i64 k] w fun e w' => e = .returned (.tuple #[.int .i64 (opT k), .int .i64 (longT k)]) ∧ w = w' := by
 have hT : opT k = k - 18 + 80 ∧ longT k = k - 18 + 84 := by
  obtain rfl | rfl | rfl | rfl : k = 18 ∨ k = 19 ∨ k = 20 ∨ k = 21 := by omega
  all_goals exact ⟨rfl, rfl⟩
 obtain ⟨e1, e2⟩ := hT
 have H1 := Lib.hid e1
 have H2 := Lib.hid e2
 clear e1 e2
 go_enter Tryd.func52, Tryd.ntmps52
 go_wp2
 go_ret2
 refine ⟨?_, rfl⟩
 rw [H1.out, H2.out]
 first | rfl | (congr 1; simp <;> omega)
theorem has_jump (k : Nat) (h1 : 22 ≤ k) (h2 : k ≤ 22) (w : World) :
  Calls Tryd.prog 73 #[.int .i64 k] w fun e w' => e = .returned (.tuple #[.bool false, .bool false, .bool false, .bool true]) ∧ w = w' := by
 go_enter Tryd.func73, Tryd.ntmps73
 go_wp2
 all_goals exact bodyPost_ret (v := .tuple #[.bool false, .bool false, .bool false, .bool true]) (by simp [results, Tryd.results73, go_sem]) rfl ⟨rfl, rfl⟩
theorem opOf_jump (k : Nat) (h1 : 22 ≤ k) (h2 : k ≤ 22) (w : World) :
  Calls Tryd.prog 52 #[.int .i64 k] w fun e w' => e = .returned (.tuple #[.int .i64 (opT k), .int .i64 (longT k)]) ∧ w = w' := by
 have hT : opT k = k - 22 + 96 ∧ longT k = 97 := by
  obtain rfl : k = 22 := by omega
  all_goals exact ⟨rfl, rfl⟩
 obtain ⟨e1, e2⟩ := hT
 have H1 := Lib.hid e1
 have H2 := Lib.hid e2
 clear e1 e2
 go_enter Tryd.func52, Tryd.ntmps52
 go_wp2
 go_ret2
 refine ⟨?_, rfl⟩
 rw [H1.out, H2.out]
 first | rfl | (congr 1; simp <;> omega)
theorem has_call (k : Nat) (h1 : 23 ≤ k) (h2 : k ≤ 23) (w : World) :
  Calls Tryd.prog 73 #[.int .i64 k] w fun e w' => e = .returned (.tuple #[.bool false, .bool false, .bool false, .bool true]) ∧ w = w' := by
 go_enter Tryd.func73, Tryd.ntmps73
 go_wp2
 all_goals exact bodyPost_ret (v := .tuple #[.bool false, .bool false, .bool false, .bool true]) (by simp [results, Tryd.results73, go_sem]) rfl ⟨rfl, rfl⟩
theorem opOf_call (k : Nat) (h1 : 23 ≤ k) (h2 : k ≤ 23) (w : World) :
  Calls Tryd.prog 52 #[.int .i64 k] w fun e w' => e = .returned (.tuple #[.int .i64 (opT k), .int .i64 (longT k)]) ∧ w = w' := by
 have hT : opT k = k - 23 + 98 ∧ longT k = 0 := by
  obtain rfl : k = 23 := by omega
  all_goals exact ⟨rfl, rfl⟩
 obtain ⟨e1, e2⟩ := hT
 have H1 := Lib.hid e1
 have H2 := Lib.hid e2
 clear e1 e2
 go_enter Tryd.func52, Tryd.ntmps52
 go_wp2
 go_ret2
 refine ⟨?_, rfl⟩
 rw [H1.out, H2.out]
 first | rfl | (congr 1; simp <;> omega)
theorem has_table (k : Nat) (h1 : 24 ≤ k) (h2 : k ≤ 24) (w : World) :
  Calls Tryd.prog 73 #[.int .i64 k] w fun e w' => e = .returned (.tuple #[.bool false, .bool true, .bool false, .bool true]) ∧ w = w' := by
 go_enter Tryd.func73, Tryd.ntmps73
 go_wp2
 all_goals exact bodyPost_ret (v := .tuple #[.bool false, .bool true, .bool false, .bool true]) (by simp [results, Tryd.results73, go_sem]) rfl ⟨rfl, rfl⟩
theorem opOf_table (k : Nat) (h1 : 24 ≤ k) (h2 : k ≤ 24) (w : World) :
  Calls Tryd.prog 52 #[.int .i64 k] w fun e w' => e = .returned (.tuple #[.int .i64 (opT k), .int .i64 (longT k)]) ∧ w = w' := by
 have hT : opT k = k - 24 + 99 ∧ longT k = 0 := by
  obtain rfl : k = 24 := by omega
  all_goals exact ⟨rfl, rfl⟩
 obtain ⟨e1, e2⟩ := hT
 have H1 := Lib.hid e1
 have H2 := Lib.hid e2
 clear e1 e2
 go_enter Tryd.func52, Tryd.ntmps52
 go_wp2
 go_ret2
 refine ⟨?_, rfl⟩
 rw [H1.out, H2.out]
 first | rfl | (congr 1; simp <;> omega)
end Go.Proofs.YtnekiooaobnndaaDoor
