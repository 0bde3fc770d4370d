/-
isa.kind: of an operator its kind, and whether it is the lon
-/
import Derived.Test.YtgdamggkaklhjaaDoorIsaLaid2
set_option linter.all false
namespace Go.Proofs.YtgdamggkaklhjaaDoor
open Go.RowKit BH
set_option maxHeartbeats 1000000
set_option maxRecDepth 100000

def rowsL : List Value := (List.range 25).flatMap fun k => [.int .u8 (opT k), .int .u8 (longT k), .int .i64 (shapeT k)]
theorem rowsL_at (k : Nat) (hk : k < 25) : rowsL[k * 3]? = some (.int .u8 (opT k)) ∧ rowsL[k * 3 + 1]? = some (.int .u8 (longT k)) ∧ rowsL[k * 3 + 2]? = some (.int .i64 (shapeT k)) := by
 have h : ∀ j, j < 3 → rowsL[k * 3 + j]? = ([.int .u8 (opT k), .int .u8 (longT k), .int .i64 (shapeT k)] : List Value)[j]? := fun j hj => by unfold rowsL; (rw [flatMap_at (f := fun k => [Value.int .u8 (opT k), .int .u8 (longT k), .int .i64 (shapeT k)]) (k := 3) (fun _ => rfl) _ k j (by simpa using hk) hj, nth_eq _ _ (by simpa using hk)]); simp
 exact ⟨h 0 jo, h 1 jo, h 2 jo⟩
theorem rowsL_range {w : World} (ht : Tab w) : w.rangeAt 1 0 rowsL := by
 intro j v hv
 have H0 : rowsL.length = 75 := by unfold rowsL; (rw [flatMap_len (k := 3) (fun _ => rfl)]); simp
 have hj : j < 75 := by
  rcases Nat.lt_or_ge j 75 with h | h
  ·exact h
  rw [List.getElem?_eq_none jo] at hv; cases hv
 obtain ⟨c0, c1, c2⟩ := ht (j / 3) jo
 obtain ⟨l0, l1, l2⟩ := rowsL_at (j / 3) jo
 have h3 : j % 3 = 0 ∨ j % 3 = 1 ∨ j % 3 = 2 := by omega
 have e := Nat.div_add_mod j 3
 rcases h3 with h | h | h
 ·rw [show j = j / 3 * 3 by omega] at hv ⊢
  rw [l0] at hv; cases hv
  simpa using c0
 ·rw [show j = j / 3 * 3 + 1 by omega] at hv ⊢
  rw [l1] at hv; cases hv
  simpa using c1
 rw [show j = j / 3 * 3 + 2 by omega] at hv ⊢
 rw [l2] at hv; cases hv
 simpa using c2
theorem idx_row0 (w : World) : Sem.run Tryd.prog (Instr.index 124 (.agg rowsL.toArray) (.int .i64 ((0 : Nat) : Int))) w = .ok (.agg #[.int .u8 (opT 0), .int .u8 (longT 0), .int .i64 (shapeT 0)]) w := by kernel_rfl
theorem idx_row1 (w : World) : Sem.run Tryd.prog (Instr.index 124 (.agg rowsL.toArray) (.int .i64 ((1 : Nat) : Int))) w = .ok (.agg #[.int .u8 (opT 1), .int .u8 (longT 1), .int .i64 (shapeT 1)]) w := by kernel_rfl
theorem idx_row2 (w : World) : Sem.run Tryd.prog (Instr.index 124 (.agg rowsL.toArray) (.int .i64 ((2 : Nat) : Int))) w = .ok (.agg #[.int .u8 (opT 2), .int .u8 (longT 2), .int .i64 (shapeT 2)]) w := by kernel_rfl
theorem idx_row3 (w : World) : Sem.run Tryd.prog (Instr.index 124 (.agg rowsL.toArray) (.int .i64 ((3 : Nat) : Int))) w = .ok (.agg #[.int .u8 (opT 3), .int .u8 (longT 3), .int .i64 (shapeT 3)]) w := by kernel_rfl
theorem idx_row4 (w : World) : Sem.run Tryd.prog (Instr.index 124 (.agg rowsL.toArray) (.int .i64 ((4 : Nat) : Int))) w = .ok (.agg #[.int .u8 (opT 4), .int .u8 (longT 4), .int .i64 (shapeT 4)]) w := by kernel_rfl
theorem idx_row5 (w : World) : Sem.run Tryd.prog (Instr.index 124 (.agg rowsL.toArray) (.int .i64 ((5 : Nat) : Int))) w = .ok (.agg #[.int .u8 (opT 5), .int .u8 (longT 5), .int .i64 (shapeT 5)]) w := by kernel_rfl
theorem idx_row6 (w : World) : Sem.run Tryd.prog (Instr.index 124 (.agg rowsL.toArray) (.int .i64 ((6 : Nat) : Int))) w = .ok (.agg #[.int .u8 (opT 6), .int .u8 (longT 6), .int .i64 (shapeT 6)]) w := by kernel_rfl
theorem idx_row7 (w : World) : Sem.run Tryd.prog (Instr.index 124 (.agg rowsL.toArray) (.int .i64 ((7 : Nat) : Int))) w = .ok (.agg #[.int .u8 (opT 7), .int .u8 (longT 7), .int .i64 (shapeT 7)]) w := by kernel_rfl
theorem idx_row8 (w : World) : Sem.run Tryd.prog (Instr.index 124 (.agg rowsL.toArray) (.int .i64 ((8 : Nat) : Int))) w = .ok (.agg #[.int .u8 (opT 8), .int .u8 (longT 8), .int .i64 (shapeT 8)]) w := by kernel_rfl
theorem idx_row9 (w : World) : Sem.run Tryd.prog (Instr.index 124 (.agg rowsL.toArray) (.int .i64 ((9 : Nat) : Int))) w = .ok (.agg #[.int .u8 (opT 9), .int .u8 (longT 9), .int .i64 (shapeT 9)]) w := by kernel_rfl
theorem idx_row10 (w : World) : Sem.run Tryd.prog (Instr.index 124 (.agg rowsL.toArray) (.int .i64 ((10 : Nat) : Int))) w = .ok (.agg #[.int .u8 (opT 10), .int .u8 (longT 10), .int .i64 (shapeT 10)]) w := by kernel_rfl
theorem idx_row11 (w : World) : Sem.run Tryd.prog (Instr.index 124 (.agg rowsL.toArray) (.int .i64 ((11 : Nat) : Int))) w = .ok (.agg #[.int .u8 (opT 11), .int .u8 (longT 11), .int .i64 (shapeT 11)]) w := by kernel_rfl
theorem idx_row12 (w : World) : Sem.run Tryd.prog (Instr.index 124 (.agg rowsL.toArray) (.int .i64 ((12 : Nat) : Int))) w = .ok (.agg #[.int .u8 (opT 12), .int .u8 (longT 12), .int .i64 (shapeT 12)]) w := by kernel_rfl
theorem idx_row13 (w : World) : Sem.run Tryd.prog (Instr.index 124 (.agg rowsL.toArray) (.int .i64 ((13 : Nat) : Int))) w = .ok (.agg #[.int .u8 (opT 13), .int .u8 (longT 13), .int .i64 (shapeT 13)]) w := by kernel_rfl
theorem idx_row14 (w : World) : Sem.run Tryd.prog (Instr.index 124 (.agg rowsL.toArray) (.int .i64 ((14 : Nat) : Int))) w = .ok (.agg #[.int .u8 (opT 14), .int .u8 (longT 14), .int .i64 (shapeT 14)]) w := by kernel_rfl
theorem idx_row15 (w : World) : Sem.run Tryd.prog (Instr.index 124 (.agg rowsL.toArray) (.int .i64 ((15 : Nat) : Int))) w = .ok (.agg #[.int .u8 (opT 15), .int .u8 (longT 15), .int .i64 (shapeT 15)]) w := by kernel_rfl
theorem idx_row16 (w : World) : Sem.run Tryd.prog (Instr.index 124 (.agg rowsL.toArray) (.int .i64 ((16 : Nat) : Int))) w = .ok (.agg #[.int .u8 (opT 16), .int .u8 (longT 16), .int .i64 (shapeT 16)]) w := by kernel_rfl
theorem idx_row17 (w : World) : Sem.run Tryd.prog (Instr.index 124 (.agg rowsL.toArray) (.int .i64 ((17 : Nat) : Int))) w = .ok (.agg #[.int .u8 (opT 17), .int .u8 (longT 17), .int .i64 (shapeT 17)]) w := by kernel_rfl
theorem idx_row18 (w : World) : Sem.run Tryd.prog (Instr.index 124 (.agg rowsL.toArray) (.int .i64 ((18 : Nat) : Int))) w = .ok (.agg #[.int .u8 (opT 18), .int .u8 (longT 18), .int .i64 (shapeT 18)]) w := by kernel_rfl
theorem idx_row19 (w : World) : Sem.run Tryd.prog (Instr.index 124 (.agg rowsL.toArray) (.int .i64 ((19 : Nat) : Int))) w = .ok (.agg #[.int .u8 (opT 19), .int .u8 (longT 19), .int .i64 (shapeT 19)]) w := by kernel_rfl
theorem idx_row20 (w : World) : Sem.run Tryd.prog (Instr.index 124 (.agg rowsL.toArray) (.int .i64 ((20 : Nat) : Int))) w = .ok (.agg #[.int .u8 (opT 20), .int .u8 (longT 20), .int .i64 (shapeT 20)]) w := by kernel_rfl
theorem idx_row21 (w : World) : Sem.run Tryd.prog (Instr.index 124 (.agg rowsL.toArray) (.int .i64 ((21 : Nat) : Int))) w = .ok (.agg #[.int .u8 (opT 21), .int .u8 (longT 21), .int .i64 (shapeT 21)]) w := by kernel_rfl
theorem idx_row22 (w : World) : Sem.run Tryd.prog (Instr.index 124 (.agg rowsL.toArray) (.int .i64 ((22 : Nat) : Int))) w = .ok (.agg #[.int .u8 (opT 22), .int .u8 (longT 22), .int .i64 (shapeT 22)]) w := by kernel_rfl
theorem idx_row23 (w : World) : Sem.run Tryd.prog (Instr.index 124 (.agg rowsL.toArray) (.int .i64 ((23 : Nat) : Int))) w = .ok (.agg #[.int .u8 (opT 23), .int .u8 (longT 23), .int .i64 (shapeT 23)]) w := by kernel_rfl
theorem idx_row24 (w : World) : Sem.run Tryd.prog (Instr.index 124 (.agg rowsL.toArray) (.int .i64 ((24 : Nat) : Int))) w = .ok (.agg #[.int .u8 (opT 24), .int .u8 (longT 24), .int .i64 (shapeT 24)]) w := by kernel_rfl
theorem idx_row (k : Nat) (hk : k < 25) (w : World) : Sem.run Tryd.prog (Instr.index 124 (.agg rowsL.toArray) (.int .i64 k)) w = .ok (.agg #[.int .u8 (opT k), .int .u8 (longT k), .int .i64 (shapeT k)]) w := by
 match k, hk with
 | 0, _ => exact idx_row0 w
 | 1, _ => exact idx_row1 w
 | 2, _ => exact idx_row2 w
 | 3, _ => exact idx_row3 w
 | 4, _ => exact idx_row4 w
 | 5, _ => exact idx_row5 w
 | 6, _ => exact idx_row6 w
 | 7, _ => exact idx_row7 w
 | 8, _ => exact idx_row8 w
 | 9, _ => exact idx_row9 w
 | 10, _ => exact idx_row10 w
 | 11, _ => exact idx_row11 w
 | 12, _ => exact idx_row12 w
 | 13, _ => exact idx_row13 w
 | 14, _ => exact idx_row14 w
 | 15, _ => exact idx_row15 w
 | 16, _ => exact idx_row16 w
 | 17, _ => exact idx_row17 w
 | 18, _ => exact idx_row18 w
 | 19, _ => exact idx_row19 w
 | 20, _ => exact idx_row20 w
 | 21, _ => exact idx_row21 w
 | 22, _ => exact idx_row22 w
 | 23, _ => exact idx_row23 w
 | 24, _ => exact idx_row24 w
 | n + 25, hk => exact absurd hk jo

def hitA (op : Int) (k : Nat) : Bool := decide (0 < k) && (opT k == op)
def hitB (op : Int) (k : Nat) : Bool := decide (0 < k) && (longT k != 0) && (longT k == op)
def kindGo (op : Int) : Nat → Nat → Nat × Bool
 | 0, _ => (0, false)
 | n + 1, i => if hitA op i then (i, false) else if hitB op i then (i, true) else kindGo op n (i + 1)
def kindOf (op : Int) : Nat × Bool := kindGo op 25 0

theorem kind_any (op : Int) (w : World) (ht : Tab w) :
  Calls Tryd.prog 72 #[.int .u8 op] w fun e w' => e = .returned (.tuple #[.int .i64 (kindOf op).1, .bool (kindOf op).2]) ∧ Keeps w w' := by
 have hr := rowsL_range ht
 clear ht
 go_enter Tryd.func72, Tryd.ntmps72
 go_wp2_with (refine wpList_load_mid jr 124 (.global 1) jr 1 0 jr rowsL _ hr Tryd.underlying124 jr jx ?_)
 go_loopw [4, 5, 7] (fun _ _ s7 wr => ∃ k : Nat, k ≤ 25 ∧ s7 = .int .i64 k ∧ Keeps w wr ∧ Hid (kindGo op (25 - k) k = kindOf op)) (fun _ _ s7 _ => 25 - (intOf s7).toNat)
 case atStart => exact ⟨0, Nat.zero_le _, rfl, Keeps.refl _, (show kindGo op 25 0 = kindOf op from rfl)⟩
 case round =>
 obtain ⟨k, hk, rfl, H0, H1⟩ := hrel
 by_cases hlt : k < 25
 ·have hi := idx_row k hlt
  have HS := jH (show kindGo op (25 - k) k = if hitA op k then (k, false) else if hitB op k then (k, true) else kindGo op (25 - (k + 1)) (k + 1) by rw [show 25 - k = (25 - (k + 1)) + 1 by omega]; rfl)
  have HR := jH hr
  clear hr
  by_cases h0 : 0 < k
  ·have d0 : decide ((0 : Int) < k) = true := by simpa using h0
   have hA : hitA op k = (opT k == op) := by unfold hitA; rw [decide_eq_true h0]; rfl
   have hB : hitB op k = ((longT k != 0) && (longT k == op)) := by unfold hitB; rw [decide_eq_true h0]; rfl
   rw [hA, hB] at HS
   generalize opT k = x at hi HS
   generalize longT k = y at hi HS
   generalize shapeT k = z at hi
   clear hA hB
   cases q1 : (x == op) with
   | true =>
    have HV := jH (H1.out.symm.trans (HS.out.trans (by rw [q1, if_pos rfl])))
    clear HS H1
    go_wp2
    go_ret2
    exact ⟨by rw [HV.out]; rfl, H0.alloc _⟩
   | false =>
    cases q2 : (y != 0) with
    | false =>
     have HV := jH (HS.out.symm.trans H1.out)
     rw [q1, q2] at HV
     clear HS H1
     go_wp2
     go_roundw
     case rel => exact ⟨k + 1, by omega, by go_num, H0.alloc _, HV.out⟩
     case measure => exact jm
    | true =>
     cases q3 : (y == op) with
     | true =>
      have HV := jH (H1.out.symm.trans (HS.out.trans (by rw [q1, q2, q3, if_neg (by simp), if_pos jr])))
      clear HS H1
      go_wp2
      go_ret2
      exact ⟨by rw [HV.out]; rfl, H0.alloc _⟩
     | false =>
      have HV := jH (HS.out.symm.trans H1.out)
      rw [q1, q2, q3] at HV
      clear HS H1
      go_wp2
      go_roundw
      case rel => exact ⟨k + 1, by omega, by go_num, H0.alloc _, HV.out⟩
      case measure => exact jm
  have d0 : decide ((0 : Int) < k) = false := by simp; omega
  have hA : hitA op k = false := by unfold hitA; rw [decide_eq_false h0]; rfl
  have hB : hitB op k = false := by unfold hitB; rw [decide_eq_false h0]; rfl
  rw [hA, hB] at HS
  have HV := jH (HS.out.symm.trans H1.out)
  clear HS H1 hA hB
  generalize opT k = x at hi
  generalize longT k = y at hi
  generalize shapeT k = z at hi
  go_wp2
  go_roundw
  case rel => exact ⟨k + 1, by omega, by go_num, H0.alloc _, HV.out⟩
  case measure => exact jm
 obtain rfl : k = 25 := by omega
 go_wp2
 go_ret2
 exact ⟨by rw [← H1.out]; rfl, H0⟩
end Go.Proofs.YtgdamggkaklhjaaDoor
