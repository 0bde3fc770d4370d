/-
 The bytes of an instruction, as a plain function; the small functions that isa.Encode and the document's BytesOf call.
 Small parts of isa.Decode and the document's InstrAt: a byte, and two, as a signed number.
 isa.kind: of an operator its kind, and whether it is the long one's.
 What the row's list of package-level variables gives, where isa.sizes stands second in it: the table of sizes.
-/
import Derived.Test.YtnekiooaobnndaaDoorImgFuncs
import Derived.Test.YtnekiooaobnndaaDoorOwn
import Derived.Deep.QuietTactic
import Derived.BigQuiet
import Derived.Laws.BitsAllLaws
import Derived.Deep.MidRow
import Derived.Test.YtnekiooaobnndaaDoorIsaLaid
section
set_option linter.all false
namespace Go.Proofs.YtnekiooaobnndaaDoor
open Go.RowKit BH
set_option maxHeartbeats 1000000
set_option maxRecDepth 100000

theorem ret_num {k : IntKind} {a b : Int} (h : a = b) : Ending.returned (.int k a) = .returned (.int k b) := by rw [h]
theorem op_bounds (k : Nat) (h : k ≤ 24) : 0 ≤ opT k ∧ opT k < 256 ∧ 0 ≤ longT k ∧ longT k < 256 := by
 have : ∀ k, k < 25 → 0 ≤ opT k ∧ opT k < 256 ∧ 0 ≤ longT k ∧ longT k < 256 := by decide
 exact this k (by omega)
theorem Blk.drew {w : World} {g : Nat} {o : Obj} (h : Blk w g o) : Blk w.drew g o := h
end Go.Proofs.YtnekiooaobnndaaDoor
end
section
namespace Go.Proofs.YtnekiooaobnndaaDoor
open Go.RowKit BH
set_option maxHeartbeats 1000000
set_option maxRecDepth 100000

def num8 (b : Int) : Int := if b < 128 then b else b - 256
def num16 (lo hi : Int) : Int := if lo + 256 * hi < 32768 then lo + 256 * hi else lo + 256 * hi - 65536

theorem num8_bits (x : Int) (h1 : 0 ≤ x) (h2 : x < 256) : wrap64 (IntKind.i8.wrap x) = num8 x := by
 obtain ⟨a, rfl⟩ : ∃ a : Nat, x = a := ⟨x.toNat, by omega⟩
 have : ∀ a : Nat, a < 256 → wrap64 (IntKind.i8.wrap (a : Int)) = num8 a := by decide +kernel
 exact this a (by omega)
theorem or_two (x y : Int) (h1 : 0 ≤ x) (h2 : x < 256) (h3 : 0 ≤ y) (h4 : y < 256) : bits BinOp.or IntKind.u16 x (y * 256) = x + 256 * y := by
 obtain ⟨a, rfl⟩ : ∃ a : Nat, x = a := ⟨x.toNat, by omega⟩
 obtain ⟨b, rfl⟩ : ∃ b : Nat, y = b := ⟨y.toNat, by omega⟩
 have h := u16_or_nat a (b * 256) (by omega) (by omega)
 rw [show ((b : Int) * 256) = ((b * 256 : Nat) : Int) by omega, h]
 have h2 : a < 2 ^ 8 := by omega
 have h3 := Nat.shiftLeft_add_eq_or_of_lt h2 b
 rw [Nat.shiftLeft_eq] at h3
 rw [Nat.or_comm, show b * 256 = b * 2 ^ 8 from rfl, ← h3]
 omega
theorem num16_bits (x y : Int) (h1 : 0 ≤ x) (h2 : x < 256) (h3 : 0 ≤ y) (h4 : y < 256) : wrap64 (IntKind.i16.wrap (bits BinOp.or IntKind.u16 x (y * 256))) = num16 x y := by
 rw [or_two x y h1 h2 h3 h4]
 have hw : IntKind.i16.wrap (x + 256 * y) = (x + 256 * y + 32768) % 65536 - 32768 := by
  simp [IntKind.wrap, IntKind.bits, IntKind.signed]
  split <;> omega
 rw [hw]
 unfold num16 wrap64
 split <;> omega
theorem number_one (b off cap : Nat) (x : Int) (w : World) (hc : w.cell? ⟨b, off, none⟩ = some (.int .u8 x)) (h1 : 0 ≤ x) (h2 : x < 256) :
  Calls Tryd.prog 69 #[.slice (some ⟨b, off, none⟩) 1 cap] w fun e w' => e = .returned (.int .i64 (num8 x)) ∧ w' = w := by
 go_enter Tryd.func69, Tryd.ntmps69
 go_wp2
 go_ret
 exact ⟨ret_num (num8_bits x h1 h2), rfl⟩
theorem number_two (b off cap : Nat) (x y : Int) (w : World) (hc : w.cell? ⟨b, off, none⟩ = some (.int .u8 x)) (hd : w.cell? ⟨b, off + 1, none⟩ = some (.int .u8 y)) (h1 : 0 ≤ x) (h2 : x < 256) (h3 : 0 ≤ y) (h4 : y < 256) :
  Calls Tryd.prog 69 #[.slice (some ⟨b, off, none⟩) 2 cap] w fun e w' => e = .returned (.int .i64 (num16 x y)) ∧ ∃ n, w' = w.drewN n := by
 go_enter Tryd.func69, Tryd.ntmps69
 go_wp2
 go_quiet (fail)
 go_wp2
 go_ret
 exact ⟨ret_num (num16_bits x y h1 h2 h3 h4), ⟨_, rfl⟩⟩
theorem signed_one (b off cap : Nat) (x : Int) (w : World) (hc : w.cell? ⟨b, off, none⟩ = some (.int .u8 x)) (h1 : 0 ≤ x) (h2 : x < 256) :
  Calls Tryd.prog 53 #[.slice (some ⟨b, off, none⟩) 1 cap] w fun e w' => e = .returned (.int .i64 (num8 x)) ∧ w' = w := by
 go_enter Tryd.func53, Tryd.ntmps53
 go_wp2
 all_goals
  go_ret
  refine ⟨ret_num ?_, rfl⟩
  unfold num8
  split <;> omega
theorem signed_two (b off cap : Nat) (x y : Int) (w : World) (hc : w.cell? ⟨b, off, none⟩ = some (.int .u8 x)) (hd : w.cell? ⟨b, off + 1, none⟩ = some (.int .u8 y)) (h1 : 0 ≤ x) (h2 : x < 256) (h3 : 0 ≤ y) (h4 : y < 256) :
  Calls Tryd.prog 53 #[.slice (some ⟨b, off, none⟩) 2 cap] w fun e w' => e = .returned (.int .i64 (num16 x y)) ∧ ∃ n, w' = w.drewN n := by
 go_enter Tryd.func53, Tryd.ntmps53
 go_wp2
 go_quiet (fail)
 go_wp2
 all_goals
  go_ret
  refine ⟨ret_num ?_, ⟨_, rfl⟩⟩
  unfold num16
  split <;> omega
end Go.Proofs.YtnekiooaobnndaaDoor
end
section
namespace Go.Proofs.YtnekiooaobnndaaDoor
open Go.RowKit BH
set_option maxHeartbeats 1000000
set_option maxRecDepth 100000

/-- the table of the operators as one value -/
def rowsL : List Value := (List.range 25).flatMap fun k => [.int .u8 (opT k), .int .u8 (longT k), .int .i64 (shapeT k)]
theorem rowsL_at (k : Nat) (hk : k < 25) : rowsL[k * 3]? = some (.int .u8 (opT k)) ∧ rowsL[k * 3 + 1]? = some (.int .u8 (longT k)) ∧ rowsL[k * 3 + 2]? = some (.int .i64 (shapeT k)) := by
 have h : ∀ j, j < 3 → rowsL[k * 3 + j]? = ([.int .u8 (opT k), .int .u8 (longT k), .int .i64 (shapeT k)] : List Value)[j]? := fun j hj => by
  unfold rowsL
  rw [flatMap_at (f := fun k => [Value.int .u8 (opT k), .int .u8 (longT k), .int .i64 (shapeT k)]) (k := 3) (fun _ => rfl) _ k j (by simpa using hk) hj, nth_eq _ _ (by simpa using hk)]
  simp
 exact ⟨h 0 (by omega), h 1 (by omega), h 2 (by omega)⟩
theorem rowsL_range {w : World} (ht : Tab w) : w.rangeAt 0 0 rowsL := by
 intro j v hv
 have hlen : rowsL.length = 75 := by
  unfold rowsL
  rw [flatMap_len (k := 3) (fun _ => rfl)]
  simp
 have hj : j < 75 := by
  rcases Nat.lt_or_ge j 75 with h | h
  ·exact h
  ·rw [List.getElem?_eq_none (by omega)] at hv; cases hv
 obtain ⟨c0, c1, c2⟩ := ht (j / 3) (by omega)
 obtain ⟨l0, l1, l2⟩ := rowsL_at (j / 3) (by omega)
 have h3 : j % 3 = 0 ∨ j % 3 = 1 ∨ j % 3 = 2 := by omega
 have e := Nat.div_add_mod j 3
 rcases h3 with h | h | h
 ·rw [show j = j / 3 * 3 by omega] at hv ⊢
  rw [l0] at hv; cases hv
  simpa using c0
 ·rw [show j = j / 3 * 3 + 1 by omega] at hv ⊢
  rw [l1] at hv; cases hv
  simpa using c1
 ·rw [show j = j / 3 * 3 + 2 by omega] at hv ⊢
  rw [l2] at hv; cases hv
  simpa using c2
theorem idx_row0 (w : World) : Sem.run Tryd.prog (Instr.index 128 (.agg rowsL.toArray) (.int .i64 ((0 : Nat) : Int))) w = .ok (.agg #[.int .u8 (opT 0), .int .u8 (longT 0), .int .i64 (shapeT 0)]) w := by kernel_rfl
theorem idx_row1 (w : World) : Sem.run Tryd.prog (Instr.index 128 (.agg rowsL.toArray) (.int .i64 ((1 : Nat) : Int))) w = .ok (.agg #[.int .u8 (opT 1), .int .u8 (longT 1), .int .i64 (shapeT 1)]) w := by kernel_rfl
theorem idx_row2 (w : World) : Sem.run Tryd.prog (Instr.index 128 (.agg rowsL.toArray) (.int .i64 ((2 : Nat) : Int))) w = .ok (.agg #[.int .u8 (opT 2), .int .u8 (longT 2), .int .i64 (shapeT 2)]) w := by kernel_rfl
theorem idx_row3 (w : World) : Sem.run Tryd.prog (Instr.index 128 (.agg rowsL.toArray) (.int .i64 ((3 : Nat) : Int))) w = .ok (.agg #[.int .u8 (opT 3), .int .u8 (longT 3), .int .i64 (shapeT 3)]) w := by kernel_rfl
theorem idx_row4 (w : World) : Sem.run Tryd.prog (Instr.index 128 (.agg rowsL.toArray) (.int .i64 ((4 : Nat) : Int))) w = .ok (.agg #[.int .u8 (opT 4), .int .u8 (longT 4), .int .i64 (shapeT 4)]) w := by kernel_rfl
theorem idx_row5 (w : World) : Sem.run Tryd.prog (Instr.index 128 (.agg rowsL.toArray) (.int .i64 ((5 : Nat) : Int))) w = .ok (.agg #[.int .u8 (opT 5), .int .u8 (longT 5), .int .i64 (shapeT 5)]) w := by kernel_rfl
theorem idx_row6 (w : World) : Sem.run Tryd.prog (Instr.index 128 (.agg rowsL.toArray) (.int .i64 ((6 : Nat) : Int))) w = .ok (.agg #[.int .u8 (opT 6), .int .u8 (longT 6), .int .i64 (shapeT 6)]) w := by kernel_rfl
theorem idx_row7 (w : World) : Sem.run Tryd.prog (Instr.index 128 (.agg rowsL.toArray) (.int .i64 ((7 : Nat) : Int))) w = .ok (.agg #[.int .u8 (opT 7), .int .u8 (longT 7), .int .i64 (shapeT 7)]) w := by kernel_rfl
theorem idx_row8 (w : World) : Sem.run Tryd.prog (Instr.index 128 (.agg rowsL.toArray) (.int .i64 ((8 : Nat) : Int))) w = .ok (.agg #[.int .u8 (opT 8), .int .u8 (longT 8), .int .i64 (shapeT 8)]) w := by kernel_rfl
theorem idx_row9 (w : World) : Sem.run Tryd.prog (Instr.index 128 (.agg rowsL.toArray) (.int .i64 ((9 : Nat) : Int))) w = .ok (.agg #[.int .u8 (opT 9), .int .u8 (longT 9), .int .i64 (shapeT 9)]) w := by kernel_rfl
theorem idx_row10 (w : World) : Sem.run Tryd.prog (Instr.index 128 (.agg rowsL.toArray) (.int .i64 ((10 : Nat) : Int))) w = .ok (.agg #[.int .u8 (opT 10), .int .u8 (longT 10), .int .i64 (shapeT 10)]) w := by kernel_rfl
theorem idx_row11 (w : World) : Sem.run Tryd.prog (Instr.index 128 (.agg rowsL.toArray) (.int .i64 ((11 : Nat) : Int))) w = .ok (.agg #[.int .u8 (opT 11), .int .u8 (longT 11), .int .i64 (shapeT 11)]) w := by kernel_rfl
theorem idx_row12 (w : World) : Sem.run Tryd.prog (Instr.index 128 (.agg rowsL.toArray) (.int .i64 ((12 : Nat) : Int))) w = .ok (.agg #[.int .u8 (opT 12), .int .u8 (longT 12), .int .i64 (shapeT 12)]) w := by kernel_rfl
theorem idx_row13 (w : World) : Sem.run Tryd.prog (Instr.index 128 (.agg rowsL.toArray) (.int .i64 ((13 : Nat) : Int))) w = .ok (.agg #[.int .u8 (opT 13), .int .u8 (longT 13), .int .i64 (shapeT 13)]) w := by kernel_rfl
theorem idx_row14 (w : World) : Sem.run Tryd.prog (Instr.index 128 (.agg rowsL.toArray) (.int .i64 ((14 : Nat) : Int))) w = .ok (.agg #[.int .u8 (opT 14), .int .u8 (longT 14), .int .i64 (shapeT 14)]) w := by kernel_rfl
theorem idx_row15 (w : World) : Sem.run Tryd.prog (Instr.index 128 (.agg rowsL.toArray) (.int .i64 ((15 : Nat) : Int))) w = .ok (.agg #[.int .u8 (opT 15), .int .u8 (longT 15), .int .i64 (shapeT 15)]) w := by kernel_rfl
theorem idx_row16 (w : World) : Sem.run Tryd.prog (Instr.index 128 (.agg rowsL.toArray) (.int .i64 ((16 : Nat) : Int))) w = .ok (.agg #[.int .u8 (opT 16), .int .u8 (longT 16), .int .i64 (shapeT 16)]) w := by kernel_rfl
theorem idx_row17 (w : World) : Sem.run Tryd.prog (Instr.index 128 (.agg rowsL.toArray) (.int .i64 ((17 : Nat) : Int))) w = .ok (.agg #[.int .u8 (opT 17), .int .u8 (longT 17), .int .i64 (shapeT 17)]) w := by kernel_rfl
theorem idx_row18 (w : World) : Sem.run Tryd.prog (Instr.index 128 (.agg rowsL.toArray) (.int .i64 ((18 : Nat) : Int))) w = .ok (.agg #[.int .u8 (opT 18), .int .u8 (longT 18), .int .i64 (shapeT 18)]) w := by kernel_rfl
theorem idx_row19 (w : World) : Sem.run Tryd.prog (Instr.index 128 (.agg rowsL.toArray) (.int .i64 ((19 : Nat) : Int))) w = .ok (.agg #[.int .u8 (opT 19), .int .u8 (longT 19), .int .i64 (shapeT 19)]) w := by kernel_rfl
theorem idx_row20 (w : World) : Sem.run Tryd.prog (Instr.index 128 (.agg rowsL.toArray) (.int .i64 ((20 : Nat) : Int))) w = .ok (.agg #[.int .u8 (opT 20), .int .u8 (longT 20), .int .i64 (shapeT 20)]) w := by kernel_rfl
theorem idx_row21 (w : World) : Sem.run Tryd.prog (Instr.index 128 (.agg rowsL.toArray) (.int .i64 ((21 : Nat) : Int))) w = .ok (.agg #[.int .u8 (opT 21), .int .u8 (longT 21), .int .i64 (shapeT 21)]) w := by kernel_rfl
theorem idx_row22 (w : World) : Sem.run Tryd.prog (Instr.index 128 (.agg rowsL.toArray) (.int .i64 ((22 : Nat) : Int))) w = .ok (.agg #[.int .u8 (opT 22), .int .u8 (longT 22), .int .i64 (shapeT 22)]) w := by kernel_rfl
theorem idx_row23 (w : World) : Sem.run Tryd.prog (Instr.index 128 (.agg rowsL.toArray) (.int .i64 ((23 : Nat) : Int))) w = .ok (.agg #[.int .u8 (opT 23), .int .u8 (longT 23), .int .i64 (shapeT 23)]) w := by kernel_rfl
theorem idx_row24 (w : World) : Sem.run Tryd.prog (Instr.index 128 (.agg rowsL.toArray) (.int .i64 ((24 : Nat) : Int))) w = .ok (.agg #[.int .u8 (opT 24), .int .u8 (longT 24), .int .i64 (shapeT 24)]) w := by kernel_rfl
theorem idx_row (k : Nat) (hk : k < 25) (w : World) : Sem.run Tryd.prog (Instr.index 128 (.agg rowsL.toArray) (.int .i64 k)) w = .ok (.agg #[.int .u8 (opT k), .int .u8 (longT k), .int .i64 (shapeT k)]) w := by
 match k, hk with
 | 0, _ => exact idx_row0 w
 | 1, _ => exact idx_row1 w
 | 2, _ => exact idx_row2 w
 | 3, _ => exact idx_row3 w
 | 4, _ => exact idx_row4 w
 | 5, _ => exact idx_row5 w
 | 6, _ => exact idx_row6 w
 | 7, _ => exact idx_row7 w
 | 8, _ => exact idx_row8 w
 | 9, _ => exact idx_row9 w
 | 10, _ => exact idx_row10 w
 | 11, _ => exact idx_row11 w
 | 12, _ => exact idx_row12 w
 | 13, _ => exact idx_row13 w
 | 14, _ => exact idx_row14 w
 | 15, _ => exact idx_row15 w
 | 16, _ => exact idx_row16 w
 | 17, _ => exact idx_row17 w
 | 18, _ => exact idx_row18 w
 | 19, _ => exact idx_row19 w
 | 20, _ => exact idx_row20 w
 | 21, _ => exact idx_row21 w
 | 22, _ => exact idx_row22 w
 | 23, _ => exact idx_row23 w
 | 24, _ => exact idx_row24 w
 | n + 25, hk => exact absurd hk (by omega)

def hitA (op : Int) (k : Nat) : Bool := decide (0 < k) && (opT k == op)
def hitB (op : Int) (k : Nat) : Bool := decide (0 < k) && (longT k != 0) && (longT k == op)
def kindGo (op : Int) : Nat → Nat → Nat × Bool
 | 0, _ => (0, false)
 | n + 1, i => if hitA op i then (i, false) else if hitB op i then (i, true) else kindGo op n (i + 1)
/-- the kind of an operator, and whether it is the long one's; 0: there is none -/
def kindOf (op : Int) : Nat × Bool := kindGo op 25 0

theorem kind_any (op : Int) (w : World) (ht : Tab w) :
  Calls Tryd.prog 68 #[.int .u8 op] w fun e w' => e = .returned (.tuple #[.int .i64 (kindOf op).1, .bool (kindOf op).2]) ∧ Keeps w w' := by
 have hr := rowsL_range ht
 clear ht
 go_enter Tryd.func68, Tryd.ntmps68
 go_wp2_with (refine wpList_load_mid (by rfl) 128 (.global 0) (by rfl) 0 0 (by rfl) rowsL _ hr Tryd.underlying128 (by rfl) (by kernel_rfl) ?_)
 go_loopw [4, 5, 7] (fun _ _ s7 wr => ∃ k : Nat, k ≤ 25 ∧ s7 = .int .i64 k ∧ Keeps w wr ∧ Hid (kindGo op (25 - k) k = kindOf op)) (fun _ _ s7 _ => 25 - (intOf s7).toNat)
 case atStart => exact ⟨0, Nat.zero_le _, rfl, Keeps.refl _, (show kindGo op 25 0 = kindOf op from rfl)⟩
 case round =>
  obtain ⟨k, hk, rfl, hkeep, hgo⟩ := hrel
  by_cases hlt : k < 25
  ·have hi := idx_row k hlt
   have HS := Lib.hid (show kindGo op (25 - k) k = if hitA op k then (k, false) else if hitB op k then (k, true) else kindGo op (25 - (k + 1)) (k + 1) by
    rw [show 25 - k = (25 - (k + 1)) + 1 by omega]; rfl)
   have HR := Lib.hid hr
   clear hr
   by_cases h0 : 0 < k
   ·have d0 : decide ((0 : Int) < k) = true := by simpa using h0
    have hA : hitA op k = (opT k == op) := by unfold hitA; rw [decide_eq_true h0]; rfl
    have hB : hitB op k = ((longT k != 0) && (longT k == op)) := by unfold hitB; rw [decide_eq_true h0]; rfl
    rw [hA, hB] at HS
    generalize opT k = x at hi HS
    generalize longT k = y at hi HS
    generalize shapeT k = z at hi
    clear hA hB
    cases q1 : (x == op) with
    | true =>
     have HV := Lib.hid (hgo.out.symm.trans (HS.out.trans (by rw [q1, if_pos rfl])))
     clear HS hgo
     go_wp2
     go_ret2
     exact ⟨by rw [HV.out]; rfl, hkeep.alloc _⟩
    | false =>
     cases q2 : (y != 0) with
     | false =>
      have HV := Lib.hid (HS.out.symm.trans hgo.out)
      rw [q1, q2] at HV
      clear HS hgo
      go_wp2
      go_roundw
      case rel => exact ⟨k + 1, by omega, by go_num, hkeep.alloc _, HV.out⟩
      case measure => simp [intOf]; omega
     | true =>
      cases q3 : (y == op) with
      | true =>
       have HV := Lib.hid (hgo.out.symm.trans (HS.out.trans (by rw [q1, q2, q3, if_neg (by simp), if_pos (by rfl)])))
       clear HS hgo
       go_wp2
       go_ret2
       exact ⟨by rw [HV.out]; rfl, hkeep.alloc _⟩
      | false =>
       have HV := Lib.hid (HS.out.symm.trans hgo.out)
       rw [q1, q2, q3] at HV
       clear HS hgo
       go_wp2
       go_roundw
       case rel => exact ⟨k + 1, by omega, by go_num, hkeep.alloc _, HV.out⟩
       case measure => simp [intOf]; omega
   ·have d0 : decide ((0 : Int) < k) = false := by simp; omega
    have hA : hitA op k = false := by unfold hitA; rw [decide_eq_false h0]; rfl
    have hB : hitB op k = false := by unfold hitB; rw [decide_eq_false h0]; rfl
    rw [hA, hB] at HS
    have HV := Lib.hid (HS.out.symm.trans hgo.out)
    clear HS hgo hA hB
    generalize opT k = x at hi
    generalize longT k = y at hi
    generalize shapeT k = z at hi
    go_wp2
    go_roundw
    case rel => exact ⟨k + 1, by omega, by go_num, hkeep.alloc _, HV.out⟩
    case measure => simp [intOf]; omega
  ·obtain rfl : k = 25 := by omega
   go_wp2
   go_ret2
   exact ⟨by rw [← hgo.out]; rfl, hkeep⟩
end Go.Proofs.YtnekiooaobnndaaDoor
end
section
namespace Go.Proofs.YtnekiooaobnndaaDoor
open Go.RowKit BH Go.ChangeShapes Go.WideShapes Go.Deep
set_option maxRecDepth 100000

theorem laid_second {P : Program} {W : World} {n1 name : String} {d1 d : DataW Unit} {rest : List (String × DataW Unit)} {g : Nat} {t : TypeId}
  (hg : P.globalNamed name = some g) (hty : (P.globals[g]?).map (·.type) = some t) (h : laidMet P ((n1, d1) :: (name, d) :: rest) W) :
  ∃ cs fuel q, W.var? P name = some cs ∧ DataW.trod (fun _ => ()) P W 0 (fun _ => true) false fuel t cs.toList = some (d, q) := by
 obtain ⟨ps, ⟨g0, t0, cs0, fuel0, p0, q0, -, -, -, -, hrest, -⟩, _⟩ := h
 obtain ⟨g', t', cs, fuel, p, q, hg', ht', hvar, hd, _, _⟩ := hrest
 obtain rfl := Option.some.inj (hg.symm.trans hg')
 obtain rfl := Option.some.inj (hty.symm.trans ht')
 exact ⟨cs, fuel, _, hvar, hd⟩

theorem sizes_cells {H : Type} {enc : TypeId × Value → H} {w : World} {base : Nat} {sp : Nat → Bool} {hd : Bool} {fuel : Nat} {cs : List Value} {ds : List (DataW H)} {p : List MemPlace}
  (h : DataW.trod enc Tryd.prog w base sp hd fuel 129 cs = some (.agg ds, p)) (i : Nat) (hi : i < 12) (a : Int) (hds : ds[i]? = some (.lit (.int .i64 a))) :
  cs[i]? = some (.int .i64 a) := by
 obtain ⟨xs, m, -, hx, hl, hn, hel⟩ := DataW.trod_array Tryd.underlying129 h
 simp only [Prod.mk.injEq, DataW.agg.injEq] at hx
 obtain ⟨rfl, -⟩ := hx
 have he := hel i hi
 rw [List.getElem?_map] at hds
 obtain ⟨y, hy, hyd⟩ := Option.map_eq_some_iff.1 hds
 rw [hy, cells_i, Nat.mul_one] at he
 obtain ⟨z0, q0, r0, -⟩ := DataW.trod_int Tryd.underlying3 he
 rw [r0] at hyd
 simp only [DataW.lit.injEq, Lit.int.injEq, true_and] at hyd
 subst hyd
 have h0 := congrArg (·[0]?) q0
 simp only [List.getElem?_cons_zero, List.getElem?_take, Nat.lt_one_iff, if_true, List.getElem?_drop, Nat.add_zero] at h0
 exact h0

theorem siz_of_laid {W : World} {x : String × DataW Unit} {rest : List (String × DataW Unit)} (h : laidMet Tryd.prog (x :: ("bolthole/isa.sizes", Rows.laid_bolthole_isa_sizes) :: rest) W) : Siz W := by
 obtain ⟨cs, fuel, q, hvar, hd⟩ := laid_second gSizes gSizesType h
 intro s hs
 have hc : cs.toList[s]? = some (.int .i64 (sizeT s)) := by
  refine sizes_cells hd s hs _ ?_
  match s, hs with
  | 0, _ => rfl
  | 1, _ => rfl
  | 2, _ => rfl
  | 3, _ => rfl
  | 4, _ => rfl
  | 5, _ => rfl
  | 6, _ => rfl
  | 7, _ => rfl
  | 8, _ => rfl
  | 9, _ => rfl
  | 10, _ => rfl
  | 11, _ => rfl
  | n + 12, hs => exact absurd hs (by omega)
 rw [World.var?_cell gSizes hvar s]
 simpa using hc
end Go.Proofs.YtnekiooaobnndaaDoor
end
