/-
  Small parts of isa.Decode and the document's InstrAt: a byte, and two, as a signed number.
-/
import Derived.Test.YtpgifkhgefbnfaaDoorIsaEnc0
import Derived.Deep.QuietTactic
import Derived.BigQuiet
import Derived.Laws.BitsAllLaws
namespace Go.Proofs.YtpgifkhgefbnfaaDoor
open Go.RowKit BH
set_option maxHeartbeats 1000000
set_option maxRecDepth 100000

def num8 (b : Int) : Int := if b < 128 then b else b - 256
def num16 (lo hi : Int) : Int := if lo + 256 * hi < 32768 then lo + 256 * hi else lo + 256 * hi - 65536

theorem num8_bits (x : Int) (h1 : 0 ≤ x) (h2 : x < 256) : wrap64 (IntKind.i8.wrap x) = num8 x := by
  obtain ⟨a, rfl⟩ : ∃ a : Nat, x = a := ⟨x.toNat, by omega⟩
  have : ∀ a : Nat, a < 256 → wrap64 (IntKind.i8.wrap (a : Int)) = num8 a := by decide +kernel
  exact this a (by omega)
theorem or_two (x y : Int) (h1 : 0 ≤ x) (h2 : x < 256) (h3 : 0 ≤ y) (h4 : y < 256) : bits BinOp.or IntKind.u16 x (y * 256) = x + 256 * y := by
  obtain ⟨a, rfl⟩ : ∃ a : Nat, x = a := ⟨x.toNat, by omega⟩
  obtain ⟨b, rfl⟩ : ∃ b : Nat, y = b := ⟨y.toNat, by omega⟩
  have h := u16_or_nat a (b * 256) (by omega) (by omega)
  rw [show ((b : Int) * 256) = ((b * 256 : Nat) : Int) by omega, h]
  have h2 : a < 2 ^ 8 := by omega
  have h3 := Nat.shiftLeft_add_eq_or_of_lt h2 b
  rw [Nat.shiftLeft_eq] at h3
  rw [Nat.or_comm, show b * 256 = b * 2 ^ 8 from rfl, ← h3]
  omega
theorem num16_bits (x y : Int) (h1 : 0 ≤ x) (h2 : x < 256) (h3 : 0 ≤ y) (h4 : y < 256) : wrap64 (IntKind.i16.wrap (bits BinOp.or IntKind.u16 x (y * 256))) = num16 x y := by
  rw [or_two x y h1 h2 h3 h4]
  have hw : IntKind.i16.wrap (x + 256 * y) = (x + 256 * y + 32768) % 65536 - 32768 := by
    simp [IntKind.wrap, IntKind.bits, IntKind.signed]
    split <;> omega
  rw [hw]
  unfold num16 wrap64
  split <;> omega
theorem number_one (b off cap : Nat) (x : Int) (w : World) (hc : w.cell? ⟨b, off, none⟩ = some (.int .u8 x)) (h1 : 0 ≤ x) (h2 : x < 256) :
    Calls Tryd.prog 19 #[.slice (some ⟨b, off, none⟩) 1 cap] w fun e w' => e = .returned (.int .i64 (num8 x)) ∧ w' = w := by
  go_enter Tryd.func19, Tryd.ntmps19
  go_wp2
  go_ret
  exact ⟨ret_num (num8_bits x h1 h2), rfl⟩
theorem number_two (b off cap : Nat) (x y : Int) (w : World) (hc : w.cell? ⟨b, off, none⟩ = some (.int .u8 x)) (hd : w.cell? ⟨b, off + 1, none⟩ = some (.int .u8 y)) (h1 : 0 ≤ x) (h2 : x < 256) (h3 : 0 ≤ y) (h4 : y < 256) :
    Calls Tryd.prog 19 #[.slice (some ⟨b, off, none⟩) 2 cap] w fun e w' => e = .returned (.int .i64 (num16 x y)) ∧ ∃ n, w' = w.drewN n := by
  go_enter Tryd.func19, Tryd.ntmps19
  go_wp2
  go_quiet (fail)
  go_wp2
  go_ret
  exact ⟨ret_num (num16_bits x y h1 h2 h3 h4), ⟨_, rfl⟩⟩
theorem signed_one (b off cap : Nat) (x : Int) (w : World) (hc : w.cell? ⟨b, off, none⟩ = some (.int .u8 x)) (h1 : 0 ≤ x) (h2 : x < 256) :
    Calls Tryd.prog 24 #[.slice (some ⟨b, off, none⟩) 1 cap] w fun e w' => e = .returned (.int .i64 (num8 x)) ∧ w' = w := by
  go_enter Tryd.func24, Tryd.ntmps24
  go_wp2
  all_goals
    go_ret
    refine ⟨ret_num ?_, rfl⟩
    unfold num8
    split <;> omega
theorem signed_two (b off cap : Nat) (x y : Int) (w : World) (hc : w.cell? ⟨b, off, none⟩ = some (.int .u8 x)) (hd : w.cell? ⟨b, off + 1, none⟩ = some (.int .u8 y)) (h1 : 0 ≤ x) (h2 : x < 256) (h3 : 0 ≤ y) (h4 : y < 256) :
    Calls Tryd.prog 24 #[.slice (some ⟨b, off, none⟩) 2 cap] w fun e w' => e = .returned (.int .i64 (num16 x y)) ∧ ∃ n, w' = w.drewN n := by
  go_enter Tryd.func24, Tryd.ntmps24
  go_wp2
  go_quiet (fail)
  go_wp2
  all_goals
    go_ret
    refine ⟨ret_num ?_, ⟨_, rfl⟩⟩
    unfold num16
    split <;> omega
end Go.Proofs.YtpgifkhgefbnfaaDoor
