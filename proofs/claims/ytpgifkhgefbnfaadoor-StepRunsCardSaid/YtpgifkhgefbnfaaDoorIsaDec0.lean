/-
  Arithmetic of a machine: step.arithmetic and step.taken.
  Small parts of isa.Decode and the document's InstrAt: a byte, and two, as a signed number.
-/
import Derived.Test.YtpgifkhgefbnfaaDoorImgFuncs
import Derived.Laws.BitsAllLaws
import Derived.Test.YtpgifkhgefbnfaaDoorIsaLaid2
import Derived.Deep.QuietTactic
import Derived.BigQuiet
section
namespace Go.Proofs.YtpgifkhgefbnfaaDoor
open Go.RowKit BH
set_option maxHeartbeats 1000000
set_option maxRecDepth 100000
theorem sshift_zero {x : BitVec 64} (h1 : -2199023255552 ≤ x.toInt) (h2 : x.toInt < 2199023255552) : x.sshiftRight 41 = 0#64 ∨ x.sshiftRight 41 = BitVec.allOnes 64 := by
  have e := BitVec.toInt_sshiftRight (x := x) (n := 41)
  rw [Int.shiftRight_eq_div_pow] at e
  rcases Int.lt_or_le x.toInt 0 with h | h
  · right
    apply BitVec.eq_of_toInt_eq
    rw [e]
    have : x.toInt / ((2 ^ 41 : Nat) : Int) = -1 := by omega
    rw [this]; rfl
  · left
    apply BitVec.eq_of_toInt_eq
    rw [e]
    have : x.toInt / ((2 ^ 41 : Nat) : Int) = 0 := by omega
    rw [this]; rfl
theorem small_of_sshift {x : BitVec 64} (h : x.sshiftRight 41 = 0#64 ∨ x.sshiftRight 41 = BitVec.allOnes 64) : -2199023255552 ≤ x.toInt ∧ x.toInt < 2199023255552 := by
  have e := BitVec.toInt_sshiftRight (x := x) (n := 41)
  rw [Int.shiftRight_eq_div_pow] at e
  rcases h with h | h
  · rw [h] at e
    have : (0#64).toInt = 0 := rfl
    rw [this] at e
    omega
  · rw [h] at e
    have : (BitVec.allOnes 64).toInt = -1 := rfl
    rw [this] at e
    omega
theorem ofInt_small {a : Int} (h1 : -2199023255552 ≤ a) (h2 : a < 2199023255552) : (BitVec.ofInt 64 a).toInt = a := by
  rw [BitVec.toInt_ofInt]
  show Int.bmod a 18446744073709551616 = a
  rw [Int.bmod_def]
  omega
/-- what the bit operations give of two numbers of 41 bits and a sign -/
theorem bits_small (op : BinOp) (f : BitVec 64 → BitVec 64 → BitVec 64) (hf : ∀ x y n, (f x y).sshiftRight n = f (x.sshiftRight n) (y.sshiftRight n)) (h0 : f 0#64 0#64 = 0#64 ∨ f 0#64 0#64 = BitVec.allOnes 64) (h1 : f 0#64 (BitVec.allOnes 64) = 0#64 ∨ f 0#64 (BitVec.allOnes 64) = BitVec.allOnes 64) (h2 : f (BitVec.allOnes 64) 0#64 = 0#64 ∨ f (BitVec.allOnes 64) 0#64 = BitVec.allOnes 64) (h3 : f (BitVec.allOnes 64) (BitVec.allOnes 64) = 0#64 ∨ f (BitVec.allOnes 64) (BitVec.allOnes 64) = BitVec.allOnes 64)
    (hb : ∀ a b : Int, bits op IntKind.i64 a b = IntKind.i64.wrap ((f (BitVec.ofInt 64 a) (BitVec.ofInt 64 b)).toNat : Int)) (a b : Int) (ha : InM a) (hb2 : InM b) : -2199023255552 ≤ bits op IntKind.i64 a b ∧ bits op IntKind.i64 a b < 2199023255552 := by
  unfold InM at ha hb2
  have xa := sshift_zero (x := BitVec.ofInt 64 a) (by rw [ofInt_small (by omega) (by omega)]; omega) (by rw [ofInt_small (by omega) (by omega)]; omega)
  have xb := sshift_zero (x := BitVec.ofInt 64 b) (by rw [ofInt_small (by omega) (by omega)]; omega) (by rw [ofInt_small (by omega) (by omega)]; omega)
  have h := small_of_sshift (x := f (BitVec.ofInt 64 a) (BitVec.ofInt 64 b)) (by rw [hf]; rcases xa with xa | xa <;> rcases xb with xb | xb <;> rw [xa, xb] <;> assumption)
  rw [hb, IntKind.wrap_i64]
  rw [BitVec.toInt_eq_toNat_bmod] at h
  have e : (((f (BitVec.ofInt 64 a) (BitVec.ofInt 64 b)).toNat : Int) + 9223372036854775808) % 18446744073709551616 - 9223372036854775808 = Int.bmod ((f (BitVec.ofInt 64 a) (BitVec.ofInt 64 b)).toNat : Int) (2 ^ 64) := by
    rw [Int.bmod_def]
    omega
  rw [e]
  exact h
theorem and_small (a b : Int) (ha : InM a) (hb : InM b) : -2199023255552 ≤ bits BinOp.and IntKind.i64 a b ∧ bits BinOp.and IntKind.i64 a b < 2199023255552 :=
  bits_small _ (· &&& ·) (fun x y n => BitVec.sshiftRight_and_distrib x y n) (Or.inl (by decide)) (Or.inl (by decide)) (Or.inl (by decide)) (Or.inr (by decide)) (fun _ _ => rfl) a b ha hb
theorem or_small (a b : Int) (ha : InM a) (hb : InM b) : -2199023255552 ≤ bits BinOp.or IntKind.i64 a b ∧ bits BinOp.or IntKind.i64 a b < 2199023255552 :=
  bits_small _ (· ||| ·) (fun x y n => BitVec.sshiftRight_or_distrib x y n) (Or.inl (by decide)) (Or.inr (by decide)) (Or.inr (by decide)) (Or.inr (by decide)) (fun _ _ => rfl) a b ha hb
theorem xor_small (a b : Int) (ha : InM a) (hb : InM b) : -2199023255552 ≤ bits BinOp.xor IntKind.i64 a b ∧ bits BinOp.xor IntKind.i64 a b < 2199023255552 :=
  bits_small _ (· ^^^ ·) (fun x y n => BitVec.sshiftRight_xor_distrib x y n) (Or.inl (by decide)) (Or.inr (by decide)) (Or.inr (by decide)) (Or.inl (by decide)) (fun _ _ => rfl) a b ha hb

def arithN (K a b : Int) : Int :=
  if K = 7 then foldN (a + b) else if K = 8 then foldN (a - b) else if K = 9 then foldN (a * b) else if K = 10 then foldN (bits BinOp.and IntKind.i64 a b)
  else if K = 11 then foldN (bits BinOp.or IntKind.i64 a b) else if K = 12 then foldN (bits BinOp.xor IntKind.i64 a b) else if a < b then 1 else 0
theorem arithN_in (K a b : Int) : InM (arithN K a b) := by
  unfold arithN
  repeat' split
  all_goals first | exact foldN_in _ | (unfold InM; omega)
def takenN (K a b : Int) : Bool := if K = 18 then a == b else if K = 19 then !(a == b) else if K = 20 then decide (a < b) else decide (b ≤ a)
theorem arith_any (K a b : Int) (w : World) (ha : InM a) (hb : InM b) :
    Calls Tryd.prog 71 #[.int .i64 K, .int .i64 a, .int .i64 b] w fun e w' => e = .returned (.int .i64 (arithN K a b)) ∧ w = w' := by
  have HA := Lib.hid ha
  have HB := Lib.hid hb
  obtain ⟨n1, n2⟩ := and_small a b ha hb
  obtain ⟨o1, o2⟩ := or_small a b ha hb
  obtain ⟨x1, x2⟩ := xor_small a b ha hb
  unfold InM at ha hb
  by_cases h7 : K = 7
  · subst h7
    go_enter Tryd.func71, Tryd.ntmps71
    go_wp2_with (go_at_call 69; refine (fold_any _ _ (by omega) (by omega)).mono ?_; rintro e w' ⟨rfl, rfl⟩)
    go_ret
    exact ⟨rfl, rfl⟩
  by_cases h8 : K = 8
  · subst h8
    go_enter Tryd.func71, Tryd.ntmps71
    go_wp2_with (go_at_call 69; refine (fold_any _ _ (by omega) (by omega)).mono ?_; rintro e w' ⟨rfl, rfl⟩)
    go_ret
    exact ⟨rfl, rfl⟩
  by_cases h9 : K = 9
  · subst h9
    go_enter Tryd.func71, Tryd.ntmps71
    go_wp2_with (go_at_call 77; refine (product_any _ _ _ HA.out HB.out).mono ?_; rintro e w' ⟨rfl, rfl⟩)
    go_ret
    exact ⟨rfl, rfl⟩
  by_cases h10 : K = 10
  · subst h10
    go_enter Tryd.func71, Tryd.ntmps71
    go_wp2_with (go_at_call 69; refine (fold_any _ _ (by omega) (by omega)).mono ?_; rintro e w' ⟨rfl, rfl⟩)
    go_ret
    exact ⟨rfl, rfl⟩
  by_cases h11 : K = 11
  · subst h11
    go_enter Tryd.func71, Tryd.ntmps71
    go_wp2_with (go_at_call 69; refine (fold_any _ _ (by omega) (by omega)).mono ?_; rintro e w' ⟨rfl, rfl⟩)
    go_ret
    exact ⟨rfl, rfl⟩
  by_cases h12 : K = 12
  · subst h12
    go_enter Tryd.func71, Tryd.ntmps71
    go_wp2_with (go_at_call 69; refine (fold_any _ _ (by omega) (by omega)).mono ?_; rintro e w' ⟨rfl, rfl⟩)
    go_ret
    exact ⟨rfl, rfl⟩
  have t7 : (K == 7) = false := by simpa using h7
  have t8 : (K == 8) = false := by simpa using h8
  have t9 : (K == 9) = false := by simpa using h9
  have t10 : (K == 10) = false := by simpa using h10
  have t11 : (K == 11) = false := by simpa using h11
  have t12 : (K == 12) = false := by simpa using h12
  by_cases hlt : a < b
  · have e : arithN K a b = 1 := by unfold arithN; rw [if_neg h7, if_neg h8, if_neg h9, if_neg h10, if_neg h11, if_neg h12, if_pos hlt]
    have E := Lib.hid e
    clear e h7 h8 h9 h10 h11 h12
    go_enter Tryd.func71, Tryd.ntmps71
    go_wp2_with fail
    go_ret
    exact ⟨by rw [E.out]; rfl, rfl⟩
  · have e : arithN K a b = 0 := by unfold arithN; rw [if_neg h7, if_neg h8, if_neg h9, if_neg h10, if_neg h11, if_neg h12, if_neg hlt]
    have E := Lib.hid e
    clear e h7 h8 h9 h10 h11 h12
    go_enter Tryd.func71, Tryd.ntmps71
    go_wp2_with fail
    go_ret
    exact ⟨by rw [E.out]; rfl, rfl⟩
theorem taken_any (K a b : Int) (w : World) :
    Calls Tryd.prog 68 #[.int .i64 K, .int .i64 a, .int .i64 b] w fun e w' => e = .returned (.bool (takenN K a b)) ∧ w = w' := by
  by_cases h18 : K = 18
  · subst h18
    go_enter Tryd.func68, Tryd.ntmps68
    go_wp2_with fail
    go_ret
    exact ⟨by first | (simp [takenN]; done) | (simp [takenN]; rfl), rfl⟩
  by_cases h19 : K = 19
  · subst h19
    go_enter Tryd.func68, Tryd.ntmps68
    go_wp2_with fail
    go_ret
    exact ⟨by first | (simp [takenN]; done) | (simp [takenN]; rfl), rfl⟩
  by_cases h20 : K = 20
  · subst h20
    go_enter Tryd.func68, Tryd.ntmps68
    go_wp2_with fail
    go_ret
    exact ⟨by first | (simp [takenN]; done) | (simp [takenN]; rfl), rfl⟩
  have t18 : (K == 18) = false := by simpa using h18
  have t19 : (K == 19) = false := by simpa using h19
  have t20 : (K == 20) = false := by simpa using h20
  have E := Lib.hid (show takenN K a b = decide (b ≤ a) by unfold takenN; rw [if_neg h18, if_neg h19, if_neg h20])
  clear h18 h19 h20
  go_enter Tryd.func68, Tryd.ntmps68
  go_wp2_with fail
  go_ret
  exact ⟨by rw [E.out]; simp, rfl⟩
end Go.Proofs.YtpgifkhgefbnfaaDoor
end
section
namespace Go.Proofs.YtpgifkhgefbnfaaDoor
open Go.RowKit BH
set_option maxHeartbeats 1000000
set_option maxRecDepth 100000

def num8 (b : Int) : Int := if b < 128 then b else b - 256
def num16 (lo hi : Int) : Int := if lo + 256 * hi < 32768 then lo + 256 * hi else lo + 256 * hi - 65536

theorem num8_bits (x : Int) (h1 : 0 ≤ x) (h2 : x < 256) : wrap64 (IntKind.i8.wrap x) = num8 x := by
  obtain ⟨a, rfl⟩ : ∃ a : Nat, x = a := ⟨x.toNat, by omega⟩
  have : ∀ a : Nat, a < 256 → wrap64 (IntKind.i8.wrap (a : Int)) = num8 a := by decide +kernel
  exact this a (by omega)
theorem or_two (x y : Int) (h1 : 0 ≤ x) (h2 : x < 256) (h3 : 0 ≤ y) (h4 : y < 256) : bits BinOp.or IntKind.u16 x (y * 256) = x + 256 * y := by
  obtain ⟨a, rfl⟩ : ∃ a : Nat, x = a := ⟨x.toNat, by omega⟩
  obtain ⟨b, rfl⟩ : ∃ b : Nat, y = b := ⟨y.toNat, by omega⟩
  have h := u16_or_nat a (b * 256) (by omega) (by omega)
  rw [show ((b : Int) * 256) = ((b * 256 : Nat) : Int) by omega, h]
  have h2 : a < 2 ^ 8 := by omega
  have h3 := Nat.shiftLeft_add_eq_or_of_lt h2 b
  rw [Nat.shiftLeft_eq] at h3
  rw [Nat.or_comm, show b * 256 = b * 2 ^ 8 from rfl, ← h3]
  omega
theorem num16_bits (x y : Int) (h1 : 0 ≤ x) (h2 : x < 256) (h3 : 0 ≤ y) (h4 : y < 256) : wrap64 (IntKind.i16.wrap (bits BinOp.or IntKind.u16 x (y * 256))) = num16 x y := by
  rw [or_two x y h1 h2 h3 h4]
  have hw : IntKind.i16.wrap (x + 256 * y) = (x + 256 * y + 32768) % 65536 - 32768 := by
    simp [IntKind.wrap, IntKind.bits, IntKind.signed]
    split <;> omega
  rw [hw]
  unfold num16 wrap64
  split <;> omega
theorem number_one (b off cap : Nat) (x : Int) (w : World) (hc : w.cell? ⟨b, off, none⟩ = some (.int .u8 x)) (h1 : 0 ≤ x) (h2 : x < 256) :
    Calls Tryd.prog 19 #[.slice (some ⟨b, off, none⟩) 1 cap] w fun e w' => e = .returned (.int .i64 (num8 x)) ∧ w' = w := by
  go_enter Tryd.func19, Tryd.ntmps19
  go_wp2
  go_ret
  exact ⟨ret_num (num8_bits x h1 h2), rfl⟩
theorem number_two (b off cap : Nat) (x y : Int) (w : World) (hc : w.cell? ⟨b, off, none⟩ = some (.int .u8 x)) (hd : w.cell? ⟨b, off + 1, none⟩ = some (.int .u8 y)) (h1 : 0 ≤ x) (h2 : x < 256) (h3 : 0 ≤ y) (h4 : y < 256) :
    Calls Tryd.prog 19 #[.slice (some ⟨b, off, none⟩) 2 cap] w fun e w' => e = .returned (.int .i64 (num16 x y)) ∧ ∃ n, w' = w.drewN n := by
  go_enter Tryd.func19, Tryd.ntmps19
  go_wp2
  go_quiet (fail)
  go_wp2
  go_ret
  exact ⟨ret_num (num16_bits x y h1 h2 h3 h4), ⟨_, rfl⟩⟩
theorem signed_one (b off cap : Nat) (x : Int) (w : World) (hc : w.cell? ⟨b, off, none⟩ = some (.int .u8 x)) (h1 : 0 ≤ x) (h2 : x < 256) :
    Calls Tryd.prog 24 #[.slice (some ⟨b, off, none⟩) 1 cap] w fun e w' => e = .returned (.int .i64 (num8 x)) ∧ w' = w := by
  go_enter Tryd.func24, Tryd.ntmps24
  go_wp2
  all_goals
    go_ret
    refine ⟨ret_num ?_, rfl⟩
    unfold num8
    split <;> omega
theorem signed_two (b off cap : Nat) (x y : Int) (w : World) (hc : w.cell? ⟨b, off, none⟩ = some (.int .u8 x)) (hd : w.cell? ⟨b, off + 1, none⟩ = some (.int .u8 y)) (h1 : 0 ≤ x) (h2 : x < 256) (h3 : 0 ≤ y) (h4 : y < 256) :
    Calls Tryd.prog 24 #[.slice (some ⟨b, off, none⟩) 2 cap] w fun e w' => e = .returned (.int .i64 (num16 x y)) ∧ ∃ n, w' = w.drewN n := by
  go_enter Tryd.func24, Tryd.ntmps24
  go_wp2
  go_quiet (fail)
  go_wp2
  all_goals
    go_ret
    refine ⟨ret_num ?_, ⟨_, rfl⟩⟩
    unfold num16
    split <;> omega
end Go.Proofs.YtpgifkhgefbnfaaDoor
end
