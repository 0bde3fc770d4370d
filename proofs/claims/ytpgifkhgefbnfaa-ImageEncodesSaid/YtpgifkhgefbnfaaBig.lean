/-
  The document's big: a number in two bytes, in eight.
-/
import Derived.Test.YtpgifkhgefbnfaaWriter
namespace Go.Proofs.Ytpgifkhgefbnfaa
open Go.RowKit BH
set_option maxHeartbeats 4000000
set_option maxRecDepth 100000

theorem tmod_pos {n m : Int} (h : 0 ≤ n) : n.tmod m = n % m := Int.tmod_eq_emod_of_nonneg h
theorem tmod_min {n m : Int} (h : n < 0) : n.tmod m = -((-n) % m) := by
  have : n = -(-n) := by omega
  rw [this, Int.neg_tmod, tmod_pos (by omega)]
  simp
theorem wrap_byte (n : Int) : (wrap64 (n.tmod 256 + 256)).tmod 256 = n % 256 := by
  by_cases h : 0 ≤ n
  · rw [show n.tmod 256 = n % 256 from tmod_pos h, show wrap64 (n % 256 + 256) = n % 256 + 256 by unfold wrap64; omega, tmod_pos (by omega)]
    omega
  · rw [show n.tmod 256 = -(-n % 256) from tmod_min (by omega), show wrap64 (-(-n % 256) + 256) = -(-n % 256) + 256 by unfold wrap64; omega, tmod_pos (by omega)]
    omega
theorem ret_num {k : IntKind} {a b : Int} (h : a = b) : Ending.returned (.int k a) = .returned (.int k b) := by rw [h]
theorem wrap_any (n : Int) (w : World) :
    Calls Try.prog 50 #[.int .i64 n, .int .i64 256] w fun e w' => ∃ q, e = .returned (.int .i64 q) ∧ 0 ≤ q ∧ q < 256 ∧ Hid (q = n % 256) ∧ w = w' := by
  have HN := Lib.hid (wrap_byte n)
  go_enter Try.func50, Try.ntmps50
  go_wp2
  go_ret
  exact ⟨n % 256, ret_num (by first | exact HN.out | (simp only [wrap64]; exact HN.out)), by omega, by omega, Lib.hid rfl, rfl⟩
/-- zeros, and behind them the lower bytes -/
def bigArr (n : Int) (i k : Nat) : Array Value := (List.replicate i (Value.int .u8 0) ++ (bigB n k).map (Value.int .u8)).toArray
theorem bigArr_size (n : Int) (i k : Nat) : (bigArr n i k).size = i + k := by simp [bigArr, bigB_len]
theorem bigArr_at (n : Int) (i k : Nat) : (bigArr n (i + 1) k)[i]? = some (.int .u8 0) := by
  simp [bigArr, List.getElem?_append]
theorem bigArr_set (n : Int) (i k : Nat) : (bigArr n (i + 1) k).setIfInBounds i (.int .u8 (n / 2 ^ (8 * k) % 256)) = bigArr n i (k + 1) := by
  unfold bigArr
  rw [List.setIfInBounds_toArray]
  congr 1
  rw [List.replicate_succ', List.append_assoc, List.set_append_right _ _ (by simp)]
  simp [bigB]
theorem quo_byte (x q : Int) (hq : q = x % 256) : (x - q).tdiv 256 = x / 256 := by
  subst hq
  have : x - x % 256 = x / 256 * 256 := by omega
  rw [this, Int.mul_tdiv_cancel _ (by decide)]
theorem pow_next (n : Int) (k : Nat) : n / 2 ^ (8 * k) / 256 = n / 2 ^ (8 * (k + 1)) := by
  have h2 : (2 : Int) ^ (8 * (k + 1)) = 2 ^ (8 * k) * 256 := by rw [Nat.mul_add, Int.pow_add]; rfl
  rw [h2, Int.ediv_ediv_of_nonneg (Int.le_of_lt (Int.pow_pos (by decide)))]
theorem big_2 (n : Int) (h1 : -4611686018427387904 ≤ n) (h2 : n ≤ 4611686018427387904) (w : World) :
    Calls Try.prog 25 #[.int .i64 n, .int .i64 2] w (Gives (fun v' w' => Own w' w.heap.size 5 1 cu v' (bigB n 2)) w) := by
  have hmk : ∀ w, (Instr.makeSlice 22 (.int .i64 2) (.int .i64 2)).run Try.prog w = .ok (.slice (some ⟨w.heap.size, 0, none⟩) 2 2) (w.alloc (.cells #[.int .u8 0, .int .u8 0] 5)) := fun _ => by kernel_rfl
  go_enter Try.func25, Try.ntmps25
  go_wp2_with fail
  go_loopw [0, 6] (fun s0 s6 wr => ∃ (i k : Nat) (x : Int), i + k = 2 ∧ s6 = .int .i64 ((i : Int) - 1) ∧ s0 = .int .i64 x ∧ Hid (x = n / 2 ^ (8 * k)) ∧ -4611686018427387904 ≤ x ∧ x ≤ 4611686018427387904 ∧ Keeps w wr ∧ Blk wr w.heap.size (.cells (bigArr n i k) 5)) (fun _ s6 _ => (intOf s6 + 1).toNat)
  case atStart => exact ⟨2, 0, n, rfl, rfl, rfl, Lib.hid (by simp), h1, h2, (Keeps.refl _).alloc _, Blk.top _ _⟩
  case round =>
    obtain ⟨i, k, x, hik, rfl, rfl, hx, x1, x2, hkr, hb⟩ := hrel
    clear hmk
    rcases Nat.eq_zero_or_pos i with h0 | h0
    · subst h0
      obtain rfl : k = 2 := by omega
      have HB := Lib.hid hb
      clear hb hik
      go_wp2_with fail
      go_ret
      refine ⟨_, rfl, ?_, hkr⟩
      have := Own.of_block (w := wr) (base := w.heap.size) (e := 5) (l := bigB n 2) cu_len (Nat.le_refl _) (by
        have h := HB.out
        unfold Blk at h
        rw [h]
        simp [bigArr, cu, List.flatMap_eq_foldl, bigB]) (by rw [bigB_len]; unfold maxLen; omega)
      rw [bigB_len] at this
      exact this
    · obtain ⟨j, rfl⟩ : ∃ j, i = j + 1 := ⟨i - 1, by omega⟩
      have e1 : (((j + 1 : Nat) : Int) - 1) = j := by omega
      rw [e1]
      have g0 := hb.cell (bigArr_at n j k)
      have f0 := hb.thawed j
      have hgl := hb.lt
      have HB := Lib.hid hb
      have HK := Lib.hid hik
      have hj : j < 2 := by omega
      clear hb e1 hik
      go_wp2_with fail
      refine (wrap_any x wr).mono ?_
      rintro e w' ⟨q, rfl, q1, q2, hq, rfl⟩
      have HW := Lib.hid (show IntKind.u8.wrap q = q by simp [IntKind.wrap, IntKind.bits, IntKind.signed]; omega)
      go_wp2_with fail
      refine (wrap_any x _).mono ?_
      rintro e w' ⟨q', rfl, q1', q2', hq', rfl⟩
      obtain rfl : q' = q := hq'.out.trans hq.out.symm
      have HQ := Lib.hid (quo_byte x q' hq.out)
      go_wp2_with fail
      go_roundw
      case rel =>
        refine ⟨j, k + 1, x / 256, by have := HK.out; omega, by go_num, ?_, Lib.hid (by rw [hx.out]; exact pow_next n k), by omega, by omega, Keeps.setCell hkr (Nat.le_refl _) _, ?_⟩
        · first | (rw [HQ.out]) | (simp only [HQ.out]) | trace_state
        · have h := Blk.set HB.out j (.int .u8 (n / 2 ^ (8 * k) % 256))
          rw [bigArr_set] at h
          rw [← hx.out, ← hq.out] at h
          exact h
      case measure => simp [intOf] <;> omega
theorem big_8 (n : Int) (h1 : -4611686018427387904 ≤ n) (h2 : n ≤ 4611686018427387904) (w : World) :
    Calls Try.prog 25 #[.int .i64 n, .int .i64 8] w (Gives (fun v' w' => Own w' w.heap.size 5 1 cu v' (bigB n 8)) w) := by
  have hmk : ∀ w, (Instr.makeSlice 22 (.int .i64 8) (.int .i64 8)).run Try.prog w = .ok (.slice (some ⟨w.heap.size, 0, none⟩) 8 8) (w.alloc (.cells #[.int .u8 0, .int .u8 0, .int .u8 0, .int .u8 0, .int .u8 0, .int .u8 0, .int .u8 0, .int .u8 0] 5)) := fun _ => by kernel_rfl
  go_enter Try.func25, Try.ntmps25
  go_wp2_with fail
  go_loopw [0, 6] (fun s0 s6 wr => ∃ (i k : Nat) (x : Int), i + k = 8 ∧ s6 = .int .i64 ((i : Int) - 1) ∧ s0 = .int .i64 x ∧ Hid (x = n / 2 ^ (8 * k)) ∧ -4611686018427387904 ≤ x ∧ x ≤ 4611686018427387904 ∧ Keeps w wr ∧ Blk wr w.heap.size (.cells (bigArr n i k) 5)) (fun _ s6 _ => (intOf s6 + 1).toNat)
  case atStart => exact ⟨8, 0, n, rfl, rfl, rfl, Lib.hid (by simp), h1, h2, (Keeps.refl _).alloc _, Blk.top _ _⟩
  case round =>
    obtain ⟨i, k, x, hik, rfl, rfl, hx, x1, x2, hkr, hb⟩ := hrel
    clear hmk
    rcases Nat.eq_zero_or_pos i with h0 | h0
    · subst h0
      obtain rfl : k = 8 := by omega
      have HB := Lib.hid hb
      clear hb hik
      go_wp2_with fail
      go_ret
      refine ⟨_, rfl, ?_, hkr⟩
      have := Own.of_block (w := wr) (base := w.heap.size) (e := 5) (l := bigB n 8) cu_len (Nat.le_refl _) (by
        have h := HB.out
        unfold Blk at h
        rw [h]
        simp [bigArr, cu, List.flatMap_eq_foldl, bigB]) (by rw [bigB_len]; unfold maxLen; omega)
      rw [bigB_len] at this
      exact this
    · obtain ⟨j, rfl⟩ : ∃ j, i = j + 1 := ⟨i - 1, by omega⟩
      have e1 : (((j + 1 : Nat) : Int) - 1) = j := by omega
      rw [e1]
      have g0 := hb.cell (bigArr_at n j k)
      have f0 := hb.thawed j
      have hgl := hb.lt
      have HB := Lib.hid hb
      have HK := Lib.hid hik
      have hj : j < 8 := by omega
      clear hb e1 hik
      go_wp2_with fail
      refine (wrap_any x wr).mono ?_
      rintro e w' ⟨q, rfl, q1, q2, hq, rfl⟩
      have HW := Lib.hid (show IntKind.u8.wrap q = q by simp [IntKind.wrap, IntKind.bits, IntKind.signed]; omega)
      go_wp2_with fail
      refine (wrap_any x _).mono ?_
      rintro e w' ⟨q', rfl, q1', q2', hq', rfl⟩
      obtain rfl : q' = q := hq'.out.trans hq.out.symm
      have HQ := Lib.hid (quo_byte x q' hq.out)
      go_wp2_with fail
      go_roundw
      case rel =>
        refine ⟨j, k + 1, x / 256, by have := HK.out; omega, by go_num, ?_, Lib.hid (by rw [hx.out]; exact pow_next n k), by omega, by omega, Keeps.setCell hkr (Nat.le_refl _) _, ?_⟩
        · first | (rw [HQ.out]) | (simp only [HQ.out]) | trace_state
        · have h := Blk.set HB.out j (.int .u8 (n / 2 ^ (8 * k) % 256))
          rw [bigArr_set] at h
          rw [← hx.out, ← hq.out] at h
          exact h
      case measure => simp [intOf] <;> omega
end Go.Proofs.Ytpgifkhgefbnfaa
