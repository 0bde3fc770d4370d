/-
 The document's InstrAt at every address, of whatever bytes.
-/
import Derived.Test.YtnekiooaobnndaaDoorIsaDec7
import Derived.Test.YtnekiooaobnndaaDoorIsaAt2
import Derived.Test.YtnekiooaobnndaaDoorIsaAt3
import Derived.Test.YtnekiooaobnndaaDoorIsaAt4
import Derived.Test.YtnekiooaobnndaaDoorIsaAt5
set_option linter.all false
namespace Go.Proofs.YtnekiooaobnndaaDoor
open Go.RowKit BH
set_option maxHeartbeats 1000000
set_option maxRecDepth 100000
theorem instrAt_any (v : Value) (l : List UInt8) (x : Int) (w : World) (hb : Bytes w v l) (hl : l.length ≤ 140737488355328) :
  Calls Tryd.prog 21 #[v, .int .i64 x] w (DecAns (decAns l x) w) := by
 obtain ⟨ao, cap, rfl, h1, h2, h4, h3⟩ := hb
 by_cases hx : x < 0 ∨ (l.length : Int) ≤ x
 ·have e : decAns l x = (zeroIns, 0, 2) := by unfold decAns; rw [if_pos hx]
  rw [e]
  exact at_out ao l.length cap x w hl hx
 obtain ⟨a, rfl⟩ : ∃ a : Nat, x = a := ⟨x.toNat, by omega⟩
 obtain ⟨b, off, rfl, hc⟩ := h3 (by omega)
 have c := byte_cells hc
 have hcm : cap ≤ 9223372036854775807 := by unfold maxLen at h2; omega
 obtain ⟨u0, u1⟩ := byteAt_bd l a
 obtain ⟨p0, p1⟩ := byteAt_bd l (a + 1)
 obtain ⟨q0, q1⟩ := byteAt_bd l (a + 2)
 obtain ⟨r0, r1⟩ := byteAt_bd l (a + 3)
 obtain ⟨k, lg, hk⟩ : ∃ k lg, kindOf (byteAt l a) = (k, lg) := ⟨_, _, rfl⟩
 obtain ⟨k24, klg⟩ := kindOf_bd (byteAt l a) u0 u1
 rw [hk] at k24 klg
 have hr := (refGo_kindOf (byteAt l a) u0 u1).trans hk
 by_cases k0 : k = 0
 ·subst k0
  have e : decAns l a = (zeroIns, 0, 3) := by
   unfold decAns
   rw [if_neg hx]
   simp only [Int.toNat_natCast, hk]
   rw [if_pos trivial]
  rw [e]
  exact at_nokind b off cap l.length a (byteAt l a) lg w h1 hcm (by omega) (c a _ (by omega) rfl) u0 u1 hr
 by_cases ks : (l.length : Int) < a + insSize k lg
 ·have e : decAns l a = (zeroIns, 0, 5) := by
   unfold decAns
   rw [if_neg hx]
   simp only [Int.toNat_natCast, hk]
   rw [if_neg k0, if_pos ks]
  rw [e]
  exact at_short b off cap l.length a k lg (by omega) (by omega) (byteAt l a) w h1 hcm hl (by omega) ks (c a _ (by omega) rfl) u0 u1 hr
 have hlg : lg = true → 18 ≤ k ∧ k ≤ 22 := klg
 by_cases h_bare : k ≤ 4
 ·obtain rfl : lg = false := by cases lg with
  | false => rfl
  | true => exact absurd (hlg rfl) (by omega)
  have hz : insSize k false = 1 := by
   obtain rfl | rfl | rfl | rfl : k = 1 ∨ k = 2 ∨ k = 3 ∨ k = 4 := by omega
   all_goals rfl
  rw [hz] at ks
  have e := decAns_at hk (by omega) (by omega) hz (by omega) (i := ⟨k, 0, 0, 0, 0, false⟩) (by
   unfold rawIns
   repeat (first | rw [if_pos (by omega)] | rw [if_neg (by omega)])
   try simp only [cond_true, cond_false])
  exact (at_bare b off cap l.length a k (by omega) (by omega) (byteAt l a) w h1 hcm (by omega) (c a _ (by omega) rfl)  u0 u1  hr).mono fun e' w' h => decGives_ans h e
 by_cases h_wide : k ≤ 5
 ·obtain rfl : lg = false := by cases lg with
  | false => rfl
  | true => exact absurd (hlg rfl) (by omega)
  have hz : insSize k false = 4 := by
   obtain rfl : k = 5 := by omega
   all_goals rfl
  rw [hz] at ks
  have e := decAns_at hk (by omega) (by omega) hz (by omega) (i := ⟨k, byteAt l (a + 1), 0, 0, num16 (byteAt l (a + 2)) (byteAt l (a + 3)), false⟩) (by
   unfold rawIns
   repeat (first | rw [if_pos (by omega)] | rw [if_neg (by omega)])
   try simp only [cond_true, cond_false])
  exact (at_wide b off cap l.length a k (by omega) (by omega) (byteAt l a) (byteAt l (a + 1)) (byteAt l (a + 2)) (byteAt l (a + 3)) w h1 hcm (by omega) (c a _ (by omega) rfl) (c (a + 1) _ (by omega) (by omega)) (c (a + 2) _ (by omega) (by omega)) (c (a + 3) _ (by omega) (by omega)) u0 u1 p0 p1 q0 q1 r0 r1 hr).mono fun e' w' h => decGives_ans h e
 by_cases h_pairA : k ≤ 6
 ·obtain rfl : lg = false := by cases lg with
  | false => rfl
  | true => exact absurd (hlg rfl) (by omega)
  have hz : insSize k false = 3 := by
   obtain rfl : k = 6 := by omega
   all_goals rfl
  rw [hz] at ks
  have e := decAns_at hk (by omega) (by omega) hz (by omega) (i := ⟨k, byteAt l (a + 1) / 16, byteAt l (a + 1) % 16, 0, num8 (byteAt l (a + 2)), false⟩) (by
   unfold rawIns
   repeat (first | rw [if_pos (by omega)] | rw [if_neg (by omega)])
   try simp only [cond_true, cond_false])
  exact (at_pairA b off cap l.length a k (by omega) (by omega) (byteAt l a) (byteAt l (a + 1)) (byteAt l (a + 2)) w h1 hcm (by omega) (c a _ (by omega) rfl) (c (a + 1) _ (by omega) (by omega)) (c (a + 2) _ (by omega) (by omega)) u0 u1 p0 p1 q0 q1 hr).mono fun e' w' h => decGives_ans h e
 by_cases h_three : k ≤ 13
 ·obtain rfl : lg = false := by cases lg with
  | false => rfl
  | true => exact absurd (hlg rfl) (by omega)
  have hz : insSize k false = 3 := by
   obtain rfl | rfl | rfl | rfl | rfl | rfl | rfl : k = 7 ∨ k = 8 ∨ k = 9 ∨ k = 10 ∨ k = 11 ∨ k = 12 ∨ k = 13 := by omega
   all_goals rfl
  rw [hz] at ks
  have e := decAns_at hk (by omega) (by omega) hz (by omega) (i := ⟨k, byteAt l (a + 1) / 16, byteAt l (a + 1) % 16, byteAt l (a + 2), 0, false⟩) (by
   unfold rawIns
   repeat (first | rw [if_pos (by omega)] | rw [if_neg (by omega)])
   try simp only [cond_true, cond_false])
  exact (at_three b off cap l.length a k (by omega) (by omega) (byteAt l a) (byteAt l (a + 1)) (byteAt l (a + 2)) w h1 hcm (by omega) (c a _ (by omega) rfl) (c (a + 1) _ (by omega) (by omega)) (c (a + 2) _ (by omega) (by omega)) u0 u1 p0 p1 q0 q1 hr).mono fun e' w' h => decGives_ans h e
 by_cases h_pairB : k ≤ 14
 ·obtain rfl : lg = false := by cases lg with
  | false => rfl
  | true => exact absurd (hlg rfl) (by omega)
  have hz : insSize k false = 3 := by
   obtain rfl : k = 14 := by omega
   all_goals rfl
  rw [hz] at ks
  have e := decAns_at hk (by omega) (by omega) hz (by omega) (i := ⟨k, byteAt l (a + 1) / 16, byteAt l (a + 1) % 16, 0, num8 (byteAt l (a + 2)), false⟩) (by
   unfold rawIns
   repeat (first | rw [if_pos (by omega)] | rw [if_neg (by omega)])
   try simp only [cond_true, cond_false])
  exact (at_pairB b off cap l.length a k (by omega) (by omega) (byteAt l a) (byteAt l (a + 1)) (byteAt l (a + 2)) w h1 hcm (by omega) (c a _ (by omega) rfl) (c (a + 1) _ (by omega) (by omega)) (c (a + 2) _ (by omega) (by omega)) u0 u1 p0 p1 q0 q1 hr).mono fun e' w' h => decGives_ans h e
 by_cases h_store : k ≤ 15
 ·obtain rfl : lg = false := by cases lg with
  | false => rfl
  | true => exact absurd (hlg rfl) (by omega)
  have hz : insSize k false = 3 := by
   obtain rfl : k = 15 := by omega
   all_goals rfl
  rw [hz] at ks
  have e := decAns_at hk (by omega) (by omega) hz (by omega) (i := ⟨k, 0, byteAt l (a + 1) % 16, byteAt l (a + 1) / 16, num8 (byteAt l (a + 2)), false⟩) (by
   unfold rawIns
   repeat (first | rw [if_pos (by omega)] | rw [if_neg (by omega)])
   try simp only [cond_true, cond_false])
  exact (at_store b off cap l.length a k (by omega) (by omega) (byteAt l a) (byteAt l (a + 1)) (byteAt l (a + 2)) w h1 hcm (by omega) (c a _ (by omega) rfl) (c (a + 1) _ (by omega) (by omega)) (c (a + 2) _ (by omega) (by omega)) u0 u1 p0 p1 q0 q1 hr).mono fun e' w' h => decGives_ans h e
 by_cases h_dest : k ≤ 16
 ·obtain rfl : lg = false := by cases lg with
  | false => rfl
  | true => exact absurd (hlg rfl) (by omega)
  have hz : insSize k false = 2 := by
   obtain rfl : k = 16 := by omega
   all_goals rfl
  rw [hz] at ks
  have e := decAns_at hk (by omega) (by omega) hz (by omega) (i := ⟨k, byteAt l (a + 1), 0, 0, 0, false⟩) (by
   unfold rawIns
   repeat (first | rw [if_pos (by omega)] | rw [if_neg (by omega)])
   try simp only [cond_true, cond_false])
  exact (at_dest b off cap l.length a k (by omega) (by omega) (byteAt l a) (byteAt l (a + 1)) w h1 hcm (by omega) (c a _ (by omega) rfl) (c (a + 1) _ (by omega) (by omega)) u0 u1 p0 p1 hr).mono fun e' w' h => decGives_ans h e
 by_cases h_source : k ≤ 17
 ·obtain rfl : lg = false := by cases lg with
  | false => rfl
  | true => exact absurd (hlg rfl) (by omega)
  have hz : insSize k false = 2 := by
   obtain rfl : k = 17 := by omega
   all_goals rfl
  rw [hz] at ks
  have e := decAns_at hk (by omega) (by omega) hz (by omega) (i := ⟨k, 0, byteAt l (a + 1), 0, 0, false⟩) (by
   unfold rawIns
   repeat (first | rw [if_pos (by omega)] | rw [if_neg (by omega)])
   try simp only [cond_true, cond_false])
  exact (at_source b off cap l.length a k (by omega) (by omega) (byteAt l a) (byteAt l (a + 1)) w h1 hcm (by omega) (c a _ (by omega) rfl) (c (a + 1) _ (by omega) (by omega)) u0 u1 p0 p1 hr).mono fun e' w' h => decGives_ans h e
 by_cases h_branch : k ≤ 21
 ·cases lg with
  | false =>
   have hz : insSize k false = 3 := by
    obtain rfl | rfl | rfl | rfl : k = 18 ∨ k = 19 ∨ k = 20 ∨ k = 21 := by omega
    all_goals rfl
   rw [hz] at ks
   have e := decAns_at hk (by omega) (by omega) hz (by omega) (i := ⟨k, 0, byteAt l (a + 1) / 16, byteAt l (a + 1) % 16, num8 (byteAt l (a + 2)), false⟩) (by
    unfold rawIns
    repeat (first | rw [if_pos (by omega)] | rw [if_neg (by omega)])
    try simp only [cond_false])
   exact (at_branchS b off cap l.length a k (by omega) (by omega) (byteAt l a) (byteAt l (a + 1)) (byteAt l (a + 2)) w h1 hcm (by omega) (c a _ (by omega) rfl) (c (a + 1) _ (by omega) (by omega)) (c (a + 2) _ (by omega) (by omega)) u0 u1 p0 p1 q0 q1 hr).mono fun e' w' h => decGives_ans h e
  | true =>
   have hz : insSize k true = 4 := by
    obtain rfl | rfl | rfl | rfl : k = 18 ∨ k = 19 ∨ k = 20 ∨ k = 21 := by omega
    all_goals rfl
   rw [hz] at ks
   have e := decAns_at hk (by omega) (by omega) hz (by omega) (i := ⟨k, 0, byteAt l (a + 1) / 16, byteAt l (a + 1) % 16, num16 (byteAt l (a + 2)) (byteAt l (a + 3)), true⟩) (by
    unfold rawIns
    repeat (first | rw [if_pos (by omega)] | rw [if_neg (by omega)])
    try simp only [cond_true])
   exact (at_branchL b off cap l.length a k (by omega) (by omega) (byteAt l a) (byteAt l (a + 1)) (byteAt l (a + 2)) (byteAt l (a + 3)) w h1 hcm (by omega) (c a _ (by omega) rfl) (c (a + 1) _ (by omega) (by omega)) (c (a + 2) _ (by omega) (by omega)) (c (a + 3) _ (by omega) (by omega)) u0 u1 p0 p1 q0 q1 r0 r1 hr).mono fun e' w' h => decGives_ans h e
 by_cases h_jump : k ≤ 22
 ·cases lg with
  | false =>
   have hz : insSize k false = 2 := by
    obtain rfl : k = 22 := by omega
    all_goals rfl
   rw [hz] at ks
   have e := decAns_at hk (by omega) (by omega) hz (by omega) (i := ⟨k, 0, 0, 0, num8 (byteAt l (a + 1)), false⟩) (by
    unfold rawIns
    repeat (first | rw [if_pos (by omega)] | rw [if_neg (by omega)])
    try simp only [cond_false])
   exact (at_jumpS b off cap l.length a k (by omega) (by omega) (byteAt l a) (byteAt l (a + 1)) w h1 hcm (by omega) (c a _ (by omega) rfl) (c (a + 1) _ (by omega) (by omega)) u0 u1 p0 p1 hr).mono fun e' w' h => decGives_ans h e
  | true =>
   have hz : insSize k true = 3 := by
    obtain rfl : k = 22 := by omega
    all_goals rfl
   rw [hz] at ks
   have e := decAns_at hk (by omega) (by omega) hz (by omega) (i := ⟨k, 0, 0, 0, num16 (byteAt l (a + 1)) (byteAt l (a + 2)), true⟩) (by
    unfold rawIns
    repeat (first | rw [if_pos (by omega)] | rw [if_neg (by omega)])
    try simp only [cond_true])
   exact (at_jumpL b off cap l.length a k (by omega) (by omega) (byteAt l a) (byteAt l (a + 1)) (byteAt l (a + 2)) w h1 hcm (by omega) (c a _ (by omega) rfl) (c (a + 1) _ (by omega) (by omega)) (c (a + 2) _ (by omega) (by omega)) u0 u1 p0 p1 q0 q1 hr).mono fun e' w' h => decGives_ans h e
 by_cases h_call : k ≤ 23
 ·obtain rfl : lg = false := by cases lg with
  | false => rfl
  | true => exact absurd (hlg rfl) (by omega)
  have hz : insSize k false = 3 := by
   obtain rfl : k = 23 := by omega
   all_goals rfl
  rw [hz] at ks
  have e := decAns_at hk (by omega) (by omega) hz (by omega) (i := ⟨k, 0, 0, 0, num16 (byteAt l (a + 1)) (byteAt l (a + 2)), false⟩) (by
   unfold rawIns
   repeat (first | rw [if_pos (by omega)] | rw [if_neg (by omega)])
   try simp only [cond_true, cond_false])
  exact (at_call b off cap l.length a k (by omega) (by omega) (byteAt l a) (byteAt l (a + 1)) (byteAt l (a + 2)) w h1 hcm (by omega) (c a _ (by omega) rfl) (c (a + 1) _ (by omega) (by omega)) (c (a + 2) _ (by omega) (by omega)) u0 u1 p0 p1 q0 q1 hr).mono fun e' w' h => decGives_ans h e
 by_cases h_table : k ≤ 24
 ·obtain rfl : lg = false := by cases lg with
  | false => rfl
  | true => exact absurd (hlg rfl) (by omega)
  have hz : insSize k false = 3 := by
   obtain rfl : k = 24 := by omega
   all_goals rfl
  rw [hz] at ks
  have e := decAns_at hk (by omega) (by omega) hz (by omega) (i := ⟨k, 0, byteAt l (a + 1), 0, byteAt l (a + 2), false⟩) (by
   unfold rawIns
   repeat (first | rw [if_pos (by omega)] | rw [if_neg (by omega)])
   try simp only [cond_true, cond_false])
  exact (at_table b off cap l.length a k (by omega) (by omega) (byteAt l a) (byteAt l (a + 1)) (byteAt l (a + 2)) w h1 hcm (by omega) (c a _ (by omega) rfl) (c (a + 1) _ (by omega) (by omega)) (c (a + 2) _ (by omega) (by omega)) u0 u1 p0 p1 q0 q1 hr).mono fun e' w' h => decGives_ans h e
 omega
end Go.Proofs.YtnekiooaobnndaaDoor
