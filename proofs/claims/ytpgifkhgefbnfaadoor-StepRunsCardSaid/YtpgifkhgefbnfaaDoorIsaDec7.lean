/-
  isa.Decode at every address, of whatever bytes.
-/
import Derived.Test.YtpgifkhgefbnfaaDoorIsaDec3
import Derived.Test.YtpgifkhgefbnfaaDoorIsaDec4
import Derived.Test.YtpgifkhgefbnfaaDoorIsaDec5
import Derived.Test.YtpgifkhgefbnfaaDoorIsaAt1
namespace Go.Proofs.YtpgifkhgefbnfaaDoor
open Go.RowKit BH
set_option maxHeartbeats 1000000
set_option maxRecDepth 100000
theorem byte_cells {w : World} {b off : Nat} {l : List UInt8} (h3 : ∀ i j, i < l.length → j < 1 → w.cell? ⟨b, off + i * 1 + j, none⟩ = some (.int .u8 ((nth l i).toNat : Int))) : ∀ i n, i < l.length → n = off + i → w.cell? ⟨b, n, none⟩ = some (.int .u8 (byteAt l i)) := by
  intro i n hi hn
  subst hn
  have := h3 i 0 hi (by omega)
  unfold byteAt
  simpa using this
/-- the answer, as it is returned -/
def DecAns (r : Ins × Int × Int) (w : World) (e : Ending) (w' : World) : Prop := e = .returned (.tuple #[r.1.v, .int .i64 r.2.1, .int .i64 r.2.2]) ∧ Keeps w w'
theorem decGives_ans {r : Ins × Int × Int} {i : Ins} {z : Int} {w w' : World} {e : Ending} (h : DecGives i z w e w') (hr : r = if insFault i.K i.D i.A i.B i.N i.Lg = 0 then (i, z, 0) else (zeroIns, 0, 4)) : DecAns r w e w' := by
  obtain ⟨h1, h2⟩ := h
  subst hr
  unfold DecAns
  by_cases hf : insFault i.K i.D i.A i.B i.N i.Lg = 0
  · rw [if_pos hf] at h1 ⊢; exact ⟨h1, h2⟩
  · rw [if_neg hf] at h1 ⊢; exact ⟨h1, h2⟩
/-- what is answered where all bytes are there -/
theorem decAns_at {l : List UInt8} {a k : Nat} {lg : Bool} (hk : kindOf (byteAt l a) = (k, lg)) (h1 : 1 ≤ k) (ha : a < l.length) {z : Int} (hz : insSize k lg = z) (hs : (a : Int) + z ≤ l.length) {i : Ins}
    (hi : rawIns k lg (byteAt l (a + 1)) (byteAt l (a + 2)) (byteAt l (a + 3)) = i) : decAns l a = if insFault i.K i.D i.A i.B i.N i.Lg = 0 then (i, z, 0) else (zeroIns, 0, 4) := by
  subst hi
  subst hz
  unfold decAns
  rw [if_neg (by omega)]
  simp only [Int.toNat_natCast, hk]
  rw [if_neg (by omega), if_neg (by omega)]
theorem decode_any (v : Value) (l : List UInt8) (x : Int) (w : World) (ht : Tab w) (hs : Siz w) (hb : Bytes w v l) (hl : l.length ≤ 140737488355328) :
    Calls Tryd.prog 6 #[v, .int .i64 x] w (DecAns (decAns l x) w) := by
  obtain ⟨ao, cap, rfl, h1, h2, h4, h3⟩ := hb
  by_cases hx : x < 0 ∨ (l.length : Int) ≤ x
  · have e : decAns l x = (zeroIns, 0, 2) := by unfold decAns; rw [if_pos hx]
    rw [e]
    exact decode_out ao l.length cap x w hx
  obtain ⟨a, rfl⟩ : ∃ a : Nat, x = a := ⟨x.toNat, by omega⟩
  obtain ⟨b, off, rfl, hc⟩ := h3 (by omega)
  have c := byte_cells hc
  have hcm : cap ≤ 9223372036854775807 := by unfold maxLen at h2; omega
  obtain ⟨u0, u1⟩ := byteAt_bd l a
  obtain ⟨p0, p1⟩ := byteAt_bd l (a + 1)
  obtain ⟨q0, q1⟩ := byteAt_bd l (a + 2)
  obtain ⟨r0, r1⟩ := byteAt_bd l (a + 3)
  obtain ⟨k, lg, hk⟩ : ∃ k lg, kindOf (byteAt l a) = (k, lg) := ⟨_, _, rfl⟩
  obtain ⟨k24, klg⟩ := kindOf_bd (byteAt l a) u0 u1
  rw [hk] at k24 klg
  by_cases k0 : k = 0
  · subst k0
    have e : decAns l a = (zeroIns, 0, 3) := by
      unfold decAns
      rw [if_neg hx]
      simp only [Int.toNat_natCast, hk]
      rw [if_pos trivial]
    rw [e]
    exact decode_nokind b off cap l.length a (byteAt l a) lg w ht (by omega) (c a _ (by omega) rfl) hk
  by_cases ks : (l.length : Int) < a + insSize k lg
  · have e : decAns l a = (zeroIns, 0, 5) := by
      unfold decAns
      rw [if_neg hx]
      simp only [Int.toNat_natCast, hk]
      rw [if_neg k0, if_pos ks]
    rw [e]
    exact decode_short b off cap l.length a k lg (by omega) (by omega) (byteAt l a) w ht hs hl (by omega) ks (c a _ (by omega) rfl) hk
  have hlg : lg = true → 18 ≤ k ∧ k ≤ 22 := klg
  by_cases h_bare : k ≤ 4
  · obtain rfl : lg = false := by cases lg with
    | false => rfl
    | true => exact absurd (hlg rfl) (by omega)
    have hz : insSize k false = 1 := by
      obtain rfl | rfl | rfl | rfl : k = 1 ∨ k = 2 ∨ k = 3 ∨ k = 4 := by omega
      all_goals rfl
    rw [hz] at ks
    have e := decAns_at hk (by omega) (by omega) hz (by omega) (i := ⟨k, 0, 0, 0, 0, false⟩) (by
      unfold rawIns
      repeat (first | rw [if_pos (by omega)] | rw [if_neg (by omega)])
      try simp only [cond_true, cond_false])
    exact (dec_bare b off cap l.length a k (by omega) (by omega) (byteAt l a) w ht hs h1 hcm (by omega) (c a _ (by omega) rfl)   hk).mono fun e' w' h => decGives_ans h e
  by_cases h_wide : k ≤ 5
  · obtain rfl : lg = false := by cases lg with
    | false => rfl
    | true => exact absurd (hlg rfl) (by omega)
    have hz : insSize k false = 4 := by
      obtain rfl : k = 5 := by omega
      all_goals rfl
    rw [hz] at ks
    have e := decAns_at hk (by omega) (by omega) hz (by omega) (i := ⟨k, byteAt l (a + 1), 0, 0, num16 (byteAt l (a + 2)) (byteAt l (a + 3)), false⟩) (by
      unfold rawIns
      repeat (first | rw [if_pos (by omega)] | rw [if_neg (by omega)])
      try simp only [cond_true, cond_false])
    exact (dec_wide b off cap l.length a k (by omega) (by omega) (byteAt l a) (byteAt l (a + 1)) (byteAt l (a + 2)) (byteAt l (a + 3)) w ht hs h1 hcm (by omega) (c a _ (by omega) rfl) (c (a + 1) _ (by omega) (by omega)) (c (a + 2) _ (by omega) (by omega)) (c (a + 3) _ (by omega) (by omega)) p0 p1 q0 q1 r0 r1 hk).mono fun e' w' h => decGives_ans h e
  by_cases h_pairA : k ≤ 6
  · obtain rfl : lg = false := by cases lg with
    | false => rfl
    | true => exact absurd (hlg rfl) (by omega)
    have hz : insSize k false = 3 := by
      obtain rfl : k = 6 := by omega
      all_goals rfl
    rw [hz] at ks
    have e := decAns_at hk (by omega) (by omega) hz (by omega) (i := ⟨k, byteAt l (a + 1) / 16, byteAt l (a + 1) % 16, 0, num8 (byteAt l (a + 2)), false⟩) (by
      unfold rawIns
      repeat (first | rw [if_pos (by omega)] | rw [if_neg (by omega)])
      try simp only [cond_true, cond_false])
    exact (dec_pairA b off cap l.length a k (by omega) (by omega) (byteAt l a) (byteAt l (a + 1)) (byteAt l (a + 2)) w ht hs h1 hcm (by omega) (c a _ (by omega) rfl) (c (a + 1) _ (by omega) (by omega)) (c (a + 2) _ (by omega) (by omega)) p0 p1 q0 q1 hk).mono fun e' w' h => decGives_ans h e
  by_cases h_three : k ≤ 13
  · obtain rfl : lg = false := by cases lg with
    | false => rfl
    | true => exact absurd (hlg rfl) (by omega)
    have hz : insSize k false = 3 := by
      obtain rfl | rfl | rfl | rfl | rfl | rfl | rfl : k = 7 ∨ k = 8 ∨ k = 9 ∨ k = 10 ∨ k = 11 ∨ k = 12 ∨ k = 13 := by omega
      all_goals rfl
    rw [hz] at ks
    have e := decAns_at hk (by omega) (by omega) hz (by omega) (i := ⟨k, byteAt l (a + 1) / 16, byteAt l (a + 1) % 16, byteAt l (a + 2), 0, false⟩) (by
      unfold rawIns
      repeat (first | rw [if_pos (by omega)] | rw [if_neg (by omega)])
      try simp only [cond_true, cond_false])
    exact (dec_three b off cap l.length a k (by omega) (by omega) (byteAt l a) (byteAt l (a + 1)) (byteAt l (a + 2)) w ht hs h1 hcm (by omega) (c a _ (by omega) rfl) (c (a + 1) _ (by omega) (by omega)) (c (a + 2) _ (by omega) (by omega)) p0 p1 q0 q1 hk).mono fun e' w' h => decGives_ans h e
  by_cases h_pairB : k ≤ 14
  · obtain rfl : lg = false := by cases lg with
    | false => rfl
    | true => exact absurd (hlg rfl) (by omega)
    have hz : insSize k false = 3 := by
      obtain rfl : k = 14 := by omega
      all_goals rfl
    rw [hz] at ks
    have e := decAns_at hk (by omega) (by omega) hz (by omega) (i := ⟨k, byteAt l (a + 1) / 16, byteAt l (a + 1) % 16, 0, num8 (byteAt l (a + 2)), false⟩) (by
      unfold rawIns
      repeat (first | rw [if_pos (by omega)] | rw [if_neg (by omega)])
      try simp only [cond_true, cond_false])
    exact (dec_pairB b off cap l.length a k (by omega) (by omega) (byteAt l a) (byteAt l (a + 1)) (byteAt l (a + 2)) w ht hs h1 hcm (by omega) (c a _ (by omega) rfl) (c (a + 1) _ (by omega) (by omega)) (c (a + 2) _ (by omega) (by omega)) p0 p1 q0 q1 hk).mono fun e' w' h => decGives_ans h e
  by_cases h_store : k ≤ 15
  · obtain rfl : lg = false := by cases lg with
    | false => rfl
    | true => exact absurd (hlg rfl) (by omega)
    have hz : insSize k false = 3 := by
      obtain rfl : k = 15 := by omega
      all_goals rfl
    rw [hz] at ks
    have e := decAns_at hk (by omega) (by omega) hz (by omega) (i := ⟨k, 0, byteAt l (a + 1) % 16, byteAt l (a + 1) / 16, num8 (byteAt l (a + 2)), false⟩) (by
      unfold rawIns
      repeat (first | rw [if_pos (by omega)] | rw [if_neg (by omega)])
      try simp only [cond_true, cond_false])
    exact (dec_store b off cap l.length a k (by omega) (by omega) (byteAt l a) (byteAt l (a + 1)) (byteAt l (a + 2)) w ht hs h1 hcm (by omega) (c a _ (by omega) rfl) (c (a + 1) _ (by omega) (by omega)) (c (a + 2) _ (by omega) (by omega)) p0 p1 q0 q1 hk).mono fun e' w' h => decGives_ans h e
  by_cases h_dest : k ≤ 16
  · obtain rfl : lg = false := by cases lg with
    | false => rfl
    | true => exact absurd (hlg rfl) (by omega)
    have hz : insSize k false = 2 := by
      obtain rfl : k = 16 := by omega
      all_goals rfl
    rw [hz] at ks
    have e := decAns_at hk (by omega) (by omega) hz (by omega) (i := ⟨k, byteAt l (a + 1), 0, 0, 0, false⟩) (by
      unfold rawIns
      repeat (first | rw [if_pos (by omega)] | rw [if_neg (by omega)])
      try simp only [cond_true, cond_false])
    exact (dec_dest b off cap l.length a k (by omega) (by omega) (byteAt l a) (byteAt l (a + 1)) w ht hs h1 hcm (by omega) (c a _ (by omega) rfl) (c (a + 1) _ (by omega) (by omega)) p0 p1 hk).mono fun e' w' h => decGives_ans h e
  by_cases h_source : k ≤ 17
  · obtain rfl : lg = false := by cases lg with
    | false => rfl
    | true => exact absurd (hlg rfl) (by omega)
    have hz : insSize k false = 2 := by
      obtain rfl : k = 17 := by omega
      all_goals rfl
    rw [hz] at ks
    have e := decAns_at hk (by omega) (by omega) hz (by omega) (i := ⟨k, 0, byteAt l (a + 1), 0, 0, false⟩) (by
      unfold rawIns
      repeat (first | rw [if_pos (by omega)] | rw [if_neg (by omega)])
      try simp only [cond_true, cond_false])
    exact (dec_source b off cap l.length a k (by omega) (by omega) (byteAt l a) (byteAt l (a + 1)) w ht hs h1 hcm (by omega) (c a _ (by omega) rfl) (c (a + 1) _ (by omega) (by omega)) p0 p1 hk).mono fun e' w' h => decGives_ans h e
  by_cases h_branch : k ≤ 21
  · cases lg with
    | false =>
      have hz : insSize k false = 3 := by
        obtain rfl | rfl | rfl | rfl : k = 18 ∨ k = 19 ∨ k = 20 ∨ k = 21 := by omega
        all_goals rfl
      rw [hz] at ks
      have e := decAns_at hk (by omega) (by omega) hz (by omega) (i := ⟨k, 0, byteAt l (a + 1) / 16, byteAt l (a + 1) % 16, num8 (byteAt l (a + 2)), false⟩) (by
        unfold rawIns
        repeat (first | rw [if_pos (by omega)] | rw [if_neg (by omega)])
        try simp only [cond_false])
      exact (dec_branchS b off cap l.length a k (by omega) (by omega) (byteAt l a) (byteAt l (a + 1)) (byteAt l (a + 2)) w ht hs h1 hcm (by omega) (c a _ (by omega) rfl) (c (a + 1) _ (by omega) (by omega)) (c (a + 2) _ (by omega) (by omega)) p0 p1 q0 q1 hk).mono fun e' w' h => decGives_ans h e
    | true =>
      have hz : insSize k true = 4 := by
        obtain rfl | rfl | rfl | rfl : k = 18 ∨ k = 19 ∨ k = 20 ∨ k = 21 := by omega
        all_goals rfl
      rw [hz] at ks
      have e := decAns_at hk (by omega) (by omega) hz (by omega) (i := ⟨k, 0, byteAt l (a + 1) / 16, byteAt l (a + 1) % 16, num16 (byteAt l (a + 2)) (byteAt l (a + 3)), true⟩) (by
        unfold rawIns
        repeat (first | rw [if_pos (by omega)] | rw [if_neg (by omega)])
        try simp only [cond_true])
      exact (dec_branchL b off cap l.length a k (by omega) (by omega) (byteAt l a) (byteAt l (a + 1)) (byteAt l (a + 2)) (byteAt l (a + 3)) w ht hs h1 hcm (by omega) (c a _ (by omega) rfl) (c (a + 1) _ (by omega) (by omega)) (c (a + 2) _ (by omega) (by omega)) (c (a + 3) _ (by omega) (by omega)) p0 p1 q0 q1 r0 r1 hk).mono fun e' w' h => decGives_ans h e
  by_cases h_jump : k ≤ 22
  · cases lg with
    | false =>
      have hz : insSize k false = 2 := by
        obtain rfl : k = 22 := by omega
        all_goals rfl
      rw [hz] at ks
      have e := decAns_at hk (by omega) (by omega) hz (by omega) (i := ⟨k, 0, 0, 0, num8 (byteAt l (a + 1)), false⟩) (by
        unfold rawIns
        repeat (first | rw [if_pos (by omega)] | rw [if_neg (by omega)])
        try simp only [cond_false])
      exact (dec_jumpS b off cap l.length a k (by omega) (by omega) (byteAt l a) (byteAt l (a + 1)) w ht hs h1 hcm (by omega) (c a _ (by omega) rfl) (c (a + 1) _ (by omega) (by omega)) p0 p1 hk).mono fun e' w' h => decGives_ans h e
    | true =>
      have hz : insSize k true = 3 := by
        obtain rfl : k = 22 := by omega
        all_goals rfl
      rw [hz] at ks
      have e := decAns_at hk (by omega) (by omega) hz (by omega) (i := ⟨k, 0, 0, 0, num16 (byteAt l (a + 1)) (byteAt l (a + 2)), true⟩) (by
        unfold rawIns
        repeat (first | rw [if_pos (by omega)] | rw [if_neg (by omega)])
        try simp only [cond_true])
      exact (dec_jumpL b off cap l.length a k (by omega) (by omega) (byteAt l a) (byteAt l (a + 1)) (byteAt l (a + 2)) w ht hs h1 hcm (by omega) (c a _ (by omega) rfl) (c (a + 1) _ (by omega) (by omega)) (c (a + 2) _ (by omega) (by omega)) p0 p1 q0 q1 hk).mono fun e' w' h => decGives_ans h e
  by_cases h_call : k ≤ 23
  · obtain rfl : lg = false := by cases lg with
    | false => rfl
    | true => exact absurd (hlg rfl) (by omega)
    have hz : insSize k false = 3 := by
      obtain rfl : k = 23 := by omega
      all_goals rfl
    rw [hz] at ks
    have e := decAns_at hk (by omega) (by omega) hz (by omega) (i := ⟨k, 0, 0, 0, num16 (byteAt l (a + 1)) (byteAt l (a + 2)), false⟩) (by
      unfold rawIns
      repeat (first | rw [if_pos (by omega)] | rw [if_neg (by omega)])
      try simp only [cond_true, cond_false])
    exact (dec_call b off cap l.length a k (by omega) (by omega) (byteAt l a) (byteAt l (a + 1)) (byteAt l (a + 2)) w ht hs h1 hcm (by omega) (c a _ (by omega) rfl) (c (a + 1) _ (by omega) (by omega)) (c (a + 2) _ (by omega) (by omega)) p0 p1 q0 q1 hk).mono fun e' w' h => decGives_ans h e
  by_cases h_table : k ≤ 24
  · obtain rfl : lg = false := by cases lg with
    | false => rfl
    | true => exact absurd (hlg rfl) (by omega)
    have hz : insSize k false = 3 := by
      obtain rfl : k = 24 := by omega
      all_goals rfl
    rw [hz] at ks
    have e := decAns_at hk (by omega) (by omega) hz (by omega) (i := ⟨k, 0, byteAt l (a + 1), 0, byteAt l (a + 2), false⟩) (by
      unfold rawIns
      repeat (first | rw [if_pos (by omega)] | rw [if_neg (by omega)])
      try simp only [cond_true, cond_false])
    exact (dec_table b off cap l.length a k (by omega) (by omega) (byteAt l a) (byteAt l (a + 1)) (byteAt l (a + 2)) w ht hs h1 hcm (by omega) (c a _ (by omega) rfl) (c (a + 1) _ (by omega) (by omega)) (c (a + 2) _ (by omega) (by omega)) p0 p1 q0 q1 hk).mono fun e' w' h => decGives_ans h e
  omega
end Go.Proofs.YtpgifkhgefbnfaaDoor
