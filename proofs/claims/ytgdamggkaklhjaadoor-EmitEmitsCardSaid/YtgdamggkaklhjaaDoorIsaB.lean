/-
The document's BytesOf: one contract, for every instruction.
-/
import Derived.Test.YtgdamggkaklhjaaDoorIsaE
set_option linter.all false
namespace Go.Proofs.YtgdamggkaklhjaaDoor
open Go.RowKit BH
set_option maxHeartbeats 1000000000
set_option maxRecDepth 100000
theorem bytesOf_ok (k : Nat) (D A B N : Int) (Lg : Bool) (w : World) (hF : insFault k D A B N Lg = 0) :
  Calls Tryd.prog 21 #[insV k D A B N Lg] w (GivesE (fun v w' => Octs w' v (insBytes k D A B N Lg)) 0 w) := by
 obtain ⟨k1, k2, ⟨r1, r2, r3, r4, r5, r6⟩, n1, n2, -⟩ := insFault_zero hF
 have HC := jH (instrFault_any k D A B N Lg (w.alloc (.cells #[.int .i64 k, .int .i64 D, .int .i64 A, .int .i64 B, .int .i64 N, .bool Lg] 64)))
 rw [hF] at HC
 obtain ⟨lo, hi, s, d, a, b, n, lz, r, hm, h1, h2, -, -⟩ := kinds k k1 k2
 have Hh := rows hm
 have HO := jH (opOf_any k k1 k2)
 obtain ⟨o1, o2, o3, o4⟩ := op_bounds k k2
 obtain ⟨OP, H9⟩ := jE (bif Lg then longT k else opT k)
 have H2 := jH H9
 have m1 : 0 ≤ N % 256 := by omega
 have m2 : N % 256 < 256 := by omega
 have m3 : 0 ≤ N % 65536 := by omega
 have m4 : N % 65536 < 65536 := by omega
 clear hF hm
 unfold insV at HC ⊢
 go_enter Tryd.func21, Tryd.ntmps21
 go_wp2_with fail
 refine HC.out.mono ?_
 rintro e w1 ⟨rfl, Hc⟩
 obtain ⟨b, hb⟩ := jE (w.heap.size)
 have H7 : Blk w1 b (.cells #[.int .i64 k, .int .i64 D, .int .i64 A, .int .i64 B, .int .i64 N, .bool Lg] 64) := by rw [hb]; exact (Blk.top _ _).keep Hc
 rw [← hb]
 have Hg := jH (((Keeps.refl w).alloc _).trans Hc)
 have q0 := jc w1 b 0 k (H7.cell rfl)
 have q5 := jv w1 b 5 (.bool Lg) (H7.cell rfl)
 have ql := H7.lt
 clear HC Hc hb
 go_upto_if 23 with (go_at_call 45; refine (HO.out _).mono ?_; rintro e w' ⟨rfl, rfl⟩)
 go_cut [5] (fun s5 wx => s5 = .int .i64 OP ∧ wx = w1)
 case first =>
  cases Lg
  all_goals
   obtain rfl := H9
   go_wp2_with fail
   go_meet
   case rel => exact ⟨rfl, rfl⟩
 case rest =>
 obtain ⟨rfl, rfl⟩ := hcut
 have Hi : 0 ≤ OP ∧ OP < 256 := by rw [H9]; cases Lg <;> exact ⟨by assumption, by assumption⟩
 clear H9
 have q4 := jc wc b 4 N (H7.cell rfl)
 obtain ⟨Hj, Hk⟩ := Hi
 go_upto_region 11 with (first | (go_at_call 46; with_reducible refine (wrap256_any _ _ n1 n2).mono ?_; rintro e w' ⟨rfl, rfl⟩) | (go_at_call 46; with_reducible refine (wrap65536_any _ _ n1 n2).mono ?_; rintro e w' ⟨rfl, rfl⟩))
 rw [show N % 65536 / 256 = highB N by unfold highB; omega]
 obtain ⟨W3, Ha⟩ := jE (wc.alloc (.cells #[.int .u8 OP] 5))
 obtain ⟨g, hg⟩ := jE (wc.heap.size)
 have Hl : Keeps wc W3 := by rw [Ha]; exact (Keeps.refl _).alloc _
 have Hd : Blk W3 g (.cells #[.int .u8 OP] 5) := by rw [Ha]; exact Blk.top' _ _ hg
 have HO : Own W3 g 5 1 cu (.slice (some ⟨g, 0, none⟩) 1 1) [OP] := Own.of_block (l := [OP]) cu_len (Nat.le_refl _) Hd (by simp [maxLen])
 have Hb : b < g := by rw [hg]; exact ql
 have hgs := Hd.lt
 rw [← Ha, ← hg]
 have H6 := H7.keep Hl
 have p0 := jc W3 b 0 k (H6.cell rfl)
 have p1 := jc W3 b 1 D (H6.cell rfl)
 have p2 := jc W3 b 2 A (H6.cell rfl)
 have p3 := jc W3 b 3 B (H6.cell rfl)
 have p5 := jv W3 b 5 (.bool Lg) (H6.cell rfl)
 have hin := H6.lt
 have HK := jH Hg.out
 have hwg : wc.heap.size ≤ g := by rw [hg]; exact Nat.le_refl _
 clear q0 q4 q5 ql H7 H6 Hd Ha hg Hg
 rcases Hh with h | h | h | h | h | h | h | h | h | h | h | h
 ·obtain ⟨rfl, rfl, -⟩ := h
  have HB := jH (show insBytes k D A B N Lg = OP :: ([]) by rw [H2.out]; unfold insBytes; repeat first | rw [if_pos jo] | rw [if_neg jo])
  go_wp2
  all_goals
   go_ret2
   refine ⟨_, rfl, ?_, HK.out.trans jk⟩
   rw [HB.out]
   exact own_octs (by simpa [lastB] using HO)
 ·obtain ⟨rfl, rfl, -⟩ := h
  have HB := jH (show insBytes k D A B N Lg = OP :: ([D, lowB N, highB N]) by rw [H2.out]; unfold insBytes; repeat first | rw [if_pos jo] | rw [if_neg jo])
  go_upto_region 18 with fail
  all_goals
   go_wp2_with (at_builtin; refine wpl_bytes 64 70 [D, lowB N, highB N] (HO.keep jk) jt (h := ?_); intro v' w' H0 H1 H3 H4)
   go_wp2
   go_ret2
   refine ⟨_, rfl, ?_, HK.out.trans jk⟩
   rw [HB.out]
   exact own_octs (by simpa [lastB] using H0)
 ·obtain ⟨rfl, rfl, -⟩ := h
  have HB := jH (show insBytes k D A B N Lg = OP :: ([D * 16 + A, lowB N]) by rw [H2.out]; unfold insBytes; repeat first | rw [if_pos jo] | rw [if_neg jo])
  go_upto_region 21 with fail
  all_goals
   go_wp2_with (at_builtin; refine wpl_bytes 75 84 [D * 16 + A, lowB N] (HO.keep jk) jt (h := ?_); intro v' w' H0 H1 H3 H4)
   go_wp2
   go_ret2
   refine ⟨_, rfl, ?_, HK.out.trans jk⟩
   rw [HB.out]
   exact own_octs (by simpa [lastB] using H0)
 ·obtain ⟨rfl, rfl, -⟩ := h
  have HB := jH (show insBytes k D A B N Lg = OP :: ([D * 16 + A, B]) by rw [H2.out]; unfold insBytes; repeat first | rw [if_pos jo] | rw [if_neg jo])
  go_upto_region 12 with fail
  all_goals
   go_wp2_with (at_builtin; refine wpl_bytes 44 55 [D * 16 + A, B] (HO.keep jk) jt (h := ?_); intro v' w' H0 H1 H3 H4)
   go_wp2
   go_ret2
   refine ⟨_, rfl, ?_, HK.out.trans jk⟩
   rw [HB.out]
   exact own_octs (by simpa [lastB] using H0)
 ·obtain ⟨rfl, rfl, -⟩ := h
  have HB := jH (show insBytes k D A B N Lg = OP :: ([D * 16 + A, lowB N]) by rw [H2.out]; unfold insBytes; repeat first | rw [if_pos jo] | rw [if_neg jo])
  go_upto_region 21 with fail
  all_goals
   go_wp2_with (at_builtin; refine wpl_bytes 75 84 [D * 16 + A, lowB N] (HO.keep jk) jt (h := ?_); intro v' w' H0 H1 H3 H4)
   go_wp2
   go_ret2
   refine ⟨_, rfl, ?_, HK.out.trans jk⟩
   rw [HB.out]
   exact own_octs (by simpa [lastB] using H0)
 ·obtain ⟨rfl, rfl, -⟩ := h
  have HB := jH (show insBytes k D A B N Lg = OP :: ([B * 16 + A, lowB N]) by rw [H2.out]; unfold insBytes; repeat first | rw [if_pos jo] | rw [if_neg jo])
  go_upto_region 23 with fail
  all_goals
   go_wp2_with (at_builtin; refine wpl_bytes 88 97 [B * 16 + A, lowB N] (HO.keep jk) jt (h := ?_); intro v' w' H0 H1 H3 H4)
   go_wp2
   go_ret2
   refine ⟨_, rfl, ?_, HK.out.trans jk⟩
   rw [HB.out]
   exact own_octs (by simpa [lastB] using H0)
 ·obtain ⟨rfl, rfl, -⟩ := h
  have HB := jH (show insBytes k D A B N Lg = OP :: ([D]) by rw [H2.out]; unfold insBytes; repeat first | rw [if_pos jo] | rw [if_neg jo])
  go_upto_region 25 with fail
  all_goals
   go_wp2_with (at_builtin; refine wpl_bytes 101 105 [D] (HO.keep jk) jt (h := ?_); intro v' w' H0 H1 H3 H4)
   go_wp2
   go_ret2
   refine ⟨_, rfl, ?_, HK.out.trans jk⟩
   rw [HB.out]
   exact own_octs (by simpa [lastB] using H0)
 ·obtain ⟨rfl, rfl, -⟩ := h
  have HB := jH (show insBytes k D A B N Lg = OP :: ([A]) by rw [H2.out]; unfold insBytes; repeat first | rw [if_pos jo] | rw [if_neg jo])
  go_upto_region 27 with fail
  all_goals
   go_wp2_with (at_builtin; refine wpl_bytes 109 113 [A] (HO.keep jk) jt (h := ?_); intro v' w' H0 H1 H3 H4)
   go_wp2
   go_ret2
   refine ⟨_, rfl, ?_, HK.out.trans jk⟩
   rw [HB.out]
   exact own_octs (by simpa [lastB] using H0)
 ·obtain ⟨rfl, rfl, -⟩ := h
  have HB := jH (show insBytes k D A B N Lg = OP :: ((A * 16 + B) :: lastB N Lg) by rw [H2.out]; unfold insBytes; repeat first | rw [if_pos jo] | rw [if_neg jo])
  cases Lg
  ·go_upto_region 32 with fail
   all_goals
    go_wp2_with (at_builtin; refine wpl_bytes 120 129 [A * 16 + B, lowB N] (HO.keep jk) jt (h := ?_); intro v' w' H0 H1 H3 H4; have p6 := Eq.trans (Below.cell H1 (p := ⟨b, 5, none⟩) Hb) (Keeps.cell ku5 p5))
    go_wp2
    go_ret2
    refine ⟨_, rfl, ?_, HK.out.trans jk⟩
    rw [HB.out]
    exact own_octs (by simpa [lastB] using H0)
  go_upto_region 32 with fail
  all_goals
   go_wp2_with (first | (at_builtin; refine wpl_bytes 120 129 [A * 16 + B, lowB N] (HO.keep jk) jt (h := ?_); intro v' w' H0 H1 H3 H4; have p6 := Eq.trans (Below.cell H1 (p := ⟨b, 5, none⟩) Hb) (Keeps.cell ku5 p5)) | (at_builtin; refine wpl_bytes 133 135 [highB N] (H0.keep jk) jt (h := ?_); intro v2' w2' H5 H8 He Hf))
   go_wp2
   go_ret2
   refine ⟨_, rfl, ?_, HK.out.trans jk⟩
   rw [HB.out]
   exact own_octs (by simpa [lastB] using H5)
 ·obtain ⟨rfl, rfl, -⟩ := h
  have HB := jH (show insBytes k D A B N Lg = OP :: (lastB N Lg) by rw [H2.out]; unfold insBytes; repeat first | rw [if_pos jo] | rw [if_neg jo])
  cases Lg
  ·go_upto_region 36 with fail
   all_goals
    go_wp2_with (at_builtin; refine wpl_bytes 139 141 [lowB N] (HO.keep jk) jt (h := ?_); intro v' w' H0 H1 H3 H4; have p6 := Eq.trans (Below.cell H1 (p := ⟨b, 5, none⟩) Hb) (Keeps.cell ku5 p5))
    go_wp2
    go_ret2
    refine ⟨_, rfl, ?_, HK.out.trans jk⟩
    rw [HB.out]
    exact own_octs (by simpa [lastB] using H0)
  go_upto_region 36 with fail
  all_goals
   go_wp2_with (first | (at_builtin; refine wpl_bytes 139 141 [lowB N] (HO.keep jk) jt (h := ?_); intro v' w' H0 H1 H3 H4; have p6 := Eq.trans (Below.cell H1 (p := ⟨b, 5, none⟩) Hb) (Keeps.cell ku5 p5)) | (at_builtin; refine wpl_bytes 145 147 [highB N] (H0.keep jk) jt (h := ?_); intro v2' w2' H5 H8 He Hf))
   go_wp2
   go_ret2
   refine ⟨_, rfl, ?_, HK.out.trans jk⟩
   rw [HB.out]
   exact own_octs (by simpa [lastB] using H5)
 ·obtain ⟨rfl, rfl, -⟩ := h
  have HB := jH (show insBytes k D A B N Lg = OP :: ([lowB N, highB N]) by rw [H2.out]; unfold insBytes; repeat first | rw [if_pos jo] | rw [if_neg jo])
  go_upto_region 40 with fail
  all_goals
   go_wp2_with (at_builtin; refine wpl_bytes 151 154 [lowB N, highB N] (HO.keep jk) jt (h := ?_); intro v' w' H0 H1 H3 H4)
   go_wp2
   go_ret2
   refine ⟨_, rfl, ?_, HK.out.trans jk⟩
   rw [HB.out]
   exact own_octs (by simpa [lastB] using H0)
 obtain ⟨rfl, rfl, -⟩ := h
 have HB := jH (show insBytes k D A B N Lg = OP :: ([A, lowB N]) by rw [H2.out]; unfold insBytes; repeat first | rw [if_pos jo] | rw [if_neg jo])
 go_upto_region 42 with fail
 all_goals
  go_wp2_with (at_builtin; refine wpl_bytes 158 163 [A, lowB N] (HO.keep jk) jt (h := ?_); intro v' w' H0 H1 H3 H4)
  go_wp2
  go_ret2
  refine ⟨_, rfl, ?_, HK.out.trans jk⟩
  rw [HB.out]
  exact own_octs (by simpa [lastB] using H0)
theorem bytesOf_bad (K D A B N : Int) (Lg : Bool) (w : World) (h : insFault K D A B N Lg ≠ 0) :
  Calls Tryd.prog 21 #[insV K D A B N Lg] w (GivesE (fun v w' => Octs w' v []) (insFault K D A B N Lg) w) := by
 have HC := instrFault_any K D A B N Lg (w.alloc (.cells #[.int .i64 K, .int .i64 D, .int .i64 A, .int .i64 B, .int .i64 N, .bool Lg] 64))
 generalize insFault K D A B N Lg = F at h HC ⊢
 have hF : (F == 0) = false := by simpa using h
 have hF' : (F != 0) = true := by simpa using h
 clear h
 unfold insV at HC ⊢
 go_enter Tryd.func21, Tryd.ntmps21
 go_wp2_with fail
 refine HC.mono ?_
 rintro e w1 ⟨rfl, H0⟩
 go_wp2
 go_ret2
 exact ⟨_, rfl, ⟨none, 0, rfl, by simp, by unfold maxLen; omega, fun _ => rfl, fun h => absurd h (by simp)⟩, ((Keeps.refl _).alloc _).trans H0⟩
theorem bytesOf_any (K D A B N : Int) (Lg : Bool) (w : World) :
  Calls Tryd.prog 21 #[insV K D A B N Lg] w (GivesE (fun v w' => Octs w' v (encAns K D A B N Lg)) (insFault K D A B N Lg) w) := by
 unfold encAns
 by_cases h : insFault K D A B N Lg = 0
 ·rw [if_pos h, h]
  obtain ⟨b1, b2⟩ := insFault_kind h
  obtain ⟨k, rfl⟩ : ∃ k : Nat, K = k := ⟨K.toNat, by omega⟩
  rw [Int.toNat_natCast]
  exact bytesOf_ok k D A B N Lg w h
 rw [if_neg h]; exact bytesOf_bad K D A B N Lg w h
end Go.Proofs.YtgdamggkaklhjaaDoor
