/-
 The document's InstrAt, kind by kind, where all bytes of the instruction are there.
-/
import Derived.Test.YtnekiooaobnndaaDoorIsaAt1
import Derived.IntWalk
import Derived.Deep.DeepCutAuto
set_option linter.all false
namespace Go.Proofs.YtnekiooaobnndaaDoor
open Go.RowKit BH
set_option maxHeartbeats 4000000
set_option maxRecDepth 100000
theorem at_bare (b off cap len : Nat) (a k : Nat) (h1 : 1 ≤ k) (h2 : k ≤ 4) (x0 : Int) (w : World) (hcap : len ≤ cap) (hmax : cap ≤ 9223372036854775807)
  (ha : a + 1 ≤ len) (y0 : w.cell? ⟨b, off + a, none⟩ = some (.int .u8 x0)) (l0 : 0 ≤ x0) (u0 : x0 < 256) (hk : refGo x0 25 = (k, false)) :
  Calls Tryd.prog 21 #[.slice (some ⟨b, off, none⟩) len cap, .int .i64 a] w (DecGives ⟨k, 0, 0, 0, 0, false⟩ 1 w) := by
 have HC := Lib.hid (fun W => instrFault_any k (0) (0) (0) (0) false W)
 have HZ := Lib.hid (fun W => refSize_any k (by omega) (by omega) 0 0 0 0 false W)
 rw [show insSize k false = 1 by
  obtain rfl | rfl | rfl | rfl : k = 1 ∨ k = 2 ∨ k = 3 ∨ k = 4 := by omega
  all_goals rfl] at HZ
 have HKK := Lib.hid hk
 have hbw : b < w.heap.size := lt_of_cell y0
 go_enter Tryd.func21, Tryd.ntmps21
 go_wp2_with (go_at_call 23; refine (in_yes _ _ _ _ (by omega) (by omega)).mono ?_; rintro e w' ⟨rfl, rfl⟩)
 obtain ⟨W, hW, hkW, hbR, hbI, hsW⟩ := two_blocks' w (.cells #[.int .i64 0, .int .i64 0, .int .i64 0, .int .i64 0, .int .i64 0, .bool false] 61) (.cells #[.int .i64 0, .int .i64 0, .int .i64 0, .int .i64 0, .int .i64 0, .bool false] 61)
 rw [← hW]
 clear hW
 go_loopw [8] (fun s8 wr => ∃ j : Nat, 1 ≤ j ∧ j ≤ 25 ∧ s8 = .int .i64 j ∧ Keeps w wr ∧ AtIn w.heap.size x0 j wr) (fun s8 _ => 25 - (intOf s8).toNat)
 case atStart => exact ⟨1, Nat.le_refl _, by omega, rfl, hkW, hbR, hbI⟩
 case round =>
  obtain ⟨j, hj1, hj2, rfl, hkw, hin⟩ := hrel
  have hbR := hin.1
  have hB0 := hin.2
  have g0 := hkw.cell y0
  have hzw := hkw.size
  by_cases hlt : j < 25
  ·have HO := Lib.hid (fun w => opOf_any j hj1 (by omega) w)
   have HS := Lib.hid (show refGo x0 (j + 1) = if hitB x0 j then (j, true) else if hitA x0 j then (j, (refGo x0 j).2) else refGo x0 j from rfl)
   obtain ⟨o1, o2, o3, o4⟩ := op_bounds j (by omega)
   have hA : hitA x0 j = (opT j == x0) := by unfold hitA; rw [decide_eq_true (by omega)]; rfl
   have hB : hitB x0 j = ((longT j != 0) && (longT j == x0)) := by unfold hitB; rw [decide_eq_true (by omega)]; rfl
   rw [hA, hB] at HS
   have i0 := hB0.cell (j := 0) rfl
   have i5 := hB0.cell (j := 5) rfl
   have f0 := hB0.thawed 0
   have f5 := hB0.thawed 5
   have hgi : w.heap.size ≤ w.heap.size + 1 := by omega
   have hne : w.heap.size ≠ w.heap.size + 1 := by omega
   have hbi : b ≠ w.heap.size + 1 := by omega
   have hlt1 := hB0.lt
   have HB0 := Lib.hid hB0
   have HBR := Lib.hid hbR
   have HK := Lib.hid hkw
   generalize opT j = x at *
   generalize longT j = y at *
   generalize hgg : w.heap.size + 1 = gi at *
   have HG := Lib.hid hgg
   clear hgg hA hB hin hB0 hbR hkw hkW hbI hk
   cases q1 : (x == x0) with
   | true =>
    cases q2 : (y != 0) with
    | true =>
     have q2' : decide (0 < y) = true := by simp at q2 ⊢; omega
     cases q3 : (y == x0) with
     | true =>
      go_wp2_with (go_at_call 52; refine (HO.out _).mono ?_; rintro e w' ⟨rfl, rfl⟩)
      go_roundw
      case rel => exact ⟨j + 1, by omega, by omega, by go_num, Keeps.setCell (Keeps.setCell (Keeps.setCell HK.out hgi _) hgi _) hgi _, atIn_of (j, true) HG.out (Blk.other (Blk.other (Blk.other HBR.out hne _ _) hne _ _) hne _ _) (((HB0.out.set 0 _).set 0 _).set 5 _) (by rw [HS.out, q1, q2, q3]; rfl)⟩
      case measure => simp [intOf]; omega
     | false =>
      go_wp2_with (go_at_call 52; refine (HO.out _).mono ?_; rintro e w' ⟨rfl, rfl⟩)
      go_roundw
      case rel => exact ⟨j + 1, by omega, by omega, by go_num, Keeps.setCell HK.out hgi _, atIn_of (j, (refGo x0 j).2) HG.out (Blk.other HBR.out hne _ _) (HB0.out.set 0 _) (by rw [HS.out, q1, q2, q3]; rfl)⟩
      case measure => simp [intOf]; omega
    | false =>
     have q2' : decide (0 < y) = false := by simp at q2 ⊢; omega
     go_wp2_with (go_at_call 52; refine (HO.out _).mono ?_; rintro e w' ⟨rfl, rfl⟩)
     go_roundw
     case rel => exact ⟨j + 1, by omega, by omega, by go_num, Keeps.setCell HK.out hgi _, atIn_of (j, (refGo x0 j).2) HG.out (Blk.other HBR.out hne _ _) (HB0.out.set 0 _) (by rw [HS.out, q1, q2]; rfl)⟩
     case measure => simp [intOf]; omega
   | false =>
    cases q2 : (y != 0) with
    | true =>
     have q2' : decide (0 < y) = true := by simp at q2 ⊢; omega
     cases q3 : (y == x0) with
     | true =>
      go_wp2_with (go_at_call 52; refine (HO.out _).mono ?_; rintro e w' ⟨rfl, rfl⟩)
      go_roundw
      case rel => exact ⟨j + 1, by omega, by omega, by go_num, Keeps.setCell (Keeps.setCell HK.out hgi _) hgi _, atIn_of (j, true) HG.out (Blk.other (Blk.other HBR.out hne _ _) hne _ _) ((HB0.out.set 0 _).set 5 _) (by rw [HS.out, q1, q2, q3]; rfl)⟩
      case measure => simp [intOf]; omega
     | false =>
      go_wp2_with (go_at_call 52; refine (HO.out _).mono ?_; rintro e w' ⟨rfl, rfl⟩)
      go_roundw
      case rel => exact ⟨j + 1, by omega, by omega, by go_num, HK.out, atIn_of (refGo x0 j) HG.out HBR.out HB0.out (by rw [HS.out, q1, q2, q3]; rfl)⟩
      case measure => simp [intOf]; omega
    | false =>
     have q2' : decide (0 < y) = false := by simp at q2 ⊢; omega
     go_wp2_with (go_at_call 52; refine (HO.out _).mono ?_; rintro e w' ⟨rfl, rfl⟩)
     go_roundw
     case rel => exact ⟨j + 1, by omega, by omega, by go_num, HK.out, atIn_of (refGo x0 j) HG.out HBR.out HB0.out (by rw [HS.out, q1, q2]; rfl)⟩
     case measure => simp [intOf]; omega
  ·obtain rfl : j = 25 := by omega
   have hBI : Blk wr (w.heap.size + 1) (.cells #[.int .i64 k, .int .i64 0, .int .i64 0, .int .i64 0, .int .i64 0, .bool false] 61) := by rw [HKK.out] at hB0; exact hB0
   have i0 := hBI.cell (j := 0) rfl
   have i1 := hBI.cell (j := 1) rfl
   have i2 := hBI.cell (j := 2) rfl
   have i3 := hBI.cell (j := 3) rfl
   have i4 := hBI.cell (j := 4) rfl
   have i5 := hBI.cell (j := 5) rfl
   have hbi' : b ≠ w.heap.size + 1 := by omega
   have hri : w.heap.size ≠ w.heap.size + 1 := by omega
   have hwi : w.heap.size ≤ w.heap.size + 1 := by omega
   have hgl := hBI.lt
   have HBI0 := Lib.hid hBI
   have HBR0 := Lib.hid hbR
   clear hin hB0 hBI hbR hkW hbI hsW HKK hk y0 g0
   generalize w.heap.size + 1 = gi at *
   go_wp2_with fail
   refine (HZ.out _).mono ?_
   rintro e w3 ⟨rfl, hk3⟩
   have i0 := hk3.cell i0
   have i1 := hk3.cell i1
   have i2 := hk3.cell i2
   have i3 := hk3.cell i3
   have i4 := hk3.cell i4
   have i5 := hk3.cell i5
   have HBI := Lib.hid (HBI0.out.keep hk3)
   have HBR := Lib.hid (HBR0.out.keep hk3)
   have hgl3 := HBI.out.lt
   have hkw3 := hkw.trans hk3
   have f1 := HBI.out.thawed 1
   have f2 := HBI.out.thawed 2
   have f3 := HBI.out.thawed 3
   have f4 := HBI.out.thawed 4
   have hbW : b < w3.heap.size := by omega
   clear hgl hbw hkw hk3 HBI0 HBR0 HZ hzw
   go_wp2_with fail
   all_goals
    refine (HC.out _).mono ?_
    rintro e w5 ⟨rfl, hk5⟩
    have hB5 : Blk w5 gi (.cells #[.int .i64 k, .int .i64 (0), .int .i64 (0), .int .i64 (0), .int .i64 (0), .bool false] 61) := Blk.keep (by exact HBI.out) hk5
    have hR5 : Blk w5 w.heap.size (.cells #[.int .i64 0, .int .i64 0, .int .i64 0, .int .i64 0, .int .i64 0, .bool false] 61) := Blk.keep (by first | exact HBR.out | exact Blk.drew HBR.out) hk5
    have hkw5 : Keeps w w5 := Keeps.trans (by repeat (with_reducible (first | assumption | exact Keeps.refl _ | refine Keeps.alloc ?_ _ | refine Keeps.drew ?_ | refine Keeps.drewN ?_ _ | refine Keeps.setCell ?_ hwi _))) hk5
    have j0 := hB5.cell (j := 0) rfl
    have j1 := hB5.cell (j := 1) rfl
    have j2 := hB5.cell (j := 2) rfl
    have j3 := hB5.cell (j := 3) rfl
    have j4 := hB5.cell (j := 4) rfl
    have j5 := hB5.cell (j := 5) rfl
    have t0 := hR5.cell (j := 0) rfl
    have t1 := hR5.cell (j := 1) rfl
    have t2 := hR5.cell (j := 2) rfl
    have t3 := hR5.cell (j := 3) rfl
    have t4 := hR5.cell (j := 4) rfl
    have t5 := hR5.cell (j := 5) rfl
    have n0 := hR5.thawed 0
    have n1 := hR5.thawed 1
    have n2 := hR5.thawed 2
    have n3 := hR5.thawed 3
    have n4 := hR5.thawed 4
    have n5 := hR5.thawed 5
    have HR5 := Lib.hid hR5
    obtain ⟨F, hF⟩ : ∃ F, insFault (k : Int) (0) (0) (0) (0) false = F := ⟨_, rfl⟩
    rw [hF]
    have HF := Lib.hid hF
    clear hB5 hR5 hk5 hkw3 HC HBI HBR i0 i1 i2 i3 i4 i5 f1 f2 f3 f4 hF
    by_cases h0 : F = 0
    ·have q1 : (F == 0) = true := by simpa using h0
     have q2 : (F != 0) = false := by simpa using h0
     have H0 := Lib.hid h0
     clear h0
     go_wp2_with fail
     obtain ⟨wf, hwf⟩ : ∃ wf : World, wf = ((((((w5.setCell ⟨w.heap.size, 0, none⟩ (.int .i64 k)).setCell ⟨w.heap.size, 1, none⟩ (.int .i64 (0))).setCell ⟨w.heap.size, 2, none⟩ (.int .i64 (0))).setCell ⟨w.heap.size, 3, none⟩ (.int .i64 (0))).setCell ⟨w.heap.size, 4, none⟩ (.int .i64 (0))).setCell ⟨w.heap.size, 5, none⟩ (.bool false)) := ⟨_, rfl⟩
     rw [← hwf]
     have hBf : Blk wf w.heap.size (.cells #[.int .i64 k, .int .i64 (0), .int .i64 (0), .int .i64 (0), .int .i64 (0), .bool false] 61) := by
      rw [hwf]
      exact (((((HR5.out.set 0 _).set 1 _).set 2 _).set 3 _).set 4 _).set 5 _
     have Kf : Keeps w wf := by
      rw [hwf]
      exact Keeps.setCell (Keeps.setCell (Keeps.setCell (Keeps.setCell (Keeps.setCell (Keeps.setCell hkw5 (Nat.le_refl _) _) (Nat.le_refl _) _) (Nat.le_refl _) _) (Nat.le_refl _) _) (Nat.le_refl _) _) (Nat.le_refl _) _
     have a0 := hBf.cell (j := 0) rfl
     have a1 := hBf.cell (j := 1) rfl
     have a2 := hBf.cell (j := 2) rfl
     have a3 := hBf.cell (j := 3) rfl
     have a4 := hBf.cell (j := 4) rfl
     have a5 := hBf.cell (j := 5) rfl
     clear hwf hBf j0 j1 j2 j3 j4 j5 t0 t1 t2 t3 t4 t5 n0 n1 n2 n3 n4 n5
     refine bodyPost_ret (v := .tuple #[.agg #[.int .i64 k, .int .i64 (0), .int .i64 (0), .int .i64 (0), .int .i64 (0), .bool false], .int .i64 1, .int .i64 0]) (by simp [results, Tryd.results21, go_sem, a0, a1, a2, a3, a4, a5]) rfl ⟨?_, Kf⟩
     show (if insFault (k : Int) (0) (0) (0) (0) false = 0 then _ else _)
     rw [HF.out, if_pos H0.out]
     rfl
    ·have q1 : (F == 0) = false := by simpa using h0
     have q2 : (F != 0) = true := by simpa using h0
     have H0 := Lib.hid h0
     clear h0
     go_wp2_with fail
     obtain ⟨wf, hwf⟩ : ∃ wf : World, wf = ((((((w5.setCell ⟨w.heap.size, 0, none⟩ (.int .i64 0)).setCell ⟨w.heap.size, 1, none⟩ (.int .i64 0)).setCell ⟨w.heap.size, 2, none⟩ (.int .i64 0)).setCell ⟨w.heap.size, 3, none⟩ (.int .i64 0)).setCell ⟨w.heap.size, 4, none⟩ (.int .i64 0)).setCell ⟨w.heap.size, 5, none⟩ (.bool false)) := ⟨_, rfl⟩
     rw [← hwf]
     have hBf : Blk wf w.heap.size (.cells #[.int .i64 0, .int .i64 0, .int .i64 0, .int .i64 0, .int .i64 0, .bool false] 61) := by
      rw [hwf]
      exact (((((HR5.out.set 0 _).set 1 _).set 2 _).set 3 _).set 4 _).set 5 _
     have Kf : Keeps w wf := by
      rw [hwf]
      exact Keeps.setCell (Keeps.setCell (Keeps.setCell (Keeps.setCell (Keeps.setCell (Keeps.setCell hkw5 (Nat.le_refl _) _) (Nat.le_refl _) _) (Nat.le_refl _) _) (Nat.le_refl _) _) (Nat.le_refl _) _) (Nat.le_refl _) _
     have a0 := hBf.cell (j := 0) rfl
     have a1 := hBf.cell (j := 1) rfl
     have a2 := hBf.cell (j := 2) rfl
     have a3 := hBf.cell (j := 3) rfl
     have a4 := hBf.cell (j := 4) rfl
     have a5 := hBf.cell (j := 5) rfl
     clear hwf hBf j0 j1 j2 j3 j4 j5 t0 t1 t2 t3 t4 t5 n0 n1 n2 n3 n4 n5
     refine bodyPost_ret (v := .tuple #[.agg #[.int .i64 0, .int .i64 0, .int .i64 0, .int .i64 0, .int .i64 0, .bool false], .int .i64 0, .int .i64 4]) (by simp [results, Tryd.results21, go_sem, a0, a1, a2, a3, a4, a5]) rfl ⟨?_, Kf⟩
     show (if insFault (k : Int) (0) (0) (0) (0) false = 0 then _ else _)
     rw [HF.out, if_neg H0.out]
     rfl
theorem at_wide (b off cap len : Nat) (a k : Nat) (h1 : 5 ≤ k) (h2 : k ≤ 5) (x0 x1 x2 x3 : Int) (w : World) (hcap : len ≤ cap) (hmax : cap ≤ 9223372036854775807)
  (ha : a + 4 ≤ len) (y0 : w.cell? ⟨b, off + a, none⟩ = some (.int .u8 x0)) (y1 : w.cell? ⟨b, off + a + 1, none⟩ = some (.int .u8 x1)) (y2 : w.cell? ⟨b, off + a + 2, none⟩ = some (.int .u8 x2)) (y3 : w.cell? ⟨b, off + a + 3, none⟩ = some (.int .u8 x3)) (l0 : 0 ≤ x0) (u0 : x0 < 256) (l1 : 0 ≤ x1) (u1 : x1 < 256) (l2 : 0 ≤ x2) (u2 : x2 < 256) (l3 : 0 ≤ x3) (u3 : x3 < 256) (hk : refGo x0 25 = (k, false)) :
  Calls Tryd.prog 21 #[.slice (some ⟨b, off, none⟩) len cap, .int .i64 a] w (DecGives ⟨k, x1, 0, 0, num16 x2 x3, false⟩ 4 w) := by
 have HC := Lib.hid (fun W => instrFault_any k (x1) (0) (0) (num16 x2 x3) false W)
 have HZ := Lib.hid (fun W => refSize_any k (by omega) (by omega) 0 0 0 0 false W)
 rw [show insSize k false = 4 by
  obtain rfl : k = 5 := by omega
  all_goals rfl] at HZ
 have HKK := Lib.hid hk
 have hbw : b < w.heap.size := lt_of_cell y0
 go_enter Tryd.func21, Tryd.ntmps21
 go_wp2_with (go_at_call 23; refine (in_yes _ _ _ _ (by omega) (by omega)).mono ?_; rintro e w' ⟨rfl, rfl⟩)
 obtain ⟨W, hW, hkW, hbR, hbI, hsW⟩ := two_blocks' w (.cells #[.int .i64 0, .int .i64 0, .int .i64 0, .int .i64 0, .int .i64 0, .bool false] 61) (.cells #[.int .i64 0, .int .i64 0, .int .i64 0, .int .i64 0, .int .i64 0, .bool false] 61)
 rw [← hW]
 clear hW
 go_loopw [8] (fun s8 wr => ∃ j : Nat, 1 ≤ j ∧ j ≤ 25 ∧ s8 = .int .i64 j ∧ Keeps w wr ∧ AtIn w.heap.size x0 j wr) (fun s8 _ => 25 - (intOf s8).toNat)
 case atStart => exact ⟨1, Nat.le_refl _, by omega, rfl, hkW, hbR, hbI⟩
 case round =>
  obtain ⟨j, hj1, hj2, rfl, hkw, hin⟩ := hrel
  have hbR := hin.1
  have hB0 := hin.2
  have g0 := hkw.cell y0
  have hzw := hkw.size
  by_cases hlt : j < 25
  ·have HO := Lib.hid (fun w => opOf_any j hj1 (by omega) w)
   have HS := Lib.hid (show refGo x0 (j + 1) = if hitB x0 j then (j, true) else if hitA x0 j then (j, (refGo x0 j).2) else refGo x0 j from rfl)
   obtain ⟨o1, o2, o3, o4⟩ := op_bounds j (by omega)
   have hA : hitA x0 j = (opT j == x0) := by unfold hitA; rw [decide_eq_true (by omega)]; rfl
   have hB : hitB x0 j = ((longT j != 0) && (longT j == x0)) := by unfold hitB; rw [decide_eq_true (by omega)]; rfl
   rw [hA, hB] at HS
   have i0 := hB0.cell (j := 0) rfl
   have i5 := hB0.cell (j := 5) rfl
   have f0 := hB0.thawed 0
   have f5 := hB0.thawed 5
   have hgi : w.heap.size ≤ w.heap.size + 1 := by omega
   have hne : w.heap.size ≠ w.heap.size + 1 := by omega
   have hbi : b ≠ w.heap.size + 1 := by omega
   have hlt1 := hB0.lt
   have HB0 := Lib.hid hB0
   have HBR := Lib.hid hbR
   have HK := Lib.hid hkw
   generalize opT j = x at *
   generalize longT j = y at *
   generalize hgg : w.heap.size + 1 = gi at *
   have HG := Lib.hid hgg
   clear hgg hA hB hin hB0 hbR hkw hkW hbI hk
   cases q1 : (x == x0) with
   | true =>
    cases q2 : (y != 0) with
    | true =>
     have q2' : decide (0 < y) = true := by simp at q2 ⊢; omega
     cases q3 : (y == x0) with
     | true =>
      go_wp2_with (go_at_call 52; refine (HO.out _).mono ?_; rintro e w' ⟨rfl, rfl⟩)
      go_roundw
      case rel => exact ⟨j + 1, by omega, by omega, by go_num, Keeps.setCell (Keeps.setCell (Keeps.setCell HK.out hgi _) hgi _) hgi _, atIn_of (j, true) HG.out (Blk.other (Blk.other (Blk.other HBR.out hne _ _) hne _ _) hne _ _) (((HB0.out.set 0 _).set 0 _).set 5 _) (by rw [HS.out, q1, q2, q3]; rfl)⟩
      case measure => simp [intOf]; omega
     | false =>
      go_wp2_with (go_at_call 52; refine (HO.out _).mono ?_; rintro e w' ⟨rfl, rfl⟩)
      go_roundw
      case rel => exact ⟨j + 1, by omega, by omega, by go_num, Keeps.setCell HK.out hgi _, atIn_of (j, (refGo x0 j).2) HG.out (Blk.other HBR.out hne _ _) (HB0.out.set 0 _) (by rw [HS.out, q1, q2, q3]; rfl)⟩
      case measure => simp [intOf]; omega
    | false =>
     have q2' : decide (0 < y) = false := by simp at q2 ⊢; omega
     go_wp2_with (go_at_call 52; refine (HO.out _).mono ?_; rintro e w' ⟨rfl, rfl⟩)
     go_roundw
     case rel => exact ⟨j + 1, by omega, by omega, by go_num, Keeps.setCell HK.out hgi _, atIn_of (j, (refGo x0 j).2) HG.out (Blk.other HBR.out hne _ _) (HB0.out.set 0 _) (by rw [HS.out, q1, q2]; rfl)⟩
     case measure => simp [intOf]; omega
   | false =>
    cases q2 : (y != 0) with
    | true =>
     have q2' : decide (0 < y) = true := by simp at q2 ⊢; omega
     cases q3 : (y == x0) with
     | true =>
      go_wp2_with (go_at_call 52; refine (HO.out _).mono ?_; rintro e w' ⟨rfl, rfl⟩)
      go_roundw
      case rel => exact ⟨j + 1, by omega, by omega, by go_num, Keeps.setCell (Keeps.setCell HK.out hgi _) hgi _, atIn_of (j, true) HG.out (Blk.other (Blk.other HBR.out hne _ _) hne _ _) ((HB0.out.set 0 _).set 5 _) (by rw [HS.out, q1, q2, q3]; rfl)⟩
      case measure => simp [intOf]; omega
     | false =>
      go_wp2_with (go_at_call 52; refine (HO.out _).mono ?_; rintro e w' ⟨rfl, rfl⟩)
      go_roundw
      case rel => exact ⟨j + 1, by omega, by omega, by go_num, HK.out, atIn_of (refGo x0 j) HG.out HBR.out HB0.out (by rw [HS.out, q1, q2, q3]; rfl)⟩
      case measure => simp [intOf]; omega
    | false =>
     have q2' : decide (0 < y) = false := by simp at q2 ⊢; omega
     go_wp2_with (go_at_call 52; refine (HO.out _).mono ?_; rintro e w' ⟨rfl, rfl⟩)
     go_roundw
     case rel => exact ⟨j + 1, by omega, by omega, by go_num, HK.out, atIn_of (refGo x0 j) HG.out HBR.out HB0.out (by rw [HS.out, q1, q2]; rfl)⟩
     case measure => simp [intOf]; omega
  ·obtain rfl : j = 25 := by omega
   have hBI : Blk wr (w.heap.size + 1) (.cells #[.int .i64 k, .int .i64 0, .int .i64 0, .int .i64 0, .int .i64 0, .bool false] 61) := by rw [HKK.out] at hB0; exact hB0
   have p1 := hkw.cell y1
   have p2 := hkw.cell y2
   have p3 := hkw.cell y3
   have i0 := hBI.cell (j := 0) rfl
   have i1 := hBI.cell (j := 1) rfl
   have i2 := hBI.cell (j := 2) rfl
   have i3 := hBI.cell (j := 3) rfl
   have i4 := hBI.cell (j := 4) rfl
   have i5 := hBI.cell (j := 5) rfl
   have hbi' : b ≠ w.heap.size + 1 := by omega
   have hri : w.heap.size ≠ w.heap.size + 1 := by omega
   have hwi : w.heap.size ≤ w.heap.size + 1 := by omega
   have hgl := hBI.lt
   have HBI0 := Lib.hid hBI
   have HBR0 := Lib.hid hbR
   clear hin hB0 hBI hbR hkW hbI hsW HKK hk y0 g0
   generalize w.heap.size + 1 = gi at *
   go_wp2_with fail
   refine (HZ.out _).mono ?_
   rintro e w3 ⟨rfl, hk3⟩
   have p1 := hk3.cell p1
   have p2 := hk3.cell p2
   have p3 := hk3.cell p3
   have i0 := hk3.cell i0
   have i1 := hk3.cell i1
   have i2 := hk3.cell i2
   have i3 := hk3.cell i3
   have i4 := hk3.cell i4
   have i5 := hk3.cell i5
   have HBI := Lib.hid (HBI0.out.keep hk3)
   have HBR := Lib.hid (HBR0.out.keep hk3)
   have hgl3 := HBI.out.lt
   have hkw3 := hkw.trans hk3
   have f1 := HBI.out.thawed 1
   have f2 := HBI.out.thawed 2
   have f3 := HBI.out.thawed 3
   have f4 := HBI.out.thawed 4
   have hbW : b < w3.heap.size := by omega
   clear hgl hbw hkw hk3 HBI0 HBR0 HZ hzw
   go_wp2_with (go_at_call 53; refine (signed_two _ _ _ x2 x3 _ (Keeps.cell (by repeat (with_reducible (first | assumption | exact Keeps.refl _ | refine Keeps.alloc ?_ _ | refine Keeps.drew ?_ | refine Keeps.drewN ?_ _ | refine Keeps.setCell ?_ hwi _))) y2) (Keeps.cell (by repeat (with_reducible (first | assumption | exact Keeps.refl _ | refine Keeps.alloc ?_ _ | refine Keeps.drew ?_ | refine Keeps.drewN ?_ _ | refine Keeps.setCell ?_ hwi _))) y3) l2 u2 l3 u3).mono ?_; rintro e w' ⟨rfl, nq, rfl⟩)
   all_goals
    refine (HC.out _).mono ?_
    rintro e w5 ⟨rfl, hk5⟩
    have hB5 : Blk w5 gi (.cells #[.int .i64 k, .int .i64 (x1), .int .i64 (0), .int .i64 (0), .int .i64 (num16 x2 x3), .bool false] 61) := Blk.keep (by exact ((HBI.out).set 1 (.int .i64 (x1))).set 4 (.int .i64 (num16 x2 x3))) hk5
    have hR5 : Blk w5 w.heap.size (.cells #[.int .i64 0, .int .i64 0, .int .i64 0, .int .i64 0, .int .i64 0, .bool false] 61) := Blk.keep (by first | exact Blk.other (Blk.other (HBR.out) hri _ _) hri _ _ | exact Blk.other (Blk.other (Blk.drew HBR.out) hri _ _) hri _ _) hk5
    have hkw5 : Keeps w w5 := Keeps.trans (by repeat (with_reducible (first | assumption | exact Keeps.refl _ | refine Keeps.alloc ?_ _ | refine Keeps.drew ?_ | refine Keeps.drewN ?_ _ | refine Keeps.setCell ?_ hwi _))) hk5
    have j0 := hB5.cell (j := 0) rfl
    have j1 := hB5.cell (j := 1) rfl
    have j2 := hB5.cell (j := 2) rfl
    have j3 := hB5.cell (j := 3) rfl
    have j4 := hB5.cell (j := 4) rfl
    have j5 := hB5.cell (j := 5) rfl
    have t0 := hR5.cell (j := 0) rfl
    have t1 := hR5.cell (j := 1) rfl
    have t2 := hR5.cell (j := 2) rfl
    have t3 := hR5.cell (j := 3) rfl
    have t4 := hR5.cell (j := 4) rfl
    have t5 := hR5.cell (j := 5) rfl
    have n0 := hR5.thawed 0
    have n1 := hR5.thawed 1
    have n2 := hR5.thawed 2
    have n3 := hR5.thawed 3
    have n4 := hR5.thawed 4
    have n5 := hR5.thawed 5
    have HR5 := Lib.hid hR5
    obtain ⟨F, hF⟩ : ∃ F, insFault (k : Int) (x1) (0) (0) (num16 x2 x3) false = F := ⟨_, rfl⟩
    rw [hF]
    have HF := Lib.hid hF
    clear hB5 hR5 hk5 hkw3 HC HBI HBR i0 i1 i2 i3 i4 i5 f1 f2 f3 f4 hF
    by_cases h0 : F = 0
    ·have q1 : (F == 0) = true := by simpa using h0
     have q2 : (F != 0) = false := by simpa using h0
     have H0 := Lib.hid h0
     clear h0
     go_wp2_with fail
     obtain ⟨wf, hwf⟩ : ∃ wf : World, wf = ((((((w5.setCell ⟨w.heap.size, 0, none⟩ (.int .i64 k)).setCell ⟨w.heap.size, 1, none⟩ (.int .i64 (x1))).setCell ⟨w.heap.size, 2, none⟩ (.int .i64 (0))).setCell ⟨w.heap.size, 3, none⟩ (.int .i64 (0))).setCell ⟨w.heap.size, 4, none⟩ (.int .i64 (num16 x2 x3))).setCell ⟨w.heap.size, 5, none⟩ (.bool false)) := ⟨_, rfl⟩
     rw [← hwf]
     have hBf : Blk wf w.heap.size (.cells #[.int .i64 k, .int .i64 (x1), .int .i64 (0), .int .i64 (0), .int .i64 (num16 x2 x3), .bool false] 61) := by
      rw [hwf]
      exact (((((HR5.out.set 0 _).set 1 _).set 2 _).set 3 _).set 4 _).set 5 _
     have Kf : Keeps w wf := by
      rw [hwf]
      exact Keeps.setCell (Keeps.setCell (Keeps.setCell (Keeps.setCell (Keeps.setCell (Keeps.setCell hkw5 (Nat.le_refl _) _) (Nat.le_refl _) _) (Nat.le_refl _) _) (Nat.le_refl _) _) (Nat.le_refl _) _) (Nat.le_refl _) _
     have a0 := hBf.cell (j := 0) rfl
     have a1 := hBf.cell (j := 1) rfl
     have a2 := hBf.cell (j := 2) rfl
     have a3 := hBf.cell (j := 3) rfl
     have a4 := hBf.cell (j := 4) rfl
     have a5 := hBf.cell (j := 5) rfl
     clear hwf hBf j0 j1 j2 j3 j4 j5 t0 t1 t2 t3 t4 t5 n0 n1 n2 n3 n4 n5
     refine bodyPost_ret (v := .tuple #[.agg #[.int .i64 k, .int .i64 (x1), .int .i64 (0), .int .i64 (0), .int .i64 (num16 x2 x3), .bool false], .int .i64 4, .int .i64 0]) (by simp [results, Tryd.results21, go_sem, a0, a1, a2, a3, a4, a5]) rfl ⟨?_, Kf⟩
     show (if insFault (k : Int) (x1) (0) (0) (num16 x2 x3) false = 0 then _ else _)
     rw [HF.out, if_pos H0.out]
     rfl
    ·have q1 : (F == 0) = false := by simpa using h0
     have q2 : (F != 0) = true := by simpa using h0
     have H0 := Lib.hid h0
     clear h0
     go_wp2_with fail
     obtain ⟨wf, hwf⟩ : ∃ wf : World, wf = ((((((w5.setCell ⟨w.heap.size, 0, none⟩ (.int .i64 0)).setCell ⟨w.heap.size, 1, none⟩ (.int .i64 0)).setCell ⟨w.heap.size, 2, none⟩ (.int .i64 0)).setCell ⟨w.heap.size, 3, none⟩ (.int .i64 0)).setCell ⟨w.heap.size, 4, none⟩ (.int .i64 0)).setCell ⟨w.heap.size, 5, none⟩ (.bool false)) := ⟨_, rfl⟩
     rw [← hwf]
     have hBf : Blk wf w.heap.size (.cells #[.int .i64 0, .int .i64 0, .int .i64 0, .int .i64 0, .int .i64 0, .bool false] 61) := by
      rw [hwf]
      exact (((((HR5.out.set 0 _).set 1 _).set 2 _).set 3 _).set 4 _).set 5 _
     have Kf : Keeps w wf := by
      rw [hwf]
      exact Keeps.setCell (Keeps.setCell (Keeps.setCell (Keeps.setCell (Keeps.setCell (Keeps.setCell hkw5 (Nat.le_refl _) _) (Nat.le_refl _) _) (Nat.le_refl _) _) (Nat.le_refl _) _) (Nat.le_refl _) _) (Nat.le_refl _) _
     have a0 := hBf.cell (j := 0) rfl
     have a1 := hBf.cell (j := 1) rfl
     have a2 := hBf.cell (j := 2) rfl
     have a3 := hBf.cell (j := 3) rfl
     have a4 := hBf.cell (j := 4) rfl
     have a5 := hBf.cell (j := 5) rfl
     clear hwf hBf j0 j1 j2 j3 j4 j5 t0 t1 t2 t3 t4 t5 n0 n1 n2 n3 n4 n5
     refine bodyPost_ret (v := .tuple #[.agg #[.int .i64 0, .int .i64 0, .int .i64 0, .int .i64 0, .int .i64 0, .bool false], .int .i64 0, .int .i64 4]) (by simp [results, Tryd.results21, go_sem, a0, a1, a2, a3, a4, a5]) rfl ⟨?_, Kf⟩
     show (if insFault (k : Int) (x1) (0) (0) (num16 x2 x3) false = 0 then _ else _)
     rw [HF.out, if_neg H0.out]
     rfl
theorem at_pairA (b off cap len : Nat) (a k : Nat) (h1 : 6 ≤ k) (h2 : k ≤ 6) (x0 x1 x2 : Int) (w : World) (hcap : len ≤ cap) (hmax : cap ≤ 9223372036854775807)
  (ha : a + 3 ≤ len) (y0 : w.cell? ⟨b, off + a, none⟩ = some (.int .u8 x0)) (y1 : w.cell? ⟨b, off + a + 1, none⟩ = some (.int .u8 x1)) (y2 : w.cell? ⟨b, off + a + 2, none⟩ = some (.int .u8 x2)) (l0 : 0 ≤ x0) (u0 : x0 < 256) (l1 : 0 ≤ x1) (u1 : x1 < 256) (l2 : 0 ≤ x2) (u2 : x2 < 256) (hk : refGo x0 25 = (k, false)) :
  Calls Tryd.prog 21 #[.slice (some ⟨b, off, none⟩) len cap, .int .i64 a] w (DecGives ⟨k, x1 / 16, x1 % 16, 0, num8 x2, false⟩ 3 w) := by
 have HC := Lib.hid (fun W => instrFault_any k (x1 / 16) (x1 % 16) (0) (num8 x2) false W)
 have HZ := Lib.hid (fun W => refSize_any k (by omega) (by omega) 0 0 0 0 false W)
 rw [show insSize k false = 3 by
  obtain rfl : k = 6 := by omega
  all_goals rfl] at HZ
 have HKK := Lib.hid hk
 have hbw : b < w.heap.size := lt_of_cell y0
 go_enter Tryd.func21, Tryd.ntmps21
 go_wp2_with (go_at_call 23; refine (in_yes _ _ _ _ (by omega) (by omega)).mono ?_; rintro e w' ⟨rfl, rfl⟩)
 obtain ⟨W, hW, hkW, hbR, hbI, hsW⟩ := two_blocks' w (.cells #[.int .i64 0, .int .i64 0, .int .i64 0, .int .i64 0, .int .i64 0, .bool false] 61) (.cells #[.int .i64 0, .int .i64 0, .int .i64 0, .int .i64 0, .int .i64 0, .bool false] 61)
 rw [← hW]
 clear hW
 go_loopw [8] (fun s8 wr => ∃ j : Nat, 1 ≤ j ∧ j ≤ 25 ∧ s8 = .int .i64 j ∧ Keeps w wr ∧ AtIn w.heap.size x0 j wr) (fun s8 _ => 25 - (intOf s8).toNat)
 case atStart => exact ⟨1, Nat.le_refl _, by omega, rfl, hkW, hbR, hbI⟩
 case round =>
  obtain ⟨j, hj1, hj2, rfl, hkw, hin⟩ := hrel
  have hbR := hin.1
  have hB0 := hin.2
  have g0 := hkw.cell y0
  have hzw := hkw.size
  by_cases hlt : j < 25
  ·have HO := Lib.hid (fun w => opOf_any j hj1 (by omega) w)
   have HS := Lib.hid (show refGo x0 (j + 1) = if hitB x0 j then (j, true) else if hitA x0 j then (j, (refGo x0 j).2) else refGo x0 j from rfl)
   obtain ⟨o1, o2, o3, o4⟩ := op_bounds j (by omega)
   have hA : hitA x0 j = (opT j == x0) := by unfold hitA; rw [decide_eq_true (by omega)]; rfl
   have hB : hitB x0 j = ((longT j != 0) && (longT j == x0)) := by unfold hitB; rw [decide_eq_true (by omega)]; rfl
   rw [hA, hB] at HS
   have i0 := hB0.cell (j := 0) rfl
   have i5 := hB0.cell (j := 5) rfl
   have f0 := hB0.thawed 0
   have f5 := hB0.thawed 5
   have hgi : w.heap.size ≤ w.heap.size + 1 := by omega
   have hne : w.heap.size ≠ w.heap.size + 1 := by omega
   have hbi : b ≠ w.heap.size + 1 := by omega
   have hlt1 := hB0.lt
   have HB0 := Lib.hid hB0
   have HBR := Lib.hid hbR
   have HK := Lib.hid hkw
   generalize opT j = x at *
   generalize longT j = y at *
   generalize hgg : w.heap.size + 1 = gi at *
   have HG := Lib.hid hgg
   clear hgg hA hB hin hB0 hbR hkw hkW hbI hk
   cases q1 : (x == x0) with
   | true =>
    cases q2 : (y != 0) with
    | true =>
     have q2' : decide (0 < y) = true := by simp at q2 ⊢; omega
     cases q3 : (y == x0) with
     | true =>
      go_wp2_with (go_at_call 52; refine (HO.out _).mono ?_; rintro e w' ⟨rfl, rfl⟩)
      go_roundw
      case rel => exact ⟨j + 1, by omega, by omega, by go_num, Keeps.setCell (Keeps.setCell (Keeps.setCell HK.out hgi _) hgi _) hgi _, atIn_of (j, true) HG.out (Blk.other (Blk.other (Blk.other HBR.out hne _ _) hne _ _) hne _ _) (((HB0.out.set 0 _).set 0 _).set 5 _) (by rw [HS.out, q1, q2, q3]; rfl)⟩
      case measure => simp [intOf]; omega
     | false =>
      go_wp2_with (go_at_call 52; refine (HO.out _).mono ?_; rintro e w' ⟨rfl, rfl⟩)
      go_roundw
      case rel => exact ⟨j + 1, by omega, by omega, by go_num, Keeps.setCell HK.out hgi _, atIn_of (j, (refGo x0 j).2) HG.out (Blk.other HBR.out hne _ _) (HB0.out.set 0 _) (by rw [HS.out, q1, q2, q3]; rfl)⟩
      case measure => simp [intOf]; omega
    | false =>
     have q2' : decide (0 < y) = false := by simp at q2 ⊢; omega
     go_wp2_with (go_at_call 52; refine (HO.out _).mono ?_; rintro e w' ⟨rfl, rfl⟩)
     go_roundw
     case rel => exact ⟨j + 1, by omega, by omega, by go_num, Keeps.setCell HK.out hgi _, atIn_of (j, (refGo x0 j).2) HG.out (Blk.other HBR.out hne _ _) (HB0.out.set 0 _) (by rw [HS.out, q1, q2]; rfl)⟩
     case measure => simp [intOf]; omega
   | false =>
    cases q2 : (y != 0) with
    | true =>
     have q2' : decide (0 < y) = true := by simp at q2 ⊢; omega
     cases q3 : (y == x0) with
     | true =>
      go_wp2_with (go_at_call 52; refine (HO.out _).mono ?_; rintro e w' ⟨rfl, rfl⟩)
      go_roundw
      case rel => exact ⟨j + 1, by omega, by omega, by go_num, Keeps.setCell (Keeps.setCell HK.out hgi _) hgi _, atIn_of (j, true) HG.out (Blk.other (Blk.other HBR.out hne _ _) hne _ _) ((HB0.out.set 0 _).set 5 _) (by rw [HS.out, q1, q2, q3]; rfl)⟩
      case measure => simp [intOf]; omega
     | false =>
      go_wp2_with (go_at_call 52; refine (HO.out _).mono ?_; rintro e w' ⟨rfl, rfl⟩)
      go_roundw
      case rel => exact ⟨j + 1, by omega, by omega, by go_num, HK.out, atIn_of (refGo x0 j) HG.out HBR.out HB0.out (by rw [HS.out, q1, q2, q3]; rfl)⟩
      case measure => simp [intOf]; omega
    | false =>
     have q2' : decide (0 < y) = false := by simp at q2 ⊢; omega
     go_wp2_with (go_at_call 52; refine (HO.out _).mono ?_; rintro e w' ⟨rfl, rfl⟩)
     go_roundw
     case rel => exact ⟨j + 1, by omega, by omega, by go_num, HK.out, atIn_of (refGo x0 j) HG.out HBR.out HB0.out (by rw [HS.out, q1, q2]; rfl)⟩
     case measure => simp [intOf]; omega
  ·obtain rfl : j = 25 := by omega
   have hBI : Blk wr (w.heap.size + 1) (.cells #[.int .i64 k, .int .i64 0, .int .i64 0, .int .i64 0, .int .i64 0, .bool false] 61) := by rw [HKK.out] at hB0; exact hB0
   have p1 := hkw.cell y1
   have p2 := hkw.cell y2
   have i0 := hBI.cell (j := 0) rfl
   have i1 := hBI.cell (j := 1) rfl
   have i2 := hBI.cell (j := 2) rfl
   have i3 := hBI.cell (j := 3) rfl
   have i4 := hBI.cell (j := 4) rfl
   have i5 := hBI.cell (j := 5) rfl
   have hbi' : b ≠ w.heap.size + 1 := by omega
   have hri : w.heap.size ≠ w.heap.size + 1 := by omega
   have hwi : w.heap.size ≤ w.heap.size + 1 := by omega
   have hgl := hBI.lt
   have HBI0 := Lib.hid hBI
   have HBR0 := Lib.hid hbR
   clear hin hB0 hBI hbR hkW hbI hsW HKK hk y0 g0
   generalize w.heap.size + 1 = gi at *
   go_wp2_with fail
   refine (HZ.out _).mono ?_
   rintro e w3 ⟨rfl, hk3⟩
   have p1 := hk3.cell p1
   have p2 := hk3.cell p2
   have i0 := hk3.cell i0
   have i1 := hk3.cell i1
   have i2 := hk3.cell i2
   have i3 := hk3.cell i3
   have i4 := hk3.cell i4
   have i5 := hk3.cell i5
   have HBI := Lib.hid (HBI0.out.keep hk3)
   have HBR := Lib.hid (HBR0.out.keep hk3)
   have hgl3 := HBI.out.lt
   have hkw3 := hkw.trans hk3
   have f1 := HBI.out.thawed 1
   have f2 := HBI.out.thawed 2
   have f3 := HBI.out.thawed 3
   have f4 := HBI.out.thawed 4
   have hbW : b < w3.heap.size := by omega
   clear hgl hbw hkw hk3 HBI0 HBR0 HZ hzw
   go_wp2_with (go_at_call 53; refine (signed_one _ _ _ x2 _ (Keeps.cell (by repeat (with_reducible (first | assumption | exact Keeps.refl _ | refine Keeps.alloc ?_ _ | refine Keeps.drew ?_ | refine Keeps.drewN ?_ _ | refine Keeps.setCell ?_ hwi _))) y2) l2 u2).mono ?_; rintro e w' ⟨rfl, rfl⟩)
   all_goals
    refine (HC.out _).mono ?_
    rintro e w5 ⟨rfl, hk5⟩
    have hB5 : Blk w5 gi (.cells #[.int .i64 k, .int .i64 (x1 / 16), .int .i64 (x1 % 16), .int .i64 (0), .int .i64 (num8 x2), .bool false] 61) := Blk.keep (by exact (((HBI.out).set 1 (.int .i64 (x1 / 16))).set 2 (.int .i64 (x1 % 16))).set 4 (.int .i64 (num8 x2))) hk5
    have hR5 : Blk w5 w.heap.size (.cells #[.int .i64 0, .int .i64 0, .int .i64 0, .int .i64 0, .int .i64 0, .bool false] 61) := Blk.keep (by first | exact Blk.other (Blk.other (Blk.other (HBR.out) hri _ _) hri _ _) hri _ _ | exact Blk.other (Blk.other (Blk.other (Blk.drew HBR.out) hri _ _) hri _ _) hri _ _) hk5
    have hkw5 : Keeps w w5 := Keeps.trans (by repeat (with_reducible (first | assumption | exact Keeps.refl _ | refine Keeps.alloc ?_ _ | refine Keeps.drew ?_ | refine Keeps.drewN ?_ _ | refine Keeps.setCell ?_ hwi _))) hk5
    have j0 := hB5.cell (j := 0) rfl
    have j1 := hB5.cell (j := 1) rfl
    have j2 := hB5.cell (j := 2) rfl
    have j3 := hB5.cell (j := 3) rfl
    have j4 := hB5.cell (j := 4) rfl
    have j5 := hB5.cell (j := 5) rfl
    have t0 := hR5.cell (j := 0) rfl
    have t1 := hR5.cell (j := 1) rfl
    have t2 := hR5.cell (j := 2) rfl
    have t3 := hR5.cell (j := 3) rfl
    have t4 := hR5.cell (j := 4) rfl
    have t5 := hR5.cell (j := 5) rfl
    have n0 := hR5.thawed 0
    have n1 := hR5.thawed 1
    have n2 := hR5.thawed 2
    have n3 := hR5.thawed 3
    have n4 := hR5.thawed 4
    have n5 := hR5.thawed 5
    have HR5 := Lib.hid hR5
    obtain ⟨F, hF⟩ : ∃ F, insFault (k : Int) (x1 / 16) (x1 % 16) (0) (num8 x2) false = F := ⟨_, rfl⟩
    rw [hF]
    have HF := Lib.hid hF
    clear hB5 hR5 hk5 hkw3 HC HBI HBR i0 i1 i2 i3 i4 i5 f1 f2 f3 f4 hF
    by_cases h0 : F = 0
    ·have q1 : (F == 0) = true := by simpa using h0
     have q2 : (F != 0) = false := by simpa using h0
     have H0 := Lib.hid h0
     clear h0
     go_wp2_with fail
     obtain ⟨wf, hwf⟩ : ∃ wf : World, wf = ((((((w5.setCell ⟨w.heap.size, 0, none⟩ (.int .i64 k)).setCell ⟨w.heap.size, 1, none⟩ (.int .i64 (x1 / 16))).setCell ⟨w.heap.size, 2, none⟩ (.int .i64 (x1 % 16))).setCell ⟨w.heap.size, 3, none⟩ (.int .i64 (0))).setCell ⟨w.heap.size, 4, none⟩ (.int .i64 (num8 x2))).setCell ⟨w.heap.size, 5, none⟩ (.bool false)) := ⟨_, rfl⟩
     rw [← hwf]
     have hBf : Blk wf w.heap.size (.cells #[.int .i64 k, .int .i64 (x1 / 16), .int .i64 (x1 % 16), .int .i64 (0), .int .i64 (num8 x2), .bool false] 61) := by
      rw [hwf]
      exact (((((HR5.out.set 0 _).set 1 _).set 2 _).set 3 _).set 4 _).set 5 _
     have Kf : Keeps w wf := by
      rw [hwf]
      exact Keeps.setCell (Keeps.setCell (Keeps.setCell (Keeps.setCell (Keeps.setCell (Keeps.setCell hkw5 (Nat.le_refl _) _) (Nat.le_refl _) _) (Nat.le_refl _) _) (Nat.le_refl _) _) (Nat.le_refl _) _) (Nat.le_refl _) _
     have a0 := hBf.cell (j := 0) rfl
     have a1 := hBf.cell (j := 1) rfl
     have a2 := hBf.cell (j := 2) rfl
     have a3 := hBf.cell (j := 3) rfl
     have a4 := hBf.cell (j := 4) rfl
     have a5 := hBf.cell (j := 5) rfl
     clear hwf hBf j0 j1 j2 j3 j4 j5 t0 t1 t2 t3 t4 t5 n0 n1 n2 n3 n4 n5
     refine bodyPost_ret (v := .tuple #[.agg #[.int .i64 k, .int .i64 (x1 / 16), .int .i64 (x1 % 16), .int .i64 (0), .int .i64 (num8 x2), .bool false], .int .i64 3, .int .i64 0]) (by simp [results, Tryd.results21, go_sem, a0, a1, a2, a3, a4, a5]) rfl ⟨?_, Kf⟩
     show (if insFault (k : Int) (x1 / 16) (x1 % 16) (0) (num8 x2) false = 0 then _ else _)
     rw [HF.out, if_pos H0.out]
     rfl
    ·have q1 : (F == 0) = false := by simpa using h0
     have q2 : (F != 0) = true := by simpa using h0
     have H0 := Lib.hid h0
     clear h0
     go_wp2_with fail
     obtain ⟨wf, hwf⟩ : ∃ wf : World, wf = ((((((w5.setCell ⟨w.heap.size, 0, none⟩ (.int .i64 0)).setCell ⟨w.heap.size, 1, none⟩ (.int .i64 0)).setCell ⟨w.heap.size, 2, none⟩ (.int .i64 0)).setCell ⟨w.heap.size, 3, none⟩ (.int .i64 0)).setCell ⟨w.heap.size, 4, none⟩ (.int .i64 0)).setCell ⟨w.heap.size, 5, none⟩ (.bool false)) := ⟨_, rfl⟩
     rw [← hwf]
     have hBf : Blk wf w.heap.size (.cells #[.int .i64 0, .int .i64 0, .int .i64 0, .int .i64 0, .int .i64 0, .bool false] 61) := by
      rw [hwf]
      exact (((((HR5.out.set 0 _).set 1 _).set 2 _).set 3 _).set 4 _).set 5 _
     have Kf : Keeps w wf := by
      rw [hwf]
      exact Keeps.setCell (Keeps.setCell (Keeps.setCell (Keeps.setCell (Keeps.setCell (Keeps.setCell hkw5 (Nat.le_refl _) _) (Nat.le_refl _) _) (Nat.le_refl _) _) (Nat.le_refl _) _) (Nat.le_refl _) _) (Nat.le_refl _) _
     have a0 := hBf.cell (j := 0) rfl
     have a1 := hBf.cell (j := 1) rfl
     have a2 := hBf.cell (j := 2) rfl
     have a3 := hBf.cell (j := 3) rfl
     have a4 := hBf.cell (j := 4) rfl
     have a5 := hBf.cell (j := 5) rfl
     clear hwf hBf j0 j1 j2 j3 j4 j5 t0 t1 t2 t3 t4 t5 n0 n1 n2 n3 n4 n5
     refine bodyPost_ret (v := .tuple #[.agg #[.int .i64 0, .int .i64 0, .int .i64 0, .int .i64 0, .int .i64 0, .bool false], .int .i64 0, .int .i64 4]) (by simp [results, Tryd.results21, go_sem, a0, a1, a2, a3, a4, a5]) rfl ⟨?_, Kf⟩
     show (if insFault (k : Int) (x1 / 16) (x1 % 16) (0) (num8 x2) false = 0 then _ else _)
     rw [HF.out, if_neg H0.out]
     rfl
theorem at_three (b off cap len : Nat) (a k : Nat) (h1 : 7 ≤ k) (h2 : k ≤ 13) (x0 x1 x2 : Int) (w : World) (hcap : len ≤ cap) (hmax : cap ≤ 9223372036854775807)
  (ha : a + 3 ≤ len) (y0 : w.cell? ⟨b, off + a, none⟩ = some (.int .u8 x0)) (y1 : w.cell? ⟨b, off + a + 1, none⟩ = some (.int .u8 x1)) (y2 : w.cell? ⟨b, off + a + 2, none⟩ = some (.int .u8 x2)) (l0 : 0 ≤ x0) (u0 : x0 < 256) (l1 : 0 ≤ x1) (u1 : x1 < 256) (l2 : 0 ≤ x2) (u2 : x2 < 256) (hk : refGo x0 25 = (k, false)) :
  Calls Tryd.prog 21 #[.slice (some ⟨b, off, none⟩) len cap, .int .i64 a] w (DecGives ⟨k, x1 / 16, x1 % 16, x2, 0, false⟩ 3 w) := by
 have HC := Lib.hid (fun W => instrFault_any k (x1 / 16) (x1 % 16) (x2) (0) false W)
 have HZ := Lib.hid (fun W => refSize_any k (by omega) (by omega) 0 0 0 0 false W)
 rw [show insSize k false = 3 by
  obtain rfl | rfl | rfl | rfl | rfl | rfl | rfl : k = 7 ∨ k = 8 ∨ k = 9 ∨ k = 10 ∨ k = 11 ∨ k = 12 ∨ k = 13 := by omega
  all_goals rfl] at HZ
 have HKK := Lib.hid hk
 have hbw : b < w.heap.size := lt_of_cell y0
 go_enter Tryd.func21, Tryd.ntmps21
 go_wp2_with (go_at_call 23; refine (in_yes _ _ _ _ (by omega) (by omega)).mono ?_; rintro e w' ⟨rfl, rfl⟩)
 obtain ⟨W, hW, hkW, hbR, hbI, hsW⟩ := two_blocks' w (.cells #[.int .i64 0, .int .i64 0, .int .i64 0, .int .i64 0, .int .i64 0, .bool false] 61) (.cells #[.int .i64 0, .int .i64 0, .int .i64 0, .int .i64 0, .int .i64 0, .bool false] 61)
 rw [← hW]
 clear hW
 go_loopw [8] (fun s8 wr => ∃ j : Nat, 1 ≤ j ∧ j ≤ 25 ∧ s8 = .int .i64 j ∧ Keeps w wr ∧ AtIn w.heap.size x0 j wr) (fun s8 _ => 25 - (intOf s8).toNat)
 case atStart => exact ⟨1, Nat.le_refl _, by omega, rfl, hkW, hbR, hbI⟩
 case round =>
  obtain ⟨j, hj1, hj2, rfl, hkw, hin⟩ := hrel
  have hbR := hin.1
  have hB0 := hin.2
  have g0 := hkw.cell y0
  have hzw := hkw.size
  by_cases hlt : j < 25
  ·have HO := Lib.hid (fun w => opOf_any j hj1 (by omega) w)
   have HS := Lib.hid (show refGo x0 (j + 1) = if hitB x0 j then (j, true) else if hitA x0 j then (j, (refGo x0 j).2) else refGo x0 j from rfl)
   obtain ⟨o1, o2, o3, o4⟩ := op_bounds j (by omega)
   have hA : hitA x0 j = (opT j == x0) := by unfold hitA; rw [decide_eq_true (by omega)]; rfl
   have hB : hitB x0 j = ((longT j != 0) && (longT j == x0)) := by unfold hitB; rw [decide_eq_true (by omega)]; rfl
   rw [hA, hB] at HS
   have i0 := hB0.cell (j := 0) rfl
   have i5 := hB0.cell (j := 5) rfl
   have f0 := hB0.thawed 0
   have f5 := hB0.thawed 5
   have hgi : w.heap.size ≤ w.heap.size + 1 := by omega
   have hne : w.heap.size ≠ w.heap.size + 1 := by omega
   have hbi : b ≠ w.heap.size + 1 := by omega
   have hlt1 := hB0.lt
   have HB0 := Lib.hid hB0
   have HBR := Lib.hid hbR
   have HK := Lib.hid hkw
   generalize opT j = x at *
   generalize longT j = y at *
   generalize hgg : w.heap.size + 1 = gi at *
   have HG := Lib.hid hgg
   clear hgg hA hB hin hB0 hbR hkw hkW hbI hk
   cases q1 : (x == x0) with
   | true =>
    cases q2 : (y != 0) with
    | true =>
     have q2' : decide (0 < y) = true := by simp at q2 ⊢; omega
     cases q3 : (y == x0) with
     | true =>
      go_wp2_with (go_at_call 52; refine (HO.out _).mono ?_; rintro e w' ⟨rfl, rfl⟩)
      go_roundw
      case rel => exact ⟨j + 1, by omega, by omega, by go_num, Keeps.setCell (Keeps.setCell (Keeps.setCell HK.out hgi _) hgi _) hgi _, atIn_of (j, true) HG.out (Blk.other (Blk.other (Blk.other HBR.out hne _ _) hne _ _) hne _ _) (((HB0.out.set 0 _).set 0 _).set 5 _) (by rw [HS.out, q1, q2, q3]; rfl)⟩
      case measure => simp [intOf]; omega
     | false =>
      go_wp2_with (go_at_call 52; refine (HO.out _).mono ?_; rintro e w' ⟨rfl, rfl⟩)
      go_roundw
      case rel => exact ⟨j + 1, by omega, by omega, by go_num, Keeps.setCell HK.out hgi _, atIn_of (j, (refGo x0 j).2) HG.out (Blk.other HBR.out hne _ _) (HB0.out.set 0 _) (by rw [HS.out, q1, q2, q3]; rfl)⟩
      case measure => simp [intOf]; omega
    | false =>
     have q2' : decide (0 < y) = false := by simp at q2 ⊢; omega
     go_wp2_with (go_at_call 52; refine (HO.out _).mono ?_; rintro e w' ⟨rfl, rfl⟩)
     go_roundw
     case rel => exact ⟨j + 1, by omega, by omega, by go_num, Keeps.setCell HK.out hgi _, atIn_of (j, (refGo x0 j).2) HG.out (Blk.other HBR.out hne _ _) (HB0.out.set 0 _) (by rw [HS.out, q1, q2]; rfl)⟩
     case measure => simp [intOf]; omega
   | false =>
    cases q2 : (y != 0) with
    | true =>
     have q2' : decide (0 < y) = true := by simp at q2 ⊢; omega
     cases q3 : (y == x0) with
     | true =>
      go_wp2_with (go_at_call 52; refine (HO.out _).mono ?_; rintro e w' ⟨rfl, rfl⟩)
      go_roundw
      case rel => exact ⟨j + 1, by omega, by omega, by go_num, Keeps.setCell (Keeps.setCell HK.out hgi _) hgi _, atIn_of (j, true) HG.out (Blk.other (Blk.other HBR.out hne _ _) hne _ _) ((HB0.out.set 0 _).set 5 _) (by rw [HS.out, q1, q2, q3]; rfl)⟩
      case measure => simp [intOf]; omega
     | false =>
      go_wp2_with (go_at_call 52; refine (HO.out _).mono ?_; rintro e w' ⟨rfl, rfl⟩)
      go_roundw
      case rel => exact ⟨j + 1, by omega, by omega, by go_num, HK.out, atIn_of (refGo x0 j) HG.out HBR.out HB0.out (by rw [HS.out, q1, q2, q3]; rfl)⟩
      case measure => simp [intOf]; omega
    | false =>
     have q2' : decide (0 < y) = false := by simp at q2 ⊢; omega
     go_wp2_with (go_at_call 52; refine (HO.out _).mono ?_; rintro e w' ⟨rfl, rfl⟩)
     go_roundw
     case rel => exact ⟨j + 1, by omega, by omega, by go_num, HK.out, atIn_of (refGo x0 j) HG.out HBR.out HB0.out (by rw [HS.out, q1, q2]; rfl)⟩
     case measure => simp [intOf]; omega
  ·obtain rfl : j = 25 := by omega
   have hBI : Blk wr (w.heap.size + 1) (.cells #[.int .i64 k, .int .i64 0, .int .i64 0, .int .i64 0, .int .i64 0, .bool false] 61) := by rw [HKK.out] at hB0; exact hB0
   have p1 := hkw.cell y1
   have p2 := hkw.cell y2
   have i0 := hBI.cell (j := 0) rfl
   have i1 := hBI.cell (j := 1) rfl
   have i2 := hBI.cell (j := 2) rfl
   have i3 := hBI.cell (j := 3) rfl
   have i4 := hBI.cell (j := 4) rfl
   have i5 := hBI.cell (j := 5) rfl
   have hbi' : b ≠ w.heap.size + 1 := by omega
   have hri : w.heap.size ≠ w.heap.size + 1 := by omega
   have hwi : w.heap.size ≤ w.heap.size + 1 := by omega
   have hgl := hBI.lt
   have HBI0 := Lib.hid hBI
   have HBR0 := Lib.hid hbR
   clear hin hB0 hBI hbR hkW hbI hsW HKK hk y0 g0
   generalize w.heap.size + 1 = gi at *
   go_wp2_with fail
   refine (HZ.out _).mono ?_
   rintro e w3 ⟨rfl, hk3⟩
   have p1 := hk3.cell p1
   have p2 := hk3.cell p2
   have i0 := hk3.cell i0
   have i1 := hk3.cell i1
   have i2 := hk3.cell i2
   have i3 := hk3.cell i3
   have i4 := hk3.cell i4
   have i5 := hk3.cell i5
   have HBI := Lib.hid (HBI0.out.keep hk3)
   have HBR := Lib.hid (HBR0.out.keep hk3)
   have hgl3 := HBI.out.lt
   have hkw3 := hkw.trans hk3
   have f1 := HBI.out.thawed 1
   have f2 := HBI.out.thawed 2
   have f3 := HBI.out.thawed 3
   have f4 := HBI.out.thawed 4
   have hbW : b < w3.heap.size := by omega
   clear hgl hbw hkw hk3 HBI0 HBR0 HZ hzw
   go_wp2_with fail
   all_goals
    refine (HC.out _).mono ?_
    rintro e w5 ⟨rfl, hk5⟩
    have hB5 : Blk w5 gi (.cells #[.int .i64 k, .int .i64 (x1 / 16), .int .i64 (x1 % 16), .int .i64 (x2), .int .i64 (0), .bool false] 61) := Blk.keep (by exact (((HBI.out).set 1 (.int .i64 (x1 / 16))).set 2 (.int .i64 (x1 % 16))).set 3 (.int .i64 (x2))) hk5
    have hR5 : Blk w5 w.heap.size (.cells #[.int .i64 0, .int .i64 0, .int .i64 0, .int .i64 0, .int .i64 0, .bool false] 61) := Blk.keep (by first | exact Blk.other (Blk.other (Blk.other (HBR.out) hri _ _) hri _ _) hri _ _ | exact Blk.other (Blk.other (Blk.other (Blk.drew HBR.out) hri _ _) hri _ _) hri _ _) hk5
    have hkw5 : Keeps w w5 := Keeps.trans (by repeat (with_reducible (first | assumption | exact Keeps.refl _ | refine Keeps.alloc ?_ _ | refine Keeps.drew ?_ | refine Keeps.drewN ?_ _ | refine Keeps.setCell ?_ hwi _))) hk5
    have j0 := hB5.cell (j := 0) rfl
    have j1 := hB5.cell (j := 1) rfl
    have j2 := hB5.cell (j := 2) rfl
    have j3 := hB5.cell (j := 3) rfl
    have j4 := hB5.cell (j := 4) rfl
    have j5 := hB5.cell (j := 5) rfl
    have t0 := hR5.cell (j := 0) rfl
    have t1 := hR5.cell (j := 1) rfl
    have t2 := hR5.cell (j := 2) rfl
    have t3 := hR5.cell (j := 3) rfl
    have t4 := hR5.cell (j := 4) rfl
    have t5 := hR5.cell (j := 5) rfl
    have n0 := hR5.thawed 0
    have n1 := hR5.thawed 1
    have n2 := hR5.thawed 2
    have n3 := hR5.thawed 3
    have n4 := hR5.thawed 4
    have n5 := hR5.thawed 5
    have HR5 := Lib.hid hR5
    obtain ⟨F, hF⟩ : ∃ F, insFault (k : Int) (x1 / 16) (x1 % 16) (x2) (0) false = F := ⟨_, rfl⟩
    rw [hF]
    have HF := Lib.hid hF
    clear hB5 hR5 hk5 hkw3 HC HBI HBR i0 i1 i2 i3 i4 i5 f1 f2 f3 f4 hF
    by_cases h0 : F = 0
    ·have q1 : (F == 0) = true := by simpa using h0
     have q2 : (F != 0) = false := by simpa using h0
     have H0 := Lib.hid h0
     clear h0
     go_wp2_with fail
     obtain ⟨wf, hwf⟩ : ∃ wf : World, wf = ((((((w5.setCell ⟨w.heap.size, 0, none⟩ (.int .i64 k)).setCell ⟨w.heap.size, 1, none⟩ (.int .i64 (x1 / 16))).setCell ⟨w.heap.size, 2, none⟩ (.int .i64 (x1 % 16))).setCell ⟨w.heap.size, 3, none⟩ (.int .i64 (x2))).setCell ⟨w.heap.size, 4, none⟩ (.int .i64 (0))).setCell ⟨w.heap.size, 5, none⟩ (.bool false)) := ⟨_, rfl⟩
     rw [← hwf]
     have hBf : Blk wf w.heap.size (.cells #[.int .i64 k, .int .i64 (x1 / 16), .int .i64 (x1 % 16), .int .i64 (x2), .int .i64 (0), .bool false] 61) := by
      rw [hwf]
      exact (((((HR5.out.set 0 _).set 1 _).set 2 _).set 3 _).set 4 _).set 5 _
     have Kf : Keeps w wf := by
      rw [hwf]
      exact Keeps.setCell (Keeps.setCell (Keeps.setCell (Keeps.setCell (Keeps.setCell (Keeps.setCell hkw5 (Nat.le_refl _) _) (Nat.le_refl _) _) (Nat.le_refl _) _) (Nat.le_refl _) _) (Nat.le_refl _) _) (Nat.le_refl _) _
     have a0 := hBf.cell (j := 0) rfl
     have a1 := hBf.cell (j := 1) rfl
     have a2 := hBf.cell (j := 2) rfl
     have a3 := hBf.cell (j := 3) rfl
     have a4 := hBf.cell (j := 4) rfl
     have a5 := hBf.cell (j := 5) rfl
     clear hwf hBf j0 j1 j2 j3 j4 j5 t0 t1 t2 t3 t4 t5 n0 n1 n2 n3 n4 n5
     refine bodyPost_ret (v := .tuple #[.agg #[.int .i64 k, .int .i64 (x1 / 16), .int .i64 (x1 % 16), .int .i64 (x2), .int .i64 (0), .bool false], .int .i64 3, .int .i64 0]) (by simp [results, Tryd.results21, go_sem, a0, a1, a2, a3, a4, a5]) rfl ⟨?_, Kf⟩
     show (if insFault (k : Int) (x1 / 16) (x1 % 16) (x2) (0) false = 0 then _ else _)
     rw [HF.out, if_pos H0.out]
     rfl
    ·have q1 : (F == 0) = false := by simpa using h0
     have q2 : (F != 0) = true := by simpa using h0
     have H0 := Lib.hid h0
     clear h0
     go_wp2_with fail
     obtain ⟨wf, hwf⟩ : ∃ wf : World, wf = ((((((w5.setCell ⟨w.heap.size, 0, none⟩ (.int .i64 0)).setCell ⟨w.heap.size, 1, none⟩ (.int .i64 0)).setCell ⟨w.heap.size, 2, none⟩ (.int .i64 0)).setCell ⟨w.heap.size, 3, none⟩ (.int .i64 0)).setCell ⟨w.heap.size, 4, none⟩ (.int .i64 0)).setCell ⟨w.heap.size, 5, none⟩ (.bool false)) := ⟨_, rfl⟩
     rw [← hwf]
     have hBf : Blk wf w.heap.size (.cells #[.int .i64 0, .int .i64 0, .int .i64 0, .int .i64 0, .int .i64 0, .bool false] 61) := by
      rw [hwf]
      exact (((((HR5.out.set 0 _).set 1 _).set 2 _).set 3 _).set 4 _).set 5 _
     have Kf : Keeps w wf := by
      rw [hwf]
      exact Keeps.setCell (Keeps.setCell (Keeps.setCell (Keeps.setCell (Keeps.setCell (Keeps.setCell hkw5 (Nat.le_refl _) _) (Nat.le_refl _) _) (Nat.le_refl _) _) (Nat.le_refl _) _) (Nat.le_refl _) _) (Nat.le_refl _) _
     have a0 := hBf.cell (j := 0) rfl
     have a1 := hBf.cell (j := 1) rfl
     have a2 := hBf.cell (j := 2) rfl
     have a3 := hBf.cell (j := 3) rfl
     have a4 := hBf.cell (j := 4) rfl
     have a5 := hBf.cell (j := 5) rfl
     clear hwf hBf j0 j1 j2 j3 j4 j5 t0 t1 t2 t3 t4 t5 n0 n1 n2 n3 n4 n5
     refine bodyPost_ret (v := .tuple #[.agg #[.int .i64 0, .int .i64 0, .int .i64 0, .int .i64 0, .int .i64 0, .bool false], .int .i64 0, .int .i64 4]) (by simp [results, Tryd.results21, go_sem, a0, a1, a2, a3, a4, a5]) rfl ⟨?_, Kf⟩
     show (if insFault (k : Int) (x1 / 16) (x1 % 16) (x2) (0) false = 0 then _ else _)
     rw [HF.out, if_neg H0.out]
     rfl
theorem at_pairB (b off cap len : Nat) (a k : Nat) (h1 : 14 ≤ k) (h2 : k ≤ 14) (x0 x1 x2 : Int) (w : World) (hcap : len ≤ cap) (hmax : cap ≤ 9223372036854775807)
  (ha : a + 3 ≤ len) (y0 : w.cell? ⟨b, off + a, none⟩ = some (.int .u8 x0)) (y1 : w.cell? ⟨b, off + a + 1, none⟩ = some (.int .u8 x1)) (y2 : w.cell? ⟨b, off + a + 2, none⟩ = some (.int .u8 x2)) (l0 : 0 ≤ x0) (u0 : x0 < 256) (l1 : 0 ≤ x1) (u1 : x1 < 256) (l2 : 0 ≤ x2) (u2 : x2 < 256) (hk : refGo x0 25 = (k, false)) :
  Calls Tryd.prog 21 #[.slice (some ⟨b, off, none⟩) len cap, .int .i64 a] w (DecGives ⟨k, x1 / 16, x1 % 16, 0, num8 x2, false⟩ 3 w) := by
 have HC := Lib.hid (fun W => instrFault_any k (x1 / 16) (x1 % 16) (0) (num8 x2) false W)
 have HZ := Lib.hid (fun W => refSize_any k (by omega) (by omega) 0 0 0 0 false W)
 rw [show insSize k false = 3 by
  obtain rfl : k = 14 := by omega
  all_goals rfl] at HZ
 have HKK := Lib.hid hk
 have hbw : b < w.heap.size := lt_of_cell y0
 go_enter Tryd.func21, Tryd.ntmps21
 go_wp2_with (go_at_call 23; refine (in_yes _ _ _ _ (by omega) (by omega)).mono ?_; rintro e w' ⟨rfl, rfl⟩)
 obtain ⟨W, hW, hkW, hbR, hbI, hsW⟩ := two_blocks' w (.cells #[.int .i64 0, .int .i64 0, .int .i64 0, .int .i64 0, .int .i64 0, .bool false] 61) (.cells #[.int .i64 0, .int .i64 0, .int .i64 0, .int .i64 0, .int .i64 0, .bool false] 61)
 rw [← hW]
 clear hW
 go_loopw [8] (fun s8 wr => ∃ j : Nat, 1 ≤ j ∧ j ≤ 25 ∧ s8 = .int .i64 j ∧ Keeps w wr ∧ AtIn w.heap.size x0 j wr) (fun s8 _ => 25 - (intOf s8).toNat)
 case atStart => exact ⟨1, Nat.le_refl _, by omega, rfl, hkW, hbR, hbI⟩
 case round =>
  obtain ⟨j, hj1, hj2, rfl, hkw, hin⟩ := hrel
  have hbR := hin.1
  have hB0 := hin.2
  have g0 := hkw.cell y0
  have hzw := hkw.size
  by_cases hlt : j < 25
  ·have HO := Lib.hid (fun w => opOf_any j hj1 (by omega) w)
   have HS := Lib.hid (show refGo x0 (j + 1) = if hitB x0 j then (j, true) else if hitA x0 j then (j, (refGo x0 j).2) else refGo x0 j from rfl)
   obtain ⟨o1, o2, o3, o4⟩ := op_bounds j (by omega)
   have hA : hitA x0 j = (opT j == x0) := by unfold hitA; rw [decide_eq_true (by omega)]; rfl
   have hB : hitB x0 j = ((longT j != 0) && (longT j == x0)) := by unfold hitB; rw [decide_eq_true (by omega)]; rfl
   rw [hA, hB] at HS
   have i0 := hB0.cell (j := 0) rfl
   have i5 := hB0.cell (j := 5) rfl
   have f0 := hB0.thawed 0
   have f5 := hB0.thawed 5
   have hgi : w.heap.size ≤ w.heap.size + 1 := by omega
   have hne : w.heap.size ≠ w.heap.size + 1 := by omega
   have hbi : b ≠ w.heap.size + 1 := by omega
   have hlt1 := hB0.lt
   have HB0 := Lib.hid hB0
   have HBR := Lib.hid hbR
   have HK := Lib.hid hkw
   generalize opT j = x at *
   generalize longT j = y at *
   generalize hgg : w.heap.size + 1 = gi at *
   have HG := Lib.hid hgg
   clear hgg hA hB hin hB0 hbR hkw hkW hbI hk
   cases q1 : (x == x0) with
   | true =>
    cases q2 : (y != 0) with
    | true =>
     have q2' : decide (0 < y) = true := by simp at q2 ⊢; omega
     cases q3 : (y == x0) with
     | true =>
      go_wp2_with (go_at_call 52; refine (HO.out _).mono ?_; rintro e w' ⟨rfl, rfl⟩)
      go_roundw
      case rel => exact ⟨j + 1, by omega, by omega, by go_num, Keeps.setCell (Keeps.setCell (Keeps.setCell HK.out hgi _) hgi _) hgi _, atIn_of (j, true) HG.out (Blk.other (Blk.other (Blk.other HBR.out hne _ _) hne _ _) hne _ _) (((HB0.out.set 0 _).set 0 _).set 5 _) (by rw [HS.out, q1, q2, q3]; rfl)⟩
      case measure => simp [intOf]; omega
     | false =>
      go_wp2_with (go_at_call 52; refine (HO.out _).mono ?_; rintro e w' ⟨rfl, rfl⟩)
      go_roundw
      case rel => exact ⟨j + 1, by omega, by omega, by go_num, Keeps.setCell HK.out hgi _, atIn_of (j, (refGo x0 j).2) HG.out (Blk.other HBR.out hne _ _) (HB0.out.set 0 _) (by rw [HS.out, q1, q2, q3]; rfl)⟩
      case measure => simp [intOf]; omega
    | false =>
     have q2' : decide (0 < y) = false := by simp at q2 ⊢; omega
     go_wp2_with (go_at_call 52; refine (HO.out _).mono ?_; rintro e w' ⟨rfl, rfl⟩)
     go_roundw
     case rel => exact ⟨j + 1, by omega, by omega, by go_num, Keeps.setCell HK.out hgi _, atIn_of (j, (refGo x0 j).2) HG.out (Blk.other HBR.out hne _ _) (HB0.out.set 0 _) (by rw [HS.out, q1, q2]; rfl)⟩
     case measure => simp [intOf]; omega
   | false =>
    cases q2 : (y != 0) with
    | true =>
     have q2' : decide (0 < y) = true := by simp at q2 ⊢; omega
     cases q3 : (y == x0) with
     | true =>
      go_wp2_with (go_at_call 52; refine (HO.out _).mono ?_; rintro e w' ⟨rfl, rfl⟩)
      go_roundw
      case rel => exact ⟨j + 1, by omega, by omega, by go_num, Keeps.setCell (Keeps.setCell HK.out hgi _) hgi _, atIn_of (j, true) HG.out (Blk.other (Blk.other HBR.out hne _ _) hne _ _) ((HB0.out.set 0 _).set 5 _) (by rw [HS.out, q1, q2, q3]; rfl)⟩
      case measure => simp [intOf]; omega
     | false =>
      go_wp2_with (go_at_call 52; refine (HO.out _).mono ?_; rintro e w' ⟨rfl, rfl⟩)
      go_roundw
      case rel => exact ⟨j + 1, by omega, by omega, by go_num, HK.out, atIn_of (refGo x0 j) HG.out HBR.out HB0.out (by rw [HS.out, q1, q2, q3]; rfl)⟩
      case measure => simp [intOf]; omega
    | false =>
     have q2' : decide (0 < y) = false := by simp at q2 ⊢; omega
     go_wp2_with (go_at_call 52; refine (HO.out _).mono ?_; rintro e w' ⟨rfl, rfl⟩)
     go_roundw
     case rel => exact ⟨j + 1, by omega, by omega, by go_num, HK.out, atIn_of (refGo x0 j) HG.out HBR.out HB0.out (by rw [HS.out, q1, q2]; rfl)⟩
     case measure => simp [intOf]; omega
  ·obtain rfl : j = 25 := by omega
   have hBI : Blk wr (w.heap.size + 1) (.cells #[.int .i64 k, .int .i64 0, .int .i64 0, .int .i64 0, .int .i64 0, .bool false] 61) := by rw [HKK.out] at hB0; exact hB0
   have p1 := hkw.cell y1
   have p2 := hkw.cell y2
   have i0 := hBI.cell (j := 0) rfl
   have i1 := hBI.cell (j := 1) rfl
   have i2 := hBI.cell (j := 2) rfl
   have i3 := hBI.cell (j := 3) rfl
   have i4 := hBI.cell (j := 4) rfl
   have i5 := hBI.cell (j := 5) rfl
   have hbi' : b ≠ w.heap.size + 1 := by omega
   have hri : w.heap.size ≠ w.heap.size + 1 := by omega
   have hwi : w.heap.size ≤ w.heap.size + 1 := by omega
   have hgl := hBI.lt
   have HBI0 := Lib.hid hBI
   have HBR0 := Lib.hid hbR
   clear hin hB0 hBI hbR hkW hbI hsW HKK hk y0 g0
   generalize w.heap.size + 1 = gi at *
   go_wp2_with fail
   refine (HZ.out _).mono ?_
   rintro e w3 ⟨rfl, hk3⟩
   have p1 := hk3.cell p1
   have p2 := hk3.cell p2
   have i0 := hk3.cell i0
   have i1 := hk3.cell i1
   have i2 := hk3.cell i2
   have i3 := hk3.cell i3
   have i4 := hk3.cell i4
   have i5 := hk3.cell i5
   have HBI := Lib.hid (HBI0.out.keep hk3)
   have HBR := Lib.hid (HBR0.out.keep hk3)
   have hgl3 := HBI.out.lt
   have hkw3 := hkw.trans hk3
   have f1 := HBI.out.thawed 1
   have f2 := HBI.out.thawed 2
   have f3 := HBI.out.thawed 3
   have f4 := HBI.out.thawed 4
   have hbW : b < w3.heap.size := by omega
   clear hgl hbw hkw hk3 HBI0 HBR0 HZ hzw
   go_wp2_with (go_at_call 53; refine (signed_one _ _ _ x2 _ (Keeps.cell (by repeat (with_reducible (first | assumption | exact Keeps.refl _ | refine Keeps.alloc ?_ _ | refine Keeps.drew ?_ | refine Keeps.drewN ?_ _ | refine Keeps.setCell ?_ hwi _))) y2) l2 u2).mono ?_; rintro e w' ⟨rfl, rfl⟩)
   all_goals
    refine (HC.out _).mono ?_
    rintro e w5 ⟨rfl, hk5⟩
    have hB5 : Blk w5 gi (.cells #[.int .i64 k, .int .i64 (x1 / 16), .int .i64 (x1 % 16), .int .i64 (0), .int .i64 (num8 x2), .bool false] 61) := Blk.keep (by exact (((HBI.out).set 1 (.int .i64 (x1 / 16))).set 2 (.int .i64 (x1 % 16))).set 4 (.int .i64 (num8 x2))) hk5
    have hR5 : Blk w5 w.heap.size (.cells #[.int .i64 0, .int .i64 0, .int .i64 0, .int .i64 0, .int .i64 0, .bool false] 61) := Blk.keep (by first | exact Blk.other (Blk.other (Blk.other (HBR.out) hri _ _) hri _ _) hri _ _ | exact Blk.other (Blk.other (Blk.other (Blk.drew HBR.out) hri _ _) hri _ _) hri _ _) hk5
    have hkw5 : Keeps w w5 := Keeps.trans (by repeat (with_reducible (first | assumption | exact Keeps.refl _ | refine Keeps.alloc ?_ _ | refine Keeps.drew ?_ | refine Keeps.drewN ?_ _ | refine Keeps.setCell ?_ hwi _))) hk5
    have j0 := hB5.cell (j := 0) rfl
    have j1 := hB5.cell (j := 1) rfl
    have j2 := hB5.cell (j := 2) rfl
    have j3 := hB5.cell (j := 3) rfl
    have j4 := hB5.cell (j := 4) rfl
    have j5 := hB5.cell (j := 5) rfl
    have t0 := hR5.cell (j := 0) rfl
    have t1 := hR5.cell (j := 1) rfl
    have t2 := hR5.cell (j := 2) rfl
    have t3 := hR5.cell (j := 3) rfl
    have t4 := hR5.cell (j := 4) rfl
    have t5 := hR5.cell (j := 5) rfl
    have n0 := hR5.thawed 0
    have n1 := hR5.thawed 1
    have n2 := hR5.thawed 2
    have n3 := hR5.thawed 3
    have n4 := hR5.thawed 4
    have n5 := hR5.thawed 5
    have HR5 := Lib.hid hR5
    obtain ⟨F, hF⟩ : ∃ F, insFault (k : Int) (x1 / 16) (x1 % 16) (0) (num8 x2) false = F := ⟨_, rfl⟩
    rw [hF]
    have HF := Lib.hid hF
    clear hB5 hR5 hk5 hkw3 HC HBI HBR i0 i1 i2 i3 i4 i5 f1 f2 f3 f4 hF
    by_cases h0 : F = 0
    ·have q1 : (F == 0) = true := by simpa using h0
     have q2 : (F != 0) = false := by simpa using h0
     have H0 := Lib.hid h0
     clear h0
     go_wp2_with fail
     obtain ⟨wf, hwf⟩ : ∃ wf : World, wf = ((((((w5.setCell ⟨w.heap.size, 0, none⟩ (.int .i64 k)).setCell ⟨w.heap.size, 1, none⟩ (.int .i64 (x1 / 16))).setCell ⟨w.heap.size, 2, none⟩ (.int .i64 (x1 % 16))).setCell ⟨w.heap.size, 3, none⟩ (.int .i64 (0))).setCell ⟨w.heap.size, 4, none⟩ (.int .i64 (num8 x2))).setCell ⟨w.heap.size, 5, none⟩ (.bool false)) := ⟨_, rfl⟩
     rw [← hwf]
     have hBf : Blk wf w.heap.size (.cells #[.int .i64 k, .int .i64 (x1 / 16), .int .i64 (x1 % 16), .int .i64 (0), .int .i64 (num8 x2), .bool false] 61) := by
      rw [hwf]
      exact (((((HR5.out.set 0 _).set 1 _).set 2 _).set 3 _).set 4 _).set 5 _
     have Kf : Keeps w wf := by
      rw [hwf]
      exact Keeps.setCell (Keeps.setCell (Keeps.setCell (Keeps.setCell (Keeps.setCell (Keeps.setCell hkw5 (Nat.le_refl _) _) (Nat.le_refl _) _) (Nat.le_refl _) _) (Nat.le_refl _) _) (Nat.le_refl _) _) (Nat.le_refl _) _
     have a0 := hBf.cell (j := 0) rfl
     have a1 := hBf.cell (j := 1) rfl
     have a2 := hBf.cell (j := 2) rfl
     have a3 := hBf.cell (j := 3) rfl
     have a4 := hBf.cell (j := 4) rfl
     have a5 := hBf.cell (j := 5) rfl
     clear hwf hBf j0 j1 j2 j3 j4 j5 t0 t1 t2 t3 t4 t5 n0 n1 n2 n3 n4 n5
     refine bodyPost_ret (v := .tuple #[.agg #[.int .i64 k, .int .i64 (x1 / 16), .int .i64 (x1 % 16), .int .i64 (0), .int .i64 (num8 x2), .bool false], .int .i64 3, .int .i64 0]) (by simp [results, Tryd.results21, go_sem, a0, a1, a2, a3, a4, a5]) rfl ⟨?_, Kf⟩
     show (if insFault (k : Int) (x1 / 16) (x1 % 16) (0) (num8 x2) false = 0 then _ else _)
     rw [HF.out, if_pos H0.out]
     rfl
    ·have q1 : (F == 0) = false := by simpa using h0
     have q2 : (F != 0) = true := by simpa using h0
     have H0 := Lib.hid h0
     clear h0
     go_wp2_with fail
     obtain ⟨wf, hwf⟩ : ∃ wf : World, wf = ((((((w5.setCell ⟨w.heap.size, 0, none⟩ (.int .i64 0)).setCell ⟨w.heap.size, 1, none⟩ (.int .i64 0)).setCell ⟨w.heap.size, 2, none⟩ (.int .i64 0)).setCell ⟨w.heap.size, 3, none⟩ (.int .i64 0)).setCell ⟨w.heap.size, 4, none⟩ (.int .i64 0)).setCell ⟨w.heap.size, 5, none⟩ (.bool false)) := ⟨_, rfl⟩
     rw [← hwf]
     have hBf : Blk wf w.heap.size (.cells #[.int .i64 0, .int .i64 0, .int .i64 0, .int .i64 0, .int .i64 0, .bool false] 61) := by
      rw [hwf]
      exact (((((HR5.out.set 0 _).set 1 _).set 2 _).set 3 _).set 4 _).set 5 _
     have Kf : Keeps w wf := by
      rw [hwf]
      exact Keeps.setCell (Keeps.setCell (Keeps.setCell (Keeps.setCell (Keeps.setCell (Keeps.setCell hkw5 (Nat.le_refl _) _) (Nat.le_refl _) _) (Nat.le_refl _) _) (Nat.le_refl _) _) (Nat.le_refl _) _) (Nat.le_refl _) _
     have a0 := hBf.cell (j := 0) rfl
     have a1 := hBf.cell (j := 1) rfl
     have a2 := hBf.cell (j := 2) rfl
     have a3 := hBf.cell (j := 3) rfl
     have a4 := hBf.cell (j := 4) rfl
     have a5 := hBf.cell (j := 5) rfl
     clear hwf hBf j0 j1 j2 j3 j4 j5 t0 t1 t2 t3 t4 t5 n0 n1 n2 n3 n4 n5
     refine bodyPost_ret (v := .tuple #[.agg #[.int .i64 0, .int .i64 0, .int .i64 0, .int .i64 0, .int .i64 0, .bool false], .int .i64 0, .int .i64 4]) (by simp [results, Tryd.results21, go_sem, a0, a1, a2, a3, a4, a5]) rfl ⟨?_, Kf⟩
     show (if insFault (k : Int) (x1 / 16) (x1 % 16) (0) (num8 x2) false = 0 then _ else _)
     rw [HF.out, if_neg H0.out]
     rfl
theorem at_store (b off cap len : Nat) (a k : Nat) (h1 : 15 ≤ k) (h2 : k ≤ 15) (x0 x1 x2 : Int) (w : World) (hcap : len ≤ cap) (hmax : cap ≤ 9223372036854775807)
  (ha : a + 3 ≤ len) (y0 : w.cell? ⟨b, off + a, none⟩ = some (.int .u8 x0)) (y1 : w.cell? ⟨b, off + a + 1, none⟩ = some (.int .u8 x1)) (y2 : w.cell? ⟨b, off + a + 2, none⟩ = some (.int .u8 x2)) (l0 : 0 ≤ x0) (u0 : x0 < 256) (l1 : 0 ≤ x1) (u1 : x1 < 256) (l2 : 0 ≤ x2) (u2 : x2 < 256) (hk : refGo x0 25 = (k, false)) :
  Calls Tryd.prog 21 #[.slice (some ⟨b, off, none⟩) len cap, .int .i64 a] w (DecGives ⟨k, 0, x1 % 16, x1 / 16, num8 x2, false⟩ 3 w) := by
 have HC := Lib.hid (fun W => instrFault_any k (0) (x1 % 16) (x1 / 16) (num8 x2) false W)
 have HZ := Lib.hid (fun W => refSize_any k (by omega) (by omega) 0 0 0 0 false W)
 rw [show insSize k false = 3 by
  obtain rfl : k = 15 := by omega
  all_goals rfl] at HZ
 have HKK := Lib.hid hk
 have hbw : b < w.heap.size := lt_of_cell y0
 go_enter Tryd.func21, Tryd.ntmps21
 go_wp2_with (go_at_call 23; refine (in_yes _ _ _ _ (by omega) (by omega)).mono ?_; rintro e w' ⟨rfl, rfl⟩)
 obtain ⟨W, hW, hkW, hbR, hbI, hsW⟩ := two_blocks' w (.cells #[.int .i64 0, .int .i64 0, .int .i64 0, .int .i64 0, .int .i64 0, .bool false] 61) (.cells #[.int .i64 0, .int .i64 0, .int .i64 0, .int .i64 0, .int .i64 0, .bool false] 61)
 rw [← hW]
 clear hW
 go_loopw [8] (fun s8 wr => ∃ j : Nat, 1 ≤ j ∧ j ≤ 25 ∧ s8 = .int .i64 j ∧ Keeps w wr ∧ AtIn w.heap.size x0 j wr) (fun s8 _ => 25 - (intOf s8).toNat)
 case atStart => exact ⟨1, Nat.le_refl _, by omega, rfl, hkW, hbR, hbI⟩
 case round =>
  obtain ⟨j, hj1, hj2, rfl, hkw, hin⟩ := hrel
  have hbR := hin.1
  have hB0 := hin.2
  have g0 := hkw.cell y0
  have hzw := hkw.size
  by_cases hlt : j < 25
  ·have HO := Lib.hid (fun w => opOf_any j hj1 (by omega) w)
   have HS := Lib.hid (show refGo x0 (j + 1) = if hitB x0 j then (j, true) else if hitA x0 j then (j, (refGo x0 j).2) else refGo x0 j from rfl)
   obtain ⟨o1, o2, o3, o4⟩ := op_bounds j (by omega)
   have hA : hitA x0 j = (opT j == x0) := by unfold hitA; rw [decide_eq_true (by omega)]; rfl
   have hB : hitB x0 j = ((longT j != 0) && (longT j == x0)) := by unfold hitB; rw [decide_eq_true (by omega)]; rfl
   rw [hA, hB] at HS
   have i0 := hB0.cell (j := 0) rfl
   have i5 := hB0.cell (j := 5) rfl
   have f0 := hB0.thawed 0
   have f5 := hB0.thawed 5
   have hgi : w.heap.size ≤ w.heap.size + 1 := by omega
   have hne : w.heap.size ≠ w.heap.size + 1 := by omega
   have hbi : b ≠ w.heap.size + 1 := by omega
   have hlt1 := hB0.lt
   have HB0 := Lib.hid hB0
   have HBR := Lib.hid hbR
   have HK := Lib.hid hkw
   generalize opT j = x at *
   generalize longT j = y at *
   generalize hgg : w.heap.size + 1 = gi at *
   have HG := Lib.hid hgg
   clear hgg hA hB hin hB0 hbR hkw hkW hbI hk
   cases q1 : (x == x0) with
   | true =>
    cases q2 : (y != 0) with
    | true =>
     have q2' : decide (0 < y) = true := by simp at q2 ⊢; omega
     cases q3 : (y == x0) with
     | true =>
      go_wp2_with (go_at_call 52; refine (HO.out _).mono ?_; rintro e w' ⟨rfl, rfl⟩)
      go_roundw
      case rel => exact ⟨j + 1, by omega, by omega, by go_num, Keeps.setCell (Keeps.setCell (Keeps.setCell HK.out hgi _) hgi _) hgi _, atIn_of (j, true) HG.out (Blk.other (Blk.other (Blk.other HBR.out hne _ _) hne _ _) hne _ _) (((HB0.out.set 0 _).set 0 _).set 5 _) (by rw [HS.out, q1, q2, q3]; rfl)⟩
      case measure => simp [intOf]; omega
     | false =>
      go_wp2_with (go_at_call 52; refine (HO.out _).mono ?_; rintro e w' ⟨rfl, rfl⟩)
      go_roundw
      case rel => exact ⟨j + 1, by omega, by omega, by go_num, Keeps.setCell HK.out hgi _, atIn_of (j, (refGo x0 j).2) HG.out (Blk.other HBR.out hne _ _) (HB0.out.set 0 _) (by rw [HS.out, q1, q2, q3]; rfl)⟩
      case measure => simp [intOf]; omega
    | false =>
     have q2' : decide (0 < y) = false := by simp at q2 ⊢; omega
     go_wp2_with (go_at_call 52; refine (HO.out _).mono ?_; rintro e w' ⟨rfl, rfl⟩)
     go_roundw
     case rel => exact ⟨j + 1, by omega, by omega, by go_num, Keeps.setCell HK.out hgi _, atIn_of (j, (refGo x0 j).2) HG.out (Blk.other HBR.out hne _ _) (HB0.out.set 0 _) (by rw [HS.out, q1, q2]; rfl)⟩
     case measure => simp [intOf]; omega
   | false =>
    cases q2 : (y != 0) with
    | true =>
     have q2' : decide (0 < y) = true := by simp at q2 ⊢; omega
     cases q3 : (y == x0) with
     | true =>
      go_wp2_with (go_at_call 52; refine (HO.out _).mono ?_; rintro e w' ⟨rfl, rfl⟩)
      go_roundw
      case rel => exact ⟨j + 1, by omega, by omega, by go_num, Keeps.setCell (Keeps.setCell HK.out hgi _) hgi _, atIn_of (j, true) HG.out (Blk.other (Blk.other HBR.out hne _ _) hne _ _) ((HB0.out.set 0 _).set 5 _) (by rw [HS.out, q1, q2, q3]; rfl)⟩
      case measure => simp [intOf]; omega
     | false =>
      go_wp2_with (go_at_call 52; refine (HO.out _).mono ?_; rintro e w' ⟨rfl, rfl⟩)
      go_roundw
      case rel => exact ⟨j + 1, by omega, by omega, by go_num, HK.out, atIn_of (refGo x0 j) HG.out HBR.out HB0.out (by rw [HS.out, q1, q2, q3]; rfl)⟩
      case measure => simp [intOf]; omega
    | false =>
     have q2' : decide (0 < y) = false := by simp at q2 ⊢; omega
     go_wp2_with (go_at_call 52; refine (HO.out _).mono ?_; rintro e w' ⟨rfl, rfl⟩)
     go_roundw
     case rel => exact ⟨j + 1, by omega, by omega, by go_num, HK.out, atIn_of (refGo x0 j) HG.out HBR.out HB0.out (by rw [HS.out, q1, q2]; rfl)⟩
     case measure => simp [intOf]; omega
  ·obtain rfl : j = 25 := by omega
   have hBI : Blk wr (w.heap.size + 1) (.cells #[.int .i64 k, .int .i64 0, .int .i64 0, .int .i64 0, .int .i64 0, .bool false] 61) := by rw [HKK.out] at hB0; exact hB0
   have p1 := hkw.cell y1
   have p2 := hkw.cell y2
   have i0 := hBI.cell (j := 0) rfl
   have i1 := hBI.cell (j := 1) rfl
   have i2 := hBI.cell (j := 2) rfl
   have i3 := hBI.cell (j := 3) rfl
   have i4 := hBI.cell (j := 4) rfl
   have i5 := hBI.cell (j := 5) rfl
   have hbi' : b ≠ w.heap.size + 1 := by omega
   have hri : w.heap.size ≠ w.heap.size + 1 := by omega
   have hwi : w.heap.size ≤ w.heap.size + 1 := by omega
   have hgl := hBI.lt
   have HBI0 := Lib.hid hBI
   have HBR0 := Lib.hid hbR
   clear hin hB0 hBI hbR hkW hbI hsW HKK hk y0 g0
   generalize w.heap.size + 1 = gi at *
   go_wp2_with fail
   refine (HZ.out _).mono ?_
   rintro e w3 ⟨rfl, hk3⟩
   have p1 := hk3.cell p1
   have p2 := hk3.cell p2
   have i0 := hk3.cell i0
   have i1 := hk3.cell i1
   have i2 := hk3.cell i2
   have i3 := hk3.cell i3
   have i4 := hk3.cell i4
   have i5 := hk3.cell i5
   have HBI := Lib.hid (HBI0.out.keep hk3)
   have HBR := Lib.hid (HBR0.out.keep hk3)
   have hgl3 := HBI.out.lt
   have hkw3 := hkw.trans hk3
   have f1 := HBI.out.thawed 1
   have f2 := HBI.out.thawed 2
   have f3 := HBI.out.thawed 3
   have f4 := HBI.out.thawed 4
   have hbW : b < w3.heap.size := by omega
   clear hgl hbw hkw hk3 HBI0 HBR0 HZ hzw
   go_wp2_with (go_at_call 53; refine (signed_one _ _ _ x2 _ (Keeps.cell (by repeat (with_reducible (first | assumption | exact Keeps.refl _ | refine Keeps.alloc ?_ _ | refine Keeps.drew ?_ | refine Keeps.drewN ?_ _ | refine Keeps.setCell ?_ hwi _))) y2) l2 u2).mono ?_; rintro e w' ⟨rfl, rfl⟩)
   all_goals
    refine (HC.out _).mono ?_
    rintro e w5 ⟨rfl, hk5⟩
    have hB5 : Blk w5 gi (.cells #[.int .i64 k, .int .i64 (0), .int .i64 (x1 % 16), .int .i64 (x1 / 16), .int .i64 (num8 x2), .bool false] 61) := Blk.keep (by exact (((HBI.out).set 3 (.int .i64 (x1 / 16))).set 2 (.int .i64 (x1 % 16))).set 4 (.int .i64 (num8 x2))) hk5
    have hR5 : Blk w5 w.heap.size (.cells #[.int .i64 0, .int .i64 0, .int .i64 0, .int .i64 0, .int .i64 0, .bool false] 61) := Blk.keep (by first | exact Blk.other (Blk.other (Blk.other (HBR.out) hri _ _) hri _ _) hri _ _ | exact Blk.other (Blk.other (Blk.other (Blk.drew HBR.out) hri _ _) hri _ _) hri _ _) hk5
    have hkw5 : Keeps w w5 := Keeps.trans (by repeat (with_reducible (first | assumption | exact Keeps.refl _ | refine Keeps.alloc ?_ _ | refine Keeps.drew ?_ | refine Keeps.drewN ?_ _ | refine Keeps.setCell ?_ hwi _))) hk5
    have j0 := hB5.cell (j := 0) rfl
    have j1 := hB5.cell (j := 1) rfl
    have j2 := hB5.cell (j := 2) rfl
    have j3 := hB5.cell (j := 3) rfl
    have j4 := hB5.cell (j := 4) rfl
    have j5 := hB5.cell (j := 5) rfl
    have t0 := hR5.cell (j := 0) rfl
    have t1 := hR5.cell (j := 1) rfl
    have t2 := hR5.cell (j := 2) rfl
    have t3 := hR5.cell (j := 3) rfl
    have t4 := hR5.cell (j := 4) rfl
    have t5 := hR5.cell (j := 5) rfl
    have n0 := hR5.thawed 0
    have n1 := hR5.thawed 1
    have n2 := hR5.thawed 2
    have n3 := hR5.thawed 3
    have n4 := hR5.thawed 4
    have n5 := hR5.thawed 5
    have HR5 := Lib.hid hR5
    obtain ⟨F, hF⟩ : ∃ F, insFault (k : Int) (0) (x1 % 16) (x1 / 16) (num8 x2) false = F := ⟨_, rfl⟩
    rw [hF]
    have HF := Lib.hid hF
    clear hB5 hR5 hk5 hkw3 HC HBI HBR i0 i1 i2 i3 i4 i5 f1 f2 f3 f4 hF
    by_cases h0 : F = 0
    ·have q1 : (F == 0) = true := by simpa using h0
     have q2 : (F != 0) = false := by simpa using h0
     have H0 := Lib.hid h0
     clear h0
     go_wp2_with fail
     obtain ⟨wf, hwf⟩ : ∃ wf : World, wf = ((((((w5.setCell ⟨w.heap.size, 0, none⟩ (.int .i64 k)).setCell ⟨w.heap.size, 1, none⟩ (.int .i64 (0))).setCell ⟨w.heap.size, 2, none⟩ (.int .i64 (x1 % 16))).setCell ⟨w.heap.size, 3, none⟩ (.int .i64 (x1 / 16))).setCell ⟨w.heap.size, 4, none⟩ (.int .i64 (num8 x2))).setCell ⟨w.heap.size, 5, none⟩ (.bool false)) := ⟨_, rfl⟩
     rw [← hwf]
     have hBf : Blk wf w.heap.size (.cells #[.int .i64 k, .int .i64 (0), .int .i64 (x1 % 16), .int .i64 (x1 / 16), .int .i64 (num8 x2), .bool false] 61) := by
      rw [hwf]
      exact (((((HR5.out.set 0 _).set 1 _).set 2 _).set 3 _).set 4 _).set 5 _
     have Kf : Keeps w wf := by
      rw [hwf]
      exact Keeps.setCell (Keeps.setCell (Keeps.setCell (Keeps.setCell (Keeps.setCell (Keeps.setCell hkw5 (Nat.le_refl _) _) (Nat.le_refl _) _) (Nat.le_refl _) _) (Nat.le_refl _) _) (Nat.le_refl _) _) (Nat.le_refl _) _
     have a0 := hBf.cell (j := 0) rfl
     have a1 := hBf.cell (j := 1) rfl
     have a2 := hBf.cell (j := 2) rfl
     have a3 := hBf.cell (j := 3) rfl
     have a4 := hBf.cell (j := 4) rfl
     have a5 := hBf.cell (j := 5) rfl
     clear hwf hBf j0 j1 j2 j3 j4 j5 t0 t1 t2 t3 t4 t5 n0 n1 n2 n3 n4 n5
     refine bodyPost_ret (v := .tuple #[.agg #[.int .i64 k, .int .i64 (0), .int .i64 (x1 % 16), .int .i64 (x1 / 16), .int .i64 (num8 x2), .bool false], .int .i64 3, .int .i64 0]) (by simp [results, Tryd.results21, go_sem, a0, a1, a2, a3, a4, a5]) rfl ⟨?_, Kf⟩
     show (if insFault (k : Int) (0) (x1 % 16) (x1 / 16) (num8 x2) false = 0 then _ else _)
     rw [HF.out, if_pos H0.out]
     rfl
    ·have q1 : (F == 0) = false := by simpa using h0
     have q2 : (F != 0) = true := by simpa using h0
     have H0 := Lib.hid h0
     clear h0
     go_wp2_with fail
     obtain ⟨wf, hwf⟩ : ∃ wf : World, wf = ((((((w5.setCell ⟨w.heap.size, 0, none⟩ (.int .i64 0)).setCell ⟨w.heap.size, 1, none⟩ (.int .i64 0)).setCell ⟨w.heap.size, 2, none⟩ (.int .i64 0)).setCell ⟨w.heap.size, 3, none⟩ (.int .i64 0)).setCell ⟨w.heap.size, 4, none⟩ (.int .i64 0)).setCell ⟨w.heap.size, 5, none⟩ (.bool false)) := ⟨_, rfl⟩
     rw [← hwf]
     have hBf : Blk wf w.heap.size (.cells #[.int .i64 0, .int .i64 0, .int .i64 0, .int .i64 0, .int .i64 0, .bool false] 61) := by
      rw [hwf]
      exact (((((HR5.out.set 0 _).set 1 _).set 2 _).set 3 _).set 4 _).set 5 _
     have Kf : Keeps w wf := by
      rw [hwf]
      exact Keeps.setCell (Keeps.setCell (Keeps.setCell (Keeps.setCell (Keeps.setCell (Keeps.setCell hkw5 (Nat.le_refl _) _) (Nat.le_refl _) _) (Nat.le_refl _) _) (Nat.le_refl _) _) (Nat.le_refl _) _) (Nat.le_refl _) _
     have a0 := hBf.cell (j := 0) rfl
     have a1 := hBf.cell (j := 1) rfl
     have a2 := hBf.cell (j := 2) rfl
     have a3 := hBf.cell (j := 3) rfl
     have a4 := hBf.cell (j := 4) rfl
     have a5 := hBf.cell (j := 5) rfl
     clear hwf hBf j0 j1 j2 j3 j4 j5 t0 t1 t2 t3 t4 t5 n0 n1 n2 n3 n4 n5
     refine bodyPost_ret (v := .tuple #[.agg #[.int .i64 0, .int .i64 0, .int .i64 0, .int .i64 0, .int .i64 0, .bool false], .int .i64 0, .int .i64 4]) (by simp [results, Tryd.results21, go_sem, a0, a1, a2, a3, a4, a5]) rfl ⟨?_, Kf⟩
     show (if insFault (k : Int) (0) (x1 % 16) (x1 / 16) (num8 x2) false = 0 then _ else _)
     rw [HF.out, if_neg H0.out]
     rfl
end Go.Proofs.YtnekiooaobnndaaDoor
