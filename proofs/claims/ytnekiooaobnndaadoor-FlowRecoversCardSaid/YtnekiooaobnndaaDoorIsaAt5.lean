/-
 The document's InstrAt, the errors' ways.
-/
import Derived.Test.YtnekiooaobnndaaDoorIsaAt1
import Derived.IntWalk
import Derived.Deep.DeepCutAuto
set_option linter.all false
namespace Go.Proofs.YtnekiooaobnndaaDoor
open Go.RowKit BH
set_option maxHeartbeats 4000000
set_option maxRecDepth 100000
/-- an address outside -/
theorem at_out (ad : Option Addr) (len cap : Nat) (a : Int) (w : World) (hl : len ≤ 140737488355328) (h : a < 0 ∨ (len : Int) ≤ a) :
  Calls Tryd.prog 21 #[.slice ad len cap, .int .i64 a] w fun e w' => e = .returned (.tuple #[zeroIns.v, .int .i64 0, .int .i64 2]) ∧ Keeps w w' := by
 go_enter Tryd.func21, Tryd.ntmps21
 go_wp2_with (go_at_call 23; refine (in_no _ _ _ _ (by omega)).mono ?_; rintro e w' ⟨rfl, rfl⟩)
 exact bodyPost_ret (v := .tuple #[.agg #[.int .i64 0, .int .i64 0, .int .i64 0, .int .i64 0, .int .i64 0, .bool false], .int .i64 0, .int .i64 2]) (by simp [results, Tryd.results21, go_sem]) rfl ⟨rfl, (Keeps.refl _).alloc _⟩
/-- no kind has the operator -/
theorem at_nokind (b off cap len : Nat) (a : Nat) (x0 : Int) (lg : Bool) (w : World) (hcap : len ≤ cap) (hmax : cap ≤ 9223372036854775807)
  (ha : a + 1 ≤ len) (y0 : w.cell? ⟨b, off + a, none⟩ = some (.int .u8 x0)) (l0 : 0 ≤ x0) (u0 : x0 < 256) (hk : refGo x0 25 = (0, lg)) :
  Calls Tryd.prog 21 #[.slice (some ⟨b, off, none⟩) len cap, .int .i64 a] w fun e w' => e = .returned (.tuple #[zeroIns.v, .int .i64 0, .int .i64 3]) ∧ Keeps w w' := by
 have HKK := Lib.hid hk
 have hbw : b < w.heap.size := lt_of_cell y0
 go_enter Tryd.func21, Tryd.ntmps21
 go_wp2_with (go_at_call 23; refine (in_yes _ _ _ _ (by omega) (by omega)).mono ?_; rintro e w' ⟨rfl, rfl⟩)
 obtain ⟨W, hW, hkW, hbR, hbI, hsW⟩ := two_blocks' w (.cells #[.int .i64 0, .int .i64 0, .int .i64 0, .int .i64 0, .int .i64 0, .bool false] 61) (.cells #[.int .i64 0, .int .i64 0, .int .i64 0, .int .i64 0, .int .i64 0, .bool false] 61)
 rw [← hW]
 clear hW
 go_loopw [8] (fun s8 wr => ∃ j : Nat, 1 ≤ j ∧ j ≤ 25 ∧ s8 = .int .i64 j ∧ Keeps w wr ∧ AtIn w.heap.size x0 j wr) (fun s8 _ => 25 - (intOf s8).toNat)
 case atStart => exact ⟨1, Nat.le_refl _, by omega, rfl, hkW, hbR, hbI⟩
 case round =>
  obtain ⟨j, hj1, hj2, rfl, hkw, hin⟩ := hrel
  have hbR := hin.1
  have hB0 := hin.2
  have g0 := hkw.cell y0
  have hzw := hkw.size
  by_cases hlt : j < 25
  ·have HO := Lib.hid (fun w => opOf_any j hj1 (by omega) w)
   have HS := Lib.hid (show refGo x0 (j + 1) = if hitB x0 j then (j, true) else if hitA x0 j then (j, (refGo x0 j).2) else refGo x0 j from rfl)
   obtain ⟨o1, o2, o3, o4⟩ := op_bounds j (by omega)
   have hA : hitA x0 j = (opT j == x0) := by unfold hitA; rw [decide_eq_true (by omega)]; rfl
   have hB : hitB x0 j = ((longT j != 0) && (longT j == x0)) := by unfold hitB; rw [decide_eq_true (by omega)]; rfl
   rw [hA, hB] at HS
   have i0 := hB0.cell (j := 0) rfl
   have i5 := hB0.cell (j := 5) rfl
   have f0 := hB0.thawed 0
   have f5 := hB0.thawed 5
   have hgi : w.heap.size ≤ w.heap.size + 1 := by omega
   have hne : w.heap.size ≠ w.heap.size + 1 := by omega
   have hbi : b ≠ w.heap.size + 1 := by omega
   have hlt1 := hB0.lt
   have HB0 := Lib.hid hB0
   have HBR := Lib.hid hbR
   have HK := Lib.hid hkw
   generalize opT j = x at *
   generalize longT j = y at *
   generalize hgg : w.heap.size + 1 = gi at *
   have HG := Lib.hid hgg
   clear hgg hA hB hin hB0 hbR hkw hkW hbI hk
   cases q1 : (x == x0) with
   | true =>
    cases q2 : (y != 0) with
    | true =>
     have q2' : decide (0 < y) = true := by simp at q2 ⊢; omega
     cases q3 : (y == x0) with
     | true =>
      go_wp2_with (go_at_call 52; refine (HO.out _).mono ?_; rintro e w' ⟨rfl, rfl⟩)
      go_roundw
      case rel => exact ⟨j + 1, by omega, by omega, by go_num, Keeps.setCell (Keeps.setCell (Keeps.setCell HK.out hgi _) hgi _) hgi _, atIn_of (j, true) HG.out (Blk.other (Blk.other (Blk.other HBR.out hne _ _) hne _ _) hne _ _) (((HB0.out.set 0 _).set 0 _).set 5 _) (by rw [HS.out, q1, q2, q3]; rfl)⟩
      case measure => simp [intOf]; omega
     | false =>
      go_wp2_with (go_at_call 52; refine (HO.out _).mono ?_; rintro e w' ⟨rfl, rfl⟩)
      go_roundw
      case rel => exact ⟨j + 1, by omega, by omega, by go_num, Keeps.setCell HK.out hgi _, atIn_of (j, (refGo x0 j).2) HG.out (Blk.other HBR.out hne _ _) (HB0.out.set 0 _) (by rw [HS.out, q1, q2, q3]; rfl)⟩
      case measure => simp [intOf]; omega
    | false =>
     have q2' : decide (0 < y) = false := by simp at q2 ⊢; omega
     go_wp2_with (go_at_call 52; refine (HO.out _).mono ?_; rintro e w' ⟨rfl, rfl⟩)
     go_roundw
     case rel => exact ⟨j + 1, by omega, by omega, by go_num, Keeps.setCell HK.out hgi _, atIn_of (j, (refGo x0 j).2) HG.out (Blk.other HBR.out hne _ _) (HB0.out.set 0 _) (by rw [HS.out, q1, q2]; rfl)⟩
     case measure => simp [intOf]; omega
   | false =>
    cases q2 : (y != 0) with
    | true =>
     have q2' : decide (0 < y) = true := by simp at q2 ⊢; omega
     cases q3 : (y == x0) with
     | true =>
      go_wp2_with (go_at_call 52; refine (HO.out _).mono ?_; rintro e w' ⟨rfl, rfl⟩)
      go_roundw
      case rel => exact ⟨j + 1, by omega, by omega, by go_num, Keeps.setCell (Keeps.setCell HK.out hgi _) hgi _, atIn_of (j, true) HG.out (Blk.other (Blk.other HBR.out hne _ _) hne _ _) ((HB0.out.set 0 _).set 5 _) (by rw [HS.out, q1, q2, q3]; rfl)⟩
      case measure => simp [intOf]; omega
     | false =>
      go_wp2_with (go_at_call 52; refine (HO.out _).mono ?_; rintro e w' ⟨rfl, rfl⟩)
      go_roundw
      case rel => exact ⟨j + 1, by omega, by omega, by go_num, HK.out, atIn_of (refGo x0 j) HG.out HBR.out HB0.out (by rw [HS.out, q1, q2, q3]; rfl)⟩
      case measure => simp [intOf]; omega
    | false =>
     have q2' : decide (0 < y) = false := by simp at q2 ⊢; omega
     go_wp2_with (go_at_call 52; refine (HO.out _).mono ?_; rintro e w' ⟨rfl, rfl⟩)
     go_roundw
     case rel => exact ⟨j + 1, by omega, by omega, by go_num, HK.out, atIn_of (refGo x0 j) HG.out HBR.out HB0.out (by rw [HS.out, q1, q2]; rfl)⟩
     case measure => simp [intOf]; omega
  ·obtain rfl : j = 25 := by omega
   have hBI : Blk wr (w.heap.size + 1) (.cells #[.int .i64 0, .int .i64 0, .int .i64 0, .int .i64 0, .int .i64 0, .bool lg] 61) := by rw [HKK.out] at hB0; exact hB0
   have i0 := hBI.cell (j := 0) rfl
   have a0 := hbR.cell (j := 0) rfl
   have a1 := hbR.cell (j := 1) rfl
   have a2 := hbR.cell (j := 2) rfl
   have a3 := hbR.cell (j := 3) rfl
   have a4 := hbR.cell (j := 4) rfl
   have a5 := hbR.cell (j := 5) rfl
   have n0 := hbR.thawed 0
   have n1 := hbR.thawed 1
   have n2 := hbR.thawed 2
   have n3 := hbR.thawed 3
   have n4 := hbR.thawed 4
   have n5 := hbR.thawed 5
   have hgl := hbR.lt
   have HBR := Lib.hid hbR
   clear hin hB0 hBI hbR hkW hbI hsW HKK hk y0 g0
   go_wp2_with fail
   obtain ⟨wf, hwf⟩ : ∃ wf : World, wf = ((((((wr.setCell ⟨w.heap.size, 0, none⟩ (.int .i64 0)).setCell ⟨w.heap.size, 1, none⟩ (.int .i64 0)).setCell ⟨w.heap.size, 2, none⟩ (.int .i64 0)).setCell ⟨w.heap.size, 3, none⟩ (.int .i64 0)).setCell ⟨w.heap.size, 4, none⟩ (.int .i64 0)).setCell ⟨w.heap.size, 5, none⟩ (.bool false)) := ⟨_, rfl⟩
   rw [← hwf]
   have hBf : Blk wf w.heap.size (.cells #[.int .i64 0, .int .i64 0, .int .i64 0, .int .i64 0, .int .i64 0, .bool false] 61) := by
    rw [hwf]
    exact (((((HBR.out.set 0 _).set 1 _).set 2 _).set 3 _).set 4 _).set 5 _
   have Kf : Keeps w wf := by
    rw [hwf]
    exact Keeps.setCell (Keeps.setCell (Keeps.setCell (Keeps.setCell (Keeps.setCell (Keeps.setCell hkw (Nat.le_refl _) _) (Nat.le_refl _) _) (Nat.le_refl _) _) (Nat.le_refl _) _) (Nat.le_refl _) _) (Nat.le_refl _) _
   have b0 := hBf.cell (j := 0) rfl
   have b1 := hBf.cell (j := 1) rfl
   have b2 := hBf.cell (j := 2) rfl
   have b3 := hBf.cell (j := 3) rfl
   have b4 := hBf.cell (j := 4) rfl
   have b5 := hBf.cell (j := 5) rfl
   clear hwf hBf a0 a1 a2 a3 a4 a5 n0 n1 n2 n3 n4 n5
   exact bodyPost_ret (v := .tuple #[.agg #[.int .i64 0, .int .i64 0, .int .i64 0, .int .i64 0, .int .i64 0, .bool false], .int .i64 0, .int .i64 3]) (by simp [results, Tryd.results21, go_sem, b0, b1, b2, b3, b4, b5]) rfl ⟨rfl, Kf⟩
/-- the bytes end too early -/
theorem at_short (b off cap len : Nat) (a k : Nat) (lg : Bool) (h1 : 1 ≤ k) (h2 : k ≤ 24) (x0 : Int) (w : World) (_hcap : len ≤ cap) (_hmax : cap ≤ 9223372036854775807) (hl : len ≤ 140737488355328)
  (ha : a + 1 ≤ len) (hsh : (len : Int) < a + insSize k lg) (y0 : w.cell? ⟨b, off + a, none⟩ = some (.int .u8 x0)) (l0 : 0 ≤ x0) (u0 : x0 < 256) (hk : refGo x0 25 = (k, lg)) :
  Calls Tryd.prog 21 #[.slice (some ⟨b, off, none⟩) len cap, .int .i64 a] w fun e w' => e = .returned (.tuple #[zeroIns.v, .int .i64 0, .int .i64 5]) ∧ Keeps w w' := by
 have HZ := Lib.hid (fun W => refSize_any k h1 h2 0 0 0 0 lg W)
 have hzb : 0 ≤ insSize k lg ∧ insSize k lg ≤ 5 := by
  have := sizeT_bd (shapeN k) (shapeN_eq k h2).2
  unfold insSize
  cases lg <;> simp <;> omega
 generalize insSize k lg = z at *
 obtain ⟨zb1, zb2⟩ := hzb
 have hk0 : ((k : Int) == 0) = false := by rw [beq_eq_false_iff_ne]; omega
 have HKK := Lib.hid hk
 have hbw : b < w.heap.size := lt_of_cell y0
 go_enter Tryd.func21, Tryd.ntmps21
 go_wp2_with (go_at_call 23; refine (in_yes _ _ _ _ (by omega) (by omega)).mono ?_; rintro e w' ⟨rfl, rfl⟩)
 obtain ⟨W, hW, hkW, hbR, hbI, hsW⟩ := two_blocks' w (.cells #[.int .i64 0, .int .i64 0, .int .i64 0, .int .i64 0, .int .i64 0, .bool false] 61) (.cells #[.int .i64 0, .int .i64 0, .int .i64 0, .int .i64 0, .int .i64 0, .bool false] 61)
 rw [← hW]
 clear hW
 go_loopw [8] (fun s8 wr => ∃ j : Nat, 1 ≤ j ∧ j ≤ 25 ∧ s8 = .int .i64 j ∧ Keeps w wr ∧ AtIn w.heap.size x0 j wr) (fun s8 _ => 25 - (intOf s8).toNat)
 case atStart => exact ⟨1, Nat.le_refl _, by omega, rfl, hkW, hbR, hbI⟩
 case round =>
  obtain ⟨j, hj1, hj2, rfl, hkw, hin⟩ := hrel
  have hbR := hin.1
  have hB0 := hin.2
  have g0 := hkw.cell y0
  have hzw := hkw.size
  by_cases hlt : j < 25
  ·have HO := Lib.hid (fun w => opOf_any j hj1 (by omega) w)
   have HS := Lib.hid (show refGo x0 (j + 1) = if hitB x0 j then (j, true) else if hitA x0 j then (j, (refGo x0 j).2) else refGo x0 j from rfl)
   obtain ⟨o1, o2, o3, o4⟩ := op_bounds j (by omega)
   have hA : hitA x0 j = (opT j == x0) := by unfold hitA; rw [decide_eq_true (by omega)]; rfl
   have hB : hitB x0 j = ((longT j != 0) && (longT j == x0)) := by unfold hitB; rw [decide_eq_true (by omega)]; rfl
   rw [hA, hB] at HS
   have i0 := hB0.cell (j := 0) rfl
   have i5 := hB0.cell (j := 5) rfl
   have f0 := hB0.thawed 0
   have f5 := hB0.thawed 5
   have hgi : w.heap.size ≤ w.heap.size + 1 := by omega
   have hne : w.heap.size ≠ w.heap.size + 1 := by omega
   have hbi : b ≠ w.heap.size + 1 := by omega
   have hlt1 := hB0.lt
   have HB0 := Lib.hid hB0
   have HBR := Lib.hid hbR
   have HK := Lib.hid hkw
   generalize opT j = x at *
   generalize longT j = y at *
   generalize hgg : w.heap.size + 1 = gi at *
   have HG := Lib.hid hgg
   clear hgg hA hB hin hB0 hbR hkw hkW hbI hk
   cases q1 : (x == x0) with
   | true =>
    cases q2 : (y != 0) with
    | true =>
     have q2' : decide (0 < y) = true := by simp at q2 ⊢; omega
     cases q3 : (y == x0) with
     | true =>
      go_wp2_with (go_at_call 52; refine (HO.out _).mono ?_; rintro e w' ⟨rfl, rfl⟩)
      go_roundw
      case rel => exact ⟨j + 1, by omega, by omega, by go_num, Keeps.setCell (Keeps.setCell (Keeps.setCell HK.out hgi _) hgi _) hgi _, atIn_of (j, true) HG.out (Blk.other (Blk.other (Blk.other HBR.out hne _ _) hne _ _) hne _ _) (((HB0.out.set 0 _).set 0 _).set 5 _) (by rw [HS.out, q1, q2, q3]; rfl)⟩
      case measure => simp [intOf]; omega
     | false =>
      go_wp2_with (go_at_call 52; refine (HO.out _).mono ?_; rintro e w' ⟨rfl, rfl⟩)
      go_roundw
      case rel => exact ⟨j + 1, by omega, by omega, by go_num, Keeps.setCell HK.out hgi _, atIn_of (j, (refGo x0 j).2) HG.out (Blk.other HBR.out hne _ _) (HB0.out.set 0 _) (by rw [HS.out, q1, q2, q3]; rfl)⟩
      case measure => simp [intOf]; omega
    | false =>
     have q2' : decide (0 < y) = false := by simp at q2 ⊢; omega
     go_wp2_with (go_at_call 52; refine (HO.out _).mono ?_; rintro e w' ⟨rfl, rfl⟩)
     go_roundw
     case rel => exact ⟨j + 1, by omega, by omega, by go_num, Keeps.setCell HK.out hgi _, atIn_of (j, (refGo x0 j).2) HG.out (Blk.other HBR.out hne _ _) (HB0.out.set 0 _) (by rw [HS.out, q1, q2]; rfl)⟩
     case measure => simp [intOf]; omega
   | false =>
    cases q2 : (y != 0) with
    | true =>
     have q2' : decide (0 < y) = true := by simp at q2 ⊢; omega
     cases q3 : (y == x0) with
     | true =>
      go_wp2_with (go_at_call 52; refine (HO.out _).mono ?_; rintro e w' ⟨rfl, rfl⟩)
      go_roundw
      case rel => exact ⟨j + 1, by omega, by omega, by go_num, Keeps.setCell (Keeps.setCell HK.out hgi _) hgi _, atIn_of (j, true) HG.out (Blk.other (Blk.other HBR.out hne _ _) hne _ _) ((HB0.out.set 0 _).set 5 _) (by rw [HS.out, q1, q2, q3]; rfl)⟩
      case measure => simp [intOf]; omega
     | false =>
      go_wp2_with (go_at_call 52; refine (HO.out _).mono ?_; rintro e w' ⟨rfl, rfl⟩)
      go_roundw
      case rel => exact ⟨j + 1, by omega, by omega, by go_num, HK.out, atIn_of (refGo x0 j) HG.out HBR.out HB0.out (by rw [HS.out, q1, q2, q3]; rfl)⟩
      case measure => simp [intOf]; omega
    | false =>
     have q2' : decide (0 < y) = false := by simp at q2 ⊢; omega
     go_wp2_with (go_at_call 52; refine (HO.out _).mono ?_; rintro e w' ⟨rfl, rfl⟩)
     go_roundw
     case rel => exact ⟨j + 1, by omega, by omega, by go_num, HK.out, atIn_of (refGo x0 j) HG.out HBR.out HB0.out (by rw [HS.out, q1, q2]; rfl)⟩
     case measure => simp [intOf]; omega
  ·obtain rfl : j = 25 := by omega
   have hBI : Blk wr (w.heap.size + 1) (.cells #[.int .i64 k, .int .i64 0, .int .i64 0, .int .i64 0, .int .i64 0, .bool lg] 61) := by rw [HKK.out] at hB0; exact hB0
   have i0 := hBI.cell (j := 0) rfl
   have i1 := hBI.cell (j := 1) rfl
   have i2 := hBI.cell (j := 2) rfl
   have i3 := hBI.cell (j := 3) rfl
   have i4 := hBI.cell (j := 4) rfl
   have i5 := hBI.cell (j := 5) rfl
   have HBR0 := Lib.hid hbR
   clear hin hB0 hBI hbR hkW hbI hsW HKK hk y0 g0
   go_wp2_with fail
   refine (HZ.out _).mono ?_
   rintro e w3 ⟨rfl, hk3⟩
   have HBR := Lib.hid (HBR0.out.keep hk3)
   have a0 := HBR.out.cell (j := 0) rfl
   have a1 := HBR.out.cell (j := 1) rfl
   have a2 := HBR.out.cell (j := 2) rfl
   have a3 := HBR.out.cell (j := 3) rfl
   have a4 := HBR.out.cell (j := 4) rfl
   have a5 := HBR.out.cell (j := 5) rfl
   have n0 := HBR.out.thawed 0
   have n1 := HBR.out.thawed 1
   have n2 := HBR.out.thawed 2
   have n3 := HBR.out.thawed 3
   have n4 := HBR.out.thawed 4
   have n5 := HBR.out.thawed 5
   have hgl := HBR.out.lt
   have hkw3 := hkw.trans hk3
   clear i0 i1 i2 i3 i4 i5 HBR0 HZ
   go_wp2_with fail
   obtain ⟨wf, hwf⟩ : ∃ wf : World, wf = ((((((w3.setCell ⟨w.heap.size, 0, none⟩ (.int .i64 0)).setCell ⟨w.heap.size, 1, none⟩ (.int .i64 0)).setCell ⟨w.heap.size, 2, none⟩ (.int .i64 0)).setCell ⟨w.heap.size, 3, none⟩ (.int .i64 0)).setCell ⟨w.heap.size, 4, none⟩ (.int .i64 0)).setCell ⟨w.heap.size, 5, none⟩ (.bool false)) := ⟨_, rfl⟩
   rw [← hwf]
   have hBf : Blk wf w.heap.size (.cells #[.int .i64 0, .int .i64 0, .int .i64 0, .int .i64 0, .int .i64 0, .bool false] 61) := by
    rw [hwf]
    exact (((((HBR.out.set 0 _).set 1 _).set 2 _).set 3 _).set 4 _).set 5 _
   have Kf : Keeps w wf := by
    rw [hwf]
    exact Keeps.setCell (Keeps.setCell (Keeps.setCell (Keeps.setCell (Keeps.setCell (Keeps.setCell hkw3 (Nat.le_refl _) _) (Nat.le_refl _) _) (Nat.le_refl _) _) (Nat.le_refl _) _) (Nat.le_refl _) _) (Nat.le_refl _) _
   have b0 := hBf.cell (j := 0) rfl
   have b1 := hBf.cell (j := 1) rfl
   have b2 := hBf.cell (j := 2) rfl
   have b3 := hBf.cell (j := 3) rfl
   have b4 := hBf.cell (j := 4) rfl
   have b5 := hBf.cell (j := 5) rfl
   clear hwf hBf a0 a1 a2 a3 a4 a5 n0 n1 n2 n3 n4 n5
   exact bodyPost_ret (v := .tuple #[.agg #[.int .i64 0, .int .i64 0, .int .i64 0, .int .i64 0, .int .i64 0, .bool false], .int .i64 0, .int .i64 5]) (by simp [results, Tryd.results21, go_sem, b0, b1, b2, b3, b4, b5]) rfl ⟨rfl, Kf⟩
end Go.Proofs.YtnekiooaobnndaaDoor
