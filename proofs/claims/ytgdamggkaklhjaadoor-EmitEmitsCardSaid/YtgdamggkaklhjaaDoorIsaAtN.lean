/-
The document's InstrAt at every address, of whatever bytes.
-/
import Derived.Test.YtgdamggkaklhjaaDoorIsaAt1
import Derived.Deep.DeepCutAuto
import Derived.Deep.CutBlock
set_option linter.all false
namespace Go.Proofs.YtgdamggkaklhjaaDoor
open Go.RowKit BH
set_option maxHeartbeats 1000000000
set_option maxRecDepth 100000
theorem at_out (ad : Option Addr) (len cap : Nat) (a : Int) (w : World) (hl : len ≤ 140737488355328) (h : a < 0 ∨ (len : Int) ≤ a) :
  Calls Tryd.prog 39 #[.slice ad len cap, .int .i64 a] w (DecAns (zeroIns, 0, 2) w) := by
 go_enter Tryd.func39, Tryd.ntmps39
 go_wp2_with (go_at_call 20; refine (in_no _ _ _ _ jo).mono ?_; rintro e w' ⟨rfl, rfl⟩)
 exact bodyPost_ret (v := .tuple #[.agg #[.int .i64 0, .int .i64 0, .int .i64 0, .int .i64 0, .int .i64 0, .bool false], .int .i64 0, .int .i64 2]) (by simp [results, Tryd.results39, go_sem]) rfl ⟨rfl, (Keeps.refl _).alloc _⟩
theorem instrAt_any (v : Value) (l : List UInt8) (x : Int) (w : World) (hb : Bytes w v l) (hl : l.length ≤ 140737488355328) :
  Calls Tryd.prog 39 #[v, .int .i64 x] w (DecAns (decAns l x) w) := by
 obtain ⟨ao, HL, rfl, HR, h2, h4, h3⟩ := hb
 by_cases hx : x < 0 ∨ (l.length : Int) ≤ x
 ·rw [show decAns l x = (zeroIns, 0, 2) by unfold decAns; rw [if_pos hx]]
  exact at_out ao l.length HL x w hl hx
 obtain ⟨a, rfl⟩ : ∃ a : Nat, x = a := ⟨x.toNat, by omega⟩
 obtain ⟨b, Hx, rfl, hc⟩ := h3 jo
 have c := byte_cells hc
 have HT : HL ≤ 9223372036854775807 := by unfold maxLen at h2; omega
 have ha : a + 1 ≤ l.length := by omega
 have y0 := c a _ jo rfl
 obtain ⟨l0, u0⟩ := byteAt_bd l a
 obtain ⟨l1, u1⟩ := byteAt_bd l (a + 1)
 obtain ⟨l2, u2⟩ := byteAt_bd l (a + 2)
 obtain ⟨l3, u3⟩ := byteAt_bd l (a + 3)
 obtain ⟨k, lg, Hq⟩ : ∃ k lg, kindOf (byteAt l a) = (k, lg) := ⟨_, _, rfl⟩
 obtain ⟨Hy, Hz⟩ := kindOf_bd (byteAt l a) l0 u0
 rw [Hq] at Hy Hz
 have Hc : Hid (lg = true → 18 ≤ k ∧ k ≤ 22) := jH Hz
 have hk := (refGo_kindOf (byteAt l a) l0 u0).trans Hq
 obtain ⟨zn, HB, HM⟩ : ∃ z : Nat, insSize k lg = z ∧ (1 ≤ k → (k ≤ 4 ∧ z = 1 + lg.toNat) ∨ (k = 5 ∧ z = 4 + lg.toNat) ∨ ((k = 16 ∨ k = 17 ∨ k = 22) ∧ z = 2 + lg.toNat) ∨ (4 < k ∧ k ≠ 5 ∧ k ≠ 16 ∧ k ≠ 17 ∧ k ≠ 22 ∧ z = 3 + lg.toNat)) := by
  by_cases h : 1 ≤ k
  ·obtain ⟨z, e1, e2⟩ := size_is h Hy lg
   exact ⟨z, e1, fun _ => e2⟩
  obtain rfl : k = 0 := by omega
  exact ⟨(insSize 0 lg).toNat, by cases lg <;> decide, fun q => absurd q h⟩
 obtain ⟨RI, Hn⟩ := jE (rawIns k lg (byteAt l (a + 1)) (byteAt l (a + 2)) (byteAt l (a + 3)))
 have Hg := decAns_is Hq jo HB Hn
 obtain ⟨rk, rl⟩ := raw_kl k lg (byteAt l (a + 1)) (byteAt l (a + 2)) (byteAt l (a + 3))
 rw [← Hn] at rk rl
 obtain ⟨K, D, A, B, N, L⟩ := RI
 dsimp only at rk rl Hg
 subst rk
 have HU := rl.symm
 subst HU
 obtain ⟨R, hR⟩ := jE (decAns l a)
 rw [← hR] at Hg ⊢
 obtain ⟨x1, Hr⟩ := jE (byteAt l (a + 1))
 obtain ⟨x2, Hs⟩ := jE (byteAt l (a + 2))
 obtain ⟨x3, Ht⟩ := jE (byteAt l (a + 3))
 have H9 : Hid (a + 1 < l.length → w.cell? ⟨b, Hx + a + 1, none⟩ = some (.int .u8 x1)) := jH fun h => by rw [Hr]; exact c (a + 1) _ h jo
 have Hd : Hid (a + 2 < l.length → w.cell? ⟨b, Hx + a + 2, none⟩ = some (.int .u8 x2)) := jH fun h => by rw [Hs]; exact c (a + 2) _ h jo
 have HN : Hid (a + 3 < l.length → w.cell? ⟨b, Hx + a + 3, none⟩ = some (.int .u8 x3)) := jH fun h => by rw [Ht]; exact c (a + 3) _ h jo
 rw [← Hr, ← Hs, ← Ht] at Hn
 rw [← Hr] at l1 u1
 rw [← Hs] at l2 u2
 rw [← Ht] at l3 u3
 generalize byteAt l a = x0 at *
 obtain ⟨H8, H7, Hi⟩ := hid3 Hn HM Hg
 have HD := fun (h : 1 ≤ k) W => refSize_any k h Hy 0 0 0 0 lg W
 rw [HB] at HD
 obtain ⟨HZ, HC, HP⟩ := hid3 HD (fun W => instrFault_any k D A B N lg W) hk
 have hbw : b < w.heap.size := lt_of_cell y0
 clear c hc h3 h4 h2 hx Hq Hz HB HM Hn Hg hR Hr Hs Ht HD
 go_enter Tryd.func39, Tryd.ntmps39
 go_wp2_with (go_at_call 20; refine (in_yes _ _ _ _ jo jo).mono ?_; rintro e w' ⟨rfl, rfl⟩)
 obtain ⟨W, hW, HE, Hl, HF, HV⟩ := two_blocks' w (.cells #[.int .i64 0, .int .i64 0, .int .i64 0, .int .i64 0, .int .i64 0, .bool false] 64) (.cells #[.int .i64 0, .int .i64 0, .int .i64 0, .int .i64 0, .int .i64 0, .bool false] 64)
 rw [← hW]
 clear hW
 go_loopw [8] (fun s8 wr => ∃ j : Nat, 1 ≤ j ∧ j ≤ 25 ∧ s8 = .int .i64 j ∧ Keeps w wr ∧ AtIn w.heap.size x0 j wr) (fun s8 _ => 25 - (intOf s8).toNat)
 case atStart => exact ⟨1, Nat.le_refl _, by omega, rfl, HE, Hl, HF⟩
 case round =>
 obtain ⟨j, HW, hj2, rfl, Hj, Hu⟩ := hrel
 have Hl := Hu.1
 have He := Hu.2
 have g0 := Hj.cell y0
 have HX := Hj.size
 by_cases hlt : j < 25
 ·have HO := jH (fun w => opOf_any j HW jo w)
  have HS := jH (show refGo x0 (j + 1) = if hitB x0 j then (j, true) else if hitA x0 j then (j, (refGo x0 j).2) else refGo x0 j from rfl)
  obtain ⟨o1, o2, o3, o4⟩ := op_bounds j jo
  have hA : hitA x0 j = (opT j == x0) := by unfold hitA; rw [decide_eq_true jo]; rfl
  have hB : hitB x0 j = ((longT j != 0) && (longT j == x0)) := by unfold hitB; rw [decide_eq_true jo]; rfl
  rw [hA, hB] at HS
  have i0 := He.cell (j := 0) rfl
  have i5 := He.cell (j := 5) rfl
  have f0 := He.thawed 0
  have f5 := He.thawed 5
  have Hf : w.heap.size ≤ w.heap.size + 1 := by omega
  have Hk : w.heap.size ≠ w.heap.size + 1 := by omega
  have HY : b ≠ w.heap.size + 1 := by omega
  have K0 := He.lt
  obtain ⟨Hm, H4, HK⟩ := hid3 He Hl Hj
  generalize opT j = x at *
  generalize longT j = y at *
  generalize hgg : w.heap.size + 1 = gi at *
  have HG := jH hgg
  clear hgg hA hB Hu He Hl Hj HE HF hk
  cases q1 : (x == x0) with
  | true =>
   cases q2 : (y != 0) with
   | true =>
    have HH : decide (0 < y) = true := by simp at q2 ⊢; omega
    cases q3 : (y == x0) with
    | true =>
     go_wp2_with (go_at_call 45; refine (HO.out _).mono ?_; rintro e w' ⟨rfl, rfl⟩)
     go_roundw
     case rel => exact ⟨j + 1, by omega, by omega, by go_num, Keeps.setCell (Keeps.setCell (Keeps.setCell HK.out Hf _) Hf _) Hf _, atIn_of (j, true) HG.out (Blk.other (Blk.other (Blk.other H4.out Hk _ _) Hk _ _) Hk _ _) (((Hm.out.set 0 _).set 0 _).set 5 _) (by rw [HS.out, q1, q2, q3]; rfl)⟩
     case measure => exact jm
    | false =>
     go_wp2_with (go_at_call 45; refine (HO.out _).mono ?_; rintro e w' ⟨rfl, rfl⟩)
     go_roundw
     case rel => exact ⟨j + 1, by omega, by omega, by go_num, Keeps.setCell HK.out Hf _, atIn_of (j, (refGo x0 j).2) HG.out (Blk.other H4.out Hk _ _) (Hm.out.set 0 _) (by rw [HS.out, q1, q2, q3]; rfl)⟩
     case measure => exact jm
   | false =>
    have HH : decide (0 < y) = false := by simp at q2 ⊢; omega
    go_wp2_with (go_at_call 45; refine (HO.out _).mono ?_; rintro e w' ⟨rfl, rfl⟩)
    go_roundw
    case rel => exact ⟨j + 1, by omega, by omega, by go_num, Keeps.setCell HK.out Hf _, atIn_of (j, (refGo x0 j).2) HG.out (Blk.other H4.out Hk _ _) (Hm.out.set 0 _) (by rw [HS.out, q1, q2]; rfl)⟩
    case measure => exact jm
  | false =>
   cases q2 : (y != 0) with
   | true =>
    have HH : decide (0 < y) = true := by simp at q2 ⊢; omega
    cases q3 : (y == x0) with
    | true =>
     go_wp2_with (go_at_call 45; refine (HO.out _).mono ?_; rintro e w' ⟨rfl, rfl⟩)
     go_roundw
     case rel => exact ⟨j + 1, by omega, by omega, by go_num, Keeps.setCell (Keeps.setCell HK.out Hf _) Hf _, atIn_of (j, true) HG.out (Blk.other (Blk.other H4.out Hk _ _) Hk _ _) ((Hm.out.set 0 _).set 5 _) (by rw [HS.out, q1, q2, q3]; rfl)⟩
     case measure => exact jm
    | false =>
     go_wp2_with (go_at_call 45; refine (HO.out _).mono ?_; rintro e w' ⟨rfl, rfl⟩)
     go_roundw
     case rel => exact ⟨j + 1, by omega, by omega, by go_num, HK.out, atIn_of (refGo x0 j) HG.out H4.out Hm.out (by rw [HS.out, q1, q2, q3]; rfl)⟩
     case measure => exact jm
   | false =>
    have HH : decide (0 < y) = false := by simp at q2 ⊢; omega
    go_wp2_with (go_at_call 45; refine (HO.out _).mono ?_; rintro e w' ⟨rfl, rfl⟩)
    go_roundw
    case rel => exact ⟨j + 1, by omega, by omega, by go_num, HK.out, atIn_of (refGo x0 j) HG.out H4.out Hm.out (by rw [HS.out, q1, q2]; rfl)⟩
    case measure => exact jm
 obtain rfl : j = 25 := by omega
 have HI : Blk wr (w.heap.size + 1) (.cells #[.int .i64 k, .int .i64 0, .int .i64 0, .int .i64 0, .int .i64 0, .bool lg] 64) := by rw [HP.out] at He; exact He
 obtain ⟨Ho, Ha⟩ := hid2 HI Hl
 obtain ⟨i0, i1, i2, i3, i4, i5⟩ := HI.k6
 clear Hu He HI Hl HE HF HV HP hk y0 g0
 by_cases k0 : k = 0
 ·have K1 := jH (Hi.out.1 k0)
  subst k0
  clear i1 i2 i3 i4 i5
  obtain ⟨j0, j1, j2, j3, j4, j5⟩ := Ha.out.k6
  obtain ⟨n0, n1, n2, n3, n4, n5⟩ := Ha.out.t6
  have jl := Ha.out.lt
  go_wp2_with fail
  obtain ⟨wf, H6⟩ := jE ((((((wr.setCell ⟨w.heap.size, 0, none⟩ (.int .i64 0)).setCell ⟨w.heap.size, 1, none⟩ (.int .i64 0)).setCell ⟨w.heap.size, 2, none⟩ (.int .i64 0)).setCell ⟨w.heap.size, 3, none⟩ (.int .i64 0)).setCell ⟨w.heap.size, 4, none⟩ (.int .i64 0)).setCell ⟨w.heap.size, 5, none⟩ (.bool false))
  rw [← H6]
  have Hb : Blk wf w.heap.size (.cells #[.int .i64 0, .int .i64 0, .int .i64 0, .int .i64 0, .int .i64 0, .bool false] 64) := by rw [H6]; exact (((((Ha.out.set 0 _).set 1 _).set 2 _).set 3 _).set 4 _).set 5 _
  have Kf : Keeps w wf := by rw [H6]; exact Keeps.setCell (Keeps.setCell (Keeps.setCell (Keeps.setCell (Keeps.setCell (Keeps.setCell (Hj) (Nat.le_refl _) _) (Nat.le_refl _) _) (Nat.le_refl _) _) (Nat.le_refl _) _) (Nat.le_refl _) _) (Nat.le_refl _) _
  obtain ⟨a0, a1, a2, a3, a4, a5⟩ := Hb.k6
  clear H6 Hb j0 j1 j2 j3 j4 j5 n0 n1 n2 n3 n4 n5 jl
  exact bodyPost_ret (v := .tuple #[.agg #[.int .i64 0, .int .i64 0, .int .i64 0, .int .i64 0, .int .i64 0, .bool false], .int .i64 0, .int .i64 3]) (by simp [results, Tryd.results39, go_sem, a0, a1, a2, a3, a4, a5]) rfl ⟨by rw [K1.out]; rfl, Kf⟩
 have k1 : 1 ≤ k := by omega
 have hk0 : ((k : Int) == 0) = false := by rw [beq_eq_false_iff_ne]; omega
 go_wp2_with fail
 refine (HZ.out k1 _).mono ?_
 rintro e w3 ⟨rfl, Hv⟩
 have H1 := Hj.trans Hv
 obtain ⟨H5, H4⟩ := hid2 (Ho.out.keep Hv) (Ha.out.keep Hv)
 have K2 : 1 ≤ zn ∧ zn ≤ 5 := by have z := H7.out k1; cases lg <;> simp at z <;> omega
 obtain ⟨zb1, zb2⟩ := K2
 have hbW : b < w3.heap.size := by have := H1.size; omega
 clear i0 i1 i2 i3 i4 i5 Ho Ha HZ Hj Hv HX
 by_cases hsh : l.length < a + zn
 ·have HJ : (l.length : Int) < (a : Int) + (zn : Int) := by omega
  obtain ⟨j0, j1, j2, j3, j4, j5⟩ := H4.out.k6
  obtain ⟨n0, n1, n2, n3, n4, n5⟩ := H4.out.t6
  have jl := H4.out.lt
  go_wp2_with fail
  obtain ⟨wf, H6⟩ := jE ((((((w3.setCell ⟨w.heap.size, 0, none⟩ (.int .i64 0)).setCell ⟨w.heap.size, 1, none⟩ (.int .i64 0)).setCell ⟨w.heap.size, 2, none⟩ (.int .i64 0)).setCell ⟨w.heap.size, 3, none⟩ (.int .i64 0)).setCell ⟨w.heap.size, 4, none⟩ (.int .i64 0)).setCell ⟨w.heap.size, 5, none⟩ (.bool false))
  rw [← H6]
  have Hb : Blk wf w.heap.size (.cells #[.int .i64 0, .int .i64 0, .int .i64 0, .int .i64 0, .int .i64 0, .bool false] 64) := by rw [H6]; exact (((((H4.out.set 0 _).set 1 _).set 2 _).set 3 _).set 4 _).set 5 _
  have Kf : Keeps w wf := by rw [H6]; exact Keeps.setCell (Keeps.setCell (Keeps.setCell (Keeps.setCell (Keeps.setCell (Keeps.setCell (H1) (Nat.le_refl _) _) (Nat.le_refl _) _) (Nat.le_refl _) _) (Nat.le_refl _) _) (Nat.le_refl _) _) (Nat.le_refl _) _
  obtain ⟨a0, a1, a2, a3, a4, a5⟩ := Hb.k6
  clear H6 Hb j0 j1 j2 j3 j4 j5 n0 n1 n2 n3 n4 n5 jl
  exact bodyPost_ret (v := .tuple #[.agg #[.int .i64 0, .int .i64 0, .int .i64 0, .int .i64 0, .int .i64 0, .bool false], .int .i64 0, .int .i64 5]) (by simp [results, Tryd.results39, go_sem, a0, a1, a2, a3, a4, a5]) rfl ⟨by rw [Hi.out.2.1 k0 hsh]; rfl, Kf⟩
 have HJ : ¬ (l.length : Int) < (a : Int) + (zn : Int) := by omega
 obtain ⟨gi, Hf⟩ := jE (w.heap.size + 1)
 rw [← Hf] at H5 ⊢
 have H2 : w.heap.size ≠ gi := by omega
 have H3 : w.heap.size ≤ gi := by omega
 have HY : b ≠ gi := by omega
 clear Hf
 obtain ⟨i0, i1, i2, i3, i4, i5⟩ := H5.out.k6
 obtain ⟨f0, f1, f2, f3, f4, f5⟩ := H5.out.t6
 have K3 := H5.out.lt
 go_upto_block 2 with fail
 go_cut [11, 12] (fun s11 s12 wx => s11 = .int .i64 zn ∧ Hid (Keeps w wx) ∧ Hid (Blk wx w.heap.size (.cells #[.int .i64 0, .int .i64 0, .int .i64 0, .int .i64 0, .int .i64 0, .bool false] 64)) ∧ Hid (Blk wx gi (.cells #[.int .i64 k, .int .i64 D, .int .i64 A, .int .i64 B, .int .i64 N, .bool lg] 64)))
 case first =>
  by_cases h4 : k ≤ 4
  ·obtain rfl : lg = false := by
    cases lg with
    | false => rfl
    | true => have z := Hc.out rfl; omega
   as_aux_lemma =>
   obtain rfl : zn = 1 := by have z := H7.out; simp at z; omega
   have hi : (⟨k, D, A, B, N, false⟩ : Ins) = ⟨k, 0, 0, 0, 0, false⟩ := by rw [H8.out]; unfold rawIns; (repeat (first | rw [if_pos jo] | rw [if_neg jo])); try simp only [cond_true, cond_false]
   simp only [Ins.mk.injEq, true_and, and_true] at hi
   obtain ⟨e1, e2, e3, e4⟩ := hi
   obtain rfl := e1.symm
   obtain rfl := e2.symm
   obtain rfl := e3.symm
   obtain rfl := e4.symm

   go_wp2_with fail
   all_goals
    go_meet
    case rel => exact ⟨rfl, jH H1, jH H4.out, jH (H5.out)⟩
  by_cases h5 : k ≤ 5
  ·obtain rfl : lg = false := by
    cases lg with
    | false => rfl
    | true => have z := Hc.out rfl; omega
   as_aux_lemma =>
   obtain rfl : zn = 4 := by have z := H7.out; simp at z; omega
   have hi : (⟨k, D, A, B, N, false⟩ : Ins) = ⟨k, x1, 0, 0, num16 x2 x3, false⟩ := by rw [H8.out]; unfold rawIns; (repeat (first | rw [if_pos jo] | rw [if_neg jo])); try simp only [cond_true, cond_false]
   simp only [Ins.mk.injEq, true_and, and_true] at hi
   obtain ⟨e1, e2, e3, e4⟩ := hi
   obtain rfl := e1.symm
   obtain rfl := e2.symm
   obtain rfl := e3.symm
   obtain rfl := e4.symm
   have y1 := H9.out jo; have p1 := H1.cell y1
   have y2 := Hd.out jo; have p2 := H1.cell y2
   have y3 := HN.out jo; have p3 := H1.cell y3
   go_wp2_with (go_at_call 67; refine (signed_two _ _ _ x2 x3 _ (Keeps.cell ku7 y2) (Keeps.cell ku7 y3) l2 u2 l3 u3).mono ?_; rintro e w' ⟨rfl, nq, rfl⟩)
   all_goals
    go_meet
    case rel => exact ⟨rfl, jH (by first | exact Keeps.setCell (Keeps.setCell (H1) H3 _) H3 _ | exact (Keeps.setCell (Keeps.setCell (H1) H3 _) H3 _).drewN _), jH (by first | exact Blk.other (Blk.other (H4.out) H2 _ _) H2 _ _ | exact (Blk.other (Blk.other (H4.out) H2 _ _) H2 _ _).keep ((Keeps.refl _).drewN _)), jH (by first | exact (((H5.out).set 1 (.int .i64 (x1))).set 4 (.int .i64 (num16 x2 x3))) | exact (((H5.out).set 1 (.int .i64 (x1))).set 4 (.int .i64 (num16 x2 x3))).keep ((Keeps.refl _).drewN _))⟩
  by_cases h6 : k ≤ 6
  ·obtain rfl : lg = false := by
    cases lg with
    | false => rfl
    | true => have z := Hc.out rfl; omega
   as_aux_lemma =>
   obtain rfl : zn = 3 := by have z := H7.out; simp at z; omega
   have hi : (⟨k, D, A, B, N, false⟩ : Ins) = ⟨k, x1 / 16, x1 % 16, 0, num8 x2, false⟩ := by rw [H8.out]; unfold rawIns; (repeat (first | rw [if_pos jo] | rw [if_neg jo])); try simp only [cond_true, cond_false]
   simp only [Ins.mk.injEq, true_and, and_true] at hi
   obtain ⟨e1, e2, e3, e4⟩ := hi
   obtain rfl := e1.symm
   obtain rfl := e2.symm
   obtain rfl := e3.symm
   obtain rfl := e4.symm
   have y1 := H9.out jo; have p1 := H1.cell y1
   have y2 := Hd.out jo; have p2 := H1.cell y2
   go_wp2_with (go_at_call 67; refine (signed_one _ _ _ x2 _ (Keeps.cell ku7 y2) l2 u2).mono ?_; rintro e w' ⟨rfl, rfl⟩)
   all_goals
    go_meet
    case rel => exact ⟨rfl, jH Keeps.setCell (Keeps.setCell (Keeps.setCell (H1) H3 _) H3 _) H3 _, jH Blk.other (Blk.other (Blk.other (H4.out) H2 _ _) H2 _ _) H2 _ _, jH ((((H5.out).set 1 (.int .i64 (x1 / 16))).set 2 (.int .i64 (x1 % 16))).set 4 (.int .i64 (num8 x2)))⟩
  by_cases h13 : k ≤ 13
  ·obtain rfl : lg = false := by
    cases lg with
    | false => rfl
    | true => have z := Hc.out rfl; omega
   as_aux_lemma =>
   obtain rfl : zn = 3 := by have z := H7.out; simp at z; omega
   have hi : (⟨k, D, A, B, N, false⟩ : Ins) = ⟨k, x1 / 16, x1 % 16, x2, 0, false⟩ := by rw [H8.out]; unfold rawIns; (repeat (first | rw [if_pos jo] | rw [if_neg jo])); try simp only [cond_true, cond_false]
   simp only [Ins.mk.injEq, true_and, and_true] at hi
   obtain ⟨e1, e2, e3, e4⟩ := hi
   obtain rfl := e1.symm
   obtain rfl := e2.symm
   obtain rfl := e3.symm
   obtain rfl := e4.symm
   have y1 := H9.out jo; have p1 := H1.cell y1
   have y2 := Hd.out jo; have p2 := H1.cell y2
   go_wp2_with fail
   all_goals
    go_meet
    case rel => exact ⟨rfl, jH Keeps.setCell (Keeps.setCell (Keeps.setCell (H1) H3 _) H3 _) H3 _, jH Blk.other (Blk.other (Blk.other (H4.out) H2 _ _) H2 _ _) H2 _ _, jH ((((H5.out).set 1 (.int .i64 (x1 / 16))).set 2 (.int .i64 (x1 % 16))).set 3 (.int .i64 (x2)))⟩
  by_cases h14 : k ≤ 14
  ·obtain rfl : lg = false := by
    cases lg with
    | false => rfl
    | true => have z := Hc.out rfl; omega
   as_aux_lemma =>
   obtain rfl : zn = 3 := by have z := H7.out; simp at z; omega
   have hi : (⟨k, D, A, B, N, false⟩ : Ins) = ⟨k, x1 / 16, x1 % 16, 0, num8 x2, false⟩ := by rw [H8.out]; unfold rawIns; (repeat (first | rw [if_pos jo] | rw [if_neg jo])); try simp only [cond_true, cond_false]
   simp only [Ins.mk.injEq, true_and, and_true] at hi
   obtain ⟨e1, e2, e3, e4⟩ := hi
   obtain rfl := e1.symm
   obtain rfl := e2.symm
   obtain rfl := e3.symm
   obtain rfl := e4.symm
   have y1 := H9.out jo; have p1 := H1.cell y1
   have y2 := Hd.out jo; have p2 := H1.cell y2
   go_wp2_with (go_at_call 67; refine (signed_one _ _ _ x2 _ (Keeps.cell ku7 y2) l2 u2).mono ?_; rintro e w' ⟨rfl, rfl⟩)
   all_goals
    go_meet
    case rel => exact ⟨rfl, jH Keeps.setCell (Keeps.setCell (Keeps.setCell (H1) H3 _) H3 _) H3 _, jH Blk.other (Blk.other (Blk.other (H4.out) H2 _ _) H2 _ _) H2 _ _, jH ((((H5.out).set 1 (.int .i64 (x1 / 16))).set 2 (.int .i64 (x1 % 16))).set 4 (.int .i64 (num8 x2)))⟩
  by_cases h15 : k ≤ 15
  ·obtain rfl : lg = false := by
    cases lg with
    | false => rfl
    | true => have z := Hc.out rfl; omega
   as_aux_lemma =>
   obtain rfl : zn = 3 := by have z := H7.out; simp at z; omega
   have hi : (⟨k, D, A, B, N, false⟩ : Ins) = ⟨k, 0, x1 % 16, x1 / 16, num8 x2, false⟩ := by rw [H8.out]; unfold rawIns; (repeat (first | rw [if_pos jo] | rw [if_neg jo])); try simp only [cond_true, cond_false]
   simp only [Ins.mk.injEq, true_and, and_true] at hi
   obtain ⟨e1, e2, e3, e4⟩ := hi
   obtain rfl := e1.symm
   obtain rfl := e2.symm
   obtain rfl := e3.symm
   obtain rfl := e4.symm
   have y1 := H9.out jo; have p1 := H1.cell y1
   have y2 := Hd.out jo; have p2 := H1.cell y2
   go_wp2_with (go_at_call 67; refine (signed_one _ _ _ x2 _ (Keeps.cell ku7 y2) l2 u2).mono ?_; rintro e w' ⟨rfl, rfl⟩)
   all_goals
    go_meet
    case rel => exact ⟨rfl, jH Keeps.setCell (Keeps.setCell (Keeps.setCell (H1) H3 _) H3 _) H3 _, jH Blk.other (Blk.other (Blk.other (H4.out) H2 _ _) H2 _ _) H2 _ _, jH ((((H5.out).set 3 (.int .i64 (x1 / 16))).set 2 (.int .i64 (x1 % 16))).set 4 (.int .i64 (num8 x2)))⟩
  by_cases h16 : k ≤ 16
  ·obtain rfl : lg = false := by
    cases lg with
    | false => rfl
    | true => have z := Hc.out rfl; omega
   as_aux_lemma =>
   obtain rfl : zn = 2 := by have z := H7.out; simp at z; omega
   have hi : (⟨k, D, A, B, N, false⟩ : Ins) = ⟨k, x1, 0, 0, 0, false⟩ := by rw [H8.out]; unfold rawIns; (repeat (first | rw [if_pos jo] | rw [if_neg jo])); try simp only [cond_true, cond_false]
   simp only [Ins.mk.injEq, true_and, and_true] at hi
   obtain ⟨e1, e2, e3, e4⟩ := hi
   obtain rfl := e1.symm
   obtain rfl := e2.symm
   obtain rfl := e3.symm
   obtain rfl := e4.symm
   have y1 := H9.out jo; have p1 := H1.cell y1
   go_wp2_with fail
   all_goals
    go_meet
    case rel => exact ⟨rfl, jH Keeps.setCell (H1) H3 _, jH Blk.other (H4.out) H2 _ _, jH ((H5.out).set 1 (.int .i64 (x1)))⟩
  by_cases h17 : k ≤ 17
  ·obtain rfl : lg = false := by
    cases lg with
    | false => rfl
    | true => have z := Hc.out rfl; omega
   as_aux_lemma =>
   obtain rfl : zn = 2 := by have z := H7.out; simp at z; omega
   have hi : (⟨k, D, A, B, N, false⟩ : Ins) = ⟨k, 0, x1, 0, 0, false⟩ := by rw [H8.out]; unfold rawIns; (repeat (first | rw [if_pos jo] | rw [if_neg jo])); try simp only [cond_true, cond_false]
   simp only [Ins.mk.injEq, true_and, and_true] at hi
   obtain ⟨e1, e2, e3, e4⟩ := hi
   obtain rfl := e1.symm
   obtain rfl := e2.symm
   obtain rfl := e3.symm
   obtain rfl := e4.symm
   have y1 := H9.out jo; have p1 := H1.cell y1
   go_wp2_with fail
   all_goals
    go_meet
    case rel => exact ⟨rfl, jH Keeps.setCell (H1) H3 _, jH Blk.other (H4.out) H2 _ _, jH ((H5.out).set 2 (.int .i64 (x1)))⟩
  by_cases h21 : k ≤ 21
  ·cases lg with
   | false =>
    as_aux_lemma =>
    obtain rfl : zn = 3 := by have z := H7.out; simp at z; omega
    have hi : (⟨k, D, A, B, N, false⟩ : Ins) = ⟨k, 0, x1 / 16, x1 % 16, num8 x2, false⟩ := by rw [H8.out]; unfold rawIns; (repeat (first | rw [if_pos jo] | rw [if_neg jo])); try simp only [cond_true, cond_false]
    simp only [Ins.mk.injEq, true_and, and_true] at hi
    obtain ⟨e1, e2, e3, e4⟩ := hi
    obtain rfl := e1.symm
    obtain rfl := e2.symm
    obtain rfl := e3.symm
    obtain rfl := e4.symm
    have y1 := H9.out jo; have p1 := H1.cell y1
    have y2 := Hd.out jo; have p2 := H1.cell y2
    go_wp2_with (go_at_call 67; refine (signed_one _ _ _ x2 _ (Keeps.cell ku7 y2) l2 u2).mono ?_; rintro e w' ⟨rfl, rfl⟩)
    all_goals
     go_meet
     case rel => exact ⟨rfl, jH Keeps.setCell (Keeps.setCell (Keeps.setCell (H1) H3 _) H3 _) H3 _, jH Blk.other (Blk.other (Blk.other (H4.out) H2 _ _) H2 _ _) H2 _ _, jH ((((H5.out).set 2 (.int .i64 (x1 / 16))).set 3 (.int .i64 (x1 % 16))).set 4 (.int .i64 (num8 x2)))⟩
   | true =>
    as_aux_lemma =>
    obtain rfl : zn = 4 := by have z := H7.out; simp at z; omega
    have hi : (⟨k, D, A, B, N, true⟩ : Ins) = ⟨k, 0, x1 / 16, x1 % 16, num16 x2 x3, true⟩ := by rw [H8.out]; unfold rawIns; (repeat (first | rw [if_pos jo] | rw [if_neg jo])); try simp only [cond_true, cond_false]
    simp only [Ins.mk.injEq, true_and, and_true] at hi
    obtain ⟨e1, e2, e3, e4⟩ := hi
    obtain rfl := e1.symm
    obtain rfl := e2.symm
    obtain rfl := e3.symm
    obtain rfl := e4.symm
    have y1 := H9.out jo; have p1 := H1.cell y1
    have y2 := Hd.out jo; have p2 := H1.cell y2
    have y3 := HN.out jo; have p3 := H1.cell y3
    go_wp2_with (go_at_call 67; refine (signed_two _ _ _ x2 x3 _ (Keeps.cell ku7 y2) (Keeps.cell ku7 y3) l2 u2 l3 u3).mono ?_; rintro e w' ⟨rfl, nq, rfl⟩)
    all_goals
     go_meet
     case rel => exact ⟨rfl, jH (by first | exact Keeps.setCell (Keeps.setCell (Keeps.setCell (H1) H3 _) H3 _) H3 _ | exact (Keeps.setCell (Keeps.setCell (Keeps.setCell (H1) H3 _) H3 _) H3 _).drewN _), jH (by first | exact Blk.other (Blk.other (Blk.other (H4.out) H2 _ _) H2 _ _) H2 _ _ | exact (Blk.other (Blk.other (Blk.other (H4.out) H2 _ _) H2 _ _) H2 _ _).keep ((Keeps.refl _).drewN _)), jH (by first | exact ((((H5.out).set 2 (.int .i64 (x1 / 16))).set 3 (.int .i64 (x1 % 16))).set 4 (.int .i64 (num16 x2 x3))) | exact ((((H5.out).set 2 (.int .i64 (x1 / 16))).set 3 (.int .i64 (x1 % 16))).set 4 (.int .i64 (num16 x2 x3))).keep ((Keeps.refl _).drewN _))⟩
  by_cases h22 : k ≤ 22
  ·cases lg with
   | false =>
    as_aux_lemma =>
    obtain rfl : zn = 2 := by have z := H7.out; simp at z; omega
    have hi : (⟨k, D, A, B, N, false⟩ : Ins) = ⟨k, 0, 0, 0, num8 x1, false⟩ := by rw [H8.out]; unfold rawIns; (repeat (first | rw [if_pos jo] | rw [if_neg jo])); try simp only [cond_true, cond_false]
    simp only [Ins.mk.injEq, true_and, and_true] at hi
    obtain ⟨e1, e2, e3, e4⟩ := hi
    obtain rfl := e1.symm
    obtain rfl := e2.symm
    obtain rfl := e3.symm
    obtain rfl := e4.symm
    have y1 := H9.out jo; have p1 := H1.cell y1
    go_wp2_with (go_at_call 67; refine (signed_one _ _ _ x1 _ (Keeps.cell ku7 y1) l1 u1).mono ?_; rintro e w' ⟨rfl, rfl⟩)
    all_goals
     go_meet
     case rel => exact ⟨rfl, jH Keeps.setCell (H1) H3 _, jH Blk.other (H4.out) H2 _ _, jH ((H5.out).set 4 (.int .i64 (num8 x1)))⟩
   | true =>
    as_aux_lemma =>
    obtain rfl : zn = 3 := by have z := H7.out; simp at z; omega
    have hi : (⟨k, D, A, B, N, true⟩ : Ins) = ⟨k, 0, 0, 0, num16 x1 x2, true⟩ := by rw [H8.out]; unfold rawIns; (repeat (first | rw [if_pos jo] | rw [if_neg jo])); try simp only [cond_true, cond_false]
    simp only [Ins.mk.injEq, true_and, and_true] at hi
    obtain ⟨e1, e2, e3, e4⟩ := hi
    obtain rfl := e1.symm
    obtain rfl := e2.symm
    obtain rfl := e3.symm
    obtain rfl := e4.symm
    have y1 := H9.out jo; have p1 := H1.cell y1
    have y2 := Hd.out jo; have p2 := H1.cell y2
    go_wp2_with (go_at_call 67; refine (signed_two _ _ _ x1 x2 _ (Keeps.cell ku7 y1) (Keeps.cell ku7 y2) l1 u1 l2 u2).mono ?_; rintro e w' ⟨rfl, nq, rfl⟩)
    all_goals
     go_meet
     case rel => exact ⟨rfl, jH (by first | exact Keeps.setCell (H1) H3 _ | exact (Keeps.setCell (H1) H3 _).drewN _), jH (by first | exact Blk.other (H4.out) H2 _ _ | exact (Blk.other (H4.out) H2 _ _).keep ((Keeps.refl _).drewN _)), jH (by first | exact ((H5.out).set 4 (.int .i64 (num16 x1 x2))) | exact ((H5.out).set 4 (.int .i64 (num16 x1 x2))).keep ((Keeps.refl _).drewN _))⟩
  by_cases h23 : k ≤ 23
  ·obtain rfl : lg = false := by
    cases lg with
    | false => rfl
    | true => have z := Hc.out rfl; omega
   as_aux_lemma =>
   obtain rfl : zn = 3 := by have z := H7.out; simp at z; omega
   have hi : (⟨k, D, A, B, N, false⟩ : Ins) = ⟨k, 0, 0, 0, num16 x1 x2, false⟩ := by rw [H8.out]; unfold rawIns; (repeat (first | rw [if_pos jo] | rw [if_neg jo])); try simp only [cond_true, cond_false]
   simp only [Ins.mk.injEq, true_and, and_true] at hi
   obtain ⟨e1, e2, e3, e4⟩ := hi
   obtain rfl := e1.symm
   obtain rfl := e2.symm
   obtain rfl := e3.symm
   obtain rfl := e4.symm
   have y1 := H9.out jo; have p1 := H1.cell y1
   have y2 := Hd.out jo; have p2 := H1.cell y2
   go_wp2_with (go_at_call 67; refine (signed_two _ _ _ x1 x2 _ (Keeps.cell ku7 y1) (Keeps.cell ku7 y2) l1 u1 l2 u2).mono ?_; rintro e w' ⟨rfl, nq, rfl⟩)
   all_goals
    go_meet
    case rel => exact ⟨rfl, jH (by first | exact Keeps.setCell (H1) H3 _ | exact (Keeps.setCell (H1) H3 _).drewN _), jH (by first | exact Blk.other (H4.out) H2 _ _ | exact (Blk.other (H4.out) H2 _ _).keep ((Keeps.refl _).drewN _)), jH (by first | exact ((H5.out).set 4 (.int .i64 (num16 x1 x2))) | exact ((H5.out).set 4 (.int .i64 (num16 x1 x2))).keep ((Keeps.refl _).drewN _))⟩
  obtain rfl : lg = false := by
   cases lg with
   | false => rfl
   | true => have z := Hc.out rfl; omega
  as_aux_lemma =>
  obtain rfl : zn = 3 := by have z := H7.out; simp at z; omega
  have hi : (⟨k, D, A, B, N, false⟩ : Ins) = ⟨k, 0, x1, 0, x2, false⟩ := by rw [H8.out]; unfold rawIns; (repeat (first | rw [if_pos jo] | rw [if_neg jo])); try simp only [cond_true, cond_false]
  simp only [Ins.mk.injEq, true_and, and_true] at hi
  obtain ⟨e1, e2, e3, e4⟩ := hi
  obtain rfl := e1.symm
  obtain rfl := e2.symm
  obtain rfl := e3.symm
  obtain rfl := e4.symm
  have y1 := H9.out jo; have p1 := H1.cell y1
  have y2 := Hd.out jo; have p2 := H1.cell y2
  go_wp2_with fail
  all_goals
   go_meet
   case rel => exact ⟨rfl, jH Keeps.setCell (Keeps.setCell (H1) H3 _) H3 _, jH Blk.other (Blk.other (H4.out) H2 _ _) H2 _ _, jH (((H5.out).set 2 (.int .i64 (x1))).set 4 (.int .i64 (x2)))⟩
 case rest =>
 obtain ⟨rfl, K4, K5, HQ⟩ := hcut
 clear i0 i1 i2 i3 i4 i5 f0 f1 f2 f3 f4 f5 K3
 obtain ⟨i0, i1, i2, i3, i4, i5⟩ := HQ.out.k6
 go_wp2_with fail
 refine (HC.out _).mono ?_
 rintro e w5 ⟨rfl, Hw⟩
 obtain ⟨Hh, K6⟩ := hid2 (K5.out.keep Hw) (HQ.out.keep Hw)
 have Hp := K4.out.trans Hw
 have hA := Hi.out.2.2 k0 hsh
 obtain ⟨F, hF⟩ : ∃ F, insFault (k : Int) D A B N lg = F := ⟨_, rfl⟩
 rw [hF] at hA ⊢
 have HA := jH hA
 clear i0 i1 i2 i3 i4 i5 hF hA Hw HC
 obtain ⟨i0, i1, i2, i3, i4, i5⟩ := K6.out.k6
 by_cases h0 : F = 0
 ·have q1 : (F == 0) = true := by simpa using h0
  have q2 : (F != 0) = false := by simpa using h0
  have H0 := jH h0
  clear h0
  obtain ⟨j0, j1, j2, j3, j4, j5⟩ := Hh.out.k6
  obtain ⟨n0, n1, n2, n3, n4, n5⟩ := Hh.out.t6
  have jl := Hh.out.lt
  go_wp2_with fail
  obtain ⟨wf, H6⟩ := jE ((((((w5.setCell ⟨w.heap.size, 0, none⟩ (.int .i64 k)).setCell ⟨w.heap.size, 1, none⟩ (.int .i64 D)).setCell ⟨w.heap.size, 2, none⟩ (.int .i64 A)).setCell ⟨w.heap.size, 3, none⟩ (.int .i64 B)).setCell ⟨w.heap.size, 4, none⟩ (.int .i64 N)).setCell ⟨w.heap.size, 5, none⟩ (.bool lg))
  rw [← H6]
  have Hb : Blk wf w.heap.size (.cells #[.int .i64 k, .int .i64 D, .int .i64 A, .int .i64 B, .int .i64 N, .bool lg] 64) := by rw [H6]; exact (((((Hh.out.set 0 _).set 1 _).set 2 _).set 3 _).set 4 _).set 5 _
  have Kf : Keeps w wf := by rw [H6]; exact Keeps.setCell (Keeps.setCell (Keeps.setCell (Keeps.setCell (Keeps.setCell (Keeps.setCell (Hp) (Nat.le_refl _) _) (Nat.le_refl _) _) (Nat.le_refl _) _) (Nat.le_refl _) _) (Nat.le_refl _) _) (Nat.le_refl _) _
  obtain ⟨a0, a1, a2, a3, a4, a5⟩ := Hb.k6
  clear H6 Hb j0 j1 j2 j3 j4 j5 n0 n1 n2 n3 n4 n5 jl
  exact bodyPost_ret (v := .tuple #[.agg #[.int .i64 k, .int .i64 D, .int .i64 A, .int .i64 B, .int .i64 N, .bool lg], .int .i64 zn, .int .i64 0]) (by simp [results, Tryd.results39, go_sem, a0, a1, a2, a3, a4, a5]) rfl ⟨by rw [HA.out, if_pos H0.out]; rfl, Kf⟩
 have q1 : (F == 0) = false := by simpa using h0
 have q2 : (F != 0) = true := by simpa using h0
 have H0 := jH h0
 clear h0 i0 i1 i2 i3 i4 i5
 obtain ⟨j0, j1, j2, j3, j4, j5⟩ := Hh.out.k6
 obtain ⟨n0, n1, n2, n3, n4, n5⟩ := Hh.out.t6
 have jl := Hh.out.lt
 go_wp2_with fail
 obtain ⟨wf, H6⟩ := jE ((((((w5.setCell ⟨w.heap.size, 0, none⟩ (.int .i64 0)).setCell ⟨w.heap.size, 1, none⟩ (.int .i64 0)).setCell ⟨w.heap.size, 2, none⟩ (.int .i64 0)).setCell ⟨w.heap.size, 3, none⟩ (.int .i64 0)).setCell ⟨w.heap.size, 4, none⟩ (.int .i64 0)).setCell ⟨w.heap.size, 5, none⟩ (.bool false))
 rw [← H6]
 have Hb : Blk wf w.heap.size (.cells #[.int .i64 0, .int .i64 0, .int .i64 0, .int .i64 0, .int .i64 0, .bool false] 64) := by rw [H6]; exact (((((Hh.out.set 0 _).set 1 _).set 2 _).set 3 _).set 4 _).set 5 _
 have Kf : Keeps w wf := by rw [H6]; exact Keeps.setCell (Keeps.setCell (Keeps.setCell (Keeps.setCell (Keeps.setCell (Keeps.setCell (Hp) (Nat.le_refl _) _) (Nat.le_refl _) _) (Nat.le_refl _) _) (Nat.le_refl _) _) (Nat.le_refl _) _) (Nat.le_refl _) _
 obtain ⟨a0, a1, a2, a3, a4, a5⟩ := Hb.k6
 clear H6 Hb j0 j1 j2 j3 j4 j5 n0 n1 n2 n3 n4 n5 jl
 exact bodyPost_ret (v := .tuple #[.agg #[.int .i64 0, .int .i64 0, .int .i64 0, .int .i64 0, .int .i64 0, .bool false], .int .i64 0, .int .i64 4]) (by simp [results, Tryd.results39, go_sem, a0, a1, a2, a3, a4, a5]) rfl ⟨by rw [HA.out, if_neg H0.out]; rfl, Kf⟩
end Go.Proofs.YtgdamggkaklhjaaDoor
