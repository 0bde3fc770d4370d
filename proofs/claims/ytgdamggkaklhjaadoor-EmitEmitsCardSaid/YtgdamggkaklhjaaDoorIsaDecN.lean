/-
isa.Decode at every address, of whatever bytes.
-/
import Derived.Test.YtgdamggkaklhjaaDoorIsaAt1
import Derived.Deep.DeepCutAuto
import Derived.Deep.CutBlock
set_option linter.all false
namespace Go.Proofs.YtgdamggkaklhjaaDoor
open Go.RowKit BH
set_option maxHeartbeats 1000000000
set_option maxRecDepth 100000
theorem decode_out (ad : Option Addr) (len cap : Nat) (a : Int) (w : World) (h : a < 0 ∨ (len : Int) ≤ a) :
  Calls Tryd.prog 52 #[.slice ad len cap, .int .i64 a] w (DecAns (zeroIns, 0, 2) w) := by
 by_cases h0 : a < 0
 ·have d0 : decide (a < 0) = true := by simpa using h0
  go_enter Tryd.func52, Tryd.ntmps52
  go_wp2
  exact bodyPost_ret (v := .tuple #[.agg #[.int .i64 0, .int .i64 0, .int .i64 0, .int .i64 0, .int .i64 0, .bool false], .int .i64 0, .int .i64 2]) (by simp [results, Tryd.results52, go_sem]) rfl ⟨rfl, (Keeps.refl _).alloc _⟩
 have d0 : decide (a < 0) = false := by simpa using h0
 have d1 : decide ((len : Int) ≤ a) = true := by simp; omega
 go_enter Tryd.func52, Tryd.ntmps52
 go_wp2
 exact bodyPost_ret (v := .tuple #[.agg #[.int .i64 0, .int .i64 0, .int .i64 0, .int .i64 0, .int .i64 0, .bool false], .int .i64 0, .int .i64 2]) (by simp [results, Tryd.results52, go_sem]) rfl ⟨rfl, (Keeps.refl _).alloc _⟩
theorem decode_any (v : Value) (l : List UInt8) (x : Int) (w : World) (ht : Tab w) (hs : Siz w) (hb : Bytes w v l) (hl : l.length ≤ 140737488355328) :
  Calls Tryd.prog 52 #[v, .int .i64 x] w (DecAns (decAns l x) w) := by
 obtain ⟨ao, HD, rfl, K4, h2, h4, h3⟩ := hb
 by_cases hx : x < 0 ∨ (l.length : Int) ≤ x
 ·rw [show decAns l x = (zeroIns, 0, 2) by unfold decAns; rw [if_pos hx]]
  exact decode_out ao l.length HD x w hx
 obtain ⟨a, rfl⟩ : ∃ a : Nat, x = a := ⟨x.toNat, by omega⟩
 obtain ⟨b, HE, rfl, hc⟩ := h3 jo
 have c := byte_cells hc
 have K5 : HD ≤ 9223372036854775807 := by unfold maxLen at h2; omega
 have ha : a + 1 ≤ l.length := by omega
 have y0 := c a _ jo rfl
 obtain ⟨l0, u0⟩ := byteAt_bd l a
 obtain ⟨l1, u1⟩ := byteAt_bd l (a + 1)
 obtain ⟨l2, u2⟩ := byteAt_bd l (a + 2)
 obtain ⟨l3, u3⟩ := byteAt_bd l (a + 3)
 obtain ⟨k, lg, HF⟩ : ∃ k lg, kindOf (byteAt l a) = (k, lg) := ⟨_, _, rfl⟩
 obtain ⟨HO, HP⟩ := kindOf_bd (byteAt l a) l0 u0
 rw [HF] at HO HP
 have Hk : Hid (lg = true → 18 ≤ k ∧ k ≤ 22) := jH HP
 obtain ⟨zn, HQ, K2⟩ : ∃ z : Nat, insSize k lg = z ∧ (1 ≤ k → (k ≤ 4 ∧ z = 1 + lg.toNat) ∨ (k = 5 ∧ z = 4 + lg.toNat) ∨ ((k = 16 ∨ k = 17 ∨ k = 22) ∧ z = 2 + lg.toNat) ∨ (4 < k ∧ k ≠ 5 ∧ k ≠ 16 ∧ k ≠ 17 ∧ k ≠ 22 ∧ z = 3 + lg.toNat)) := by
  by_cases h : 1 ≤ k
  ·obtain ⟨z, e1, e2⟩ := size_is h HO lg
   exact ⟨z, e1, fun _ => e2⟩
  obtain rfl : k = 0 := by omega
  exact ⟨(insSize 0 lg).toNat, by cases lg <;> decide, fun q => absurd q h⟩
 obtain ⟨RI, Ht⟩ := jE (rawIns k lg (byteAt l (a + 1)) (byteAt l (a + 2)) (byteAt l (a + 3)))
 have Hm := decAns_is HF jo HQ Ht
 obtain ⟨rk, rl⟩ := raw_kl k lg (byteAt l (a + 1)) (byteAt l (a + 2)) (byteAt l (a + 3))
 rw [← Ht] at rk rl
 obtain ⟨K, D, A, B, N, L⟩ := RI
 dsimp only at rk rl Hm
 subst rk
 have K6 := rl.symm
 subst K6
 obtain ⟨R, hR⟩ := jE (decAns l a)
 rw [← hR] at Hm ⊢
 obtain ⟨x1, HG⟩ := jE (byteAt l (a + 1))
 obtain ⟨x2, HH⟩ := jE (byteAt l (a + 2))
 obtain ⟨x3, HI⟩ := jE (byteAt l (a + 3))
 have Hd : Hid (a + 1 < l.length → w.cell? ⟨b, HE + (a + 1), none⟩ = some (.int .u8 x1)) := jH fun h => by rw [HG]; exact c (a + 1) _ h jo
 have Hi : Hid (a + 2 < l.length → w.cell? ⟨b, HE + (a + 1) + 1, none⟩ = some (.int .u8 x2)) := jH fun h => by rw [HH]; exact c (a + 2) _ h jo
 have HR : Hid (a + 3 < l.length → w.cell? ⟨b, HE + (a + 1) + 1 + 1, none⟩ = some (.int .u8 x3)) := jH fun h => by rw [HI]; exact c (a + 3) _ h jo
 rw [← HG, ← HH, ← HI] at Ht
 rw [← HG] at l1 u1
 rw [← HH] at l2 u2
 rw [← HI] at l3 u3
 generalize byteAt l a = x0 at *
 obtain ⟨He, Hb, Hp, HC⟩ := hid4 Ht K2 Hm (fun W (hW : Keeps w W) => check_any k D A B N lg W (ht.keep hW))
 have HK := jH (kind_any x0 _ (ht.keep ((Keeps.refl w).alloc (.cells #[.int .i64 0, .int .i64 0, .int .i64 0, .int .i64 0, .int .i64 0, .bool false] 64))))
 rw [HF] at HK
 obtain ⟨q1, q2⟩ := shapeN_eq k HO
 obtain ⟨c0, c1, c2⟩ := ht k jo
 rw [q1] at c2
 have z0 := hs (shapeN k) q2
 have Hu : (zn : Int) = sizeT (shapeN k) + if lg then 1 else 0 := by rw [← HQ]; rfl
 have K3 := sizeT_bd (shapeN k) q2
 obtain ⟨SH, HS⟩ := jE (shapeN k)
 rw [← HS] at c2 z0 Hu K3 q2
 have Hf := jH HS
 generalize sizeT SH = ZB at *
 generalize opT k = op at *
 generalize longT k = lop at *
 have hbw : b < w.heap.size := lt_of_cell y0
 have hG : 1 < w.heap.size := lt_of_cell c0
 have hG2 : 0 < w.heap.size := lt_of_cell z0
 have hn : decide ((a : Int) < 0) = false := by simp
 clear c hc h3 h4 h2 hx HF HP HQ K2 Ht Hm hR HG HH HI ht hs q1 HS
 go_enter Tryd.func52, Tryd.ntmps52
 go_wp2_with fail
 refine HK.out.mono ?_
 rintro e w1 ⟨rfl, HT⟩
 have Hr : Keeps w w1 := ((Keeps.refl w).alloc _).trans HT
 have Hc : Hid (Blk w1 w.heap.size (.cells #[.int .i64 0, .int .i64 0, .int .i64 0, .int .i64 0, .int .i64 0, .bool false] 64)) := jH (blk_up' HT)
 clear HK HT
 by_cases k0 : k = 0
 ·have K7 := jH (Hp.out.1 k0)
  subst k0
  obtain ⟨j0, j1, j2, j3, j4, j5⟩ := Hc.out.k6
  obtain ⟨n0, n1, n2, n3, n4, n5⟩ := Hc.out.t6
  have jl := Hc.out.lt
  go_wp2_with fail
  obtain ⟨wf, H5⟩ := jE ((((((w1.setCell ⟨w.heap.size, 0, none⟩ (.int .i64 0)).setCell ⟨w.heap.size, 1, none⟩ (.int .i64 0)).setCell ⟨w.heap.size, 2, none⟩ (.int .i64 0)).setCell ⟨w.heap.size, 3, none⟩ (.int .i64 0)).setCell ⟨w.heap.size, 4, none⟩ (.int .i64 0)).setCell ⟨w.heap.size, 5, none⟩ (.bool false))
  rw [← H5]
  have Hj : Blk wf w.heap.size (.cells #[.int .i64 0, .int .i64 0, .int .i64 0, .int .i64 0, .int .i64 0, .bool false] 64) := by rw [H5]; exact (((((Hc.out.set 0 _).set 1 _).set 2 _).set 3 _).set 4 _).set 5 _
  have Kf : Keeps w wf := by rw [H5]; exact Keeps.setCell (Keeps.setCell (Keeps.setCell (Keeps.setCell (Keeps.setCell (Keeps.setCell (Hr) (Nat.le_refl _) _) (Nat.le_refl _) _) (Nat.le_refl _) _) (Nat.le_refl _) _) (Nat.le_refl _) _) (Nat.le_refl _) _
  obtain ⟨a0, a1, a2, a3, a4, a5⟩ := Hj.k6
  clear H5 Hj j0 j1 j2 j3 j4 j5 n0 n1 n2 n3 n4 n5 jl
  exact bodyPost_ret (v := .tuple #[.agg #[.int .i64 0, .int .i64 0, .int .i64 0, .int .i64 0, .int .i64 0, .bool false], .int .i64 0, .int .i64 3]) (by simp [results, Tryd.results52, go_sem, a0, a1, a2, a3, a4, a5]) rfl ⟨by rw [K7.out]; rfl, Kf⟩
 have k1 : 1 ≤ k := by omega
 have hk0 : ((k : Int) == 0) = false := by rw [beq_eq_false_iff_ne]; omega
 have HU : 1 ≤ zn ∧ zn ≤ 5 := by have z := Hb.out k1; cases lg <;> simp at z <;> omega
 obtain ⟨zb1, zb2⟩ := HU
 obtain ⟨K8, K9⟩ := K3
 have d0 := Hr.cell c0
 have d1 := Hr.cell c1
 have d2 := Hr.cell c2
 have hkz : (k : Int) < 25 := by omega
 have hsz : (SH : Int) < 12 := by omega
 clear c0 c1 c2 y0
 go_upto_region 7 with fail
 obtain ⟨w2, Hv⟩ := jE (w1.alloc (.cells #[.int .u8 op, .int .u8 lop, .int .i64 SH] 123))
 obtain ⟨g9, HJ⟩ := jE (w1.heap.size)
 have Hs : Hid (Blk w2 g9 (.cells #[.int .u8 op, .int .u8 lop, .int .i64 SH] 123)) := jH (by rw [Hv]; exact Blk.top' _ _ HJ)
 have Hq : Keeps w w2 := by rw [Hv]; exact Hr.alloc _
 have Hw : Hid (Blk w2 w.heap.size (.cells #[.int .i64 0, .int .i64 0, .int .i64 0, .int .i64 0, .int .i64 0, .bool false] 64)) := jH (by rw [Hv]; exact Hc.out.keep ((Keeps.refl _).alloc _))
 have Ka : w.heap.size < g9 := by rw [HJ]; exact Hc.out.lt
 rw [← Hv, ← HJ]
 clear Hv HJ d0 d1 d2 Hc
 have e2 := Hs.out.cell (j := 2) rfl
 have d3 := Hq.cell z0
 go_upto_if 41 with fail
 clear e2 d3 z0 Hr
 go_cut [10] (fun s10 wx => s10 = .int .i64 zn ∧ Hid (Keeps w2 wx))
 case first =>
  cases lg with
  | false =>
   have hz : ZB = (zn : Int) := by simp at Hu; omega
   subst hz
   go_wp2_with fail
   go_meet
   case rel => exact ⟨rfl, jH (Keeps.refl _)⟩
  | true =>
   have hz : IntKind.i64.wrap (ZB + 1) = (zn : Int) := by simp at Hu; rw [IntKind.wrap_i64]; omega
   clear Hu
   go_wp2_with fail
   go_meet
   case rel => exact ⟨rfl, jH (Keeps.refl _)⟩
 case rest =>
 obtain ⟨rfl, Hl⟩ := hcut
 obtain ⟨wq, Kb⟩ := jE wc
 subst Kb
 obtain ⟨H9, Hx⟩ := hid2 (Hw.out.keep Hl.out) (Hs.out.keep Hl.out)
 have H1 := Hq.trans Hl.out
 clear Hw Hs Hq Hl Hu K8 K9
 by_cases hsh : l.length < a + zn
 ·have HV : (l.length : Int) < (a : Int) + (zn : Int) := by omega
  obtain ⟨j0, j1, j2, j3, j4, j5⟩ := H9.out.k6
  obtain ⟨n0, n1, n2, n3, n4, n5⟩ := H9.out.t6
  have jl := H9.out.lt
  go_wp2_with fail
  obtain ⟨wf, H5⟩ := jE ((((((wq.setCell ⟨w.heap.size, 0, none⟩ (.int .i64 0)).setCell ⟨w.heap.size, 1, none⟩ (.int .i64 0)).setCell ⟨w.heap.size, 2, none⟩ (.int .i64 0)).setCell ⟨w.heap.size, 3, none⟩ (.int .i64 0)).setCell ⟨w.heap.size, 4, none⟩ (.int .i64 0)).setCell ⟨w.heap.size, 5, none⟩ (.bool false))
  rw [← H5]
  have Hj : Blk wf w.heap.size (.cells #[.int .i64 0, .int .i64 0, .int .i64 0, .int .i64 0, .int .i64 0, .bool false] 64) := by rw [H5]; exact (((((H9.out.set 0 _).set 1 _).set 2 _).set 3 _).set 4 _).set 5 _
  have Kf : Keeps w wf := by rw [H5]; exact Keeps.setCell (Keeps.setCell (Keeps.setCell (Keeps.setCell (Keeps.setCell (Keeps.setCell (H1) (Nat.le_refl _) _) (Nat.le_refl _) _) (Nat.le_refl _) _) (Nat.le_refl _) _) (Nat.le_refl _) _) (Nat.le_refl _) _
  obtain ⟨a0, a1, a2, a3, a4, a5⟩ := Hj.k6
  clear H5 Hj j0 j1 j2 j3 j4 j5 n0 n1 n2 n3 n4 n5 jl
  exact bodyPost_ret (v := .tuple #[.agg #[.int .i64 0, .int .i64 0, .int .i64 0, .int .i64 0, .int .i64 0, .bool false], .int .i64 0, .int .i64 5]) (by simp [results, Tryd.results52, go_sem, a0, a1, a2, a3, a4, a5]) rfl ⟨by rw [Hp.out.2.1 k0 hsh]; rfl, Kf⟩
 have HV : ¬ (l.length : Int) < (a : Int) + (zn : Int) := by omega
 obtain ⟨o1, HW⟩ := jE (HE + (a + 1))
 rw [← HW] at Hd Hi HR
 obtain ⟨cp, Hy⟩ := jE (HD - (a + 1))
 obtain ⟨H4, Kc⟩ := hid2 Hy HW
 clear Hy HW
 go_upto_region 12 with fail
 go_cut [11] (fun s11 wx => ∃ p : Option Addr, s11 = .slice p (zn - 1) cp ∧ Hid (1 < zn → p = some ⟨b, o1, none⟩) ∧ Hid (Keeps wq wx))
 case first =>
  have he : a + zn - (a + 1) = zn - 1 := by omega
  by_cases hce : HD - (a + 1) = 0
  ·have Kd : Hid (¬ 1 < zn) := jH jo
   have HX : cp = 0 := by rw [H4.out]; exact hce
   subst HX
   go_wp2_with fail
   go_meet
   case rel => exact ⟨_, rfl, jH (fun q => absurd q Kd.out), jH (Keeps.refl _)⟩
  go_wp2_with fail
  go_meet
  case rel => exact ⟨_, by rw [H4.out], jH (fun _ => by rw [Kc.out]), jH (Keeps.refl _)⟩
 case rest =>
 obtain ⟨pp, rfl, Hh, Hl⟩ := hcut
 have HY := H1.trans Hl.out
 obtain ⟨w5, HL⟩ := jE (wc.alloc (.cells #[.int .i64 k, .int .i64 0, .int .i64 0, .int .i64 0, .int .i64 0, .bool lg] 64))
 obtain ⟨gi, HZ⟩ := jE (wc.heap.size)
 have HM : Keeps wq w5 := by rw [HL]; exact Hl.out.alloc _
 have Ha : Hid (Blk w5 gi (.cells #[.int .i64 k, .int .i64 0, .int .i64 0, .int .i64 0, .int .i64 0, .bool lg] 64)) := jH (by rw [HL]; exact Blk.top' _ _ HZ)
 obtain ⟨Hg, K0⟩ := hid2 (H9.out.keep HM) (Hx.out.keep HM)
 have H2 : w.heap.size ≠ gi := by have h1 := H9.out.lt; have h2 := Hl.out.size; omega
 have H3 : w.heap.size ≤ gi := by have h1 := HY.size; omega
 have Ke : b ≠ gi := by have h1 := HY.size; omega
 have Kg : w.heap.size < wc.heap.size := by have h1 := H9.out.lt; have h2 := Hl.out.size; omega
 have Hz := H1.trans HM
 clear H1
 have H1 := Hz
 have hbW : b < w5.heap.size := by have h1 := H1.size; omega
 go_upto_region 14 with fail
 rw [← HL, ← HZ]
 clear HL HZ Hz HM Hl HY H9 Hx Kg
 obtain ⟨i0, i1, i2, i3, i4, i5⟩ := Ha.out.k6
 obtain ⟨f0, f1, f2, f3, f4, f5⟩ := Ha.out.t6
 have Kh := Ha.out.lt
 have e2 := K0.out.cell (j := 2) rfl
 go_upto_block 0 with fail
 clear e2
 go_cut [10, 11, 62] (fun s10 s11 s62 wx => s10 = .int .i64 zn ∧ Hid (Keeps w wx) ∧ Hid (Blk wx w.heap.size (.cells #[.int .i64 0, .int .i64 0, .int .i64 0, .int .i64 0, .int .i64 0, .bool false] 64)) ∧ Hid (Blk wx gi (.cells #[.int .i64 k, .int .i64 D, .int .i64 A, .int .i64 B, .int .i64 N, .bool lg] 64)))
 case first =>
  by_cases h4 : k ≤ 4
  ·obtain rfl : lg = false := by
    cases lg with
    | false => rfl
    | true => have z := Hk.out rfl; omega
   as_aux_lemma =>
   obtain rfl : zn = 1 := by have z := Hb.out k1; simp at z; omega
   obtain rfl : SH = 1 := by rw [Hf.out]; rcases (show k = 1 ∨ k = 2 ∨ k = 3 ∨ k = 4 by omega) with rfl | rfl | rfl | rfl <;> rfl
   have hi : (⟨k, D, A, B, N, false⟩ : Ins) = ⟨k, 0, 0, 0, 0, false⟩ := by rw [He.out]; unfold rawIns; (repeat (first | rw [if_pos jo] | rw [if_neg jo])); try simp only [cond_true, cond_false]
   simp only [Ins.mk.injEq, true_and, and_true] at hi
   obtain ⟨e1, e2, e3, e4⟩ := hi
   obtain rfl := e1.symm
   obtain rfl := e2.symm
   obtain rfl := e3.symm
   obtain rfl := e4.symm
   go_wp2_with fail
   all_goals
    go_meet
    case rel => exact ⟨rfl, jH (H1), jH (Hg.out), jH (Ha.out)⟩
  by_cases h5 : k ≤ 5
  ·obtain rfl : lg = false := by
    cases lg with
    | false => rfl
    | true => have z := Hk.out rfl; omega
   as_aux_lemma =>
   obtain rfl : zn = 4 := by have z := Hb.out k1; simp at z; omega
   obtain rfl : SH = 2 := by rw [Hf.out]; rcases (show k = 5 by omega) with rfl <;> rfl
   have hi : (⟨k, D, A, B, N, false⟩ : Ins) = ⟨k, x1, 0, 0, num16 x2 x3, false⟩ := by rw [He.out]; unfold rawIns; (repeat (first | rw [if_pos jo] | rw [if_neg jo])); try simp only [cond_true, cond_false]
   simp only [Ins.mk.injEq, true_and, and_true] at hi
   obtain ⟨e1, e2, e3, e4⟩ := hi
   obtain rfl := e1.symm
   obtain rfl := e2.symm
   obtain rfl := e3.symm
   obtain rfl := e4.symm
   obtain rfl := Hh.out jo
   have y1 := Hd.out jo; have p1 := H1.cell y1
   have y2 := Hi.out jo; have p2 := H1.cell y2
   have y3 := HR.out jo; have p3 := H1.cell y3
   have Hn : 3 ≤ cp := by have := H4.out; omega
   have H6 : (3 : Int) ≤ (cp : Int) := by omega
   have H7 : (1 : Int) < (cp : Int) := by omega
   have H8 : ¬ cp = 1 := by omega
   go_upto_region 17 with fail
   go_region_held3 (fun w' => w'.cell? ⟨b, o1, none⟩ = some (.int .u8 x1) ∧ w'.cell? ⟨b, o1 + 1, none⟩ = some (.int .u8 x2) ∧ w'.cell? ⟨b, o1 + 1 + 1, none⟩ = some (.int .u8 x3))
    (exact ⟨Keeps.cell ku7 y1, Keeps.cell ku7 y2, Keeps.cell ku7 y3⟩)
    ((go_at_call 73; refine (number_two _ _ _ x2 x3 _ (Keeps.cell ku7 y2) (Keeps.cell ku7 y3) l2 u2 l3 u3).mono ?_; rintro e w' ⟨rfl, nq, rfl⟩))
   rw [show IntKind.i64.wrap x1 = x1 from IntWalk.i64_in _ jo]
   go_wp2_with fail
   all_goals
    go_meet
    case rel => exact ⟨rfl, jH (Keeps.setCell (Keeps.setCell ((H1.drewN _)) H3 _) H3 _), jH (Blk.other (Blk.other (Hg.out.keep ((Keeps.refl _).drewN _)) H2 _ _) H2 _ _), jH ((((Ha.out.keep ((Keeps.refl _).drewN _))).set 1 (.int .i64 (x1))).set 4 (.int .i64 (num16 x2 x3)))⟩
  by_cases h6 : k ≤ 6
  ·obtain rfl : lg = false := by
    cases lg with
    | false => rfl
    | true => have z := Hk.out rfl; omega
   as_aux_lemma =>
   obtain rfl : zn = 3 := by have z := Hb.out k1; simp at z; omega
   obtain rfl : SH = 3 := by rw [Hf.out]; rcases (show k = 6 by omega) with rfl <;> rfl
   have hi : (⟨k, D, A, B, N, false⟩ : Ins) = ⟨k, x1 / 16, x1 % 16, 0, num8 x2, false⟩ := by rw [He.out]; unfold rawIns; (repeat (first | rw [if_pos jo] | rw [if_neg jo])); try simp only [cond_true, cond_false]
   simp only [Ins.mk.injEq, true_and, and_true] at hi
   obtain ⟨e1, e2, e3, e4⟩ := hi
   obtain rfl := e1.symm
   obtain rfl := e2.symm
   obtain rfl := e3.symm
   obtain rfl := e4.symm
   obtain rfl := Hh.out jo
   have y1 := Hd.out jo; have p1 := H1.cell y1
   have y2 := Hi.out jo; have p2 := H1.cell y2
   have Hn : 2 ≤ cp := by have := H4.out; omega
   have H6 : (2 : Int) ≤ (cp : Int) := by omega
   have H7 : (1 : Int) < (cp : Int) := by omega
   have H8 : ¬ cp = 1 := by omega
   go_upto_region 19 with fail
   go_region_held3 (fun w' => w'.cell? ⟨b, o1, none⟩ = some (.int .u8 x1) ∧ w'.cell? ⟨b, o1 + 1, none⟩ = some (.int .u8 x2))
    (exact ⟨Keeps.cell ku7 y1, Keeps.cell ku7 y2⟩)
    ((go_at_call 73; refine (number_one _ _ _ x2 _ (Keeps.cell ku7 y2) l2 u2).mono ?_; rintro e w' ⟨rfl, rfl⟩))
   rw [show IntKind.i64.wrap (x1 / 16) = x1 / 16 from IntWalk.i64_in _ jo, show IntKind.i64.wrap (bits BinOp.and IntKind.u8 x1 15) = x1 % 16 by rw [and15 x1 l1 u1]; exact IntWalk.i64_in _ jo]
   go_wp2_with fail
   all_goals
    go_meet
    case rel => exact ⟨rfl, jH (Keeps.setCell (Keeps.setCell (Keeps.setCell ((H1.drewN _)) H3 _) H3 _) H3 _), jH (Blk.other (Blk.other (Blk.other (Hg.out.keep ((Keeps.refl _).drewN _)) H2 _ _) H2 _ _) H2 _ _), jH (((((Ha.out.keep ((Keeps.refl _).drewN _))).set 1 (.int .i64 (x1 / 16))).set 2 (.int .i64 (x1 % 16))).set 4 (.int .i64 (num8 x2)))⟩
  by_cases h13 : k ≤ 13
  ·obtain rfl : lg = false := by
    cases lg with
    | false => rfl
    | true => have z := Hk.out rfl; omega
   as_aux_lemma =>
   obtain rfl : zn = 3 := by have z := Hb.out k1; simp at z; omega
   obtain rfl : SH = 4 := by rw [Hf.out]; rcases (show k = 7 ∨ k = 8 ∨ k = 9 ∨ k = 10 ∨ k = 11 ∨ k = 12 ∨ k = 13 by omega) with rfl | rfl | rfl | rfl | rfl | rfl | rfl <;> rfl
   have hi : (⟨k, D, A, B, N, false⟩ : Ins) = ⟨k, x1 / 16, x1 % 16, x2, 0, false⟩ := by rw [He.out]; unfold rawIns; (repeat (first | rw [if_pos jo] | rw [if_neg jo])); try simp only [cond_true, cond_false]
   simp only [Ins.mk.injEq, true_and, and_true] at hi
   obtain ⟨e1, e2, e3, e4⟩ := hi
   obtain rfl := e1.symm
   obtain rfl := e2.symm
   obtain rfl := e3.symm
   obtain rfl := e4.symm
   obtain rfl := Hh.out jo
   have y1 := Hd.out jo; have p1 := H1.cell y1
   have y2 := Hi.out jo; have p2 := H1.cell y2
   have Hn : 2 ≤ cp := by have := H4.out; omega
   have H6 : (2 : Int) ≤ (cp : Int) := by omega
   have H7 : (1 : Int) < (cp : Int) := by omega
   have H8 : ¬ cp = 1 := by omega
   go_upto_region 21 with fail
   go_region_held3 (fun w' => w'.cell? ⟨b, o1, none⟩ = some (.int .u8 x1) ∧ w'.cell? ⟨b, o1 + 1, none⟩ = some (.int .u8 x2))
    (exact ⟨Keeps.cell ku7 y1, Keeps.cell ku7 y2⟩)
    (fail)
   rw [show IntKind.i64.wrap (x1 / 16) = x1 / 16 from IntWalk.i64_in _ jo, show IntKind.i64.wrap (bits BinOp.and IntKind.u8 x1 15) = x1 % 16 by rw [and15 x1 l1 u1]; exact IntWalk.i64_in _ jo, show IntKind.i64.wrap x2 = x2 from IntWalk.i64_in _ jo]
   go_wp2_with fail
   all_goals
    go_meet
    case rel => exact ⟨rfl, jH (Keeps.setCell (Keeps.setCell (Keeps.setCell ((H1.drewN _)) H3 _) H3 _) H3 _), jH (Blk.other (Blk.other (Blk.other (Hg.out.keep ((Keeps.refl _).drewN _)) H2 _ _) H2 _ _) H2 _ _), jH (((((Ha.out.keep ((Keeps.refl _).drewN _))).set 1 (.int .i64 (x1 / 16))).set 2 (.int .i64 (x1 % 16))).set 3 (.int .i64 (x2)))⟩
  by_cases h14 : k ≤ 14
  ·obtain rfl : lg = false := by
    cases lg with
    | false => rfl
    | true => have z := Hk.out rfl; omega
   as_aux_lemma =>
   obtain rfl : zn = 3 := by have z := Hb.out k1; simp at z; omega
   obtain rfl : SH = 3 := by rw [Hf.out]; rcases (show k = 14 by omega) with rfl <;> rfl
   have hi : (⟨k, D, A, B, N, false⟩ : Ins) = ⟨k, x1 / 16, x1 % 16, 0, num8 x2, false⟩ := by rw [He.out]; unfold rawIns; (repeat (first | rw [if_pos jo] | rw [if_neg jo])); try simp only [cond_true, cond_false]
   simp only [Ins.mk.injEq, true_and, and_true] at hi
   obtain ⟨e1, e2, e3, e4⟩ := hi
   obtain rfl := e1.symm
   obtain rfl := e2.symm
   obtain rfl := e3.symm
   obtain rfl := e4.symm
   obtain rfl := Hh.out jo
   have y1 := Hd.out jo; have p1 := H1.cell y1
   have y2 := Hi.out jo; have p2 := H1.cell y2
   have Hn : 2 ≤ cp := by have := H4.out; omega
   have H6 : (2 : Int) ≤ (cp : Int) := by omega
   have H7 : (1 : Int) < (cp : Int) := by omega
   have H8 : ¬ cp = 1 := by omega
   go_upto_region 19 with fail
   go_region_held3 (fun w' => w'.cell? ⟨b, o1, none⟩ = some (.int .u8 x1) ∧ w'.cell? ⟨b, o1 + 1, none⟩ = some (.int .u8 x2))
    (exact ⟨Keeps.cell ku7 y1, Keeps.cell ku7 y2⟩)
    ((go_at_call 73; refine (number_one _ _ _ x2 _ (Keeps.cell ku7 y2) l2 u2).mono ?_; rintro e w' ⟨rfl, rfl⟩))
   rw [show IntKind.i64.wrap (x1 / 16) = x1 / 16 from IntWalk.i64_in _ jo, show IntKind.i64.wrap (bits BinOp.and IntKind.u8 x1 15) = x1 % 16 by rw [and15 x1 l1 u1]; exact IntWalk.i64_in _ jo]
   go_wp2_with fail
   all_goals
    go_meet
    case rel => exact ⟨rfl, jH (Keeps.setCell (Keeps.setCell (Keeps.setCell ((H1.drewN _)) H3 _) H3 _) H3 _), jH (Blk.other (Blk.other (Blk.other (Hg.out.keep ((Keeps.refl _).drewN _)) H2 _ _) H2 _ _) H2 _ _), jH (((((Ha.out.keep ((Keeps.refl _).drewN _))).set 1 (.int .i64 (x1 / 16))).set 2 (.int .i64 (x1 % 16))).set 4 (.int .i64 (num8 x2)))⟩
  by_cases h15 : k ≤ 15
  ·obtain rfl : lg = false := by
    cases lg with
    | false => rfl
    | true => have z := Hk.out rfl; omega
   as_aux_lemma =>
   obtain rfl : zn = 3 := by have z := Hb.out k1; simp at z; omega
   obtain rfl : SH = 5 := by rw [Hf.out]; rcases (show k = 15 by omega) with rfl <;> rfl
   have hi : (⟨k, D, A, B, N, false⟩ : Ins) = ⟨k, 0, x1 % 16, x1 / 16, num8 x2, false⟩ := by rw [He.out]; unfold rawIns; (repeat (first | rw [if_pos jo] | rw [if_neg jo])); try simp only [cond_true, cond_false]
   simp only [Ins.mk.injEq, true_and, and_true] at hi
   obtain ⟨e1, e2, e3, e4⟩ := hi
   obtain rfl := e1.symm
   obtain rfl := e2.symm
   obtain rfl := e3.symm
   obtain rfl := e4.symm
   obtain rfl := Hh.out jo
   have y1 := Hd.out jo; have p1 := H1.cell y1
   have y2 := Hi.out jo; have p2 := H1.cell y2
   have Hn : 2 ≤ cp := by have := H4.out; omega
   have H6 : (2 : Int) ≤ (cp : Int) := by omega
   have H7 : (1 : Int) < (cp : Int) := by omega
   have H8 : ¬ cp = 1 := by omega
   go_upto_region 23 with fail
   go_region_held3 (fun w' => w'.cell? ⟨b, o1, none⟩ = some (.int .u8 x1) ∧ w'.cell? ⟨b, o1 + 1, none⟩ = some (.int .u8 x2))
    (exact ⟨Keeps.cell ku7 y1, Keeps.cell ku7 y2⟩)
    ((go_at_call 73; refine (number_one _ _ _ x2 _ (Keeps.cell ku7 y2) l2 u2).mono ?_; rintro e w' ⟨rfl, rfl⟩))
   rw [show IntKind.i64.wrap (x1 / 16) = x1 / 16 from IntWalk.i64_in _ jo, show IntKind.i64.wrap (bits BinOp.and IntKind.u8 x1 15) = x1 % 16 by rw [and15 x1 l1 u1]; exact IntWalk.i64_in _ jo]
   go_wp2_with fail
   all_goals
    go_meet
    case rel => exact ⟨rfl, jH (Keeps.setCell (Keeps.setCell (Keeps.setCell ((H1.drewN _)) H3 _) H3 _) H3 _), jH (Blk.other (Blk.other (Blk.other (Hg.out.keep ((Keeps.refl _).drewN _)) H2 _ _) H2 _ _) H2 _ _), jH (((((Ha.out.keep ((Keeps.refl _).drewN _))).set 3 (.int .i64 (x1 / 16))).set 2 (.int .i64 (x1 % 16))).set 4 (.int .i64 (num8 x2)))⟩
  by_cases h16 : k ≤ 16
  ·obtain rfl : lg = false := by
    cases lg with
    | false => rfl
    | true => have z := Hk.out rfl; omega
   as_aux_lemma =>
   obtain rfl : zn = 2 := by have z := Hb.out k1; simp at z; omega
   obtain rfl : SH = 6 := by rw [Hf.out]; rcases (show k = 16 by omega) with rfl <;> rfl
   have hi : (⟨k, D, A, B, N, false⟩ : Ins) = ⟨k, x1, 0, 0, 0, false⟩ := by rw [He.out]; unfold rawIns; (repeat (first | rw [if_pos jo] | rw [if_neg jo])); try simp only [cond_true, cond_false]
   simp only [Ins.mk.injEq, true_and, and_true] at hi
   obtain ⟨e1, e2, e3, e4⟩ := hi
   obtain rfl := e1.symm
   obtain rfl := e2.symm
   obtain rfl := e3.symm
   obtain rfl := e4.symm
   obtain rfl := Hh.out jo
   have y1 := Hd.out jo; have p1 := H1.cell y1
   go_wp2_with fail
   all_goals
    go_meet
    case rel => exact ⟨rfl, jH (Keeps.setCell (H1) H3 _), jH (Blk.other (Hg.out) H2 _ _), jH ((Ha.out).set 1 (.int .i64 (x1)))⟩
  by_cases h17 : k ≤ 17
  ·obtain rfl : lg = false := by
    cases lg with
    | false => rfl
    | true => have z := Hk.out rfl; omega
   as_aux_lemma =>
   obtain rfl : zn = 2 := by have z := Hb.out k1; simp at z; omega
   obtain rfl : SH = 7 := by rw [Hf.out]; rcases (show k = 17 by omega) with rfl <;> rfl
   have hi : (⟨k, D, A, B, N, false⟩ : Ins) = ⟨k, 0, x1, 0, 0, false⟩ := by rw [He.out]; unfold rawIns; (repeat (first | rw [if_pos jo] | rw [if_neg jo])); try simp only [cond_true, cond_false]
   simp only [Ins.mk.injEq, true_and, and_true] at hi
   obtain ⟨e1, e2, e3, e4⟩ := hi
   obtain rfl := e1.symm
   obtain rfl := e2.symm
   obtain rfl := e3.symm
   obtain rfl := e4.symm
   obtain rfl := Hh.out jo
   have y1 := Hd.out jo; have p1 := H1.cell y1
   go_wp2_with fail
   all_goals
    go_meet
    case rel => exact ⟨rfl, jH (Keeps.setCell (H1) H3 _), jH (Blk.other (Hg.out) H2 _ _), jH ((Ha.out).set 2 (.int .i64 (x1)))⟩
  by_cases h21 : k ≤ 21
  ·cases lg with
   | false =>
    as_aux_lemma =>
    obtain rfl : zn = 3 := by have z := Hb.out k1; simp at z; omega
    obtain rfl : SH = 8 := by rw [Hf.out]; rcases (show k = 18 ∨ k = 19 ∨ k = 20 ∨ k = 21 by omega) with rfl | rfl | rfl | rfl <;> rfl
    have hi : (⟨k, D, A, B, N, false⟩ : Ins) = ⟨k, 0, x1 / 16, x1 % 16, num8 x2, false⟩ := by rw [He.out]; unfold rawIns; (repeat (first | rw [if_pos jo] | rw [if_neg jo])); try simp only [cond_true, cond_false]
    simp only [Ins.mk.injEq, true_and, and_true] at hi
    obtain ⟨e1, e2, e3, e4⟩ := hi
    obtain rfl := e1.symm
    obtain rfl := e2.symm
    obtain rfl := e3.symm
    obtain rfl := e4.symm
    obtain rfl := Hh.out jo
    have y1 := Hd.out jo; have p1 := H1.cell y1
    have y2 := Hi.out jo; have p2 := H1.cell y2
    have Hn : 2 ≤ cp := by have := H4.out; omega
    have H6 : (2 : Int) ≤ (cp : Int) := by omega
    have H7 : (1 : Int) < (cp : Int) := by omega
    have H8 : ¬ cp = 1 := by omega
    go_upto_region 29 with fail
    go_region_held3 (fun w' => w'.cell? ⟨b, o1, none⟩ = some (.int .u8 x1) ∧ w'.cell? ⟨b, o1 + 1, none⟩ = some (.int .u8 x2))
     (exact ⟨Keeps.cell ku7 y1, Keeps.cell ku7 y2⟩)
     ((go_at_call 73; refine (number_one _ _ _ x2 _ (Keeps.cell ku7 y2) l2 u2).mono ?_; rintro e w' ⟨rfl, rfl⟩))
    rw [show IntKind.i64.wrap (x1 / 16) = x1 / 16 from IntWalk.i64_in _ jo, show IntKind.i64.wrap (bits BinOp.and IntKind.u8 x1 15) = x1 % 16 by rw [and15 x1 l1 u1]; exact IntWalk.i64_in _ jo]
    go_wp2_with fail
    all_goals
     go_meet
     case rel => exact ⟨rfl, jH (Keeps.setCell (Keeps.setCell (Keeps.setCell ((H1.drewN _)) H3 _) H3 _) H3 _), jH (Blk.other (Blk.other (Blk.other (Hg.out.keep ((Keeps.refl _).drewN _)) H2 _ _) H2 _ _) H2 _ _), jH (((((Ha.out.keep ((Keeps.refl _).drewN _))).set 2 (.int .i64 (x1 / 16))).set 3 (.int .i64 (x1 % 16))).set 4 (.int .i64 (num8 x2)))⟩
   | true =>
    as_aux_lemma =>
    obtain rfl : zn = 4 := by have z := Hb.out k1; simp at z; omega
    obtain rfl : SH = 8 := by rw [Hf.out]; rcases (show k = 18 ∨ k = 19 ∨ k = 20 ∨ k = 21 by omega) with rfl | rfl | rfl | rfl <;> rfl
    have hi : (⟨k, D, A, B, N, true⟩ : Ins) = ⟨k, 0, x1 / 16, x1 % 16, num16 x2 x3, true⟩ := by rw [He.out]; unfold rawIns; (repeat (first | rw [if_pos jo] | rw [if_neg jo])); try simp only [cond_true, cond_false]
    simp only [Ins.mk.injEq, true_and, and_true] at hi
    obtain ⟨e1, e2, e3, e4⟩ := hi
    obtain rfl := e1.symm
    obtain rfl := e2.symm
    obtain rfl := e3.symm
    obtain rfl := e4.symm
    obtain rfl := Hh.out jo
    have y1 := Hd.out jo; have p1 := H1.cell y1
    have y2 := Hi.out jo; have p2 := H1.cell y2
    have y3 := HR.out jo; have p3 := H1.cell y3
    have Hn : 3 ≤ cp := by have := H4.out; omega
    have H6 : (3 : Int) ≤ (cp : Int) := by omega
    have H7 : (1 : Int) < (cp : Int) := by omega
    have H8 : ¬ cp = 1 := by omega
    go_upto_region 29 with fail
    go_region_held3 (fun w' => w'.cell? ⟨b, o1, none⟩ = some (.int .u8 x1) ∧ w'.cell? ⟨b, o1 + 1, none⟩ = some (.int .u8 x2) ∧ w'.cell? ⟨b, o1 + 1 + 1, none⟩ = some (.int .u8 x3))
     (exact ⟨Keeps.cell ku7 y1, Keeps.cell ku7 y2, Keeps.cell ku7 y3⟩)
     ((go_at_call 73; refine (number_two _ _ _ x2 x3 _ (Keeps.cell ku7 y2) (Keeps.cell ku7 y3) l2 u2 l3 u3).mono ?_; rintro e w' ⟨rfl, nq, rfl⟩))
    rw [show IntKind.i64.wrap (x1 / 16) = x1 / 16 from IntWalk.i64_in _ jo, show IntKind.i64.wrap (bits BinOp.and IntKind.u8 x1 15) = x1 % 16 by rw [and15 x1 l1 u1]; exact IntWalk.i64_in _ jo]
    go_wp2_with fail
    all_goals
     go_meet
     case rel => exact ⟨rfl, jH (Keeps.setCell (Keeps.setCell (Keeps.setCell ((H1.drewN _)) H3 _) H3 _) H3 _), jH (Blk.other (Blk.other (Blk.other (Hg.out.keep ((Keeps.refl _).drewN _)) H2 _ _) H2 _ _) H2 _ _), jH (((((Ha.out.keep ((Keeps.refl _).drewN _))).set 2 (.int .i64 (x1 / 16))).set 3 (.int .i64 (x1 % 16))).set 4 (.int .i64 (num16 x2 x3)))⟩
  by_cases h22 : k ≤ 22
  ·cases lg with
   | false =>
    as_aux_lemma =>
    obtain rfl : zn = 2 := by have z := Hb.out k1; simp at z; omega
    obtain rfl : SH = 9 := by rw [Hf.out]; rcases (show k = 22 by omega) with rfl <;> rfl
    have hi : (⟨k, D, A, B, N, false⟩ : Ins) = ⟨k, 0, 0, 0, num8 x1, false⟩ := by rw [He.out]; unfold rawIns; (repeat (first | rw [if_pos jo] | rw [if_neg jo])); try simp only [cond_true, cond_false]
    simp only [Ins.mk.injEq, true_and, and_true] at hi
    obtain ⟨e1, e2, e3, e4⟩ := hi
    obtain rfl := e1.symm
    obtain rfl := e2.symm
    obtain rfl := e3.symm
    obtain rfl := e4.symm
    obtain rfl := Hh.out jo
    have y1 := Hd.out jo; have p1 := H1.cell y1
    go_wp2_with (go_at_call 73; refine (number_one _ _ _ x1 _ (Keeps.cell ku7 y1) l1 u1).mono ?_; rintro e w' ⟨rfl, rfl⟩)
    all_goals
     go_meet
     case rel => exact ⟨rfl, jH (Keeps.setCell (H1) H3 _), jH (Blk.other (Hg.out) H2 _ _), jH ((Ha.out).set 4 (.int .i64 (num8 x1)))⟩
   | true =>
    as_aux_lemma =>
    obtain rfl : zn = 3 := by have z := Hb.out k1; simp at z; omega
    obtain rfl : SH = 9 := by rw [Hf.out]; rcases (show k = 22 by omega) with rfl <;> rfl
    have hi : (⟨k, D, A, B, N, true⟩ : Ins) = ⟨k, 0, 0, 0, num16 x1 x2, true⟩ := by rw [He.out]; unfold rawIns; (repeat (first | rw [if_pos jo] | rw [if_neg jo])); try simp only [cond_true, cond_false]
    simp only [Ins.mk.injEq, true_and, and_true] at hi
    obtain ⟨e1, e2, e3, e4⟩ := hi
    obtain rfl := e1.symm
    obtain rfl := e2.symm
    obtain rfl := e3.symm
    obtain rfl := e4.symm
    obtain rfl := Hh.out jo
    have y1 := Hd.out jo; have p1 := H1.cell y1
    have y2 := Hi.out jo; have p2 := H1.cell y2
    have Hn : 2 ≤ cp := by have := H4.out; omega
    have H6 : (2 : Int) ≤ (cp : Int) := by omega
    have H7 : (1 : Int) < (cp : Int) := by omega
    have H8 : ¬ cp = 1 := by omega
    go_wp2_with (go_at_call 73; refine (number_two _ _ _ x1 x2 _ (Keeps.cell ku7 y1) (Keeps.cell ku7 y2) l1 u1 l2 u2).mono ?_; rintro e w' ⟨rfl, nq, rfl⟩)
    all_goals
     go_meet
     case rel => exact ⟨rfl, jH (Keeps.setCell ((H1.drewN _)) H3 _), jH (Blk.other (Hg.out.keep ((Keeps.refl _).drewN _)) H2 _ _), jH (((Ha.out.keep ((Keeps.refl _).drewN _))).set 4 (.int .i64 (num16 x1 x2)))⟩
  by_cases h23 : k ≤ 23
  ·obtain rfl : lg = false := by
    cases lg with
    | false => rfl
    | true => have z := Hk.out rfl; omega
   as_aux_lemma =>
   obtain rfl : zn = 3 := by have z := Hb.out k1; simp at z; omega
   obtain rfl : SH = 10 := by rw [Hf.out]; rcases (show k = 23 by omega) with rfl <;> rfl
   have hi : (⟨k, D, A, B, N, false⟩ : Ins) = ⟨k, 0, 0, 0, num16 x1 x2, false⟩ := by rw [He.out]; unfold rawIns; (repeat (first | rw [if_pos jo] | rw [if_neg jo])); try simp only [cond_true, cond_false]
   simp only [Ins.mk.injEq, true_and, and_true] at hi
   obtain ⟨e1, e2, e3, e4⟩ := hi
   obtain rfl := e1.symm
   obtain rfl := e2.symm
   obtain rfl := e3.symm
   obtain rfl := e4.symm
   obtain rfl := Hh.out jo
   have y1 := Hd.out jo; have p1 := H1.cell y1
   have y2 := Hi.out jo; have p2 := H1.cell y2
   have Hn : 2 ≤ cp := by have := H4.out; omega
   have H6 : (2 : Int) ≤ (cp : Int) := by omega
   have H7 : (1 : Int) < (cp : Int) := by omega
   have H8 : ¬ cp = 1 := by omega
   go_wp2_with (go_at_call 73; refine (number_two _ _ _ x1 x2 _ (Keeps.cell ku7 y1) (Keeps.cell ku7 y2) l1 u1 l2 u2).mono ?_; rintro e w' ⟨rfl, nq, rfl⟩)
   all_goals
    go_meet
    case rel => exact ⟨rfl, jH (Keeps.setCell ((H1.drewN _)) H3 _), jH (Blk.other (Hg.out.keep ((Keeps.refl _).drewN _)) H2 _ _), jH (((Ha.out.keep ((Keeps.refl _).drewN _))).set 4 (.int .i64 (num16 x1 x2)))⟩
  obtain rfl : lg = false := by
   cases lg with
   | false => rfl
   | true => have z := Hk.out rfl; omega
  as_aux_lemma =>
  obtain rfl : zn = 3 := by have z := Hb.out k1; simp at z; omega
  obtain rfl : SH = 11 := by rw [Hf.out]; rcases (show k = 24 by omega) with rfl <;> rfl
  have hi : (⟨k, D, A, B, N, false⟩ : Ins) = ⟨k, 0, x1, 0, x2, false⟩ := by rw [He.out]; unfold rawIns; (repeat (first | rw [if_pos jo] | rw [if_neg jo])); try simp only [cond_true, cond_false]
  simp only [Ins.mk.injEq, true_and, and_true] at hi
  obtain ⟨e1, e2, e3, e4⟩ := hi
  obtain rfl := e1.symm
  obtain rfl := e2.symm
  obtain rfl := e3.symm
  obtain rfl := e4.symm
  obtain rfl := Hh.out jo
  have y1 := Hd.out jo; have p1 := H1.cell y1
  have y2 := Hi.out jo; have p2 := H1.cell y2
  have Hn : 2 ≤ cp := by have := H4.out; omega
  have H6 : (2 : Int) ≤ (cp : Int) := by omega
  have H7 : (1 : Int) < (cp : Int) := by omega
  have H8 : ¬ cp = 1 := by omega
  go_upto_region 34 with fail
  go_region_held3 (fun w' => w'.cell? ⟨b, o1, none⟩ = some (.int .u8 x1) ∧ w'.cell? ⟨b, o1 + 1, none⟩ = some (.int .u8 x2))
   (exact ⟨Keeps.cell ku7 y1, Keeps.cell ku7 y2⟩)
   (fail)
  rw [show IntKind.i64.wrap x1 = x1 from IntWalk.i64_in _ jo, show IntKind.i64.wrap x2 = x2 from IntWalk.i64_in _ jo]
  go_wp2_with fail
  all_goals
   go_meet
   case rel => exact ⟨rfl, jH (Keeps.setCell (Keeps.setCell ((H1.drewN _)) H3 _) H3 _), jH (Blk.other (Blk.other (Hg.out.keep ((Keeps.refl _).drewN _)) H2 _ _) H2 _ _), jH ((((Ha.out.keep ((Keeps.refl _).drewN _))).set 2 (.int .i64 (x1))).set 4 (.int .i64 (x2)))⟩
 case rest =>
 obtain ⟨rfl, K1, Ki, Hs⟩ := hcut
 clear i0 i1 i2 i3 i4 i5 f0 f1 f2 f3 f4 f5 Kh
 obtain ⟨i0, i1, i2, i3, i4, i5⟩ := Hs.out.k6
 go_wp2_with fail
 refine (HC.out _ (by first | exact K1.out | exact K1.out.drew)).mono ?_
 rintro e w8 ⟨rfl, HN⟩
 obtain ⟨Ho, Kj⟩ := hid2 (Ki.out.keep HN) (Hs.out.keep HN)
 have HB := K1.out.trans HN
 have hA := Hp.out.2.2 k0 hsh
 obtain ⟨F, hF⟩ : ∃ F, insFault (k : Int) D A B N lg = F := ⟨_, rfl⟩
 rw [hF] at hA ⊢
 have HA := jH hA
 clear i0 i1 i2 i3 i4 i5 hF hA HN HC
 obtain ⟨i0, i1, i2, i3, i4, i5⟩ := Kj.out.k6
 by_cases h0 : F = 0
 ·have q1 : (F == 0) = true := by simpa using h0
  have q2 : (F != 0) = false := by simpa using h0
  have H0 := jH h0
  clear h0
  obtain ⟨j0, j1, j2, j3, j4, j5⟩ := Ho.out.k6
  obtain ⟨n0, n1, n2, n3, n4, n5⟩ := Ho.out.t6
  have jl := Ho.out.lt
  go_wp2_with fail
  obtain ⟨wf, H5⟩ := jE ((((((w8.setCell ⟨w.heap.size, 0, none⟩ (.int .i64 k)).setCell ⟨w.heap.size, 1, none⟩ (.int .i64 D)).setCell ⟨w.heap.size, 2, none⟩ (.int .i64 A)).setCell ⟨w.heap.size, 3, none⟩ (.int .i64 B)).setCell ⟨w.heap.size, 4, none⟩ (.int .i64 N)).setCell ⟨w.heap.size, 5, none⟩ (.bool lg))
  rw [← H5]
  have Hj : Blk wf w.heap.size (.cells #[.int .i64 k, .int .i64 D, .int .i64 A, .int .i64 B, .int .i64 N, .bool lg] 64) := by rw [H5]; exact (((((Ho.out.set 0 _).set 1 _).set 2 _).set 3 _).set 4 _).set 5 _
  have Kf : Keeps w wf := by rw [H5]; exact Keeps.setCell (Keeps.setCell (Keeps.setCell (Keeps.setCell (Keeps.setCell (Keeps.setCell (HB) (Nat.le_refl _) _) (Nat.le_refl _) _) (Nat.le_refl _) _) (Nat.le_refl _) _) (Nat.le_refl _) _) (Nat.le_refl _) _
  obtain ⟨a0, a1, a2, a3, a4, a5⟩ := Hj.k6
  clear H5 Hj j0 j1 j2 j3 j4 j5 n0 n1 n2 n3 n4 n5 jl
  exact bodyPost_ret (v := .tuple #[.agg #[.int .i64 k, .int .i64 D, .int .i64 A, .int .i64 B, .int .i64 N, .bool lg], .int .i64 zn, .int .i64 0]) (by simp [results, Tryd.results52, go_sem, a0, a1, a2, a3, a4, a5]) rfl ⟨by rw [HA.out, if_pos H0.out]; rfl, Kf⟩
 have q1 : (F == 0) = false := by simpa using h0
 have q2 : (F != 0) = true := by simpa using h0
 have H0 := jH h0
 clear h0 i0 i1 i2 i3 i4 i5
 obtain ⟨j0, j1, j2, j3, j4, j5⟩ := Ho.out.k6
 obtain ⟨n0, n1, n2, n3, n4, n5⟩ := Ho.out.t6
 have jl := Ho.out.lt
 go_wp2_with fail
 obtain ⟨wf, H5⟩ := jE ((((((w8.setCell ⟨w.heap.size, 0, none⟩ (.int .i64 0)).setCell ⟨w.heap.size, 1, none⟩ (.int .i64 0)).setCell ⟨w.heap.size, 2, none⟩ (.int .i64 0)).setCell ⟨w.heap.size, 3, none⟩ (.int .i64 0)).setCell ⟨w.heap.size, 4, none⟩ (.int .i64 0)).setCell ⟨w.heap.size, 5, none⟩ (.bool false))
 rw [← H5]
 have Hj : Blk wf w.heap.size (.cells #[.int .i64 0, .int .i64 0, .int .i64 0, .int .i64 0, .int .i64 0, .bool false] 64) := by rw [H5]; exact (((((Ho.out.set 0 _).set 1 _).set 2 _).set 3 _).set 4 _).set 5 _
 have Kf : Keeps w wf := by rw [H5]; exact Keeps.setCell (Keeps.setCell (Keeps.setCell (Keeps.setCell (Keeps.setCell (Keeps.setCell (HB) (Nat.le_refl _) _) (Nat.le_refl _) _) (Nat.le_refl _) _) (Nat.le_refl _) _) (Nat.le_refl _) _) (Nat.le_refl _) _
 obtain ⟨a0, a1, a2, a3, a4, a5⟩ := Hj.k6
 clear H5 Hj j0 j1 j2 j3 j4 j5 n0 n1 n2 n3 n4 n5 jl
 exact bodyPost_ret (v := .tuple #[.agg #[.int .i64 0, .int .i64 0, .int .i64 0, .int .i64 0, .int .i64 0, .bool false], .int .i64 0, .int .i64 4]) (by simp [results, Tryd.results52, go_sem, a0, a1, a2, a3, a4, a5]) rfl ⟨by rw [HA.out, if_neg H0.out]; rfl, Kf⟩
end Go.Proofs.YtgdamggkaklhjaaDoor
