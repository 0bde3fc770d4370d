/-
The document's EmittedOf: a program whose functions and bloc
-/
import Derived.Test.YtgdamggkaklhjaaDoorSamePr
import Derived.Test.YtgdamggkaklhjaaDoorIsaB
import Derived.Test.YtgdamggkaklhjaaDoorFlDoc3
set_option linter.all false
namespace Go.Proofs.YtgdamggkaklhjaaDoor
open Go.RowKit BH
set_option maxHeartbeats 1000000000
set_option maxRecDepth 100000
theorem emitted_any {m : Img} {l : List Pa} {mv lv : Value} {w : World} (hm : ImgAt w mv m) (hl : PaAt w lv l) (hG : recE m = 0 → fitP (recF m) l = true → EmG m (recF m) l ∧ EmD m (recF m) l) (hnb : recE m = 0 → (recF m).Blocks.length ≤ 1000000000 ∧ (recF m).Firsts.length ≤ 1000000000) :
  Calls Tryd.prog 6 #[mv, lv] w (EmAns m l w) := by
 have Qx := hm
 have RX := hl
 obtain ⟨v0, v1, v2, v3, v4, rfl, i0, i1, i2, i3, i4⟩ := hm
 obtain ⟨x0, Tk, Qy⟩ := Arr.form i0
 obtain ⟨x1, RY, KQ⟩ := Arr.form i1
 obtain ⟨tv2, RZ, -⟩ := i2
 obtain ⟨x2, Tl, MM⟩ := Arr.form RZ
 obtain ⟨x3, S0, Qz⟩ := Arr.form i3
 obtain ⟨x4, Tm, Tn⟩ := Arr.form i4
 subst Qy KQ MM Qz Tn
 obtain ⟨tvl, To, S1⟩ := hl
 obtain ⟨lo, Tp, rfl, -, -, -, l4⟩ := To
 obtain ⟨W, hW, MN, PZ, Q0, -⟩ := two_blocks' w (.cells #[.slice x0 m.Text.length Tk, .slice x1 m.Funcs.length RY, .slice x2 m.Tables.length Tl, .slice x3 m.Data.length S0, .slice x4 m.Lines.length Tm, .int .i64 m.Entry] 28) (.cells #[.slice none 0 0, .slice none 0 0, .slice none 0 0, .slice none 0 0, .slice none 0 0, .int .i64 0] 28)
 obtain ⟨bM, KR⟩ := jE (w.heap.size)
 rw [← KR] at PZ Q0
 obtain ⟨bR, KS⟩ := jE (bM + 1)
 rw [← KS] at Q0
 have MO := jH (recRef_any (Qx.keep MN))
 obtain ⟨m0, m1, m2, m3, m4, m5⟩ := PZ.k6
 obtain ⟨KT, K3, Hl, Q1⟩ := hid4 PZ Q0 MN (Qx.keep MN)
 obtain ⟨QA, HG, S2, S3⟩ := hid4 (RX.keep MN) hG hnb l4
 obtain ⟨S4, HW, MP, QB⟩ := hid4 S1 hW KR KS
 have H4 : w.heap.size ≤ bR := by omega
 clear Qx RX i0 i1 RZ i3 i4 S1 l4 MN PZ Q0 hG hnb hW KR KS
 go_enter Tryd.func6, Tryd.ntmps6
 go_upto_region 1 with fail
 rw [← HW.out, ← MP.out, ← QB.out]
 clear HW MP
 go_upto_region 2 with (go_at_call 16; refine MO.out.mono ?_; rintro e wa ⟨fv, rfl, Tq, HA⟩; obtain ⟨f0, f1, f2, rfl, Tr, Ts, QC⟩ := Tq; obtain ⟨Tt, Tu, Tv, KU, MQ⟩ := Tr; obtain ⟨b0, MR, Qy⟩ := Arr.form KU; obtain ⟨Tw, KV, MS⟩ := Ts; obtain ⟨b1, MT, KQ⟩ := Arr.form KV; obtain ⟨b2, MU, MM⟩ := Arr.form QC; subst Qy KQ MM)
 clear m0 m1 m2 m3 m4 m5 MO
 have Q2 : Hid (FlowAt wa (.agg #[.slice b0 (recA m).Blocks.length MR, .slice b1 (recA m).Tables.length MT, .slice b2 (recA m).Firsts.length MU]) (recA m)) := jH ⟨_, _, _, rfl, ⟨Tt, Tu, Tv, KU, MQ⟩, ⟨Tw, KV, MS⟩, QC⟩
 clear KU MQ KV MS QC
 obtain ⟨wb, MV⟩ := jE (wa.alloc (.cells #[.slice b0 (recA m).Blocks.length MR, .slice b1 (recA m).Tables.length MT, .slice b2 (recA m).Firsts.length MU] 45))
 obtain ⟨b7, Hh⟩ := jE (wa.heap.size)
 have KC : Hid (Blk wb b7 (.cells #[.slice b0 (recA m).Blocks.length MR, .slice b1 (recA m).Tables.length MT, .slice b2 (recA m).Firsts.length MU] 45)) := jH (by rw [MV]; exact Blk.top' _ _ Hh)
 have Kg : Hid (Keeps W wb) := jH (by rw [MV]; exact HA.alloc _)
 have KD : Hid (FlowAt wb (.agg #[.slice b0 (recA m).Blocks.length MR, .slice b1 (recA m).Tables.length MT, .slice b2 (recA m).Firsts.length MU]) (recA m)) := jH (by rw [MV]; exact Q2.out.keep ((Keeps.refl _).alloc _))
 rw [← MV, ← Hh]
 clear MV Hh HA Q2
 obtain ⟨RE, QD⟩ := jE (recE m)
 rw [← QD]
 have KW := jH QD
 clear QD
 by_cases K4 : RE = 0
 case neg =>
  have t1 : (RE == 0) = false := by simpa using K4
  have t2 : (RE != 0) = true := by simpa using K4
  obtain ⟨z0, z1, z2, z3, z4, z5⟩ := (K3.out.keep Kg.out).k6
  obtain ⟨u0, u1, u2, u3, u4, u5⟩ := (K3.out.keep Kg.out).t6
  have ul := (K3.out.keep Kg.out).lt
  go_wp2_with fail
  obtain ⟨wf, Hf⟩ := jE ((((((wb.setCell ⟨bR, 0, none⟩ (.slice none 0 0)).setCell ⟨bR, 1, none⟩ (.slice none 0 0)).setCell ⟨bR, 2, none⟩ (.slice none 0 0)).setCell ⟨bR, 3, none⟩ (.slice none 0 0)).setCell ⟨bR, 4, none⟩ (.slice none 0 0)).setCell ⟨bR, 5, none⟩ (.int .i64 0))
  rw [← Hf]
  have HI : Blk wf bR (.cells #[.slice none 0 0, .slice none 0 0, .slice none 0 0, .slice none 0 0, .slice none 0 0, .int .i64 0] 28) := by rw [Hf]; exact (Blk.set (Blk.set (Blk.set (Blk.set (Blk.set (Blk.set (K3.out.keep Kg.out) 0 (.slice none 0 0)) 1 (.slice none 0 0)) 2 (.slice none 0 0)) 3 (.slice none 0 0)) 4 (.slice none 0 0)) 5 (.int .i64 0))
  have KE : Keeps w wf := by rw [Hf]; exact (Keeps.setCell (Keeps.setCell (Keeps.setCell (Keeps.setCell (Keeps.setCell (Keeps.setCell (Hl.out.trans Kg.out) H4 _) H4 _) H4 _) H4 _) H4 _) H4 _)
  obtain ⟨e0, e1, e2, e3, e4, e5⟩ := HI.k6
  clear Hf HI z0 u0 z1 u1 z2 u2 z3 u3 z4 u4 z5 u5 ul
  exact bodyPost_ret (v := .tuple #[.agg #[.slice none 0 0, .slice none 0 0, .slice none 0 0, .slice none 0 0, .slice none 0 0, .int .i64 0], .slice none 0 0, .int .i64 RE]) (by simp [results, Tryd.results6, go_sem, e0, e1, e2, e3, e4, e5]) rfl (EmAns.bad (by unfold emE; rw [if_pos (by rw [← KW.out]; exact K4)]; exact KW.out.symm) K4 KE)
 case pos =>
 subst K4
 have S5 : recA m = recF m := by unfold recA; rw [if_pos KW.out.symm]
 rw [S5] at KC KD ⊢
 clear S5
 obtain ⟨QE, QG⟩ := S2.out KW.out.symm
 obtain ⟨f, hf⟩ := jE (recF m)
 have HF := jH hf
 rw [← hf] at KC KD QE QG ⊢
 have KX := partsFit_any KD.out (QA.out.keep Kg.out) QE QG
 obtain ⟨QF, KY⟩ := jE (fitP f l)
 rw [← KY] at KX
 obtain ⟨Hi, Mq⟩ := hid2 KX KY
 obtain ⟨H5, KZ⟩ := jE (f.Blocks.length)
 obtain ⟨H7, M0⟩ := jE (f.Firsts.length)
 obtain ⟨M1, Kh⟩ := jE (f.Tables.length)
 rw [← KZ] at KC KD Hi QE ⊢
 rw [← M0] at KC KD Hi QG ⊢
 rw [← Kh] at KC KD Hi ⊢
 obtain ⟨n0, n1, n2⟩ := KC.out.k3
 obtain ⟨Hv, Ki, Hw⟩ := hid3 KZ M0 Kh
 clear hf KX KZ M0 Kh KY
 cases Kj : QF
 case false =>
  have M2 : Hid (emE m l = 8) := jH (by unfold emE; rw [if_neg (by rw [← KW.out]; simp), ← HF.out, ← Mq.out, if_neg (by rw [Kj]; simp)])
  rw [Kj] at Hi
  clear Kj
  go_upto_region 5 with (go_at_call 17; refine Hi.out.mono ?_; rintro e wc ⟨rfl, M3⟩)
  have Hc := jH (Kg.out.trans M3)
  clear M3 n0 n1 n2
  obtain ⟨z0, z1, z2, z3, z4, z5⟩ := (K3.out.keep Hc.out).k6
  obtain ⟨u0, u1, u2, u3, u4, u5⟩ := (K3.out.keep Hc.out).t6
  have ul := (K3.out.keep Hc.out).lt
  go_wp2_with fail
  obtain ⟨wf, Hf⟩ := jE ((((((wc.setCell ⟨bR, 0, none⟩ (.slice none 0 0)).setCell ⟨bR, 1, none⟩ (.slice none 0 0)).setCell ⟨bR, 2, none⟩ (.slice none 0 0)).setCell ⟨bR, 3, none⟩ (.slice none 0 0)).setCell ⟨bR, 4, none⟩ (.slice none 0 0)).setCell ⟨bR, 5, none⟩ (.int .i64 0))
  rw [← Hf]
  have HI : Blk wf bR (.cells #[.slice none 0 0, .slice none 0 0, .slice none 0 0, .slice none 0 0, .slice none 0 0, .int .i64 0] 28) := by rw [Hf]; exact (Blk.set (Blk.set (Blk.set (Blk.set (Blk.set (Blk.set (K3.out.keep Hc.out) 0 (.slice none 0 0)) 1 (.slice none 0 0)) 2 (.slice none 0 0)) 3 (.slice none 0 0)) 4 (.slice none 0 0)) 5 (.int .i64 0))
  have KE : Keeps w wf := by rw [Hf]; exact (Keeps.setCell (Keeps.setCell (Keeps.setCell (Keeps.setCell (Keeps.setCell (Keeps.setCell (Hl.out.trans Hc.out) H4 _) H4 _) H4 _) H4 _) H4 _) H4 _)
  obtain ⟨e0, e1, e2, e3, e4, e5⟩ := HI.k6
  clear Hf HI z0 u0 z1 u1 z2 u2 z3 u3 z4 u4 z5 u5 ul
  exact bodyPost_ret (v := .tuple #[.agg #[.slice none 0 0, .slice none 0 0, .slice none 0 0, .slice none 0 0, .slice none 0 0, .int .i64 0], .slice none 0 0, .int .i64 8]) (by simp [results, Tryd.results6, go_sem, e0, e1, e2, e3, e4, e5]) rfl (EmAns.bad M2.out jd KE)
 case true =>
 rw [Kj] at Hi
 have MW : Hid (fitP f l = true) := jH (by rw [← Mq.out]; exact Kj)
 clear Kj Mq
 go_upto_region 7 with (go_at_call 17; refine Hi.out.mono ?_; rintro e wc ⟨rfl, M3⟩)
 have Hc := jH (Kg.out.trans M3)
 obtain ⟨MX, HJ, QH, MY⟩ := hid4 (KT.out.keep Hc.out) (KC.out.keep M3) (KD.out.keep M3) (Q1.out.keep Hc.out)
 obtain ⟨Hx, KF, QI⟩ := hid3 (K3.out.keep Hc.out) (Hl.out.trans Hc.out) (QA.out.keep Hc.out)
 obtain ⟨wZ, Tx⟩ := jE wc
 subst Tx
 clear M3 n0 n1 n2 Kg KD KC Hc Hi KT Q1 K3 QA
 obtain ⟨KG, Q3⟩ : Hid (EmG m f l) ∧ Hid (EmD m f l) := by (have z := HG.out KW.out.symm (by rw [← HF.out]; exact MW.out)); rw [← HF.out] at z; exact ⟨jH z.1, jH z.2⟩
 clear HG S2
 obtain ⟨ti, Mr, Ms, Mt, Mu⟩ := infoParts info_int
 have n0 := HJ.out.cell (j := 0) rfl
 have n2 := HJ.out.cell (j := 2) rfl
 go_upto_region 8 with (at_make; refine wpList_make_full _ rfl _ _ 25 rfl wZ.heap.size 3 ti (.int .i64 0) 1 Tryd.underlying25 Mr Ms Mt .i64 .i64 _ _ H5 rfl rfl rfl rfl (by rw [Mu]; omega) (by unfold maxLen; omega) (Nat.le_refl _) ?_; intro w2 KH MZ)
 have P0 : Keeps wZ w2 := below_grown MZ (Nat.le_refl _) fun q e => by cases e
 have n2 := P0.cell n2
 go_upto_region 9 with (at_make; refine wpList_make_full _ rfl _ _ 25 rfl w2.heap.size 3 ti (.int .i64 0) 1 Tryd.underlying25 Mr Ms Mt .i64 .i64 _ _ H7 rfl rfl rfl rfl (by rw [Mu]; omega) (by unfold maxLen; omega) (Nat.le_refl _) ?_; intro w3 KI P1)
 have QJ : Keeps w2 w3 := below_grown P1 (Nat.le_refl _) fun q e => by cases e
 obtain ⟨c2, S6, Q4⟩ := OwnC.fresh (fun _ => 0) 3 P0 (ownMadeG iV (0 : Int) rfl KH) (Nat.le_refl _)
 obtain ⟨c3, Mv, P2⟩ := OwnC.fresh c2 4 QJ (ownMadeG iV (0 : Int) rfl KI) (Nat.le_refl _)
 obtain ⟨gF, QK⟩ := jE (wZ.heap.size)
 obtain ⟨gB, QL⟩ := jE (w2.heap.size)
 rw [← QK] at Q4 ⊢
 rw [← QL] at P2 ⊢
 have S7 : DSt wZ (.slice none 0 0) (.slice (some ⟨gF, 0, none⟩) H5 H5) (.slice (some ⟨gB, 0, none⟩) H7 H7) (.slice none 0 0) [] (List.replicate H5 0) (List.replicate H7 0) [] c3 w3 :=
  ⟨P0.trans QJ, ((S6 (fun _ => False)).trans (Mv (fun _ => False))).zero (Nat.le_refl _) fun _ _ => rfl, OwnC.nil _ _ _ _ _ _ _, by rw [QK] at Q4 ⊢; exact Q4.turn (Mv (fun _ => False)) (fun q => q), ⟨by rw [QL] at P2 ⊢; exact P2.1.mono P0.size, P2.2⟩, OwnC.nil _ _ _ _ _ _ _⟩
 obtain ⟨NP, Q5⟩ := jE (l.length)
 have M4 := S3
 have P3 := S4
 rw [← Q5] at M4 P3 ⊢
 have M5 := jH Q5
 have Ty : NP ≤ 1000000000 := by rw [Q5]; exact KG.out.pr.parts
 have P4 : Hid (DSt wZ (.slice none 0 0) (.slice (some ⟨gF, 0, none⟩) H5 H5) (.slice (some ⟨gB, 0, none⟩) H7 H7) (.slice none 0 0) ((layK f l 0).its.map pcO) (layK f l 0).fst (layK f l 0).beg [] c3 w3) := jH (by rw [layK_zero]; unfold ly0; dsimp only; rw [← Hv.out, ← Ki.out]; exact S7)
 clear Q5 S3 S4 P0 QJ S6 Q4 Mv P2 KH KI MZ P1 QK QL Mr Ms Mt Mu n0 n2 S7
 go_upto_block 0 with fail
 go_cut [9] (fun s9 wx => ∃ (a : Option Addr) (cp : Nat) (cc : Nat → Nat), s9 = .slice a (lay f l).its.length cp ∧ Hid (DSt wZ (.slice a (lay f l).its.length cp) (.slice (some ⟨gF, 0, none⟩) H5 H5) (.slice (some ⟨gB, 0, none⟩) H7 H7) (.slice none 0 0) ((lay f l).its.map pcO) (lay f l).fst (lay f l).beg [] cc wx))
 case first =>
  go_wp2_with fail
  as_aux_lemma =>
  go_loopw [12, 9] (fun s12 s9 wr => ∃ (i : Nat) (a : Option Addr) (cp : Nat) (cc : Nat → Nat), i ≤ NP ∧ s12 = .int .i64 i ∧ s9 = .slice a (layK f l i).its.length cp ∧ Hid (DSt wZ (.slice a (layK f l i).its.length cp) (.slice (some ⟨gF, 0, none⟩) H5 H5) (.slice (some ⟨gB, 0, none⟩) H7 H7) (.slice none 0 0) ((layK f l i).its.map pcO) (layK f l i).fst (layK f l i).beg [] cc wr)) (fun s12 _ _ => NP - (intOf s12).toNat)
  case atStart => exact ⟨0, none, 0, c3, Nat.zero_le _, rfl, rfl, P4⟩
  case round =>
  clear P4
  obtain ⟨i, a, cp, cc, hi, rfl, rfl, HD⟩ := hrel
  by_cases H3 : i < NP
  case neg =>
   obtain rfl : i = NP := by omega
   have HE : Hid (layK f l i = lay f l) := jH (by rw [M5.out]; rfl)
   rw [HE.out] at HD ⊢
   clear H3 hi
   go_wp2_with fail
   go_meet
   case rel => exact ⟨a, cp, cc, rfl, HD⟩
  case pos =>
  have Mw : (i : Int) < (NP : Int) := by omega
  have H6 := jH H3
  have Q6 : i < l.length := by rw [← M5.out]; exact H3
  have S8 := jH Q6
  obtain ⟨lb, K5, rfl, lc⟩ := M4.out jo
  obtain ⟨h1, h2, h3, -⟩ := fitP_head MW.out Q6
  obtain ⟨ta, K6, Q7, -, -, -, t4⟩ := P3.out i H3
  obtain ⟨LY, P5⟩ := jE (layK f l i)
  rw [← P5] at HD ⊢
  have Kk := layK_lens f l i
  rw [← P5, ← Hv.out, ← Ki.out] at Kk
  obtain ⟨P, hP⟩ := jE (nth l i)
  have Hd : Keeps w wr := KF.out.trans HD.out.keep
  obtain ⟨fn, K7⟩ : ∃ n : Nat, P.Func = n := ⟨P.Func.toNat, by rw [hP]; omega⟩
  obtain ⟨Tz, TA⟩ := hid2 (lc i 0 H3 jo) (lc i 1 H3 jo)
  have d0 : wr.cell? ⟨lb, K5 + i * 2, none⟩ = some (.int .i64 fn) := by rw [← K7, hP]; exact Hd.cell Tz.out
  rw [← hP] at Q7 t4 h1 h2 h3
  obtain ⟨BN, P6⟩ := jE (P.Blocks.length)
  rw [← P6] at Q7 t4 h3
  have P7 : Hid (w.cell? ⟨lb, K5 + i * 2 + 1, none⟩ = some (.slice ta BN K6)) := jH (by rw [← Q7]; exact TA.out)
  rw [K7, ← Ki.out] at h2
  obtain ⟨NI, Hk⟩ := jE (LY.its.length)
  have Q8 : (fn : Int) < (H7 : Int) := by omega
  obtain ⟨pp, p2, p3, p4, p5⟩ := ownC_cell HD.out.beg (j := fn) (by rw [Kk.2]; omega)
  have p1 := jc wr gB fn (nth LY.beg fn) pp
  obtain ⟨w2, M6⟩ := jE (wr.setCell ⟨gB, fn, none⟩ (.int .i64 NI))
  have HK : Hid (DSt wZ (.slice a (begP LY P).its.length cp) (.slice (some ⟨gF, 0, none⟩) H5 H5) (.slice (some ⟨gB, 0, none⟩) H7 H7) (.slice none 0 0) ((begP LY P).its.map pcO) (begP LY P).fst (begP LY P).beg [] cc w2) := jH (by unfold begP; dsimp only; rw [K7, Int.toNat_natCast, ← Hk, M6]; rw [← Hk] at HD; exact HD.out.putB (p5 _) (p4 (NI : Int)))
  have P8 : Hid (NI = (begP LY P).its.length) := jH (by rw [Hk]; rfl)
  have TB : BN ≤ 1000000000 := by rw [P6, hP]; exact KG.out.pl i Q6
  obtain ⟨TC, HP, Q9, TD⟩ := hid4 P5 hP P6 t4
  have HM := jH Kk
  have TE : Hid (layK f l (i + 1) = layBs f P.Blocks (begP LY P) BN) := jH (by rw [layK_succ, ← P5, ← hP, P6]; rfl)
  rw [← Hk]
  clear Hd Hk P5 hP P6 Q7 t4 Kk h1 h2 H3 hi K7 HD lc pp p4 p5 Q6
  go_upto_region 13 with fail
  rw [← M6]
  clear M6 d0 p1 p2 p3
  have d1 := (KF.out.trans HK.out.keep).cell P7.out
  rw [P8.out]
  go_wp2_with fail
  clear d1
  go_loopw [13, 9] (fun s13 s9 wr => ∃ (k : Nat) (a : Option Addr) (cp : Nat) (cc : Nat → Nat), k ≤ BN ∧ s13 = .int .i64 k ∧ s9 = .slice a (layBs f P.Blocks (begP LY P) k).its.length cp ∧ Hid (DSt wZ (.slice a (layBs f P.Blocks (begP LY P) k).its.length cp) (.slice (some ⟨gF, 0, none⟩) H5 H5) (.slice (some ⟨gB, 0, none⟩) H7 H7) (.slice none 0 0) ((layBs f P.Blocks (begP LY P) k).its.map pcO) (layBs f P.Blocks (begP LY P) k).fst (layBs f P.Blocks (begP LY P) k).beg [] cc wr)) (fun s13 _ _ => BN - (intOf s13).toNat)
  case atStart => exact ⟨0, a, cp, cc, Nat.zero_le _, rfl, rfl, HK⟩
  case round =>
  clear HK
  obtain ⟨k, a, cp, cc, hk, rfl, rfl, HD⟩ := hrel
  have d1 := (KF.out.trans HD.out.keep).cell P7.out
  by_cases hltk : k < BN
  case neg =>
   obtain rfl : k = BN := by omega
   rw [← TE.out] at HD ⊢
   clear hltk hk
   go_wp2_with fail
   go_roundw
   case rel => exact ⟨i + 1, a, cp, cc, H6.out, by go_num, rfl, HD⟩
   case measure => have H3 := H6.out; simp [intOf]; omega
  case pos =>
  have P9 : (k : Int) < (BN : Int) := by omega
  have M7 := jH hltk
  obtain ⟨tb, Mx, rfl, tc⟩ := TD.out jo
  have Hd : Keeps w wr := KF.out.trans HD.out.keep
  have Pb := jH Hd
  obtain ⟨g1, g2, -, -⟩ := fitP_blk MW.out S8.out (k := k) (by rw [← HP.out, ← Q9.out]; exact hltk)
  rw [← HP.out] at g1 g2
  obtain ⟨bn, Hq⟩ : ∃ n : Nat, nth P.Blocks k = n := ⟨(nth P.Blocks k).toNat, by omega⟩
  rw [Hq] at g2
  have QM : bn < f.Blocks.length := by omega
  have S9 : w.cell? ⟨tb, Mx + k, none⟩ = some (.int .i64 bn) := by have z := tc k 0 hltk jo; simp only [Nat.mul_one, Nat.add_zero] at z; rw [← Hq]; exact z
  have Sa := jH S9
  obtain ⟨NX, KJ⟩ := jE (nxt P.Blocks k)
  have TF : Hid (k + 1 < BN → wr.cell? ⟨tb, Mx + (k + 1), none⟩ = some (.int .i64 NX)) := jH fun h => by
   have z := Hd.cell (tc (k + 1) 0 h jo)
   simp only [Nat.mul_one, Nat.add_zero] at z
   rw [KJ]
   unfold nxt
   rw [← Q9.out, if_pos h]
   exact z
  have TG : Hid (¬ k + 1 < BN → NX = -1) := jH fun h => by rw [KJ]; unfold nxt; rw [← Q9.out, if_neg h]
  have Sb := layBs_lens f P.Blocks (begP LY P) k
  have Pc : Hid ((layBs f P.Blocks (begP LY P) k).fst.length = H5) := jH (by rw [Sb.1]; have := HM.out.1; unfold begP; exact this)
  have Kl := KG.out.few i S8.out k (by rw [← HP.out, ← Q9.out]; omega)
  rw [← HP.out, ← TC.out] at Kl
  obtain ⟨LB, QN⟩ := jE (layBs f P.Blocks (begP LY P) k)
  rw [← QN] at HD Pc Kl ⊢
  have Hy : Hid (layBs f P.Blocks (begP LY P) (k + 1) = ⟨LB.its ++ bIts (nth f.Blocks bn) NX, LB.fst.set bn LB.its.length, LB.beg⟩) := jH (by rw [layBs_succ]; unfold layB; rw [Hq, Int.toNat_natCast, ← KJ, ← QN])
  obtain ⟨NI, Hk⟩ := jE (LB.its.length)
  rw [← Hk] at Kl HD Hy ⊢
  obtain ⟨HN, Sc, TH⟩ := hid3 Hk (KG.out.bk bn QM) QM
  have TI : (bn : Int) < (H5 : Int) := by have := Hv.out; omega
  have QO : bn < H5 := by have := Hv.out; omega
  clear Hd tc g1 g2 Hq QM KJ Sb QN Hk hltk hk S9
  have sw : IntKind.i64.wrap ((BN : Int) - 1) = (BN : Int) - 1 := jw
  go_upto_if 92 with fail
  clear d1
  go_cut [14] (fun s14 wx => s14 = .int .i64 NX ∧ Hid (Keeps wr wx))
  case first =>
   have d1 := Pb.out.cell P7.out
   by_cases hk1 : k + 1 < BN
   case pos =>
    have QP : (k : Int) < (BN : Int) - 1 := by omega
    have TJ : (k : Int) + 1 < (BN : Int) := by omega
    have c1 := TF.out hk1
    go_wp2_with fail
    go_meet
    case rel => exact ⟨rfl, jH (Keeps.refl _)⟩
   case neg =>
   have QP : ¬ (k : Int) < (BN : Int) - 1 := by omega
   have QQ := jH (TG.out hk1)
   go_wp2_with fail
   go_meet
   case rel => exact ⟨by rw [QQ.out], jH (Keeps.refl _)⟩
  case rest =>
  obtain ⟨rfl, Km⟩ := hcut
  clear sw
  obtain ⟨M8, Pd⟩ := hid2 (HD.out.keeps Km.out) (Pb.out.trans Km.out)
  have d1 := Pd.out.cell P7.out
  have c0 := Pd.out.cell Sa.out
  obtain ⟨pp, p2, p3, p4, p5⟩ := ownC_cell M8.out.fst (j := bn) (by rw [Pc.out]; exact QO)
  have p1 := jc wc gF bn (nth LB.fst bn) pp
  obtain ⟨w2, M6⟩ := jE (wc.setCell ⟨gF, bn, none⟩ (.int .i64 NI))
  have HK : Hid (DSt wZ (.slice a NI cp) (.slice (some ⟨gF, 0, none⟩) H5 H5) (.slice (some ⟨gB, 0, none⟩) H7 H7) (.slice none 0 0) (LB.its.map pcO) (LB.fst.set bn NI) LB.beg [] cc w2) := jH (by rw [M6]; exact M8.out.putF (p5 _) (p4 (NI : Int)))
  clear pp p4 p5
  go_upto_region 20 with fail
  rw [← M6]
  clear M6 p1 p2 p3 d1 c0
  obtain ⟨Pe, QR⟩ := hid2 (KF.out.trans HK.out.keep) (fun (w' : World) (h : Keeps w2 w') => pieces_any (QH.out.keep (HK.out.keep.trans h)) bn NX TH.out Sc.out)
  obtain ⟨Sd, HQ⟩ := jE ((bIts (nth f.Blocks bn) NX).length)
  have Se : Sd ≤ 100002 := by
   rw [HQ]
   have h1 := Sc.out.len
   unfold bIts tIt
   rw [List.length_append, List.length_map, List.length_range]
   repeat' split
   all_goals (simp only [jL]; omega)
  obtain ⟨BI, Sf⟩ := jE (bIts (nth f.Blocks bn) NX)
  rw [← Sf] at QR HQ Hy
  rw [← HQ] at QR
  have Pf := jH HQ
  have Pg : Hid (Sd ≤ 100002 ∧ NI ≤ 900000000) := jH ⟨Se, Kl⟩
  clear HQ Se Sf
  obtain ⟨n0, n1, n2⟩ := (HJ.out.keep HK.out.keep).k3
  have d1 := Pe.out.cell P7.out
  have c0 := Pe.out.cell Sa.out
  refine wp_region_head_tail (S := Cells [(b7, 0, .slice b0 H5 MR), (b7, 1, .slice b1 M1 MT), (b7, 2, .slice b2 H7 MU), (lb, K5 + i * 2 + 1, .slice (some ⟨tb, Mx, none⟩) BN K6), (tb, Mx + k, .int .i64 bn)]) 11 0 (v := .slice a NI cp) jx rfl jx jx jx jd (fun _ _ _ h => h) (Or.inl ⟨by rfl, fun w => by rfl⟩) jx jx jx jd jx ?hS2 (fun H0 => ?_)
  case hS2 => exact ⟨n0, n1, n2, d1, c0, trivial⟩
  simp only [jU, jG]
  try simp only [Act.put, jS]
  refine jp 1 H0 ?_
  refine jp 2 H0 ?_
  refine jp 3 H0 ?_
  refine jp 4 H0 ?_
  refine jp 5 H0 ?_
  refine jp 6 H0 ?_
  refine jp 7 H0 ?_
  refine jp 8 H0 ?_
  refine jp 9 H0 ?_
  refine jp 10 H0 ?_
  refine wpAnyH_done jx ?_ _
  dsimp only [TailQ]
  clear H0 n0 n1 n2 d1 c0
  go_wp2_with (first | (go_at_call 18; refine (QR.out _ ku5).mono ?_; rintro e wa ⟨pa, pc, rfl, M9, HA⟩; have TK := jH M9; have K8 := jH ((show Keeps w2 _ from ku5).trans HA); clear M9 HA) | (at_builtin; refine wpList_onto jr (.tmp 114) (.tmp 125) 60 60 jr Tryd.underlying60 info_piece jr (base := wZ.heap.size) (f := cpc) (l := LB.its.map pcO) jr (by exact HK.out.all.1.keep K8.out) (ys := BI.map pcO) jr (by have z := src_arr (P := Tryd.prog) jd cpc_len cpc_one Tryd.underlying60 (TK.out.arr cpc_len); exact z) (by rw [List.length_map, List.length_map, ← HN.out, ← Pf.out]; have := Pg.out; omega) (by rw [List.length_map, List.length_map, ← HN.out, ← Pf.out]; have := Pg.out; unfold maxLen; omega) (by have := HK.out.keep.size; have := K8.out.size; omega) ?_; intro v7 w7 H2 H8 H9 Ha; obtain ⟨c7, Hz, K9⟩ := HK.out.all.push K8.out H2 H9 Ha; obtain ⟨Ka, Kb, e7⟩ := own_form' H2; rw [List.length_append, List.length_map, List.length_map] at e7; subst e7; have TL := jH (HK.out.putA Hz K9); clear H2 H8 H9 Ha Hz K9))
  go_roundw
  case rel => exact ⟨k + 1, Ka, Kb, c7, M7.out, by go_num, by rw [Hy.out, List.length_append], jH (by rw [Hy.out, List.map_append, List.length_append]; exact TL.out)⟩
  case measure => have H3 := M7.out; simp [intOf]; omega
 case rest =>
 obtain ⟨a, cp, cc, rfl, HD⟩ := hcut
 clear P4
 obtain ⟨LF, Qa⟩ := jE (lay f l)
 rw [← Qa] at HD ⊢
 obtain ⟨NI, Hk⟩ := jE (LF.its.length)
 rw [← Hk] at HD ⊢
 have Kn := KG.out.st
 rw [← Qa] at Kn
 have QS : NI ≤ 1000000000 := by rw [Hk]; exact Kn.len
 have QT : 0 < NI := by rw [Hk]; exact Kn.pos
 obtain ⟨gA, cA, ea, -, -, -, -, -, -, -⟩ := own_setw cpc_len HD.out.all.1 (i := 0) (by rw [List.length_map, ← Hk]; exact QT)
 injection ea with ea1 ea2 ea3
 subst ea1
 subst ea3
 obtain ⟨cA, TM⟩ := jE cp
 subst TM
 obtain ⟨Ko, HN, QU⟩ := hid3 Qa Hk Kn
 obtain ⟨NT, Sg⟩ := jE (NI + 1)
 have He := jH Sg
 have TO : IntKind.i64.wrap ((NI : Int) + 1) = (NT : Int) := jw
 have Kh : NT ≤ 1000000001 := by omega
 obtain ⟨ti, Mr, Ms, Mt, Mu⟩ := infoParts info_int
 clear Qa Hk Kn ea2 Sg
 obtain ⟨wL, TP⟩ := jE wc
 subst TP
 go_upto_region 22 with (at_make; refine wpList_make_full _ rfl _ _ 25 rfl wL.heap.size 3 ti (.int .i64 0) 1 Tryd.underlying25 Mr Ms Mt .i64 .i64 _ _ NT rfl rfl rfl rfl (by rw [Mu]; omega) (by unfold maxLen; omega) (Nat.le_refl _) ?_; intro w4 KK Ph)
 have k4 : Keeps wL w4 := below_grown Ph (Nat.le_refl _) fun q e => by cases e
 obtain ⟨c4, Sh, Qb⟩ := OwnC.fresh cc 5 k4 (ownMadeG iV (0 : Int) rfl KK) (Nat.le_refl _)
 obtain ⟨gT, Qc⟩ := jE (wL.heap.size)
 have QV : Hid (DSt wZ (.slice (some ⟨gA, 0, none⟩) NI cA) (.slice (some ⟨gF, 0, none⟩) H5 H5) (.slice (some ⟨gB, 0, none⟩) H7 H7) (.slice (some ⟨gT, 0, none⟩) NT NT) (LF.its.map pcO) LF.fst LF.beg (List.replicate NT 0) c4 w4) := jH (by (have z := HD.out.turn (Sh (fun _ => False)) fun _ _ q => q); exact ⟨z.keep, z.zero, z.all, z.fst, z.beg, by rw [← Qc] at Qb; exact ⟨Qb.1.mono (by rw [Qc]; exact HD.out.keep.size), Qb.2⟩⟩)
 rw [← Qc]
 clear Mr Ms Mt Mu KK Ph k4 Sh Qb Qc HD TO
 go_upto_block 4 with fail
 go_cut [] (fun wx => ∃ (AT : List Int) (cc : Nat → Nat), Hid (∀ j, j ≤ NI → nth AT j = adI (setI LF.fst LF.its) j) ∧ Hid (AT.length = NT) ∧ Hid (DSt wZ (.slice (some ⟨gA, 0, none⟩) NI cA) (.slice (some ⟨gF, 0, none⟩) H5 H5) (.slice (some ⟨gB, 0, none⟩) H7 H7) (.slice (some ⟨gT, 0, none⟩) NT NT) ((setI LF.fst LF.its).map pcO) LF.fst LF.beg AT cc wx))
 case first =>
  go_wp2_with fail
  as_aux_lemma =>
  go_loopg [16] (NI + 1) (fun gk s16 wr => ∃ (ag : Bool) (L : List It) (AT : List Int) (cc : Nat → Nat), s16 = .bool ag ∧ Hid (DcL LF.its LF.fst L) ∧ Hid (ag = true → shorts L + 1 ≤ gk) ∧ Hid (ag = false → anyFar L LF.fst = false ∧ ∀ j, j ≤ NI → nth AT j = adI L j) ∧ Hid (AT.length = NT ∧ nth AT 0 = 0) ∧ Hid (DSt wZ (.slice (some ⟨gA, 0, none⟩) NI cA) (.slice (some ⟨gF, 0, none⟩) H5 H5) (.slice (some ⟨gB, 0, none⟩) H7 H7) (.slice (some ⟨gT, 0, none⟩) NT NT) (L.map pcO) LF.fst LF.beg AT cc wr))
  case atStart => exact ⟨true, LF.its, _, c4, rfl, jH (DcL.start _ _), jH (fun _ => by have := shorts_le LF.its; have := HN.out; omega), jH (fun q => by cases q), jH ⟨List.length_replicate, by rw [nth_eq _ _ (by rw [List.length_replicate, He.out]; omega), List.getElem_replicate]⟩, QV⟩
  case round =>
  clear QV
  obtain ⟨ag, L, AT, cc, rfl, HL, Qd, Si, Hb, HD⟩ := hrel
  cases hag : ag
  case false =>
   have hz := Si.out hag
   have hL := HL.out.done hz.1
   rw [hL] at hz HD
   have HZ := jH hz.2
   clear hag hz hL
   go_wp2_with fail
   go_meet
   case rel => exact ⟨AT, cc, HZ, jH Hb.out.1, HD⟩
  case true =>
  have Qd := jH (Qd.out hag)
  have HR := HL.out.fine
  rw [← HN.out] at HR
  have Kc := jH HR
  clear hag HR Si
  go_upto_block 6 with fail
  go_cut [] (fun wx => ∃ (AT : List Int) (cc : Nat → Nat), Hid (AT.length = NT ∧ ∀ j, j ≤ NI → nth AT j = adI L j) ∧ Hid (DSt wZ (.slice (some ⟨gA, 0, none⟩) NI cA) (.slice (some ⟨gF, 0, none⟩) H5 H5) (.slice (some ⟨gB, 0, none⟩) H7 H7) (.slice (some ⟨gT, 0, none⟩) NT NT) (L.map pcO) LF.fst LF.beg AT cc wx))
  case first =>
   go_wp2_with fail
   as_aux_lemma =>
   go_loopw [17] (fun s17 wr => ∃ (k : Nat) (AT : List Int) (cc : Nat → Nat), k ≤ NI ∧ s17 = .int .i64 k ∧ Hid (AT.length = NT ∧ ∀ j, j ≤ k → nth AT j = adI L j) ∧ Hid (DSt wZ (.slice (some ⟨gA, 0, none⟩) NI cA) (.slice (some ⟨gF, 0, none⟩) H5 H5) (.slice (some ⟨gB, 0, none⟩) H7 H7) (.slice (some ⟨gT, 0, none⟩) NT NT) (L.map pcO) LF.fst LF.beg AT cc wr)) (fun s17 _ => NI - (intOf s17).toNat)
   case atStart => exact ⟨0, AT, cc, Nat.zero_le _, rfl, jH ⟨Hb.out.1, fun j hj => by (obtain rfl : j = 0 := by omega); exact Hb.out.2⟩, HD⟩
   case round =>
   clear HD Hb
   obtain ⟨k, AT, cc, hk, rfl, Hb, HD⟩ := hrel
   by_cases H3 : k < NI
   case neg =>
    obtain rfl : k = NI := by omega
    clear H3 hk
    go_wp2_with fail
    go_meet
    case rel => exact ⟨AT, cc, Hb, HD⟩
   case pos =>
   have Mw : (k : Int) < (NI : Int) := by omega
   have H6 := jH H3
   obtain ⟨H1, -, -, -⟩ := ownC_piece HD.out.all (k := k) (by rw [List.length_map, Kc.out.1]; exact H3)
   rw [nthMap _ _ (by rw [Kc.out.1]; exact H3)] at H1
   obtain ⟨b9, HS⟩ := Kc.out.2 k H3
   have Sj := QU.out.ok k (by rw [← HN.out]; exact H3) false (fun q => by cases q)
   obtain ⟨TQ, TR⟩ := insFault_kind Sj
   obtain ⟨-, -, -, -, pK, -, -, -, pL⟩ := pcO_bl (nth L k)
   obtain ⟨⟨⟨K, D, A, B, N, Lg⟩, Bl, Fn, Hr, Li⟩, hy⟩ : ∃ y, y = pcO (nth L k) := ⟨_, rfl⟩
   rw [← hy] at H1 pK pL
   dsimp only at pK pL
   obtain ⟨kn, rfl⟩ : ∃ n : Nat, K = n := ⟨K.toNat, by (have : (nth L k).I.K = (nth LF.its k).I.K := by rw [HS]; rfl); omega⟩
   have QW : 1 ≤ kn ∧ kn ≤ 24 := by (have : (nth L k).I.K = (nth LF.its k).I.K := by rw [HS]; rfl); omega
   obtain ⟨SZ, Qe⟩ := jE (insSize kn Lg)
   have Kp : adI L (k + 1) = adI L k + SZ := by (show adI L k + szI (nth L k).I = _); rw [Qe]; unfold szI; rw [← pK, ← pL, Int.toNat_natCast]
   have TS : 0 ≤ SZ ∧ SZ ≤ 6 := by have z1 := szI_nn (nth L k).I; have z2 := szI_le (nth L k).I; unfold szI at z1 z2; rw [← pK, ← pL, Int.toNat_natCast, ← Qe] at z1 z2; exact ⟨z1, z2⟩
   have Hs := jH (fun w' => refSize_any kn QW.1 QW.2 D A B N Lg w')
   rw [← Qe] at Hs
   have Sk := adI_in L k
   obtain ⟨pp, -, -, -, -⟩ := ownC_cell HD.out.ats (j := k) (by rw [Hb.out.1, He.out]; omega)
   have p1 := jc wr gT k (nth AT k) pp
   rw [Hb.out.2 k (Nat.le_refl _)] at p1
   obtain ⟨AK, HC⟩ := jE (adI L k)
   rw [← HC] at p1 Sk Kp
   obtain ⟨My, Pi⟩ := jE (AK + SZ)
   rw [← Pi] at Kp
   have hw : IntKind.i64.wrap (AK + SZ) = My := jw
   have QX := jH Kp
   obtain ⟨k1, Pj⟩ := jE (k + 1)
   have TU : IntKind.i64.wrap ((k : Int) + 1) = (k1 : Int) := jw
   have TV : (k1 : Int) < (NT : Int) := by have := He.out; omega
   have QY := jH Pj
   have TW : (k : Int) < (NT : Int) := by omega
   have hkb : k < 1000000000 := by omega
   have r0 := jc wr gA (k * 10) kn (H1 0 _ jd rfl)
   have r1 := jc wr gA (k * 10 + 1) D (H1 1 _ jd rfl)
   have r2 := jc wr gA (k * 10 + 2) A (H1 2 _ jd rfl)
   have r3 := jc wr gA (k * 10 + 3) B (H1 3 _ jd rfl)
   have r4 := jc wr gA (k * 10 + 4) N (H1 4 _ jd rfl)
   have r5 := jv wr gA (k * 10 + 5) (.bool Lg) (H1 5 _ jd rfl)
   have hd : Keeps wr wr.drew := (Keeps.refl _).drew
   have TY := jH (HD.out.keeps hd)
   have Sl := hd.cell p1
   have Sm := hd.cell r0
   have Sn := hd.cell r1
   have So := hd.cell r2
   have Sp := hd.cell r3
   have Sq := hd.cell r4
   have Sr := hd.cell r5
   unfold insV at Hs
   clear H1 HS Sj TQ TR pK pL hy QW Qe Kp TS Sk pp HC Pi hd p1 r0 r1 r2 r3 r4 r5 HD H3 hk Pj
   go_upto_region 28 with fail
   refine wp_region_head (S := Cells [(gT, k, .int .i64 AK), (gA, k * 10, .int .i64 kn), (gA, k * 10 + 1, .int .i64 D), (gA, k * 10 + 2, .int .i64 A), (gA, k * 10 + 3, .int .i64 B), (gA, k * 10 + 4, .int .i64 N), (gA, k * 10 + 5, .bool Lg)]) 15 jx jx jx jx jd jx ?hS1 (fun H0 => ?_)
   case hS1 => exact ⟨Sl, Sm, Sn, So, Sp, Sq, Sr, trivial⟩
   simp only [jU]
   clear Sl Sm Sn So Sp Sq Sr
   refine jp 0 H0 ?_
   refine jp 1 H0 ?_
   refine jp 2 H0 ?_
   refine jp 3 H0 ?_
   refine jp 4 H0 ?_
   refine jp 5 H0 ?_
   refine jp 6 H0 ?_
   refine jp 7 H0 ?_
   refine jp 8 H0 ?_
   refine jp 9 H0 ?_
   refine jp 10 H0 ?_
   refine jp 11 H0 ?_
   refine readyC 12 ?_
   intro K' hK
   go_simp
   go_at_call 19
   refine (Hs.out _).mono ?_
   rintro e wz ⟨rfl, P9⟩
   refine goOn hK (H0.keep P9) (fun hHeld2 => ?_)
   clear hK K' H0
   have H0 := hHeld2
   clear hHeld2 Hs
   refine jp 13 H0 ?_
   refine jp 14 H0 ?_
   refine wpAnyH_done jx ?_ _
   dsimp only [TailQ]
   clear H0
   have Ss := jH (TY.out.keeps P9)
   obtain ⟨pp, p2, p3, p4, p5⟩ := ownC_cell Ss.out.ats (j := k1) (by rw [Hb.out.1, He.out, QY.out]; have := H6.out; omega)
   have p1 := jc wz gT k1 (nth AT k1) pp
   obtain ⟨w5, Ma⟩ := jE (wz.setCell ⟨gT, k1, none⟩ (.int .i64 My))
   have QZ : Hid (DSt wZ (.slice (some ⟨gA, 0, none⟩) NI cA) (.slice (some ⟨gF, 0, none⟩) H5 H5) (.slice (some ⟨gB, 0, none⟩) H7 H7) (.slice (some ⟨gT, 0, none⟩) NT NT) (L.map pcO) LF.fst LF.beg (AT.set k1 My) cc w5) := jH (by rw [Ma]; exact Ss.out.putT (p5 _) (p4 My))
   have R0 : Hid ((AT.set k1 My).length = NT ∧ ∀ j, j ≤ k + 1 → nth (AT.set k1 My) j = adI L j) := jH (by
    refine ⟨by rw [List.length_set]; exact Hb.out.1, fun j hj => ?_⟩
    rw [nth_setw _ _ _ _ (by rw [Hb.out.1, He.out]; have := H6.out; omega)]
    by_cases q : k1 = j
    ·rw [if_pos q, ← q, QY.out, QX.out]
    rw [if_neg q, Hb.out.2 j (by have := QY.out; omega)])
   clear pp p4 p5 hw TU
   go_upto_region 27 with fail
   rw [← Ma]
   clear Ma p1 p2 p3 P9
   go_wp2_with fail
   go_roundw
   case rel => exact ⟨k + 1, _, cc, H6.out, by go_num, R0, QZ⟩
   case measure => have H3 := H6.out; simp [intOf]; omega
  case rest =>
  clear Hb HD
  obtain ⟨AT, cc, Hb, HD⟩ := hcut
  obtain ⟨g9, St⟩ : ∃ n, gk = n + 1 := ⟨gk - 1, by have := Qd.out; omega⟩
  have R1 := jH St
  clear St
  go_wp2_with fail
  as_aux_lemma =>
  go_loopw [18, 16] (fun s18 s16 wr => ∃ q : Nat, q ≤ NI ∧ s18 = .int .i64 q ∧ s16 = .bool false ∧ Hid (∀ j, j < q → farI L LF.fst j = false) ∧ Hid (DSt wZ (.slice (some ⟨gA, 0, none⟩) NI cA) (.slice (some ⟨gF, 0, none⟩) H5 H5) (.slice (some ⟨gB, 0, none⟩) H7 H7) (.slice (some ⟨gT, 0, none⟩) NT NT) (L.map pcO) LF.fst LF.beg AT cc wr)) (fun s18 _ _ => NI - (intOf s18).toNat)
  case atStart => exact ⟨0, Nat.zero_le _, rfl, rfl, jH (fun j hj => absurd hj (Nat.not_lt_zero _)), HD⟩
  case round =>
  clear HD
  obtain ⟨q, hq, rfl, rfl, HF, HD⟩ := hrel
  by_cases H3 : q < NI
  case neg =>
   obtain rfl : q = NI := by omega
   have TZ : Hid (anyFar L LF.fst = false) := jH (anyN_no (by have z := Kc.out.1; rw [z]; exact HF.out))
   clear H3 hq
   go_wp2_with fail
   go_roundg g9
   case measure => have := R1.out; omega
   case rel => exact ⟨false, L, AT, cc, rfl, HL, jH (fun z => by cases z), jH (fun _ => ⟨TZ.out, Hb.out.2⟩), jH ⟨Hb.out.1, Hb.out.2 0 (Nat.zero_le _)⟩, HD⟩
  case pos =>
  have Mw : (q : Int) < (NI : Int) := by omega
  have H6 := jH H3
  obtain ⟨H1, -, -, -⟩ := ownC_piece HD.out.all (k := q) (by rw [List.length_map, Kc.out.1]; exact H3)
  rw [nthMap _ _ (by rw [Kc.out.1]; exact H3)] at H1
  obtain ⟨pB, -, -, -, pK, -, -, -, pL⟩ := pcO_bl (nth L q)
  obtain ⟨⟨⟨K, DD, A, B, N, Lg⟩, Bl, Fn, Hr, Li⟩, hy⟩ : ∃ y, y = pcO (nth L q) := ⟨_, rfl⟩
  rw [← hy] at H1 pB pL
  dsimp only at pB pL
  have r5 := jv wr gA (q * 10 + 5) (.bool Lg) (H1 5 _ jd rfl)
  have r6 := jc wr gA (q * 10 + 6) Bl (H1 6 _ jd rfl)
  obtain ⟨QF, KY⟩ := jE (farI L LF.fst q)
  have Pk : QF = (decide (0 ≤ Bl) && (!Lg && (decide (dsI L LF.fst q < -128) || decide (127 < dsI L LF.fst q)))) := by rw [KY]; unfold farI; rw [← pB, ← pL]
  obtain ⟨Mb, Mq, Su⟩ := hid3 Pk KY pB
  have hqb : q < 1000000000 := by omega
  clear H1 hy Pk KY pB pK pL H3 hq
  go_upto_region 32 with fail
  go_cut [193] (fun s193 wx => s193 = .bool QF ∧ Hid (Keeps wr wx))
  case first =>
   by_cases hb0 : 0 ≤ Bl
   case neg =>
    obtain rfl : QF = false := by rw [Mb.out, decide_eq_false hb0]; rfl
    have b1 : decide (0 ≤ Bl) = false := decide_eq_false hb0
    go_quiet (fail)
    go_wp2_with fail
    go_meet
    case rel => exact ⟨rfl, jH ((Keeps.refl _).drewN _)⟩
   case pos =>
   by_cases hlg : Lg = true
   case pos =>
    subst hlg
    obtain rfl : QF = false := by rw [Mb.out]; simp
    have b1 : decide (0 ≤ Bl) = true := decide_eq_true hb0
    go_quiet (fail)
    go_wp2_with fail
    go_meet
    case rel => exact ⟨rfl, jH ((Keeps.refl _).drewN _)⟩
   case neg =>
   obtain rfl : Lg = false := by simpa using hlg
   clear hlg
   obtain ⟨bl, rfl⟩ : ∃ n : Nat, Bl = n := ⟨Bl.toNat, by omega⟩
   obtain ⟨b9, HS⟩ := Kc.out.2 q H6.out
   have Kq : (nth LF.its q).Bl = (bl : Int) := by rw [Su.out, HS]; rfl
   obtain ⟨h1, h2, h3⟩ := QU.out.goes q (by rw [← HN.out]; exact H6.out) (by rw [Kq]; exact Int.natCast_nonneg _)
   rw [Kq, Int.toNat_natCast, ← HN.out] at h3
   rw [Kq, Int.toNat_natCast] at h1 h2
   obtain ⟨fi, Hj⟩ : ∃ n : Nat, nth LF.fst bl = n := ⟨(nth LF.fst bl).toNat, by omega⟩
   rw [Hj] at h3
   obtain ⟨pp, -, -, -, -⟩ := ownC_cell HD.out.fst (j := bl) h1
   have p1 := jc wr gF bl (nth LF.fst bl) pp
   rw [Hj] at p1
   obtain ⟨Sv, -, -, -, -⟩ := ownC_cell HD.out.ats (j := fi) (by rw [Hb.out.1, He.out]; omega)
   have p2 := jc wr gT fi (nth AT fi) Sv
   rw [Hb.out.2 fi jo] at p2
   obtain ⟨Sw, -, -, -, -⟩ := ownC_cell HD.out.ats (j := q) (by rw [Hb.out.1, He.out]; have := H6.out; omega)
   have p3 := jc wr gT q (nth AT q) Sw
   rw [Hb.out.2 q (by have := H6.out; omega)] at p3
   have Sx := layK_lens f l l.length
   have U0 : (bl : Int) < (H5 : Int) := by (have z1 : LF.fst.length = H5 := by rw [Ko.out, Hv.out]; exact Sx.1); omega
   have U1 : (fi : Int) < (NT : Int) := by have := He.out; omega
   have U2 : (q : Int) < (NT : Int) := by have := He.out; omega
   have a1 := adI_in L fi
   have a2 := adI_in L q
   have Pl : dsI L LF.fst q = adI L fi - adI L q := by unfold dsI; rw [← Su.out, Int.toNat_natCast, Hj, Int.toNat_natCast]
   obtain ⟨AF, HH⟩ := jE (adI L fi)
   obtain ⟨AQ, Sy⟩ := jE (adI L q)
   rw [← HH] at p2 a1 Pl
   rw [← Sy] at p3 a2 Pl
   obtain ⟨DS, Sz⟩ := jE (AF - AQ)
   rw [← Sz] at Pl
   have hw : IntKind.i64.wrap (AF - AQ) = DS := jw
   have Qf : Hid (QF = (decide (DS < -128) || decide (127 < DS))) := jH (by rw [Mb.out, Pl, decide_eq_true (show (0 : Int) ≤ (bl : Int) by omega)]; rfl)
   clear pp Sv Sw h1 h2 h3 Hj Sx a1 a2 Pl HH Sy Sz HS Kq hb0
   by_cases hfr : DS < -128 ∨ 127 < DS
   case pos =>
    obtain rfl : QF = true := by
     rw [Qf.out]
     rcases hfr with z | z
     ·rw [decide_eq_true z]; rfl
     rw [decide_eq_true z, Bool.or_true]
    have R2 := jH (fun n : Nat => (in_no DS (-128) 127 (wr.drewN n) hfr).mono (fun e w' h => (⟨h.1, h.2.symm⟩ : e = .returned (.bool false) ∧ w' = wr.drewN n)))
    clear hfr Qf
    go_quiet ((go_at_call 20; exact Calls.quiet_of_same (R2.out _)))
    go_wp2_with fail
    go_meet
    case rel => exact ⟨rfl, jH ((Keeps.refl _).drewN _)⟩
   case neg =>
   obtain rfl : QF = false := by rw [Qf.out, decide_eq_false (show ¬ DS < -128 by omega), decide_eq_false (show ¬ 127 < DS by omega)]; rfl
   have R2 := jH (fun n : Nat => (in_yes DS (-128) 127 (wr.drewN n) jo jo).mono (fun e w' h => (⟨h.1, h.2.symm⟩ : e = .returned (.bool true) ∧ w' = wr.drewN n)))
   clear hfr Qf
   go_quiet ((go_at_call 20; exact Calls.quiet_of_same (R2.out _)))
   go_wp2_with fail
   go_meet
   case rel => exact ⟨rfl, jH ((Keeps.refl _).drewN _)⟩
  case rest =>
  obtain ⟨rfl, Km⟩ := hcut
  have M8 := jH (HD.out.keeps Km.out)
  clear r5 r6
  cases hqf : QF with
  | false =>
   have Qg : Hid (∀ j, j < q + 1 → farI L LF.fst j = false) := jH (fun j hj => by
    by_cases z : j = q
    ·rw [z, ← Mq.out, hqf]
    exact HF.out j jo)
   clear hqf
   go_wp2_with fail
   go_roundw
   case rel => exact ⟨q + 1, H6.out, by go_num, rfl, Qg, M8⟩
   case measure => have H3 := H6.out; simp [intOf]; omega
  | true =>
   have Kj : farI L LF.fst q = true := by rw [← Mq.out]; exact hqf
   obtain ⟨SA, SB⟩ := HL.out.step (k := q) (by rw [← HN.out]; exact H6.out) Kj
   obtain ⟨-, Q8, U3, Kn⟩ := ownC_piece M8.out.all (k := q) (by rw [List.length_map, Kc.out.1]; exact H6.out)
   obtain ⟨H1, -, -, -⟩ := ownC_piece M8.out.all (k := q) (by rw [List.length_map, Kc.out.1]; exact H6.out)
   rw [nthMap _ _ (by rw [Kc.out.1]; exact H6.out)] at H1 Kn
   obtain ⟨o5, t5⟩ := Kn 5 (.bool true) (pcO (lngI (nth L q) true)) jd (by rw [pcO_lng]; unfold lngI; rw [Bool.or_true]; rfl)
   have p5 := jv wc gA (q * 10 + 5) (.bool (pcO (nth L q)).I.Lg) (H1 5 _ jd rfl)
   have f5 := Q8 (q * 10 + 5)
   obtain ⟨w5, Ma⟩ := jE (wc.setCell ⟨gA, q * 10 + 5, none⟩ (.bool true))
   have QZ : Hid (DSt wZ (.slice (some ⟨gA, 0, none⟩) NI cA) (.slice (some ⟨gF, 0, none⟩) H5 H5) (.slice (some ⟨gB, 0, none⟩) H7 H7) (.slice (some ⟨gT, 0, none⟩) NT NT) ((L.set q (lngI (nth L q) true)).map pcO) LF.fst LF.beg AT cc w5) := jH (by rw [Ma, List.map_set]; exact M8.out.putA t5 o5)
   obtain ⟨U4, U5⟩ := hid2 SA SB
   clear hqf Kj SA SB Kn H1 Q8 o5 t5
   go_upto_region 34 with fail
   rw [← Ma]
   clear Ma p5 f5 U3
   go_wp2_with fail
   go_roundg g9
   case measure => have := R1.out; omega
   case rel => exact ⟨true, _, AT, cc, rfl, U4, jH (fun _ => by have h1 := U5.out; have h2 := Qd.out; have h3 := R1.out; omega), jH (fun z => by cases z), jH ⟨Hb.out.1, Hb.out.2 0 (Nat.zero_le _)⟩, QZ⟩
 case rest =>
 obtain ⟨AT, cc, Hb, Mc, HD⟩ := hcut
 clear QV
 obtain ⟨L, hL⟩ := jE (setI LF.fst LF.its)
 rw [← hL] at Hb HD
 have Md : emI m l = L := by unfold emI; rw [← HF.out, ← Ko.out, hL]
 have R3 : L.length = NI := by obtain ⟨T, -, -, e⟩ := setI_low LF.its LF.fst; rw [hL, e, Lng_len, HN.out]
 obtain ⟨TT, Qh⟩ := jE (adI L NI)
 have Pm : emE m l = if 8000 < TT then 1 else 0 := by unfold emE; rw [if_neg (by rw [← KW.out]; simp), ← HF.out, if_pos MW.out, Md, R3, Qh]
 obtain ⟨pp, -, -, -, -⟩ := ownC_cell HD.out.ats (j := NI) (by rw [Mc.out, He.out]; omega)
 have p1 := jc wc gT NI (nth AT NI) pp
 rw [Hb.out NI (Nat.le_refl _), ← Qh] at p1
 obtain ⟨KL, P8, Hm, R4⟩ := hid4 Pm Md R3 hL
 have SC := jH Qh
 have hnz : (NI : Int) < (NT : Int) := by have := He.out; omega
 clear pp Pm Md R3 hL Qh
 by_cases htt : 8000 < TT
 case pos =>
  have M2 := jH (show emE m l = 1 by rw [KL.out, if_pos htt])
  have Hc := HD.out.keep
  obtain ⟨z0, z1, z2, z3, z4, z5⟩ := (Hx.out.keep Hc).k6
  obtain ⟨u0, u1, u2, u3, u4, u5⟩ := (Hx.out.keep Hc).t6
  have ul := (Hx.out.keep Hc).lt
  go_wp2_with fail
  obtain ⟨wf, Hf⟩ := jE ((((((wc.setCell ⟨bR, 0, none⟩ (.slice none 0 0)).setCell ⟨bR, 1, none⟩ (.slice none 0 0)).setCell ⟨bR, 2, none⟩ (.slice none 0 0)).setCell ⟨bR, 3, none⟩ (.slice none 0 0)).setCell ⟨bR, 4, none⟩ (.slice none 0 0)).setCell ⟨bR, 5, none⟩ (.int .i64 0))
  rw [← Hf]
  have HI : Blk wf bR (.cells #[.slice none 0 0, .slice none 0 0, .slice none 0 0, .slice none 0 0, .slice none 0 0, .int .i64 0] 28) := by rw [Hf]; exact (Blk.set (Blk.set (Blk.set (Blk.set (Blk.set (Blk.set (Hx.out.keep Hc) 0 (.slice none 0 0)) 1 (.slice none 0 0)) 2 (.slice none 0 0)) 3 (.slice none 0 0)) 4 (.slice none 0 0)) 5 (.int .i64 0))
  have KE : Keeps w wf := by rw [Hf]; exact (Keeps.setCell (Keeps.setCell (Keeps.setCell (Keeps.setCell (Keeps.setCell (Keeps.setCell (KF.out.trans Hc) H4 _) H4 _) H4 _) H4 _) H4 _) H4 _)
  obtain ⟨e0, e1, e2, e3, e4, e5⟩ := HI.k6
  clear Hf HI z0 u0 z1 u1 z2 u2 z3 u3 z4 u4 z5 u5 ul
  exact bodyPost_ret (v := .tuple #[.agg #[.slice none 0 0, .slice none 0 0, .slice none 0 0, .slice none 0 0, .slice none 0 0, .int .i64 0], .slice none 0 0, .int .i64 1]) (by simp [results, Tryd.results6, go_sem, e0, e1, e2, e3, e4, e5]) rfl (EmAns.bad M2.out jd KE)
 case neg =>
 have M2 := jH (show emE m l = 0 by rw [KL.out, if_neg htt])
 go_upto_region 37 with fail
 clear p1 htt KL
 obtain ⟨wE, U6⟩ := jE wc
 subst U6
 have Me := HD.out.keep
 obtain ⟨KT, SD, SE, U7⟩ := hid4 (MX.out.keep Me) (HJ.out.keep Me) (MY.out.keep Me) (QH.out.keep Me)
 obtain ⟨KM, Qi⟩ := hid2 (Hx.out.keep Me) (KF.out.trans Me)
 have HU := layK_lens f l l.length
 have Mf : Hid (LF.fst.length = H5) := jH (by rw [Ko.out, Hv.out]; exact HU.1)
 have Kr : Hid (LF.beg.length = H7) := jH (by rw [Ko.out, Ki.out]; exact HU.2)
 have Kd : Hid (∀ j, j ≤ NI → ∀ w', Keeps wE w' → w'.cell? ⟨gT, j, none⟩ = some (.int .i64 (adI L j))) := jH fun j hj w' h => by (obtain ⟨pp, -, -, -, -⟩ := ownC_cell (HD.out.keeps h).ats (j := j) (by rw [Mc.out, He.out]; omega)); have q1 := jc w' gT j (nth AT j) pp; rw [Hb.out j hj] at q1; exact q1
 have SF : Hid (∀ j, j < H5 → ∀ w', Keeps wE w' → w'.cell? ⟨gF, j, none⟩ = some (.int .i64 (nth LF.fst j))) := jH fun j hj w' h => by (obtain ⟨pp, -, -, -, -⟩ := ownC_cell (HD.out.keeps h).fst (j := j) (by rw [Mf.out]; exact hj)); exact pp
 have R5 : Hid (∀ j, j < H7 → ∀ w', Keeps wE w' → w'.cell? ⟨gB, j, none⟩ = some (.int .i64 (nth LF.beg j))) := jH fun j hj w' h => by (obtain ⟨pp, -, -, -, -⟩ := ownC_cell (HD.out.keeps h).beg (j := j) (by rw [Kr.out]; exact hj)); exact pp
 have SG : Hid (∀ k, k < NI → ∀ w', Keeps wE w' → ∀ q u, q < 10 → (cpc (pcO (nth L k)))[q]? = some u → w'.cell? ⟨gA, k * 10 + q, none⟩ = some u) := jH fun k hk w' h => by (obtain ⟨hc, -, -, -⟩ := ownC_piece (HD.out.keeps h).all (k := k) (by rw [List.length_map, Hm.out]; exact hk)); (rw [nthMap _ _ (by rw [Hm.out]; exact hk)] at hc); exact hc
 have Ht : Hid (PrG m f l L LF.fst LF.beg) := jH (by have z := KG.out.pr; rw [← Ko.out, ← R4.out] at z; exact z)
 have U8 : Hid (((prs (adrs L)).map (·.1)).Nodup) := jH (by have z := KG.out.nd; rw [← Ko.out, ← R4.out] at z; exact z)
 have Pn : Hid (∀ k, k < NI → (0 ≤ (nth L k).Bl → (nth L k).Fn < 0) ∧ ((nth L k).I.K = 23 → 0 ≤ (nth L k).Fn) ∧ (0 ≤ (nth L k).Old → (nth L k).Old < m.Text.length)) := jH fun k hk => by
  obtain ⟨T, -, -, e⟩ := setI_low LF.its LF.fst
  have R6 : k < LF.its.length := by rw [← HN.out]; exact hk
  have z1 := Q3.out.one (nth LF.its k) (by rw [← Ko.out]; exact nthMem R6)
  have z2 := Q3.out.old (nth LF.its k) (by rw [← Ko.out]; exact nthMem R6)
  rw [R4.out, e, Lng_nth R6]
  exact ⟨z1.1, z1.2, z2⟩
 have U9 : Hid (m.Data.length ≤ 1000000000) := jH Ht.out.data
 have Ua : Hid (m.Text.length ≤ 1000000000) := jH Q3.out.tx
 clear Me HU HD Hb Mc MX HJ MY QH QI Hx KF KG Q3 QU MW
 have m3 := KT.out.cell (j := 3) rfl
 have SH := numsCopy_any (.slice x3 m.Data.length S0) m.Data wE (by obtain ⟨z0, z1, z2, z3, z4, hz, -, -, -, Ub, -⟩ := SE.out; injection hz with hz; simp only [Array.mk.injEq, List.cons.injEq, and_true] at hz; obtain ⟨-, -, -, rfl, -⟩ := hz; exact Ub) (by have := U9.out; omega)
 have SI := jH SH
 clear SH
 go_upto_region 38 with (go_at_call 9; refine SI.out.mono ?_; rintro e wa ⟨vD, rfl, Hg, HA⟩; obtain ⟨da, Hu, Uc⟩ := own_form' Hg; subst Uc)
 obtain ⟨w3, R7⟩ := jE (wa.alloc (.cells #[.slice none 0 0, .slice none 0 0, .slice none 0 0, .slice da m.Data.length Hu, .slice none 0 0, .int .i64 0] 28))
 obtain ⟨c3, Mv, R8⟩ := OutS.start (c := fun _ => 0) (B := wE.heap.size) HA Hg.ints (fun b hb => Hg.row b hb) R7
 obtain ⟨g, hg⟩ := jE (wa.heap.size)
 rw [← hg] at R8
 rw [← R7, ← hg]
 obtain ⟨R9, Ra⟩ := hid2 R8 (Mv (fun i => 1 ≤ i))
 clear R7 hg R8 Mv Hg HA SI m3
 go_upto_block 10 with fail
 go_cut [] (fun wx => ∃ (vF : Value) (cc : Nat → Nat), Hid (Turn (fun i => 1 ≤ i) (fun _ => 0) wE cc wx) ∧ Hid (OutS wE.heap.size cc wx g (.slice none 0 0) vF (.slice none 0 0) (.slice da m.Data.length Hu) (.slice none 0 0) (enE m l NP) [] ((List.range NP).map (fuP m L LF.beg l)) [] [] m.Data []))
 case first =>
  go_wp2_with fail
  as_aux_lemma =>
  go_loopw [20] (fun s20 wr => ∃ (k : Nat) (vF : Value) (cc : Nat → Nat), k ≤ NP ∧ s20 = .int .i64 k ∧ Hid (Turn (fun i => 1 ≤ i) (fun _ => 0) wE cc wr) ∧ Hid (OutS wE.heap.size cc wr g (.slice none 0 0) vF (.slice none 0 0) (.slice da m.Data.length Hu) (.slice none 0 0) (enE m l k) [] ((List.range k).map (fuP m L LF.beg l)) [] [] m.Data [])) (fun s20 _ => NP - (intOf s20).toNat)
  case atStart => exact ⟨0, _, c3, Nat.zero_le _, rfl, Ra, R9⟩
  case round =>
  clear Ra R9
  obtain ⟨k, vF, cc, hk, rfl, HT, HO⟩ := hrel
  have Hd : Keeps wE wr := HT.out.below (Nat.le_refl _) (fun _ _ => rfl) jd
  by_cases H3 : k < NP
  case neg =>
   obtain rfl : k = NP := by omega
   clear H3 hk Hd
   go_wp2_with fail
   go_meet
   case rel => exact ⟨vF, cc, HT, HO⟩
  case pos =>
  have Mw : (k : Int) < (NP : Int) := by omega
  have H6 := jH H3
  obtain ⟨lb, K5, rfl, lc⟩ := M4.out jo
  have Po : Hid (∀ j, j < NP → ∀ w', Keeps wE w' → w'.cell? ⟨lb, K5 + j * 2, none⟩ = some (.int .i64 (nth l j).Func)) := jH fun j hj w' h => (Qi.out.trans h).cell (lc j 0 hj jo)
  obtain ⟨p1, p2, p3⟩ := Ht.out.fn k (by rw [← M5.out]; exact H3)
  obtain ⟨fn, K7⟩ : ∃ n : Nat, (nth l k).Func = n := ⟨(nth l k).Func.toNat, by omega⟩
  rw [K7, Int.toNat_natCast] at p2 p3
  obtain ⟨q1, q2⟩ := Ht.out.bg fn p2
  obtain ⟨bn, Hq⟩ : ∃ n : Nat, nth LF.beg fn = n := ⟨(nth LF.beg fn).toNat, by omega⟩
  rw [Hq] at q2
  rw [Hm.out] at q2
  rw [Kr.out] at p2
  obtain ⟨ST, Rb⟩ := jE (adI L bn)
  have Ud : Hid (stP L LF.beg (nth l k) = ST) := jH (by unfold stP; rw [K7, Int.toNat_natCast, Hq, Int.toNat_natCast, Rb])
  have SJ : Hid (∀ w', Keeps wE w' → w'.cell? ⟨lb, K5 + k * 2, none⟩ = some (.int .i64 fn) ∧ w'.cell? ⟨gB, fn, none⟩ = some (.int .i64 bn) ∧ w'.cell? ⟨gT, bn, none⟩ = some (.int .i64 ST)) := jH fun w' h => ⟨by rw [← K7]; exact Po.out k H3 w' h, by rw [← Hq]; exact R5.out fn p2 w' h, by rw [Rb]; exact Kd.out bn jo w' h⟩
  obtain ⟨EN, Rc⟩ := jE (enP L LF.beg l k)
  have Rd : Hid (0 ≤ EN ∧ EN ≤ 7000000000) := jH (by
   have h1 := Ht.out.len
   rw [Rc]
   unfold enP stP
   split
   ·have := adI_in L (nth LF.beg (nth l (k + 1)).Func.toNat).toNat
    obtain ⟨z1, z2, -⟩ := Ht.out.fn (k + 1) (by assumption)
    have := Ht.out.bg _ z2
    omega
   have := adI_in L L.length; omega)
  have Re : Hid (0 ≤ ST ∧ ST ≤ 7000000000) := jH (by have := adI_in L bn; omega)
  obtain ⟨Rf, Hl, Rg, Qg⟩ := hid4 Rc Hd p3 K7
  have Q8 : (fn : Int) < (H7 : Int) := by omega
  have TI : (bn : Int) < (NT : Int) := by have := He.out; omega
  have aN : wr.cell? ⟨gT, NI, none⟩ = some (.int .i64 TT) := by rw [SC.out]; exact Kd.out NI (Nat.le_refl _) wr Hd
  have sw : IntKind.i64.wrap ((NP : Int) - 1) = (NP : Int) - 1 := jw
  clear lc p1 p2 p3 q1 q2 Hq Rb Rc Hd K7 hk H3
  go_upto_if 225 with fail
  clear aN
  go_cut [21] (fun s21 wx => s21 = .int .i64 EN ∧ Hid (Keeps wr wx))
  case first =>
   by_cases hk1 : k + 1 < NP
   case pos =>
    have QP : (k : Int) < (NP : Int) - 1 := by omega
    have TJ : (k : Int) + 1 < (NP : Int) := by omega
    obtain ⟨p1, p2, -⟩ := Ht.out.fn (k + 1) (by rw [← M5.out]; exact hk1)
    obtain ⟨Mg, Ks⟩ : ∃ n : Nat, (nth l (k + 1)).Func = n := ⟨(nth l (k + 1)).Func.toNat, by omega⟩
    rw [Ks, Int.toNat_natCast] at p2
    obtain ⟨q1, q2⟩ := Ht.out.bg Mg p2
    obtain ⟨Pp, Kt⟩ : ∃ n : Nat, nth LF.beg Mg = n := ⟨(nth LF.beg Mg).toNat, by omega⟩
    rw [Kt, Hm.out] at q2
    rw [Kr.out] at p2
    have d1 : wr.cell? ⟨lb, K5 + (k + 1) * 2, none⟩ = some (.int .i64 Mg) := by rw [← Ks]; exact Po.out (k + 1) hk1 wr Hl.out
    have g1 : wr.cell? ⟨gB, Mg, none⟩ = some (.int .i64 Pp) := by rw [← Kt]; exact R5.out Mg p2 wr Hl.out
    have Pq : EN = adI L Pp := by rw [Rf.out]; unfold enP; rw [if_pos (by rw [← M5.out]; exact hk1)]; unfold stP; rw [Ks, Int.toNat_natCast, Kt, Int.toNat_natCast]
    have a1 : wr.cell? ⟨gT, Pp, none⟩ = some (.int .i64 EN) := by rw [Pq]; exact Kd.out Pp jo wr Hl.out
    have Rh : (Mg : Int) < (H7 : Int) := by omega
    have Qj : (Pp : Int) < (NT : Int) := by have := He.out; omega
    clear p1 p2 q1 q2 Ks Kt Pq hk1
    go_wp2_with fail
    go_meet
    case rel => exact ⟨rfl, jH (Keeps.refl _)⟩
   case neg =>
   have QP : ¬ (k : Int) < (NP : Int) - 1 := by omega
   have Ue : Hid (EN = TT) := jH (by rw [Rf.out, SC.out]; unfold enP; rw [if_neg (by rw [← M5.out]; exact hk1), Hm.out])
   clear hk1
   go_wp2_with fail
   go_meet
   case rel => exact ⟨by rw [Ue.out], jH (Keeps.refl _)⟩
  case rest =>
  obtain ⟨rfl, Hc⟩ := hcut
  clear sw
  obtain ⟨Km, Ku, Pr⟩ := hid3 (Hl.out.trans Hc.out) (HO.out.keep Hc.out) (HT.out.keep Hc.out)
  obtain ⟨d0, g0, a0⟩ := SJ.out wc Km.out
  clear HT HO
  go_upto_region 45 with fail
  clear g0 a0
  obtain ⟨Uf, Ps, Pt⟩ := own_form' Ku.out.fn.1
  rw [List.length_map, List.length_range] at Pt
  subst Pt
  obtain ⟨y0, y1, y2, y3, y4, hy, -, Ug, -, -, -⟩ := SE.out
  injection hy with hy
  simp only [Array.mk.injEq, List.cons.injEq, and_true] at hy
  obtain ⟨rfl, rfl, rfl, rfl, rfl⟩ := hy
  obtain ⟨fo, Uh, KQ, -, -, -, f4⟩ := Ug
  injection KQ with KQ MM Qz
  subst KQ
  subst Qz
  obtain ⟨fb, Ri, rfl, fc⟩ := f4 (by have := Rg.out; omega)
  obtain ⟨nm, Rj⟩ := jE ((nth m.Funcs fn).Name)
  have nF : wc.cell? ⟨fb, Ri + fn * 3, none⟩ = some (.string nm) := by rw [Rj]; exact Km.out.cell (fc fn 0 Rg.out jo)
  have m1 := (KT.out.keep Km.out).cell (j := 1) rfl
  obtain ⟨MF, SK⟩ := jE (m.Funcs.length)
  rw [← SK] at m1
  have hfm : (fn : Int) < (MF : Int) := by have := Rg.out; omega
  have z1 := Ku.out.blk.1.cell (j := 1) rfl
  have Rk := Rd.out
  have Rl := Re.out
  obtain ⟨DF, SL⟩ := jE (EN - ST)
  have hw : IntKind.i64.wrap (EN - ST) = DF := jw
  have Ui : Hid (((List.range (k + 1)).map (fuP m L LF.beg l)) = ((List.range k).map (fuP m L LF.beg l)) ++ [(⟨nm, ST, DF⟩ : Fu)]) := jH (by rw [List.range_succ, List.map_append]; congr 1; (show [fuP m L LF.beg l k] = _); unfold fuP; rw [← Rf.out, Ud.out, ← SL, Qg.out, Int.toNat_natCast, ← Rj])
  have HM : Hid (((List.range k).map (fuP m L LF.beg l)).length = k) := jH (by rw [List.length_map, List.length_range])
  have Qk := jH Km.out.size
  clear Rj SK SL Rk Rl f4 fc MM
  refine wp_region_head_tail (S := Cells [(g, 1, .slice Uf k Ps), (bM, 1, .slice (some ⟨fb, Ri, none⟩) MF RY), (lb, K5 + k * 2, .int .i64 fn), (fb, Ri + fn * 3, .string nm)]) 18 0 (v := .pointer (some ⟨g, 1, none⟩)) jx rfl jx jx jx jd (fun _ _ _ h => h) (Or.inl ⟨by rfl, fun w => by rfl⟩) jx jx jx jd jx ?hS3 (fun H0 => ?_)
  case hS3 => exact ⟨z1, m1, d0, nF, trivial⟩
  simp only [jU, jG]
  try simp only [Act.put, jS]
  clear z1 m1 d0 nF
  refine jp 1 H0 ?_
  refine jp 2 H0 ?_
  refine jp 3 H0 ?_
  refine jp 4 H0 ?_
  refine jp 5 H0 ?_
  refine jp 6 H0 ?_
  refine jp 7 H0 ?_
  refine jp 8 H0 ?_
  refine jp 9 H0 ?_
  refine jp 10 H0 ?_
  refine jp 11 H0 ?_
  refine jp 12 H0 ?_
  refine jp 13 H0 ?_
  refine jp 14 H0 ?_
  refine jp 15 H0 ?_
  refine jp 16 H0 ?_
  refine readyC 17 ?_
  intro K hK
  go_simp
  refine goOn hK (Cells.keep H0 ((Keeps.refl _).alloc _)) ?_
  clear hK K H0
  intro H0
  refine wpAnyH_done jx ?_ _
  dsimp only [TailQ]
  clear H0 hw
  go_upto_region 46 with (at_builtin; refine wpList_pushes jr (.tmp 250) (.tmp 266) 23 jr Tryd.underlying23 info_fu' jr jd (base := wE.heap.size) (f := cfu) (l := ((List.range k).map (fuP m L LF.beg l))) jr (by exact Ku.out.fn.1.keep ku5) [(⟨nm, ST, DF⟩ : Fu)] _ _ jr jt cfu_len cfu_one (by rw [HM.out]; simp only [jL]; omega) (by rw [HM.out]; simp only [jL]; unfold maxLen; omega) (by have := Qk.out; first | omega | (simp only [sz_alloc, sz_drew]; omega)) ?_; intro v7 w7 H2 H8 H9 Ha; obtain ⟨c7, Hz, K9⟩ := Ku.out.fn.push (show Keeps wc _ from ku5) H2 H9 Ha; have Hh := Ku.out.blk.turn Hz jd; have y1 := Hh.1.cell (j := 1) rfl; have Mz := Hh.1.thawed 1; have MA := Hh.1.lt; obtain ⟨Ka, Kb, e7⟩ := own_form' H2; rw [List.length_append, HM.out, List.length_singleton] at e7; subst e7)
  obtain ⟨w8, Kv⟩ := jE (w7.setCell ⟨g, 1, none⟩ (.slice Ka (k + 1) Kb))
  obtain ⟨t8, KN⟩ := Ku.out.setF Hz K9 Kv
  rw [← Ui.out] at KN
  obtain ⟨HV, Kw⟩ := hid2 KN (Pr.out.trans t8)
  rw [← Kv]
  clear Kv H2 H8 H9 Ha Hz K9 Hh y1 Mz MA KN t8 Ku Pr
  have MB : Keeps wE w8 := Kw.out.below (Nat.le_refl _) (fun _ _ => rfl) jd
  have d0 := jc w8.drew lb (K5 + k * 2) fn ((SJ.out _ MB.drew).1)
  have m5 := (KT.out.keep MB.drew).cell (j := 5) rfl
  obtain ⟨ME, Rm⟩ := jE (m.Entry)
  rw [← Rm] at m5
  have Pm : enE m l (k + 1) = if (fn : Int) = ME then (k : Int) else enE m l k := by rw [Rm, ← Qg.out]; rfl
  have KL := jH Pm
  clear Pm Rm MB
  refine wp_region_held_drew (S := Cells [(lb, K5 + k * 2, .int .i64 fn), (bM, 5, .int .i64 ME)]) jx ⟨d0, m5, trivial⟩ (fun H0 => ?_)
  clear d0 m5
  refine jp 0 H0 ?_
  refine jp 1 H0 ?_
  refine jp 2 H0 ?_
  refine jp 3 H0 ?_
  refine jp 4 H0 ?_
  refine jp 5 H0 ?_
  refine jp 6 H0 ?_
  refine jp 7 H0 ?_
  refine wpAnyH_done jx ?_ _
  clear H0
  have Rn : Keeps w8 w8.drew := (Keeps.refl _).drew
  obtain ⟨MC, Ro⟩ := hid2 (HV.out.keep Rn) (Kw.out.keep Rn)
  obtain ⟨w9, SM⟩ := jE (w8.drew)
  rw [← SM] at MC Ro ⊢
  clear SM Rn HV Kw
  by_cases hE : (fn : Int) = ME
  case pos =>
   have Rp : Hid (enE m l (k + 1) = (k : Int)) := jH (by rw [KL.out, if_pos hE])
   obtain ⟨w10, Mh⟩ := jE (w9.setCell ⟨g, 5, none⟩ (.int .i64 (k : Int)))
   obtain ⟨SN, Mi⟩ := MC.out.setE (k : Int) Mh
   rw [← Rp.out] at Mi
   obtain ⟨Rq, Rr⟩ := hid2 Mi (Ro.out.trans SN)
   have z5 := MC.out.blk.1.cell (j := 5) rfl
   have Uj := MC.out.blk.1.thawed 5
   have Uk := MC.out.blk.1.lt
   subst hE
   clear Mi SN
   go_upto_region 40 with fail
   rw [← Mh]
   clear Mh z5 Uj Uk
   go_wp2_with fail
   go_roundw
   case rel => exact ⟨k + 1, _, _, H6.out, by go_num, Rr, Rq⟩
   case measure => have H3 := H6.out; simp [intOf]; omega
  case neg =>
  have Rp : Hid (enE m l (k + 1) = enE m l k) := jH (by rw [KL.out, if_neg hE])
  have t2 : ((fn : Int) == ME) = false := by simpa using hE
  clear hE
  go_wp2_with fail
  go_roundw
  case rel => exact ⟨k + 1, _, _, H6.out, by go_num, Ro, jH (by rw [Rp.out]; exact MC.out)⟩
  case measure => have H3 := H6.out; simp [intOf]; omega
 case rest =>
 obtain ⟨vF, cc, HT, HO⟩ := hcut
 clear Ra R9
 obtain ⟨EE, Rs⟩ := jE (enE m l NP)
 obtain ⟨FL, Rt⟩ := jE (((List.range NP).map (fuP m L LF.beg l)))
 rw [← Rs, ← Rt] at HO
 obtain ⟨KL, Q2⟩ := hid2 Rs Rt
 clear Rs Rt
 go_upto_block 12 with fail
 go_cut [] (fun wx => ∃ (vT vL : Value) (cc : Nat → Nat), Hid (Turn (fun i => 1 ≤ i) (fun _ => 0) wE cc wx) ∧ Hid (OutS wE.heap.size cc wx g vT vF (.slice none 0 0) (.slice da m.Data.length Hu) vL EE (txI L LF.fst LF.beg NI) FL [] [] m.Data (lnI L NI).1))
 case first =>
  go_wp2_with fail
  go_loopw [24, 23] (fun s24 s23 wr => ∃ (q : Nat) (vT vL : Value) (cc : Nat → Nat), q ≤ NI ∧ s24 = .int .i64 q ∧ s23 = .int .i64 (lnI L q).2 ∧ Hid (Turn (fun i => 1 ≤ i) (fun _ => 0) wE cc wr) ∧ Hid (OutS wE.heap.size cc wr g vT vF (.slice none 0 0) (.slice da m.Data.length Hu) vL EE (txI L LF.fst LF.beg q) FL [] [] m.Data (lnI L q).1)) (fun s24 _ _ => NI - (intOf s24).toNat)
  case atStart => exact ⟨0, _, _, cc, Nat.zero_le _, rfl, rfl, HT, HO⟩
  case round =>
  clear HT HO
  obtain ⟨q, vT, vL, cc, hq, rfl, rfl, HT, HO⟩ := hrel
  have Hd : Keeps wE wr := HT.out.below (Nat.le_refl _) (fun _ _ => rfl) jd
  have Hl := jH Hd
  obtain ⟨LV, Ru⟩ := jE ((lnI L q).2)
  rw [← Ru]
  have SO := jH Ru
  clear Ru
  by_cases H3 : q < NI
  case neg =>
   obtain rfl : q = NI := by omega
   clear H3 hq Hd
   go_wp2_with fail
   go_meet
   case rel => exact ⟨vT, vL, cc, HT, HO⟩
  case pos =>
  have Mw : (q : Int) < (NI : Int) := by omega
  have H6 := jH H3
  have H1 := SG.out q H3 wr Hd
  obtain ⟨yB, yF, yO, yL, yK, yD, yA, yC, yG⟩ := pcO_bl (nth L q)
  have Rv : (nth L q).I.K ≠ 23 → pcO (nth L q) = nth L q := fun z => by unfold pcO; rw [if_neg z]
  obtain ⟨⟨⟨K, D, A, B, N, Lg⟩, Bl, Fn, Hr, Li⟩, hy⟩ : ∃ y, y = pcO (nth L q) := ⟨_, rfl⟩
  rw [← hy] at H1 yB yF yO yL yK yD yA yC yG Rv
  dsimp only at yB yF yO yL yK yD yA yC yG
  obtain ⟨AK, HC⟩ := jE (adI L q)
  have Ul := adI_in L q
  rw [← HC] at Ul
  have r0 := jc wr gA (q * 10) K (H1 0 _ jd rfl)
  have r1 := jc wr gA (q * 10 + 1) D (H1 1 _ jd rfl)
  have r2 := jc wr gA (q * 10 + 2) A (H1 2 _ jd rfl)
  have r3 := jc wr gA (q * 10 + 3) B (H1 3 _ jd rfl)
  have r4 := jc wr gA (q * 10 + 4) N (H1 4 _ jd rfl)
  have r5 := jv wr gA (q * 10 + 5) (.bool Lg) (H1 5 _ jd rfl)
  have r6 := jc wr gA (q * 10 + 6) Bl (H1 6 _ jd rfl)
  have r7 := jc wr gA (q * 10 + 7) Fn (H1 7 _ jd rfl)
  have r8 := jc wr gA (q * 10 + 8) Hr (H1 8 _ jd rfl)
  have r9 := jc wr gA (q * 10 + 9) Li (H1 9 _ jd rfl)
  obtain ⟨N9, Pu⟩ := jE ((finI L LF.fst LF.beg q).N)
  have Pv : finI L LF.fst LF.beg q = ⟨K, D, A, B, N9, Lg⟩ := by
   rw [Pu, yK, yD, yA, yC, yG]
   unfold finI
   by_cases h1 : 0 ≤ (nth L q).Bl
   ·rw [if_pos h1]
   rw [if_neg h1]
   by_cases h2 : 0 ≤ (nth L q).Fn
   ·rw [if_pos h2]
   rw [if_neg h2]
  have Kx := Pn.out q H3
  rw [← yB, ← yF, ← yK] at Kx
  have Pw : 0 ≤ Bl → N9 = adI L (nth LF.fst Bl.toNat).toNat - AK := fun z => by rw [Pu, HC, yB]; unfold finI dsI; rw [if_pos (by rw [← yB]; exact z)]
  have Px : ¬ 0 ≤ Bl → 0 ≤ Fn → N9 = adI L (nth LF.beg Fn.toNat).toNat - AK := fun z z2 => by rw [Pu, HC, yF]; unfold finI; rw [if_neg (by rw [← yB]; exact z), if_pos (by rw [← yF]; exact z2)]
  have SP : ¬ 0 ≤ Bl → ¬ 0 ≤ Fn → N9 = N := fun z z2 => by (have Um : (nth L q).I.K ≠ 23 := fun h => z2 (Kx.2.1 (by rw [yK]; exact h))); have e := Rv Um; rw [Pu]; unfold finI; rw [if_neg (by rw [← yB]; exact z), if_neg (by rw [← yF]; exact z2), ← e]
  have SQ : 0 ≤ Bl → Bl.toNat < H5 ∧ 0 ≤ nth LF.fst Bl.toNat ∧ nth LF.fst Bl.toNat < NI := fun z => by (have h := Ht.out.goes q (by rw [Hm.out]; exact H3) (by rw [← yB]; exact z)); rw [← yB, Hm.out, Mf.out] at h; exact h
  have SR : 0 ≤ Fn → Fn.toNat < H7 ∧ 0 ≤ nth LF.beg Fn.toNat ∧ nth LF.beg Fn.toNat < NI := fun z => by
   have h := Ht.out.fc q (by rw [Hm.out]; exact H3) (by rw [← yF]; exact z)
   have h2 := Ht.out.bg _ h
   rw [← yF] at h h2
   rw [Hm.out] at h2
   rw [Kr.out] at h
   exact ⟨h, h2⟩
  obtain ⟨N8, SS⟩ := jE (if 0 ≤ Bl then N9 else N)
  obtain ⟨wq, Ql⟩ := jE (wr.alloc (.cells #[.int .i64 K, .int .i64 D, .int .i64 A, .int .i64 B, .int .i64 N, .bool Lg, .int .i64 Bl, .int .i64 Fn, .int .i64 Hr, .int .i64 Li] 66))
  obtain ⟨HX, Ky⟩ := jE (wr.heap.size)
  have HB : Hid (Blk wq HX (.cells #[.int .i64 K, .int .i64 D, .int .i64 A, .int .i64 B, .int .i64 N, .bool Lg, .int .i64 Bl, .int .i64 Fn, .int .i64 Hr, .int .i64 Li] 66)) := jH (by rw [Ql]; exact Blk.top' _ _ Ky)
  have Qm : Hid (Keeps wr wq) := jH (by rw [Ql]; exact (Keeps.refl _).alloc _)
  obtain ⟨Mj, Py, SU, SV⟩ := hid4 Ky Pv Pw Px
  obtain ⟨SW, Qn, SX, SY⟩ := hid4 SP SS SQ SR
  obtain ⟨Pz, Qo⟩ := hid2 Kx.1 HC
  have Un : Hid ((nth L q).Li = Li) := jH yL.symm
  clear H1 hy yB yF yO yL yK yD yA yC yG Rv HC Pu Pv Kx Pw Px SP SQ SR SS Hd H3 hq
  go_upto_region 53 with fail
  rw [← Ql, ← Ky]
  clear Ql Ky r0 r1 r2 r3 r4 r5 r6 r7 r8 r9
  have e6 := HB.out.cell (j := 6) rfl
  go_upto_if 291 with fail
  clear e6
  go_cut [] (fun wx => Hid (Keeps wr wx) ∧ Hid (Blk wx HX (.cells #[.int .i64 K, .int .i64 D, .int .i64 A, .int .i64 B, .int .i64 N8, .bool Lg, .int .i64 Bl, .int .i64 Fn, .int .i64 Hr, .int .i64 Li] 66)))
  case first =>
   as_aux_lemma =>
   by_cases hb0 : 0 ≤ Bl
   case pos =>
    have t1 : decide (0 ≤ Bl) = true := decide_eq_true hb0
    have hd := SU.out hb0
    have h8 : N8 = N9 := by rw [Qn.out, if_pos hb0]
    obtain ⟨h1, h2, h3⟩ := SX.out hb0
    obtain ⟨bl, rfl⟩ : ∃ n : Nat, Bl = n := ⟨Bl.toNat, by omega⟩
    rw [Int.toNat_natCast] at h1 h2 h3 hd
    obtain ⟨fi, Hj⟩ : ∃ n : Nat, nth LF.fst bl = n := ⟨(nth LF.fst bl).toNat, by omega⟩
    rw [Hj] at h3 hd
    rw [Int.toNat_natCast] at hd
    have Kz := Hl.out.trans Qm.out
    have e6 := HB.out.cell (j := 6) rfl
    have e4 := HB.out.cell (j := 4) rfl
    have Uo := HB.out.thawed 4
    have Up := HB.out.lt
    have MD : wq.cell? ⟨gF, bl, none⟩ = some (.int .i64 fi) := by rw [← Hj]; exact SF.out bl h1 wq Kz
    have a1 := adI_in L fi
    have ef := Kd.out fi jo wq Kz
    obtain ⟨AF, HH⟩ := jE (adI L fi)
    rw [← HH] at ef a1 hd
    have eq : wq.cell? ⟨gT, q, none⟩ = some (.int .i64 AK) := by rw [Qo.out]; exact Kd.out q (by have := H6.out; omega) wq Kz
    have hw : IntKind.i64.wrap (AF - AK) = N8 := jw
    have Rh : (bl : Int) < (H5 : Int) := by omega
    have Qj : (fi : Int) < (NT : Int) := by have := He.out; omega
    have T0 : (q : Int) < (NT : Int) := by have := He.out; omega
    clear h1 h2 h3 Hj hd h8 a1 HH hb0 Kz
    go_upto_region 54 with fail
    refine wp_region_head_tail (S := Cells [(HX, 6, .int .i64 bl), (gF, bl, .int .i64 fi), (gT, fi, .int .i64 AF), (gT, q, .int .i64 AK)]) 13 0 (v := .slice (some ⟨gT, 0, none⟩) NT NT) jx rfl jx jx jx jd (fun _ _ _ h => h) (Or.inl ⟨by rfl, fun w => by rfl⟩) jx jx jx jd jx ?hS4 (fun H0 => ?_)
    case hS4 => exact ⟨e6, MD, ef, eq, trivial⟩
    simp only [jU, jG]
    try simp only [Act.put, jS]
    clear e6 MD ef eq
    refine jp 1 H0 ?_
    refine jp 2 H0 ?_
    refine jp 3 H0 ?_
    refine jp 4 H0 ?_
    refine jp 5 H0 ?_
    refine jp 6 H0 ?_
    refine jp 7 H0 ?_
    refine jp 8 H0 ?_
    refine jp 9 H0 ?_
    refine jp 10 H0 ?_
    refine jp 11 H0 ?_
    refine jp 12 H0 ?_
    refine wpAnyH_done jx ?_ _
    dsimp only [TailQ]
    clear H0 hw
    go_wp2_with fail
    go_meet
    case rel => exact ⟨jH ((Keeps.setCell Qm.out (by have := Mj.out; dsimp only; omega) _).drew), jH ((Blk.set HB.out 4 (.int .i64 N8)).keep ((Keeps.refl _).drew))⟩
   case neg =>
   have t1 : decide (0 ≤ Bl) = false := decide_eq_false hb0
   have h8 : N = N8 := by rw [Qn.out, if_neg hb0]
   subst h8
   go_wp2_with fail
   go_meet
   case rel => exact ⟨Qm, HB⟩
  case rest =>
  obtain ⟨MG, HY⟩ := hcut
  clear HB Qm
  obtain ⟨ws, Uq⟩ := jE wc
  subst Uq
  have e7 := HY.out.cell (j := 7) rfl
  go_upto_if 309 with fail
  clear e7
  go_cut [] (fun wx => Hid (Keeps wr wx) ∧ Hid (Blk wx HX (.cells #[.int .i64 K, .int .i64 D, .int .i64 A, .int .i64 B, .int .i64 N9, .bool Lg, .int .i64 Bl, .int .i64 Fn, .int .i64 Hr, .int .i64 Li] 66)))
  case first =>
   as_aux_lemma =>
   by_cases hb0 : 0 ≤ Fn
   case pos =>
    have t1 : decide (0 ≤ Fn) = true := decide_eq_true hb0
    have hnb : ¬ 0 ≤ Bl := fun z => by have := Pz.out z; omega
    have hd := SV.out hnb hb0
    obtain ⟨h1, h2, h3⟩ := SY.out hb0
    obtain ⟨bl, rfl⟩ : ∃ n : Nat, Fn = n := ⟨Fn.toNat, by omega⟩
    rw [Int.toNat_natCast] at h1 h2 h3 hd
    obtain ⟨fi, Hj⟩ : ∃ n : Nat, nth LF.beg bl = n := ⟨(nth LF.beg bl).toNat, by omega⟩
    rw [Hj] at h3 hd
    rw [Int.toNat_natCast] at hd
    have Kz := Hl.out.trans MG.out
    have e6 := HY.out.cell (j := 7) rfl
    have e4 := HY.out.cell (j := 4) rfl
    have Uo := HY.out.thawed 4
    have Up := HY.out.lt
    have MD : ws.cell? ⟨gB, bl, none⟩ = some (.int .i64 fi) := by rw [← Hj]; exact R5.out bl h1 ws Kz
    have a1 := adI_in L fi
    have ef := Kd.out fi jo ws Kz
    obtain ⟨AF, HH⟩ := jE (adI L fi)
    rw [← HH] at ef a1 hd
    have eq : ws.cell? ⟨gT, q, none⟩ = some (.int .i64 AK) := by rw [Qo.out]; exact Kd.out q (by have := H6.out; omega) ws Kz
    have hw : IntKind.i64.wrap (AF - AK) = N9 := jw
    have Rh : (bl : Int) < (H7 : Int) := by omega
    have Qj : (fi : Int) < (NT : Int) := by have := He.out; omega
    have T0 : (q : Int) < (NT : Int) := by have := He.out; omega
    clear h1 h2 h3 Hj hd a1 HH hb0 Kz hnb
    go_upto_region 56 with fail
    refine wp_region_head_tail (S := Cells [(HX, 7, .int .i64 bl), (gB, bl, .int .i64 fi), (gT, fi, .int .i64 AF), (gT, q, .int .i64 AK)]) 13 0 (v := .slice (some ⟨gT, 0, none⟩) NT NT) jx rfl jx jx jx jd (fun _ _ _ h => h) (Or.inl ⟨by rfl, fun w => by rfl⟩) jx jx jx jd jx ?hS5 (fun H0 => ?_)
    case hS5 => exact ⟨e6, MD, ef, eq, trivial⟩
    simp only [jU, jG]
    try simp only [Act.put, jS]
    clear e6 MD ef eq
    refine jp 1 H0 ?_
    refine jp 2 H0 ?_
    refine jp 3 H0 ?_
    refine jp 4 H0 ?_
    refine jp 5 H0 ?_
    refine jp 6 H0 ?_
    refine jp 7 H0 ?_
    refine jp 8 H0 ?_
    refine jp 9 H0 ?_
    refine jp 10 H0 ?_
    refine jp 11 H0 ?_
    refine jp 12 H0 ?_
    refine wpAnyH_done jx ?_ _
    dsimp only [TailQ]
    clear H0 hw
    go_wp2_with fail
    go_meet
    case rel => exact ⟨jH ((Keeps.setCell MG.out (by have := Mj.out; dsimp only; omega) _).drew), jH ((Blk.set HY.out 4 (.int .i64 N9)).keep ((Keeps.refl _).drew))⟩
   case neg =>
   have t1 : decide (0 ≤ Fn) = false := decide_eq_false hb0
   have h8 : N8 = N9 := by
    rw [Qn.out]
    by_cases z : 0 ≤ Bl
    ·rw [if_pos z]
    rw [if_neg z, SW.out z hb0]
   have Ur : Hid (Blk ws HX (.cells #[.int .i64 K, .int .i64 D, .int .i64 A, .int .i64 B, .int .i64 N9, .bool Lg, .int .i64 Bl, .int .i64 Fn, .int .i64 Hr, .int .i64 Li] 66)) := jH (by rw [← h8]; exact HY.out)
   clear h8 HY
   go_wp2_with fail
   go_meet
   case rel => exact ⟨MG, Ur⟩
  case rest =>
  obtain ⟨Hc, Rw⟩ := hcut
  clear MG HY
  obtain ⟨EL, Qp⟩ := jE (encI (finI L LF.fst LF.beg q))
  have PA : EL = encAns K D A B N9 Lg := by rw [Qp, Py.out]; rfl
  have PB : EL.length ≤ 8 := by rw [Qp]; exact encI_le _
  have Rx : Hid (∀ w', Calls Tryd.prog 21 #[.agg #[.int .i64 K, .int .i64 D, .int .i64 A, .int .i64 B, .int .i64 N9, .bool Lg]] w' fun e w'' => ∃ v er, e = .returned (.tuple #[v, .int .i64 er]) ∧ Octs w'' v EL ∧ Keeps w' w'') := jH fun w' => by have z := bytesOf_any K D A B N9 Lg w'; unfold insV at z; rw [← PA] at z; exact z.mono fun e w'' ⟨v, h1, h2, h3⟩ => ⟨v, _, h1, h2, h3⟩
  have PC := jH PB
  have Pr : Hid (txI L LF.fst LF.beg (q + 1) = txI L LF.fst LF.beg q ++ EL) := jH (by rw [txI_succ, Qp])
  have PD : Hid ((txI L LF.fst LF.beg q).length ≤ 8000000000) := jH (by have := txI_le L LF.fst LF.beg q; have := H6.out; omega)
  have PE : Hid ((lnI L q).1.length ≤ 1000000000) := jH (by have := lnI_le L q; have := H6.out; omega)
  have PF : Hid (lnI L (q + 1) = if Li = LV then lnI L q else ((lnI L q).1 ++ [(⟨AK, Li⟩ : Ln)], Li)) := jH (by (show (if (nth L q).Li = (lnI L q).2 then _ else _) = _); rw [Un.out, Qo.out, SO.out])
  obtain ⟨MH, T1⟩ := hid2 (HO.out.keep Hc.out) (HT.out.keep Hc.out)
  have KO : Hid (g < HX ∧ (∀ b, vT.ownBlock = some b → b < HX) ∧ ∀ b, vL.ownBlock = some b → b < HX) := jH (by rw [Mj.out]; exact ⟨HO.out.blk.1.lt, fun b z => own_lt' HO.out.tx.1 z, fun b z => own_lt' HO.out.ln.1 z⟩)
  have Qk : Hid (wE.heap.size ≤ wc.heap.size) := jH (Nat.le_trans Hl.out.size Hc.out.size)
  obtain ⟨ta, Us, PG⟩ := own_form' HO.out.tx.1
  obtain ⟨TN, Ry⟩ := jE ((txI L LF.fst LF.beg q).length)
  rw [← Ry] at PG
  subst PG
  obtain ⟨la, PH, PI⟩ := own_form' HO.out.ln.1
  obtain ⟨LN, Rz⟩ := jE ((lnI L q).1.length)
  rw [← Rz] at PI
  subst PI
  obtain ⟨HTN, HLN⟩ := hid2 Ry Rz
  obtain ⟨e0, e1, e2, e3, e4, e5⟩ := Rw.out.k6
  clear Qp PA PB Ry Rz HO HT Py SU SV SW Qn SX SY Pz
  go_upto_region 58 with (go_at_call 21; refine (Rx.out _).mono ?_; rintro e wa ⟨ev, er, rfl, RA, HA⟩; obtain ⟨ea, ec, Ut⟩ := Arr.form RA; subst Ut)
  obtain ⟨T2, K8⟩ := hid2 RA HA
  have z0 := (MH.out.keep HA).blk.1.cell (j := 0) rfl
  clear RA HA e0 e1 e2 e3 e4 e5
  go_upto_region 59 with (at_builtin; refine wpList_onto jr (.tmp 332) (.tmp 333) 22 22 jr Tryd.underlying22 info_u8' jr (base := wE.heap.size) (f := cu) (l := txI L LF.fst LF.beg q) jr (by exact MH.out.tx.1.keep K8.out) (ys := EL) jr (by exact src_octs' Tryd.underlying22 T2.out) (by have := PD.out; have := PC.out; omega) (by have := PD.out; have := PC.out; unfold maxLen; omega) (by have := Qk.out; have := K8.out.size; omega) ?_; intro v7 w7 H2 H8 H9 Ha; obtain ⟨c7, Hz, K9⟩ := MH.out.tx.push K8.out H2 H9 Ha; have Hh := MH.out.blk.turn Hz jd; have y1 := Hh.1.cell (j := 0) rfl; have Mz := Hh.1.thawed 0; have MA := Hh.1.lt; obtain ⟨Ka, Kb, e7⟩ := own_form' H2; obtain ⟨Uu, Mk⟩ := jE ((txI L LF.fst LF.beg q ++ EL).length); rw [← Mk] at e7; subst e7; have Uv := jH Mk; clear Mk)
  obtain ⟨w8, Kv⟩ := jE (w7.setCell ⟨g, 0, none⟩ (.slice Ka Uu Kb))
  rw [← Kv]
  obtain ⟨t8, KN⟩ := MH.out.setT Hz K9 Kv
  obtain ⟨HV, Kw⟩ := hid2 KN (T1.out.trans t8)
  have HY : Hid (Blk w8 HX (.cells #[.int .i64 K, .int .i64 D, .int .i64 A, .int .i64 B, .int .i64 N9, .bool Lg, .int .i64 Bl, .int .i64 Fn, .int .i64 Hr, .int .i64 Li] 66)) := jH (by rw [Kv]; (refine Blk.grown (Blk.grown (Rw.out.keep K8.out) H9 (fun z => ?_)) (grown_setCell w7 g 0 _) (by have := KO.out.1; simp; omega)); exact absurd (KO.out.2.1 HX z.symm) (Nat.lt_irrefl _))
  have Uw : Hid (wE.heap.size ≤ w8.heap.size) := jH (by rw [Kv, sz_setCell]; exact Nat.le_trans (Nat.le_trans Qk.out K8.out.size) H9.size)
  have MB : Keeps wE w8 := Kw.out.below (Nat.le_refl _) (fun _ _ => rfl) jd
  have MG := jH MB
  clear Kv t8 KN H2 H8 H9 Ha Hz K9 Hh y1 Mz MA z0 T2 K8 MH T1 Rw MB
  as_aux_lemma =>
  have e9 := HY.out.cell (j := 9) rfl
  by_cases hL : Li = LV
  case pos =>
   have K0 : Hid (lnI L (q + 1) = lnI L q) := jH (by rw [PF.out, if_pos hL])
   subst hL
   go_wp2_with fail
   go_roundw
   case rel => exact ⟨q + 1, _, _, _, H6.out, by go_num, by rw [K0.out, ← SO.out], Kw, jH (by rw [Pr.out, K0.out]; exact HV.out)⟩
   case measure => have H3 := H6.out; simp [intOf]; omega
  case neg =>
  have K0 : Hid (lnI L (q + 1) = ((lnI L q).1 ++ [(⟨AK, Li⟩ : Ln)], Li)) := jH (by rw [PF.out, if_neg hL])
  have t3 : (Li == LV) = false := by simpa using hL
  have t4 : (Li != LV) = true := by simpa using hL
  clear hL
  go_upto_region 61 with fail
  clear e9 t3 t4
  have z4 := HV.out.blk.1.cell (j := 4) rfl
  have eq : w8.cell? ⟨gT, q, none⟩ = some (.int .i64 AK) := by rw [Qo.out]; exact Kd.out q (by have := H6.out; omega) w8 MG.out
  have T0 : (q : Int) < (NT : Int) := by have := He.out; omega
  refine wp_region_head_tail (S := Cells [(g, 4, .slice la LN PH), (gT, q, .int .i64 AK)]) 9 0 (v := .pointer (some ⟨g, 4, none⟩)) jx rfl jx jx jx jd (fun _ _ _ h => h) (Or.inl ⟨by rfl, fun w => by rfl⟩) jx jx jx jd jx ?hS6 (fun H0 => ?_)
  case hS6 => exact ⟨z4, eq, trivial⟩
  simp only [jU, jG]
  try simp only [Act.put, jS]
  clear z4 eq
  refine jp 1 H0 ?_
  refine jp 2 H0 ?_
  refine jp 3 H0 ?_
  refine jp 4 H0 ?_
  refine jp 5 H0 ?_
  refine jp 6 H0 ?_
  refine jp 7 H0 ?_
  refine readyC 8 ?_
  intro K hK
  go_simp
  refine goOn hK (Cells.keep H0 ((Keeps.refl _).alloc _)) ?_
  clear hK K H0
  intro H0
  refine wpAnyH_done jx ?_ _
  dsimp only [TailQ]
  clear H0
  go_upto_region 51 with (at_builtin; refine wpList_pushes jr (.tmp 343) (.tmp 350) 26 jr Tryd.underlying26 info_ln' jr jd (base := wE.heap.size) (f := cln) (l := (lnI L q).1) jr (by exact HV.out.ln.1.keep ku5) [(⟨AK, Li⟩ : Ln)] _ _ jr jt cln_len cln_one (by have := PE.out; simp only [jL]; omega) (by have := PE.out; simp only [jL]; unfold maxLen; omega) (by have := Uw.out; first | omega | (simp only [sz_alloc, sz_drew]; omega)) ?_; intro v9 w9 K1 PJ PK PL; obtain ⟨c9, RB, T3⟩ := HV.out.ln.push (show Keeps w8 _ from ku5) K1 PK PL; have HS := HV.out.blk.turn RB jd; have y1 := HS.1.cell (j := 4) rfl; have Mz := HS.1.thawed 4; have MA := HS.1.lt; obtain ⟨KA, Ux, T4⟩ := own_form' K1; obtain ⟨Uy, Ml⟩ := jE (((lnI L q).1 ++ [(⟨AK, Li⟩ : Ln)]).length); rw [← Ml] at T4; subst T4; have Uz := jH Ml; clear Ml)
  obtain ⟨wx, RC⟩ := jE (w9.setCell ⟨g, 4, none⟩ (.slice KA Uy Ux))
  rw [← RC]
  obtain ⟨tx, T5⟩ := HV.out.setL RB T3 RC
  obtain ⟨Ku, RD⟩ := hid2 T5 (Kw.out.trans tx)
  clear RC tx T5 K1 PJ PK PL RB T3 HS y1 Mz MA
  go_wp2_with fail
  go_roundw
  case rel => exact ⟨q + 1, _, _, _, H6.out, by go_num, by rw [K0.out], RD, jH (by rw [Pr.out, K0.out]; exact Ku.out)⟩
  case measure => have H3 := H6.out; simp [intOf]; omega
 case rest =>
 clear HT HO
 obtain ⟨vT, vL, cc, HT, HO⟩ := hcut
 obtain ⟨TX, RF⟩ := jE (txI L LF.fst LF.beg NI)
 obtain ⟨Qq, Mm⟩ := jE ((lnI L NI).1)
 rw [← RF, ← Mm] at HO
 obtain ⟨PM, RG⟩ := hid2 RF Mm
 clear RF Mm
 go_upto_block 14 with fail
 go_cut [] (fun wx => ∃ (MI : Value) (vs : List Sle) (cc : Nat → Nat), Hid (Turn (fun i => 1 ≤ i) (fun _ => 0) wE cc wx) ∧ Hid (OutS wE.heap.size cc wx g vT vF MI (.slice da m.Data.length Hu) vL EE TX FL vs (f.Tables.map (tbR L LF.fst)) m.Data Qq))
 case first =>
  obtain ⟨y0, y1, y2, hy, -, UA, -⟩ := U7.out
  injection hy with hy
  simp only [Array.mk.injEq, List.cons.injEq, and_true] at hy
  obtain ⟨rfl, rfl, rfl⟩ := hy
  obtain ⟨tvt, ⟨ta2, UB, RH, -, -, -, t4⟩, RI⟩ := UA
  injection RH with RH UC UD
  subst RH
  rw [← Hw.out] at t4 RI
  have T6 : M1 ≤ 1000000000 := by rw [Hw.out]; exact Ht.out.tabs
  obtain ⟨UE, UF⟩ := hid2 RI t4
  clear RI t4 UC UD
  go_wp2_with fail
  as_aux_lemma =>
  go_loopw [28] (fun s28 wr => ∃ (i : Nat) (MI : Value) (vs : List Sle) (cc : Nat → Nat), i ≤ M1 ∧ s28 = .int .i64 i ∧ vs.length = i ∧ Hid (Turn (fun i => 1 ≤ i) (fun _ => 0) wE cc wr) ∧ Hid (OutS wE.heap.size cc wr g vT vF MI (.slice da m.Data.length Hu) vL EE TX FL vs ((f.Tables.take i).map (tbR L LF.fst)) m.Data Qq)) (fun s28 _ => M1 - (intOf s28).toNat)
  case atStart => exact ⟨0, _, [], cc, Nat.zero_le _, rfl, rfl, HT, HO⟩
  case round =>
  clear HT HO
  obtain ⟨i, MI, vs, cc, hi, rfl, T7, HT, HO⟩ := hrel
  have PO := jH T7
  clear T7
  have Hd : Keeps wE wr := HT.out.below (Nat.le_refl _) (fun _ _ => rfl) jd
  have Hl := jH Hd
  have n1 := (SD.out.keep Hd).cell (j := 1) rfl
  by_cases H3 : i < M1
  case neg =>
   obtain rfl : i = M1 := by omega
   have UG : Hid (f.Tables.take i = f.Tables) := jH (by rw [Hw.out, List.take_length])
   rw [UG.out] at HO
   clear H3 hi Hd
   go_wp2_with fail
   go_meet
   case rel => exact ⟨MI, vs, cc, HT, HO⟩
  case pos =>
  have Mw : (i : Int) < (M1 : Int) := by omega
  have H6 := jH H3
  obtain ⟨tb, Mx, rfl, tc⟩ := UF.out jo
  obtain ⟨RW, Qr⟩ := jE (nth f.Tables i)
  obtain ⟨ra, UH, K4, -, -, -, r4⟩ := UE.out i H3
  rw [← Qr] at K4 r4
  obtain ⟨RN, Qs⟩ := jE (RW.length)
  rw [← Qs] at K4 r4
  have P4 : Hid (∀ w', Keeps wE w' → w'.cell? ⟨tb, Mx + i, none⟩ = some (.slice ra RN UH)) := jH fun w' h => by have z := h.cell (tc i 0 H3 jo); simp only [Nat.mul_one, Nat.add_zero] at z; rw [← K4]; exact z
  have UI : RN ≤ 1000000000 := by rw [Qs, Qr]; exact Ht.out.rows i (by rw [← Hw.out]; exact H3)
  obtain ⟨T8, Qt, UJ⟩ := hid3 Qr Qs r4
  obtain ⟨wo, RJ⟩ := jE wr
  subst RJ
  have UK := HT
  have T9 := HO
  have RK := Hl
  have UL := Hd.size
  clear Qr Qs K4 r4 tc Hd H3 hi HT HO Hl
  go_wp2_with fail
  clear n1
  go_loopw [30, 29] (fun s30 s29 wr => ∃ (q : Nat) (a : Option Addr) (cp : Nat), q ≤ RN ∧ s30 = .int .i64 q ∧ s29 = .slice a q cp ∧ Hid (Keeps wo wr) ∧ Hid (Own wr wo.heap.size 3 1 ci (.slice a q cp) (tbR L LF.fst (RW.take q)))) (fun s30 _ _ => RN - (intOf s30).toNat)
  case atStart => exact ⟨0, none, 0, Nat.zero_le _, rfl, rfl, jH (Keeps.refl _), jH (Own.nil _ _ _ _ _)⟩
  case round =>
  obtain ⟨q, a, cp, hq, rfl, rfl, PP, Ta⟩ := hrel
  have Mn := RK.out.trans PP.out
  have n1 := (SD.out.keep Mn).cell (j := 1) rfl
  have d0 := P4.out wr Mn
  by_cases hltq : q < RN
  case pos =>
   have hqz : (q : Int) < (RN : Int) := by omega
   have Tb := jH hltq
   obtain ⟨rb, UM, rfl, rc⟩ := UJ.out jo
   have PQ : nth RW q ∈ nth f.Tables i := by rw [← T8.out]; exact nthMem (by rw [← Qt.out]; exact hltq)
   obtain ⟨h0, h1, h2, h3⟩ := Ht.out.tb i (by rw [← Hw.out]; exact H6.out) _ PQ
   obtain ⟨bn, Hq⟩ : ∃ n : Nat, nth RW q = n := ⟨(nth RW q).toNat, by omega⟩
   rw [Hq, Int.toNat_natCast] at h1 h2 h3
   obtain ⟨fi, Hj⟩ : ∃ n : Nat, nth LF.fst bn = n := ⟨(nth LF.fst bn).toNat, by omega⟩
   rw [Hj, Hm.out] at h3
   rw [Mf.out] at h1
   have c0 : wr.cell? ⟨rb, UM + q, none⟩ = some (.int .i64 bn) := by have z := Mn.cell (rc q 0 hltq jo); simp only [Nat.mul_one, Nat.add_zero] at z; rw [← Hq]; exact z
   have MD : wr.cell? ⟨gF, bn, none⟩ = some (.int .i64 fi) := by rw [← Hj]; exact SF.out bn h1 wr Mn
   obtain ⟨AF, HH⟩ := jE (adI L fi)
   have ef : wr.cell? ⟨gT, fi, none⟩ = some (.int .i64 AF) := by rw [HH]; exact Kd.out fi jo wr Mn
   have Rh : (bn : Int) < (H5 : Int) := by omega
   have Qj : (fi : Int) < (NT : Int) := by have := He.out; omega
   have Qu : Hid (tbR L LF.fst (RW.take (q + 1)) = tbR L LF.fst (RW.take q) ++ [AF]) := jH (by unfold tbR; (rw [take_succ_nth RW q (by rw [← Qt.out]; exact hltq), List.map_append, Hq, HH]); simp only [List.map_cons, List.map_nil, Int.toNat_natCast, Hj])
   have MJ : Hid ((tbR L LF.fst (RW.take q)).length = q) := jH (by unfold tbR; rw [List.length_map, List.length_take, ← Qt.out]; omega)
   have RL := jH PP.out.size
   clear rc PQ h0 h1 h2 h3 Hq Hj HH Mn
   go_wp2_with (at_builtin; refine wpList_pushes jr (.tmp 370) (.tmp 385) 25 jr Tryd.underlying25 info_int jr jd (base := wo.heap.size) (f := ci) (l := tbR L LF.fst (RW.take q)) jr (by exact Ta.out.keep ku5) [AF] _ _ jr jt ci_len ci_one (by rw [MJ.out]; simp only [jL]; omega) (by rw [MJ.out]; simp only [jL]; unfold maxLen; omega) (by have := RL.out; first | omega | (simp only [sz_alloc, sz_drew]; omega)) ?_; intro v7 w7 H2 H8 H9 Ha; obtain ⟨Ka, Kb, e7⟩ := own_form' H2; rw [List.length_append, MJ.out, List.length_singleton] at e7; subst e7; have RM := jH H2; have RO := jH (Keeps.trans' (PP.out.trans (show Keeps wr _ from ku5)) H8 (Nat.le_refl _)); clear H2 H8 H9 Ha)
   go_roundw
   case rel => exact ⟨q + 1, Ka, Kb, Tb.out, by go_num, rfl, RO, jH (by rw [Qu.out]; exact RM.out)⟩
   case measure => have H3 := Tb.out; simp [intOf]; omega
  case neg =>
  obtain rfl : q = RN := by omega
  have PR : tbR L LF.fst (RW.take q) = tbR L LF.fst RW := by rw [Qt.out, List.take_length]
  have Hg := Ta.out
  rw [PR] at Hg
  have RP : ∀ I, Turn I cc wo (fun b => if wo.heap.size ≤ b then 5 else cc b) wr := fun I => ⟨PP.out.only _, fun b hb => if_neg jo⟩
  have KP : Part 5 (fun w => Ints w (Sle.v ⟨a, q, cp⟩) (tbR L LF.fst RW)) (fun b => if wo.heap.size ≤ b then 5 else cc b) wr := ⟨_, Hg.foot.imp fun w h => h.ints, fun b hb => if_pos (Hg.row b hb)⟩
  obtain ⟨PS, UN, PT⟩ := hid3 (T9.out.turn (RP (fun _ => False)) fun _ _ _ z => z) (UK.out.trans (RP (fun i => 1 ≤ i))) KP
  obtain ⟨va, vcp, PU⟩ := own_form' T9.out.tb.1
  rw [PO.out] at PU
  subst PU
  have z2 := PS.out.blk.1.cell (j := 2) rfl
  have RQ : Hid (wE.heap.size ≤ wr.heap.size) := jH (Nat.le_trans UL PP.out.size)
  have UO : Hid ((f.Tables.take (i + 1)).map (tbR L LF.fst) = (f.Tables.take i).map (tbR L LF.fst) ++ [tbR L LF.fst RW]) := jH (by rw [take_succ_nth _ _ (by rw [← Hw.out]; exact H6.out), List.map_append, T8.out]; rfl)
  clear PR Hg RP KP hltq hq Mn
  go_wp2_with (at_builtin; refine wpList_pushes jr (.tmp 388) (.tmp 390) 24 jr Tryd.underlying24 info_row' jr jd (base := wE.heap.size) (f := sle) (l := vs) jr (by exact PS.out.tb.1.keep ku5) [(⟨a, q, cp⟩ : Sle)] _ _ jr jt sle_len sle_one (by rw [PO.out]; simp only [jL]; omega) (by rw [PO.out]; simp only [jL]; unfold maxLen; omega) (by have := RQ.out; first | omega | (simp only [sz_alloc, sz_drew]; omega)) ?_; intro v7 w7 H2 H8 H9 Ha; obtain ⟨c7, Hz, K9⟩ := PS.out.tb.push (show Keeps wr _ from ku5) H2 H9 Ha; have Hh := PS.out.blk.turn Hz jd; have y1 := Hh.1.cell (j := 2) rfl; have Mz := Hh.1.thawed 2; have MA := Hh.1.lt; obtain ⟨Ka, Kb, e7⟩ := own_form' H2; rw [List.length_append, PO.out, List.length_singleton] at e7; subst e7)
  obtain ⟨t8, KN⟩ := PS.out.setTb PT.out Hz K9 rfl
  obtain ⟨HV, Kw⟩ := hid2 KN (UN.out.trans t8)
  go_roundw
  case rel => exact ⟨i + 1, _, vs ++ [⟨a, q, cp⟩], _, H6.out, by go_num, by rw [List.length_append, PO.out]; rfl, Kw, jH (by rw [UO.out]; exact HV.out)⟩
  case measure => have H3 := H6.out; simp [intOf]; omega
 case rest =>
 clear HT HO
 obtain ⟨MI, vs, cc, HT, HO⟩ := hcut
 obtain ⟨wP, UP⟩ := jE wc
 subst UP
 have MK : Hid (Keeps wE wP) := jH (HT.out.below (Nat.le_refl _) (fun _ _ => rfl) jd)
 obtain ⟨NX, KJ⟩ := jE (m.Text.length)
 have PV := jH KJ
 have UQ : NX ≤ 1000000000 := by rw [KJ]; exact Ua.out
 clear KJ
 have PW : Hid (pdK L NX = emP m l) := jH (by (rw [pdK_is U8.out (fun k hk => by rw [PV.out]; exact (Pn.out k (by rw [← Hm.out]; exact hk)).2.2)]); unfold emP; rw [if_pos M2.out, P8.out])
 have RR : Hid (∀ x k, x < NX → k ≤ NI → (pdK L x ++ pdR L x k).length ≤ 1000000000) := jH fun x k hx hk => by
  have z := pd_le (L := L) hx (k := k) (by rw [Hm.out]; exact hk)
  rw [PW.out] at z
  refine Nat.le_trans z ?_
  unfold emP
  split
  ·unfold sortP
   rw [List.length_map, List.length_mergeSort, List.length_map]
   unfold prs
   rw [List.length_map]
   refine Nat.le_trans (List.length_filter_le _ _) ?_
   rw [P8.out, adrs_len, Hm.out]
   exact QS
  exact Nat.zero_le _
 go_upto_block 18 with fail
 go_cut [31] (fun s31 wx => ∃ (a : Option Addr) (cp : Nat), s31 = .slice a (pdK L NX).length cp ∧ Hid (Own wx wP.heap.size 71 2 cpr (.slice a (pdK L NX).length cp) (pdK L NX)) ∧ Hid (Keeps wP wx))
 case first =>
  go_wp2_with fail
  as_aux_lemma =>
  go_loopw [32, 31] (fun s32 s31 wr => ∃ (x : Nat) (a : Option Addr) (cp : Nat), x ≤ NX ∧ s32 = .int .i64 x ∧ s31 = .slice a (pdK L x).length cp ∧ Hid (Own wr wP.heap.size 71 2 cpr (.slice a (pdK L x).length cp) (pdK L x)) ∧ Hid (Keeps wP wr)) (fun s32 _ _ => NX - (intOf s32).toNat)
  case atStart => exact ⟨0, none, 0, Nat.zero_le _, rfl, rfl, jH (Own.nil _ _ _ _ _), jH (Keeps.refl _)⟩
  case round =>
  obtain ⟨x, a, cp, hx, rfl, rfl, Ke, Kf⟩ := hrel
  have m0 := (KT.out.keep (MK.out.trans Kf.out)).cell (j := 0) rfl
  rw [← PV.out] at m0
  by_cases H3 : x < NX
  case neg =>
   obtain rfl : x = NX := by omega
   clear H3 hx
   go_wp2_with fail
   go_meet
   case rel => exact ⟨a, cp, rfl, Ke, Kf⟩
  case pos =>
  have Mw : (x : Int) < (NX : Int) := by omega
  have H6 := jH H3
  obtain ⟨wo, RJ⟩ := jE wr
  subst RJ
  clear H3 hx
  go_wp2_with fail
  clear m0
  go_loopw [33, 31] (fun s33 s31 wr => ∃ (k : Nat) (a : Option Addr) (cp : Nat), k ≤ NI ∧ s33 = .int .i64 k ∧ s31 = .slice a (pdK L x ++ pdR L x k).length cp ∧ Hid (Own wr wP.heap.size 71 2 cpr (.slice a (pdK L x ++ pdR L x k).length cp) (pdK L x ++ pdR L x k)) ∧ Hid (Keeps wP wr)) (fun s33 _ _ => NI - (intOf s33).toNat)
  case atStart => exact ⟨0, a, cp, Nat.zero_le _, rfl, by rw [pdR_zero, List.append_nil], jH (by rw [pdR_zero, List.append_nil]; exact Ke.out), Kf⟩
  case round =>
  clear Ke Kf
  obtain ⟨k, a, cp, hk, rfl, rfl, Ke, Kf⟩ := hrel
  by_cases hltk : k < NI
  case neg =>
   obtain rfl : k = NI := by omega
   have Hy : Hid (pdK L x ++ pdR L x k = pdK L (x + 1)) := jH (by rw [pdK_succ, Hm.out])
   rw [Hy.out] at Ke ⊢
   clear hltk hk
   go_wp2_with fail
   go_roundw
   case rel => exact ⟨x + 1, a, cp, H6.out, by go_num, rfl, Ke, Kf⟩
   case measure => have H3 := H6.out; simp [intOf]; omega
  case pos =>
  have P9 : (k : Int) < (NI : Int) := by omega
  have M7 := jH hltk
  have RS := MK.out.trans Kf.out
  have H1 := SG.out k hltk wr RS
  obtain ⟨-, -, yO, -, -, -, -, -, -⟩ := pcO_bl (nth L k)
  obtain ⟨⟨⟨K, D, A, B, N, Lg⟩, Bl, Fn, Hr, Li⟩, hy⟩ : ∃ y, y = pcO (nth L k) := ⟨_, rfl⟩
  rw [← hy] at H1 yO
  dsimp only at yO
  have r8 := jc wr gA (k * 10 + 8) Hr (H1 8 _ jd rfl)
  obtain ⟨AK, HC⟩ := jE (adI L k)
  have ef : wr.cell? ⟨gT, k, none⟩ = some (.int .i64 AK) := by rw [HC]; exact Kd.out k jo wr RS
  have Qj : (k : Int) < (NT : Int) := by have := He.out; omega
  have RT : pdK L x ++ pdR L x (k + 1) = (pdK L x ++ pdR L x k) ++ if Hr = (x : Int) then [((x : Int), AK)] else [] := by rw [pdR_succ, yO, HC, List.append_assoc]
  have RU := RR.out x k H6.out jo
  obtain ⟨PX, Tc⟩ := jE (pdK L x ++ pdR L x k)
  rw [← Tc] at RT RU Ke ⊢
  obtain ⟨Qu, RV, UR⟩ := hid3 RT RU Kf.out.size
  clear H1 hy yO HC RT RU Tc RS hltk hk
  by_cases hE : Hr = (x : Int)
  case neg =>
   have t2 : (Hr == (x : Int)) = false := by simpa using hE
   have K2 : Hid (pdK L x ++ pdR L x (k + 1) = PX) := jH (by rw [Qu.out, if_neg hE, List.append_nil])
   clear hE
   go_wp2_with fail
   go_roundw
   case rel => exact ⟨k + 1, a, cp, M7.out, by go_num, by rw [K2.out], jH (by rw [K2.out]; exact Ke.out), Kf⟩
   case measure => have H3 := M7.out; simp [intOf]; omega
  case pos =>
  have K2 : Hid (pdK L x ++ pdR L x (k + 1) = PX ++ [((x : Int), AK)]) := jH (by rw [Qu.out, if_pos hE])
  subst hE
  obtain ⟨PN, ML⟩ := jE (PX.length)
  rw [← ML] at Ke RV ⊢
  have MJ := jH ML
  clear ML
  go_wp2_with (at_builtin; refine wpList_pushes jr (.tmp 413) (.tmp 420) 31 jr Tryd.underlying31 info_pair jr jd (base := wP.heap.size) (f := cpr) (l := PX) jr (by exact Ke.out.keep ku5) [((x : Int), AK)] _ _ jr jt cpr_len cpr_one (by rw [← MJ.out]; have := RV.out; simp only [jL]; omega) (by rw [← MJ.out]; have := RV.out; simp only [jL]; unfold maxLen; omega) (by have := UR.out; first | omega | (simp only [sz_alloc, sz_drew]; omega)) ?_; intro v7 w7 H2 H8 H9 Ha; obtain ⟨Ka, Kb, e7⟩ := own_form' H2; subst e7; have RM := jH H2; have RO := jH (Keeps.trans' (Kf.out.trans (show Keeps wr _ from ku5)) H8 (Nat.le_refl _)); clear H2 H8 H9 Ha)
  go_roundw
  case rel => exact ⟨k + 1, Ka, Kb, M7.out, by go_num, by rw [K2.out, List.length_append, List.length_singleton], jH (by rw [K2.out]; exact RM.out), RO⟩
  case measure => have H3 := M7.out; simp [intOf]; omega
 case rest =>
 obtain ⟨pa, pc, rfl, Qv, Qw⟩ := hcut
 rw [PW.out] at Qv ⊢
 obtain ⟨Td, KB, US⟩ := hid3 (HO.out.keep Qw.out) (KM.out.keep (MK.out.trans Qw.out)) (Qi.out.trans (MK.out.trans Qw.out))
 obtain ⟨ta, K6, PG⟩ := own_form' HO.out.tx.1
 obtain ⟨KA, Hn, Pt⟩ := own_form' HO.out.fn.1
 obtain ⟨Mo, Ho, Te⟩ := own_form' HO.out.tb.1
 obtain ⟨Mp, Hp, PI⟩ := own_form' HO.out.ln.1
 obtain ⟨n0, Tf⟩ := jE (TX.length)
 obtain ⟨n1, Pw⟩ := jE (FL.length)
 obtain ⟨n2, Px⟩ := jE (vs.length)
 obtain ⟨n4, Tg⟩ := jE (Qq.length)
 obtain ⟨PN, ML⟩ := jE ((emP m l).length)
 rw [← Tf] at PG
 rw [← Pw] at Pt
 rw [← Px] at Te
 rw [← Tg] at PI
 rw [← ML] at Qv ⊢
 subst PG Pt Te PI
 have Th : ImgAt wc (.agg #[.slice ta n0 K6, .slice KA n1 Hn, .slice Mo n2 Ho, .slice da m.Data.length Hu, .slice Mp n4 Hp, .int .i64 EE]) (emA m l) ∧ Foot (fun b => wE.heap.size ≤ b ∧ b < wc.heap.size) (fun w => ImgAt w (.agg #[.slice ta n0 K6, .slice KA n1 Hn, .slice Mo n2 Ho, .slice da m.Data.length Hu, .slice Mp n4 Hp, .int .i64 EE]) (emA m l)) wc := by
  have z := Td.out.foot (by rw [PM.out]; exact txI_bd _ _ _ _) ((HT.out.keep Qw.out).zero (Nat.le_refl _) (fun _ _ => rfl))
  have e : emA m l = ⟨TX.map toB, FL, (f.Tables.map (tbR L LF.fst)), m.Data, Qq, EE⟩ := by unfold emA; rw [if_pos M2.out, P8.out, ← HF.out, ← Ko.out]; unfold outI; rw [PM.out, Q2.out, RG.out, KL.out, Hm.out, M5.out]
  rw [← e] at z
  exact ⟨z.here, z⟩
 have Q1 := jH Th.2
 have Ti : Hid (bR < wE.heap.size) := jH KM.out.lt
 have Tj := Td.out.blk.1
 obtain ⟨z0, z1, z2, z3, z4, z5⟩ := Tj.k6
 obtain ⟨s0, s1, s2, s3, s4, s5⟩ := KB.out.k6
 obtain ⟨u0, u1, u2, u3, u4, u5⟩ := KB.out.t6
 have ul := KB.out.lt
 clear Tj Tf Pw Px Tg ML Th
 go_wp2_with fail
 obtain ⟨wf, Hf⟩ := jE ((((((wc.setCell ⟨bR, 0, none⟩ (.slice ta n0 K6)).setCell ⟨bR, 1, none⟩ (.slice KA n1 Hn)).setCell ⟨bR, 2, none⟩ (.slice Mo n2 Ho)).setCell ⟨bR, 3, none⟩ (.slice da m.Data.length Hu)).setCell ⟨bR, 4, none⟩ (.slice Mp n4 Hp)).setCell ⟨bR, 5, none⟩ (.int .i64 EE))
 rw [← Hf]
 have HI : Blk wf bR (.cells #[.slice ta n0 K6, .slice KA n1 Hn, .slice Mo n2 Ho, .slice da m.Data.length Hu, .slice Mp n4 Hp, .int .i64 EE] 28) := by rw [Hf]; exact (Blk.set (Blk.set (Blk.set (Blk.set (Blk.set (Blk.set KB.out 0 (.slice ta n0 K6)) 1 (.slice KA n1 Hn)) 2 (.slice Mo n2 Ho)) 3 (.slice da m.Data.length Hu)) 4 (.slice Mp n4 Hp)) 5 (.int .i64 EE))
 have KE : Keeps w wf := by rw [Hf]; exact (Keeps.setCell (Keeps.setCell (Keeps.setCell (Keeps.setCell (Keeps.setCell (Keeps.setCell US.out H4 _) H4 _) H4 _) H4 _) H4 _) H4 _)
 obtain ⟨e0, e1, e2, e3, e4, e5⟩ := HI.k6
 have PY : Only (fun b => b = bR) wc wf := by rw [Hf]; exact ((((((Only.set (S := fun b => b = bR) wc bR 0 _ rfl).trans (Only.set _ bR 1 _ rfl)).trans (Only.set _ bR 2 _ rfl)).trans (Only.set _ bR 3 _ rfl)).trans (Only.set _ bR 4 _ rfl)).trans (Only.set _ bR 5 _ rfl))
 have UT : Hid (Foot (fun b => w.heap.size ≤ b ∧ b < wf.heap.size) (fun w => ImgAt w (.agg #[.slice ta n0 K6, .slice KA n1 Hn, .slice Mo n2 Ho, .slice da m.Data.length Hu, .slice Mp n4 Hp, .int .i64 EE]) (emA m l)) wf) := jH ((Q1.out.move PY.size (fun b hb => PY.block b hb.2 (fun q => by have h9 := hb.1; have h8 := Ti.out; omega))).sub (fun b hb => ⟨Nat.le_trans Qi.out.size hb.1, Nat.lt_of_lt_of_le hb.2 PY.size⟩) (fun b hb => hb.2))
 have M9 := Own.only PY Qv.out (fun g hg q => by have h9 := Qv.out.row g hg; have h8 := MK.out.size; have h7 := Ti.out; omega)
 have UU : Hid (Foot (fun b => w.heap.size ≤ b ∧ b < wf.heap.size) (fun w => PrAt w (.slice pa PN pc) (emP m l)) wf) := jH ((M9.foot.imp fun w h => prAt_own h).sub (fun b hb => ⟨Nat.le_trans (Nat.le_trans Qi.out.size MK.out.size) (M9.row b hb), M9.foot.1 b hb⟩) (fun b hb => hb.2))
 clear M9
 have UV := jH KE
 clear Hf HI KE PY z0 z1 z2 z3 z4 z5 s0 s1 s2 s3 s4 s5 u0 u1 u2 u3 u4 u5 ul
 exact bodyPost_ret (v := .tuple #[.agg #[.slice ta n0 K6, .slice KA n1 Hn, .slice Mo n2 Ho, .slice da m.Data.length Hu, .slice Mp n4 Hp, .int .i64 EE], .slice pa PN pc, .int .i64 0]) (by simp [results, Tryd.results6, go_sem, e0, e1, e2, e3, e4, e5]) rfl ⟨_, _, by rw [M2.out], UT.out, UU.out, UV.out⟩
end Go.Proofs.YtgdamggkaklhjaaDoor
