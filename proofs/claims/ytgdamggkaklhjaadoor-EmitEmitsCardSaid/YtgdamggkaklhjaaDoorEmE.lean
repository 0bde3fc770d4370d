/-
emit.Emit: a program whose functions and blocks stand in an 
-/
import Derived.Test.YtgdamggkaklhjaaDoorEmW
import Derived.Test.YtgdamggkaklhjaaDoorEmB
import Derived.Test.YtgdamggkaklhjaaDoorEmV
import Derived.Test.YtgdamggkaklhjaaDoorFlRec9
set_option linter.all false
namespace Go.Proofs.YtgdamggkaklhjaaDoor
open Go.RowKit BH
set_option maxHeartbeats 1000000000
set_option maxRecDepth 100000
theorem emit_any {m : Img} {l : List Pa} {mv lv : Value} {w : World} (ht : Tab w) (hs : Siz w) (hm : ImgAt w mv m) (hl : PaAt w lv l) (hG : recE m = 0 → fitP (recF m) l = true → EmG m (recF m) l) (hnb : recE m = 0 → (recF m).Blocks.length ≤ 1000000000 ∧ (recF m).Firsts.length ≤ 1000000000) :
  Calls Tryd.prog 5 #[mv, lv] w (EmAns m l w) := by
 have KR := hm
 have Mm := hl
 obtain ⟨v0, v1, v2, v3, v4, rfl, i0, i1, i2, i3, i4⟩ := hm
 obtain ⟨x0, Hk, KS⟩ := Arr.form i0
 obtain ⟨x1, Hl, KT⟩ := Arr.form i1
 obtain ⟨tv2, Mn, -⟩ := i2
 obtain ⟨x2, Hm, KU⟩ := Arr.form Mn
 obtain ⟨x3, Hn, MW⟩ := Arr.form i3
 obtain ⟨x4, Ho, MX⟩ := Arr.form i4
 subst KS KT KU MW MX
 obtain ⟨MY, MZ, Mo⟩ := hl
 obtain ⟨lo, HY, rfl, -, -, -, l4⟩ := MZ
 obtain ⟨W, hW, Hp, Kx, Ky, -⟩ := two_blocks' w (.cells #[.slice x0 m.Text.length Hk, .slice x1 m.Funcs.length Hl, .slice x2 m.Tables.length Hm, .slice x3 m.Data.length Hn, .slice x4 m.Lines.length Ho, .int .i64 m.Entry] 28) (.cells #[.slice none 0 0, .slice none 0 0, .slice none 0 0, .slice none 0 0, .slice none 0 0, .int .i64 0] 28)
 obtain ⟨bM, HB⟩ := jE (w.heap.size)
 rw [← HB] at Kx Ky
 obtain ⟨bR, HC⟩ := jE (bM + 1)
 rw [← HC] at Ky
 have HZ := recover_any (ht.keep Hp) (hs.keep Hp) (KR.keep Hp)
 have K0 := jH HZ
 obtain ⟨m0, m1, m2, m3, m4, m5⟩ := Kx.k6
 obtain ⟨Mp, Hi, KV, KW⟩ := hid4 Kx Ky Hp (show Tab W ∧ Siz W from ⟨ht.keep Hp, hs.keep Hp⟩)
 obtain ⟨Mq, KX, HG, Mr⟩ := hid4 (KR.keep Hp) (Mm.keep Hp) hG hnb
 obtain ⟨Ms, Mt, HW, K1⟩ := hid4 l4 Mo hW HB
 have KY := jH HC
 have H1 : w.heap.size ≤ bR := by omega
 clear KR Mm i0 i1 Mn i3 i4 Mo l4 Hp Kx Ky HZ ht hs hG hnb hW HB HC
 go_enter Tryd.func5, Tryd.ntmps5
 go_upto_region 1 with fail
 rw [← HW.out, ← K1.out, ← KY.out]
 clear HW K1
 go_upto_region 2 with (go_at_call 10; refine K0.out.mono ?_; rintro e wa ⟨fv, rfl, P0, Mu⟩; obtain ⟨f0, f1, f2, rfl, P1, P2, KZ⟩ := P0; obtain ⟨P3, P4, P5, HD, K2⟩ := P1; obtain ⟨b0, H9, KS⟩ := Arr.form HD; obtain ⟨P6, HE, K3⟩ := P2; obtain ⟨b1, Ha, KT⟩ := Arr.form HE; obtain ⟨b2, Hb, KU⟩ := Arr.form KZ; subst KS KT KU)
 clear m0 m1 m2 m3 m4 m5 K0
 have Mv : Hid (FlowAt wa (.agg #[.slice b0 (recA m).Blocks.length H9, .slice b1 (recA m).Tables.length Ha, .slice b2 (recA m).Firsts.length Hb]) (recA m)) := jH ⟨_, _, _, rfl, ⟨P3, P4, P5, HD, K2⟩, ⟨P6, HE, K3⟩, KZ⟩
 clear HD K2 HE K3 KZ
 obtain ⟨wb, K4⟩ := jE (wa.alloc (.cells #[.slice b0 (recA m).Blocks.length H9, .slice b1 (recA m).Tables.length Ha, .slice b2 (recA m).Firsts.length Hb] 45))
 obtain ⟨b7, M0⟩ := jE (wa.heap.size)
 have Hw : Hid (Blk wb b7 (.cells #[.slice b0 (recA m).Blocks.length H9, .slice b1 (recA m).Tables.length Ha, .slice b2 (recA m).Firsts.length Hb] 45)) := jH (by rw [K4]; exact Blk.top' _ _ M0)
 have Hq : Hid (Keeps W wb) := jH (by rw [K4]; exact Mu.alloc _)
 have Hx : Hid (FlowAt wb (.agg #[.slice b0 (recA m).Blocks.length H9, .slice b1 (recA m).Tables.length Ha, .slice b2 (recA m).Firsts.length Hb]) (recA m)) := jH (by rw [K4]; exact Mv.out.keep ((Keeps.refl _).alloc _))
 rw [← K4, ← M0]
 clear K4 M0 Mu Mv
 obtain ⟨RE, M1⟩ := jE (recE m)
 rw [← M1]
 have HH := jH M1
 clear M1
 by_cases hre : RE = 0
 case neg =>
  have t1 : (RE == 0) = false := by simpa using hre
  obtain ⟨z0, z1, z2, z3, z4, z5⟩ := (Hi.out.keep Hq.out).k6
  obtain ⟨u0, u1, u2, u3, u4, u5⟩ := (Hi.out.keep Hq.out).t6
  have ul := (Hi.out.keep Hq.out).lt
  go_wp2_with fail
  obtain ⟨wf, H3⟩ := jE ((((((wb.setCell ⟨bR, 0, none⟩ (.slice none 0 0)).setCell ⟨bR, 1, none⟩ (.slice none 0 0)).setCell ⟨bR, 2, none⟩ (.slice none 0 0)).setCell ⟨bR, 3, none⟩ (.slice none 0 0)).setCell ⟨bR, 4, none⟩ (.slice none 0 0)).setCell ⟨bR, 5, none⟩ (.int .i64 0))
  rw [← H3]
  have Hd : Blk wf bR (.cells #[.slice none 0 0, .slice none 0 0, .slice none 0 0, .slice none 0 0, .slice none 0 0, .int .i64 0] 28) := by rw [H3]; exact (Blk.set (Blk.set (Blk.set (Blk.set (Blk.set (Blk.set (Hi.out.keep Hq.out) 0 (.slice none 0 0)) 1 (.slice none 0 0)) 2 (.slice none 0 0)) 3 (.slice none 0 0)) 4 (.slice none 0 0)) 5 (.int .i64 0))
  have Hr : Keeps w wf := by rw [H3]; exact (Keeps.setCell (Keeps.setCell (Keeps.setCell (Keeps.setCell (Keeps.setCell (Keeps.setCell (KV.out.trans Hq.out) H1 _) H1 _) H1 _) H1 _) H1 _) H1 _)
  obtain ⟨e0, e1, e2, e3, e4, e5⟩ := Hd.k6
  clear H3 Hd z0 z1 z2 z3 z4 z5 u0 u1 u2 u3 u4 u5 ul
  exact bodyPost_ret (v := .tuple #[.agg #[.slice none 0 0, .slice none 0 0, .slice none 0 0, .slice none 0 0, .slice none 0 0, .int .i64 0], .slice none 0 0, .int .i64 RE]) (by simp [results, Tryd.results5, go_sem, e0, e1, e2, e3, e4, e5]) rfl (EmAns.bad (by unfold emE; rw [if_pos (by rw [← HH.out]; exact hre)]; exact HH.out.symm) hre Hr)
 case pos =>
 subst hre
 have Mw : recA m = recF m := by unfold recA; rw [if_pos HH.out.symm]
 rw [Mw] at Hw Hx ⊢
 clear Mw
 obtain ⟨M2, M3⟩ := Mr.out HH.out.symm
 obtain ⟨f, hf⟩ := jE (recF m)
 have HF := jH hf
 rw [← hf] at Hw Hx M2 M3 ⊢
 have K5 := fits_any Hx.out (KX.out.keep Hq.out) M2 M3
 have H4 := jH K5
 obtain ⟨Hj, HI⟩ := jE (f.Blocks.length)
 obtain ⟨H8, HJ⟩ := jE (f.Firsts.length)
 obtain ⟨Hy, K6⟩ := jE (f.Tables.length)
 rw [← HI] at Hw Hx H4 M2 ⊢
 rw [← HJ] at Hw Hx H4 M3 ⊢
 rw [← K6] at Hw Hx H4 ⊢
 obtain ⟨n0, n1, n2⟩ := Hw.out.k3
 obtain ⟨HK, HL⟩ := hid2 HI HJ
 clear hf K5 HI HJ K6
 by_cases hft : fitP f l = true
 case neg =>
  have HM : Hid (emE m l = 8) := jH (by unfold emE; rw [if_neg (by rw [← HH.out]; simp), ← HF.out, if_neg hft])
  rw [if_neg hft] at H4
  clear hft
  go_upto_region 5 with (go_at_call 11; refine H4.out.mono ?_; rintro e wc ⟨rfl, HN⟩)
  have H7 := jH (Hq.out.trans HN)
  clear HN n0 n1 n2
  obtain ⟨z0, z1, z2, z3, z4, z5⟩ := (Hi.out.keep H7.out).k6
  obtain ⟨u0, u1, u2, u3, u4, u5⟩ := (Hi.out.keep H7.out).t6
  have ul := (Hi.out.keep H7.out).lt
  go_wp2_with fail
  obtain ⟨wf, H3⟩ := jE ((((((wc.setCell ⟨bR, 0, none⟩ (.slice none 0 0)).setCell ⟨bR, 1, none⟩ (.slice none 0 0)).setCell ⟨bR, 2, none⟩ (.slice none 0 0)).setCell ⟨bR, 3, none⟩ (.slice none 0 0)).setCell ⟨bR, 4, none⟩ (.slice none 0 0)).setCell ⟨bR, 5, none⟩ (.int .i64 0))
  rw [← H3]
  have Hd : Blk wf bR (.cells #[.slice none 0 0, .slice none 0 0, .slice none 0 0, .slice none 0 0, .slice none 0 0, .int .i64 0] 28) := by rw [H3]; exact (Blk.set (Blk.set (Blk.set (Blk.set (Blk.set (Blk.set (Hi.out.keep H7.out) 0 (.slice none 0 0)) 1 (.slice none 0 0)) 2 (.slice none 0 0)) 3 (.slice none 0 0)) 4 (.slice none 0 0)) 5 (.int .i64 0))
  have Hr : Keeps w wf := by rw [H3]; exact (Keeps.setCell (Keeps.setCell (Keeps.setCell (Keeps.setCell (Keeps.setCell (Keeps.setCell (KV.out.trans H7.out) H1 _) H1 _) H1 _) H1 _) H1 _) H1 _)
  obtain ⟨e0, e1, e2, e3, e4, e5⟩ := Hd.k6
  clear H3 Hd z0 z1 z2 z3 z4 z5 u0 u1 u2 u3 u4 u5 ul
  exact bodyPost_ret (v := .tuple #[.agg #[.slice none 0 0, .slice none 0 0, .slice none 0 0, .slice none 0 0, .slice none 0 0, .int .i64 0], .slice none 0 0, .int .i64 8]) (by simp [results, Tryd.results5, go_sem, e0, e1, e2, e3, e4, e5]) rfl (EmAns.bad HM.out jd Hr)
 case pos =>
 rw [if_pos hft] at H4
 have Kz := jH hft
 clear hft
 go_upto_region 7 with (go_at_call 11; refine H4.out.mono ?_; rintro e wc ⟨rfl, HN⟩)
 have H7 := jH (Hq.out.trans HN)
 obtain ⟨K7, K8, M4, HO⟩ := hid4 (Mp.out.keep H7.out) (Hw.out.keep HN) (Hx.out.keep HN) (Mq.out.keep H7.out)
 obtain ⟨He, KA, HQ, M5⟩ := hid4 (Hi.out.keep H7.out) (KV.out.trans H7.out) (show Tab wc ∧ Siz wc from ⟨KW.out.1.keep H7.out, KW.out.2.keep H7.out⟩) (KX.out.keep H7.out)
 obtain ⟨wZ, P7⟩ := jE wc
 subst P7
 clear HN n0 n1 n2 Hq Hx Hw H7 H4 Mp Mq Hi KW KX
 obtain ⟨o5, K9, Mx⟩ := run_mk (P := Tryd.prog) (n := Hj) (fun x : Int => iV x) 0 Tryd.underlying25 info_int rfl jo (by unfold maxLen; omega)
 obtain ⟨o9, Ka, My⟩ := run_mk (P := Tryd.prog) (n := H8) (fun x : Int => iV x) 0 Tryd.underlying25 info_int rfl jo (by unfold maxLen; omega)
 obtain ⟨M6, M7, Kb⟩ := hid3 Mx My (show _ ∧ _ from ⟨K9, Ka⟩)
 clear K9 Ka Mx My
 go_cut [10] (fun s10 wx => ∃ (xb : Nat) (vF vB : Value) (cc : Nat → Nat), s10 = .pointer (some ⟨xb, 0, none⟩) ∧ Hid (Mkr m f wZ (.slice x0 m.Text.length Hk) (.slice x1 m.Funcs.length Hl) (.slice x2 m.Tables.length Hm) (.slice x3 m.Data.length Hn) (.slice x4 m.Lines.length Ho) (.slice b0 Hj H9) (.slice b1 Hy Ha) (.slice b2 H8 Hb) xb (.slice none 0 0) vF vB [] (List.replicate Hj 0) (List.replicate H8 0) cc wx))
 case first =>
  obtain ⟨K9, Ka⟩ := Kb.out
  obtain ⟨m0, m1, m2, m3, m4, m5⟩ := K7.out.k6
  obtain ⟨n0, n1, n2⟩ := K8.out.k3
  go_upto_region 7 with fail
  refine wp_region_held_drew (S := Cells [(bM, 0, .slice x0 m.Text.length Hk), (bM, 1, .slice x1 m.Funcs.length Hl), (bM, 2, .slice x2 m.Tables.length Hm), (bM, 3, .slice x3 m.Data.length Hn), (bM, 4, .slice x4 m.Lines.length Ho), (bM, 5, .int .i64 m.Entry), (b7, 0, .slice b0 Hj H9), (b7, 1, .slice b1 Hy Ha), (b7, 2, .slice b2 H8 Hb)]) jx ⟨m0, m1, m2, m3, m4, m5, n0, n1, n2, trivial⟩ (fun H0 => ?_)
  clear m0 m1 m2 m3 m4 m5 n0 n1 n2
  refine jp 0 H0 ?_
  refine jp 1 H0 ?_
  refine jp 2 H0 ?_
  refine jp 3 H0 ?_
  refine jp 4 H0 ?_
  refine jp 6 H0 ?_
  refine jp 7 H0 ?_
  refine jp 8 H0 ?_
  refine wpAnyH_ready (rs := [5, 9]) jx (by simp) ?_
  refine AllReadyH.cons (o := ?oa) ?ha ?sa (AllReadyH.cons (o := ?ob) ?hb ?sb AllReadyH.nil)
  case ha => (simp only [jT]; try rfl)
  case hb => (simp only [jT]; try rfl)
  case sa =>
   intro K hK
   go_simp
   refine goOn hK (Cells.keep H0 ((Keeps.refl _).alloc _)) (fun hHeld2 => ?_)
   clear hK K H0
   have H0 := hHeld2
   clear hHeld2
   refine readyC 9 ?_
   intro K hK
   go_simp
   refine goOn hK (Cells.keep H0 ((Keeps.refl _).alloc _)) (fun hHeld2 => ?_)
   clear hK K H0
   have H0 := hHeld2
   clear hHeld2
   refine jp 10 H0 ?_
   refine readyC 11 ?_
   intro K hK
   go_simp
   refine goOn hK (Cells.keep H0 ((Keeps.refl _).alloc _)) (fun hHeld2 => ?_)
   clear hK K H0
   have H0 := hHeld2
   clear hHeld2
   refine jp 12 H0 ?_
   refine wpAnyH_done jx ?_ _
   clear H0 K9 Ka
   obtain ⟨c2, Hc, Kc, Kd⟩ := two_rows 3 4 (Keeps.refl _) M6.out M7.out (fun _ => 0)
   obtain ⟨c3, HR⟩ := Mkr.start HO.out M4.out (Hc _) Kc Kd rfl
   rw [sz_alloc, sz_alloc] at HR
   have M8 := jH (HR.keeps ((Keeps.refl _).drew))
   clear Hc Kc Kd HR
   go_wp2_with fail
   go_meet
   case rel => exact ⟨_, _, _, c3, rfl, M8⟩
  case sb =>
  intro K hK
  go_simp
  refine goOn hK (Cells.keep H0 ((Keeps.refl _).alloc _)) (fun hHeld2 => ?_)
  clear hK K H0
  have H0 := hHeld2
  clear hHeld2
  refine readyC 5 ?_
  intro K hK
  go_simp
  refine goOn hK (Cells.keep H0 ((Keeps.refl _).alloc _)) (fun hHeld2 => ?_)
  clear hK K H0
  have H0 := hHeld2
  clear hHeld2
  refine jp 10 H0 ?_
  refine readyC 11 ?_
  intro K hK
  go_simp
  refine goOn hK (Cells.keep H0 ((Keeps.refl _).alloc _)) (fun hHeld2 => ?_)
  clear hK K H0
  have H0 := hHeld2
  clear hHeld2
  refine jp 12 H0 ?_
  refine wpAnyH_done jx ?_ _
  clear H0 K9 Ka
  obtain ⟨c2, Hc, Kd, Kc⟩ := two_rows 4 3 (Keeps.refl _) M7.out M6.out (fun _ => 0)
  obtain ⟨c3, HR⟩ := Mkr.start HO.out M4.out (Hc _) Kc Kd rfl
  rw [sz_alloc, sz_alloc] at HR
  have M8 := jH (HR.keeps ((Keeps.refl _).drew))
  clear Hc Kc Kd HR
  go_wp2_with fail
  go_meet
  case rel => exact ⟨_, _, _, c3, rfl, M8⟩
 case rest =>
 obtain ⟨xb, vF, vB, cc, rfl, HX⟩ := hcut
 clear Kb M6 M7 K7 K8 M4 HO
 obtain ⟨NP, KB⟩ := jE (l.length)
 have Ke := Ms
 have Kf := Mt
 rw [← KB] at Ke Kf ⊢
 have M9 := jH KB
 have KC := HG.out HH.out.symm (by rw [← HF.out]; exact Kz.out)
 rw [← HF.out] at KC
 have Hz := jH KC
 have P8 : NP ≤ 1000000000 := by rw [KB]; exact KC.pr.parts
 have Mz : Hid (Mkr m f wZ (.slice x0 m.Text.length Hk) (.slice x1 m.Funcs.length Hl) (.slice x2 m.Tables.length Hm) (.slice x3 m.Data.length Hn) (.slice x4 m.Lines.length Ho) (.slice b0 Hj H9) (.slice b1 Hy Ha) (.slice b2 H8 Hb) xb (.slice none 0 0) vF vB ((layK f l 0).its.map zIt) (layK f l 0).fst (layK f l 0).beg cc wc) := jH (by rw [layK_zero]; unfold ly0; dsimp only; rw [← HK.out, ← HL.out]; exact HX.out)
 clear KB KC HX Ms Mt HG Mr
 go_wp2_with fail
 go_loopw [47] (fun s47 wr => ∃ (i : Nat) (vI : Value) (cc : Nat → Nat), i ≤ NP ∧ s47 = .int .i64 i ∧ Hid (Mkr m f wZ (.slice x0 m.Text.length Hk) (.slice x1 m.Funcs.length Hl) (.slice x2 m.Tables.length Hm) (.slice x3 m.Data.length Hn) (.slice x4 m.Lines.length Ho) (.slice b0 Hj H9) (.slice b1 Hy Ha) (.slice b2 H8 Hb) xb vI vF vB ((layK f l i).its.map zIt) (layK f l i).fst (layK f l i).beg cc wr)) (fun s47 _ => NP - (intOf s47).toNat)
 case atStart => exact ⟨0, _, cc, Nat.zero_le _, rfl, Mz⟩
 case round =>
 clear Mz
 obtain ⟨i, vI, cc, hi, rfl, HX⟩ := hrel
 by_cases Hs : i < NP
 case pos =>
  have hlz : (i : Int) < (NP : Int) := by omega
  have MA := jH Hs
  have KD : i < l.length := by rw [← M9.out]; exact Hs
  obtain ⟨lb, MB, rfl, lc⟩ := Ke.out jo
  obtain ⟨h1, h2, h3, -⟩ := fitP_head Kz.out KD
  obtain ⟨ta, MC, KE, -, -, -, t4⟩ := Kf.out i Hs
  obtain ⟨LY, Kg⟩ := jE (layK f l i)
  rw [← Kg] at HX
  have Hf := layK_lens f l i
  rw [← Kg, ← HK.out, ← HL.out] at Hf
  obtain ⟨P, hP⟩ := jE (nth l i)
  have HA : Keeps w wr := KA.out.trans HX.out.keep
  obtain ⟨fn, KF⟩ : ∃ n : Nat, P.Func = n := ⟨P.Func.toNat, by rw [hP]; omega⟩
  have d0 : wr.cell? ⟨lb, MB + i * 2, none⟩ = some (.int .i64 fn) := by rw [← KF, hP]; exact HA.cell (lc i 0 Hs jo)
  have d1 := jv wr lb (MB + i * 2 + 1) (MY i) (HA.cell (lc i 1 Hs jo))
  rw [← hP] at KE t4 h1 h2 h3
  obtain ⟨BN, KG⟩ := jE (P.Blocks.length)
  rw [← KG] at KE t4 h3
  rw [KE] at d1
  rw [KF, ← HL.out] at h2
  obtain ⟨wq, cq, MD, ME, MF, Ht⟩ := one_paint wr cc (.cells #[.int .i64 fn, .slice ta BN MC] 54) 7
  obtain ⟨MG, Hg⟩ := jE (wr.heap.size)
  rw [← Hg] at Ht
  have Kh := HX.out.turn (MF (fun _ => False)) (fun q => q) (fun q => q) (fun q => q) (fun q => q) (fun q => q)
  obtain ⟨ia, ic, P9⟩ := own_form' Kh.its.1
  subst P9
  obtain ⟨NI, Ma⟩ := jE ((LY.its.map zIt).length)
  have Ki : NI = LY.its.length := by rw [Ma, List.length_map]
  have x9 : wq.cell? ⟨xb, 9, none⟩ = some (.slice ia NI ic) := by rw [Ma]; exact Kh.blk.1.cell rfl
  obtain ⟨gB, cB, Pb, Pc, Pd, Pe, MH⟩ := Kh.begin (n := fn) (by rw [Hf.2]; omega)
  subst Pb
  have MI : wq.cell? ⟨xb, 11, none⟩ = some (.slice (some ⟨gB, 0, none⟩) H8 cB) := by rw [← Hf.2]; exact Kh.blk.1.cell rfl
  have hfz : (fn : Int) < (H8 : Int) := by omega
  have n0 := Ht.1.cell (j := 0) rfl
  obtain ⟨w2, Mb⟩ := jE ((wq.setCell ⟨gB, fn, none⟩ (.int .i64 NI)).drew)
  obtain ⟨t2, Hh⟩ := MH (NI : Int) _ rfl
  have Mc : Keeps (wq.setCell ⟨gB, fn, none⟩ (.int .i64 NI)) w2 := by rw [Mb]; exact (Keeps.refl _).drew
  have Kj : Mkr m f wZ (.slice x0 m.Text.length Hk) (.slice x1 m.Funcs.length Hl) (.slice x2 m.Tables.length Hm) (.slice x3 m.Data.length Hn) (.slice x4 m.Lines.length Ho) (.slice b0 Hj H9) (.slice b1 Hy Ha) (.slice b2 H8 Hb) xb (.slice ia (LY.its.map zIt).length ic) vF (.slice (some ⟨gB, 0, none⟩) LY.beg.length cB) ((begP LY P).its.map zIt) (begP LY P).fst (begP LY P).beg cq w2 := by have z := Hh.keeps Mc; unfold begP; dsimp only; rw [KF, Int.toNat_natCast, ← Ki]; exact z
  obtain ⟨KH, H5, MJ, Pf⟩ := hid4 Kj ((Ht.turn t2 jd).keep Mc) MD Kg
  obtain ⟨HP, Kk, Pg, Md⟩ := hid4 hP KG t4 Hf
  have HKQ := jH (HA.trans ME)
  have Me : Hid (layK f l (i + 1) = layBs f P.Blocks (begP LY P) BN) := jH (by rw [layK_succ, ← Kg, ← hP, KG]; rfl)
  clear HA Ma Ki Kh Hh Kj MH t2 Mc Kg hP KG KE t4 Hf Ht MF ME MD h1 h2 h3 Hs hi KF HX lc
  go_upto_region 11 with fail
  rw [← MJ.out, ← Hg]
  clear Hg d0 d1
  refine wp_region_head_tail (S := Cells [(xb, 11, .slice (some ⟨gB, 0, none⟩) H8 cB), (MG, 0, .int .i64 fn), (xb, 9, .slice ia NI ic)]) 11 0 (v := .pointer (some ⟨xb, 0, none⟩)) jx rfl jx jx jx jd (fun _ _ _ h => h) (Or.inl ⟨by rfl, fun w => by rfl⟩) jx jx jx jd jx ?hS1 (fun H0 => ?_)
  case hS1 => exact ⟨MI, n0, x9, trivial⟩
  simp only [jU, jG]
  try simp only [Act.put, jS]
  clear MI n0 x9
  refine jp 1 H0 ?_
  refine jp 2 H0 ?_
  refine jp 3 H0 ?_
  refine jp 4 H0 ?_
  refine jp 5 H0 ?_
  refine jp 6 H0 ?_
  refine jp 7 H0 ?_
  refine jp 8 H0 ?_
  refine jp 9 H0 ?_
  refine jp 10 H0 ?_
  refine wpAnyH_done jx ?_ _
  dsimp only [TailQ]
  clear H0
  go_upto_region 12 with fail
  rw [← Mb]
  clear Mb Pd Pe Pc MJ
  have n1 := H5.out.1.cell (j := 1) rfl
  go_wp2_with fail
  clear n1
  go_loopw [66] (fun s66 wr => ∃ (k : Nat) (vI : Value) (cc : Nat → Nat), k ≤ BN ∧ s66 = .int .i64 k ∧ Hid (Mkr m f wZ (.slice x0 m.Text.length Hk) (.slice x1 m.Funcs.length Hl) (.slice x2 m.Tables.length Hm) (.slice x3 m.Data.length Hn) (.slice x4 m.Lines.length Ho) (.slice b0 Hj H9) (.slice b1 Hy Ha) (.slice b2 H8 Hb) xb vI vF (.slice (some ⟨gB, 0, none⟩) LY.beg.length cB) ((layBs f P.Blocks (begP LY P) k).its.map zIt) (layBs f P.Blocks (begP LY P) k).fst (layBs f P.Blocks (begP LY P) k).beg cc wr) ∧ Hid (BlkC 7 cc wr MG (.cells #[.int .i64 fn, .slice ta BN MC] 54))) (fun s66 _ => BN - (intOf s66).toNat)
  case atStart => exact ⟨0, _, cq, Nat.zero_le _, rfl, KH, H5⟩
  case round =>
  clear KH H5
  obtain ⟨k, vI, cc, hk, rfl, HX, H5⟩ := hrel
  by_cases hltk : k < BN
  case pos =>
   have hkz : (k : Int) < (BN : Int) := by omega
   have MK := jH hltk
   have hkb : k < 1000000000 := by have := Hz.out.pl i KD; rw [← HP.out, ← Kk.out] at this; omega
   obtain ⟨tb, ML, rfl, tc⟩ := Pg.out jo
   have HA : Keeps w wr := KA.out.trans HX.out.keep
   obtain ⟨g1, g2, -, -⟩ := fitP_blk Kz.out KD (k := k) (by rw [← HP.out, ← Kk.out]; exact hltk)
   rw [← HP.out] at g1 g2
   obtain ⟨bn, KI⟩ : ∃ n : Nat, nth P.Blocks k = n := ⟨(nth P.Blocks k).toNat, by omega⟩
   rw [KI] at g2
   have KJ : bn < f.Blocks.length := by omega
   have c0 : wr.cell? ⟨tb, ML + k, none⟩ = some (.int .i64 bn) := by have z := HA.cell (tc k 0 hltk jo); simp only [Nat.mul_one, Nat.add_zero] at z; rw [← KI]; exact z
   obtain ⟨NX, KK⟩ := jE (nxt P.Blocks k)
   have Ph : Hid (k + 1 < BN → wr.cell? ⟨tb, ML + (k + 1), none⟩ = some (.int .i64 NX)) := jH fun h => by
    have z := HA.cell (tc (k + 1) 0 h jo)
    simp only [Nat.mul_one, Nat.add_zero] at z
    rw [KK]
    unfold nxt
    rw [← Kk.out, if_pos h]
    exact z
   have Pi : Hid (¬ k + 1 < BN → NX = -1) := jH fun h => by rw [KK]; unfold nxt; rw [← Kk.out, if_neg h]
   have MM := layBs_lens f P.Blocks (begP LY P) k
   have MN : f.Blocks.length = (layBs f P.Blocks (begP LY P) k).fst.length := by rw [MM.1]; have := Md.out.1; unfold begP; dsimp only; rw [this, HK.out]
   have HS := Hz.out.few i KD k (by rw [← HP.out, ← Kk.out]; omega)
   rw [← HP.out, ← Pf.out] at HS
   have Kl : ∀ w', Keeps wr w' → Calls Tryd.prog 12 #[.pointer (some ⟨xb, 0, none⟩), .int .i64 bn, .int .i64 NX] w' fun e w'' => e = .returned (.tuple #[]) ∧ ∃ c2 v2, Turn (fun i => i = 1 ∨ i = 2 ∨ i = 3) cc w' c2 w'' ∧ Mkr m f wZ (.slice x0 m.Text.length Hk) (.slice x1 m.Funcs.length Hl) (.slice x2 m.Tables.length Hm) (.slice x3 m.Data.length Hn) (.slice x4 m.Lines.length Ho) (.slice b0 Hj H9) (.slice b1 Hy Ha) (.slice b2 H8 Hb) xb v2 vF (.slice (some ⟨gB, 0, none⟩) LY.beg.length cB) ((layBs f P.Blocks (begP LY P) (k + 1)).its.map zIt) (layBs f P.Blocks (begP LY P) (k + 1)).fst (layBs f P.Blocks (begP LY P) (k + 1)).beg c2 w'' := fun w' h => by
    refine (block_any (HX.out.keeps h) bn NX KJ (Hz.out.bk bn KJ) MN (by rw [List.length_map]; exact HS)).mono ?_
    rintro e w'' ⟨he, c2, v2, q1, q2⟩
    refine ⟨he, c2, v2, q1, ?_⟩
    rw [layBs_succ]
    unfold layB
    dsimp only
    rw [KI, Int.toNat_natCast, ← KK, List.map_append]
    rw [List.length_map] at q2
    exact q2
   have Mf := jH Kl
   clear HA tc g1 g2 KI KJ KK MM MN HS Kl hltk hk
   have n1 := H5.out.1.cell (j := 1) rfl
   go_upto_if 76 with fail
   clear c0 n1
   go_cut [15] (fun s15 wx => s15 = .int .i64 NX ∧ Hid (Keeps wr wx))
   case first =>
    have n1 := H5.out.1.cell (j := 1) rfl
    by_cases hk1 : k + 1 < BN
    case pos =>
     have Pj : (k : Int) + 1 < (BN : Int) := by omega
     have c1 := Ph.out hk1
     go_wp2_with fail
     go_meet
     case rel => exact ⟨rfl, jH (Keeps.refl _)⟩
    case neg =>
    have Pj : ¬ (k : Int) + 1 < (BN : Int) := by omega
    have Me := jH (Pi.out hk1)
    go_wp2_with fail
    go_meet
    case rel => exact ⟨by rw [Me.out], jH (Keeps.refl _)⟩
   case rest =>
   obtain ⟨rfl, MO⟩ := hcut
   go_wp2_with (go_at_call 12; refine (Mf.out _ (MO.out.trans ku5)).mono ?_; rintro e wd ⟨rfl, c2, v2, Hc, Hh⟩; have Pk := jH Hc; have KH := jH Hh; clear Hc Hh)
   go_roundw
   case rel => exact ⟨k + 1, v2, c2, MK.out, by go_num, KH, jH ((H5.out.keep MO.out).turn Pk.out jd)⟩
   case measure => have Hs := MK.out; simp [intOf]; omega
  case neg =>
  obtain rfl : k = BN := by omega
  have Pl : Hid (Mkr m f wZ (.slice x0 m.Text.length Hk) (.slice x1 m.Funcs.length Hl) (.slice x2 m.Tables.length Hm) (.slice x3 m.Data.length Hn) (.slice x4 m.Lines.length Ho) (.slice b0 Hj H9) (.slice b1 Hy Ha) (.slice b2 H8 Hb) xb vI vF (.slice (some ⟨gB, 0, none⟩) LY.beg.length cB) ((layK f l (i + 1)).its.map zIt) (layK f l (i + 1)).fst (layK f l (i + 1)).beg cc wr) := jH (by rw [Me.out]; exact HX.out)
  clear hltk hk HX
  go_wp2_with fail
  go_roundw
  case rel => exact ⟨i + 1, vI, cc, MA.out, by go_num, Pl⟩
  case measure => have Hs := MA.out; simp [intOf]; omega
 case neg =>
 obtain rfl : i = NP := by omega
 obtain ⟨LF, HV⟩ := jE (lay f l)
 have MP : layK f l i = LF := by rw [HV, M9.out]; rfl
 rw [MP] at HX
 obtain ⟨R, hR⟩ := jE (setI LF.fst LF.its)
 have MQ : R.length = LF.its.length := by obtain ⟨T, -, -, e⟩ := setI_low LF.its LF.fst; rw [hR, e, Lng_len]
 have Mg : emI m l = R := by unfold emI; rw [← HF.out, ← HV, hR]
 have HT := settle_any (L0 := LF.its) HX.out HQ.out.1 HQ.out.2 (by rw [HV]; exact Hz.out.st) (List.length_map _) (fun j hj => by rw [nthMap _ _ hj]; rfl)
 obtain ⟨SZ, KL⟩ := jE (adI R R.length)
 rw [← hR, ← MQ, ← KL] at HT
 have MR : emE m l = if 8000 < SZ then 1 else 0 := by unfold emE; rw [if_neg (by rw [← HH.out]; simp), ← HF.out, if_pos Kz.out, Mg, ← KL]
 have Hu := Hz.out.pr
 have Mh := Hz.out.nd
 have Mi := Hz.out.rg
 rw [← HV, ← hR] at Hu Mh Mi
 obtain ⟨HU, MS, Km, Mj⟩ := hid4 HT MR Hu (show _ ∧ _ from ⟨Mh, Mi⟩)
 obtain ⟨Pm, Kn, Pn, Po⟩ := hid4 KL Mg (show R.length ≤ 1000000000 from Hu.len) HV
 clear HV MP hR MQ Mg HT KL MR Hu Mh Mi Hs hi
 by_cases h8 : 8000 < SZ
 case pos =>
  have HM := jH (show emE m l = 1 by rw [MS.out, if_pos h8])
  go_upto_region 22 with (go_at_call 13; refine HU.out.mono ?_; rintro e wd ⟨rfl, c2, Hc, Hh⟩)
  have Hv : Hid (Keeps wZ wd) := jH Hh.keep
  clear Hc Hh
  obtain ⟨z0, z1, z2, z3, z4, z5⟩ := (He.out.keep Hv.out).k6
  obtain ⟨u0, u1, u2, u3, u4, u5⟩ := (He.out.keep Hv.out).t6
  have ul := (He.out.keep Hv.out).lt
  go_wp2_with fail
  obtain ⟨wf, H3⟩ := jE ((((((wd.setCell ⟨bR, 0, none⟩ (.slice none 0 0)).setCell ⟨bR, 1, none⟩ (.slice none 0 0)).setCell ⟨bR, 2, none⟩ (.slice none 0 0)).setCell ⟨bR, 3, none⟩ (.slice none 0 0)).setCell ⟨bR, 4, none⟩ (.slice none 0 0)).setCell ⟨bR, 5, none⟩ (.int .i64 0))
  rw [← H3]
  have Hd : Blk wf bR (.cells #[.slice none 0 0, .slice none 0 0, .slice none 0 0, .slice none 0 0, .slice none 0 0, .int .i64 0] 28) := by rw [H3]; exact (Blk.set (Blk.set (Blk.set (Blk.set (Blk.set (Blk.set (He.out.keep Hv.out) 0 (.slice none 0 0)) 1 (.slice none 0 0)) 2 (.slice none 0 0)) 3 (.slice none 0 0)) 4 (.slice none 0 0)) 5 (.int .i64 0))
  have Hr : Keeps w wf := by rw [H3]; exact (Keeps.setCell (Keeps.setCell (Keeps.setCell (Keeps.setCell (Keeps.setCell (Keeps.setCell (KA.out.trans Hv.out) H1 _) H1 _) H1 _) H1 _) H1 _) H1 _)
  obtain ⟨e0, e1, e2, e3, e4, e5⟩ := Hd.k6
  clear H3 Hd z0 z1 z2 z3 z4 z5 u0 u1 u2 u3 u4 u5 ul
  exact bodyPost_ret (v := .tuple #[.agg #[.slice none 0 0, .slice none 0 0, .slice none 0 0, .slice none 0 0, .slice none 0 0, .int .i64 0], .slice none 0 0, .int .i64 1]) (by simp [results, Tryd.results5, go_sem, e0, e1, e2, e3, e4, e5]) rfl (EmAns.bad HM.out jd Hr)
 case neg =>
 have HM := jH (show emE m l = 0 by rw [MS.out, if_neg h8])
 go_upto_region 24 with (go_at_call 13; refine HU.out.mono ?_; rintro e wd ⟨rfl, c2, Hc, Hh⟩; have KM := jH Hh; clear Hc Hh)
 have Ko : Hid (∀ w', Keeps wd w' → Calls Tryd.prog 14 #[.pointer (some ⟨xb, 0, none⟩), .slice lo i HY, .int .i64 SZ] w' fun e w'' => ∃ v, e = .returned v ∧ Foot (fun b => w'.heap.size ≤ b ∧ b < w''.heap.size) (fun w => ImgAt w v (emA m l)) w'' ∧ Keeps w' w'') := jH fun w' h => by (have z := program_any (l := l) (lv := .slice lo i HY) (KM.out.keeps h) HQ.out.1 (by rw [M9.out]; exact M5.out) Km.out); rw [← Pm.out] at z; (have e1 : outI m f l R LF.fst LF.beg = emA m l := by unfold emA; rw [if_pos HM.out, Kn.out, ← HF.out, Po.out]); rw [e1] at z; exact z
 have Kp : Hid (∀ w', Keeps wd w' → Calls Tryd.prog 15 #[.pointer (some ⟨xb, 0, none⟩)] w' fun e w'' => ∃ a c, e = .returned (.slice a (emP m l).length c) ∧ Own w'' w'.heap.size 71 2 cpr (.slice a (emP m l).length c) (emP m l) ∧ Keeps w' w'') := jH fun w' h => by
  refine (pairs_any (KM.out.keeps h) Mj.out.1 Mj.out.2 (by rw [adrs_len]; exact Pn.out)).mono ?_
  rintro e w'' ⟨v, he, ho, hk⟩
  have e1 : sortP (prs (adrs R)) = emP m l := by unfold emP; rw [if_pos HM.out, Kn.out]
  rw [e1] at ho
  obtain ⟨a, c, hv⟩ := own_form' ho
  subst hv
  exact ⟨a, c, he, ho, hk⟩
 go_upto_region 24 with fail
 clear HU HX Hz Km Mj
 obtain ⟨H2, Hv⟩ := hid2 (He.out.keep KM.out.keep) (KA.out.trans KM.out.keep)
 go_wp2_with (first | (go_at_call 14; refine (Ko.out _ ku5).mono ?_; rintro e we ⟨pv, rfl, Mk, MT⟩; obtain ⟨pv0, pv1, pv2, pv3, pv4, rfl, q0, q1, q2, q3, q4⟩ := Mk.here; obtain ⟨p0, Kq, Pp⟩ := Arr.form q0; obtain ⟨p1, Kr, Pq⟩ := Arr.form q1; obtain ⟨tq2, MU, -⟩ := q2; obtain ⟨p2, Ks, Pr⟩ := Arr.form MU; obtain ⟨p3, Kt, Ps⟩ := Arr.form q3; obtain ⟨p4, Ku, Pt⟩ := Arr.form q4; subst Pp Pq Pr Ps Pt; have Pu := jH Mk; have KN := jH MT; clear q0 q1 MU q3 q4 MT Mk) | (go_at_call 15; refine (Kp.out _ KN.out).mono ?_; rintro e wg ⟨pa, pc, rfl, MV, KO⟩; have Kv := jH MV; have Kw := jH KO; have H6 := jH (KN.out.trans KO); have Pv := jH (Pu.out.keep KO); clear MV KO; have z0 := (H2.out.keep H6.out).cell (j := 0) rfl; have z1 := (H2.out.keep H6.out).cell (j := 1) rfl; have z2 := (H2.out.keep H6.out).cell (j := 2) rfl; have z3 := (H2.out.keep H6.out).cell (j := 3) rfl; have z4 := (H2.out.keep H6.out).cell (j := 4) rfl; have z5 := (H2.out.keep H6.out).cell (j := 5) rfl; have u0 := (H2.out.keep H6.out).thawed 0; have u1 := (H2.out.keep H6.out).thawed 1; have u2 := (H2.out.keep H6.out).thawed 2; have u3 := (H2.out.keep H6.out).thawed 3; have u4 := (H2.out.keep H6.out).thawed 4; have u5 := (H2.out.keep H6.out).thawed 5; have ul := (H2.out.keep H6.out).lt))
 obtain ⟨wf, H3⟩ := jE ((((((wg.setCell ⟨bR, 0, none⟩ (.slice p0 (emA m l).Text.length Kq)).setCell ⟨bR, 1, none⟩ (.slice p1 (emA m l).Funcs.length Kr)).setCell ⟨bR, 2, none⟩ (.slice p2 (emA m l).Tables.length Ks)).setCell ⟨bR, 3, none⟩ (.slice p3 (emA m l).Data.length Kt)).setCell ⟨bR, 4, none⟩ (.slice p4 (emA m l).Lines.length Ku)).setCell ⟨bR, 5, none⟩ (.int .i64 (emA m l).Entry))
 rw [← H3]
 have Hd : Blk wf bR (.cells #[.slice p0 (emA m l).Text.length Kq, .slice p1 (emA m l).Funcs.length Kr, .slice p2 (emA m l).Tables.length Ks, .slice p3 (emA m l).Data.length Kt, .slice p4 (emA m l).Lines.length Ku, .int .i64 (emA m l).Entry] 28) := by rw [H3]; exact (Blk.set (Blk.set (Blk.set (Blk.set (Blk.set (Blk.set (H2.out.keep H6.out) 0 (.slice p0 (emA m l).Text.length Kq)) 1 (.slice p1 (emA m l).Funcs.length Kr)) 2 (.slice p2 (emA m l).Tables.length Ks)) 3 (.slice p3 (emA m l).Data.length Kt)) 4 (.slice p4 (emA m l).Lines.length Ku)) 5 (.int .i64 (emA m l).Entry))
 have Hr : Keeps w wf := by rw [H3]; exact (Keeps.setCell (Keeps.setCell (Keeps.setCell (Keeps.setCell (Keeps.setCell (Keeps.setCell (Hv.out.trans H6.out) H1 _) H1 _) H1 _) H1 _) H1 _) H1 _)
 obtain ⟨e0, e1, e2, e3, e4, e5⟩ := Hd.k6
 have KP : Only (fun b => b = bR) wg wf := by rw [H3]; exact ((((((Only.set (S := fun b => b = bR) wg bR 0 _ rfl).trans (Only.set _ bR 1 _ rfl)).trans (Only.set _ bR 2 _ rfl)).trans (Only.set _ bR 3 _ rfl)).trans (Only.set _ bR 4 _ rfl)).trans (Only.set _ bR 5 _ rfl))
 have KJ := H2.out.lt
 have Pw : Hid (Foot (fun b => w.heap.size ≤ b ∧ b < wf.heap.size) (fun w => ImgAt w (.agg #[.slice p0 (emA m l).Text.length Kq, .slice p1 (emA m l).Funcs.length Kr, .slice p2 (emA m l).Tables.length Ks, .slice p3 (emA m l).Data.length Kt, .slice p4 (emA m l).Lines.length Ku, .int .i64 (emA m l).Entry]) (emA m l)) wf) := jH ((Pv.out.move KP.size (fun b hb => KP.block b (Nat.lt_of_lt_of_le hb.2 Kw.out.size) (fun q => by have h9 := hb.1; omega))).sub (fun b hb => ⟨Nat.le_trans Hv.out.size hb.1, Nat.lt_of_lt_of_le hb.2 (Nat.le_trans Kw.out.size KP.size)⟩) (fun b hb => hb.2))
 have KQ := Own.only KP Kv.out (fun g hg q => by have h9 := Kv.out.row g hg; have h8 := KN.out.size; omega)
 have Px : Hid (Foot (fun b => w.heap.size ≤ b ∧ b < wf.heap.size) (fun w => PrAt w (.slice pa (emP m l).length pc) (emP m l)) wf) := jH ((KQ.foot.imp fun w h => prAt_own h).sub (fun b hb => ⟨Nat.le_trans (Nat.le_trans Hv.out.size KN.out.size) (KQ.row b hb), KQ.foot.1 b hb⟩) (fun b hb => hb.2))
 clear KQ
 have Ml := Hr
 clear H3 Hd Ml z0 z1 z2 z3 z4 z5 u0 u1 u2 u3 u4 u5 ul
 have Py := jH Hr
 clear Hr
 exact bodyPost_ret (v := .tuple #[.agg #[.slice p0 (emA m l).Text.length Kq, .slice p1 (emA m l).Funcs.length Kr, .slice p2 (emA m l).Tables.length Ks, .slice p3 (emA m l).Data.length Kt, .slice p4 (emA m l).Lines.length Ku, .int .i64 (emA m l).Entry], .slice pa (emP m l).length pc, .int .i64 0]) (by simp [results, Tryd.results5, go_sem, e0, e1, e2, e3, e4, e5]) rfl ⟨_, _, by rw [HM.out], Pw.out, Px.out, Py.out⟩
end Go.Proofs.YtgdamggkaklhjaaDoor
