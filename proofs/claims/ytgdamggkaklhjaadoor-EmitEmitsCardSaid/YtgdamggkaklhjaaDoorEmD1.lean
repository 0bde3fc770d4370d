/-
The document's side of emit: the other branch; do the parts 
-/
import Derived.Test.YtgdamggkaklhjaaDoorEmC
set_option linter.all false
namespace Go.Proofs.YtgdamggkaklhjaaDoor
open Go.RowKit BH
set_option maxHeartbeats 1000000000
set_option maxRecDepth 100000
theorem otherBranch_any (K : Int) (w : World) (h0 : 18 ≤ K) (h1 : K ≤ 21) : Calls Tryd.prog 43 #[.int .i64 K] w fun e w' => e = .returned (.int .i64 (oppK K)) ∧ w = w' := by
 have h : K = 18 ∨ K = 19 ∨ K = 20 ∨ K = 21 := by omega
 rcases h with rfl | rfl | rfl | rfl <;>
 ·clear h0 h1
  go_enter Tryd.func43, Tryd.ntmps43
  go_wp2_with fail
  go_ret
  exact ⟨rfl, rfl⟩
theorem partsFit_any {v lv : Value} {f : Fl} {l : List Pa} {w : World} (hF : FlowAt w v f) (hl : PaAt w lv l) (h1 : f.Blocks.length ≤ 1000000000) (h2 : f.Firsts.length ≤ 1000000000) :
  Calls Tryd.prog 17 #[v, lv] w fun e w' => e = .returned (.bool (fitP f l)) ∧ Keeps w w' := by
 obtain ⟨f0, f1, f2, rfl, ⟨cv, av, lv', Ko, -⟩, -, hI⟩ := hF
 obtain ⟨bo, H4, rfl, -, -, -, b4⟩ := Ko
 obtain ⟨fo, Ha, rfl, -, -, -, q4⟩ := hI
 obtain ⟨tv, ⟨lo, Kp, rfl, -, lm, -, l4⟩, HF⟩ := hl
 obtain ⟨NF, Hf⟩ := jE (f.Firsts.length)
 obtain ⟨NB, Hm⟩ := jE (f.Blocks.length)
 rw [← Hf] at h2 q4 ⊢
 rw [← Hm] at h1 b4 ⊢
 obtain ⟨R, hR⟩ : ∃ R : Bool, R = fitP f l := ⟨_, rfl⟩
 rw [← hR]
 obtain ⟨W, hW, H0, HG⟩ : ∃ W, W = w.alloc (.cells #[.slice bo NB H4, f1, .slice fo NF Ha] 45) ∧ Blk W w.heap.size (.cells #[.slice bo NB H4, f1, .slice fo NF Ha] 45) ∧ Keeps w W := ⟨_, rfl, Blk.top _ _, (Keeps.refl _).alloc _⟩
 have m0 := H0.cell (j := 0) rfl
 have m2 := H0.cell (j := 2) rfl
 obtain ⟨HW, HK, HH⟩ := hid3 hW HG H0
 by_cases hlen : l.length = NF
 case neg =>
  have HR : Hid (R = false) := jH (by rw [hR]; unfold fitP; rw [← Hf, decide_eq_false hlen]; rfl)
  have t0 : ((l.length : Int) == (NF : Int)) = false := by simp; omega
  clear hlen hR hW HG H0 b4 q4 l4 HF Hf Hm
  go_enter Tryd.func17, Tryd.ntmps17
  go_upto_region 1 with fail
  rw [← HW.out]
  go_wp2_with fail
  go_ret
  exact ⟨by rw [HR.out]; rfl, HK.out⟩
 case pos =>
 rw [hlen] at l4 HF ⊢
 have Hn : Hid (∀ i, i < NF → partBad f l i = true → R = false) := jH fun i hi hb => by rw [hR]; unfold fitP; (rw [anyN_yes (by rw [hlen]; exact hi) hb]); simp
 have Kq : Hid ((∀ i, i < NF → partBad f l i = false) → R = decide ((l.flatMap (·.Blocks)).length = NB)) := jH fun h => by rw [hR]; unfold fitP; (rw [anyN_no (by rw [hlen]; exact h), ← Hf, ← Hm, decide_eq_true hlen]); rfl
 have Kr := jH Hf
 have HI := jH Hm
 have Ho := jH hlen
 obtain ⟨ti, K1, K2, K3, K4⟩ := infoParts info_int
 clear hR Hf Hm hlen H0 hW HG
 go_enter Tryd.func17, Tryd.ntmps17
 go_upto_region 3 with fail
 rw [← HW.out]
 clear HW
 go_upto_region 4 with (at_make; refine wpList_make_full _ rfl _ _ 25 rfl W.heap.size 3 ti (.int .i64 0) 1 Tryd.underlying25 K1 K2 K3 .i64 .i64 _ _ NB rfl rfl rfl rfl (by rw [K4]; omega) (by unfold maxLen; omega) (Nat.le_refl _) ?_; intro w2 H7 Hp)
 have K5 : Keeps W w2 := below_grown Hp (Nat.le_refl _) fun q e => by cases e
 obtain ⟨c2, K6, K7⟩ := OwnC.fresh (fun _ => 0) 1 K5 (ownMadeG iV (0 : Int) rfl H7) (Nat.le_refl _)
 obtain ⟨gA, HJ⟩ := jE (W.heap.size)
 rw [← HJ]
 have K8 : Hid (OwnI 1 c2 w2 W.heap.size (.slice (some ⟨gA, 0, none⟩) NB NB) (List.replicate NB 0)) := jH (by rw [HJ]; exact K7)
 have K9 := jH (K6 (fun z => z = 1))
 clear K5 K6 K7 H7 Hp HJ K1 K2 K3 K4 m0 m2
 go_wp2_with fail
 go_loopw [7, 6] (fun s7 s6 wr => ∃ (i : Nat) (B6 : List Int) (cc : Nat → Nat), i ≤ NF ∧ s7 = .int .i64 i ∧ s6 = .int .i64 (bkS l i).length ∧ Hid (Turn (fun z => z = 1) (fun _ => 0) W cc wr) ∧ Hid (OwnI 1 cc wr W.heap.size (.slice (some ⟨gA, 0, none⟩) NB NB) B6) ∧ Hid (B6.length = NB ∧ ∀ x, x < NB → nth B6 x = if (x : Int) ∈ bkS l i then 1 else 0) ∧ Hid ((bkS l i).Nodup ∧ ∀ x, x ∈ bkS l i → 0 ≤ x ∧ x < NB) ∧ Hid (∀ j, j < i → partBad f l j = false)) (fun s7 _ _ => NF - (intOf s7).toNat)
 case atStart => exact ⟨0, _, c2, Nat.zero_le _, rfl, rfl, K9, K8, jH ⟨List.length_replicate, fun x hx => by rw [nth_eq _ _ (by rw [List.length_replicate]; exact hx), List.getElem_replicate, if_neg (by simp [bkS])]⟩, jH ⟨by simp [bkS], fun x hx => by simp [bkS] at hx⟩, jH (fun j hj => absurd hj (Nat.not_lt_zero _))⟩
 case round =>
 clear K9 K8
 obtain ⟨i, B6, cc, hi, rfl, rfl, HT, HO, HL, Hg, Ka⟩ := hrel
 have HM : Hid (Keeps W wr) := jH (HT.out.below (Nat.le_refl _) (fun _ _ => rfl) jd)
 have Hh : Hid (Keeps w wr) := jH (HK.out.trans HM.out)
 have m0 := jv wr w.heap.size 0 (.slice bo NB H4) ((HH.out.keep HM.out).cell rfl)
 have m2 := jv wr w.heap.size 2 (.slice fo NF Ha) ((HH.out.keep HM.out).cell rfl)
 by_cases H8 : i < NF
 case neg =>
  obtain rfl : i = NF := by omega
  have Hq : (bkS l i).length = (l.flatMap (·.Blocks)).length := by unfold bkS; rw [← Ho.out, List.take_length]
  have hr := Kq.out Ka.out
  rw [← Hq] at hr
  obtain ⟨CT, Hi⟩ := jE ((bkS l i).length)
  rw [← Hi] at hr ⊢
  have tq : ((CT : Int) == (NB : Int)) = R := by
   rw [hr]
   by_cases q : CT = NB
   ·rw [q]; simp
   rw [decide_eq_false q]; simp; omega
  clear Hq hr Hi H8 hi
  go_wp2_with fail
  go_ret
  exact ⟨rfl, Hh.out⟩
 case pos =>
 have hlz : (i : Int) < (NF : Int) := by omega
 have Hj := jH H8
 have Ks : i < l.length := by rw [Ho.out]; exact H8
 obtain ⟨lb, Hy, rfl, lc⟩ := l4 jo
 obtain ⟨Kb, tc, te, -, -, -, t4⟩ := HF i H8
 obtain ⟨⟨F, BL⟩, hP⟩ : ∃ p, p = nth l i := ⟨_, rfl⟩
 rw [← hP] at te t4
 dsimp only at te t4
 obtain ⟨BN, HN⟩ := jE (BL.length)
 rw [← HN] at te t4
 have Kt : Hid (∀ w', Keeps wr w' → w'.cell? ⟨lb, Hy + i * 2, none⟩ = some (.int .i64 F)) := jH fun w' h => by have z := (Hh.out.trans h).cell (lc i 0 H8 jo); rw [if_pos rfl, ← hP] at z; exact z
 have Kc : Hid (∀ w', Keeps wr w' → w'.cell? ⟨lb, Hy + i * 2 + 1, none⟩ = some (.slice Kb BN tc)) := jH fun w' h => by have z := (Hh.out.trans h).cell (lc i 1 H8 jo); rw [if_neg jd, te] at z; exact z
 obtain ⟨HP, Hb, Kd, Ku⟩ := hid4 hP HN t4 te
 obtain ⟨bd, HQ⟩ := jE (headBad f l i)
 have H9 : bd = decide (F < 0 ∨ (NF : Int) ≤ F ∨ BN = 0 ∨ ¬ nth BL 0 = nth f.Firsts F.toNat) := by rw [HQ]; unfold headBad; rw [← HP.out, Hb.out, Kr.out]
 obtain ⟨Hz, Ke⟩ := hid2 H9 HQ
 clear hP HN te t4 H9 HQ hi H8
 go_upto_region 8 with fail
 go_cut [64] (fun s64 wx => s64 = .bool bd ∧ Hid (Keeps wr wx))
 case first =>
  have d0 := Kt.out wr (Keeps.refl _)
  have d1 := Kc.out wr (Keeps.refl _)
  have sw : IntKind.i64.wrap ((NF : Int) - 1) = (NF : Int) - 1 := jw
  by_cases hA : F < 0 ∨ (NF : Int) - 1 < F
  case pos =>
   obtain rfl : bd = true := by rw [Hz.out]; exact decide_eq_true jo
   have H1 := jH (fun n : Nat => (in_no F 0 ((NF : Int) - 1) (wr.drewN n) hA).mono (fun e w' h => (⟨h.1, h.2.symm⟩ : e = .returned (.bool false) ∧ w' = wr.drewN n)))
   clear hA
   go_quiet ((go_at_call 20; exact Calls.quiet_of_same (H1.out _)))
   go_wp2_with fail
   go_meet
   case rel => exact ⟨rfl, jH ((Keeps.refl _).drewN _)⟩
  case neg =>
  obtain ⟨fn, rfl⟩ : ∃ n : Nat, F = n := ⟨F.toNat, by omega⟩
  have hfz : (fn : Int) < (NF : Int) := by omega
  have H1 := jH (fun n : Nat => (in_yes fn 0 ((NF : Int) - 1) (wr.drewN n) jo jo).mono (fun e w' h => (⟨h.1, h.2.symm⟩ : e = .returned (.bool true) ∧ w' = wr.drewN n)))
  by_cases hB0 : BN = 0
  case pos =>
   obtain rfl : bd = true := by rw [Hz.out]; exact decide_eq_true (Or.inr (Or.inr (Or.inl hB0)))
   subst hB0
   clear hA
   go_quiet ((go_at_call 20; exact Calls.quiet_of_same (H1.out _)))
   go_wp2_with fail
   go_meet
   case rel => exact ⟨rfl, jH ((Keeps.refl _).drewN _)⟩
  case neg =>
  obtain ⟨tb, HS, rfl, Hk⟩ := Kd.out jo
  obtain ⟨fb, Kv, rfl, HU⟩ := q4 jo
  obtain ⟨B0, H5⟩ := jE (nth BL 0)
  obtain ⟨G0, H6⟩ := jE (nth f.Firsts fn)
  have e0 : wr.cell? ⟨tb, HS, none⟩ = some (.int .i64 B0) := by have z := Hh.out.cell (Hk 0 0 jo jo); simp only [Nat.zero_mul, Nat.add_zero] at z; rw [H5]; exact z
  have e1 : wr.cell? ⟨fb, Kv + fn, none⟩ = some (.int .i64 G0) := by have z := Hh.out.cell (HU fn 0 jo jo); simp only [Nat.mul_one, Nat.add_zero] at z; rw [H6]; exact z
  have Kf : (0 : Int) < (BN : Int) := by omega
  have hbN : 0 < BN := by omega
  have hbe : ((BN : Int) == 0) = false := by simp; omega
  have hbn : (BN == 0) = false := by simp; omega
  have H9 := Hz.out
  rw [Int.toNat_natCast, ← H5, ← H6] at H9
  by_cases H0 : B0 = G0
  case neg =>
   obtain rfl : bd = true := by rw [H9]; exact decide_eq_true (Or.inr (Or.inr (Or.inr H0)))
   have t5 : (B0 == G0) = false := by simpa using H0
   clear hA hB0 H5 H6 H0 H9 Hk HU
   go_quiet ((go_at_call 20; exact Calls.quiet_of_same (H1.out _)))
   go_wp2_with fail
   go_meet
   case rel => exact ⟨by simp [bne, t5], jH ((Keeps.refl _).drewN _)⟩
  case pos =>
  obtain rfl : bd = false := by rw [H9]; refine decide_eq_false ?_; rintro (q | q | q | q) <;> first | omega | exact q H0
  obtain rfl : B0 = G0 := H0
  clear hA hB0 H5 H6 H9 Hk HU
  go_quiet ((go_at_call 20; exact Calls.quiet_of_same (H1.out _)))
  go_wp2_with fail
  go_meet
  case rel => exact ⟨rfl, jH ((Keeps.refl _).drewN _)⟩
 case rest =>
 obtain ⟨rfl, HA⟩ := hcut
 clear m0 m2
 have HV := jH (Hh.out.trans HA.out)
 cases hb : bd with
 | true =>
  have HR := jH (Hn.out i Hj.out (show partBad f l i = true by unfold partBad; rw [← Ke.out, hb]; rfl))
  clear hb
  go_wp2_with fail
  go_ret
  exact ⟨by rw [HR.out]; rfl, HV.out⟩
 | false =>
 have Kw : Hid (headBad f l i = false) := jH (by rw [← Ke.out, hb])
 have Kx : 0 ≤ F := by have := Hz.out; rw [hb] at this; have := of_decide_eq_false this.symm; omega
 obtain ⟨fn, rfl⟩ : ∃ n : Nat, F = n := ⟨F.toNat, by omega⟩
 obtain ⟨CT, Hi⟩ := jE ((bkS l i).length)
 rw [← Hi]
 obtain ⟨Kg, Kh, Ki⟩ := hid3 Hi (HT.out.keep HA.out) (HO.out.keep HA.out)
 have d1 := Kc.out wc HA.out
 clear hb Kx Hi
 go_wp2_with fail
 clear d1
 go_loopw [8, 6] (fun s8 s6 wr => ∃ (k : Nat) (B6 : List Int) (cc : Nat → Nat), k ≤ BN ∧ s8 = .int .i64 k ∧ s6 = .int .i64 ((CT + k : Nat) : Int) ∧ Hid (Turn (fun z => z = 1) (fun _ => 0) W cc wr) ∧ Hid (OwnI 1 cc wr W.heap.size (.slice (some ⟨gA, 0, none⟩) NB NB) B6) ∧ Hid (B6.length = NB ∧ ∀ x, x < NB → nth B6 x = if (x : Int) ∈ seenB l i k then 1 else 0) ∧ Hid ((seenB l i k).Nodup ∧ ∀ x, x ∈ seenB l i k → 0 ≤ x ∧ x < NB) ∧ Hid (∀ j, j < k → blkBad f l i j = false)) (fun s8 _ _ => BN - (intOf s8).toNat)
 case atStart => exact ⟨0, B6, cc, Nat.zero_le _, rfl, rfl, Kh, Ki, jH ⟨HL.out.1, fun x hx => by rw [seenB_zero]; exact HL.out.2 x hx⟩, jH (by rw [seenB_zero]; exact Hg.out), jH (fun j hj => absurd hj (Nat.not_lt_zero _))⟩
 case round =>
 obtain ⟨wo, Ky⟩ := jE wr
 clear Kh Ki HT HO Hg HL
 obtain ⟨k, B6, cc, hk, rfl, rfl, HT, HO, HL, Hg, Hr⟩ := hrel
 have Hs : Hid (Keeps W wr) := jH (HT.out.below (Nat.le_refl _) (fun _ _ => rfl) jd)
 have H2 : Hid (Keeps w wr) := jH (HK.out.trans Hs.out)
 have d0 : wr.cell? ⟨lb, Hy + i * 2, none⟩ = some (.int .i64 fn) := by have z := H2.out.cell (lc i 0 Hj.out jo); rw [if_pos rfl, ← HP.out] at z; exact z
 have d1 : wr.cell? ⟨lb, Hy + i * 2 + 1, none⟩ = some (.slice Kb BN tc) := by have z := H2.out.cell (lc i 1 Hj.out jo); rw [if_neg jd, Ku.out] at z; exact z
 have m0 := jv wr w.heap.size 0 (.slice bo NB H4) ((HH.out.keep Hs.out).cell rfl)
 clear Ky
 by_cases Ht : k < BN
 case neg =>
  obtain rfl : k = BN := by omega
  have H3 : bkS l (i + 1) = seenB l i k := by rw [bkS_succ Ks, ← HP.out]; unfold seenB; rw [← HP.out, Hb.out, List.take_length]; rfl
  have Kj := jH H3
  have Kk : CT + k = (bkS l (i + 1)).length := by rw [H3, seenB_len (by rw [← HP.out]; exact Nat.le_of_eq Hb.out), Kg.out]
  have Kz := jH Kk
  have HX : Hid (∀ j, j < i + 1 → partBad f l j = false) := jH fun j hj => by
   by_cases q : j = i
   ·subst q
    unfold partBad
    rw [Kw.out, Bool.false_or]
    exact anyN_no fun x hx => Hr.out x (by rw [← HP.out] at hx; rw [Hb.out]; exact hx)
   exact Ka.out j jo
  clear H3 Kk Ht hk m0 d0
  go_wp2_with fail
  go_roundw
  case rel => exact ⟨i + 1, B6, cc, Hj.out, by go_num, by rw [← Kz.out], HT, HO, jH ⟨HL.out.1, fun x hx => by rw [Kj.out]; exact HL.out.2 x hx⟩, jH (by rw [Kj.out]; exact Hg.out), HX⟩
  case measure => have H8 := Hj.out; simp [intOf]; omega
 case pos =>
 have hkz : (k : Int) < (BN : Int) := by omega
 have Hu := jH Ht
 obtain ⟨tb, HS, rfl, Hk⟩ := Kd.out jo
 obtain ⟨b, hb⟩ := jE (nth BL k)
 have c0 : wr.cell? ⟨tb, HS + k, none⟩ = some (.int .i64 b) := by have z := H2.out.cell (Hk k 0 Ht jo); simp only [Nat.mul_one, Nat.add_zero] at z; rw [hb]; exact z
 obtain ⟨bb, Hc⟩ := jE (blkBad f l i k)
 have Kl : bb = decide (b < 0 ∨ (NB : Int) ≤ b ∨ b ∈ seenB l i k ∨ ¬ (nth f.Blocks b.toNat).Func = (fn : Int)) := by rw [Hc]; unfold blkBad; rw [← HP.out, HI.out]; dsimp only; rw [← hb]
 obtain ⟨Hv, HY, HB⟩ := hid3 Hc Kl hb
 clear hb Kl Hc Hk hk Ht
 go_upto_region 14 with fail
 clear c0
 go_cut [110] (fun s110 wx => s110 = .bool bb ∧ Hid (Keeps wr wx))
 case first =>
  have sw : IntKind.i64.wrap ((NB : Int) - 1) = (NB : Int) - 1 := jw
  by_cases hA : b < 0 ∨ (NB : Int) - 1 < b
  case pos =>
   obtain rfl : bb = true := by rw [HY.out]; exact decide_eq_true jo
   have H1 := jH (fun n : Nat => (in_no b 0 ((NB : Int) - 1) (wr.drewN n) hA).mono (fun e w' h => (⟨h.1, h.2.symm⟩ : e = .returned (.bool false) ∧ w' = wr.drewN n)))
   clear hA
   go_quiet ((go_at_call 20; exact Calls.quiet_of_same (H1.out _)))
   go_wp2_with fail
   go_meet
   case rel => exact ⟨rfl, jH ((Keeps.refl _).drewN _)⟩
  case neg =>
  obtain ⟨bn, rfl⟩ : ∃ n : Nat, b = n := ⟨b.toNat, by omega⟩
  have Kf : (bn : Int) < (NB : Int) := by omega
  have H1 := jH (fun n : Nat => (in_yes bn 0 ((NB : Int) - 1) (wr.drewN n) jo jo).mono (fun e w' h => (⟨h.1, h.2.symm⟩ : e = .returned (.bool true) ∧ w' = wr.drewN n)))
  obtain ⟨KA, KB, rfl, HC⟩ := b4 jo
  obtain ⟨FU, Hw⟩ := jE ((nth f.Blocks bn).Func)
  have e0 : wr.cell? ⟨KA, KB + bn * 14, none⟩ = some (.int .i64 FU) := by rw [Hw]; exact H2.out.cell (HC bn 0 jo jo)
  have Hd := HY.out
  rw [Int.toNat_natCast, ← Hw] at Hd
  by_cases hfu : FU = (fn : Int)
  case neg =>
   obtain rfl : bb = true := by rw [Hd]; exact decide_eq_true (Or.inr (Or.inr (Or.inr hfu)))
   have t3 : (FU == (fn : Int)) = false := by simpa using hfu
   have t4 : (FU != (fn : Int)) = true := by simpa using hfu
   clear hA hfu Hd Hw HC
   go_quiet ((go_at_call 20; exact Calls.quiet_of_same (H1.out _)))
   go_wp2_with fail
   go_meet
   case rel => exact ⟨rfl, jH ((Keeps.refl _).drewN _)⟩
  case pos =>
  obtain ⟨pp, -, -, -, -⟩ := ownC_cell HO.out (j := bn) (by rw [HL.out.1]; omega)
  have Hl := HL.out.2 bn jo
  have p1 := jc wr gA bn (nth B6 bn) pp
  clear pp
  by_cases H3 : (bn : Int) ∈ seenB l i k
  case pos =>
   obtain rfl : bb = true := by rw [Hd]; exact decide_eq_true (Or.inr (Or.inr (Or.inl H3)))
   rw [if_pos H3] at Hl
   rw [Hl] at p1
   subst hfu
   clear hA Hd Hw HC H3 Hl
   go_quiet ((go_at_call 20; exact Calls.quiet_of_same (H1.out _)))
   go_wp2_with fail
   go_meet
   case rel => exact ⟨rfl, jH ((Keeps.refl _).drewN _)⟩
  case neg =>
  obtain rfl : bb = false := by rw [Hd]; refine decide_eq_false ?_; rintro (q | q | q | q) <;> first | omega | exact H3 q | exact q hfu
  rw [if_neg H3] at Hl
  rw [Hl] at p1
  subst hfu
  clear hA Hd Hw HC H3 Hl
  go_quiet ((go_at_call 20; exact Calls.quiet_of_same (H1.out _)))
  go_wp2_with fail
  go_meet
  case rel => exact ⟨rfl, jH ((Keeps.refl _).drewN _)⟩
 case rest =>
 obtain ⟨rfl, HZ⟩ := hcut
 clear m0 d0 d1
 cases hbq : bb with
 | true =>
  have HR := jH (Hn.out i Hj.out (show partBad f l i = true by unfold partBad; rw [anyN_yes (by rw [← HP.out]; dsimp only; rw [← Hb.out]; exact Hu.out) (show blkBad f l i k = true by rw [← Hv.out]; exact hbq), Bool.or_true]))
  clear hbq
  go_wp2_with fail
  go_ret
  exact ⟨by rw [HR.out]; rfl, H2.out.trans HZ.out⟩
 | false =>
  have K0 := HY.out
  rw [hbq] at K0
  have Km := of_decide_eq_false K0.symm
  clear K0
  obtain ⟨bn, rfl⟩ : ∃ n : Nat, b = n := ⟨b.toNat, by omega⟩
  have Kf : (bn : Int) < (NB : Int) := by omega
  have Kn : ¬ (bn : Int) ∈ seenB l i k := fun q => Km (Or.inr (Or.inr (Or.inl q)))
  have HD : seenB l i (k + 1) = seenB l i k ++ [(bn : Int)] := by rw [seenB_succ (by rw [← HP.out]; dsimp only; rw [← Hb.out]; exact Hu.out), ← HP.out]; dsimp only; rw [← HB.out]
  have He : Hid ((seenB l i (k + 1)).Nodup ∧ ∀ x, x ∈ seenB l i (k + 1) → 0 ≤ x ∧ x < NB) := jH (by
   rw [HD]
   refine ⟨nd_snoc Hg.out.1 Kn, fun x hx => ?_⟩
   rcases List.mem_append.1 hx with q | q
   ·exact Hg.out.2 x q
   rw [List.mem_singleton.1 q]; omega)
  have hct : CT + k + 1 ≤ NB := by have q := nd_le He.out.1 He.out.2; (rw [HD, List.length_append, List.length_singleton, seenB_len (by rw [← HP.out]; dsimp only; rw [← Hb.out]; exact Nat.le_of_lt Hu.out), ← Kg.out] at q); exact q
  have Hx : Hid (∀ j, j < k + 1 → blkBad f l i j = false) := jH fun j hj => by
   by_cases q : j = k
   ·rw [q, ← Hv.out]; exact hbq
   exact Hr.out j jo
  obtain ⟨KC, KD⟩ := hid2 (HO.out.keep HZ.out) (HT.out.keep HZ.out)
  obtain ⟨pp, p2, p3, p4, p5⟩ := ownC_cell KC.out (j := bn) (by rw [HL.out.1]; omega)
  have p1 := jc wc gA bn (nth B6 bn) pp
  obtain ⟨wy, HE⟩ := jE (wc.setCell ⟨gA, bn, none⟩ (.int .i64 1))
  have KE : Hid (OwnI 1 cc wy W.heap.size (.slice (some ⟨gA, 0, none⟩) NB NB) (B6.set bn 1)) := jH (by rw [HE]; exact p4 1)
  have KF : Hid (Turn (fun z => z = 1) (fun _ => 0) W cc wy) := jH (KD.out.trans (by rw [HE]; exact p5 _))
  have KG : Hid ((B6.set bn 1).length = NB ∧ ∀ x, x < NB → nth (B6.set bn 1) x = if (x : Int) ∈ seenB l i (k + 1) then 1 else 0) := jH (by
   refine ⟨by rw [List.length_set]; exact HL.out.1, fun x hx => ?_⟩
   rw [nth_setw _ _ _ _ (by rw [HL.out.1]; exact hx), HD]
   by_cases q : bn = x
   ·rw [if_pos q, ← q, if_pos (List.mem_append_right _ (List.mem_singleton.2 rfl))]
   rw [if_neg q, HL.out.2 x hx]
   by_cases z : (x : Int) ∈ seenB l i k
   ·rw [if_pos z, if_pos (List.mem_append_left _ z)]
   rw [if_neg z, if_neg]
   intro y
   rcases List.mem_append.1 y with y | y
   ·exact z y
   rw [List.mem_singleton] at y; omega)
  clear hbq Km Kn HD pp p4 p5
  go_upto_region 17 with fail
  rw [← HE]
  clear HE p1 p2 p3
  go_wp2_with fail
  go_roundw
  case rel => exact ⟨k + 1, B6.set bn 1, cc, Hu.out, by go_num, by go_num, KF, KE, KG, He, Hx⟩
  case measure => have Ht := Hu.out; simp [intOf]; omega
end Go.Proofs.YtgdamggkaklhjaaDoor
