/-
(*maker).block: a block's items, what ends it.
-/
import Derived.Test.YtgdamggkaklhjaaDoorFlRec9P
set_option linter.all false
namespace Go.Proofs.YtgdamggkaklhjaaDoor
open Go.RowKit BH
set_option maxHeartbeats 1000000000
set_option maxRecDepth 100000
section
variable {m : Img} {f : Fl} {w0 : World} {v0 v1 v2 v3 v4 f0 f1 f2 : Value} {xb : Nat} {vI vF vB : Value} {its : List (It × Int)} {fst beg : List Int} {c : Nat → Nat} {w : World}
theorem block_any (hX : Mkr m f w0 v0 v1 v2 v3 v4 f0 f1 f2 xb vI vF vB its fst beg c w) (n : Nat) (nx : Int) (hn : n < f.Blocks.length) (hG : BkG (nth f.Blocks n)) (hfn : f.Blocks.length = fst.length) (hni : its.length ≤ 900000000) :
  Calls Tryd.prog 12 #[.pointer (some ⟨xb, 0, none⟩), .int .i64 n, .int .i64 nx] w fun e w' => e = .returned (.tuple #[]) ∧
   MkAns m f w0 v0 v1 v2 v3 v4 f0 f1 f2 xb vF vB c w (its ++ (bIts (nth f.Blocks n) nx).map zIt) (fst.set n its.length) beg w' := by
 have HX := jH hX
 obtain ⟨z0, z1, z2, hz, KS, -, -⟩ := hX.flw
 injection hz with hz
 simp only [Array.mk.injEq, List.cons.injEq, and_true] at hz
 obtain ⟨rfl, rfl, rfl⟩ := hz
 obtain ⟨cv, av, lv, KT, Kr⟩ := KS
 obtain ⟨K0, K1, K2⟩ := Kr n hn
 obtain ⟨bo, HI, rfl, -, -, -, b4⟩ := KT
 obtain ⟨bb, Hi, rfl, bc⟩ := b4 jo
 obtain ⟨NB, Ks⟩ := jE (f.Blocks.length)
 have Kt := hX.keep
 have g : ∀ j, j < 14 → w.cell? ⟨bb, Hi + n * 14 + j, none⟩ = some ((nth f.Blocks n).c (cv n) (av n) (lv n) j) := fun j hj => Kt.cell (bc n j hn hj)
 obtain ⟨g1, g2, g3, g4, g5, g6⟩ := hG
 obtain ⟨BB, HJ⟩ := jE (nth f.Blocks n)
 rw [← HJ] at g g1 g2 g3 g4 g5 g6 K0 K1 K2 ⊢
 obtain ⟨⟨bF, bS, bC, bA, ⟨lK, lD, lA, lB, lN, H9⟩, bE, bT, bL, HK⟩, hb⟩ : ∃ b, b = BB := ⟨_, rfl⟩
 rw [← hb] at g g1 g2 g3 g4 g5 g6 K0 K1 K2
 have Hs := jH hb.symm
 dsimp only at g1 g2 g3 g4 g5 g6 K0 K1 K2
 obtain ⟨co, HM, ce, -, -, -, c4⟩ := K0
 obtain ⟨ao, Hf, ae, -, -, -, a4⟩ := K1
 obtain ⟨lo, Hc, le, -, -, -, l4⟩ := K2
 obtain ⟨lb, H3, rfl, lc⟩ := l4 jo
 rw [ce, ae, le] at g
 have d0 := jc w bb (Hi + n * 14) bF (g 0 jo)
 have d1 := jc w bb (Hi + n * 14 + 1) bS (g 1 jo)
 have d2 := jv w bb (Hi + n * 14 + 2) (.slice co bC.length HM) (g 2 jo)
 have d3 := jv w bb (Hi + n * 14 + 3) (.slice ao bA.length Hf) (g 3 jo)
 have d4 := jc w bb (Hi + n * 14 + 4) lK (g 4 jo)
 have d5 := jc w bb (Hi + n * 14 + 5) lD (g 5 jo)
 have d6 := jc w bb (Hi + n * 14 + 6) lA (g 6 jo)
 have d7 := jc w bb (Hi + n * 14 + 7) lB (g 7 jo)
 have d8 := jc w bb (Hi + n * 14 + 8) lN (g 8 jo)
 have d9 := jv w bb (Hi + n * 14 + 9) (.bool H9) (g 9 jo)
 have KU := jc w bb (Hi + n * 14 + 10) bE (g 10 jo)
 have KV := jc w bb (Hi + n * 14 + 11) bT (g 11 jo)
 have KW := jc w bb (Hi + n * 14 + 12) bL (g 12 jo)
 have Ku := jv w bb (Hi + n * 14 + 13) (.slice (some ⟨lb, H3, none⟩) HK.length Hc) (g 13 jo)
 have x6 : w.cell? ⟨xb, 6, none⟩ = some (.slice (some ⟨bb, Hi, none⟩) NB HI) := by rw [Ks]; exact hX.blk.1.cell rfl
 have KX : (n : Int) < (NB : Int) := by omega
 obtain ⟨CN, Kd⟩ := jE (bC.length)
 obtain ⟨AN, Kv⟩ := jE (bA.length)
 obtain ⟨LN, Kw⟩ := jE (HK.length)
 rw [← Kd] at d2 g1 g2 g3 g6
 rw [← Kv] at d3 g2 g3
 rw [← Kw] at Ku g1
 -- what the rounds read: in w0
 have Kx : ∀ k, k < CN → ∃ cb cf, co = some ⟨cb, cf, none⟩ ∧ ∀ j, j < 6 → w0.cell? ⟨cb, cf + k * 6 + j, none⟩ = some ((nth bC k).c j) := fun k hk => by obtain ⟨cb, cf, e, q⟩ := c4 jo; exact ⟨cb, cf, e, fun j hj => q k j jo hj⟩
 have Ky : ∀ k, k < AN → ∃ ab af, ao = some ⟨ab, af, none⟩ ∧ w0.cell? ⟨ab, af + k, none⟩ = some (.int .i64 (nth bA k)) := fun k hk => by obtain ⟨ab, af, e, q⟩ := a4 jo; have z := q k 0 jo jo; rw [Nat.mul_one, Nat.add_zero] at z; exact ⟨ab, af, e, z⟩
 have Kz : ∀ k, k < LN → w0.cell? ⟨lb, H3 + k, none⟩ = some (.int .i64 (nth HK k)) := fun k hk => by have z := lc k 0 jo jo; rw [Nat.mul_one, Nat.add_zero] at z; exact z
 obtain ⟨NI, K3⟩ := jE (its.length)
 obtain ⟨NF, Ke⟩ := jE (fst.length)
 obtain ⟨W, c1, hW, KY, K4, KA⟩ := one_paint w c (.cells #[.int .i64 bF, .int .i64 bS, .slice co CN HM, .slice ao AN Hf, .int .i64 lK, .int .i64 lD, .int .i64 lA, .int .i64 lB, .int .i64 lN, .bool H9, .int .i64 bE, .int .i64 bT, .int .i64 bL, .slice (some ⟨lb, H3, none⟩) LN Hc] 92) 7
 have HN := hX.turn (K4 (fun _ => False)) (fun q => q) (fun q => q) (fun q => q) (fun q => q) (fun q => q)
 obtain ⟨gF, cF, rfl, lF, KZ, M0, Kf⟩ := HN.first (n := n) jo
 obtain ⟨ia, ic, rfl⟩ := own_form' HN.its.1
 rw [← Ke] at HN hfn
 rw [← K3] at HN Kf hni ⊢
 have Kg := hX.turn (K4 (fun _ => False)) (fun q => q) (fun q => q) (fun q => q) (fun q => q) (fun q => q)
 have HO : W.cell? ⟨xb, 10, none⟩ = some (.slice (some ⟨gF, 0, none⟩) NF cF) := by rw [Ke]; exact Kg.blk.1.cell rfl
 have KB : W.cell? ⟨xb, 9, none⟩ = some (.slice ia NI ic) := by rw [K3]; exact Kg.blk.1.cell rfl
 clear Kg
 have M1 : (n : Int) < (NF : Int) := by omega
 obtain ⟨w2, Kh⟩ := jE ((W.setCell ⟨gF, n, none⟩ (.int .i64 NI)).drew)
 obtain ⟨t2, KC⟩ := Kf NI _ rfl
 have K5 : Keeps (W.setCell ⟨gF, n, none⟩ (.int .i64 NI)) w2 := by rw [Kh]; exact (Keeps.refl _).drew
 obtain ⟨b6, Hz⟩ := jE (w.heap.size)
 obtain ⟨KD, KE, K6⟩ := hid3 (((K4 (fun i => i = 1 ∨ i = 2 ∨ i = 3)).trans (t2.mono fun i q => Or.inr (Or.inr q))).keep K5) (KC.keeps K5) ((KA.turn t2 jd).keep K5)
 rw [← Hz] at K6
 obtain ⟨HG, M2, Ki, Kj⟩ := hid4 (show _ ∧ _ ∧ _ ∧ _ ∧ _ ∧ _ from ⟨g1, g2, g3, g4, g5, g6⟩) Kx Ky Kz
 obtain ⟨HB, M3, HW, HP⟩ := hid4 Kd K3 hW Hz
 clear hb HJ hX g bc b4 c4 a4 l4 lc Kr ce ae le g1 g2 g3 g4 g5 g6 Kx Ky Kz Kd Kv Kw K3 Ke Ks KA HN Kf t2 KC K5 Kt KY hfn K4 hW Hz
 go_enter Tryd.func12, Tryd.ntmps12
 go_upto_region 1 with fail
 rw [← HW.out]
 clear d0 d1 d2 d3 d4 d5 d6 d7 d8 d9 KU KV KW Ku x6
 refine wp_region_head_tail (S := Cells [(xb, 10, .slice (some ⟨gF, 0, none⟩) NF cF), (xb, 9, .slice ia NI ic)]) 10 0 (v := .pointer (some ⟨xb, 0, none⟩)) jx rfl jx jx jx jd (fun _ _ _ h => h) (Or.inl ⟨by rfl, fun w => by rfl⟩) jx jx jx jd jx ?hS1 (fun H0 => ?_)
 case hS1 => exact ⟨HO, KB, trivial⟩
 simp only [jU, jG]
 try simp only [Act.put, jS]
 refine jp 1 H0 ?_
 refine jp 2 H0 ?_
 refine jp 3 H0 ?_
 refine jp 4 H0 ?_
 refine jp 5 H0 ?_
 refine jp 6 H0 ?_
 refine jp 7 H0 ?_
 refine jp 8 H0 ?_
 refine jp 9 H0 ?_
 refine wpAnyH_done jx ?_ _
 dsimp only [TailQ]
 clear H0 HO KB
 go_upto_region 2 with fail
 -- REST
 rw [← Kh, ← HP.out]
 clear KZ M0 lF Kh M1 KX HW HP
 have y2 := jv w2 b6 2 (.slice co CN HM) (K6.out.1.cell rfl)
 go_wp2_with fail
 clear y2
 go_loopw [37] (fun s37 wr => ∃ (k : Nat) (cc : Nat → Nat) (HQ : Value), k ≤ CN ∧ s37 = .int .i64 k ∧ Hid (Turn (fun i => i = 1 ∨ i = 2 ∨ i = 3) c w cc wr) ∧ Hid (Mkr m f w0 v0 v1 v2 v3 v4 (.slice (some ⟨bb, Hi, none⟩) f.Blocks.length HI) f1 f2 xb HQ (.slice (some ⟨gF, 0, none⟩) fst.length cF) vB (its ++ ((List.range k).map (cIt BB)).map zIt) (fst.set n NI) beg cc wr) ∧ Hid (BlkC 7 cc wr b6 (.cells #[.int .i64 bF, .int .i64 bS, .slice co CN HM, .slice ao AN Hf, .int .i64 lK, .int .i64 lD, .int .i64 lA, .int .i64 lB, .int .i64 lN, .bool H9, .int .i64 bE, .int .i64 bT, .int .i64 bL, .slice (some ⟨lb, H3, none⟩) LN Hc] 92))) (fun s37 _ => CN - (intOf s37).toNat)
 case atStart => exact ⟨0, _, _, Nat.zero_le _, rfl, KD, jH (by rw [show its ++ ((List.range 0).map (cIt BB)).map zIt = its by simp]; exact KE.out), K6⟩
 case round =>
 obtain ⟨k, cc, HQ, hk, rfl, HT, HR, HC⟩ := hrel
 clear KE KD K6
 obtain ⟨g1, g2, g3, g4, g5, g6⟩ := HG.out
 have Hr : Keeps w0 wr := HR.out.keep
 have KF : (its ++ ((List.range k).map (cIt BB)).map zIt).length ≤ 900100000 := by rw [List.length_append, List.length_map, List.length_map, List.length_range, ← M3.out]; omega
 have Hx := jH KF
 clear KF
 by_cases HS : k < CN
 case pos =>
  have M4 : (k : Int) < (CN : Int) := by omega
  have K7 := jH HS
  have hkb : k < 100000 := by omega
  obtain ⟨cb, cf, rfl, cq⟩ := M2.out k HS
  obtain ⟨ab, af, rfl, aq⟩ := Ki.out k jo
  have lq := Kj.out k jo
  obtain ⟨⟨K, D, A, B, N, Lg⟩, hi⟩ : ∃ i, i = nth bC k := ⟨_, rfl⟩
  obtain ⟨OA, Hj⟩ := jE (nth bA k)
  obtain ⟨LA, Hg⟩ := jE (nth HK k)
  rw [← hi] at cq
  rw [← Hj] at aq
  rw [← Hg] at lq
  have KG : cIt BB k = if K = 23 then ⟨⟨K, D, A, B, 0, Lg⟩, -1, N, OA, LA⟩ else ⟨⟨K, D, A, B, N, Lg⟩, -1, -1, OA, LA⟩ := by rw [Hs.out]; unfold cIt; dsimp only; rw [← hi, ← Hj, ← Hg]
  have K8 := jH KG
  have q0 := jc wr cb (cf + k * 6) K (Hr.cell (cq 0 jo))
  have q1 := jc wr cb (cf + k * 6 + 1) D (Hr.cell (cq 1 jo))
  have q2 := jc wr cb (cf + k * 6 + 2) A (Hr.cell (cq 2 jo))
  have q3 := jc wr cb (cf + k * 6 + 3) B (Hr.cell (cq 3 jo))
  have q4 := jc wr cb (cf + k * 6 + 4) N (Hr.cell (cq 4 jo))
  have q5 := jv wr cb (cf + k * 6 + 5) (.bool Lg) (Hr.cell (cq 5 jo))
  have ha := jc wr ab (af + k) OA (Hr.cell aq)
  have hl := jc wr lb (H3 + k) LA (Hr.cell lq)
  obtain ⟨HA, HL⟩ := hid2 ha hl
  have KH : (k : Int) < (AN : Int) := by omega
  have M5 : (k : Int) < (LN : Int) := by omega
  clear cq aq lq hi Hj Hg ha hl KG g1 g2 g3 g4 g5 g6 Hr
  by_cases hK : K = 23
  case neg =>
   have hKb : (K == 23) = false := by simpa using hK
   have Kk : Hid (zIt (cIt BB k) = ((⟨⟨K, D, A, B, N, Lg⟩, -1, -1, OA, LA⟩ : It), (0 : Int))) := jH (by rw [K8.out, if_neg hK]; rfl)
   clear hK
   clear K8
   go_upto_region 8 with fail
   obtain ⟨b8, Hl⟩ := jE (wr.heap.size)
   obtain ⟨wp, Hv⟩ := jE (wr.alloc (.cells #[.int .i64 K, .int .i64 D, .int .i64 A, .int .i64 B, .int .i64 N, .bool Lg] 64))
   have Hm : Blk wp b8 (.cells #[.int .i64 K, .int .i64 D, .int .i64 A, .int .i64 B, .int .i64 N, .bool Lg] 64) := by rw [Hv]; exact Blk.top' _ _ Hl
   have Hp : Keeps wr wp := by rw [Hv]; exact (Keeps.refl _).alloc _
   rw [← Hv, ← Hl]
   have HU := HR.out.keeps Hp
   obtain ⟨Hq, H6, H4⟩ := hid3 (HT.out.keep Hp) (HC.out.keep Hp) (fun (i : Ic) (bl fn old li : Int) (w' : World) (h : Keeps wp w') => add_any (HU.keeps h) i bl fn old li (Nat.le_trans Hx.out jd))
   have e0 := jc wp b8 0 K (Hm.cell rfl)
   have e1 := jc wp b8 1 D (Hm.cell rfl)
   have e2 := jc wp b8 2 A (Hm.cell rfl)
   have e3 := jc wp b8 3 B (Hm.cell rfl)
   have e4 := jc wp b8 4 N (Hm.cell rfl)
   have e5 := jv wp b8 5 (.bool Lg) (Hm.cell rfl)
   have y3 := jv wp b6 3 (.slice (some ⟨ab, af, none⟩) AN Hf) (H6.out.1.cell rfl)
   have H8 := jv wp b6 13 (.slice (some ⟨lb, H3, none⟩) LN Hc) (H6.out.1.cell rfl)
   have ha := Hp.cell HA.out
   have hl := Hp.cell HL.out
   clear Hv Hp Hm Hl HU q0 q1 q2 q3 q4 q5 HA HL
   refine wp_region_head_tail (S := Cells [(b6, 3, .slice (some ⟨ab, af, none⟩) AN Hf), (b6, 13, .slice (some ⟨lb, H3, none⟩) LN Hc), (ab, af + k, .int .i64 OA), (lb, H3 + k, .int .i64 LA), (b8, 0, .int .i64 K), (b8, 1, .int .i64 D), (b8, 2, .int .i64 A), (b8, 3, .int .i64 B), (b8, 4, .int .i64 N), (b8, 5, .bool Lg)]) 13 0 (v := .pointer (some ⟨xb, 0, none⟩)) jx rfl jx jx jx jd (fun _ _ _ h => h) (Or.inl ⟨by rfl, fun w => by rfl⟩) jx jx jx jd jx ?hS2 (fun H0 => ?_)
   case hS2 => exact ⟨y3, H8, ha, hl, e0, e1, e2, e3, e4, e5, trivial⟩
   simp only [jU, jG]
   try simp only [Act.put, jS]
   refine jp 1 H0 ?_
   refine jp 2 H0 ?_
   refine jp 3 H0 ?_
   refine jp 4 H0 ?_
   refine jp 5 H0 ?_
   refine jp 6 H0 ?_
   refine jp 7 H0 ?_
   refine jp 8 H0 ?_
   refine jp 9 H0 ?_
   refine jp 10 H0 ?_
   refine jp 11 H0 ?_
   refine jp 12 H0 ?_
   refine wpAnyH_done jx ?_ _
   dsimp only [TailQ]
   clear H0
   clear y3 H8 ha hl e0 e1 e2 e3 e4 e5
   go_wp2_with (go_at_call 29; refine (H4.out ⟨K, D, A, B, N, Lg⟩ (-1) (-1) OA LA _ ku5).mono ?_; rintro e wa ⟨rfl, ca, vI2, Ha, Hb⟩; have He := jH Ha; have Hk := jH Hb; clear Ha Hb)
   go_roundw
   case rel => exact ⟨k + 1, ca, vI2, K7.out, by go_num, jH ((Hq.out.keep ((Keeps.refl _).drew)).trans He.out), jH (by rw [List.range_succ, List.map_append, List.map_append, ← List.append_assoc]; rw [show List.map zIt (List.map (cIt BB) [k]) = [zIt (cIt BB k)] from rfl, Kk.out]; exact Hk.out), jH ((H6.out.keep ((Keeps.refl _).drew)).turn He.out jd)⟩
   case measure => have HS := K7.out; simp [intOf]; omega
  case pos =>
  subst hK
  have Kk : Hid (zIt (cIt BB k) = ((⟨⟨23, D, A, B, 0, Lg⟩, -1, N, OA, LA⟩ : It), (0 : Int))) := jH (by rw [K8.out, if_pos rfl]; rfl)
  clear K8
  go_upto_region 8 with fail
  obtain ⟨b8, Hl⟩ := jE (wr.heap.size)
  obtain ⟨wp, Hv⟩ := jE (wr.alloc (.cells #[.int .i64 23, .int .i64 D, .int .i64 A, .int .i64 B, .int .i64 0, .bool Lg] 64))
  have Hm : Blk wp b8 (.cells #[.int .i64 23, .int .i64 D, .int .i64 A, .int .i64 B, .int .i64 0, .bool Lg] 64) := by rw [Hv]; exact Blk.top' _ _ Hl
  have Hp : Keeps wr wp := by rw [Hv]; exact (Keeps.refl _).alloc _
  rw [← Hv, ← Hl]
  have HU := HR.out.keeps Hp
  obtain ⟨Hq, H6, H4⟩ := hid3 (HT.out.keep Hp) (HC.out.keep Hp) (fun (i : Ic) (bl fn old li : Int) (w' : World) (h : Keeps wp w') => add_any (HU.keeps h) i bl fn old li (Nat.le_trans Hx.out jd))
  have e0 := jc wp b8 0 23 (Hm.cell rfl)
  have e1 := jc wp b8 1 D (Hm.cell rfl)
  have e2 := jc wp b8 2 A (Hm.cell rfl)
  have e3 := jc wp b8 3 B (Hm.cell rfl)
  have e4 := jc wp b8 4 0 (Hm.cell rfl)
  have e5 := jv wp b8 5 (.bool Lg) (Hm.cell rfl)
  have y3 := jv wp b6 3 (.slice (some ⟨ab, af, none⟩) AN Hf) (H6.out.1.cell rfl)
  have H8 := jv wp b6 13 (.slice (some ⟨lb, H3, none⟩) LN Hc) (H6.out.1.cell rfl)
  have ha := Hp.cell HA.out
  have hl := Hp.cell HL.out
  clear Hv Hp Hm Hl HU q0 q1 q2 q3 q4 q5 HA HL
  refine wp_region_head_tail (S := Cells [(b6, 3, .slice (some ⟨ab, af, none⟩) AN Hf), (b6, 13, .slice (some ⟨lb, H3, none⟩) LN Hc), (ab, af + k, .int .i64 OA), (lb, H3 + k, .int .i64 LA), (b8, 0, .int .i64 23), (b8, 1, .int .i64 D), (b8, 2, .int .i64 A), (b8, 3, .int .i64 B), (b8, 4, .int .i64 0), (b8, 5, .bool Lg)]) 13 0 (v := .pointer (some ⟨xb, 0, none⟩)) jx rfl jx jx jx jd (fun _ _ _ h => h) (Or.inl ⟨by rfl, fun w => by rfl⟩) jx jx jx jd jx ?hS3 (fun H0 => ?_)
  case hS3 => exact ⟨y3, H8, ha, hl, e0, e1, e2, e3, e4, e5, trivial⟩
  simp only [jU, jG]
  try simp only [Act.put, jS]
  refine jp 1 H0 ?_
  refine jp 2 H0 ?_
  refine jp 3 H0 ?_
  refine jp 4 H0 ?_
  refine jp 5 H0 ?_
  refine jp 6 H0 ?_
  refine jp 7 H0 ?_
  refine jp 8 H0 ?_
  refine jp 9 H0 ?_
  refine jp 10 H0 ?_
  refine jp 11 H0 ?_
  refine jp 12 H0 ?_
  refine wpAnyH_done jx ?_ _
  dsimp only [TailQ]
  clear H0
  clear y3 H8 ha hl e0 e1 e2 e3 e4 e5
  go_wp2_with (go_at_call 29; refine (H4.out ⟨23, D, A, B, 0, Lg⟩ (-1) N OA LA _ ku5).mono ?_; rintro e wa ⟨rfl, ca, vI2, Ha, Hb⟩; have He := jH Ha; have Hk := jH Hb; clear Ha Hb)
  go_roundw
  case rel => exact ⟨k + 1, ca, vI2, K7.out, by go_num, jH ((Hq.out.keep ((Keeps.refl _).drew)).trans He.out), jH (by rw [List.range_succ, List.map_append, List.map_append, ← List.append_assoc]; rw [show List.map zIt (List.map (cIt BB) [k]) = [zIt (cIt BB k)] from rfl, Kk.out]; exact Hk.out), jH ((H6.out.keep ((Keeps.refl _).drew)).turn He.out jd)⟩
  case measure => have HS := K7.out; simp [intOf]; omega
 case neg =>
 obtain rfl : k = CN := by omega
 have lq := Kj.out k jo
 obtain ⟨LA, Hg⟩ := jE (nth HK k)
 rw [← Hg] at lq
 have M5 : (k : Int) < (LN : Int) := by omega
 have KI : its ++ (bIts BB nx).map zIt = its ++ ((List.range k).map (cIt BB)).map zIt ++ (tIt BB nx).map zIt := by unfold bIts; rw [List.map_append, List.append_assoc, show BB.Code.length = k by rw [Hs.out]; exact HB.out.symm]
 have Hw := jH KI
 have M6 := HC.out.1.lt
 have y2 := jv wr b6 2 (.slice co k HM) (HC.out.1.cell rfl)
 have HV := jc wr b6 10 bE (HC.out.1.cell rfl)
 obtain ⟨wq, cq, KJ, Kl, K9, HD⟩ := one_paint wr cc (.cells #[.int .i64 22, .int .i64 0, .int .i64 0, .int .i64 0, .int .i64 0, .bool false] 64) 7
 obtain ⟨Hy, Hq, H6⟩ := hid3 (HR.out.turn (K9 (fun _ => False)) (fun q => q) (fun q => q) (fun q => q) (fun q => q) (fun q => q)) (HT.out.trans (K9 (fun i => i = 1 ∨ i = 2 ∨ i = 3))) (HC.out.turn (K9 (fun _ => False)) (fun q => q))
 obtain ⟨H5, Ht⟩ := jE (wr.heap.size)
 rw [← Ht] at HD
 obtain ⟨Hn, HY, Km, Kn⟩ := hid4 HD (Hr.trans Kl |>.cell lq) (Hr.trans Kl) Hg
 clear HS hk KI K9 HD Hr HR HC HT lq
 go_upto_region 12 with fail
 rw [← KJ, ← Ht]
 clear KJ Ht Kl y2 HV M6
 have HV := jc wq b6 10 bE (H6.out.1.cell rfl)
 have HE := jc wq b6 11 bT (H6.out.1.cell rfl)
 have H8 := jv wq b6 13 (.slice (some ⟨lb, H3, none⟩) LN Hc) (H6.out.1.cell rfl)
 have hl := HY.out
 have j0 := jc wq H5 0 22 (Hn.out.1.cell rfl)
 have j1 := jc wq H5 1 0 (Hn.out.1.cell rfl)
 have j2 := jc wq H5 2 0 (Hn.out.1.cell rfl)
 have j3 := jc wq H5 3 0 (Hn.out.1.cell rfl)
 have j4 := jc wq H5 4 0 (Hn.out.1.cell rfl)
 have j5 := jv wq H5 5 (.bool false) (Hn.out.1.cell rfl)
 have H4 := jH (fun (i : Ic) (bl fn old li : Int) (w' : World) (h : Keeps wq w') => add_any (Hy.out.keeps h) i bl fn old li (Nat.le_trans Hx.out jd))
 have he : bE = 1 ∨ bE = 2 ∨ bE = 3 ∨ bE = 4 := by omega
 clear g1 g2 g3 g4 g5 g6
 rcases he with rfl | rfl | rfl | rfl
 ·have ht : (tIt BB nx).map zIt = [] := by rw [Hs.out]; rfl
  have Hh := jH ht
  clear ht
  go_wp2_with fail
  refine bodyPost_end (results_none rfl _ _ _) rfl ?_
  exact ⟨rfl, cq, HQ, Hq.out, by rw [Hw.out, Hh.out, List.append_nil]; exact Hy.out⟩
 ·by_cases hq : bT = nx
  case pos =>
   subst hq
   have ht : (tIt BB bT).map zIt = [] := by rw [Hs.out]; unfold tIt; simp
   have Hh := jH ht
   clear ht
   go_wp2_with fail
   refine bodyPost_end (results_none rfl _ _ _) rfl ?_
   exact ⟨rfl, cq, HQ, Hq.out, by rw [Hw.out, Hh.out, List.append_nil]; exact Hy.out⟩
  case neg =>
  have KK : (bT == nx) = false := by simpa using hq
  have ht : (tIt BB nx).map zIt = [((⟨⟨22, 0, 0, 0, 0, false⟩, bT, -1, -1, LA⟩ : It), (0 : Int))] := by rw [Hs.out]; unfold tIt; dsimp only; rw [if_pos rfl, if_neg hq, ← HB.out, ← Hg]; rfl
  have Hh := jH ht
  clear ht hq Hg
  go_upto_region 15 with fail
  clear HV
  refine wp_region_head_tail (S := Cells [(H5, 0, .int .i64 22), (H5, 1, .int .i64 0), (H5, 2, .int .i64 0), (H5, 3, .int .i64 0), (H5, 4, .int .i64 0), (H5, 5, .bool false), (b6, 11, .int .i64 bT), (b6, 13, .slice (some ⟨lb, H3, none⟩) LN Hc), (lb, H3 + k, .int .i64 LA)]) 9 0 (v := .pointer (some ⟨xb, 0, none⟩)) jx rfl jx jx jx jd (fun _ _ _ h => h) (Or.inl ⟨by rfl, fun w => by rfl⟩) jx jx jx jd jx ?hS4 (fun H0 => ?_)
  case hS4 => exact ⟨j0, j1, j2, j3, j4, j5, HE, H8, hl, trivial⟩
  simp only [jU, jG]
  try simp only [Act.put, jS]
  refine jp 1 H0 ?_
  refine jp 2 H0 ?_
  refine jp 3 H0 ?_
  refine jp 4 H0 ?_
  refine jp 5 H0 ?_
  refine jp 6 H0 ?_
  refine jp 7 H0 ?_
  refine jp 8 H0 ?_
  refine wpAnyH_done jx ?_ _
  dsimp only [TailQ]
  clear H0
  clear j0 j1 j2 j3 j4 j5 HE H8 hl
  go_wp2_with (go_at_call 29; refine (H4.out ⟨22, 0, 0, 0, 0, false⟩ bT (-1) (-1) LA _ ku5).mono ?_; rintro e wa ⟨rfl, ca, vI2, Ha, Hb⟩; have He := jH Ha; have Hk := jH Hb; clear Ha Hb)
  refine bodyPost_end (results_none rfl _ _ _) rfl ?_
  exact ⟨rfl, ca, vI2, (Hq.out.keep ((Keeps.refl _).drew)).trans He.out, by rw [Hw.out, Hh.out]; exact Hk.out⟩
 ·by_cases hq : bT = nx
  case pos =>
   subst hq
   have ht : (tIt BB bT).map zIt = [] := by rw [Hs.out]; unfold tIt; simp
   have Hh := jH ht
   clear ht
   go_wp2_with fail
   refine bodyPost_end (results_none rfl _ _ _) rfl ?_
   exact ⟨rfl, cq, HQ, Hq.out, by rw [Hw.out, Hh.out, List.append_nil]; exact Hy.out⟩
  case neg =>
  have HZ : k < AN := HG.out.2.2.1 jd
  obtain ⟨ab, af, rfl, aq⟩ := Ki.out k HZ
  obtain ⟨OA, Hj⟩ := jE (nth bA k)
  rw [← Hj] at aq
  have KH : (k : Int) < (AN : Int) := by omega
  clear HZ
  have ha := Km.out.cell aq
  have y3 := jv wq b6 3 (.slice (some ⟨ab, af, none⟩) AN Hf) (H6.out.1.cell rfl)
  have KK : (bT == nx) = false := by simpa using hq
  have ht : (tIt BB nx).map zIt = [((⟨⟨22, 0, 0, 0, 0, false⟩, bT, -1, OA, LA⟩ : It), (0 : Int))] := by rw [Hs.out]; unfold tIt; dsimp only; (rw [if_neg jd, if_pos rfl, if_neg hq, ← HB.out, ← Hg, ← Hj]); rfl
  have Hh := jH ht
  clear ht hq Hg Hj aq
  go_upto_region 18 with fail
  clear HV
  refine wp_region_head_tail (S := Cells [(H5, 0, .int .i64 22), (H5, 1, .int .i64 0), (H5, 2, .int .i64 0), (H5, 3, .int .i64 0), (H5, 4, .int .i64 0), (H5, 5, .bool false), (b6, 11, .int .i64 bT), (b6, 3, .slice (some ⟨ab, af, none⟩) AN Hf), (ab, af + k, .int .i64 OA), (b6, 13, .slice (some ⟨lb, H3, none⟩) LN Hc), (lb, H3 + k, .int .i64 LA)]) 14 0 (v := .pointer (some ⟨xb, 0, none⟩)) jx rfl jx jx jx jd (fun _ _ _ h => h) (Or.inl ⟨by rfl, fun w => by rfl⟩) jx jx jx jd jx ?hS5 (fun H0 => ?_)
  case hS5 => exact ⟨j0, j1, j2, j3, j4, j5, HE, y3, ha, H8, hl, trivial⟩
  simp only [jU, jG]
  try simp only [Act.put, jS]
  refine jp 1 H0 ?_
  refine jp 2 H0 ?_
  refine jp 3 H0 ?_
  refine jp 4 H0 ?_
  refine jp 5 H0 ?_
  refine jp 6 H0 ?_
  refine jp 7 H0 ?_
  refine jp 8 H0 ?_
  refine jp 9 H0 ?_
  refine jp 10 H0 ?_
  refine jp 11 H0 ?_
  refine jp 12 H0 ?_
  refine jp 13 H0 ?_
  refine wpAnyH_done jx ?_ _
  dsimp only [TailQ]
  clear H0
  clear j0 j1 j2 j3 j4 j5 HE H8 hl y3 ha
  go_wp2_with (go_at_call 29; refine (H4.out ⟨22, 0, 0, 0, 0, false⟩ bT (-1) OA LA _ ku5).mono ?_; rintro e wa ⟨rfl, ca, vI2, Ha, Hb⟩; have He := jH Ha; have Hk := jH Hb; clear Ha Hb)
  refine bodyPost_end (results_none rfl _ _ _) rfl ?_
  exact ⟨rfl, ca, vI2, (Hq.out.keep ((Keeps.refl _).drew)).trans He.out, by rw [Hw.out, Hh.out]; exact Hk.out⟩
 have HZ : k < AN := HG.out.2.2.1 jd
 obtain ⟨ab, af, rfl, aq⟩ := Ki.out k HZ
 obtain ⟨OA, Hj⟩ := jE (nth bA k)
 rw [← Hj] at aq
 have KH : (k : Int) < (AN : Int) := by omega
 clear HZ
 have ha := Km.out.cell aq
 have y3 := jv wq b6 3 (.slice (some ⟨ab, af, none⟩) AN Hf) (H6.out.1.cell rfl)
 have KL := jc wq b6 12 bL (H6.out.1.cell rfl)
 have y4 := jc wq b6 4 lK (H6.out.1.cell rfl)
 have y5 := jc wq b6 5 lD (H6.out.1.cell rfl)
 have y6 := jc wq b6 6 lA (H6.out.1.cell rfl)
 have y7 := jc wq b6 7 lB (H6.out.1.cell rfl)
 have y8 := jc wq b6 8 lN (H6.out.1.cell rfl)
 have y9 := jv wq b6 9 (.bool H9) (H6.out.1.cell rfl)
 go_upto_region 20 with fail
 have Ko := jH (show Cells [(b6, 4, .int .i64 lK), (b6, 5, .int .i64 lD), (b6, 6, .int .i64 lA), (b6, 7, .int .i64 lB), (b6, 8, .int .i64 lN), (b6, 9, .bool H9), (b6, 11, .int .i64 bT), (b6, 12, .int .i64 bL)] wq from ⟨y4, y5, y6, y7, y8, y9, HE, KL, trivial⟩)
 refine wp_region_held_drew (S := Cells [(b6, 4, .int .i64 lK), (b6, 5, .int .i64 lD), (b6, 6, .int .i64 lA), (b6, 7, .int .i64 lB), (b6, 8, .int .i64 lN), (b6, 9, .bool H9), (b6, 11, .int .i64 bT), (b6, 12, .int .i64 bL)]) jx Ko.out (fun H0 => ?_)
 clear y3 y4 y5 y6 y7 y8 y9 HV HE KL H8 hl ha j0 j1 j2 j3 j4 j5
 refine jp 0 H0 ?_
 refine jp 1 H0 ?_
 refine jp 2 H0 ?_
 refine jp 3 H0 ?_
 refine jp 4 H0 ?_
 refine jp 5 H0 ?_
 refine readyC 6 ?_
 intro K hK
 go_simp
 refine goOn hK (Cells.keep H0 ((Keeps.refl _).alloc _)) ?_
 clear hK K H0
 intro H0
 refine readyC 7 ?_
 intro K' hK
 go_simp
 refine goOn hK (Cells.keep Ko.out (((Keeps.refl _).alloc _).drew)) (fun hHeld2 => ?_)
 clear hK K' H0
 have H0 := hHeld2
 clear hHeld2 Ko
 refine jp 8 H0 ?_
 refine jp 9 H0 ?_
 refine wpAnyH_done jx ?_ _
 clear H0
 obtain ⟨H2, Ho⟩ := jE (wq.heap.size)
 obtain ⟨wy, Ka⟩ := jE ((wq.alloc (.cells #[.int .i64 lK, .int .i64 lD, .int .i64 lA, .int .i64 lB, .int .i64 lN, .bool H9] 64)).drew)
 have H7 : Hid (Keeps wq wy) := jH (by rw [Ka]; exact ((Keeps.refl _).alloc _).drew)
 have H1 : Hid (Blk wy H2 (.cells #[.int .i64 lK, .int .i64 lD, .int .i64 lA, .int .i64 lB, .int .i64 lN, .bool H9] 64)) := jH (by rw [Ka]; exact (Blk.top' _ _ Ho).keep ((Keeps.refl _).drew))
 obtain ⟨Kp, Kb⟩ := hid2 Ho (Km.out.cell aq)
 rw [← Ka, ← Ho]
 clear Ka Ho H4 aq
 have Hd := HG.out.2.2.2.2.1 rfl
 by_cases hq : bT = nx
 case pos =>
  by_cases hp : bL = nx
  case pos =>
   have Hh : Hid ((tIt BB nx).map zIt = [((⟨⟨lK, lD, lA, lB, lN, H9⟩, bT, -1, OA, LA⟩ : It), (0 : Int))]) := jH (by rw [Hs.out]; unfold tIt; dsimp only; (rw [if_neg jd, if_neg jd, if_pos rfl, if_neg (fun z => z.2 hp), if_pos hp, ← HB.out, ← Hg, ← Hj]); rfl)
   have HXE := jH (show bT = bL from hq.trans hp.symm)
   subst hq
   subst hp
   clear Hg Hj Hd
   go_upto_region 23 with fail
   have H4 := jH (fun (i : Ic) (bl fn old li : Int) (w' : World) (h : Keeps wy w') => add_any (Hy.out.keeps (H7.out.trans h)) i bl fn old li (Nat.le_trans Hx.out jd))
   have e0 := jc wy H2 0 lK (H1.out.cell rfl)
   have e1 := jc wy H2 1 lD (H1.out.cell rfl)
   have e2 := jc wy H2 2 lA (H1.out.cell rfl)
   have e3 := jc wy H2 3 lB (H1.out.cell rfl)
   have e4 := jc wy H2 4 lN (H1.out.cell rfl)
   have e5 := jv wy H2 5 (.bool H9) (H1.out.cell rfl)
   have y3 := jv wy b6 3 (.slice (some ⟨ab, af, none⟩) AN Hf) ((H6.out.keep H7.out).1.cell rfl)
   have H8 := jv wy b6 13 (.slice (some ⟨lb, H3, none⟩) LN Hc) ((H6.out.keep H7.out).1.cell rfl)
   have ha := H7.out.cell Kb.out
   have hl := H7.out.cell HY.out
   refine wp_region_head_tail (S := Cells [(H2, 0, .int .i64 lK), (H2, 1, .int .i64 lD), (H2, 2, .int .i64 lA), (H2, 3, .int .i64 lB), (H2, 4, .int .i64 lN), (H2, 5, .bool H9), (b6, 3, .slice (some ⟨ab, af, none⟩) AN Hf), (ab, af + k, .int .i64 OA), (b6, 13, .slice (some ⟨lb, H3, none⟩) LN Hc), (lb, H3 + k, .int .i64 LA)]) 13 0 (v := .pointer (some ⟨xb, 0, none⟩)) jx rfl jx jx jx jd (fun _ _ _ h => h) (Or.inl ⟨by rfl, fun w => by rfl⟩) jx jx jx jd jx ?hS6 (fun H0 => ?_)
   case hS6 => exact ⟨e0, e1, e2, e3, e4, e5, y3, ha, H8, hl, trivial⟩
   simp only [jU, jG]
   try simp only [Act.put, jS]
   refine jp 1 H0 ?_
   refine jp 2 H0 ?_
   refine jp 3 H0 ?_
   refine jp 4 H0 ?_
   refine jp 5 H0 ?_
   refine jp 6 H0 ?_
   refine jp 7 H0 ?_
   refine jp 8 H0 ?_
   refine jp 9 H0 ?_
   refine jp 10 H0 ?_
   refine jp 11 H0 ?_
   refine jp 12 H0 ?_
   refine wpAnyH_done jx ?_ _
   dsimp only [TailQ]
   clear H0
   clear e0 e1 e2 e3 e4 e5 y3 H8 ha hl
   go_wp2_with (go_at_call 29; refine (H4.out ⟨lK, lD, lA, lB, lN, H9⟩ bL (-1) OA LA _ ku5).mono ?_; rintro e wa ⟨rfl, ca, vI2, Ha, Hb⟩; have He := jH Ha; have Hk := jH Hb; clear Ha Hb)
   refine bodyPost_end (results_none rfl _ _ _) rfl ?_
   exact ⟨rfl, ca, vI2, ((Hq.out.keep (H7.out.trans ((Keeps.refl _).drew))).trans He.out), by rw [Hw.out, Hh.out]; exact Hk.out⟩
  case neg =>
  have Hh : Hid ((tIt BB nx).map zIt = [((⟨⟨oppK lK, lD, lA, lB, lN, H9⟩, bL, -1, OA, LA⟩ : It), (0 : Int))]) := jH (by rw [Hs.out]; unfold tIt; dsimp only; (rw [if_neg jd, if_neg jd, if_pos rfl, if_pos ⟨hq, hp⟩, ← HB.out, ← Hg, ← Hj]); rfl)
  have M7 : (bL == bT) = false := by rw [hq]; simpa using hp
  subst hq
  clear Hg Hj hp
  have KM := jH (fun w => opposite_any lK w Hd.1 Hd.2)
  have k0 := jc wy H2 0 lK (H1.out.cell rfl)
  clear Hd
  go_upto_region 23 with (go_at_call 30; refine (KM.out _).mono ?_; rintro e wa ⟨rfl, HF⟩; have p0 := jc wa H2 0 lK ((H1.out.keep HF).cell rfl); have p1 := (H1.out.keep HF).thawed 0; have p2 := (H1.out.keep HF).lt)
  obtain ⟨wx, Kc⟩ := jE (wa.setCell ⟨H2, 0, none⟩ (.int .i64 (oppK lK)))
  have KN : Hid (Keeps wq wx) := jH (by rw [Kc]; exact Keeps.setCell (H7.out.trans HF) (by have := Kp.out; dsimp only; omega) _)
  have Hu : Hid (Blk wx H2 (.cells #[.int .i64 (oppK lK), .int .i64 lD, .int .i64 lA, .int .i64 lB, .int .i64 lN, .bool H9] 64)) := jH (by rw [Kc]; exact Blk.set (H1.out.keep HF) 0 _)
  rw [← Kc]
  clear Kc p0 p1 p2 k0 KM H1 H7
  obtain ⟨OK, KO⟩ := jE (oppK lK)
  rw [← KO] at Hu Hh
  clear HF KO
  obtain ⟨wo, M8⟩ := jE wy
  clear M8 wo
  have H7 := KN
  have H1 := Hu
  clear KN Hu
  have H4 := jH (fun (i : Ic) (bl fn old li : Int) (w' : World) (h : Keeps wx w') => add_any (Hy.out.keeps (H7.out.trans h)) i bl fn old li (Nat.le_trans Hx.out jd))
  have e0 := jc wx H2 0 OK (H1.out.cell rfl)
  have e1 := jc wx H2 1 lD (H1.out.cell rfl)
  have e2 := jc wx H2 2 lA (H1.out.cell rfl)
  have e3 := jc wx H2 3 lB (H1.out.cell rfl)
  have e4 := jc wx H2 4 lN (H1.out.cell rfl)
  have e5 := jv wx H2 5 (.bool H9) (H1.out.cell rfl)
  have y3 := jv wx b6 3 (.slice (some ⟨ab, af, none⟩) AN Hf) ((H6.out.keep H7.out).1.cell rfl)
  have H8 := jv wx b6 13 (.slice (some ⟨lb, H3, none⟩) LN Hc) ((H6.out.keep H7.out).1.cell rfl)
  have ha := H7.out.cell Kb.out
  have hl := H7.out.cell HY.out
  refine wp_region_head_tail (S := Cells [(H2, 0, .int .i64 OK), (H2, 1, .int .i64 lD), (H2, 2, .int .i64 lA), (H2, 3, .int .i64 lB), (H2, 4, .int .i64 lN), (H2, 5, .bool H9), (b6, 3, .slice (some ⟨ab, af, none⟩) AN Hf), (ab, af + k, .int .i64 OA), (b6, 13, .slice (some ⟨lb, H3, none⟩) LN Hc), (lb, H3 + k, .int .i64 LA)]) 13 0 (v := .pointer (some ⟨xb, 0, none⟩)) jx rfl jx jx jx jd (fun _ _ _ h => h) (Or.inl ⟨by rfl, fun w => by rfl⟩) jx jx jx jd jx ?hS7 (fun H0 => ?_)
  case hS7 => exact ⟨e0, e1, e2, e3, e4, e5, y3, ha, H8, hl, trivial⟩
  simp only [jU, jG]
  try simp only [Act.put, jS]
  refine jp 1 H0 ?_
  refine jp 2 H0 ?_
  refine jp 3 H0 ?_
  refine jp 4 H0 ?_
  refine jp 5 H0 ?_
  refine jp 6 H0 ?_
  refine jp 7 H0 ?_
  refine jp 8 H0 ?_
  refine jp 9 H0 ?_
  refine jp 10 H0 ?_
  refine jp 11 H0 ?_
  refine jp 12 H0 ?_
  refine wpAnyH_done jx ?_ _
  dsimp only [TailQ]
  clear H0
  clear e0 e1 e2 e3 e4 e5 y3 H8 ha hl
  go_wp2_with (go_at_call 29; refine (H4.out ⟨OK, lD, lA, lB, lN, H9⟩ bL (-1) OA LA _ ku5).mono ?_; rintro e wa ⟨rfl, ca, vI2, Ha, Hb⟩; have He := jH Ha; have Hk := jH Hb; clear Ha Hb)
  refine bodyPost_end (results_none rfl _ _ _) rfl ?_
  exact ⟨rfl, ca, vI2, ((Hq.out.keep (H7.out.trans ((Keeps.refl _).drew))).trans He.out), by rw [Hw.out, Hh.out]; exact Hk.out⟩
 case neg =>
 have KK : (bT == nx) = false := by simpa using hq
 by_cases hp : bL = nx
 case pos =>
  have Hh : Hid ((tIt BB nx).map zIt = [((⟨⟨lK, lD, lA, lB, lN, H9⟩, bT, -1, OA, LA⟩ : It), (0 : Int))]) := jH (by rw [Hs.out]; unfold tIt; dsimp only; (rw [if_neg jd, if_neg jd, if_pos rfl, if_neg (fun z => hq z.1), if_pos hp, ← HB.out, ← Hg, ← Hj]); rfl)
  subst hp
  clear Hg Hj Hd hq
  go_upto_region 23 with fail
  have H4 := jH (fun (i : Ic) (bl fn old li : Int) (w' : World) (h : Keeps wy w') => add_any (Hy.out.keeps (H7.out.trans h)) i bl fn old li (Nat.le_trans Hx.out jd))
  have e0 := jc wy H2 0 lK (H1.out.cell rfl)
  have e1 := jc wy H2 1 lD (H1.out.cell rfl)
  have e2 := jc wy H2 2 lA (H1.out.cell rfl)
  have e3 := jc wy H2 3 lB (H1.out.cell rfl)
  have e4 := jc wy H2 4 lN (H1.out.cell rfl)
  have e5 := jv wy H2 5 (.bool H9) (H1.out.cell rfl)
  have y3 := jv wy b6 3 (.slice (some ⟨ab, af, none⟩) AN Hf) ((H6.out.keep H7.out).1.cell rfl)
  have H8 := jv wy b6 13 (.slice (some ⟨lb, H3, none⟩) LN Hc) ((H6.out.keep H7.out).1.cell rfl)
  have ha := H7.out.cell Kb.out
  have hl := H7.out.cell HY.out
  refine wp_region_head_tail (S := Cells [(H2, 0, .int .i64 lK), (H2, 1, .int .i64 lD), (H2, 2, .int .i64 lA), (H2, 3, .int .i64 lB), (H2, 4, .int .i64 lN), (H2, 5, .bool H9), (b6, 3, .slice (some ⟨ab, af, none⟩) AN Hf), (ab, af + k, .int .i64 OA), (b6, 13, .slice (some ⟨lb, H3, none⟩) LN Hc), (lb, H3 + k, .int .i64 LA)]) 13 0 (v := .pointer (some ⟨xb, 0, none⟩)) jx rfl jx jx jx jd (fun _ _ _ h => h) (Or.inl ⟨by rfl, fun w => by rfl⟩) jx jx jx jd jx ?hS8 (fun H0 => ?_)
  case hS8 => exact ⟨e0, e1, e2, e3, e4, e5, y3, ha, H8, hl, trivial⟩
  simp only [jU, jG]
  try simp only [Act.put, jS]
  refine jp 1 H0 ?_
  refine jp 2 H0 ?_
  refine jp 3 H0 ?_
  refine jp 4 H0 ?_
  refine jp 5 H0 ?_
  refine jp 6 H0 ?_
  refine jp 7 H0 ?_
  refine jp 8 H0 ?_
  refine jp 9 H0 ?_
  refine jp 10 H0 ?_
  refine jp 11 H0 ?_
  refine jp 12 H0 ?_
  refine wpAnyH_done jx ?_ _
  dsimp only [TailQ]
  clear H0
  clear e0 e1 e2 e3 e4 e5 y3 H8 ha hl
  go_wp2_with (go_at_call 29; refine (H4.out ⟨lK, lD, lA, lB, lN, H9⟩ bT (-1) OA LA _ ku5).mono ?_; rintro e wa ⟨rfl, ca, vI2, Ha, Hb⟩; have He := jH Ha; have Hk := jH Hb; clear Ha Hb)
  refine bodyPost_end (results_none rfl _ _ _) rfl ?_
  exact ⟨rfl, ca, vI2, ((Hq.out.keep (H7.out.trans ((Keeps.refl _).drew))).trans He.out), by rw [Hw.out, Hh.out]; exact Hk.out⟩
 case neg =>
 have Hh : Hid ((tIt BB nx).map zIt = [((⟨⟨lK, lD, lA, lB, lN, H9⟩, bT, -1, OA, LA⟩ : It), (0 : Int)), ((⟨⟨22, 0, 0, 0, 0, false⟩, bL, -1, -1, LA⟩ : It), (0 : Int))]) := jH (by rw [Hs.out]; unfold tIt; dsimp only; (rw [if_neg jd, if_neg jd, if_pos rfl, if_neg (fun z => hq z.1), if_neg hp, ← HB.out, ← Hg, ← Hj]); rfl)
 have M7 : (bL == nx) = false := by simpa using hp
 clear Hg Hj Hd hq hp
 go_upto_region 23 with fail
 have H4 := jH (fun (i : Ic) (bl fn old li : Int) (w' : World) (h : Keeps wy w') => add_any (Hy.out.keeps (H7.out.trans h)) i bl fn old li (Nat.le_trans Hx.out jd))
 have e0 := jc wy H2 0 lK (H1.out.cell rfl)
 have e1 := jc wy H2 1 lD (H1.out.cell rfl)
 have e2 := jc wy H2 2 lA (H1.out.cell rfl)
 have e3 := jc wy H2 3 lB (H1.out.cell rfl)
 have e4 := jc wy H2 4 lN (H1.out.cell rfl)
 have e5 := jv wy H2 5 (.bool H9) (H1.out.cell rfl)
 have y3 := jv wy b6 3 (.slice (some ⟨ab, af, none⟩) AN Hf) ((H6.out.keep H7.out).1.cell rfl)
 have H8 := jv wy b6 13 (.slice (some ⟨lb, H3, none⟩) LN Hc) ((H6.out.keep H7.out).1.cell rfl)
 have ha := H7.out.cell Kb.out
 have hl := H7.out.cell HY.out
 refine wp_region_head_tail (S := Cells [(H2, 0, .int .i64 lK), (H2, 1, .int .i64 lD), (H2, 2, .int .i64 lA), (H2, 3, .int .i64 lB), (H2, 4, .int .i64 lN), (H2, 5, .bool H9), (b6, 3, .slice (some ⟨ab, af, none⟩) AN Hf), (ab, af + k, .int .i64 OA), (b6, 13, .slice (some ⟨lb, H3, none⟩) LN Hc), (lb, H3 + k, .int .i64 LA)]) 13 0 (v := .pointer (some ⟨xb, 0, none⟩)) jx rfl jx jx jx jd (fun _ _ _ h => h) (Or.inl ⟨by rfl, fun w => by rfl⟩) jx jx jx jd jx ?hS9 (fun H0 => ?_)
 case hS9 => exact ⟨e0, e1, e2, e3, e4, e5, y3, ha, H8, hl, trivial⟩
 simp only [jU, jG]
 try simp only [Act.put, jS]
 refine jp 1 H0 ?_
 refine jp 2 H0 ?_
 refine jp 3 H0 ?_
 refine jp 4 H0 ?_
 refine jp 5 H0 ?_
 refine jp 6 H0 ?_
 refine jp 7 H0 ?_
 refine jp 8 H0 ?_
 refine jp 9 H0 ?_
 refine jp 10 H0 ?_
 refine jp 11 H0 ?_
 refine jp 12 H0 ?_
 refine wpAnyH_done jx ?_ _
 dsimp only [TailQ]
 clear H0
 clear e0 e1 e2 e3 e4 e5 y3 H8 ha hl
 go_upto_region 25 with (go_at_call 29; refine (H4.out ⟨lK, lD, lA, lB, lN, H9⟩ bT (-1) OA LA _ ku5).mono ?_; rintro e wa ⟨rfl, ca, vI2, Ha, Hb⟩; have He := jH Ha; have Hk := jH Hb; clear Ha Hb)
 obtain ⟨M9, Ma, HH⟩ := hid3 ((Hq.out.keep (H7.out.trans ((Keeps.refl _).drew))).trans He.out) ((H6.out.keep (H7.out.trans ((Keeps.refl _).drew))).turn He.out jd) ((Hn.out.keep (H7.out.trans ((Keeps.refl _).drew))).turn He.out jd)
 have hl := Hk.out.keep.cell (Kj.out k (by rw [HG.out.1]; exact Nat.lt_succ_self k))
 rw [← Kn.out] at hl
 have Kq := jH (fun (i : Ic) (bl fn old li : Int) (w' : World) (h : Keeps wa w') => add_any (Hk.out.keeps h) i bl fn old li (by have := Hx.out; rw [List.length_append]; simp only [jL]; omega))
 have j0 := jc wa H5 0 22 (HH.out.1.cell rfl)
 have j1 := jc wa H5 1 0 (HH.out.1.cell rfl)
 have j2 := jc wa H5 2 0 (HH.out.1.cell rfl)
 have j3 := jc wa H5 3 0 (HH.out.1.cell rfl)
 have j4 := jc wa H5 4 0 (HH.out.1.cell rfl)
 have j5 := jv wa H5 5 (.bool false) (HH.out.1.cell rfl)
 have H8 := jv wa b6 13 (.slice (some ⟨lb, H3, none⟩) LN Hc) (Ma.out.1.cell rfl)
 refine wp_region_head_tail (S := Cells [(H5, 0, .int .i64 22), (H5, 1, .int .i64 0), (H5, 2, .int .i64 0), (H5, 3, .int .i64 0), (H5, 4, .int .i64 0), (H5, 5, .bool false), (b6, 13, .slice (some ⟨lb, H3, none⟩) LN Hc), (lb, H3 + k, .int .i64 LA)]) 8 0 (v := .pointer (some ⟨xb, 0, none⟩)) jx rfl jx jx jx jd (fun _ _ _ h => h) (Or.inl ⟨by rfl, fun w => by rfl⟩) jx jx jx jd jx ?hS10 (fun H0 => ?_)
 case hS10 => exact ⟨j0, j1, j2, j3, j4, j5, H8, hl, trivial⟩
 simp only [jU, jG]
 try simp only [Act.put, jS]
 refine jp 1 H0 ?_
 refine jp 2 H0 ?_
 refine jp 3 H0 ?_
 refine jp 4 H0 ?_
 refine jp 5 H0 ?_
 refine jp 6 H0 ?_
 refine jp 7 H0 ?_
 refine wpAnyH_done jx ?_ _
 dsimp only [TailQ]
 clear H0
 clear j0 j1 j2 j3 j4 j5 H8 hl
 go_wp2_with (go_at_call 29; refine (Kq.out ⟨22, 0, 0, 0, 0, false⟩ bL (-1) (-1) LA _ ku5).mono ?_; rintro e wb ⟨rfl, cb2, vI3, KP, KQ⟩; have Mb := jH KP; have KR := jH KQ; clear KP KQ)
 refine bodyPost_end (results_none rfl _ _ _) rfl ?_
 exact ⟨rfl, cb2, vI3, (M9.out.keep ((Keeps.refl _).drew)).trans Mb.out, by rw [Hw.out, Hh.out]; rw [List.append_assoc] at KR; exact KR.out⟩
end
end Go.Proofs.YtgdamggkaklhjaaDoor
