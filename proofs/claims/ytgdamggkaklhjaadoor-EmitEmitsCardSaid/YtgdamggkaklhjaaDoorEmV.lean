/-
(*maker).program: the program that comes out.
-/
import Derived.Test.YtgdamggkaklhjaaDoorEmQ
set_option linter.all false
namespace Go.Proofs.YtgdamggkaklhjaaDoor
open Go.RowKit BH
set_option maxHeartbeats 1000000000
set_option maxRecDepth 100000
section
variable {m : Img} {f : Fl} {w0 : World} {v0 v1 v2 v3 v4 f0 f1 f2 : Value} {xb : Nat} {vI vF vB : Value} {fst beg : List Int} {c : Nat → Nat} {w : World}
theorem program_any {L : List It} {l : List Pa} {lv : Value} (hX : Mkr m f w0 v0 v1 v2 v3 v4 f0 f1 f2 xb vI vF vB (adrs L) fst beg c w) (htab : Tab w0) (hl : PaAt w0 lv l) (hG : PrG m f l L fst beg) :
  Calls Tryd.prog 14 #[.pointer (some ⟨xb, 0, none⟩), lv, .int .i64 (adI L L.length)] w fun e w' => ∃ v, e = .returned v ∧ Foot (fun b => w.heap.size ≤ b ∧ b < w'.heap.size) (fun w => ImgAt w v (outI m f l L fst beg)) w' ∧ Keeps w w' := by
 have HX := jH hX
 have Hj := hX.keep
 obtain ⟨ia, ic, rfl⟩ := own_form' hX.its.1
 obtain ⟨fa, Mp, rfl⟩ := own_form' hX.fst.1
 obtain ⟨ba, Kr, rfl⟩ := own_form' hX.beg.1
 obtain ⟨z0, z1, z2, z3, z4, hz, -, PA, -, ML, -⟩ := hX.img
 injection hz with hz
 simp only [Array.mk.injEq, List.cons.injEq, and_true] at hz
 obtain ⟨rfl, rfl, rfl, rfl, rfl⟩ := hz
 obtain ⟨y0, y1, y2, hy, -, PB, -⟩ := hX.flw
 injection hy with hy
 simp only [Array.mk.injEq, List.cons.injEq, and_true] at hy
 obtain ⟨rfl, rfl, rfl⟩ := hy
 obtain ⟨tv, ⟨lo, Qh, rfl, -, -, -, l4⟩, MM⟩ := hl
 obtain ⟨NP, Mq⟩ := jE (l.length)
 obtain ⟨SZ, MN⟩ := jE (adI L L.length)
 rw [← Mq] at l4 MM ⊢
 have Qi := jH MM
 clear MM
 rw [← MN]
 have Qj : NP ≤ 1000000000 := by rw [Mq]; exact hG.parts
 obtain ⟨w1, c1, PC, HZ, KG, MO⟩ := one_paint w (fun _ => 0) (.cells #[.slice none 0 0, .slice none 0 0, .slice none 0 0, .slice none 0 0, .slice none 0 0, .int .i64 0] 28) 8
 obtain ⟨bR, K8⟩ := jE (w.heap.size)
 rw [← K8] at MO
 have PD := clone_ints v3 m.Data w1 (Arr.keep ML (Hj.trans HZ)) (by have := hG.data; omega)
 have PE := jH PD
 have x3 : w1.cell? ⟨xb, 3, none⟩ = some v3 := (hX.keeps HZ).blk.1.cell rfl
 obtain ⟨ad, acp, rfl⟩ := Arr.form ML
 obtain ⟨HG, KH, Qk, Ql⟩ := hid4 hG Mq MN PA
 obtain ⟨Qm, MP, PF, Qn⟩ := hid4 PB htab PC HZ
 obtain ⟨K9, H6⟩ := hid2 (KG (fun i => 1 ≤ i)) MO
 clear hX Hj PA ML PB htab hG Mq MN PD PC HZ KG MO
 go_enter Tryd.func14, Tryd.ntmps14
 go_upto_region 1 with fail
 rw [← PF.out, ← K8]
 clear PF K8
 go_upto_region 2 with (go_at_call 32; refine PE.out.mono ?_; rintro e wa ⟨vD, rfl, ⟨hD, PG⟩, Ks⟩; obtain ⟨da, Hn, Qo⟩ := Arr.form hD; subst Qo)
 obtain ⟨w3, KI⟩ := jE (wa.alloc (.cells #[.slice none 0 0, .slice none 0 0, .slice none 0 0, .slice da m.Data.length Hn, .slice none 0 0, .int .i64 0] 28))
 obtain ⟨c3, MQ, MR⟩ := OutS.start (c := c1) (B := w.heap.size) Ks hD PG KI
 obtain ⟨g, hg⟩ := jE (wa.heap.size)
 rw [← hg] at MR
 rw [← KI, ← hg]
 obtain ⟨PH, PI, KJ⟩ := hid3 MR (K9.out.trans (MQ (fun i => 1 ≤ i))) (H6.out.turn (MQ (fun _ => False)) (fun q => q))
 clear KI hg MR MQ hD PG Ks PE K9 H6 x3 Qn
 go_wp2_with fail
 have HNL := jH (show (adrs L).length = L.length from adrs_len L)
 go_loopw [31] (fun s31 wr => ∃ (k : Nat) (vF : Value) (cc : Nat → Nat), k ≤ NP ∧ s31 = .int .i64 k ∧ Hid (Turn (fun i => 1 ≤ i) (fun _ => 0) w cc wr) ∧ Hid (BlkC 8 cc wr bR (.cells #[.slice none 0 0, .slice none 0 0, .slice none 0 0, .slice none 0 0, .slice none 0 0, .int .i64 0] 28)) ∧ Hid (OutS w.heap.size cc wr g (.slice none 0 0) vF (.slice none 0 0) (.slice da m.Data.length Hn) (.slice none 0 0) (enE m l k) [] ((List.range k).map (fuP m L beg l)) [] [] m.Data [])) (fun s31 _ => NP - (intOf s31).toNat)
 case atStart => exact ⟨0, _, c3, Nat.zero_le _, rfl, PI, KJ, PH⟩
 case round =>
 clear PI KJ PH
 obtain ⟨k, vF, cc, hk, rfl, HT, H6, HO⟩ := hrel
 have Hb : Keeps w wr := HT.out.below (Nat.le_refl _) (fun _ _ => rfl) jd
 have Ka := jH Hb
 have H9 := HX.out.keeps Hb
 have Hk := jH H9
 have Hj := H9.keep
 have Qp := jH Hj
 by_cases H3 : k < NP
 case pos =>
  have PJ : (k : Int) < (NP : Int) := by omega
  have Ha := jH H3
  obtain ⟨lb, Mr, rfl, lc⟩ := l4 jo
  have HLC := jH lc
  obtain ⟨p1, p2, p3⟩ := HG.out.fn k (by rw [← KH.out]; exact H3)
  obtain ⟨fn, KK⟩ : ∃ n : Nat, (nth l k).Func = n := ⟨(nth l k).Func.toNat, by omega⟩
  rw [KK, Int.toNat_natCast] at p2 p3
  obtain ⟨q1, q2⟩ := HG.out.bg fn p2
  obtain ⟨bn, HM⟩ : ∃ n : Nat, nth beg fn = n := ⟨(nth beg fn).toNat, by omega⟩
  rw [HM] at q2
  have Kb : bn < L.length := by omega
  have d0 : wr.cell? ⟨lb, Mr + k * 2, none⟩ = some (.int .i64 fn) := by rw [← KK]; exact Hj.cell (lc k 0 H3 jo)
  have d1 := jv wr lb (Mr + k * 2 + 1) (tv k) (Hj.cell (lc k 1 H3 jo))
  obtain ⟨ta, tn, Kt, PK⟩ : ∃ a n c, tv k = .slice a n c := by obtain ⟨a, c, e⟩ := Arr.form (Qi.out k H3); exact ⟨a, _, c, e⟩
  rw [PK] at d1
  obtain ⟨ST, MS⟩ := jE (adI L bn)
  have Ho : ∀ w', Keeps wr w' → Calls Tryd.prog 33 #[.pointer (some ⟨xb, 0, none⟩), .int .i64 bn, .int .i64 SZ] w' fun e w'' => e = .returned (.int .i64 ST) ∧ w' = w'' := fun w' h => by have q := address_any (H9.keeps h) bn SZ; rw [adrs_len, if_pos Kb, adrs_nth Kb, ← MS] at q; exact q
  have KL := jH Ho
  have MT := (H9.begin (n := fn) p2)
  obtain ⟨gB, cB, Ms, -, Ku, -, -⟩ := MT
  rw [HM] at Ku
  injection Ms with MU H7 Kc
  subst MU
  have PL : stP L beg (nth l k) = ST := by unfold stP; rw [KK, Int.toNat_natCast, HM, Int.toNat_natCast, MS]
  have Qq := jH PL
  have Qr : ∃ EN, EN = enP L beg l k := ⟨_, rfl⟩
  obtain ⟨EN, MV⟩ := Qr
  have MW := jH MV
  obtain ⟨wq, HN⟩ := jE (wr.alloc (.cells #[.int .i64 fn, .slice ta tn Kt] 54))
  obtain ⟨b9, HP⟩ := jE (wr.heap.size)
  have MX : Hid (Blk wq b9 (.cells #[.int .i64 fn, .slice ta tn Kt] 54)) := jH (by rw [HN]; exact Blk.top' _ _ HP)
  have Hl : Hid (Keeps wr wq) := jH (by rw [HN]; exact (Keeps.refl _).alloc _)
  obtain ⟨KM, Qs, MY⟩ := hid3 (fun j (hj : j < NP) => Hj.cell (lc j 0 hj jo)) Ku HP
  have MZ : Hid (0 ≤ EN ∧ EN ≤ 7000000000) := jH (by
   have h1 := HG.out.len
   rw [MV]
   unfold enP stP
   split
   ·have := adI_in L (nth beg (nth l (k + 1)).Func.toNat).toNat
    obtain ⟨z1, z2, -⟩ := HG.out.fn (k + 1) (by assumption)
    have := HG.out.bg _ z2
    omega
   have := adI_in L L.length; omega)
  have P0 : Hid (0 ≤ ST ∧ ST ≤ 7000000000) := jH (by have := adI_in L bn; have := HG.out.len; omega)
  obtain ⟨Qt, P1, PM⟩ := hid3 p2 p3 KK
  clear HM KK p1 p2 p3 q1 q2 Kb MS Ho Ku H7 Kc PL MV lc PK H9 Hj Hb
  go_upto_region 5 with fail
  rw [← HN, ← HP]
  clear HN HP d0 d1
  go_upto_if 41 with fail
  go_cut [10] (fun s10 wc => s10 = .int .i64 EN ∧ Hid (Keeps wq wc))
  case first =>
   by_cases HZ : k + 1 < NP
   case pos =>
    have Qu : (k : Int) + 1 < (NP : Int) := by omega
    obtain ⟨k1, KN⟩ := jE (k + 1)
    have hw : IntKind.i64.wrap ((k : Int) + 1) = (k1 : Int) := jw
    have Qv : (k1 : Int) < (NP : Int) := by omega
    obtain ⟨p1, p2, -⟩ := HG.out.fn k1 (by rw [← KH.out]; omega)
    obtain ⟨K0, HQ⟩ : ∃ n : Nat, (nth l k1).Func = n := ⟨(nth l k1).Func.toNat, by omega⟩
    rw [HQ, Int.toNat_natCast] at p2
    obtain ⟨q1, q2⟩ := HG.out.bg K0 p2
    obtain ⟨KO, HR⟩ : ∃ n : Nat, nth beg K0 = n := ⟨(nth beg K0).toNat, by omega⟩
    rw [HR] at q2
    have Kb : KO < L.length := by omega
    have d0 : wq.cell? ⟨lb, Mr + k1 * 2, none⟩ = some (.int .i64 K0) := by rw [← HQ]; exact Hl.out.cell (KM.out k1 jo)
    have Hp : EN = adI L KO := by rw [MW.out]; unfold enP; rw [← KN, if_pos (by rw [← KH.out]; omega)]; unfold stP; rw [HQ, Int.toNat_natCast, HR, Int.toNat_natCast]
    have Hg := Hk.out.keeps Hl.out
    have Ho : ∀ w', Keeps wq w' → Calls Tryd.prog 33 #[.pointer (some ⟨xb, 0, none⟩), .int .i64 KO, .int .i64 SZ] w' fun e w'' => e = .returned (.int .i64 EN) ∧ w' = w'' := fun w' h => by have q := address_any (Hg.keeps h) KO SZ; rw [adrs_len, if_pos Kb, adrs_nth Kb, ← Hp] at q; exact q
    have KP := jH Ho
    obtain ⟨gB2, cB2, H7, -, Kd, -, -⟩ := Hg.begin (n := K0) p2
    injection H7 with H7 Kc P2
    injection H7 with H7
    injection H7 with H7
    subst H7
    rw [HR] at Kd
    have HJ := jv wq xb 11 (.slice (some ⟨gB, 0, none⟩) beg.length Kr) (Hg.blk.1.cell rfl)
    obtain ⟨KQ, Hq⟩ := jE (beg.length)
    rw [← Hq] at HJ p2
    have KR : (K0 : Int) < (KQ : Int) := by omega
    clear Hq Kc P2 Hg Ho Hp q1 q2 Kb HR p1 p2 HQ HZ KN
    go_upto_region 7 with fail
    refine wp_region_head_tail (S := Cells [(xb, 11, .slice (some ⟨gB, 0, none⟩) KQ Kr), (lb, Mr + k1 * 2, .int .i64 K0), (gB, K0, .int .i64 KO)]) 14 0 (v := .pointer (some ⟨xb, 0, none⟩)) jx rfl jx jx jx jd (fun _ _ _ h => h) (Or.inl ⟨by rfl, fun w => by rfl⟩) jx jx jx jd jx ?hS1 (fun H0 => ?_)
    case hS1 => exact ⟨HJ, d0, Kd, trivial⟩
    simp only [jU, jG]
    try simp only [Act.put, jS]
    clear HJ d0 Kd
    refine jp 1 H0 ?_
    refine jp 2 H0 ?_
    refine jp 3 H0 ?_
    refine jp 4 H0 ?_
    refine jp 5 H0 ?_
    refine jp 6 H0 ?_
    refine jp 7 H0 ?_
    refine jp 8 H0 ?_
    refine jp 9 H0 ?_
    refine jp 10 H0 ?_
    refine jp 11 H0 ?_
    refine jp 12 H0 ?_
    refine jp 13 H0 ?_
    refine wpAnyH_done jx ?_ _
    dsimp only [TailQ]
    clear H0 hw
    go_wp2_with (go_at_call 33; refine (KP.out _ ku5).mono ?_; rintro e wa ⟨rfl, rfl⟩)
    go_meet
    case rel => exact ⟨rfl, jH ((Keeps.refl _).drew)⟩
   case neg =>
   have Qu : ¬ (k : Int) + 1 < (NP : Int) := by omega
   have Hp : EN = SZ := by rw [MW.out, Qk.out]; unfold enP; rw [if_neg (by rw [← KH.out]; exact HZ)]
   have Qw := jH Hp
   clear Hp HZ
   go_wp2_with fail
   go_meet
   case rel => exact ⟨by rw [Qw.out], jH (Keeps.refl _)⟩
  case rest =>
  obtain ⟨rfl, HK⟩ := hcut
  have Hr := jH (Hl.out.trans HK.out)
  have HS := Hk.out.keeps Hr.out
  have HJ := jv wc xb 11 (.slice (some ⟨gB, 0, none⟩) beg.length Kr) (HS.blk.1.cell rfl)
  have n0 := (MX.out.keep HK.out).cell (j := 0) rfl
  have Ku := Hr.out.cell Qs.out
  obtain ⟨KQ, Hq⟩ := jE (beg.length)
  rw [← Hq] at HJ
  have KR : (fn : Int) < (KQ : Int) := by have := Qt.out; omega
  clear Hq HS
  go_upto_region 8 with fail
  refine wp_region_head_tail (S := Cells [(xb, 11, .slice (some ⟨gB, 0, none⟩) KQ Kr), (b9, 0, .int .i64 fn), (gB, fn, .int .i64 bn)]) 10 0 (v := .pointer (some ⟨xb, 0, none⟩)) jx rfl jx jx jx jd (fun _ _ _ h => h) (Or.inl ⟨by rfl, fun w => by rfl⟩) jx jx jx jd jx ?hS2 (fun H0 => ?_)
  case hS2 => exact ⟨HJ, n0, Ku, trivial⟩
  simp only [jU, jG]
  try simp only [Act.put, jS]
  clear HJ n0 Ku
  refine jp 1 H0 ?_
  refine jp 2 H0 ?_
  refine jp 3 H0 ?_
  refine jp 4 H0 ?_
  refine jp 5 H0 ?_
  refine jp 6 H0 ?_
  refine jp 7 H0 ?_
  refine jp 8 H0 ?_
  refine jp 9 H0 ?_
  refine wpAnyH_done jx ?_ _
  dsimp only [TailQ]
  clear H0
  go_upto_region 9 with (go_at_call 33; refine (KL.out _ (Hr.out.trans ku5)).mono ?_; rintro e wa ⟨rfl, rfl⟩)
  obtain ⟨wd, Mt⟩ := jE (wc.drew)
  have P3 : Hid (Keeps wr wd) := jH (by rw [Mt]; exact Hr.out.drew)
  have Ke : Hid (Blk wd b9 (.cells #[.int .i64 fn, .slice ta tn Kt] 54)) := jH (by rw [Mt]; exact (MX.out.keep HK.out).keep ((Keeps.refl _).drew))
  rw [← Mt]
  clear Mt Hr MX HK Hl KL KM KR
  obtain ⟨ME, P4⟩ := jE (m.Entry)
  have n0 := Ke.out.cell (j := 0) rfl
  have x5 : wd.cell? ⟨xb, 5, none⟩ = some (.int .i64 ME) := by rw [P4]; exact (Hk.out.keeps P3.out).blk.1.cell rfl
  have Qx := jH P4
  clear P4
  refine wp_region_held_drew (S := Cells [(b9, 0, .int .i64 fn), (xb, 5, .int .i64 ME)]) jx ⟨n0, x5, trivial⟩ (fun H0 => ?_)
  clear n0 x5
  refine jp 0 H0 ?_
  refine jp 1 H0 ?_
  refine jp 2 H0 ?_
  refine jp 3 H0 ?_
  refine jp 4 H0 ?_
  refine jp 5 H0 ?_
  refine jp 6 H0 ?_
  refine jp 7 H0 ?_
  refine wpAnyH_done jx ?_ _
  clear H0
  obtain ⟨we, Mu⟩ := jE (wd.drew)
  have P5 : Hid (Keeps wr we) := jH (by rw [Mu]; exact P3.out.drew)
  have KS : Hid (Blk we b9 (.cells #[.int .i64 fn, .slice ta tn Kt] 54)) := jH (by rw [Mu]; exact Ke.out.keep ((Keeps.refl _).drew))
  obtain ⟨Kv, Qy, KT⟩ := hid3 (HO.out.keep P5.out) (HT.out.keep P5.out) (H6.out.keep P5.out)
  have P6 : Hid (g < b9) := jH (by have h1 := HO.out.blk.1.lt; have h2 := MY.out; omega)
  rw [← Mu]
  clear Mu Ke P3 HO HT H6
  have PN : enE m l (k + 1) = if (fn : Int) = ME then (k : Int) else enE m l k := by rw [Qx.out, ← PM.out]; rfl
  have Mv := jH PN
  clear PN
  go_upto_if 75 with fail
  go_cut [] (fun wx => ∃ cc', Hid (Turn (fun i => 1 ≤ i) cc we cc' wx) ∧ Hid (BlkC 8 cc' wx bR (.cells #[.slice none 0 0, .slice none 0 0, .slice none 0 0, .slice none 0 0, .slice none 0 0, .int .i64 0] 28)) ∧ Hid (OutS w.heap.size cc' wx g (.slice none 0 0) vF (.slice none 0 0) (.slice da m.Data.length Hn) (.slice none 0 0) (enE m l (k + 1)) [] ((List.range k).map (fuP m L beg l)) [] [] m.Data []) ∧ Hid (Blk wx b9 (.cells #[.int .i64 fn, .slice ta tn Kt] 54)))
  case first =>
   by_cases hE : (fn : Int) = ME
   case pos =>
    have P7 : Hid (enE m l (k + 1) = (k : Int)) := jH (by rw [Mv.out, if_pos hE])
    obtain ⟨t9, PO⟩ := Kv.out.setE (k : Int) rfl
    have Qz : Hid (OutS w.heap.size cc (we.setCell ⟨g, 5, none⟩ (.int .i64 (k : Int))) g (.slice none 0 0) vF (.slice none 0 0) (.slice da m.Data.length Hn) (.slice none 0 0) (enE m l (k + 1)) [] ((List.range k).map (fuP m L beg l)) [] [] m.Data []) := jH (by rw [P7.out]; exact PO)
    have QA := jH t9
    have QB : Hid (BlkC 8 cc (we.setCell ⟨g, 5, none⟩ (.int .i64 (k : Int))) bR (.cells #[.slice none 0 0, .slice none 0 0, .slice none 0 0, .slice none 0 0, .slice none 0 0, .int .i64 0] 28)) := jH (KT.out.turn ((Kv.out.blk.set 5 (.int .i64 (k : Int))).2) jd)
    have Kf : Hid (Blk (we.setCell ⟨g, 5, none⟩ (.int .i64 (k : Int))) b9 (.cells #[.int .i64 fn, .slice ta tn Kt] 54)) := jH (Blk.grown KS.out (grown_setCell we g 5 _) (by have := P6.out; simp; omega))
    have z5 := Kv.out.blk.1.cell (j := 5) rfl
    have z5f := Kv.out.blk.1.thawed 5
    have z5l := Kv.out.blk.1.lt
    subst hE
    clear PO t9
    go_wp2_with fail
    go_meet
    case rel => exact ⟨cc, QA, QB, Qz, Kf⟩
   case neg =>
   have P7 : Hid (enE m l (k + 1) = enE m l k) := jH (by rw [Mv.out, if_neg hE])
   have t2 : ((fn : Int) == ME) = false := by simpa using hE
   clear hE
   go_wp2_with fail
   go_meet
   case rel => exact ⟨cc, jH (Turn.refl _ _ _), KT, jH (by rw [P7.out]; exact Kv.out), KS⟩
  case rest =>
  obtain ⟨cx, Mw, P8, K1, Kf⟩ := hcut
  have K9 := jH (Qy.out.trans Mw.out)
  have Kg : Keeps w wc := K9.out.below (Nat.le_refl _) (fun _ _ => rfl) jd
  have HS := HX.out.keeps Kg
  have Hj := HS.keep
  obtain ⟨QC, KU, Hs⟩ := own_form' K1.out.fn.1
  rw [List.length_map, List.length_range] at Hs
  subst Hs
  obtain ⟨fo, KV, QD, -, -, -, f4⟩ := Ql.out
  subst QD
  obtain ⟨fb, Mx, rfl, fc⟩ := f4 (by have := P1.out; omega)
  obtain ⟨nm, P9⟩ := jE ((nth m.Funcs fn).Name)
  have nF : wc.cell? ⟨fb, Mx + fn * 3, none⟩ = some (.string nm) := by rw [P9]; exact Hj.cell (fc fn 0 P1.out jo)
  obtain ⟨MF, PP⟩ := jE (m.Funcs.length)
  have x1 : wc.cell? ⟨xb, 1, none⟩ = some (.slice (some ⟨fb, Mx, none⟩) MF KV) := by rw [PP]; exact HS.blk.1.cell rfl
  have hfm : (fn : Int) < (MF : Int) := by have := P1.out; omega
  have z1 := K1.out.blk.1.cell (j := 1) rfl
  have n0 := Kf.out.cell (j := 0) rfl
  have Pb := MZ.out
  have Pc := P0.out
  obtain ⟨DF, PQ⟩ := jE (EN - ST)
  have hw : IntKind.i64.wrap (EN - ST) = DF := jw
  have QE : Hid ((List.range (k + 1)).map (fuP m L beg l) = (List.range k).map (fuP m L beg l) ++ [(⟨nm, ST, DF⟩ : Fu)]) := jH (by rw [List.range_succ, List.map_append]; congr 1; (show [fuP m L beg l k] = _); unfold fuP; rw [← MW.out, Qq.out, ← PQ, PM.out, Int.toNat_natCast, ← P9])
  have Kh : Hid (((List.range k).map (fuP m L beg l)).length = k) := jH (by rw [List.length_map, List.length_range])
  have My := jH Kg.size
  clear P9 PP PQ Pb Pc f4 fc Hj HS Kg
  go_upto_region 11 with fail
  refine wp_region_head_tail (S := Cells [(g, 1, .slice QC k KU), (xb, 1, .slice (some ⟨fb, Mx, none⟩) MF KV), (b9, 0, .int .i64 fn), (fb, Mx + fn * 3, .string nm)]) 18 0 (v := .pointer (some ⟨g, 1, none⟩)) jx rfl jx jx jx jd (fun _ _ _ h => h) (Or.inl ⟨by rfl, fun w => by rfl⟩) jx jx jx jd jx ?hS3 (fun H0 => ?_)
  case hS3 => exact ⟨z1, x1, n0, nF, trivial⟩
  simp only [jU, jG]
  try simp only [Act.put, jS]
  clear z1 x1 n0 nF
  refine jp 1 H0 ?_
  refine jp 2 H0 ?_
  refine jp 3 H0 ?_
  refine jp 4 H0 ?_
  refine jp 5 H0 ?_
  refine jp 6 H0 ?_
  refine jp 7 H0 ?_
  refine jp 8 H0 ?_
  refine jp 9 H0 ?_
  refine jp 10 H0 ?_
  refine jp 11 H0 ?_
  refine jp 12 H0 ?_
  refine jp 13 H0 ?_
  refine jp 14 H0 ?_
  refine jp 15 H0 ?_
  refine jp 16 H0 ?_
  refine readyC 17 ?_
  intro K hK
  go_simp
  refine goOn hK (Cells.keep H0 ((Keeps.refl _).alloc _)) ?_
  clear hK K H0
  intro H0
  refine wpAnyH_done jx ?_ _
  dsimp only [TailQ]
  clear H0 hw
  go_wp2_with (at_builtin; refine wpList_pushes jr (.tmp 79) (.tmp 95) 23 jr Tryd.underlying23 info_fu' jr jd (base := w.heap.size) (f := cfu) (l := (List.range k).map (fuP m L beg l)) jr (by exact K1.out.fn.1.keep ku5) [(⟨nm, ST, DF⟩ : Fu)] _ _ jr jt cfu_len cfu_one (by rw [Kh.out]; simp only [jL]; omega) (by rw [Kh.out]; simp only [jL]; unfold maxLen; omega) (by have := My.out; first | omega | (simp only [sz_alloc, sz_drew]; omega)) ?_; intro v7 w7 H2 H5 H4 H8; obtain ⟨c7, Hm, Kw⟩ := K1.out.fn.push (show Keeps wc _ from ku5) H2 H4 H8; have Hc := K1.out.blk.turn Hm jd; have y1 := Hc.1.cell (j := 1) rfl; have KW := Hc.1.thawed 1; have KX := Hc.1.lt; obtain ⟨K2, K3, e7⟩ := own_form' H2; rw [List.length_append, Kh.out, List.length_singleton] at e7; subst e7)
  obtain ⟨t8, Kx⟩ := K1.out.setF Hm Kw rfl
  obtain ⟨HL, Ky, Kz⟩ := hid3 Kx (K9.out.trans t8) ((P8.out.turn Hm jd).turn (Hc.set 1 (.slice K2 (k + 1) K3)).2 jd)
  go_roundw
  case rel => exact ⟨k + 1, _, _, Ha.out, by go_num, Ky, Kz, jH (by rw [QE.out]; exact HL.out)⟩
  case measure => have H3 := Ha.out; simp [intOf]; omega
 case neg =>
 obtain rfl : k = NP := by omega
 obtain ⟨w2, QF⟩ := jE wr
 subst QF
 obtain ⟨FL, Pd⟩ := jE ((List.range k).map (fuP m L beg l))
 obtain ⟨EE, Pe⟩ := jE (enE m l k)
 rw [← Pd, ← Pe] at HO
 obtain ⟨NI, Mz⟩ := jE ((adrs L).length)
 have Ht : Hid (NI = L.length) := jH (by rw [Mz]; exact adrs_len L)
 have x9 : w2.cell? ⟨xb, 9, none⟩ = some (.slice ia NI ic) := by rw [Mz]; exact Hk.out.blk.1.cell rfl
 obtain ⟨Hh, QG, Mv⟩ := hid3 Mz Pd Pe
 clear Mz Pd Pe H3 hk l4 Hj H9 Hb
 have KY := HO
 have Hu := HT
 have Hv := H6
 clear HO HT H6
 go_wp2_with fail
 clear x9
 go_loopw [104, 12] (fun s104 s12 wr => ∃ (q : Nat) (vT vL : Value) (cc : Nat → Nat), q ≤ NI ∧ s104 = .int .i64 q ∧ s12 = .int .i64 (lnI L q).2 ∧ Hid (Turn (fun i => 1 ≤ i) (fun _ => 0) w cc wr) ∧ Hid (BlkC 8 cc wr bR (.cells #[.slice none 0 0, .slice none 0 0, .slice none 0 0, .slice none 0 0, .slice none 0 0, .int .i64 0] 28)) ∧ Hid (OutS w.heap.size cc wr g vT vF (.slice none 0 0) (.slice da m.Data.length Hn) vL EE (txI L fst beg q) FL [] [] m.Data (lnI L q).1)) (fun s104 _ _ => NI - (intOf s104).toNat)
 case atStart => exact ⟨0, _, _, cc, Nat.zero_le _, rfl, rfl, Hu, Hv, KY⟩
 case round =>
 clear KY Hu Hv Ka Hk Qp
 obtain ⟨q, vT, vL, cc, hq, rfl, rfl, HT, H6, HO⟩ := hrel
 have Hb : Keeps w wr := HT.out.below (Nat.le_refl _) (fun _ _ => rfl) jd
 have Ka := jH Hb
 have H9 := HX.out.keeps Hb
 have Hk := jH H9
 obtain ⟨LV, Pf⟩ := jE ((lnI L q).2)
 rw [← Pf]
 have PR := jH Pf
 clear Pf
 by_cases H3 : q < NI
 case pos =>
  have PJ : (q : Int) < (NI : Int) := by omega
  have QH : NI ≤ 1000000000 := by rw [Ht.out]; exact HG.out.len
  have Ha := jH H3
  obtain ⟨gI, cI, Pg, QI, H1, -, KZ, -⟩ := H9.item (k := q) (by rw [← Hh.out]; exact H3)
  injection Pg with Ki Kj Kk
  subst Ki
  rw [adrs_nth (by rw [← Ht.out]; exact H3)] at H1
  obtain ⟨⟨⟨K, D, A, B, N, Lg⟩, Bl, Fn, KA, Li⟩, hy⟩ : ∃ y, y = nth L q := ⟨_, rfl⟩
  rw [← hy] at H1
  obtain ⟨AK, Hi⟩ := jE (adI L q)
  rw [← Hi] at H1
  have r0 := jc wr gI (q * 11) K (H1 0 _ jd rfl)
  have r1 := jc wr gI (q * 11 + 1) D (H1 1 _ jd rfl)
  have r2 := jc wr gI (q * 11 + 2) A (H1 2 _ jd rfl)
  have r3 := jc wr gI (q * 11 + 3) B (H1 3 _ jd rfl)
  have r4 := jc wr gI (q * 11 + 4) N (H1 4 _ jd rfl)
  have r5 := jv wr gI (q * 11 + 5) (.bool Lg) (H1 5 _ jd rfl)
  have r6 := jc wr gI (q * 11 + 6) Bl (H1 6 _ jd rfl)
  have r7 := jc wr gI (q * 11 + 7) Fn (H1 7 _ jd rfl)
  have r8 := jc wr gI (q * 11 + 8) KA (H1 8 _ jd rfl)
  have r9 := jc wr gI (q * 11 + 9) Li (H1 9 _ jd rfl)
  have QJ := jc wr gI (q * 11 + 10) AK (H1 10 _ jd rfl)
  have M0 := adI_in L q
  rw [← Hi] at M0
  obtain ⟨N9, Hw⟩ := jE ((finI L fst beg q).N)
  have Hx : finI L fst beg q = ⟨K, D, A, B, N9, Lg⟩ := by
   rw [Hw]
   unfold finI
   rw [← hy]
   by_cases h1 : 0 ≤ Bl
   ·rw [if_pos h1]
   rw [if_neg h1]
   by_cases h2 : 0 ≤ Fn
   ·rw [if_pos h2]
   rw [if_neg h2]
  obtain ⟨wq, HN⟩ := jE (wr.alloc (.cells #[.int .i64 K, .int .i64 D, .int .i64 A, .int .i64 B, .int .i64 N, .bool Lg, .int .i64 Bl, .int .i64 Fn, .int .i64 KA, .int .i64 Li, .int .i64 AK] 96))
  obtain ⟨Hd, HU⟩ := jE (wr.heap.size)
  have HB : Hid (Blk wq Hd (.cells #[.int .i64 K, .int .i64 D, .int .i64 A, .int .i64 B, .int .i64 N, .bool Lg, .int .i64 Bl, .int .i64 Fn, .int .i64 KA, .int .i64 Li, .int .i64 AK] 96)) := jH (by rw [HN]; exact Blk.top' _ _ HU)
  have Hl : Hid (Keeps wr wq) := jH (by rw [HN]; exact (Keeps.refl _).alloc _)
  obtain ⟨Kl, HY, Km⟩ := hid3 HU (show _ ∧ _ ∧ _ ∧ _ from ⟨hy, Hi, Hw, Hx⟩) KZ
  clear H1 hy Hi Hw Hx Kj Kk KZ H9 Hb QI H3 hq
  go_upto_block 4 with fail
  rw [← HN, ← HU]
  clear HN HU r0 r1 r2 r3 r4 r5 r6 r7 r8 r9 QJ
  go_cut [] (fun wx => Hid (Keeps wr wx) ∧ Hid (Blk wx Hd (.cells #[.int .i64 K, .int .i64 D, .int .i64 A, .int .i64 B, .int .i64 N9, .bool Lg, .int .i64 Bl, .int .i64 Fn, .int .i64 KA, .int .i64 Li, .int .i64 AK] 96)))
  case first =>
   have e6 := HB.out.cell (j := 6) rfl
   have e7 := HB.out.cell (j := 7) rfl
   have KB := HB.out.cell (j := 10) rfl
   have e4 := HB.out.cell (j := 4) rfl
   have e4f := HB.out.thawed 4
   have e4l := HB.out.lt
   have Hg := Hk.out.keeps Hl.out
   have x9 : wq.cell? ⟨xb, 9, none⟩ = some (.slice (some ⟨gI, 0, none⟩) NI ic) := by rw [Hh.out]; exact Hg.blk.1.cell rfl
   by_cases hb0 : 0 ≤ Bl
   case pos =>
    have t1 : decide (0 ≤ Bl) = true := decide_eq_true hb0
    obtain ⟨hy, Hi, Hw, -⟩ := HY.out
    obtain ⟨h1, h2, h3⟩ := HG.out.goes q (by rw [← Ht.out]; exact Ha.out) (by rw [← hy]; exact hb0)
    rw [← hy] at h1 h2 h3
    dsimp only at h1 h2 h3
    obtain ⟨bl, rfl⟩ : ∃ n : Nat, Bl = n := ⟨Bl.toNat, by omega⟩
    rw [Int.toNat_natCast] at h1 h2 h3
    obtain ⟨fi, He⟩ : ∃ n : Nat, nth fst bl = n := ⟨(nth fst bl).toNat, by omega⟩
    rw [He] at h3
    have hd : N9 = adI L fi - AK := by rw [Hw, Hi]; unfold finI dsI; rw [← hy, if_pos hb0]; dsimp only; rw [Int.toNat_natCast, He, Int.toNat_natCast]
    obtain ⟨gF, PS, Hs, -, Hy, -, -⟩ := Hg.first (n := bl) h1
    rw [He] at Hy
    injection Hs with Hz HA HC
    subst Hz
    have ef := jc wq gI (fi * 11 + 10) (adI L fi) (Hl.out.cell (Km.out fi 10 _ (by rw [← Hh.out, Ht.out]; omega) jd (by rw [adrs_nth jo]; rfl)))
    have a1 := adI_in L fi
    obtain ⟨AF, HV⟩ := jE (adI L fi)
    rw [← HV] at ef a1 hd
    have hw : IntKind.i64.wrap (AF - AK) = N9 := by rw [IntKind.wrap_i64]; have := Ht.out; omega
    obtain ⟨FN, K4⟩ := jE (fst.length)
    have M1 : wq.cell? ⟨xb, 10, none⟩ = some (.slice (some ⟨gF, 0, none⟩) FN Mp) := by rw [K4]; exact Hg.blk.1.cell rfl
    have PT : (bl : Int) < (FN : Int) := by omega
    have PU : (fi : Int) < (NI : Int) := by have := Ht.out; omega
    clear hy Hi Hw h1 h2 h3 He hd HA HC a1 HV K4 Hg hb0 M0
    go_upto_region 18 with fail
    refine wp_region_head_tail (S := Cells [(xb, 9, .slice (some ⟨gI, 0, none⟩) NI ic), (xb, 10, .slice (some ⟨gF, 0, none⟩) FN Mp), (Hd, 6, .int .i64 bl), (gF, bl, .int .i64 fi), (gI, fi * 11 + 10, .int .i64 AF), (Hd, 10, .int .i64 AK)]) 18 0 (v := .pointer (some ⟨xb, 0, none⟩)) jx rfl jx jx jx jd (fun _ _ _ h => h) (Or.inl ⟨by rfl, fun w => by rfl⟩) jx jx jx jd jx ?hS4 (fun H0 => ?_)
    case hS4 => exact ⟨x9, M1, e6, Hy, ef, KB, trivial⟩
    simp only [jU, jG]
    try simp only [Act.put, jS]
    clear x9 M1 e6 e7 Hy ef KB
    refine jp 1 H0 ?_
    refine jp 2 H0 ?_
    refine jp 3 H0 ?_
    refine jp 4 H0 ?_
    refine jp 5 H0 ?_
    refine jp 6 H0 ?_
    refine jp 7 H0 ?_
    refine jp 8 H0 ?_
    refine jp 9 H0 ?_
    refine jp 10 H0 ?_
    refine jp 11 H0 ?_
    refine jp 12 H0 ?_
    refine jp 13 H0 ?_
    refine jp 14 H0 ?_
    refine jp 15 H0 ?_
    refine jp 16 H0 ?_
    refine jp 17 H0 ?_
    refine wpAnyH_done jx ?_ _
    dsimp only [TailQ]
    clear H0 hw
    go_wp2_with fail
    go_meet
    case rel => exact ⟨jH ((Keeps.setCell Hl.out (by have := Kl.out; dsimp only; omega) _).drew), jH ((Blk.set HB.out 4 (.int .i64 N9)).keep ((Keeps.refl _).drew))⟩
   case neg =>
   have t1 : decide (0 ≤ Bl) = false := decide_eq_false hb0
   by_cases hf0 : 0 ≤ Fn
   case pos =>
    have t2 : decide (0 ≤ Fn) = true := decide_eq_true hf0
    obtain ⟨hy, Hi, Hw, -⟩ := HY.out
    have h1 := HG.out.fc q (by rw [← Ht.out]; exact Ha.out) (by rw [← hy]; exact hf0)
    rw [← hy] at h1
    dsimp only at h1
    obtain ⟨fn, rfl⟩ : ∃ n : Nat, Fn = n := ⟨Fn.toNat, by omega⟩
    rw [Int.toNat_natCast] at h1
    obtain ⟨h2, h3⟩ := HG.out.bg fn h1
    obtain ⟨fi, He⟩ : ∃ n : Nat, nth beg fn = n := ⟨(nth beg fn).toNat, by omega⟩
    rw [He] at h3
    have hd : N9 = adI L fi - AK := by rw [Hw, Hi]; unfold finI; rw [← hy, if_neg hb0, if_pos hf0]; dsimp only; rw [Int.toNat_natCast, He, Int.toNat_natCast]
    obtain ⟨gF, PS, Hs, -, Hy, -, -⟩ := Hg.begin (n := fn) h1
    rw [He] at Hy
    injection Hs with Hz HA HC
    subst Hz
    have ef := jc wq gI (fi * 11 + 10) (adI L fi) (Hl.out.cell (Km.out fi 10 _ (by rw [← Hh.out, Ht.out]; omega) jd (by rw [adrs_nth jo]; rfl)))
    have a1 := adI_in L fi
    obtain ⟨AF, HV⟩ := jE (adI L fi)
    rw [← HV] at ef a1 hd
    have hw : IntKind.i64.wrap (AF - AK) = N9 := by rw [IntKind.wrap_i64]; have := Ht.out; omega
    obtain ⟨FN, K4⟩ := jE (beg.length)
    have HJ : wq.cell? ⟨xb, 11, none⟩ = some (.slice (some ⟨gF, 0, none⟩) FN Kr) := by rw [K4]; exact Hg.blk.1.cell rfl
    have PT : (fn : Int) < (FN : Int) := by omega
    have PU : (fi : Int) < (NI : Int) := by have := Ht.out; omega
    clear hy Hi Hw h1 h2 h3 He hd HA HC a1 HV K4 Hg hb0 hf0 M0
    go_upto_region 20 with fail
    refine wp_region_head_tail (S := Cells [(xb, 9, .slice (some ⟨gI, 0, none⟩) NI ic), (xb, 11, .slice (some ⟨gF, 0, none⟩) FN Kr), (Hd, 7, .int .i64 fn), (gF, fn, .int .i64 fi), (gI, fi * 11 + 10, .int .i64 AF), (Hd, 10, .int .i64 AK)]) 18 0 (v := .pointer (some ⟨xb, 0, none⟩)) jx rfl jx jx jx jd (fun _ _ _ h => h) (Or.inl ⟨by rfl, fun w => by rfl⟩) jx jx jx jd jx ?hS5 (fun H0 => ?_)
    case hS5 => exact ⟨x9, HJ, e7, Hy, ef, KB, trivial⟩
    simp only [jU, jG]
    try simp only [Act.put, jS]
    clear x9 HJ e6 e7 Hy ef KB
    refine jp 1 H0 ?_
    refine jp 2 H0 ?_
    refine jp 3 H0 ?_
    refine jp 4 H0 ?_
    refine jp 5 H0 ?_
    refine jp 6 H0 ?_
    refine jp 7 H0 ?_
    refine jp 8 H0 ?_
    refine jp 9 H0 ?_
    refine jp 10 H0 ?_
    refine jp 11 H0 ?_
    refine jp 12 H0 ?_
    refine jp 13 H0 ?_
    refine jp 14 H0 ?_
    refine jp 15 H0 ?_
    refine jp 16 H0 ?_
    refine jp 17 H0 ?_
    refine wpAnyH_done jx ?_ _
    dsimp only [TailQ]
    clear H0 hw
    go_wp2_with fail
    go_meet
    case rel => exact ⟨jH ((Keeps.setCell Hl.out (by have := Kl.out; dsimp only; omega) _).drew), jH ((Blk.set HB.out 4 (.int .i64 N9)).keep ((Keeps.refl _).drew))⟩
   case neg =>
   have t2 : decide (0 ≤ Fn) = false := decide_eq_false hf0
   have hN : N = N9 := by obtain ⟨hy, -, Hw, -⟩ := HY.out; rw [Hw]; unfold finI; rw [← hy, if_neg hb0, if_neg hf0]
   subst hN
   clear hb0 hf0 Hg x9 M0
   go_wp2_with fail
   go_meet
   case rel => exact ⟨Hl, HB⟩
  case rest =>
  obtain ⟨HK, Ph⟩ := hcut
  have HS := Hk.out.keeps HK.out
  obtain ⟨hy, Hi, -, Hx⟩ := HY.out
  obtain ⟨EL, MA⟩ := jE (encI (finI L fst beg q))
  have M2 : EL = encAns K D A B N9 Lg := by rw [MA, Hx]; rfl
  have M3 : EL.length ≤ 8 := by rw [MA]; exact encI_le _
  have M4 : ∀ w', Keeps wc w' → Calls Tryd.prog 34 #[.agg #[.int .i64 K, .int .i64 D, .int .i64 A, .int .i64 B, .int .i64 N9, .bool Lg]] w' fun e w'' => ∃ v er, e = .returned (.tuple #[v, .int .i64 er]) ∧ Octs w'' v EL ∧ Keeps w' w'' := fun w' h => by have z := encode_any K D A B N9 Lg w' (MP.out.keep (HS.keep.trans h)); unfold insV at z; rw [← M2] at z; exact z.mono fun e w'' ⟨v, h1, h2, h3⟩ => ⟨v, _, h1, h2, h3⟩
  obtain ⟨Pi, M5⟩ := hid2 M4 M3
  have Mw : Hid (txI L fst beg (q + 1) = txI L fst beg q ++ EL) := jH (by rw [txI_succ, MA])
  have M6 : Hid ((txI L fst beg q).length ≤ 8000000000) := jH (by have := txI_le L fst beg q; have := Ha.out; omega)
  have M7 : Hid ((lnI L q).1.length ≤ 1000000000) := jH (by have := lnI_le L q; have := Ha.out; omega)
  have M8 : Hid (lnI L (q + 1) = if Li = LV then lnI L q else ((lnI L q).1 ++ [(⟨AK, Li⟩ : Ln)], Li)) := jH (by (show (if (nth L q).Li = (lnI L q).2 then _ else _) = _); rw [← hy, Hi, PR.out])
  obtain ⟨KC, PV, PW⟩ := hid3 (HO.out.keep HK.out) (HT.out.keep HK.out) (H6.out.keep HK.out)
  have Hf : Hid (g < Hd ∧ (∀ b, vT.ownBlock = some b → b < Hd) ∧ ∀ b, vL.ownBlock = some b → b < Hd) := jH (by rw [Kl.out]; exact ⟨HO.out.blk.1.lt, fun b z => own_lt' HO.out.tx.1 z, fun b z => own_lt' HO.out.ln.1 z⟩)
  have My : Hid (w.heap.size ≤ wc.heap.size) := jH (Nat.le_trans Ka.out.size HK.out.size)
  obtain ⟨ta, QK, K5⟩ := own_form' HO.out.tx.1
  obtain ⟨TN, Pj⟩ := jE ((txI L fst beg q).length)
  rw [← Pj] at K5
  subst K5
  obtain ⟨la, PX, M9⟩ := own_form' HO.out.ln.1
  obtain ⟨LN, Pk⟩ := jE ((lnI L q).1.length)
  rw [← Pk] at M9
  subst M9
  obtain ⟨HTN, HLN⟩ := hid2 Pj Pk
  obtain ⟨e0, e1, e2, e3, e4, e5⟩ := Ph.out.k6
  clear hy Hi Hx MA M2 M3 M4 HS Pj Pk HO HT H6 Km HB Hl M0
  go_upto_region 22 with (go_at_call 34; refine (Pi.out _ ku5).mono ?_; rintro e wa ⟨ev, er, rfl, Pl, Ks⟩; obtain ⟨ea, ec, QL⟩ := Arr.form Pl; subst QL)
  obtain ⟨PY, KD⟩ := hid2 Pl Ks
  have z0 := (KC.out.keep Ks).blk.1.cell (j := 0) rfl
  clear Pl Ks e0 e1 e2 e3 e4 e5
  go_upto_region 23 with (at_builtin; refine wpList_onto jr (.tmp 163) (.tmp 164) 22 22 jr Tryd.underlying22 info_u8' jr (base := w.heap.size) (f := cu) (l := txI L fst beg q) jr (by exact KC.out.tx.1.keep KD.out) (ys := EL) jr (by exact src_octs' Tryd.underlying22 PY.out) (by have := M6.out; have := M5.out; omega) (by have := M6.out; have := M5.out; unfold maxLen; omega) (by have := My.out; have := KD.out.size; omega) ?_; intro v7 w7 H2 H5 H4 H8; obtain ⟨c7, Hm, Kw⟩ := KC.out.tx.push KD.out H2 H4 H8; have Hc := KC.out.blk.turn Hm jd; have y1 := Hc.1.cell (j := 0) rfl; have KW := Hc.1.thawed 0; have KX := Hc.1.lt; obtain ⟨K2, K3, e7⟩ := own_form' H2; obtain ⟨PZ, Kn⟩ := jE ((txI L fst beg q ++ EL).length); rw [← Kn] at e7; subst e7; have QM := jH Kn; clear Kn)
  obtain ⟨w8, KE⟩ := jE (w7.setCell ⟨g, 0, none⟩ (.slice K2 PZ K3))
  rw [← KE]
  obtain ⟨t8, Kx⟩ := KC.out.setT Hm Kw KE
  obtain ⟨HL, Ky⟩ := hid2 Kx (PV.out.trans t8)
  have Kz : Hid (BlkC 8 c7 w8 bR (.cells #[.slice none 0 0, .slice none 0 0, .slice none 0 0, .slice none 0 0, .slice none 0 0, .int .i64 0] 28)) := jH (by rw [KE]; exact (PW.out.turn Hm jd).turn (Hc.set 0 (.slice K2 PZ K3)).2 jd)
  have Pm : Hid (Blk w8 Hd (.cells #[.int .i64 K, .int .i64 D, .int .i64 A, .int .i64 B, .int .i64 N9, .bool Lg, .int .i64 Bl, .int .i64 Fn, .int .i64 KA, .int .i64 Li, .int .i64 AK] 96)) := jH (by rw [KE]; (refine Blk.grown (Blk.grown (Ph.out.keep KD.out) H4 (fun z => ?_)) (grown_setCell w7 g 0 _) (by have := Hf.out.1; simp; omega)); exact absurd (Hf.out.2.1 Hd z.symm) (Nat.lt_irrefl _))
  have QN : Hid (w.heap.size ≤ w8.heap.size) := jH (by rw [KE, sz_setCell]; exact Nat.le_trans (Nat.le_trans My.out KD.out.size) H4.size)
  clear KE t8 Kx H2 H5 H4 H8 Hm Kw Hc y1 KW KX z0 PY KD KC PV PW Ph
  have e9 := Pm.out.cell (j := 9) rfl
  by_cases hL : Li = LV
  case pos =>
   have Ma : Hid (lnI L (q + 1) = lnI L q) := jH (by rw [M8.out, if_pos hL])
   subst hL
   go_wp2_with fail
   go_roundw
   case rel => exact ⟨q + 1, _, _, _, Ha.out, by go_num, by rw [Ma.out, ← PR.out], Ky, Kz, jH (by rw [Mw.out, Ma.out]; exact HL.out)⟩
   case measure => have H3 := Ha.out; simp [intOf]; omega
  case neg =>
  have Ma : Hid (lnI L (q + 1) = ((lnI L q).1 ++ [(⟨AK, Li⟩ : Ln)], Li)) := jH (by rw [M8.out, if_neg hL])
  have t3 : (Li == LV) = false := by simpa using hL
  have KB := Pm.out.cell (j := 10) rfl
  have z4 := HL.out.blk.1.cell (j := 4) rfl
  clear hL
  go_upto_region 25 with (at_builtin; refine wpList_pushes jr (.tmp 172) (.tmp 178) 26 jr Tryd.underlying26 info_ln' jr jd (base := w.heap.size) (f := cln) (l := (lnI L q).1) jr (by exact HL.out.ln.1.keep ku5) [(⟨AK, Li⟩ : Ln)] _ _ jr jt cln_len cln_one (by have := M7.out; simp only [jL]; omega) (by have := M7.out; simp only [jL]; unfold maxLen; omega) (by have := QN.out; first | omega | (simp only [sz_alloc, sz_drew]; omega)) ?_; intro v9 w9 HD Mb Ko Mc; obtain ⟨c9, MB, Q0⟩ := HL.out.ln.push (show Keeps w8 _ from ku5) HD Ko Mc; have Md := HL.out.blk.turn MB jd; have y1 := Md.1.cell (j := 4) rfl; have KW := Md.1.thawed 4; have KX := Md.1.lt; obtain ⟨K6, Q1, Q2⟩ := own_form' HD; obtain ⟨Q3, Kp⟩ := jE (((lnI L q).1 ++ [(⟨AK, Li⟩ : Ln)]).length); rw [← Kp] at Q2; subst Q2; have QO := jH Kp; clear Kp)
  obtain ⟨wx, Me⟩ := jE (w9.setCell ⟨g, 4, none⟩ (.slice K6 Q3 Q1))
  rw [← Me]
  obtain ⟨tx, Q4⟩ := HL.out.setL MB Q0 Me
  obtain ⟨K1, Pn⟩ := hid2 Q4 (Ky.out.trans tx)
  have P8 : Hid (BlkC 8 c9 wx bR (.cells #[.slice none 0 0, .slice none 0 0, .slice none 0 0, .slice none 0 0, .slice none 0 0, .int .i64 0] 28)) := jH (by rw [Me]; exact (Kz.out.turn MB jd).turn (Md.set 4 (.slice K6 Q3 Q1)).2 jd)
  have e9x : wx.cell? ⟨Hd, 9, none⟩ = some (.int .i64 Li) := by (have hB : Blk wx Hd (.cells #[.int .i64 K, .int .i64 D, .int .i64 A, .int .i64 B, .int .i64 N9, .bool Lg, .int .i64 Bl, .int .i64 Fn, .int .i64 KA, .int .i64 Li, .int .i64 AK] 96) := by rw [Me]; (refine Blk.grown (Blk.grown (Pm.out.keep ((Keeps.refl _).alloc _)) Ko (fun z => ?_)) (grown_setCell w9 g 4 _) (by have := Hf.out.1; simp; omega)); exact absurd (Hf.out.2.2 Hd z.symm) (Nat.lt_irrefl _)); exact hB.cell rfl
  clear Me tx Q4 HD Mb Ko Mc MB Q0 Md y1 KW KX e9 KB z4 t3
  go_wp2_with fail
  go_roundw
  case rel => exact ⟨q + 1, _, _, _, Ha.out, by go_num, by rw [Ma.out], Pn, P8, jH (by rw [Mw.out, Ma.out]; exact K1.out)⟩
  case measure => have H3 := Ha.out; simp [intOf]; omega
 case neg =>
 obtain rfl : q = NI := by omega
 obtain ⟨w3, KI⟩ := jE wr
 subst KI
 obtain ⟨Mf, Po⟩ := jE q
 subst Po
 obtain ⟨TL, Pp⟩ := jE (txI L fst beg Mf)
 obtain ⟨NL, Pq⟩ := jE ((lnI L Mf).1)
 rw [← Pp, ← Pq] at HO
 obtain ⟨tvt, ⟨ta, Pr, QP, -, -, -, t4⟩, Ps⟩ := Qm.out
 subst QP
 obtain ⟨NT, Mg⟩ := jE (f.Tables.length)
 have x7 : w3.cell? ⟨xb, 7, none⟩ = some (.slice ta NT Pr) := by rw [Mg]; exact Hk.out.blk.1.cell rfl
 rw [← Mg] at t4 Ps
 have QQ : NT ≤ 1000000000 := by rw [Mg]; exact HG.out.tabs
 obtain ⟨MC, QR, Q5, Pt⟩ := hid4 Mg Ps Pp Pq
 have KY := HO
 have Hu := HT
 have Hv := H6
 have QS := jH t4
 clear Mg Pp Pq H3 H9 Hb Ps t4 HO HT H6
 go_wp2_with fail
 clear x7
 go_loopw [190] (fun s190 wr => ∃ (i : Nat) (Q6 : Value) (vs : List Sle) (cc : Nat → Nat), i ≤ NT ∧ s190 = .int .i64 i ∧ vs.length = i ∧ Hid (Turn (fun i => 1 ≤ i) (fun _ => 0) w cc wr) ∧ Hid (BlkC 8 cc wr bR (.cells #[.slice none 0 0, .slice none 0 0, .slice none 0 0, .slice none 0 0, .slice none 0 0, .int .i64 0] 28)) ∧ Hid (OutS w.heap.size cc wr g vT vF Q6 (.slice da m.Data.length Hn) vL EE TL FL vs ((f.Tables.take i).map (tbR L fst)) m.Data NL)) (fun s190 _ => NT - (intOf s190).toNat)
 case atStart => exact ⟨0, _, [], cc, Nat.zero_le _, rfl, rfl, Hu, Hv, KY⟩
 case round =>
 clear KY Hu Hv Ka Hk
 obtain ⟨i, Q6, vs, cc, hi, rfl, Q7, HT, H6, HO⟩ := hrel
 have KF := jH Q7
 clear Q7
 have Hb : Keeps w wr := HT.out.below (Nat.le_refl _) (fun _ _ => rfl) jd
 have Ka := jH Hb
 have H9 := HX.out.keeps Hb
 have Hk := jH H9
 by_cases H3 : i < NT
 case pos =>
  have PJ : (i : Int) < (NT : Int) := by omega
  have Ha := jH H3
  obtain ⟨tb, QT, rfl, tc⟩ := QS.out jo
  obtain ⟨RW, MD⟩ := jE (nth f.Tables i)
  obtain ⟨ra, QU, MG, -, -, -, r4⟩ := QR.out i H3
  rw [← MD] at MG r4
  obtain ⟨RN, MH⟩ := jE (RW.length)
  rw [← MH] at MG r4
  have d0 : wr.cell? ⟨tb, QT + i, none⟩ = some (.slice ra RN QU) := by have z := H9.keep.cell (tc i 0 H3 jo); simp only [Nat.mul_one, Nat.add_zero] at z; rw [← MG]; exact z
  have QV : RN ≤ 1000000000 := by rw [MH, MD]; exact HG.out.rows i (by rw [← MC.out]; exact H3)
  obtain ⟨Q8, MI, QW⟩ := hid3 MD MH r4
  have QX := Hb.size
  obtain ⟨wo, QY⟩ := jE wr
  subst QY
  have QZ := HT
  have Pu := H6
  have Q9 := HO
  have Pv := Ka
  clear MD MH MG r4 tc H9 Hb H3 hi HT H6 HO Hk Ka
  go_wp2_with fail
  clear d0
  go_loopw [196, 19] (fun s196 s19 wr => ∃ (q : Nat) (a : Option Addr) (cp : Nat), q ≤ RN ∧ s196 = .int .i64 q ∧ s19 = .slice a q cp ∧ Hid (Keeps wo wr) ∧ Hid (Own wr wo.heap.size 3 1 ci (.slice a q cp) (tbR L fst (RW.take q)))) (fun s196 _ _ => RN - (intOf s196).toNat)
  case atStart => exact ⟨0, none, 0, Nat.zero_le _, rfl, rfl, jH (Keeps.refl _), jH (Own.nil _ _ _ _ _)⟩
  case round =>
  obtain ⟨q, a, cp, hq, rfl, rfl, Mh, Qa⟩ := hrel
  have Kq := HX.out.keeps (Pv.out.trans Mh.out)
  by_cases hltq : q < RN
  case pos =>
   have hqz : (q : Int) < (RN : Int) := by omega
   have Qb := jH hltq
   obtain ⟨rb, R0, rfl, rc⟩ := QW.out jo
   have Mi : nth RW q ∈ nth f.Tables i := by rw [← Q8.out]; exact nthMem (by rw [← MI.out]; exact hltq)
   obtain ⟨h0, h1, h2, h3⟩ := HG.out.tb i (by rw [← MC.out]; exact Ha.out) _ Mi
   obtain ⟨bn, HM⟩ : ∃ n : Nat, nth RW q = n := ⟨(nth RW q).toNat, by omega⟩
   rw [HM, Int.toNat_natCast] at h1 h2 h3
   obtain ⟨fi, He⟩ : ∃ n : Nat, nth fst bn = n := ⟨(nth fst bn).toNat, by omega⟩
   rw [He] at h3
   have c0 : wr.cell? ⟨rb, R0 + q, none⟩ = some (.int .i64 bn) := by have z := Kq.keep.cell (rc q 0 hltq jo); simp only [Nat.mul_one, Nat.add_zero] at z; rw [← HM]; exact z
   obtain ⟨gF, PS, Hs, -, Hy, -, -⟩ := Kq.first (n := bn) h1
   rw [He] at Hy
   injection Hs with Hz HA HC
   subst Hz
   have Pw : fi < (adrs L).length := by rw [adrs_len]; omega
   obtain ⟨gI, cI, Pg, -, H1, -, -, -⟩ := Kq.item (k := fi) Pw
   injection Pg with Ki Kj Kk
   subst Ki
   rw [adrs_nth jo] at H1
   obtain ⟨AF, HV⟩ := jE (adI L fi)
   have ef : wr.cell? ⟨gI, fi * 11 + 10, none⟩ = some (.int .i64 AF) := by rw [HV]; exact H1 10 _ jd rfl
   obtain ⟨FN, K4⟩ := jE (fst.length)
   have x9 : wr.cell? ⟨xb, 9, none⟩ = some (.slice (some ⟨gI, 0, none⟩) Mf ic) := by rw [Hh.out]; exact Kq.blk.1.cell rfl
   have M1 : wr.cell? ⟨xb, 10, none⟩ = some (.slice (some ⟨gF, 0, none⟩) FN Mp) := by rw [K4]; exact Kq.blk.1.cell rfl
   have PT : (bn : Int) < (FN : Int) := by omega
   have PU : (fi : Int) < (Mf : Int) := by rw [← Hh.out] at Pw; omega
   have R1 : Hid (tbR L fst (RW.take (q + 1)) = tbR L fst (RW.take q) ++ [AF]) := jH (by unfold tbR; (rw [take_succ_nth RW q (by rw [← MI.out]; exact hltq), List.map_append, HM, HV]); simp only [List.map_cons, List.map_nil, Int.toNat_natCast, He])
   have Px : Hid ((tbR L fst (RW.take q)).length = q) := jH (by unfold tbR; rw [List.length_map, List.length_take, ← MI.out]; omega)
   have Py := jH Mh.out.size
   clear rc Mi h0 h1 h2 h3 HM He HA HC Kj Kk H1 HV K4 Kq Pw
   go_upto_region 34 with fail
   clear c0
   refine wp_region_head_tail (S := Cells [(xb, 9, .slice (some ⟨gI, 0, none⟩) Mf ic), (xb, 10, .slice (some ⟨gF, 0, none⟩) FN Mp), (gF, bn, .int .i64 fi), (gI, fi * 11 + 10, .int .i64 AF)]) 16 0 (v := .slice a q cp) jx rfl jx jx jx jd (fun _ _ _ h => h) (Or.inl ⟨by rfl, fun w => by rfl⟩) jx jx jx jd jx ?hS6 (fun H0 => ?_)
   case hS6 => exact ⟨x9, M1, Hy, ef, trivial⟩
   simp only [jU, jG]
   try simp only [Act.put, jS]
   clear x9 M1 Hy ef
   refine jp 1 H0 ?_
   refine jp 2 H0 ?_
   refine jp 3 H0 ?_
   refine jp 4 H0 ?_
   refine jp 5 H0 ?_
   refine jp 6 H0 ?_
   refine jp 7 H0 ?_
   refine jp 8 H0 ?_
   refine jp 9 H0 ?_
   refine jp 10 H0 ?_
   refine jp 11 H0 ?_
   refine jp 12 H0 ?_
   refine jp 13 H0 ?_
   refine jp 14 H0 ?_
   refine readyC 15 ?_
   intro K hK
   go_simp
   refine goOn hK (Cells.keep H0 ((Keeps.refl _).alloc _)) ?_
   clear hK K H0
   intro H0
   refine wpAnyH_done jx ?_ _
   dsimp only [TailQ]
   clear H0
   go_wp2_with (at_builtin; refine wpList_pushes jr (.tmp 200) (.tmp 215) 25 jr Tryd.underlying25 info_int jr jd (base := wo.heap.size) (f := ci) (l := tbR L fst (RW.take q)) jr (by exact Qa.out.keep ku5) [AF] _ _ jr jt ci_len ci_one (by rw [Px.out]; simp only [jL]; omega) (by rw [Px.out]; simp only [jL]; unfold maxLen; omega) (by have := Py.out; first | omega | (simp only [sz_alloc, sz_drew]; omega)) ?_; intro v7 w7 H2 H5 H4 H8; obtain ⟨K2, K3, e7⟩ := own_form' H2; rw [List.length_append, Px.out, List.length_singleton] at e7; subst e7; have R2 := jH H2; have R3 := jH (Keeps.trans' (Mh.out.trans (show Keeps wr _ from ku5)) H5 (Nat.le_refl _)); clear H2 H5 H4 H8)
   go_roundw
   case rel => exact ⟨q + 1, K2, K3, Qb.out, by go_num, rfl, R3, jH (by rw [R1.out]; exact R2.out)⟩
   case measure => have H3 := Qb.out; simp [intOf]; omega
  case neg =>
  obtain rfl : q = RN := by omega
  have Mj : tbR L fst (RW.take q) = tbR L fst RW := by rw [MI.out, List.take_length]
  have HW := Qa.out
  rw [Mj] at HW
  have MJ : ∀ I, Turn I cc wo (fun b => if wo.heap.size ≤ b then 5 else cc b) wr := fun I => ⟨Mh.out.only _, fun b hb => if_neg jo⟩
  have K7 : Part 5 (fun w => Ints w (Sle.v ⟨a, q, cp⟩) (tbR L fst RW)) (fun b => if wo.heap.size ≤ b then 5 else cc b) wr := ⟨_, HW.foot.imp fun w h => h.ints, fun b hb => if_pos (HW.row b hb)⟩
  obtain ⟨Mk, K9, R4, Ml⟩ := hid4 (Q9.out.turn (MJ (fun _ => False)) fun _ _ _ z => z) (QZ.out.trans (MJ (fun i => 1 ≤ i))) (Pu.out.turn (MJ (fun _ => False)) (fun z => z)) K7
  obtain ⟨va, vcp, Mm⟩ := own_form' Q9.out.tb.1
  rw [KF.out] at Mm
  subst Mm
  have z2 := Mk.out.blk.1.cell (j := 2) rfl
  have Pz : Hid (w.heap.size ≤ wr.heap.size) := jH (Nat.le_trans QX Mh.out.size)
  have R5 : Hid ((f.Tables.take (i + 1)).map (tbR L fst) = (f.Tables.take i).map (tbR L fst) ++ [tbR L fst RW]) := jH (by rw [take_succ_nth _ _ (by rw [← MC.out]; exact Ha.out), List.map_append, Q8.out]; rfl)
  clear Mj HW MJ K7 Kq hltq hq
  go_wp2_with (at_builtin; refine wpList_pushes jr (.tmp 219) (.tmp 221) 24 jr Tryd.underlying24 info_row' jr jd (base := w.heap.size) (f := sle) (l := vs) jr (by exact Mk.out.tb.1.keep ku5) [(⟨a, q, cp⟩ : Sle)] _ _ jr jt sle_len sle_one (by rw [KF.out]; simp only [jL]; omega) (by rw [KF.out]; simp only [jL]; unfold maxLen; omega) (by have := Pz.out; first | omega | (simp only [sz_alloc, sz_drew]; omega)) ?_; intro v7 w7 H2 H5 H4 H8; obtain ⟨c7, Hm, Kw⟩ := Mk.out.tb.push (show Keeps wr _ from ku5) H2 H4 H8; have Hc := Mk.out.blk.turn Hm jd; have y1 := Hc.1.cell (j := 2) rfl; have KW := Hc.1.thawed 2; have KX := Hc.1.lt; obtain ⟨K2, K3, e7⟩ := own_form' H2; rw [List.length_append, KF.out, List.length_singleton] at e7; subst e7)
  obtain ⟨t8, Kx⟩ := Mk.out.setTb Ml.out Hm Kw rfl
  obtain ⟨HL, Ky, Kz⟩ := hid3 Kx (K9.out.trans t8) ((R4.out.turn Hm jd).turn (Hc.set 2 (.slice K2 (i + 1) K3)).2 jd)
  go_roundw
  case rel => exact ⟨i + 1, _, vs ++ [⟨a, q, cp⟩], _, Ha.out, by go_num, by rw [List.length_append, KF.out]; rfl, Ky, Kz, jH (by rw [R5.out]; exact HL.out)⟩
  case measure => have H3 := Ha.out; simp [intOf]; omega
 case neg =>
 obtain rfl : i = NT := by omega
 obtain ⟨ta, HE, K5⟩ := own_form' HO.out.tx.1
 obtain ⟨K6, HF, Hs⟩ := own_form' HO.out.fn.1
 obtain ⟨Mn, HH, Ms⟩ := own_form' HO.out.tb.1
 obtain ⟨Mo, HI, M9⟩ := own_form' HO.out.ln.1
 obtain ⟨n1, Qc⟩ := jE (TL.length)
 obtain ⟨n2, Qd⟩ := jE (FL.length)
 obtain ⟨n4, Qe⟩ := jE (NL.length)
 rw [← Qc] at K5
 rw [← Qd] at Hs
 rw [KF.out] at Ms
 rw [← Qe] at M9
 subst K5 Hs Ms M9
 have K5 := HO.out.blk.1
 obtain ⟨z0, z1, z2, z3, z4, z5⟩ := K5.k6
 obtain ⟨s0, s1, s2, s3, s4, s5⟩ := H6.out.1.k6
 obtain ⟨u0, u1, u2, u3, u4, u5⟩ := H6.out.1.t6
 have ul := H6.out.1.lt
 clear K5 Qc Qd Qe hi H3 H9 Hb
 go_wp2_with fail
 obtain ⟨b1, q1⟩ := H6.out.set 0 (.slice ta n1 HE)
 obtain ⟨b2, q2⟩ := b1.set 1 (.slice K6 n2 HF)
 obtain ⟨b3, q3⟩ := b2.set 2 (.slice Mn i HH)
 obtain ⟨b4, q4⟩ := b3.set 3 (.slice da m.Data.length Hn)
 obtain ⟨b5, q5⟩ := b4.set 4 (.slice Mo n4 HI)
 obtain ⟨b6, q6⟩ := b5.set 5 (.int .i64 EE)
 obtain ⟨wf, Qf⟩ := jE ((((((wr.setCell ⟨bR, 0, none⟩ (.slice ta n1 HE)).setCell ⟨bR, 1, none⟩ (.slice K6 n2 HF)).setCell ⟨bR, 2, none⟩ (.slice Mn i HH)).setCell ⟨bR, 3, none⟩ (.slice da m.Data.length Hn)).setCell ⟨bR, 4, none⟩ (.slice Mo n4 HI)).setCell ⟨bR, 5, none⟩ (.int .i64 EE))
 rw [← Qf] at b6 q6 ⊢
 have MK : Turn (fun i => i = 8) cc wr cc wf := ((((q1.trans q2).trans q3).trans q4).trans q5).trans q6
 have Qg : BlkC 8 cc wf bR (.cells #[.slice ta n1 HE, .slice K6 n2 HF, .slice Mn i HH, .slice da m.Data.length Hn, .slice Mo n4 HI, .int .i64 EE] 28) := b6
 obtain ⟨e0, e1, e2, e3, e4, e5⟩ := Qg.1.k6
 have R6 : Hid (Keeps w wf) := jH ((HT.out.trans (MK.mono (J := fun i => 1 ≤ i) fun i z => by omega)).below (Nat.le_refl _) (fun _ _ => rfl) jd)
 have R7 : Hid (Foot (fun b => w.heap.size ≤ b ∧ b < wf.heap.size) (fun w => ImgAt w (.agg #[.slice ta n1 HE, .slice K6 n2 HF, .slice Mn i HH, .slice da m.Data.length Hn, .slice Mo n4 HI, .int .i64 EE]) (outI m f l L fst beg)) wf) := jH (by
  have z := (HO.out.turn MK (fun i h1 h2 => by omega)).foot (by rw [Q5.out]; exact txI_bd _ _ _ _) ((HT.out.trans (MK.mono (J := fun i => 1 ≤ i) fun i z => by omega)).zero (Nat.le_refl _) (fun _ _ => rfl))
  have e : outI m f l L fst beg = ⟨TL.map toB, FL, (f.Tables.take i).map (tbR L fst), m.Data, NL, EE⟩ := by unfold outI; rw [Q5.out, QG.out, Pt.out, Mv.out, MC.out, List.take_length, Ht.out, KH.out]
  rw [e]
  exact z)
 clear Qf b1 b2 b3 b4 b5 b6 q1 q2 q3 q4 q5 q6 MK Qg z0 z1 z2 z3 z4 z5 s0 s1 s2 s3 s4 s5 u0 u1 u2 u3 u4 u5 ul
 exact bodyPost_ret (v := .agg #[.slice ta n1 HE, .slice K6 n2 HF, .slice Mn i HH, .slice da m.Data.length Hn, .slice Mo n4 HI, .int .i64 EE]) (by simp [results, Tryd.results14, go_sem, e0, e1, e2, e3, e4, e5]) rfl ⟨_, rfl, R7.out, R6.out⟩
end
end Go.Proofs.YtgdamggkaklhjaaDoor
