/-
(*finder).join: addresses become places; the tables.
-/
import Derived.Test.YtgdamggkaklhjaaDoorFlRec9P
set_option linter.all false
namespace Go.Proofs.YtgdamggkaklhjaaDoor
open Go.RowKit BH
set_option maxHeartbeats 1000000000
set_option maxRecDepth 100000
def JoinAns (m : Img) (w0 : World) (v0 v1 v2 v3 v4 va : Value) (vs : List Sle) (L : List (List Sp)) (xb ob lb kb : Nat) (vB vF : Value) (c : Nat → Nat) (w : World) (bs : List Bk) (bm : Int → Option Int) (w' : World) : Prop :=
 ∃ c' vT rs ts, Turn (fun i => i = 1 ∨ i = 10 ∨ i = 11 ∨ 16 ≤ i) c w c' w' ∧ Fin m w0 v0 v1 v2 v3 v4 va vs L xb ob lb kb vB vT vF c' w' ∧ BlkS w0.heap.size c' w' vB rs (bs.map (joinB bm)) ∧ TabS w0.heap.size (16 + 3 * bs.length) c' w' vT ts (m.Tables.map fun t => t.map fun x => (bm x).getD 0)
theorem join_any {m : Img} {w0 : World} {v0 v1 v2 v3 v4 va : Value} {vs : List Sle} {L : List (List Sp)} {xb ob lb kb nK : Nat} {vB vF : Value} {rs : List Bv} {bs : List Bk} {bm : Int → Option Int} {c : Nat → Nat} {w : World}
  (hX : Fin m w0 v0 v1 v2 v3 v4 va vs L xb ob lb kb vB (.slice none 0 0) vF c w) (hB : BlkS w0.heap.size c w vB rs bs) (hM : MK6 c w kb nK bm) (hsm : CutSm bs 200000)
  (hln : ∀ i, i < bs.length → 0 < (nth bs i).Lines.length) (hto : ∀ i, i < bs.length → wfI (nth bs i).To ∧ wfI (nth bs i).Else) (htl : m.Tables.length ≤ 20) (htt : ∀ i, i < m.Tables.length → (nth m.Tables i).length ≤ 20 ∧ ∀ x ∈ nth m.Tables i, 0 ≤ x ∧ x ≤ 8000) :
  Calls Tryd.prog 28 #[.pointer (some ⟨xb, 0, none⟩)] w fun e w' => e = .returned (.tuple #[]) ∧ JoinAns m w0 v0 v1 v2 v3 v4 va vs L xb ob lb kb vB vF c w bs bm w' := by
 have hxl := hX.blk.1.lt
 obtain ⟨z0, z1, z2, z3, z4, hz, -, -, Mw, -, -⟩ := hX.img
 injection hz with hz
 simp only [Array.mk.injEq, List.cons.injEq, and_true] at hz
 obtain ⟨rfl, rfl, rfl, rfl, rfl⟩ := hz
 obtain ⟨tv, ⟨ta, HD, rfl, t1, t2, t3, t4⟩, Hi⟩ := Mw
 obtain ⟨ba, H9, Kg⟩ := own_form' hB.row.1
 obtain ⟨NB, Kh⟩ := jE (bs.length)
 rw [hB.len, ← Kh] at Kg
 subst Kg
 obtain ⟨NT, Kw⟩ := jE (m.Tables.length)
 have Mx := jv w xb 10 (.slice ba NB H9) (hX.blk.1.cell rfl)
 have My : NB ≤ 200000 := by rw [Kh]; exact hsm.1
 obtain ⟨HX, HB, HM, M0⟩ := hid4 hX hB hM Kh
 obtain ⟨Kx, Mz, MA, MB⟩ := hid4 Kw t4 Hi hsm
 obtain ⟨Ky, MC, MD⟩ := hid3 hln hto htt
 rw [← Kw] at htl
 clear hX hB hM Kh hsm hln hto htt t1 t2 t3 t4 Hi Kw
 go_enter Tryd.func28, Tryd.ntmps28
 go_wp2_with fail
 clear Mx
 go_loopw [15] (fun s15 wr => ∃ (k : Nat) (cc : Nat → Nat) (HU : List Bv), k ≤ NB ∧ s15 = .int .i64 k ∧ Hid (Turn (fun i => i = 1 ∨ i = 10 ∨ i = 11 ∨ 16 ≤ i) c w cc wr) ∧ Hid (Fin m w0 v0 v1 (.slice ta m.Tables.length HD) v3 v4 va vs L xb ob lb kb (.slice ba NB H9) (.slice none 0 0) vF cc wr) ∧ Hid (MK6 cc wr kb nK bm) ∧ Hid (BlkS w0.heap.size cc wr (.slice ba NB H9) HU (jn (joinB bm) bs k))) (fun s15 _ => NB - (intOf s15).toNat)
 case atStart => exact ⟨0, c, rs, Nat.zero_le _, rfl, jH (Turn.refl _ _ _), HX, HM, jH (by rw [jn_zero]; exact HB.out)⟩
 case round =>
 obtain ⟨k, cc, HU, hk, rfl, HY, Hj, Hv, HV⟩ := hrel
 by_cases hlt : k < NB
 case neg =>
  have tl : decide ((k : Int) < (NB : Int)) = false := decide_eq_false jo
  have M1 : BlkS w0.heap.size cc wr (.slice ba NB H9) HU (bs.map (joinB bm)) := by have z := HV.out; (rw [show k = bs.length by rw [← M0.out]; omega, jn_all] at z); exact z
  obtain ⟨K0, M2⟩ := jE (16 + 3 * bs.length)
  have x2 := jv wr xb 2 (.slice ta m.Tables.length HD) (Hj.out.blk.1.cell rfl)
  rw [← Kx.out] at x2
  obtain ⟨ME, M3⟩ := hid2 M1 M2
  have MF : 16 ≤ K0 := by omega
  clear M1 HV M2
  obtain ⟨wo, MG⟩ := jE wr
  subst MG
  go_wp2_with fail
  clear x2 tl
  go_loopw [99] (fun s99 wn => ∃ (i : Nat) (c2 : Nat → Nat) (vT : Value) (ts : List Sle), i ≤ NT ∧ s99 = .int .i64 i ∧ Hid (Turn (fun i => i = 1 ∨ i = 10 ∨ i = 11 ∨ 16 ≤ i) cc wo c2 wn) ∧ Hid (Fin m w0 v0 v1 (.slice ta m.Tables.length HD) v3 v4 va vs L xb ob lb kb (.slice ba NB H9) vT vF c2 wn) ∧ Hid (BlkS w0.heap.size c2 wn (.slice ba NB H9) HU (bs.map (joinB bm))) ∧ Hid (MK6 c2 wn kb nK bm) ∧ Hid (TabS w0.heap.size K0 c2 wn vT ts ((m.Tables.take i).map fun t => t.map fun x => (bm x).getD 0))) (fun s99 _ => NT - (intOf s99).toNat)
  case atStart => exact ⟨0, cc, _, [], Nat.zero_le _, rfl, jH (Turn.refl _ _ _), Hj, ME, Hv, jH (TabS.nil _ _ _ _)⟩
  case round =>
  obtain ⟨i, c2, vT, ts, hi, rfl, Kz, KA, M4, M5, M6⟩ := hrel
  by_cases hlt2 : i < NT
  case neg =>
   have tl2 : decide ((i : Int) < (NT : Int)) = false := decide_eq_false jo
   go_wp2_with fail
   refine bodyPost_end (results_none rfl _ _ _) rfl ?_
   refine ⟨rfl, c2, vT, HU, ts, HY.out.trans Kz.out, KA.out, M4.out, ?_⟩
   have z := M6.out
   rw [show i = m.Tables.length by rw [← Kx.out]; omega, List.take_length, M3.out] at z
   exact z
  case pos =>
  have MH : (i : Int) < (NT : Int) := by omega
  have Ki : i < m.Tables.length := by rw [← Kx.out]; exact hlt2
  obtain ⟨tb, MI, MJ, M7⟩ := Mz.out jo
  subst MJ
  obtain ⟨sa, KB, KC, s1, s2, s3, s4⟩ := MA.out i Ki
  obtain ⟨LT, Kj⟩ := jE (nth m.Tables i)
  obtain ⟨TN, Kk⟩ := jE (LT.length)
  rw [← Kj, ← Kk] at KC s4
  have y0 : wr.cell? ⟨tb, MI + i, none⟩ = some (.slice sa TN KB) := by (have z := KA.out.keep.cell (M7 i 0 Ki jd)); rw [KC] at z; simpa using z
  have Hr := MD.out i Ki
  rw [← Kj, ← Kk] at Hr
  obtain ⟨KT, M8⟩ := jE (K0 + i)
  obtain ⟨wp, MK⟩ := jE wr
  subst MK
  obtain ⟨ML, Kl, M9⟩ := hid3 Kj Kk Hr
  have Ma : TN ≤ 20 := Hr.1
  obtain ⟨Hg, MM⟩ := hid2 M8 s4
  clear KC s1 s2 s3 s4 M7 Kj Kk Hr M8
  go_wp2_with fail
  clear y0
  go_loopw [6, 105] (fun s6 s105 wn => ∃ (j : Nat) (Hw : List Int) (c4 : Nat → Nat), j ≤ TN ∧ s105 = .int .i64 j ∧ Hid (Hw = (LT.take j).map fun x => (bm x).getD 0) ∧ Hid (Turn (fun z => z = KT) c2 wp c4 wn) ∧ Hid (OwnC KT c4 wn w0.heap.size 3 1 ci s6 Hw)) (fun _ s105 _ => TN - (intOf s105).toNat)
  case atStart => exact ⟨0, [], c2, Nat.zero_le _, rfl, jH rfl, jH (Turn.refl _ _ _), jH (OwnC.nil _ _ _ _ _ _ _)⟩
  case round =>
  obtain ⟨j, Hw, c4, hj, rfl, KD, Hx, Km⟩ := hrel
  obtain ⟨a6, c6, e6⟩ := own_form' Km.out.1
  obtain ⟨NA, Kn⟩ := jE (Hw.length)
  rw [← Kn] at e6
  subst e6
  have HZ : NA = j := by rw [Kn, KD.out, List.length_map, List.length_take, ← Kl.out]; omega
  have MN : NA ≤ 20 := by have := M9.out.1; omega
  obtain ⟨Mb, MO⟩ := hid2 Kn HZ
  clear Kn HZ
  have Hy := KA.out.turn Hx.out (by have := Hg.out; omega) (by have := Hg.out; omega) (by have := Hg.out; omega) (by have := Hg.out; omega)
  by_cases hlt3 : j < TN
  case neg =>
   have tl3 : decide ((j : Int) < (TN : Int)) = false := decide_eq_false jo
   have K1 : Hw = LT.map fun x => (bm x).getD 0 := by rw [KD.out, show j = LT.length by rw [← Kl.out]; omega, List.take_length]
   have Hs := M6.out.turn Hx.out (by have := Hg.out; omega) (fun z hz => by have h1 := Hg.out; rw [List.length_map, List.length_take] at hz; omega)
   obtain ⟨MP, MQ, Mc⟩ := own_form' Hs.row.1
   obtain ⟨NS, K2⟩ := jE (ts.length)
   rw [← K2] at Mc
   subst Mc
   have KE : NS = i := by rw [K2, Hs.len, List.length_map, List.length_take]; omega
   have Md := jv wr xb 11 (.slice MP NS MQ) (Hy.blk.1.cell rfl)
   have MR := Hy.blk.1.lt
   obtain ⟨KF, K3⟩ := jE (NS + 1)
   have HE := jH (show (ts ++ [(⟨a6, NA, c6⟩ : Sle)]).length = KF by rw [List.length_append, List.length_singleton, K3, K2])
   have MS : NS ≤ 20 := by omega
   obtain ⟨Me, K4, Ko, KG⟩ := hid4 K2 Hs Hy K1
   have Mf : ((m.Tables.take i).map fun t => t.map fun x => (bm x).getD 0).length = i := by rw [List.length_map, List.length_take]; omega
   have Mg : OwnC (K0 + ((m.Tables.take i).map fun t => t.map fun x => (bm x).getD 0).length) c4 wr w0.heap.size 3 1 ci (⟨a6, NA, c6⟩ : Sle).v Hw := by rw [Mf, ← Hg.out]; exact Km.out
   have MT := jH Mg
   have Mh := M4.out.turnF Hx.out (by have := Hg.out; omega) (fun z h1 h2 => by rw [List.length_map] at h2; have := Hg.out; have := M3.out; omega)
   have Mi := M5.out.turn Hx.out (by have := Hg.out; omega)
   have K5 : Turn (fun i => i = 1 ∨ i = 10 ∨ i = 11 ∨ 16 ≤ i) cc wo c4 wr := Kz.out.trans (Hx.out.mono fun z hz => by have := Hg.out; omega)
   obtain ⟨MU, KH⟩ := hid2 Mh Mi
   have KI := jH K5
   clear Hy Hs K1 K2 Mf Mg Mh Mi K5 K3 KE
   go_wp2_with (at_builtin; refine wpList_pushes jr (.tmp 124) (.tmp 126) 24 jr Tryd.underlying24 info_ints jr jd (base := w0.heap.size) (f := sle) (l := ts) jr (by exact K4.out.row.1.keep ku5) [⟨a6, NA, c6⟩] _ _ jr jt sle_len sle_one (by simp only [jL, ← Me.out]; omega) (by simp only [jL, ← Me.out]; unfold maxLen; omega) (by have := Ko.out.keep.size; first | omega | (simp only [sz_alloc, sz_drew]; omega)) ?_; intro v7 w7 H2 H6 H4 H7; obtain ⟨c5, Hi, K6⟩ := K4.out.push jo MT.out (show Keeps wr _ from ku5) H2 H4 H7; have K7 := Ko.out.turn Hi jd jd jd jd; have Md := K7.blk.1.cell (j := 11) rfl; have HF := K7.blk.1.thawed 11; have l5 := K7.blk.1.lt; obtain ⟨Mj, Mk, e7⟩ := own_form' H2; rw [HE.out] at e7; subst e7)
   obtain ⟨Ml, K8⟩ := K7.put (vB' := .slice ba NB H9) (vT' := .slice Mj KF Mk) (vF' := vF) (w' := w7.setCell ⟨xb, 11, none⟩ (.slice Mj KF Mk)) rfl rfl
   obtain ⟨MV, MW, MX, KJ⟩ := hid4 ((KI.out.trans (Hi.mono (J := fun i => i = 1 ∨ i = 10 ∨ i = 11 ∨ 16 ≤ i) fun i h => Or.inr (Or.inr (Or.inl h)))).trans (K8.mono fun i h => Or.inl h)) ((MU.out.turn Hi jd (fun i hi => by omega)).turn K8 jd (fun i hi => by omega)) ((KH.out.turn Hi jd).turn K8 jd) (K6.turn K8 jd (fun i _ => by omega))
   have MY := jH Ml
   clear Ml K8 H2 H6 H4 H7 Hi K7 Md HF l5 K6 Hx Kz
   go_roundw
   case rel => exact ⟨i + 1, _, _, _, by omega, by go_num, MV, MY, MW, MX, jH (by rw [take_succ_nth _ _ Ki, List.map_append, List.map_singleton, ← ML.out, ← KG.out]; exact KJ.out)⟩
   case measure => exact jm
  case pos =>
  have MZ : (j : Int) < (TN : Int) := by omega
  obtain ⟨ab, P0, rfl, K9⟩ := MM.out jo
  obtain ⟨x, hx⟩ := jE (nth LT j)
  have y1 : wr.cell? ⟨ab, P0 + j, none⟩ = some (.int .i64 x) := by (have z := Hy.keep.cell (K9 j 0 hlt3 jd)); rw [← hx] at z; simpa using z
  have P1 := M9.out.2 x (by rw [hx]; rw [nth_eq _ _ (by rw [← Kl.out]; exact hlt3)]; exact List.getElem_mem _)
  have P2 := jH (wfI_of (c := x) jo jo)
  have x9 := jv wr xb 9 (.map (some kb)) (Hy.blk.1.cell rfl)
  have KH := jH (M5.out.turn Hx.out (by have := Hg.out; omega))
  obtain ⟨PX, Mm⟩ := jE ((bm x).getD 0)
  obtain ⟨Mn, P3, Ko⟩ := hid3 Mm hx Hy
  clear K9 P1 Mm hx Hy
  go_wp2_with (first | (at_lookup; refine wpList_look _ rfl (.tmp 113) (.tmp 114) rfl MKII kb nK bm rfl (KH.out.1.keep ku5) x rfl P2.out ?_; rw [← Mn.out]) | (at_builtin; refine wpList_pushes jr (.tmp 109) (.tmp 116) 25 jr Tryd.underlying25 info_int jr jd (base := w0.heap.size) (f := ci) (l := Hw) jr (by exact Km.out.1.keep ku5) [PX] _ _ jr jt ci_len ci_one (by simp only [jL, ← Mb.out]; omega) (by simp only [jL, ← Mb.out]; unfold maxLen; omega) (by have := Ko.out.keep.size; first | omega | (simp only [sz_alloc]; omega)) ?_; intro v7 w7 H2 H6 H4 H7; obtain ⟨c5, Hi, Mo⟩ := Km.out.push (show Keeps wr _ from ku5) H2 H4 H7; have P4 := jH (Hx.out.trans Hi); have P5 := jH Mo; clear Hi Mo H2 H6 H4 H7))
  go_roundw
  case rel => exact ⟨j + 1, Hw ++ [PX], c5, by omega, by go_num, jH (by rw [take_succ_nth _ _ (by rw [← Kl.out]; exact hlt3), List.map_append, ← KD.out, Mn.out, P3.out]; rfl), P4, P5⟩
  case measure => exact jm
 case pos =>
 have P6 : (k : Int) < (NB : Int) := by omega
 have Ha : k < bs.length := by rw [← M0.out]; exact hlt
 have H5 : k < (jn (joinB bm) bs k).length := by rw [jn_len _ _ jo]; exact Ha
 obtain ⟨b0, HW⟩ := jE (nth bs k)
 obtain ⟨⟨rF, rS, ⟨ca, cn, Kp⟩, ⟨aa, an, ac⟩, ⟨lK, lD, lA, lB, lN, Kq⟩, rE, rT, rL, ⟨la, ln, lc⟩⟩, Mp⟩ : ∃ r, r = nth HU k := ⟨_, rfl⟩
 have Kr := HV.out.selfK H5
 rw [jn_at _ _ Ha, ← HW, ← Mp] at Kr
 obtain ⟨gB, P7, gN, Kg⟩ : ∃ g KK n, (.slice ba NB H9 : Value) = .slice (some ⟨g, 0, none⟩) n KK := by (obtain ⟨g, KK, e, -⟩ := own_setc (f := cbv) (k := 14) cbv_len HV.out.row.1 (i := k) (by rw [HV.out.len]; exact H5) (c := 0) jd); exact ⟨g, KK, _, e⟩
 injection Kg with P8 P9 Pa
 subst P8 P9 Pa
 have H1 := Kr.cellK H5 rfl
 have Ks := jc wr gB (k * 14 + 10) rE (H1.1 10 _ jd rfl)
 have H3 := H1.2.2.2.2.2.2
 have Pb := jv wr xb 10 (.slice (some ⟨gB, 0, none⟩) NB H9) (Hj.out.blk.1.cell rfl)
 have Mq : rE = b0.Ends := H3.2.2.2.1
 have KL : rT = b0.To := H3.2.2.2.2.1
 have KM : rL = b0.Else := H3.2.2.2.2.2
 have Hh := jH Kr
 have KN := MC.out k Ha
 rw [← HW, ← KL, ← KM] at KN
 have Kt := jH KN
 have Ht := Ky.out k Ha
 rw [← HW] at Ht
 have Mr := jH Ht
 have Ms := (MB.out.2 k Ha).2.2
 rw [← HW] at Ms
 have Mt : Hid (b0.Lines.length ≤ 300000) := jH jo
 obtain ⟨PT, KO⟩ := jE ((bm rT).getD 0)
 obtain ⟨PL, KP⟩ := jE ((bm rL).getD 0)
 obtain ⟨KQ, Pc⟩ := hid2 KO KP
 have Ka : PT = (bm b0.To).getD 0 := by rw [KO, KL]
 have Kb : PL = (bm b0.Else).getD 0 := by rw [KP, KM]
 have HG := jH Ka
 have KR := jH Kb
 obtain ⟨Ku, Hf⟩ := hid2 HW Mq
 obtain ⟨wa, Pd⟩ := jE wr
 subst Pd
 clear Kr HW Mp H1 H3 KN Ht Ms KO KP Ka Kb Mq KL KM HV
 by_cases h1 : rE = 1
 case pos =>
  subst h1
  go_upto_region 9 with fail
  have hd : Keeps wa wa.drew := (Keeps.refl _).drew
  have H1 := (Hh.out.keep hd).cellK H5 rfl
  have Kc := jv wa.drew gB (k * 14 + 13) (.slice la ln lc) (H1.1 13 _ jd rfl)
  have HH := H1.2.2.2.2.2.1.2.2
  have hln : ln = b0.Lines.length := by obtain ⟨a', c', e⟩ := own_form' HH.1; injection e with e1 e2 e3
  have Ht : 0 < b0.Lines.length := Mr.out
  obtain ⟨HI, Pe, KS, -, -, -, -, Kd, -⟩ := own_read1 (h := fun x : Int => .int .i64 x) HH.1 Ht
  injection KS with lge1 lge2 lge3
  subst lge1
  obtain ⟨LJ, Ke⟩ := jE (ln - 1)
  obtain ⟨LV, HJ⟩ := jE (nth b0.Lines LJ)
  have q0 : wa.drew.cell? ⟨HI, LJ, none⟩ = some (.int .i64 LV) := by rw [HJ]; exact Kd LJ (by show LJ < b0.Lines.length; omega)
  have KU : ln ≤ 300000 := by rw [hln]; exact Mt.out
  have KV : IntKind.i64.wrap ((ln : Int) - 1) = (LJ : Int) := jw
  have HK : (LJ : Int) < (ln : Int) := by omega
  have HL : LJ < ln := by omega
  have Hk : LV = nth b0.Lines (b0.Lines.length - 1) := by rw [HJ, Ke, hln]
  obtain ⟨HN, KW⟩ := hid2 hln Hk
  clear HH H1 hln Ht lge2 lge3 Kd Ke HJ Hk
  refine wp_region_head_tail (S := Cells [(gB, k * 14 + 13, .slice (some ⟨HI, 0, none⟩) ln lc), (HI, LJ, .int .i64 LV)]) 18 0 (v := .pointer (some ⟨gB, k * 14, none⟩)) jx rfl jx jx jx jd (fun _ _ _ h => h) (Or.inl ⟨by rfl, fun w => by rfl⟩) jx jx jx jd jx ?hS5 (fun H0 => ?_)
  case hS5 => exact ⟨Kc, q0, trivial⟩
  simp only [jU, jG]
  try simp only [Act.put, jS]
  refine jp 1 H0 ?_
  refine jp 2 H0 ?_
  refine jp 3 H0 ?_
  refine jp 4 H0 ?_
  refine jp 5 H0 ?_
  refine jp 6 H0 ?_
  refine jp 7 H0 ?_
  refine jp 8 H0 ?_
  refine jp 9 H0 ?_
  refine jp 10 H0 ?_
  refine jp 11 H0 ?_
  refine jp 12 H0 ?_
  refine jp 13 H0 ?_
  refine jp 14 H0 ?_
  refine jp 15 H0 ?_
  refine jp 16 H0 ?_
  refine readyC 17 ?_
  intro K hK
  go_simp
  refine goOn hK (Cells.keep H0 ((Keeps.refl _).alloc _)) ?_
  clear hK K H0
  intro H0
  refine wpAnyH_done jx ?_ _
  dsimp only [TailQ]
  clear H0 Kc q0 KV HK HL
  obtain ⟨HO, Hl⟩ := jE (ln + 1)
  have HE := jH (show (b0.Lines ++ [LV]).length = HO by rw [List.length_append, List.length_singleton, Hl, HN.out])
  clear Hl hd
  go_upto_region 10 with (at_builtin; refine wpList_pushes jr (.tmp 75) (.tmp 88) 25 jr Tryd.underlying25 info_int jr jd (base := w0.heap.size) (f := ci) (l := b0.Lines) jr (by exact (Hh.out.keep ku5 |>.cellK H5 rfl).2.2.2.2.2.1.2.2.1) [LV] _ _ jr jt ci_len ci_one (by simp only [jL, ← HN.out]; omega) (by simp only [jL, ← HN.out]; unfold maxLen; omega) (by have := Hj.out.keep.size; first | omega | (simp only [sz_alloc, sz_drew]; omega)) ?_; intro v7 w7 H2 H6 H4 H7; obtain ⟨a9, Kf, e7⟩ := own_form' H2; rw [HE.out] at e7; subst e7; have Hb := Hh.out.stay rfl (show Keeps wa _ from ku5) H4 (fun b e => by have := (Hh.out.cellK H5 rfl).2.2.2.2.2.1.2.2.2 b e; omega); have g3 := Hb.1 _ _ ((Hh.out.cellK H5 rfl).1 13 _ jd rfl); have f3 := Hb.2.1 (k * 14 + 13); have l3 := Hb.2.2)
  obtain ⟨c4, Hm, HP⟩ := Hh.out.pushLnK H5 rfl (s7 := ⟨a9, HO, Kf⟩) (x := LV) (show Keeps wa _ from ku5) H2 H4 H7
  obtain ⟨wb, Hd⟩ : ∃ w', w' = w7.setCell ⟨gB, k * 14 + 13, none⟩ (.slice a9 HO Kf) := ⟨_, rfl⟩
  rw [← Hd] at Hm HP
  rw [← Hd]
  obtain ⟨Hu, Hz, HQ, Hc⟩ := hid4 (Hj.out.turn Hm jo jo jo jo) (Hv.out.turn Hm jo) (HY.out.trans (Hm.mono (J := (fun i => i = 1 ∨ i = 10 ∨ i = 11 ∨ 16 ≤ i)) fun i h => by rcases h with h | h <;> simp [h] <;> omega)) HP
  clear Hm HP Hd H2 H6 H4 H7 Hb g3 f3 l3 HE
  have Hn : joinB bm b0 = { b0 with Lines := b0.Lines ++ [LV] } := by unfold joinB; rw [if_pos Hf.out.symm, if_neg (by rw [← Hf.out]; decide), if_pos (Or.inl Hf.out.symm), KW.out]
  have HR := jH Hn
  clear Hn
  go_wp2_with fail
  go_roundw
  case rel => exact ⟨k + 1, _, _, by omega, by go_num, HQ, Hu, Hz, jH (by rw [← jn_set _ _ Ha, ← Ku.out, HR.out]; exact Hc.out)⟩
  case measure => exact jm
 case neg =>
 have t1 : (rE != 1) = true := by simpa using h1
 by_cases h4 : rE = 4
 case pos =>
  subst h4
  go_upto_region 5 with fail
  have hd : Keeps wa wa.drew := (Keeps.refl _).drew
  have H1 := (Hh.out.keep hd).cellK H5 rfl
  have HA := jc wa.drew gB (k * 14 + 11) rT (H1.1 11 _ jd rfl)
  have HF : wa.drew.frozen? ⟨gB, k * 14 + 11, none⟩ = false := H1.2.1 (k * 14 + 11)
  have HS := H1.2.2.1
  have H3 := H1.2.2.2.2.2.2
  have Ho := jv wa.drew xb 9 (.map (some kb)) ((Hj.out.keeps hd).blk.1.cell rfl)
  have Hp : ∀ w', Keeps wa w' → (Instr.lookup 76 (.map (some kb)) (.int .i64 rT) false).run Tryd.prog w' = .ok (.int .i64 PT) w' := fun w' hk' => by have z := ((Hv.out.1.keep hk').look MKII (x := rT) Kt.out.1 false).1; rw [KQ.out]; exact z
  obtain ⟨He, H8⟩ := (Hh.out.keep hd).putK H5 rfl 11 jd (.int .i64 PT) ⟨rF, rS, ⟨ca, cn, Kp⟩, ⟨aa, an, ac⟩, ⟨lK, lD, lA, lB, lN, Kq⟩, 4, PT, rL, ⟨la, ln, lc⟩⟩ { b0 with To := PT } rfl ⟨H3.1, H3.2.1, H3.2.2.1, H3.2.2.2.1, rfl, H3.2.2.2.2.2⟩ rfl rfl rfl rfl rfl rfl
  obtain ⟨wb, Hd⟩ : ∃ w', w' = wa.drew.setCell ⟨gB, k * 14 + 11, none⟩ (.int .i64 PT) := ⟨_, rfl⟩
  rw [← Hd] at He H8
  obtain ⟨Hc, Hu, Hz, HQ⟩ := hid4 He ((Hj.out.keeps hd).turn H8 jd jd jd jd) ((Hv.out.keep hd).turn H8 jd) ((HY.out.keep hd).trans (H8.mono (J := (fun i => i = 1 ∨ i = 10 ∨ i = 11 ∨ 16 ≤ i)) fun i h => Or.inr (Or.inl h)))
  obtain ⟨Hq, HC⟩ := hid2 Hp (show (wa.setCell ⟨gB, k * 14 + 11, none⟩ (.int .i64 PT)).drew = wb from Hd.symm)
  clear He H8 Hp H1 Hd H3
  refine wp_region_head (S := fun w' => Keeps wa w' ∧ Cells [(gB, k * 14 + 11, .int .i64 rT), (xb, 9, .map (some kb))] w') 10 jx jx jx jx jd jx ?hS (fun H0 => ?_)
  case hS => exact ⟨hd, HA, Ho, trivial⟩
  simp only [jU]
  refine jp 0 H0 ?_
  refine jp 1 H0 ?_
  refine jp 2 H0 ?_
  refine jp 3 H0 ?_
  refine jp 4 H0 ?_
  refine jp 5 H0 ?_
  refine jp 6 H0 ?_
  refine jp 7 H0 ?_
  refine jp 8 H0 ?_
  refine wpAnyH_take (i := 9) (oi := ?oq1x9) (v := ?vq1x9) ?hq1x9 ?aq1x9 ?bq1x9 ?cq1x9 ?qq1x9 (Or.inl ⟨?wq1x9, ?yq1x9⟩) H0 ?rq1x9
  case hq1x9 => (simp only [jT]; try rfl)
  case aq1x9 => kernel_rfl
  case bq1x9 => kernel_rfl
  case cq1x9 => kernel_rfl
  case qq1x9 => exact fun _ _ _ h => h
  case wq1x9 => rfl
  case yq1x9 =>
   intro w hSw
   have hq := Hq.out _ hSw.1
   simp only [execOp, Act.eval]
   simp [hq, Result.andThen]
   try rfl
  try simp only [Act.put, jS]
  refine wpAnyH_done jx ?_ _
  dsimp only [TailQ]
  clear H0 Ho Hq hd
  go_upto_region 6 with fail
  rw [HC.out]
  clear HA HF HS HC
  have H1 := Hc.out.cellK H5 rfl
  have Ks := jc wb gB (k * 14 + 10) 4 (H1.1 10 _ jd rfl)
  clear H1
  go_upto_region 7 with fail
  have hd : Keeps wb wb.drew := (Keeps.refl _).drew
  have H1 := (Hc.out.keep hd).cellK H5 rfl
  have Mu := jc wb.drew gB (k * 14 + 12) rL (H1.1 12 _ jd rfl)
  have Pf : wb.drew.frozen? ⟨gB, k * 14 + 12, none⟩ = false := H1.2.1 (k * 14 + 12)
  have HS := H1.2.2.1
  have H3 := H1.2.2.2.2.2.2
  have Ho := jv wb.drew xb 9 (.map (some kb)) ((Hu.out.keeps hd).blk.1.cell rfl)
  have Hp : ∀ w', Keeps wb w' → (Instr.lookup 76 (.map (some kb)) (.int .i64 rL) false).run Tryd.prog w' = .ok (.int .i64 PL) w' := fun w' hk' => by have z := ((Hz.out.1.keep hk').look MKII (x := rL) Kt.out.2 false).1; rw [Pc.out]; exact z
  obtain ⟨He, H8⟩ := (Hc.out.keep hd).putK H5 rfl 12 jd (.int .i64 PL) ⟨rF, rS, ⟨ca, cn, Kp⟩, ⟨aa, an, ac⟩, ⟨lK, lD, lA, lB, lN, Kq⟩, 4, PT, PL, ⟨la, ln, lc⟩⟩ { b0 with To := PT, Else := PL } rfl ⟨H3.1, H3.2.1, H3.2.2.1, H3.2.2.2.1, H3.2.2.2.2.1, rfl⟩ rfl rfl rfl rfl rfl rfl
  obtain ⟨wc, HT⟩ : ∃ w', w' = wb.drew.setCell ⟨gB, k * 14 + 12, none⟩ (.int .i64 PL) := ⟨_, rfl⟩
  rw [← HT] at He H8
  obtain ⟨Kv, KX, KY, KZ⟩ := hid4 He ((Hu.out.keeps hd).turn H8 jd jd jd jd) ((Hz.out.keep hd).turn H8 jd) ((HQ.out.keep hd).trans (H8.mono (J := (fun i => i = 1 ∨ i = 10 ∨ i = 11 ∨ 16 ≤ i)) fun i h => Or.inr (Or.inl h)))
  obtain ⟨Hq, Mv⟩ := hid2 Hp (show (wb.setCell ⟨gB, k * 14 + 12, none⟩ (.int .i64 PL)).drew = wc from HT.symm)
  clear He H8 Hp H1 HT H3
  refine wp_region_head (S := fun w' => Keeps wb w' ∧ Cells [(gB, k * 14 + 12, .int .i64 rL), (xb, 9, .map (some kb))] w') 10 jx jx jx jx jd jx ?hS (fun H0 => ?_)
  case hS => exact ⟨hd, Mu, Ho, trivial⟩
  simp only [jU]
  refine jp 0 H0 ?_
  refine jp 1 H0 ?_
  refine jp 2 H0 ?_
  refine jp 3 H0 ?_
  refine jp 4 H0 ?_
  refine jp 5 H0 ?_
  refine jp 6 H0 ?_
  refine jp 7 H0 ?_
  refine jp 8 H0 ?_
  refine wpAnyH_take (i := 9) (oi := ?oq2x9) (v := ?vq2x9) ?hq2x9 ?aq2x9 ?bq2x9 ?cq2x9 ?qq2x9 (Or.inl ⟨?wq2x9, ?yq2x9⟩) H0 ?rq2x9
  case hq2x9 => (simp only [jT]; try rfl)
  case aq2x9 => kernel_rfl
  case bq2x9 => kernel_rfl
  case cq2x9 => kernel_rfl
  case qq2x9 => exact fun _ _ _ h => h
  case wq2x9 => rfl
  case yq2x9 =>
   intro w hSw
   have hq := Hq.out _ hSw.1
   simp only [execOp, Act.eval]
   simp [hq, Result.andThen]
   try rfl
  try simp only [Act.put, jS]
  refine wpAnyH_done jx ?_ _
  dsimp only [TailQ]
  clear H0 Ho Hq hd
  go_upto_region 8 with fail
  rw [Mv.out]
  clear Mu Pf HS Mv
  have H1 := Kv.out.cellK H5 rfl
  have Ks := jc wc gB (k * 14 + 10) 4 (H1.1 10 _ jd rfl)
  clear H1
  have Hn : joinB bm b0 = { b0 with To := PT, Else := PL } := by unfold joinB; rw [if_neg (by rw [← Hf.out]; decide), if_pos Hf.out.symm, if_neg (by rw [← Hf.out]; decide), ← HG.out, ← KR.out]
  have HR := jH Hn
  clear Hn
  go_wp2_with fail
  go_roundw
  case rel => exact ⟨k + 1, _, _, by omega, by go_num, KZ, KX, KY, jH (by rw [← jn_set _ _ Ha, ← Ku.out, HR.out]; exact Kv.out)⟩
  case measure => exact jm
 case neg =>
 have t4 : (rE == 4) = false := by simpa using h4
 by_cases h2 : rE = 2
 case pos =>
  subst h2
  go_upto_region 5 with fail
  have hd : Keeps wa wa.drew := (Keeps.refl _).drew
  have H1 := (Hh.out.keep hd).cellK H5 rfl
  have HA := jc wa.drew gB (k * 14 + 11) rT (H1.1 11 _ jd rfl)
  have HF : wa.drew.frozen? ⟨gB, k * 14 + 11, none⟩ = false := H1.2.1 (k * 14 + 11)
  have HS := H1.2.2.1
  have H3 := H1.2.2.2.2.2.2
  have Ho := jv wa.drew xb 9 (.map (some kb)) ((Hj.out.keeps hd).blk.1.cell rfl)
  have Hp : ∀ w', Keeps wa w' → (Instr.lookup 76 (.map (some kb)) (.int .i64 rT) false).run Tryd.prog w' = .ok (.int .i64 PT) w' := fun w' hk' => by have z := ((Hv.out.1.keep hk').look MKII (x := rT) Kt.out.1 false).1; rw [KQ.out]; exact z
  obtain ⟨He, H8⟩ := (Hh.out.keep hd).putK H5 rfl 11 jd (.int .i64 PT) ⟨rF, rS, ⟨ca, cn, Kp⟩, ⟨aa, an, ac⟩, ⟨lK, lD, lA, lB, lN, Kq⟩, 2, PT, rL, ⟨la, ln, lc⟩⟩ { b0 with To := PT } rfl ⟨H3.1, H3.2.1, H3.2.2.1, H3.2.2.2.1, rfl, H3.2.2.2.2.2⟩ rfl rfl rfl rfl rfl rfl
  obtain ⟨wb, Hd⟩ : ∃ w', w' = wa.drew.setCell ⟨gB, k * 14 + 11, none⟩ (.int .i64 PT) := ⟨_, rfl⟩
  rw [← Hd] at He H8
  obtain ⟨Hc, Hu, Hz, HQ⟩ := hid4 He ((Hj.out.keeps hd).turn H8 jd jd jd jd) ((Hv.out.keep hd).turn H8 jd) ((HY.out.keep hd).trans (H8.mono (J := (fun i => i = 1 ∨ i = 10 ∨ i = 11 ∨ 16 ≤ i)) fun i h => Or.inr (Or.inl h)))
  obtain ⟨Hq, HC⟩ := hid2 Hp (show (wa.setCell ⟨gB, k * 14 + 11, none⟩ (.int .i64 PT)).drew = wb from Hd.symm)
  clear He H8 Hp H1 Hd H3
  refine wp_region_head (S := fun w' => Keeps wa w' ∧ Cells [(gB, k * 14 + 11, .int .i64 rT), (xb, 9, .map (some kb))] w') 10 jx jx jx jx jd jx ?hS (fun H0 => ?_)
  case hS => exact ⟨hd, HA, Ho, trivial⟩
  simp only [jU]
  refine jp 0 H0 ?_
  refine jp 1 H0 ?_
  refine jp 2 H0 ?_
  refine jp 3 H0 ?_
  refine jp 4 H0 ?_
  refine jp 5 H0 ?_
  refine jp 6 H0 ?_
  refine jp 7 H0 ?_
  refine jp 8 H0 ?_
  refine wpAnyH_take (i := 9) (oi := ?oq3x9) (v := ?vq3x9) ?hq3x9 ?aq3x9 ?bq3x9 ?cq3x9 ?qq3x9 (Or.inl ⟨?wq3x9, ?yq3x9⟩) H0 ?rq3x9
  case hq3x9 => (simp only [jT]; try rfl)
  case aq3x9 => kernel_rfl
  case bq3x9 => kernel_rfl
  case cq3x9 => kernel_rfl
  case qq3x9 => exact fun _ _ _ h => h
  case wq3x9 => rfl
  case yq3x9 =>
   intro w hSw
   have hq := Hq.out _ hSw.1
   simp only [execOp, Act.eval]
   simp [hq, Result.andThen]
   try rfl
  try simp only [Act.put, jS]
  refine wpAnyH_done jx ?_ _
  dsimp only [TailQ]
  clear H0 Ho Hq hd
  go_upto_region 6 with fail
  rw [HC.out]
  clear HA HF HS HC
  have H1 := Hc.out.cellK H5 rfl
  have Ks := jc wb gB (k * 14 + 10) 2 (H1.1 10 _ jd rfl)
  clear H1
  go_upto_region 9 with fail
  have hd : Keeps wb wb.drew := (Keeps.refl _).drew
  have H1 := (Hc.out.keep hd).cellK H5 rfl
  have Kc := jv wb.drew gB (k * 14 + 13) (.slice la ln lc) (H1.1 13 _ jd rfl)
  have HH := H1.2.2.2.2.2.1.2.2
  have hln : ln = b0.Lines.length := by obtain ⟨a', c', e⟩ := own_form' HH.1; injection e with e1 e2 e3
  have Ht : 0 < b0.Lines.length := Mr.out
  obtain ⟨HI, Pe, KS, -, -, -, -, Kd, -⟩ := own_read1 (h := fun x : Int => .int .i64 x) HH.1 Ht
  injection KS with lge1 lge2 lge3
  subst lge1
  obtain ⟨LJ, Ke⟩ := jE (ln - 1)
  obtain ⟨LV, HJ⟩ := jE (nth b0.Lines LJ)
  have q0 : wb.drew.cell? ⟨HI, LJ, none⟩ = some (.int .i64 LV) := by rw [HJ]; exact Kd LJ (by show LJ < b0.Lines.length; omega)
  have KU : ln ≤ 300000 := by rw [hln]; exact Mt.out
  have KV : IntKind.i64.wrap ((ln : Int) - 1) = (LJ : Int) := jw
  have HK : (LJ : Int) < (ln : Int) := by omega
  have HL : LJ < ln := by omega
  have Hk : LV = nth b0.Lines (b0.Lines.length - 1) := by rw [HJ, Ke, hln]
  obtain ⟨HN, KW⟩ := hid2 hln Hk
  clear HH H1 hln Ht lge2 lge3 Kd Ke HJ Hk
  refine wp_region_head_tail (S := Cells [(gB, k * 14 + 13, .slice (some ⟨HI, 0, none⟩) ln lc), (HI, LJ, .int .i64 LV)]) 18 0 (v := .pointer (some ⟨gB, k * 14, none⟩)) jx rfl jx jx jx jd (fun _ _ _ h => h) (Or.inl ⟨by rfl, fun w => by rfl⟩) jx jx jx jd jx ?hS6 (fun H0 => ?_)
  case hS6 => exact ⟨Kc, q0, trivial⟩
  simp only [jU, jG]
  try simp only [Act.put, jS]
  refine jp 1 H0 ?_
  refine jp 2 H0 ?_
  refine jp 3 H0 ?_
  refine jp 4 H0 ?_
  refine jp 5 H0 ?_
  refine jp 6 H0 ?_
  refine jp 7 H0 ?_
  refine jp 8 H0 ?_
  refine jp 9 H0 ?_
  refine jp 10 H0 ?_
  refine jp 11 H0 ?_
  refine jp 12 H0 ?_
  refine jp 13 H0 ?_
  refine jp 14 H0 ?_
  refine jp 15 H0 ?_
  refine jp 16 H0 ?_
  refine readyC 17 ?_
  intro K hK
  go_simp
  refine goOn hK (Cells.keep H0 ((Keeps.refl _).alloc _)) ?_
  clear hK K H0
  intro H0
  refine wpAnyH_done jx ?_ _
  dsimp only [TailQ]
  clear H0 Kc q0 KV HK HL
  obtain ⟨HO, Hl⟩ := jE (ln + 1)
  have HE := jH (show (b0.Lines ++ [LV]).length = HO by rw [List.length_append, List.length_singleton, Hl, HN.out])
  clear Hl hd
  go_upto_region 10 with (at_builtin; refine wpList_pushes jr (.tmp 75) (.tmp 88) 25 jr Tryd.underlying25 info_int jr jd (base := w0.heap.size) (f := ci) (l := b0.Lines) jr (by exact (Hc.out.keep ku5 |>.cellK H5 rfl).2.2.2.2.2.1.2.2.1) [LV] _ _ jr jt ci_len ci_one (by simp only [jL, ← HN.out]; omega) (by simp only [jL, ← HN.out]; unfold maxLen; omega) (by have := Hu.out.keep.size; first | omega | (simp only [sz_alloc, sz_drew]; omega)) ?_; intro v7 w7 H2 H6 H4 H7; obtain ⟨a9, Kf, e7⟩ := own_form' H2; rw [HE.out] at e7; subst e7; have Hb := Hc.out.stay rfl (show Keeps wb _ from ku5) H4 (fun b e => by have := (Hc.out.cellK H5 rfl).2.2.2.2.2.1.2.2.2 b e; omega); have g3 := Hb.1 _ _ ((Hc.out.cellK H5 rfl).1 13 _ jd rfl); have f3 := Hb.2.1 (k * 14 + 13); have l3 := Hb.2.2)
  obtain ⟨c4, Hm, HP⟩ := Hc.out.pushLnK H5 rfl (s7 := ⟨a9, HO, Kf⟩) (x := LV) (show Keeps wb _ from ku5) H2 H4 H7
  obtain ⟨wc, HT⟩ : ∃ w', w' = w7.setCell ⟨gB, k * 14 + 13, none⟩ (.slice a9 HO Kf) := ⟨_, rfl⟩
  rw [← HT] at Hm HP
  rw [← HT]
  obtain ⟨KX, KY, KZ, Kv⟩ := hid4 (Hu.out.turn Hm jo jo jo jo) (Hz.out.turn Hm jo) (HQ.out.trans (Hm.mono (J := (fun i => i = 1 ∨ i = 10 ∨ i = 11 ∨ 16 ≤ i)) fun i h => by rcases h with h | h <;> simp [h] <;> omega)) HP
  clear Hm HP HT H2 H6 H4 H7 Hb g3 f3 l3 HE
  have Hn : joinB bm b0 = { b0 with To := PT, Lines := b0.Lines ++ [LV] } := by unfold joinB; rw [if_neg (by rw [← Hf.out]; decide), if_neg (by rw [← Hf.out]; decide), if_pos (Or.inr Hf.out.symm), ← HG.out, KW.out]
  have HR := jH Hn
  clear Hn
  go_wp2_with fail
  go_roundw
  case rel => exact ⟨k + 1, _, _, by omega, by go_num, KZ, KX, KY, jH (by rw [← jn_set _ _ Ha, ← Ku.out, HR.out]; exact Kv.out)⟩
  case measure => exact jm
 case neg =>
 have t2 : (rE == 2) = false := by simpa using h2
 have t3 : (rE == 1) = false := by simpa using h1
 go_upto_region 5 with fail
 have hd : Keeps wa wa.drew := (Keeps.refl _).drew
 have H1 := (Hh.out.keep hd).cellK H5 rfl
 have HA := jc wa.drew gB (k * 14 + 11) rT (H1.1 11 _ jd rfl)
 have HF : wa.drew.frozen? ⟨gB, k * 14 + 11, none⟩ = false := H1.2.1 (k * 14 + 11)
 have HS := H1.2.2.1
 have H3 := H1.2.2.2.2.2.2
 have Ho := jv wa.drew xb 9 (.map (some kb)) ((Hj.out.keeps hd).blk.1.cell rfl)
 have Hp : ∀ w', Keeps wa w' → (Instr.lookup 76 (.map (some kb)) (.int .i64 rT) false).run Tryd.prog w' = .ok (.int .i64 PT) w' := fun w' hk' => by have z := ((Hv.out.1.keep hk').look MKII (x := rT) Kt.out.1 false).1; rw [KQ.out]; exact z
 obtain ⟨He, H8⟩ := (Hh.out.keep hd).putK H5 rfl 11 jd (.int .i64 PT) ⟨rF, rS, ⟨ca, cn, Kp⟩, ⟨aa, an, ac⟩, ⟨lK, lD, lA, lB, lN, Kq⟩, rE, PT, rL, ⟨la, ln, lc⟩⟩ { b0 with To := PT } rfl ⟨H3.1, H3.2.1, H3.2.2.1, H3.2.2.2.1, rfl, H3.2.2.2.2.2⟩ rfl rfl rfl rfl rfl rfl
 obtain ⟨wb, Hd⟩ : ∃ w', w' = wa.drew.setCell ⟨gB, k * 14 + 11, none⟩ (.int .i64 PT) := ⟨_, rfl⟩
 rw [← Hd] at He H8
 obtain ⟨Hc, Hu, Hz, HQ⟩ := hid4 He ((Hj.out.keeps hd).turn H8 jd jd jd jd) ((Hv.out.keep hd).turn H8 jd) ((HY.out.keep hd).trans (H8.mono (J := (fun i => i = 1 ∨ i = 10 ∨ i = 11 ∨ 16 ≤ i)) fun i h => Or.inr (Or.inl h)))
 obtain ⟨Hq, HC⟩ := hid2 Hp (show (wa.setCell ⟨gB, k * 14 + 11, none⟩ (.int .i64 PT)).drew = wb from Hd.symm)
 clear He H8 Hp H1 Hd H3
 refine wp_region_head (S := fun w' => Keeps wa w' ∧ Cells [(gB, k * 14 + 11, .int .i64 rT), (xb, 9, .map (some kb))] w') 10 jx jx jx jx jd jx ?hS (fun H0 => ?_)
 case hS => exact ⟨hd, HA, Ho, trivial⟩
 simp only [jU]
 refine jp 0 H0 ?_
 refine jp 1 H0 ?_
 refine jp 2 H0 ?_
 refine jp 3 H0 ?_
 refine jp 4 H0 ?_
 refine jp 5 H0 ?_
 refine jp 6 H0 ?_
 refine jp 7 H0 ?_
 refine jp 8 H0 ?_
 refine wpAnyH_take (i := 9) (oi := ?oq4x9) (v := ?vq4x9) ?hq4x9 ?aq4x9 ?bq4x9 ?cq4x9 ?qq4x9 (Or.inl ⟨?wq4x9, ?yq4x9⟩) H0 ?rq4x9
 case hq4x9 => (simp only [jT]; try rfl)
 case aq4x9 => kernel_rfl
 case bq4x9 => kernel_rfl
 case cq4x9 => kernel_rfl
 case qq4x9 => exact fun _ _ _ h => h
 case wq4x9 => rfl
 case yq4x9 =>
  intro w hSw
  have hq := Hq.out _ hSw.1
  simp only [execOp, Act.eval]
  simp [hq, Result.andThen]
  try rfl
 try simp only [Act.put, jS]
 refine wpAnyH_done jx ?_ _
 dsimp only [TailQ]
 clear H0 Ho Hq hd
 go_upto_region 6 with fail
 rw [HC.out]
 clear HA HF HS HC
 have H1 := Hc.out.cellK H5 rfl
 have Ks := jc wb gB (k * 14 + 10) rE (H1.1 10 _ jd rfl)
 clear H1
 have Hn : joinB bm b0 = { b0 with To := PT } := by unfold joinB; rw [if_neg (fun q => h1 (Hf.out.trans q)), if_neg (fun q => h4 (Hf.out.trans q)), if_neg (fun q => q.elim (fun q => h1 (Hf.out.trans q)) (fun q => h2 (Hf.out.trans q))), ← HG.out]
 have HR := jH Hn
 clear Hn
 go_wp2_with fail
 go_roundw
 case rel => exact ⟨k + 1, _, _, by omega, by go_num, HQ, Hu, Hz, jH (by rw [← jn_set _ _ Ha, ← Ku.out, HR.out]; exact Hc.out)⟩
 case measure => exact jm
end Go.Proofs.YtgdamggkaklhjaaDoor
