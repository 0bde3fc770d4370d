/-
(*finder).cut: a function's instructions are put into blocks
-/
import Derived.Test.YtgdamggkaklhjaaDoorFlRec9P
set_option linter.all false
namespace Go.Proofs.YtgdamggkaklhjaaDoor
open Go.RowKit BH
set_option maxHeartbeats 1000000000
set_option maxRecDepth 100000
theorem cut_any {m : Img} {w0 : World} {v0 v1 v2 v3 v4 va : Value} {vs : List Sle} {L : List (List Sp)} {xb ob lb kb nK nL : Nat} {vB vT vF : Value} {rs : List Bv} {bs : List Bk} {bm : Int → Option Int} {fs ks : List Int} {c : Nat → Nat} {w : World} {f T : Nat}
  (hX : Fin m w0 v0 v1 v2 v3 v4 va vs L xb ob lb kb vB vT vF c w) (hB : BlkS w0.heap.size c w vB rs bs) (hM : MK6 c w kb nK bm) (hL : MIBC c w lb nL ks) (hks : ∀ x, ((isK ks x).getD false) = isL m x) (hF : OwnC 9 c w w0.heap.size 3 1 ci vF fs)
  (hf : f < L.length) (hLf : nth L f = nth (allS m) f) (hok : ∀ s ∈ nth L f, SpOk s) (hlen : (nth L f).length ≤ 2000) (hfst : 0 < (nth L f).length → isL m (nth (nth L f) 0).A = true) (hsm : CutSm bs T) (hT : T ≤ 100000) (hfs : fs.length ≤ 100) (hnK : nK ≤ 100000) :
  Calls Tryd.prog 27 #[.pointer (some ⟨xb, 0, none⟩), .int .i64 f] w fun e w' => e = .returned (.tuple #[]) ∧ CutAns m w0 v0 v1 v2 v3 v4 va vs L xb ob lb kb vT c w (nK + (nth L f).length) ((nth L f).foldl (cutS m f) ⟨bs, bm⟩) (fs ++ [(bs.length : Int)]) w' := by
 obtain ⟨HX, HB, HM, HL⟩ := hid4 hX hB hM hL
 obtain ⟨HF, Qk, Ql, Qm⟩ := hid4 hF hsm hks hok
 have MD := jH hfst
 have hxl := hX.blk.1.lt
 obtain ⟨fa, KE, Pi⟩ := own_form' hF.1
 obtain ⟨ba, K8, KF⟩ := own_form' hB.row.1
 obtain ⟨aa, K9, Qn⟩ := own_form' hX.all.1
 obtain ⟨NB, ME⟩ := jE (bs.length)
 obtain ⟨NF, MF⟩ := jE (fs.length)
 rw [hB.len, ← ME] at KF
 rw [← MF] at Pi hfs
 subst Pi KF Qn
 have Hq := jv w xb 10 (.slice ba NB K8) (hX.blk.1.cell rfl)
 have Mi := jv w xb 12 (.slice fa NF KE) (hX.blk.1.cell rfl)
 obtain ⟨Qo, MG⟩ := hid2 ME MF
 clear hX hB hM hL hF hsm hks hok hfst ME MF
 go_enter Tryd.func27, Tryd.ntmps27
 go_upto_region 0 with fail
 refine wp_region_head_tail (S := Cells [(xb, 10, .slice ba NB K8), (xb, 12, .slice fa NF KE)]) 13 0 (v := .pointer (some ⟨xb, 0, none⟩)) jx rfl jx jx jx jd (fun _ _ _ h => h) (Or.inl ⟨by rfl, fun w => by rfl⟩) jx jx jx jd jx ?KG (fun H0 => ?_)
 case KG => exact ⟨Hq, Mi, trivial⟩
 simp only [jU, jG]
 try simp only [Act.put, jS]
 refine jp 1 H0 ?_
 refine jp 2 H0 ?_
 refine jp 3 H0 ?_
 refine jp 4 H0 ?_
 refine jp 5 H0 ?_
 refine jp 6 H0 ?_
 refine jp 7 H0 ?_
 refine jp 8 H0 ?_
 refine jp 9 H0 ?_
 refine jp 10 H0 ?_
 refine jp 11 H0 ?_
 refine readyC 12 ?_
 intro K hK
 go_simp
 refine goOn hK (Cells.keep H0 ((Keeps.refl _).alloc _)) ?_
 clear hK K H0
 intro H0
 refine wpAnyH_done jx ?_ _
 dsimp only [TailQ]
 clear H0
 obtain ⟨Kp, Ka⟩ := jE (NF + 1)
 obtain ⟨Qp, Qq⟩ := hid2 (show (fs ++ [(NB : Int)]).length = Kp by rw [List.length_append, List.length_singleton, Ka, MG.out]) Ka
 clear Ka Hq Mi
 go_upto_region 1 with (at_builtin; refine wpList_pushes jr (.tmp 12) (.tmp 19) 25 jr Tryd.underlying25 info_int jr jd (base := w0.heap.size) (f := ci) (l := fs) jr (by exact HF.out.1.keep ku5) [(NB : Int)] _ _ jr jt ci_len ci_one (by simp only [jL, ← MG.out]; omega) (by simp only [jL, ← MG.out]; unfold maxLen; omega) (by have := HX.out.keep.size; first | omega | (simp only [sz_alloc, sz_drew]; omega)) ?_; intro v7 w7 H3 H7 H5 H8; obtain ⟨c7, Kq, Pj⟩ := HF.out.push (show Keeps w _ from ku5) H3 H5 H8; have KH := HX.out.turn Kq jd jd jd jd; have Mi := KH.blk.1.cell (j := 12) rfl; have Kb := KH.blk.1.thawed 12; have l7 := KH.blk.1.lt; obtain ⟨KI, KJ, e7⟩ := own_form' H3; rw [Qp.out] at e7; subst e7)
 obtain ⟨w8, MH⟩ := jE (w7.setCell ⟨xb, 12, none⟩ (.slice KI Kp KJ))
 rw [← MH]
 obtain ⟨HZ, Kr⟩ := KH.put (vB' := .slice ba NB K8) (vT' := vT) (vF' := .slice KI Kp KJ) MH rfl
 have Pk : Turn (fun i => i = 1 ∨ i = 6 ∨ i = 9 ∨ i = 10 ∨ 16 ≤ i) c w c7 w8 := (Kq.mono fun i h => Or.inr (Or.inr (Or.inl h))).trans (Kr.mono fun i h => Or.inl h)
 have Pl := (HB.out.turn Kq jd (fun i hi => by omega)).turn Kr jd (fun i hi => by omega)
 have Pm := (HM.out.turn Kq jd).turn Kr jd
 have Pn := (HL.out.turn Kq jd).turn Kr jd
 have Po := Pj.turn Kr jd
 obtain ⟨ga, Hr, ge, -, -, -, -, gc, -⟩ := own_read1 (h := fun s : Sle => s.v) HZ.all.1 (by rw [HZ.len]; omega)
 injection ge with ge1 ge2 ge3
 subst ge1
 obtain ⟨⟨sa, sn, sc⟩, Mj⟩ : ∃ z, z = nth vs f := ⟨_, rfl⟩
 have y0 : w8.cell? ⟨ga, f, none⟩ = some (.slice sa sn sc) := by have z := gc f (by rw [HZ.len]; exact hf); rw [← Mj] at z; exact z
 have x6 := jv w8 xb 6 (.slice (some ⟨ga, 0, none⟩) vs.length K9) (HZ.blk.1.cell rfl)
 have KK := HZ.sps.here f hf
 rw [← Mj] at KK
 obtain ⟨pa, Qr, pe, p1, p2, p3, p4⟩ := KK
 injection pe with pe1 pe2 pe3
 subst pe1 pe2 pe3
 have hfv : (f : Int) < (vs.length : Int) := by rw [HZ.len]; omega
 obtain ⟨SL, Mk⟩ := jE (nth L f)
 obtain ⟨SN, Ml⟩ := jE (SL.length)
 rw [← Mk, ← Ml] at y0 p4
 have Qs : SN ≤ 2000 := by rw [Ml, Mk]; exact hlen
 obtain ⟨Ks, Kt, Qt, Qu⟩ := hid4 Mk Ml HZ Pk
 obtain ⟨Qv, Qw, Qx, Qy⟩ := hid4 Pl Pm Pn Po
 have MI := jH Mj
 clear H3 H7 H5 H8 Kq Pj KH Mi Kb l7 HZ Kr Pk Pl Pm Pn Po MH ge2 ge3 gc Mj p1 p2 p3 p4 Mk Ml
 -- LOOP
 go_wp2_with fail
 clear y0 x6
 go_loopw [32] (fun s32 wr => ∃ (k : Nat) (cc : Nat → Nat) (vB' : Value) (Kc : List Bv) (C : Cut), k ≤ SN ∧ s32 = .int .i64 k ∧ Hid (C = (SL.take k).foldl (cutS m f) ⟨bs, bm⟩) ∧ Hid (CutSm C.bs (T + k)) ∧ Hid (0 < k → 0 < C.bs.length) ∧ Hid (Turn (fun i => i = 1 ∨ i = 6 ∨ i = 10 ∨ 16 ≤ i) c7 w8 cc wr) ∧ Hid (Fin m w0 v0 v1 v2 v3 v4 (.slice (some ⟨ga, 0, none⟩) vs.length K9) vs L xb ob lb kb vB' vT (.slice KI Kp KJ) cc wr) ∧ Hid (BlkS w0.heap.size cc wr vB' Kc C.bs) ∧ Hid (MK6 cc wr kb (nK + k) C.bm)) (fun s32 _ => SN - (intOf s32).toNat)
 case atStart => exact ⟨0, c7, _, rs, ⟨bs, bm⟩, Nat.zero_le _, rfl, jH rfl, Qk, jH (fun h => absurd h (Nat.lt_irrefl 0)), jH (Turn.refl _ _ _), Qt, Qv, Qw⟩
 case round =>
 obtain ⟨k, cc, vB', Kc, C, hk, rfl, HC, KL, KM, HT, Mm, HP, MJ⟩ := hrel
 by_cases hlt : k < SN
 case neg =>
  obtain rfl : k = SN := by omega
  have Pp : C = SL.foldl (cutS m f) ⟨bs, bm⟩ := by rw [HC.out, Kt.out, List.take_length]
  have Pq := jH Pp
  clear Pp
  go_wp2_with fail
  refine bodyPost_end (results_none rfl _ _ _) rfl ?_
  refine ⟨rfl, cc, vB', _, Kc, Qu.out.trans (HT.out.mono fun i h => by rcases h with h | h | h | h <;> simp [h]), Mm.out, ?_, ?_, ?_⟩
  ·rw [← Ks.out, ← Pq.out]; exact HP.out
  ·rw [← Ks.out, ← Pq.out, ← Kt.out]; exact MJ.out
  rw [← Qo.out]; exact Qy.out.turn HT.out jo
 case pos =>
 have Qz : (k : Int) < (SN : Int) := by omega
 have KK := Mm.out.sps.here f hf
 rw [← MI.out] at KK
 obtain ⟨_, _, pe, -, -, -, p4⟩ := KK
 injection pe with pe1 pe2 pe3
 subst pe1
 rw [← Ks.out, ← Kt.out] at p4
 obtain ⟨HQ, HR, rfl, pc⟩ := p4 jo
 have Kd := Qm.out (nth SL k) (by rw [← Ks.out, nth_eq _ _ (by rw [← Kt.out]; exact hlt)]; exact List.getElem_mem _)
 obtain ⟨⟨A, Z, ⟨K, D, A2, B, N, Lg⟩⟩, hs⟩ : ∃ s, s = nth SL k := ⟨_, rfl⟩
 rw [← hs] at Kd
 have MK := jH Kd
 obtain ⟨a0, a1, QA, QB, n0, n1, k0, k1, QC⟩ := Kd
 dsimp only at a0 a1 QA QB n0 n1 k0 k1 QC
 have g : ∀ j, j < 8 → wr.cell? ⟨HQ, HR + k * 8 + j, none⟩ = some ((csp ⟨A, Z, ⟨K, D, A2, B, N, Lg⟩⟩).getD j undef) := fun j hj => by rw [hs]; exact pc k j hlt hj
 have d0 := jc wr HQ (HR + k * 8) A (g 0 jo)
 have d1 := jc wr HQ (HR + k * 8 + 1) Z (g 1 jo)
 have d2 := jc wr HQ (HR + k * 8 + 2) K (g 2 jo)
 have d3 := jc wr HQ (HR + k * 8 + 3) D (g 3 jo)
 have d4 := jc wr HQ (HR + k * 8 + 4) A2 (g 4 jo)
 have d5 := jc wr HQ (HR + k * 8 + 5) B (g 5 jo)
 have d6 := jc wr HQ (HR + k * 8 + 6) N (g 6 jo)
 have d7 := jv wr HQ (HR + k * 8 + 7) (.bool Lg) (g 7 jo)
 have ML : HQ < wr.heap.size := lt_of_cell d0
 obtain ⟨ZL, Mn⟩ := jE (isL m A)
 obtain ⟨C1, HD⟩ : ∃ C1 : Cut, C1 = if ZL = true then ⟨C.bs ++ [newB f A], putI C.bm A C.bs.length⟩ else C := ⟨_, rfl⟩
 have KN : 0 < C1.bs.length := by
  rw [HD]
  cases hz : ZL with
  | true => rw [if_pos rfl]; simp
  | false =>
   rw [if_neg jd]
   rcases Nat.eq_zero_or_pos k with q | q
   ·exfalso
    subst q
    have := MD.out (by rw [← Ks.out, ← Kt.out]; omega)
    rw [← Ks.out, ← hs] at this
    rw [Mn] at hz
    rw [hz] at this
    cases this
   exact KM.out q
 have K0 : (SL.take (k + 1)).foldl (cutS m f) ⟨bs, bm⟩ = ⟨modL C1.bs (pbS m ⟨A, Z, ⟨K, D, A2, B, N, Lg⟩⟩), C1.bm⟩ := by
  rw [take_succ_nth _ _ (by rw [← Kt.out]; exact hlt), List.foldl_append, ← HC.out, ← hs, HD, Mn]
  show cutS m f C _ = _
  unfold cutS
  dsimp only
  by_cases q : isL m A = true
  ·rw [if_pos q, if_pos q]
  rw [if_neg q, if_neg q]
 have KO : C1.bs.length ≤ T + k + 1 ∧ ∀ i, i < C1.bs.length → (nth C1.bs i).Code.length ≤ T + k ∧ (nth C1.bs i).At.length ≤ T + k ∧ (nth C1.bs i).Lines.length ≤ T + k := by
  rw [HD]
  have q := KL.out
  cases ZL with
  | true =>
   rw [if_pos rfl]
   refine ⟨by have := q.1; dsimp only; rw [List.length_append, List.length_singleton]; omega, fun i hi => ?_⟩
   dsimp only at hi ⊢
   rw [List.length_append, List.length_singleton] at hi
   rcases Nat.lt_or_ge i C.bs.length with z | z
   ·rw [nth_app_lt _ _ z]; exact q.2 i z
   rw [nth_app_eq _ _ jo]; exact ⟨Nat.zero_le _, Nat.zero_le _, Nat.zero_le _⟩
  | false => rw [if_neg jd]; exact ⟨by have := q.1; omega, q.2⟩
 obtain ⟨Pr, Hs, Ho, Ht⟩ := hid4 HD KN K0 KO
 have QD := jH Mn
 clear hs g pc p4 pe2 pe3 HD KN K0 KO Mn
 go_upto_region 4 with fail
 obtain ⟨wq, cq, Ps, QE, KP, Mo⟩ := one_paint wr cc (.cells #[.int .i64 A, .int .i64 Z, .int .i64 K, .int .i64 D, .int .i64 A2, .int .i64 B, .int .i64 N, .bool Lg] 85) 7
 rw [← Ps]
 obtain ⟨b5, Ke⟩ := jE (wr.heap.size)
 rw [← Ke]
 rw [← Ke] at Mo
 have MM := Mm.out.turn (KP (fun _ => False)) (fun q => q) (fun q => q) (fun q => q) (fun q => q)
 have Pt := HP.out.turn (KP (fun _ => False)) (fun q => q) (fun _ _ q => q)
 have Pu := MJ.out.turn (KP (fun _ => False)) (fun q => q)
 have MN : Turn (fun i => i = 1 ∨ i = 6 ∨ i = 10 ∨ 16 ≤ i) c7 w8 cq wq := HT.out.trans (KP _)
 have Pv := Qx.out.turn MN jo
 have Pw : ∀ w', Keeps wq w' → (Instr.lookup 77 (.map (some lb)) (.int .i64 A) false).run Tryd.prog w' = .ok (.bool ZL) w' := fun w' hk' => by have z := ((Pv.1.keep hk').look MKIB (x := A) (wfI_of jo jo) false).1; rw [Ql.out, ← QD.out] at z; exact z
 have x8 := jv wq xb 8 (.map (some lb)) (MM.blk.1.cell rfl)
 have q0 := jc wq b5 0 A (Mo.1.cell rfl)
 obtain ⟨MO, Mp, Mq, Px⟩ := hid4 MM Pt Pu MN
 obtain ⟨MP, Py⟩ := hid2 Mo Pw
 clear Ps QE KP MM Pt Pu MN Pv Pw Mo Ke d0 d1 d2 d3 d4 d5 d6 d7 ML Mm HP MJ HT HC KM
 refine wp_region_held_drew (S := fun w' => Keeps wq w' ∧ Cells [(xb, 8, .map (some lb)), (b5, 0, .int .i64 A)] w') jx ⟨(Keeps.refl _).drew, x8, q0, trivial⟩ (fun H0 => ?_)
 refine jp 0 H0 ?_
 refine jp 1 H0 ?_
 refine jp 2 H0 ?_
 refine jp 3 H0 ?_
 refine jp 4 H0 ?_
 refine jp 5 H0 ?_
 refine wpAnyH_take (i := 6) (oi := ?oq1x6) (v := ?vq1x6) ?hq1x6 ?aq1x6 ?bq1x6 ?cq1x6 ?qq1x6 (Or.inl ⟨?wq1x6, ?yq1x6⟩) H0 ?rq1x6
 case hq1x6 => (simp only [jT]; try rfl)
 case aq1x6 => kernel_rfl
 case bq1x6 => kernel_rfl
 case cq1x6 => kernel_rfl
 case qq1x6 => exact fun _ _ _ h => h
 case wq1x6 => rfl
 case yq1x6 =>
  intro w hSw
  have hq := Py.out _ hSw.1
  simp only [execOp, Act.eval]
  simp [hq, Result.andThen]
  try rfl
 try simp only [Act.put, jS]
 refine wpAnyH_done jx ?_ _
 clear H0 x8 q0 Py
 go_upto_if 42 with fail
 go_cut [] (fun wx => ∃ (c2 : Nat → Nat) (MQ : Value) (Ku : List Bv), Hid (Turn (fun i => i = 1 ∨ i = 6 ∨ i = 10 ∨ 16 ≤ i) c7 w8 c2 wx) ∧ Hid (Fin m w0 v0 v1 v2 v3 v4 (.slice (some ⟨ga, 0, none⟩) vs.length K9) vs L xb ob lb kb MQ vT (.slice KI Kp KJ) c2 wx) ∧ Hid (BlkS w0.heap.size c2 wx MQ Ku C1.bs) ∧ Hid (MK6 c2 wx kb (nK + k + 1) C1.bm) ∧ Hid (BlkC 7 c2 wx b5 (.cells #[.int .i64 A, .int .i64 Z, .int .i64 K, .int .i64 D, .int .i64 A2, .int .i64 B, .int .i64 N, .bool Lg] 85)))
 case first =>
  cases ZL with
  | false =>
   have HD : C1 = C := by rw [Pr.out]; rfl
   have MR := jH HD
   clear HD
   go_wp2_with fail
   go_meet
   case rel =>
   rw [MR.out]
   exact ⟨cq, vB', Kc, jH (Px.out.keep ku5), jH (MO.out.keeps ku5), jH (Mp.out.keep ku5), jH ((Mq.out.keep ku5).mono jo), jH (MP.out.keep ku5)⟩
  | true =>
   have HD : C1 = ⟨C.bs ++ [newB f A], putI C.bm A C.bs.length⟩ := by rw [Pr.out]; rfl
   have MR := jH HD
   clear HD
   obtain ⟨Mr, Ms, Pz⟩ := own_form' Mp.out.row.1
   obtain ⟨HS, Kf⟩ := jE (C.bs.length)
   rw [Mp.out.len, ← Kf] at Pz
   subst Pz
   have PA : HS ≤ 102000 := by have := KL.out.1; omega
   have Kg := jH Kf
   clear Kf
   go_upto_region 5 with fail
   have MS := MO.out.keeps (show Keeps wq wq.drew from (Keeps.refl _).drew)
   have x9 := jv wq.drew xb 9 (.map (some kb)) (MS.blk.1.cell rfl)
   have Hq := jv wq.drew xb 10 (.slice Mr HS Ms) (MS.blk.1.cell rfl)
   have q0 := jc wq.drew b5 0 A ((MP.out.keep (show Keeps wq wq.drew from (Keeps.refl _).drew)).1.cell rfl)
   clear MS
   refine wp_region_head (S := Cells [(xb, 9, .map (some kb)), (xb, 10, .slice Mr HS Ms), (b5, 0, .int .i64 A)]) 12 jx jx jx jx jd jx ?hS2 (fun H0 => ?_)
   case hS2 => exact ⟨x9, Hq, q0, trivial⟩
   simp only [jU]
   refine jp 0 H0 ?_
   refine jp 1 H0 ?_
   refine jp 2 H0 ?_
   refine jp 3 H0 ?_
   refine jp 4 H0 ?_
   refine jp 5 H0 ?_
   refine jp 6 H0 ?_
   refine jp 7 H0 ?_
   refine jp 8 H0 ?_
   refine jp 9 H0 ?_
   refine jp 10 H0 ?_
   refine jp 11 H0 ?_
   refine wpAnyH_done jx ?_ _
   dsimp only [TailQ]
   clear H0 x9 Hq q0
   go_upto_region 6 with (at_mapUpdate; refine wpList_put _ rfl (.tmp 46) (.tmp 48) (.tmp 54) rfl MKII kb (nK + k) _ rfl (Mq.out.1.keep ku5) (by unfold maxLen; omega) A rfl (wfI_of jo jo) (HS : Int) rfl (wfI_of jo jo) ?_; intro w4 PB PC)
   have Hw : Turn (fun i => i = 6) cq wq cq w4 := ((show Keeps wq _ from ku5).turn _ cq).trans (grown_turn PC (fun b e => by cases e; exact Mq.out.2))
   have MT := MO.out.turn Hw jd jd jd jd
   have PD := Mp.out.turn Hw jd (fun i hi => by omega)
   have Ha := MP.out.turn Hw jd
   have Hq := jv w4 xb 10 (.slice Mr HS Ms) (MT.blk.1.cell rfl)
   have q0 := jc w4 b5 0 A (Ha.1.cell rfl)
   obtain ⟨HE, Mt, Hu, KQ⟩ := hid4 MT PD Ha (Px.out.trans (Hw.mono (J := (fun i => i = 1 ∨ i = 6 ∨ i = 10 ∨ 16 ≤ i)) fun i h => Or.inr (Or.inl h)))
   have KR : Hid (MK6 cq w4 kb (nK + k + 1) (putI C.bm A HS)) := jH ⟨PB, Mq.out.2⟩
   clear Hw MT PD Ha PB PC
   refine wp_region_head_tail (S := Cells [(xb, 10, .slice Mr HS Ms), (b5, 0, .int .i64 A)]) 11 0 (v := .pointer (some ⟨xb, 0, none⟩)) jx rfl jx jx jx jd (fun _ _ _ h => h) (Or.inl ⟨by rfl, fun w => by rfl⟩) jx jx jx jd jx ?KS (fun H0 => ?_)
   case KS => exact ⟨Hq, q0, trivial⟩
   simp only [jU, jG]
   try simp only [Act.put, jS]
   refine jp 1 H0 ?_
   refine jp 2 H0 ?_
   refine jp 3 H0 ?_
   refine jp 4 H0 ?_
   refine jp 5 H0 ?_
   refine jp 6 H0 ?_
   refine jp 7 H0 ?_
   refine jp 8 H0 ?_
   refine jp 9 H0 ?_
   refine readyC 10 ?_
   intro K hK
   go_simp
   refine goOn hK (Cells.keep H0 ((Keeps.refl _).alloc _)) ?_
   clear hK K H0
   intro H0
   refine wpAnyH_done jx ?_ _
   dsimp only [TailQ]
   clear H0 Hq q0
   obtain ⟨MU, KT⟩ := jE (HS + 1)
   obtain ⟨QF, PE⟩ := hid2 (show (Kc ++ [(⟨(f : Int), A, ⟨none, 0, 0⟩, ⟨none, 0, 0⟩, zIc, 2, 0, 0, ⟨none, 0, 0⟩⟩ : Bv)]).length = MU by rw [List.length_append, List.length_singleton, KT, Kg.out, Mt.out.len]) (show Kc.length = HS by rw [Mt.out.len, Kg.out])
   clear KT
   go_wp2_with (at_builtin; refine wpList_pushes jr (.tmp 60) (.tmp 65) 43 jr Tryd.underlying43 info_block jr jd (base := w0.heap.size) (f := cbv) (l := Kc) jr (by exact Mt.out.row.1.keep ku5) [⟨(f : Int), A, ⟨none, 0, 0⟩, ⟨none, 0, 0⟩, zIc, 2, 0, 0, ⟨none, 0, 0⟩⟩] _ _ jr jt cbv_len cbv_one (by simp only [jL, PE.out]; omega) (by simp only [jL, PE.out]; unfold maxLen; omega) (by have := HE.out.keep.size; first | omega | (simp only [sz_alloc, sz_drew]; omega)) ?_; intro v7 w7 H3 H7 H5 H8; obtain ⟨c5, Hx, PF⟩ := Mt.out.push (show Keeps w4 _ from ku5) H3 H5 H8; have HG := HE.out.turn Hx jd jd jd jd; have Hq := HG.blk.1.cell (j := 10) rfl; have K1 := HG.blk.1.thawed 10; have l5 := HG.blk.1.lt; obtain ⟨PG, PH, e7⟩ := own_form' H3; rw [QF.out] at e7; subst e7)
   obtain ⟨PI, KU⟩ := HG.put (vB' := .slice PG MU PH) (vT' := vT) (vF' := .slice KI Kp KJ) (w' := w7.setCell ⟨xb, 10, none⟩ (.slice PG MU PH)) rfl rfl
   have PJ := (KQ.out.trans (Hx.mono (J := (fun i => i = 1 ∨ i = 6 ∨ i = 10 ∨ 16 ≤ i)) fun i h => Or.inr (Or.inr (Or.inl h)))).trans (KU.mono fun i h => Or.inl h)
   have PK := PF.turn KU jd (fun i hi => by omega)
   have PL := (KR.out.turn Hx jd).turn KU jd
   have Hj := (Hu.out.turn Hx jd).turn KU jd
   obtain ⟨K2, K3, QG, K4⟩ := hid4 PI PJ PK PL
   have MV := jH Hj
   clear PI KU PJ PK PL Hj H3 H7 H5 H8 Hx PF HG Hq K1 l5
   go_meet
   case rel =>
   rw [MR.out, ← Kg.out]
   exact ⟨c5, _, _, K3, K2, QG, K4, MV⟩
 case rest =>
 obtain ⟨c2, MQ, Ku, QH, MW, Hv, QI, KV⟩ := hcut
 obtain ⟨w2, QJ⟩ := jE wc
 subst QJ
 obtain ⟨J, hJ⟩ : ∃ J, J + 1 = C1.bs.length := ⟨C1.bs.length - 1, by have := Hs.out; omega⟩
 obtain ⟨gB, Hr, KF, hgB, -, -, -, -⟩ := Hv.out.last Hs.out
 obtain ⟨N1, MX⟩ := jE (J + 1)
 rw [← hJ, ← MX] at KF
 subst KF
 have MY := Hv.out.self hJ
 obtain ⟨b0, KW⟩ := jE (nth C1.bs J)
 obtain ⟨⟨rF, rS, ⟨ca, cn, Hl⟩, ⟨aa, an, ac⟩, ⟨lK, lD, lA, lB, lN, Hf⟩, rE, rT, rL, ⟨la, ln, lc⟩⟩, PM⟩ : ∃ r, r = nth Ku J := ⟨_, rfl⟩
 rw [← KW, ← PM] at MY
 have KX : modL C1.bs (pbS m ⟨A, Z, ⟨K, D, A2, B, N, Lg⟩⟩) = C1.bs.set J (pbS m ⟨A, Z, ⟨K, D, A2, B, N, Lg⟩⟩ b0) := by unfold modL; rw [← hJ, Nat.add_sub_cancel, ← KW]
 have MZ := Ht.out.2 J jo
 rw [← KW] at MZ
 have wJ : IntKind.i64.wrap ((N1 : Int) - 1) = (J : Int) := by rw [IntKind.wrap_i64]; have := Ht.out.1; omega
 have hJz : (J : Int) < (N1 : Int) := by omega
 have hJn : J < N1 := by omega
 have Hq := jv w2 xb 10 (.slice (some ⟨gB, 0, none⟩) N1 Hr) (MW.out.blk.1.cell rfl)
 obtain ⟨Kv, HJ, H4, HU⟩ := hid4 MY hJ MX KX
 have Mu := jH KW
 clear MY hJ MX KX KW PM Hv
 go_upto_region 7 with fail
 refine wp_region_held_drew (S := Cells [(xb, 10, .slice (some ⟨gB, 0, none⟩) N1 Hr)]) jx ⟨Hq, trivial⟩ (fun H0 => ?_)
 refine jp 0 H0 ?_
 refine jp 1 H0 ?_
 refine jp 2 H0 ?_
 refine jp 3 H0 ?_
 refine jp 4 H0 ?_
 refine jp 5 H0 ?_
 refine jp 6 H0 ?_
 refine jp 7 H0 ?_
 refine jp 8 H0 ?_
 refine jp 9 H0 ?_
 refine jp 10 H0 ?_
 refine jp 11 H0 ?_
 refine jp 12 H0 ?_
 refine jp 13 H0 ?_
 refine wpAnyH_done jx ?_ _
 clear H0 Hq
 go_upto_region 8 with fail
 have P0 : Keeps w2 w2.drew := (Keeps.refl _).drew
 have H1 := (Kv.out.keep P0).cellJ HJ.out (by rw [H4.out])
 have g3 := jv w2.drew gB (J * 14 + 3) (.slice aa an ac) (H1.1 3 _ jd rfl)
 have q0 := jc w2.drew b5 0 A ((KV.out.keep P0).1.cell rfl)
 have PN : an = b0.At.length := by obtain ⟨a', c', e⟩ := own_form' H1.2.2.2.2.2.1.2.1.1; injection e with e1 e2 e3
 have Mv := jH PN
 clear H1 PN
 refine wp_region_head_tail (S := Cells [(gB, J * 14 + 3, .slice aa an ac), (b5, 0, .int .i64 A)]) 8 0 (v := .pointer (some ⟨gB, J * 14, none⟩)) jx rfl jx jx jx jd (fun _ _ _ h => h) (Or.inl ⟨by rfl, fun w => by rfl⟩) jx jx jx jd jx ?KY (fun H0 => ?_)
 case KY => exact ⟨g3, q0, trivial⟩
 simp only [jU, jG]
 try simp only [Act.put, jS]
 refine jp 1 H0 ?_
 refine jp 2 H0 ?_
 refine jp 3 H0 ?_
 refine jp 4 H0 ?_
 refine jp 5 H0 ?_
 refine jp 6 H0 ?_
 refine readyC 7 ?_
 intro K hK
 go_simp
 refine goOn hK (Cells.keep H0 ((Keeps.refl _).alloc _)) ?_
 clear hK K H0
 intro H0
 refine wpAnyH_done jx ?_ _
 dsimp only [TailQ]
 clear H0 g3 q0
 obtain ⟨He, KZ⟩ := jE (an + 1)
 have M0 := jH (show (b0.At ++ [A]).length = He by rw [List.length_append, List.length_singleton, KZ, Mv.out])
 have QK : an ≤ 200000 := by have := Mv.out; omega
 clear KZ
 go_upto_region 9 with (at_builtin; refine wpList_pushes jr (.tmp 87) (.tmp 90) 25 jr Tryd.underlying25 info_int jr jd (base := w0.heap.size) (f := ci) (l := b0.At) jr (by exact (Kv.out.keep ku5 |>.cellJ HJ.out (by rw [H4.out])).2.2.2.2.2.1.2.1.1) [A] _ _ jr jt ci_len ci_one (by simp only [jL, ← Mv.out]; omega) (by simp only [jL, ← Mv.out]; unfold maxLen; omega) (by have := MW.out.keep.size; first | omega | (simp only [sz_alloc, sz_drew]; omega)) ?_; intro v7 w7 H3 H7 H5 H8; obtain ⟨a7, Hg, e7⟩ := own_form' H3; rw [M0.out] at e7; subst e7; have H9 := Kv.out.stay rfl (show Keeps w2 _ from ku5) H5 (fun b e => by have := (Kv.out.cellJ HJ.out (by rw [H4.out])).2.2.2.2.2.1.2.1.2 b e; omega); have g3 := H9.1 _ _ ((Kv.out.cellJ HJ.out (by rw [H4.out])).1 3 _ jd rfl); have f3 := H9.2.1 (J * 14 + 3); have l3 := H9.2.2)
 obtain ⟨c3, Kw, KG⟩ := Kv.out.pushAt' HJ.out (by rw [H4.out]) (s7 := ⟨a7, He, Hg⟩) (x := A) (show Keeps w2 _ from ku5) H3 H5 H8
 obtain ⟨w3, P1⟩ := jE (w7.setCell ⟨gB, J * 14 + 3, none⟩ (.slice a7 He Hg))
 rw [← P1] at Kw KG
 rw [← P1]
 obtain ⟨M1, QL, M2, QM⟩ := hid4 (MW.out.turn Kw jd jd jd jd) (QI.out.turn Kw jd) (KV.out.turn Kw jd) (QH.out.trans (Kw.mono (J := (fun i => i = 1 ∨ i = 6 ∨ i = 10 ∨ 16 ≤ i)) fun i h => Or.inr (Or.inr h)))
 obtain ⟨b1, Mw⟩ := jE ({ b0 with At := b0.At ++ [A] })
 have Kx : Hid (BlkS w0.heap.size c3 w3 (.slice (some ⟨gB, 0, none⟩) N1 Hr) (Ku.set J ⟨rF, rS, ⟨ca, cn, Hl⟩, ⟨a7, He, Hg⟩, ⟨lK, lD, lA, lB, lN, Hf⟩, rE, rT, rL, ⟨la, ln, lc⟩⟩) (C1.bs.set J b1)) := jH (by rw [Mw]; exact KG)
 have QN := jH Mw
 have PO : b1.Lines = b0.Lines := by rw [Mw]
 have QO := jH PO
 clear Kw KG P1 H3 H7 H5 H8 H9 g3 f3 l3 P0 Mw PO
 have Ky : Keeps w3 w3.drew := (Keeps.refl _).drew
 have H1 := (Kx.out.keep Ky).cellJ HJ.out (by rw [H4.out])
 have PP := (M1.out.keeps Ky).blk.1
 have g3 := jv w3.drew gB (J * 14 + 13) (.slice la ln lc) (H1.1 13 _ jd rfl)
 have q0 := jc w3.drew b5 0 A ((M2.out.keep Ky).1.cell rfl)
 have PQ : ln = b1.Lines.length := by obtain ⟨a', c', e⟩ := own_form' H1.2.2.2.2.2.1.2.2.1; injection e with e1 e2 e3
 have Mx := jH PQ
 have HV : ImgAt w3.drew (.agg #[v0, v1, v2, v3, v4, .int .i64 m.Entry]) m := M1.out.img.keep (M1.out.keep.trans Ky)
 obtain ⟨LV, P2⟩ := jE (lineAt m.Lines A m.Lines.length)
 have HH := lineAt_any _ m A _ HV
 rw [← P2] at HH
 obtain ⟨K5, QP⟩ := hid2 HH P2
 obtain ⟨PR, PS, PT, PU, PV, PW⟩ := PP.k6
 clear H1 PQ HV HH PP P2
 refine wp_region_head_tail (S := Cells [(gB, J * 14 + 13, .slice la ln lc), (b5, 0, .int .i64 A), (xb, 0, v0), (xb, 1, v1), (xb, 2, v2), (xb, 3, v3), (xb, 4, v4), (xb, 5, .int .i64 m.Entry)]) 13 0 (v := .pointer (some ⟨gB, J * 14, none⟩)) jx rfl jx jx jx jd (fun _ _ _ h => h) (Or.inl ⟨by rfl, fun w => by rfl⟩) jx jx jx jd jx ?hS6 (fun H0 => ?_)
 case hS6 => exact ⟨g3, q0, PR, PS, PT, PU, PV, PW, trivial⟩
 simp only [jU, jG]
 try simp only [Act.put, jS]
 refine jp 1 H0 ?_
 refine jp 2 H0 ?_
 refine jp 3 H0 ?_
 refine jp 4 H0 ?_
 refine jp 5 H0 ?_
 refine jp 6 H0 ?_
 refine jp 7 H0 ?_
 refine jp 8 H0 ?_
 refine jp 9 H0 ?_
 refine jp 10 H0 ?_
 refine readyC 11 ?_
 intro K' hK
 go_simp
 go_at_call 59
 refine K5.out.mono ?_
 rintro e wz ⟨rfl, Kh⟩
 refine goOn hK (H0.keep Kh) (fun hHeld2 => ?_)
 clear hK K' H0
 have H0 := hHeld2
 clear hHeld2 K5
 have HW := jH (Ky.trans Kh)
 clear Kh Ky PR PS PT PU PV PW g3 q0
 refine readyC 12 ?_
 intro K hK
 go_simp
 refine goOn hK (Cells.keep H0 ((Keeps.refl _).alloc _)) ?_
 clear hK K H0
 intro H0
 refine wpAnyH_done jx ?_ _
 dsimp only [TailQ]
 clear H0
 obtain ⟨Hh, M3⟩ := jE (ln + 1)
 have M0 := jH (show (b1.Lines ++ [LV]).length = Hh by rw [List.length_append, List.length_singleton, M3, Mx.out])
 have QQ : ln ≤ 200000 := by have := Mx.out; rw [QO.out] at this; omega
 clear M3
 go_upto_block 2 with (at_builtin; refine wpList_pushes jr (.tmp 98) (.tmp 106) 25 jr Tryd.underlying25 info_int jr jd (base := w0.heap.size) (f := ci) (l := b1.Lines) jr (by exact (Kx.out.keep (HW.out.trans (by repeat (with_reducible (first | assumption | exact Keeps.refl _ | refine Keeps.alloc ?_ _ | refine Keeps.drew ?_)))) |>.cellJ HJ.out (by rw [H4.out])).2.2.2.2.2.1.2.2.1) [LV] _ _ jr jt ci_len ci_one (by simp only [jL, ← Mx.out]; omega) (by simp only [jL, ← Mx.out]; unfold maxLen; omega) (by have := M1.out.keep.size; have := HW.out.size; first | omega | (simp only [sz_alloc]; omega)) ?_; intro v7 w7 H3 H7 H5 H8; obtain ⟨a9, Hi, e7⟩ := own_form' H3; rw [M0.out] at e7; subst e7; have H9 := Kx.out.stay rfl (HW.out.trans ku5) H5 (fun b e => by have := (Kx.out.cellJ HJ.out (by rw [H4.out])).2.2.2.2.2.1.2.2.2 b e; omega); have g3 := H9.1 _ _ ((Kx.out.cellJ HJ.out (by rw [H4.out])).1 13 _ jd rfl); have f3 := H9.2.1 (J * 14 + 13); have l3 := H9.2.2)
 obtain ⟨c4, Hw, KS⟩ := Kx.out.pushLn' HJ.out (by rw [H4.out]) (s7 := ⟨a9, Hh, Hi⟩) (x := LV) (HW.out.trans ku5) H3 H5 H8
 obtain ⟨w4, P3⟩ := jE (w7.setCell ⟨gB, J * 14 + 13, none⟩ (.slice a9 Hh Hi))
 rw [← P3] at Hw KS
 rw [← P3]
 obtain ⟨HE, KR, Hu, KQ⟩ := hid4 (M1.out.turn Hw jd jd jd jd) (QL.out.turn Hw jd) (M2.out.turn Hw jd) (QM.out.trans (Hw.mono (J := (fun i => i = 1 ∨ i = 6 ∨ i = 10 ∨ 16 ≤ i)) fun i h => Or.inr (Or.inr h)))
 obtain ⟨b2, P4⟩ := jE ({ b1 with Lines := b1.Lines ++ [LV] })
 have Hy : Hid (BlkS w0.heap.size c4 w4 (.slice (some ⟨gB, 0, none⟩) N1 Hr) (Ku.set J ⟨rF, rS, ⟨ca, cn, Hl⟩, ⟨a7, He, Hg⟩, ⟨lK, lD, lA, lB, lN, Hf⟩, rE, rT, rL, ⟨a9, Hh, Hi⟩⟩) (C1.bs.set J b2)) := jH (by rw [P4]; exact KS)
 have Hv : Hid (b2 = { b0 with At := b0.At ++ [A], Lines := b0.Lines ++ [lineAt m.Lines A m.Lines.length] }) := jH (by rw [P4, QN.out, QP.out])
 clear Hw KS P3 H3 H7 H5 H8 H9 g3 f3 l3 P4
 have H1 := Hy.out.cellJ HJ.out (by rw [H4.out])
 have Ha := Hu.out.1
 have HI : Cells [(b5, 0, .int .i64 A), (b5, 1, .int .i64 Z), (b5, 2, .int .i64 K), (b5, 3, .int .i64 D), (b5, 4, .int .i64 A2), (b5, 5, .int .i64 B), (b5, 6, .int .i64 N), (b5, 7, .bool Lg)] w4 := ⟨Ha.cell rfl, Ha.cell rfl, Ha.cell rfl, Ha.cell rfl, Ha.cell rfl, Ha.cell rfl, Ha.cell rfl, Ha.cell rfl, trivial⟩
 have QR : ¬ b5 = gB := fun e => by have h1 := Hu.out.2; have h2 := H1.2.2.2.2.1; rw [e] at h1; omega
 have Hc : ¬ gB = b5 := fun e => QR e.symm
 have QS : ¬ xb = gB := fun e => by have h1 := HE.out.blk.2; have h2 := H1.2.2.2.2.1; rw [e] at h1; omega
 have QT : ¬ gB = xb := fun e => QS e.symm
 obtain ⟨My, HP, Hm⟩ := hid3 HI (fun W' => branch_any K D A2 B N Lg W') (fun W' => stops_any K D A2 B N Lg W')
 unfold insV at HP Hm
 have wTo : IntKind.i64.wrap (A + N) = A + N := jw
 have wNx : IntKind.i64.wrap (A + Z) = A + Z := jw
 clear H1 Ha HI
 have M4 := My.out
 simp only [Cells] at M4
 obtain ⟨p0, p1, p2, p3, p4, p5, p6, p7, -⟩ := M4
 have P5 := lt_of_cell p0
 by_cases hbr : brN K = true
 case pos =>
  rw [hbr] at HP
  have Hb : pbS m ⟨A, Z, ⟨K, D, A2, B, N, Lg⟩⟩ b0 = { b2 with Ends := 4, Last := ⟨K, 0, A2, B, 0, false⟩, To := A + N, Else := A + Z } := by unfold pbS; rw [if_pos hbr, Hv.out]
  have H6 := jH Hb
  clear Hb hbr Hm
  go_upto_region 15 with (go_at_call 54; refine (HP.out _).mono ?_; rintro e wa ⟨rfl, Hk⟩; have HI := My.out.keep Hk; simp only [Cells] at HI; obtain ⟨q0, q1, q2, q3, q4, q5, q6, q7, -⟩ := HI; have Ki := lt_of_cell q0; have H1 := (Hy.out.keep Hk).cellJ HJ.out (by rw [H4.out]); have e4 := H1.1 4 _ jd rfl; have e5 := H1.1 5 _ jd rfl; have e6 := H1.1 6 _ jd rfl; have e7 := H1.1 7 _ jd rfl; have e8 := H1.1 8 _ jd rfl; have e9 := H1.1 9 _ jd rfl; have Kz := H1.1 10 _ jd rfl; have KA := H1.1 11 _ jd rfl; have M5 := H1.1 12 _ jd rfl; have f4 := H1.2.1 (J * 14 + 4); have f5 := H1.2.1 (J * 14 + 5); have f6 := H1.2.1 (J * 14 + 6); have f7 := H1.2.1 (J * 14 + 7); have f8 := H1.2.1 (J * 14 + 8); have f9 := H1.2.1 (J * 14 + 9); have K1 := H1.2.1 (J * 14 + 10); have KB := H1.2.1 (J * 14 + 11); have Kb := H1.2.1 (J * 14 + 12); have K6 := H1.2.2.1; have H2 := H1.2.2.2.2.2.2; clear H1)
  have Hz : Keeps w4 wa.drew := Hk.trans (Keeps.refl _).drew
  obtain ⟨Mz, P6⟩ := (Hy.out.keep Hz).put' HJ.out (by rw [H4.out]) 10 jd (.int .i64 4) ⟨rF, rS, ⟨ca, cn, Hl⟩, ⟨a7, He, Hg⟩, ⟨lK, lD, lA, lB, lN, Hf⟩, 4, rT, rL, ⟨a9, Hh, Hi⟩⟩ { b2 with Ends := 4 } rfl ⟨H2.1, H2.2.1, H2.2.2.1, rfl, H2.2.2.2.2.1, H2.2.2.2.2.2⟩ rfl rfl rfl rfl rfl rfl
  obtain ⟨PX, Kj⟩ := jE (wa.drew.setCell ⟨gB, J * 14 + 10, none⟩ (.int .i64 4))
  rw [← Kj] at Mz P6
  obtain ⟨PY, PZ⟩ := (Mz).put' HJ.out (by rw [H4.out]) 4 jd (.int .i64 (K)) ⟨rF, rS, ⟨ca, cn, Hl⟩, ⟨a7, He, Hg⟩, ⟨K, lD, lA, lB, lN, Hf⟩, 4, rT, rL, ⟨a9, Hh, Hi⟩⟩ { b2 with Ends := 4, Last := ⟨K, lD, lA, lB, lN, Hf⟩ } rfl ⟨H2.1, H2.2.1, rfl, rfl, H2.2.2.2.2.1, H2.2.2.2.2.2⟩ rfl rfl rfl rfl rfl rfl
  obtain ⟨Q0, Q1⟩ := (PY).put' HJ.out (by rw [H4.out]) 5 jd (.int .i64 0) ⟨rF, rS, ⟨ca, cn, Hl⟩, ⟨a7, He, Hg⟩, ⟨K, 0, lA, lB, lN, Hf⟩, 4, rT, rL, ⟨a9, Hh, Hi⟩⟩ { b2 with Ends := 4, Last := ⟨K, 0, lA, lB, lN, Hf⟩ } rfl ⟨H2.1, H2.2.1, rfl, rfl, H2.2.2.2.2.1, H2.2.2.2.2.2⟩ rfl rfl rfl rfl rfl rfl
  obtain ⟨Q2, Q3⟩ := (Q0).put' HJ.out (by rw [H4.out]) 6 jd (.int .i64 (A2)) ⟨rF, rS, ⟨ca, cn, Hl⟩, ⟨a7, He, Hg⟩, ⟨K, 0, A2, lB, lN, Hf⟩, 4, rT, rL, ⟨a9, Hh, Hi⟩⟩ { b2 with Ends := 4, Last := ⟨K, 0, A2, lB, lN, Hf⟩ } rfl ⟨H2.1, H2.2.1, rfl, rfl, H2.2.2.2.2.1, H2.2.2.2.2.2⟩ rfl rfl rfl rfl rfl rfl
  obtain ⟨Q4, Q5⟩ := (Q2).put' HJ.out (by rw [H4.out]) 7 jd (.int .i64 (B)) ⟨rF, rS, ⟨ca, cn, Hl⟩, ⟨a7, He, Hg⟩, ⟨K, 0, A2, B, lN, Hf⟩, 4, rT, rL, ⟨a9, Hh, Hi⟩⟩ { b2 with Ends := 4, Last := ⟨K, 0, A2, B, lN, Hf⟩ } rfl ⟨H2.1, H2.2.1, rfl, rfl, H2.2.2.2.2.1, H2.2.2.2.2.2⟩ rfl rfl rfl rfl rfl rfl
  obtain ⟨Q6, Q7⟩ := (Q4).put' HJ.out (by rw [H4.out]) 8 jd (.int .i64 0) ⟨rF, rS, ⟨ca, cn, Hl⟩, ⟨a7, He, Hg⟩, ⟨K, 0, A2, B, 0, Hf⟩, 4, rT, rL, ⟨a9, Hh, Hi⟩⟩ { b2 with Ends := 4, Last := ⟨K, 0, A2, B, 0, Hf⟩ } rfl ⟨H2.1, H2.2.1, rfl, rfl, H2.2.2.2.2.1, H2.2.2.2.2.2⟩ rfl rfl rfl rfl rfl rfl
  obtain ⟨P7, Q8⟩ := (Q6).put' HJ.out (by rw [H4.out]) 9 jd (.bool false) ⟨rF, rS, ⟨ca, cn, Hl⟩, ⟨a7, He, Hg⟩, ⟨K, 0, A2, B, 0, false⟩, 4, rT, rL, ⟨a9, Hh, Hi⟩⟩ { b2 with Ends := 4, Last := ⟨K, 0, A2, B, 0, false⟩ } rfl ⟨H2.1, H2.2.1, rfl, rfl, H2.2.2.2.2.1, H2.2.2.2.2.2⟩ rfl rfl rfl rfl rfl rfl
  have KC := P6.trans ((((((PZ).trans Q1).trans Q3).trans Q5).trans Q7).trans Q8)
  obtain ⟨M6, M7⟩ := hid2 Mz Kj
  clear Kj
  clear p0 p1 p2 p3 p4 p5 p6 p7 P5
  obtain ⟨w5, Kk⟩ := jE (((((((PX.setCell ⟨gB, J * 14 + 4, none⟩ (.int .i64 K)).setCell ⟨gB, J * 14 + 5, none⟩ (.int .i64 0)).setCell ⟨gB, J * 14 + 6, none⟩ (.int .i64 A2)).setCell ⟨gB, J * 14 + 7, none⟩ (.int .i64 B)).setCell ⟨gB, J * 14 + 8, none⟩ (.int .i64 0)).setCell ⟨gB, J * 14 + 9, none⟩ (.bool false)))
  rw [← Kk] at P7 KC
  have M8 := jH P7
  have HG := (HE.out.keeps Hz).turn KC jd jd jd jd
  have M9 := (KR.out.keep Hz).turn KC jd
  have Hd := (Hu.out.keep Hz).turn KC jd
  have Ma := (KQ.out.keep Hz).trans (KC.mono (J := (fun i => i = 1 ∨ i = 6 ∨ i = 10 ∨ 16 ≤ i)) fun i h => Or.inr (Or.inr h))
  have HK : Keeps w5 w5.drew := (Keeps.refl _).drew
  have H1 := (M8.out.keep HK).cellJ HJ.out (by rw [H4.out])
  have Mb := jc w5 gB (J * 14 + 11) rT (H1.1 11 _ jd rfl)
  have P8 := jc w5 gB (J * 14 + 12) rL (H1.1 12 _ jd rfl)
  have Mc : w5.frozen? ⟨gB, J * 14 + 11, none⟩ = false := H1.2.1 (J * 14 + 11)
  have P9 : w5.frozen? ⟨gB, J * 14 + 12, none⟩ = false := H1.2.1 (J * 14 + 12)
  have Md : gB < w5.heap.size := H1.2.2.1
  obtain ⟨HY, HA⟩ := (M8.out.keep HK).put' HJ.out (by rw [H4.out]) 11 jd (.int .i64 (A + N)) ⟨rF, rS, ⟨ca, cn, Hl⟩, ⟨a7, He, Hg⟩, ⟨K, 0, A2, B, 0, false⟩, 4, A + N, rL, ⟨a9, Hh, Hi⟩⟩ { b2 with Ends := 4, Last := ⟨K, 0, A2, B, 0, false⟩, To := A + N } rfl ⟨H2.1, H2.2.1, rfl, rfl, rfl, H2.2.2.2.2.2⟩ rfl rfl rfl rfl rfl rfl
  obtain ⟨Me, Mf⟩ := (HY).put' HJ.out (by rw [H4.out]) 12 jd (.int .i64 (A + Z)) ⟨rF, rS, ⟨ca, cn, Hl⟩, ⟨a7, He, Hg⟩, ⟨K, 0, A2, B, 0, false⟩, 4, A + N, A + Z, ⟨a9, Hh, Hi⟩⟩ { b2 with Ends := 4, Last := ⟨K, 0, A2, B, 0, false⟩, To := A + N, Else := A + Z } rfl ⟨H2.1, H2.2.1, rfl, rfl, rfl, rfl⟩ rfl rfl rfl rfl rfl rfl
  have Hp := (HA).trans Mf
  obtain ⟨K2, K4, K3, K7⟩ := hid4 ((HG.keeps HK).turn Hp jd jd jd jd) ((M9.keep HK).turn Hp jd) ((Ma.keep HK).trans (Hp.mono (J := (fun i => i = 1 ∨ i = 6 ∨ i = 10 ∨ 16 ≤ i)) fun i h => Or.inr (Or.inr h))) Me
  obtain ⟨Q9, Pa, Pb, Pc⟩ := hid4 (show Cells [(b5, 0, .int .i64 A), (b5, 1, .int .i64 Z), (b5, 6, .int .i64 N)] w5.drew from ⟨Hd.1.cell rfl, Hd.1.cell rfl, Hd.1.cell rfl, trivial⟩) Mb P8 Mc
  obtain ⟨Pd, Pe, Qa⟩ := hid3 P9 Md Kk
  clear Kk KC HG M9 Ma H1 Hp HK Hd Hk H2 Mz P6 PY PZ Q0 Q1 Q2 Q3 Q4 Q5 Q6 Q7 P7 Q8 HY Me HA Mf Mb P8 Mc P9 Md Hz
  refine wp_region_held_drew (S := Cells [(b5, 0, .int .i64 A), (b5, 1, .int .i64 Z), (b5, 2, .int .i64 K), (b5, 3, .int .i64 D), (b5, 4, .int .i64 A2), (b5, 5, .int .i64 B), (b5, 6, .int .i64 N), (b5, 7, .bool Lg)]) jx ⟨q0, q1, q2, q3, q4, q5, q6, q7, trivial⟩ (fun H0 => ?_)
  clear q0 q1 q2 q3 q4 q5 q6 q7
  refine jp 0 H0 ?_
  refine jp 1 H0 ?_
  refine jp 2 H0 ?_
  refine jp 3 H0 ?_
  refine jp 4 H0 ?_
  refine jp 5 H0 ?_
  refine jp 6 H0 ?_
  refine jp 7 H0 ?_
  refine jp 8 H0 ?_
  refine jp 9 H0 ?_
  refine jp 10 H0 ?_
  refine jp 11 H0 ?_
  refine jp 12 H0 ?_
  refine jp 13 H0 ?_
  refine readyC 14 ?_
  intro K' hK
  go_simp
  refine goOn hK (by first | (refine Cells.keep ?_ ((Keeps.refl _).drew); (repeat refine Cells.set ?_ (by simp [Hc])); exact H0) | ((repeat refine Cells.set ?_ (by simp [Hc])); exact H0)) ?_
  clear hK K' H0
  intro H0
  rw [show ((wa.setCell ⟨gB, J * 14 + 10, none⟩ (.int .i64 4)).drew) = PX from M7.out.symm] at H0 ⊢
  clear e4 e5 e6 e7 e8 e9 Kz KA M5 f4 f5 f6 f7 f8 f9 K1 KB Kb K6 Ki
  have H1 := M6.out.cellJ HJ.out (by rw [H4.out])
  have e4 := H1.1 4 _ jd rfl
  have e5 := H1.1 5 _ jd rfl
  have e6 := H1.1 6 _ jd rfl
  have e7 := H1.1 7 _ jd rfl
  have e8 := H1.1 8 _ jd rfl
  have e9 := H1.1 9 _ jd rfl
  have f4 := H1.2.1 (J * 14 + 4)
  have f5 := H1.2.1 (J * 14 + 5)
  have f6 := H1.2.1 (J * 14 + 6)
  have f7 := H1.2.1 (J * 14 + 7)
  have f8 := H1.2.1 (J * 14 + 8)
  have f9 := H1.2.1 (J * 14 + 9)
  have K6 := H1.2.2.1
  clear H1 M7 M6
  refine jp 15 H0 ?_
  refine jp 16 H0 ?_
  refine readyC 17 ?_
  intro K' hK
  go_simp
  refine goOn hK (by (repeat refine Cells.set ?_ (by simp [Hc])); exact H0) ?_
  clear hK K' H0
  intro H0
  refine wpAnyH_done jx ?_ _
  clear H0 e4 e5 e6 e7 e8 e9 f4 f5 f6 f7 f8 f9 K6
  rw [← Qa.out]
  clear Qa
  have Mb := Pa.out
  have P8 := Pb.out
  have Mc := Pc.out
  have P9 := Pd.out
  have Md := Pe.out
  go_upto_region 16 with fail
  refine wp_region_held_drew (S := Cells [(b5, 0, .int .i64 A), (b5, 1, .int .i64 Z), (b5, 6, .int .i64 N)]) jx Q9.out (fun H0 => ?_)
  refine jp 0 H0 ?_
  refine jp 1 H0 ?_
  refine jp 2 H0 ?_
  refine jp 3 H0 ?_
  refine jp 4 H0 ?_
  refine jp 5 H0 ?_
  refine jp 6 H0 ?_
  refine jp 7 H0 ?_
  refine jp 8 H0 ?_
  refine jp 9 H0 ?_
  refine jp 10 H0 ?_
  refine jp 11 H0 ?_
  refine jp 12 H0 ?_
  refine jp 13 H0 ?_
  refine jp 14 H0 ?_
  refine readyC 15 ?_
  intro K' hK
  go_simp
  refine goOn hK (by first | (refine Cells.keep ?_ ((Keeps.refl _).drew); (repeat refine Cells.set ?_ (by simp [Hc])); exact H0) | ((repeat refine Cells.set ?_ (by simp [Hc])); exact H0)) ?_
  clear hK K' H0
  intro H0
  refine jp 16 H0 ?_
  refine jp 17 H0 ?_
  have H0 := Q9.out
  refine readyC 18 ?_
  intro K' hK
  go_simp
  refine goOn hK (by first | (refine Cells.keep ?_ ((Keeps.refl _).drew); (repeat refine Cells.set ?_ (by simp [Hc])); exact H0) | ((repeat refine Cells.set ?_ (by simp [Hc])); exact H0)) ?_
  clear hK K' H0
  intro H0
  refine wpAnyH_done jx ?_ _
  clear H0
  go_wp2_with fail
  have Hn := K7.out
  rw [← H6.out] at Hn
  have Kl := jH Hn
  clear Hn
  go_roundw
  case rel =>
   refine ⟨k + 1, _, _, _, ⟨C1.bs.set J (pbS m ⟨A, Z, ⟨K, D, A2, B, N, Lg⟩⟩ b0), C1.bm⟩, by omega, by go_num, jH (by rw [Ho.out, HU.out]), jH ?_, jH (fun _ => by dsimp only; rw [List.length_set]; exact Hs.out), K3, K2, Kl, jH (MapC.mono K4.out jo)⟩
   refine CutSm.last Ht.out (by have := HJ.out; omega) ?_ ?_ ?_ <;> (rw [H6.out, Hv.out, ← Mu.out]; simp)
  case measure => exact jm
 case neg =>
 have Km : brN K = false := by simpa using hbr
 rw [Km] at HP
 by_cases h22 : K = 22
 case pos =>
  have QU : (K == 22) = true := by simpa using h22
  have Hb : pbS m ⟨A, Z, ⟨K, D, A2, B, N, Lg⟩⟩ b0 = { b2 with Ends := 3, To := A + N } := by unfold pbS; rw [if_neg hbr, if_pos h22, Hv.out]
  have H6 := jH Hb
  clear Hb hbr Km h22 Hm
  go_upto_region 18 with (go_at_call 54; refine (HP.out _).mono ?_; rintro e wa ⟨rfl, Hk⟩; have HI := My.out.keep Hk; simp only [Cells] at HI; obtain ⟨q0, q1, q2, q3, q4, q5, q6, q7, -⟩ := HI; have Ki := lt_of_cell q0; have H1 := (Hy.out.keep Hk).cellJ HJ.out (by rw [H4.out]); have e4 := H1.1 4 _ jd rfl; have e5 := H1.1 5 _ jd rfl; have e6 := H1.1 6 _ jd rfl; have e7 := H1.1 7 _ jd rfl; have e8 := H1.1 8 _ jd rfl; have e9 := H1.1 9 _ jd rfl; have Kz := H1.1 10 _ jd rfl; have KA := H1.1 11 _ jd rfl; have M5 := H1.1 12 _ jd rfl; have f4 := H1.2.1 (J * 14 + 4); have f5 := H1.2.1 (J * 14 + 5); have f6 := H1.2.1 (J * 14 + 6); have f7 := H1.2.1 (J * 14 + 7); have f8 := H1.2.1 (J * 14 + 8); have f9 := H1.2.1 (J * 14 + 9); have K1 := H1.2.1 (J * 14 + 10); have KB := H1.2.1 (J * 14 + 11); have Kb := H1.2.1 (J * 14 + 12); have K6 := H1.2.2.1; have H2 := H1.2.2.2.2.2.2; clear H1)
  have Hz : Keeps w4 wa.drew := Hk.trans (Keeps.refl _).drew
  clear p0 p1 p2 p3 p4 p5 p6 p7 P5
  obtain ⟨HY, HA⟩ := (Hy.out.keep Hz).put' HJ.out (by rw [H4.out]) 10 jd (.int .i64 3) ⟨rF, rS, ⟨ca, cn, Hl⟩, ⟨a7, He, Hg⟩, ⟨lK, lD, lA, lB, lN, Hf⟩, 3, rT, rL, ⟨a9, Hh, Hi⟩⟩ { b2 with Ends := 3 } rfl ⟨H2.1, H2.2.1, H2.2.2.1, rfl, H2.2.2.2.2.1, H2.2.2.2.2.2⟩ rfl rfl rfl rfl rfl rfl
  obtain ⟨Me, Mf⟩ := (HY).put' HJ.out (by rw [H4.out]) 11 jd (.int .i64 (A + N)) ⟨rF, rS, ⟨ca, cn, Hl⟩, ⟨a7, He, Hg⟩, ⟨lK, lD, lA, lB, lN, Hf⟩, 3, A + N, rL, ⟨a9, Hh, Hi⟩⟩ { b2 with Ends := 3, To := A + N } rfl ⟨H2.1, H2.2.1, H2.2.2.1, rfl, rfl, H2.2.2.2.2.2⟩ rfl rfl rfl rfl rfl rfl
  have Hp := (HA).trans Mf
  obtain ⟨K2, K4, K3, K7⟩ := hid4 ((HE.out.keeps Hz).turn Hp jd jd jd jd) ((KR.out.keep Hz).turn Hp jd) ((KQ.out.keep Hz).trans (Hp.mono (J := (fun i => i = 1 ∨ i = 6 ∨ i = 10 ∨ 16 ≤ i)) fun i h => Or.inr (Or.inr h))) Me
  clear Hp Hz HY Me HA Mf Hk H2 e4 e5 e6 e7 e8 e9 M5 f4 f5 f6 f7 f8 f9 Kb q1 q2 q3 q4 q5 q7
  have Pf := jH (show Cells [(b5, 0, .int .i64 A), (b5, 6, .int .i64 N)] wa.drew from ⟨q0, q6, trivial⟩)
  refine wp_region_held_drew (S := Cells [(b5, 0, .int .i64 A), (b5, 6, .int .i64 N)]) jx ⟨q0, q6, trivial⟩ (fun H0 => ?_)
  clear q0 q6
  refine jp 0 H0 ?_
  refine jp 1 H0 ?_
  refine jp 2 H0 ?_
  refine jp 3 H0 ?_
  refine jp 4 H0 ?_
  refine jp 5 H0 ?_
  refine jp 6 H0 ?_
  refine jp 7 H0 ?_
  refine jp 8 H0 ?_
  refine jp 9 H0 ?_
  refine readyC 10 ?_
  intro K' hK
  go_simp
  refine goOn hK (by first | (refine Cells.keep ?_ ((Keeps.refl _).drew); (repeat refine Cells.set ?_ (by simp [Hc])); exact H0) | ((repeat refine Cells.set ?_ (by simp [Hc])); exact H0)) ?_
  clear hK K' H0
  intro H0
  refine jp 11 H0 ?_
  refine jp 12 H0 ?_
  have H0 := Pf.out
  refine readyC 13 ?_
  intro K' hK
  go_simp
  refine goOn hK (by first | (refine Cells.keep ?_ ((Keeps.refl _).drew); (repeat refine Cells.set ?_ (by simp [Hc])); exact H0) | ((repeat refine Cells.set ?_ (by simp [Hc])); exact H0)) ?_
  clear hK K' H0
  intro H0
  refine wpAnyH_done jx ?_ _
  clear H0
  go_wp2_with fail
  have Hn := K7.out
  rw [← H6.out] at Hn
  have Kl := jH Hn
  clear Hn
  go_roundw
  case rel =>
   refine ⟨k + 1, _, _, _, ⟨C1.bs.set J (pbS m ⟨A, Z, ⟨K, D, A2, B, N, Lg⟩⟩ b0), C1.bm⟩, by omega, by go_num, jH (by rw [Ho.out, HU.out]), jH ?_, jH (fun _ => by dsimp only; rw [List.length_set]; exact Hs.out), K3, K2, Kl, jH (MapC.mono K4.out jo)⟩
   refine CutSm.last Ht.out (by have := HJ.out; omega) ?_ ?_ ?_ <;> (rw [H6.out, Hv.out, ← Mu.out]; simp)
  case measure => exact jm
 case neg =>
 have QU : (K == 22) = false := by simpa using h22
 have HV := HE.out.img
 obtain ⟨z0, z1, z2, z3, z4, hz, -, Qb, -⟩ := HV
 injection hz with hz
 simp only [Array.mk.injEq, List.cons.injEq, and_true] at hz
 obtain ⟨rfl, rfl, rfl, rfl, rfl⟩ := hz
 obtain ⟨⟨pK, pD, pA, pB, pN, Kn⟩, MA⟩ : ∃ i, i = plainI m ⟨A, Z, ⟨K, D, A2, B, N, Lg⟩⟩ := ⟨_, rfl⟩
 have Qc : ∀ W', Keeps w4 W' → Calls Tryd.prog 60 #[.pointer (some ⟨xb, 0, none⟩), .agg #[.int .i64 A, .int .i64 Z, .int .i64 K, .int .i64 D, .int .i64 A2, .int .i64 B, .int .i64 N, .bool Lg]] W' fun e w' => e = .returned (.agg #[.int .i64 pK, .int .i64 pD, .int .i64 pA, .int .i64 pB, .int .i64 pN, .bool Kn]) ∧ Keeps W' w' := fun W' hk' => by have QV : W'.cell? ⟨xb, 1, none⟩ = some v1 := hk'.cell (HE.out.blk.1.cell rfl); have q := plain_any (m := m) (s := ⟨A, Z, ⟨K, D, A2, B, N, Lg⟩⟩) QV (Arr.keep Qb (HE.out.keep.trans hk')) MK.out; rw [← MA] at q; exact q
 obtain ⟨Qd, HPI⟩ := hid2 Qc MA
 have Hb : pbS m ⟨A, Z, ⟨K, D, A2, B, N, Lg⟩⟩ b0 = if stN K = true then { b2 with Code := b2.Code ++ [⟨pK, pD, pA, pB, pN, Kn⟩], Ends := 1, To := 0 } else { b2 with Code := b2.Code ++ [⟨pK, pD, pA, pB, pN, Kn⟩], To := A + Z } := by unfold pbS; rw [if_neg hbr, if_neg h22, MA, Hv.out]
 have HN := jH Hb
 clear Qc MA Hb hbr Km h22 Qb
 go_upto_region 10 with (go_at_call 54; refine (HP.out _).mono ?_; rintro e wa ⟨rfl, Hk⟩; have HI := My.out.keep Hk; simp only [Cells] at HI; obtain ⟨q0, q1, q2, q3, q4, q5, q6, q7, -⟩ := HI; have Ki := lt_of_cell q0; have H1 := (Hy.out.keep Hk).cellJ HJ.out (by rw [H4.out]); have e4 := H1.1 4 _ jd rfl; have e5 := H1.1 5 _ jd rfl; have e6 := H1.1 6 _ jd rfl; have e7 := H1.1 7 _ jd rfl; have e8 := H1.1 8 _ jd rfl; have e9 := H1.1 9 _ jd rfl; have Kz := H1.1 10 _ jd rfl; have KA := H1.1 11 _ jd rfl; have M5 := H1.1 12 _ jd rfl; have f4 := H1.2.1 (J * 14 + 4); have f5 := H1.2.1 (J * 14 + 5); have f6 := H1.2.1 (J * 14 + 6); have f7 := H1.2.1 (J * 14 + 7); have f8 := H1.2.1 (J * 14 + 8); have f9 := H1.2.1 (J * 14 + 9); have K1 := H1.2.1 (J * 14 + 10); have KB := H1.2.1 (J * 14 + 11); have Kb := H1.2.1 (J * 14 + 12); have K6 := H1.2.2.1; have H2 := H1.2.2.2.2.2.2; clear H1)
 have HK : Keeps wa wa.drew := (Keeps.refl _).drew
 clear p0 p1 p2 p3 p4 p5 p6 p7 P5
 have H1 := (Hy.out.keep (Hk.trans HK)).cellJ HJ.out (by rw [H4.out])
 have g2 := jv wa.drew gB (J * 14 + 2) (.slice ca cn Hl) (H1.1 2 _ jd rfl)
 have Qe : cn = b2.Code.length := by obtain ⟨a', c', e⟩ := own_form' H1.2.2.2.2.2.1.1.1; injection e with e1 e2 e3
 obtain ⟨MB, QW⟩ := hid2 Qe (show b2.Code = b0.Code by rw [Hv.out])
 clear H1 Qe e4 e5 e6 e7 e8 e9 Kz KA M5 f4 f5 f6 f7 f8 f9 K1 KB Kb K6 Ki H2
 refine wp_region_head_tail (S := Cells [(gB, J * 14 + 2, .slice ca cn Hl), (b5, 0, .int .i64 A), (b5, 1, .int .i64 Z), (b5, 2, .int .i64 K), (b5, 3, .int .i64 D), (b5, 4, .int .i64 A2), (b5, 5, .int .i64 B), (b5, 6, .int .i64 N), (b5, 7, .bool Lg)]) 9 0 (v := .pointer (some ⟨gB, J * 14, none⟩)) jx rfl jx jx jx jd (fun _ _ _ h => h) (Or.inl ⟨by rfl, fun w => by rfl⟩) jx jx jx jd jx ?hS7 (fun H0 => ?_)
 case hS7 => exact ⟨g2, q0, q1, q2, q3, q4, q5, q6, q7, trivial⟩
 simp only [jU, jG]
 try simp only [Act.put, jS]
 refine jp 1 H0 ?_
 refine jp 2 H0 ?_
 refine jp 3 H0 ?_
 refine jp 4 H0 ?_
 refine jp 5 H0 ?_
 refine jp 6 H0 ?_
 refine readyC 7 ?_
 intro K' hK
 go_simp
 go_at_call 60
 refine (Qd.out _ (Hk.trans HK)).mono ?_
 rintro e wz ⟨rfl, Kh⟩
 refine goOn hK (H0.keep Kh) (fun hHeld2 => ?_)
 clear hK K' H0
 have H0 := hHeld2
 clear hHeld2 Qd
 have HW := jH ((Hk.trans HK).trans Kh)
 clear Kh HK Hk g2 q0 q1 q2 q3 q4 q5 q6 q7
 refine readyC 8 ?_
 intro K hK
 go_simp
 refine goOn hK (Cells.keep H0 ((Keeps.refl _).alloc _)) ?_
 clear hK K H0
 intro H0
 refine wpAnyH_done jx ?_ _
 dsimp only [TailQ]
 clear H0
 obtain ⟨Ko, Mg⟩ := jE (cn + 1)
 have M0 := jH (show (b2.Code ++ [(⟨pK, pD, pA, pB, pN, Kn⟩ : Ic)]).length = Ko by rw [List.length_append, List.length_singleton, Mg, MB.out])
 have QX : cn ≤ 200000 := by have := MB.out; rw [QW.out] at this; omega
 clear Mg
 go_upto_region 11 with (at_builtin; refine wpList_pushes jr (.tmp 114) (.tmp 118) 90 jr Tryd.underlying90 info_instr jr jd (base := w0.heap.size) (f := cic) (l := b2.Code) jr (by exact (Hy.out.keep (HW.out.trans (by repeat (with_reducible (first | assumption | exact Keeps.refl _ | refine Keeps.alloc ?_ _ | refine Keeps.drew ?_)))) |>.cellJ HJ.out (by rw [H4.out])).2.2.2.2.2.1.1.1) [⟨pK, pD, pA, pB, pN, Kn⟩] _ _ jr jt cic_len cic_one (by simp only [jL, ← MB.out]; omega) (by simp only [jL, ← MB.out]; unfold maxLen; omega) (by have := HE.out.keep.size; have := HW.out.size; first | omega | (simp only [sz_alloc]; omega)) ?_; intro v7 w7 H3 H7 H5 H8; obtain ⟨a8, KD, e7⟩ := own_form' H3; rw [M0.out] at e7; subst e7; have H9 := Hy.out.stay rfl (HW.out.trans ku5) H5 (fun b e => by have := (Hy.out.cellJ HJ.out (by rw [H4.out])).2.2.2.2.2.1.1.2 b e; omega); have g2 := H9.1 _ _ ((Hy.out.cellJ HJ.out (by rw [H4.out])).1 2 _ jd rfl); have f2 := H9.2.1 (J * 14 + 2); have l2 := H9.2.2)
 obtain ⟨c5, Hx, KY⟩ := Hy.out.pushCode' HJ.out (by rw [H4.out]) (s7 := ⟨a8, Ko, KD⟩) (x := ⟨pK, pD, pA, pB, pN, Kn⟩) (HW.out.trans ku5) H3 H5 H8
 obtain ⟨w5, Kk⟩ := jE (w7.setCell ⟨gB, J * 14 + 2, none⟩ (.slice a8 Ko KD))
 rw [← Kk] at Hx KY
 rw [← Kk]
 obtain ⟨b3, Pg⟩ := jE ({ b2 with Code := b2.Code ++ [(⟨pK, pD, pA, pB, pN, Kn⟩ : Ic)] })
 have M8 : Hid (BlkS w0.heap.size c5 w5 (.slice (some ⟨gB, 0, none⟩) N1 Hr) (Ku.set J ⟨rF, rS, ⟨a8, Ko, KD⟩, ⟨a7, He, Hg⟩, ⟨lK, lD, lA, lB, lN, Hf⟩, rE, rT, rL, ⟨a9, Hh, Hi⟩⟩) (C1.bs.set J b3)) := jH (by rw [Pg]; exact KY)
 have MC := jH Pg
 have HG := HE.out.turn Hx jd jd jd jd
 have M9 := KR.out.turn Hx jd
 have Hd := Hu.out.turn Hx jd
 have Ma := KQ.out.trans (Hx.mono (J := (fun i => i = 1 ∨ i = 6 ∨ i = 10 ∨ 16 ≤ i)) fun i h => Or.inr (Or.inr h))
 have H1 := M8.out.cellJ HJ.out (by rw [H4.out])
 have Mb := H1.1 11 _ jd rfl
 have Mc := H1.2.1 (J * 14 + 11)
 have Md := H1.2.2.1
 have H2 := H1.2.2.2.2.2.2
 have q0 := jc w5 b5 0 A (Hd.1.cell rfl)
 have q1 := jc w5 b5 1 Z (Hd.1.cell rfl)
 have Ki := Hd.1.lt
 obtain ⟨HY, HA⟩ := (M8.out).put' HJ.out (by rw [H4.out]) 11 jd (.int .i64 (A + Z)) ⟨rF, rS, ⟨a8, Ko, KD⟩, ⟨a7, He, Hg⟩, ⟨lK, lD, lA, lB, lN, Hf⟩, rE, A + Z, rL, ⟨a9, Hh, Hi⟩⟩ { b3 with To := A + Z } rfl ⟨H2.1, H2.2.1, H2.2.2.1, H2.2.2.2.1, rfl, H2.2.2.2.2.2⟩ rfl rfl rfl rfl rfl rfl
 obtain ⟨w6, Ph⟩ := jE (w5.setCell ⟨gB, J * 14 + 11, none⟩ (.int .i64 (A + Z)))
 rw [← Ph] at HY HA
 obtain ⟨K7, K2, K4⟩ := hid3 HY (HG.turn HA jd jd jd jd) (M9.turn HA jd)
 have Hj := Hd.turn HA jd
 obtain ⟨K3, Qf⟩ := hid2 (Ma.trans (HA.mono (J := (fun i => i = 1 ∨ i = 6 ∨ i = 10 ∨ 16 ≤ i)) fun i h => Or.inr (Or.inr h))) Ph
 clear Ph HY HA HG M9 Hd Ma H1 H2 Hx KY Kk H3 H7 H5 H8 H9 g2 f2 l2 Pg
 go_upto_region 12 with fail
 rw [← Qf.out]
 clear Qf Mb Mc Md q0 q1 Ki
 obtain ⟨q0, q1, q2, q3, q4, q5⟩ := Hj.1.k6
 have q6 := Hj.1.cell (j := 6) rfl
 have q7 := Hj.1.cell (j := 7) rfl
 have Ki := Hj.1.lt
 clear Hj
 by_cases hst9 : stN K = true
 case pos =>
  rw [hst9] at Hm
  have H6 : Hid (pbS m ⟨A, Z, ⟨K, D, A2, B, N, Lg⟩⟩ b0 = { b3 with To := 0, Ends := 1 }) := jH (by rw [HN.out, if_pos hst9, MC.out])
  have QY := Hv
  clear hst9
  go_upto_region 13 with (go_at_call 53; refine (Hm.out _).mono ?_; rintro e wb ⟨rfl, HO⟩; have H1 := (K7.out.keep HO).cellJ HJ.out (by rw [H4.out]); have Kz := H1.1 10 _ jd rfl; have KA := H1.1 11 _ jd rfl; have K1 := H1.2.1 (J * 14 + 10); have KB := H1.2.1 (J * 14 + 11); have K6 := H1.2.2.1; have H2 := H1.2.2.2.2.2.2; clear H1)
  obtain ⟨Qg, Qh⟩ := (K7.out.keep HO).put' HJ.out (by rw [H4.out]) 10 jd (.int .i64 1) ⟨rF, rS, ⟨a8, Ko, KD⟩, ⟨a7, He, Hg⟩, ⟨lK, lD, lA, lB, lN, Hf⟩, 1, A + Z, rL, ⟨a9, Hh, Hi⟩⟩ { b3 with To := A + Z, Ends := 1 } rfl ⟨H2.1, H2.2.1, H2.2.2.1, rfl, rfl, H2.2.2.2.2.2⟩ rfl rfl rfl rfl rfl rfl
  obtain ⟨Qi, Qj⟩ := (Qg).put' HJ.out (by rw [H4.out]) 11 jd (.int .i64 0) ⟨rF, rS, ⟨a8, Ko, KD⟩, ⟨a7, He, Hg⟩, ⟨lK, lD, lA, lB, lN, Hf⟩, 1, 0, rL, ⟨a9, Hh, Hi⟩⟩ { b3 with To := 0, Ends := 1 } rfl ⟨H2.1, H2.2.1, H2.2.2.1, rfl, rfl, H2.2.2.2.2.2⟩ rfl rfl rfl rfl rfl rfl
  have Hp := (Qh).trans Qj
  obtain ⟨QZ, R0, R1, R2⟩ := hid4 ((K2.out.keeps HO).turn Hp jd jd jd jd) ((K4.out.keep HO).turn Hp jd) ((K3.out.keep HO).trans (Hp.mono (J := (fun i => i = 1 ∨ i = 6 ∨ i = 10 ∨ 16 ≤ i)) fun i h => Or.inr (Or.inr h))) Qi
  clear Hp H2 Qg Qi Qh Qj
  go_wp2_with fail
  have Hn := R2.out
  rw [← H6.out] at Hn
  have Kl := jH Hn
  clear Hn
  go_roundw
  case rel =>
   refine ⟨k + 1, _, _, _, ⟨C1.bs.set J (pbS m ⟨A, Z, ⟨K, D, A2, B, N, Lg⟩⟩ b0), C1.bm⟩, by omega, by go_num, jH (by rw [Ho.out, HU.out]), jH ?_, jH (fun _ => by dsimp only; rw [List.length_set]; exact Hs.out), R1, QZ, Kl, jH (MapC.mono R0.out jo)⟩
   refine CutSm.last Ht.out (by have := HJ.out; omega) ?_ ?_ ?_ <;> (rw [H6.out, MC.out, Hv.out, ← Mu.out]; simp)
  case measure => exact jm
 case neg =>
 have Mh : stN K = false := by simpa using hst9
 rw [Mh] at Hm
 have H6 : Hid (pbS m ⟨A, Z, ⟨K, D, A2, B, N, Lg⟩⟩ b0 = { b3 with To := A + Z }) := jH (by rw [HN.out, if_neg hst9, MC.out])
 clear hst9 Mh
 go_wp2_with (go_at_call 53; refine (Hm.out _).mono ?_; rintro e wb ⟨rfl, HO⟩; have H1 := (K7.out.keep HO).cellJ HJ.out (by rw [H4.out]); have Kz := H1.1 10 _ jd rfl; have KA := H1.1 11 _ jd rfl; have K1 := H1.2.1 (J * 14 + 10); have KB := H1.2.1 (J * 14 + 11); have K6 := H1.2.2.1; have H2 := H1.2.2.2.2.2.2; clear H1)
 have Hn := K7.out.keep HO
 rw [← H6.out] at Hn
 have Kl := jH Hn
 clear Hn
 go_roundw
 case rel =>
  refine ⟨k + 1, _, _, _, ⟨C1.bs.set J (pbS m ⟨A, Z, ⟨K, D, A2, B, N, Lg⟩⟩ b0), C1.bm⟩, by omega, by go_num, jH (by rw [Ho.out, HU.out]), jH ?_, jH (fun _ => by dsimp only; rw [List.length_set]; exact Hs.out), (jH (K3.out.keep HO)), (jH (K2.out.keeps HO)), Kl, jH (MapC.mono (K4.out.keep HO) jo)⟩
  refine CutSm.last Ht.out (by have := HJ.out; omega) ?_ ?_ ?_ <;> (rw [H6.out, MC.out, Hv.out, ← Mu.out]; simp)
 case measure => exact jm
end Go.Proofs.YtgdamggkaklhjaaDoor
