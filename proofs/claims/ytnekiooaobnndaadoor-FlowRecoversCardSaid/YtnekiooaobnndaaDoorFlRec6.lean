/-
 (*finder).cut: a function's instructions are put into blocks.
-/
import Derived.Test.YtnekiooaobnndaaDoorFlRec9P
set_option linter.unusedVariables false
set_option linter.unusedSimpArgs false
namespace Go.Proofs.YtnekiooaobnndaaDoor
open Go.RowKit BH
set_option maxHeartbeats 1000000000
set_option maxRecDepth 100000
theorem cut_any {m : Img} {w0 : World} {v0 v1 v2 v3 v4 va : Value} {vs : List Sle} {L : List (List Sp)} {xb ob lb kb nK nL : Nat} {vB vT vF : Value} {rs : List Bv} {bs : List Bk} {bm : Int → Option Int} {fs ks : List Int} {c : Nat → Nat} {w : World} {f T : Nat}
  (hX : Fin m w0 v0 v1 v2 v3 v4 va vs L xb ob lb kb vB vT vF c w) (hB : BlkS w0.heap.size c w vB rs bs) (hM : MK6 c w kb nK bm) (hL : MIBC c w lb nL ks) (hks : ∀ x, ((isK ks x).getD false) = isL m x) (hF : OwnC 9 c w w0.heap.size 3 1 ci vF fs)
  (hf : f < L.length) (hLf : nth L f = nth (allS m) f) (hok : ∀ s ∈ nth L f, SpOk s) (hlen : (nth L f).length ≤ 2000) (hfst : 0 < (nth L f).length → isL m (nth (nth L f) 0).A = true) (hsm : CutSm bs T) (hT : T ≤ 100000) (hfs : fs.length ≤ 100) (hnK : nK ≤ 100000) :
  Calls Tryd.prog 17 #[.pointer (some ⟨xb, 0, none⟩), .int .i64 f] w fun e w' => e = .returned (.tuple #[]) ∧ CutAns m w0 v0 v1 v2 v3 v4 va vs L xb ob lb kb vT c w (nK + (nth L f).length) ((nth L f).foldl (cutS m f) ⟨bs, bm⟩) (fs ++ [(bs.length : Int)]) w' := by
 have HX := Lib.hid hX
 have HB := Lib.hid hB
 have HM := Lib.hid hM
 have HL := Lib.hid hL
 have HF := Lib.hid hF
 have HSM := Lib.hid hsm
 have HKS := Lib.hid hks
 have HOK := Lib.hid hok
 have HFST := Lib.hid hfst
 have hxl := hX.blk.1.lt
 obtain ⟨fa, fcap, hvF⟩ := own_form' hF.1
 obtain ⟨ba, bcap, hvB⟩ := own_form' hB.row.1
 obtain ⟨aa, acap, hva⟩ := own_form' hX.all.1
 obtain ⟨NB, hNB⟩ : ∃ n, n = bs.length := ⟨_, rfl⟩
 obtain ⟨NF, hNF⟩ : ∃ n, n = fs.length := ⟨_, rfl⟩
 rw [hB.len, ← hNB] at hvB
 rw [← hNF] at hvF hfs
 subst hvF hvB hva
 have x10 : w.cell? ⟨xb, 10, none⟩ = some (.slice ba NB bcap) := hX.blk.1.cell rfl
 have x12 : w.cell? ⟨xb, 12, none⟩ = some (.slice fa NF fcap) := hX.blk.1.cell rfl
 have HNB := Lib.hid hNB
 have HNF := Lib.hid hNF
 clear hX hB hM hL hF hsm hks hok hfst hNB hNF
 go_enter Tryd.func17, Tryd.ntmps17
 go_upto_region 0 with fail
 refine wp_region_head_tail (S := Cells [(xb, 10, .slice ba NB bcap), (xb, 12, .slice fa NF fcap)]) 13 0 (v := .pointer (some ⟨xb, 0, none⟩)) (by kernel_rfl) rfl (by kernel_rfl) (by kernel_rfl) (by kernel_rfl) (by decide) (fun _ _ _ h => h) (Or.inl ⟨by rfl, fun w => by rfl⟩) (by kernel_rfl) (by kernel_rfl) (by kernel_rfl) (by decide) (by kernel_rfl) ?hS16 (fun hHeld => ?_)
 case hS16 => exact ⟨x10, x12, trivial⟩
 simp only [List.take_succ_cons, List.take_zero, List.drop_succ_cons, List.drop_zero, List.getElem_toArray, List.getElem_cons_zero]
 try simp only [Act.put, List.setIfInBounds_toArray, List.set_cons_zero, List.set_cons_succ]
 refine takeC 1 hHeld ?_
 refine takeC 2 hHeld ?_
 refine takeC 3 hHeld ?_
 refine takeC 4 hHeld ?_
 refine takeC 5 hHeld ?_
 refine takeC 6 hHeld ?_
 refine takeC 7 hHeld ?_
 refine takeC 8 hHeld ?_
 refine takeC 9 hHeld ?_
 refine takeC 10 hHeld ?_
 refine takeC 11 hHeld ?_
 refine wpAnyH_ready (rs := [12]) (by kernel_rfl) (by simp) ?_
 refine AllReadyH.cons (o := ?or4) ?hr4 ?sr4 ?mr4
 case hr4 => (simp only [List.getElem?_toArray, List.getElem?_cons_zero, List.getElem?_cons_succ]; try rfl)
 case mr4 => exact AllReadyH.nil
 case sr4 =>
 intro K hK
 go_simp
 refine hK.out _ _ (Cells.keep hHeld ((Keeps.refl _).alloc _)) (fun hHeld2 => ?_)
 clear hK K hHeld
 have hHeld := hHeld2
 clear hHeld2
 try simp only [Act.put, List.setIfInBounds_toArray, List.set_cons_zero, List.set_cons_succ]
 refine wpAnyH_done (by kernel_rfl) ?_ _
 dsimp only [TailQ]
 clear hHeld
 obtain ⟨NF1, hNF1⟩ : ∃ n, n = NF + 1 := ⟨_, rfl⟩
 have HLF := Lib.hid (show (fs ++ [(NB : Int)]).length = NF1 by rw [List.length_append, List.length_singleton, hNF1, HNF.out])
 have HNF1 := Lib.hid hNF1
 clear hNF1 x10 x12
 go_upto_region 1 with (at_builtin; refine wpList_pushes (by rfl) (.tmp 12) (.tmp 19) 25 (by rfl) Tryd.underlying25 info_int (by rfl) (by decide) (base := w0.heap.size) (f := ci) (l := fs) (by rfl) (by exact HF.out.1.keep (by repeat (with_reducible (first | assumption | exact Keeps.refl _ | refine Keeps.alloc ?_ _ | refine Keeps.drew ?_ | refine Keeps.drewN ?_ _)))) [(NB : Int)] _ _ (by rfl) (by exact Blk.top' _ _ (by first | rfl | simp)) ci_len ci_one (by simp only [List.length_cons, List.length_nil, ← HNF.out]; omega) (by simp only [List.length_cons, List.length_nil, ← HNF.out]; unfold maxLen; omega) (by have := HX.out.keep.size; first | omega | (simp only [sz_alloc, sz_drew]; omega)) ?_; intro v7 w7 hown7 hbel7 hgr7 hfr7; obtain ⟨c7, ht7, ho7⟩ := HF.out.push (show Keeps w _ from (by repeat (with_reducible (first | assumption | exact Keeps.refl _ | refine Keeps.alloc ?_ _ | refine Keeps.drew ?_ | refine Keeps.drewN ?_ _)))) hown7 hgr7 hfr7; have hX7 := HX.out.turn ht7 (by decide) (by decide) (by decide) (by decide); have x12 := hX7.blk.1.cell (j := 12) rfl; have f12 := hX7.blk.1.thawed 12; have l7 := hX7.blk.1.lt; obtain ⟨fa7, fc7, e7⟩ := own_form' hown7; rw [HLF.out] at e7; subst e7)
 obtain ⟨w8, hw8⟩ : ∃ w8, w8 = w7.setCell ⟨xb, 12, none⟩ (.slice fa7 NF1 fc7) := ⟨_, rfl⟩
 rw [← hw8]
 obtain ⟨hX8, ht8⟩ := hX7.put (vB' := .slice ba NB bcap) (vT' := vT) (vF' := .slice fa7 NF1 fc7) hw8 rfl
 have hTT : Turn (fun i => i = 1 ∨ i = 6 ∨ i = 9 ∨ i = 10 ∨ 16 ≤ i) c w c7 w8 := (ht7.mono fun i h => Or.inr (Or.inr (Or.inl h))).trans (ht8.mono fun i h => Or.inl h)
 have hB8 := (HB.out.turn ht7 (by decide) (fun i hi => by omega)).turn ht8 (by decide) (fun i hi => by omega)
 have hM8 := (HM.out.turn ht7 (by decide)).turn ht8 (by decide)
 have hL8 := (HL.out.turn ht7 (by decide)).turn ht8 (by decide)
 have hF8 := ho7.turn ht8 (by decide)
 obtain ⟨ga, gcap, ge, -, -, -, -, gc, -⟩ := own_read1 (h := fun s : Sle => s.v) hX8.all.1 (by rw [hX8.len]; omega)
 injection ge with ge1 ge2 ge3
 subst ge1
 obtain ⟨⟨sa, sn, sc⟩, hsl⟩ : ∃ z, z = nth vs f := ⟨_, rfl⟩
 have y0 : w8.cell? ⟨ga, f, none⟩ = some (.slice sa sn sc) := by have z := gc f (by rw [hX8.len]; exact hf); rw [← hsl] at z; exact z
 have x6 : w8.cell? ⟨xb, 6, none⟩ = some (.slice (some ⟨ga, 0, none⟩) vs.length acap) := hX8.blk.1.cell rfl
 have hsp := hX8.sps.here f hf
 rw [← hsl] at hsp
 obtain ⟨pa, pcap, pe, p1, p2, p3, p4⟩ := hsp
 injection pe with pe1 pe2 pe3
 subst pe1 pe2 pe3
 have hfv : (f : Int) < (vs.length : Int) := by rw [hX8.len]; omega
 obtain ⟨SL, hSL⟩ : ∃ z, z = nth L f := ⟨_, rfl⟩
 obtain ⟨SN, hSN⟩ : ∃ z, z = SL.length := ⟨_, rfl⟩
 rw [← hSL, ← hSN] at y0 p4
 have hSNb : SN ≤ 2000 := by rw [hSN, hSL]; exact hlen
 have HSL := Lib.hid hSL
 have HSN := Lib.hid hSN
 have HX8 := Lib.hid hX8
 have HTT := Lib.hid hTT
 have HB8 := Lib.hid hB8
 have HM8 := Lib.hid hM8
 have HL8 := Lib.hid hL8
 have HF8 := Lib.hid hF8
 have HSLV := Lib.hid hsl
 clear hown7 hbel7 hgr7 hfr7 ht7 ho7 hX7 x12 f12 l7 hX8 ht8 hTT hB8 hM8 hL8 hF8 hw8 ge2 ge3 gc hsl p1 p2 p3 p4 hSL hSN
 -- LOOP
 go_wp2_with fail
 clear y0 x6
 go_loopw [32] (fun s32 wr => ∃ (k : Nat) (cc : Nat → Nat) (vB' : Value) (rs' : List Bv) (C : Cut), k ≤ SN ∧ s32 = .int .i64 k ∧ Hid (C = (SL.take k).foldl (cutS m f) ⟨bs, bm⟩) ∧ Hid (CutSm C.bs (T + k)) ∧ Hid (0 < k → 0 < C.bs.length) ∧ Hid (Turn (fun i => i = 1 ∨ i = 6 ∨ i = 10 ∨ 16 ≤ i) c7 w8 cc wr) ∧ Hid (Fin m w0 v0 v1 v2 v3 v4 (.slice (some ⟨ga, 0, none⟩) vs.length acap) vs L xb ob lb kb vB' vT (.slice fa7 NF1 fc7) cc wr) ∧ Hid (BlkS w0.heap.size cc wr vB' rs' C.bs) ∧ Hid (MK6 cc wr kb (nK + k) C.bm)) (fun s32 _ => SN - (intOf s32).toNat)
 case atStart => exact ⟨0, c7, _, rs, ⟨bs, bm⟩, Nat.zero_le _, rfl, Lib.hid rfl, HSM, Lib.hid (fun h => absurd h (Nat.lt_irrefl 0)), Lib.hid (Turn.refl _ _ _), HX8, HB8, HM8⟩
 case round =>
  obtain ⟨k, cc, vB', rs', C, hk, rfl, HC, HSMC, HPOS, HT, HXR, HBR, HMR⟩ := hrel
  by_cases hlt : k < SN
  case neg =>
   obtain rfl : k = SN := by omega
   have hCe : C = SL.foldl (cutS m f) ⟨bs, bm⟩ := by rw [HC.out, HSN.out, List.take_length]
   have HCE := Lib.hid hCe
   clear hCe
   go_wp2_with fail
   refine bodyPost_end (results_none rfl _ _ _) rfl ?_
   refine ⟨rfl, cc, vB', _, rs', HTT.out.trans (HT.out.mono fun i h => by rcases h with h | h | h | h <;> simp [h]), HXR.out, ?_, ?_, ?_⟩
   ·rw [← HSL.out, ← HCE.out]; exact HBR.out
   ·rw [← HSL.out, ← HCE.out, ← HSN.out]; exact HMR.out
   ·rw [← HNB.out]; exact HF8.out.turn HT.out (by omega)
  case pos =>
  have hltz : (k : Int) < (SN : Int) := by omega
  have hsp := HXR.out.sps.here f hf
  rw [← HSLV.out] at hsp
  obtain ⟨_, _, pe, -, -, -, p4⟩ := hsp
  injection pe with pe1 pe2 pe3
  subst pe1
  rw [← HSL.out, ← HSN.out] at p4
  obtain ⟨spb, spo, rfl, pc⟩ := p4 (by omega)
  have hsok := HOK.out (nth SL k) (by rw [← HSL.out, nth_eq _ _ (by rw [← HSN.out]; exact hlt)]; exact List.getElem_mem _)
  obtain ⟨⟨A, Z, ⟨K, D, A2, B, N, Lg⟩⟩, hs⟩ : ∃ s, s = nth SL k := ⟨_, rfl⟩
  rw [← hs] at hsok
  have HSOK := Lib.hid hsok
  obtain ⟨a0, a1, zz0, zz1, n0, n1, k0, k1, knt⟩ := hsok
  dsimp only at a0 a1 zz0 zz1 n0 n1 k0 k1 knt
  have g : ∀ j, j < 8 → wr.cell? ⟨spb, spo + k * 8 + j, none⟩ = some ((csp ⟨A, Z, ⟨K, D, A2, B, N, Lg⟩⟩).getD j undef) := fun j hj => by rw [hs]; exact pc k j hlt hj
  have d0 : wr.cell? ⟨spb, spo + k * 8, none⟩ = some (.int .i64 A) := g 0 (by omega)
  have d1 : wr.cell? ⟨spb, spo + k * 8 + 1, none⟩ = some (.int .i64 Z) := g 1 (by omega)
  have d2 : wr.cell? ⟨spb, spo + k * 8 + 2, none⟩ = some (.int .i64 K) := g 2 (by omega)
  have d3 : wr.cell? ⟨spb, spo + k * 8 + 3, none⟩ = some (.int .i64 D) := g 3 (by omega)
  have d4 : wr.cell? ⟨spb, spo + k * 8 + 4, none⟩ = some (.int .i64 A2) := g 4 (by omega)
  have d5 : wr.cell? ⟨spb, spo + k * 8 + 5, none⟩ = some (.int .i64 B) := g 5 (by omega)
  have d6 : wr.cell? ⟨spb, spo + k * 8 + 6, none⟩ = some (.int .i64 N) := g 6 (by omega)
  have d7 : wr.cell? ⟨spb, spo + k * 8 + 7, none⟩ = some (.bool Lg) := g 7 (by omega)
  have hspb : spb < wr.heap.size := lt_of_cell d0
  obtain ⟨ZL, hZL⟩ : ∃ z, z = isL m A := ⟨_, rfl⟩
  obtain ⟨C1, hC1⟩ : ∃ C1 : Cut, C1 = if ZL = true then ⟨C.bs ++ [newB f A], putI C.bm A C.bs.length⟩ else C := ⟨_, rfl⟩
  have hC1p : 0 < C1.bs.length := by
   rw [hC1]
   cases hz : ZL with
   | true => rw [if_pos rfl]; simp
   | false =>
    rw [if_neg (by decide)]
    rcases Nat.eq_zero_or_pos k with q | q
    ·exfalso
     subst q
     have := HFST.out (by rw [← HSL.out, ← HSN.out]; omega)
     rw [← HSL.out, ← hs] at this
     rw [hZL] at hz
     rw [hz] at this
     cases this
    ·exact HPOS.out q
  have hstep : (SL.take (k + 1)).foldl (cutS m f) ⟨bs, bm⟩ = ⟨modL C1.bs (pbS m ⟨A, Z, ⟨K, D, A2, B, N, Lg⟩⟩), C1.bm⟩ := by
   rw [take_succ_nth _ _ (by rw [← HSN.out]; exact hlt), List.foldl_append, ← HC.out, ← hs, hC1, hZL]
   show cutS m f C _ = _
   unfold cutS
   dsimp only
   by_cases q : isL m A = true
   ·rw [if_pos q, if_pos q]
   ·rw [if_neg q, if_neg q]
  have hsm1 : C1.bs.length ≤ T + k + 1 ∧ ∀ i, i < C1.bs.length → (nth C1.bs i).Code.length ≤ T + k ∧ (nth C1.bs i).At.length ≤ T + k ∧ (nth C1.bs i).Lines.length ≤ T + k := by
   rw [hC1]
   have q := HSMC.out
   cases ZL with
   | true =>
    rw [if_pos rfl]
    refine ⟨by have := q.1; dsimp only; rw [List.length_append, List.length_singleton]; omega, fun i hi => ?_⟩
    dsimp only at hi ⊢
    rw [List.length_append, List.length_singleton] at hi
    rcases Nat.lt_or_ge i C.bs.length with z | z
    ·rw [nth_app_lt _ _ z]; exact q.2 i z
    ·rw [nth_app_eq _ _ (by omega)]; exact ⟨Nat.zero_le _, Nat.zero_le _, Nat.zero_le _⟩
   | false => rw [if_neg (by decide)]; exact ⟨by have := q.1; omega, q.2⟩
  have HC1 := Lib.hid hC1
  have HC1P := Lib.hid hC1p
  have HSTEP := Lib.hid hstep
  have HSM1 := Lib.hid hsm1
  have HZL := Lib.hid hZL
  clear hs g pc p4 pe2 pe3 hC1 hC1p hstep hsm1 hZL
  go_upto_region 4 with fail
  obtain ⟨wq, cq, hwq, hkq, hTq, hb5⟩ := one_paint wr cc (.cells #[.int .i64 A, .int .i64 Z, .int .i64 K, .int .i64 D, .int .i64 A2, .int .i64 B, .int .i64 N, .bool Lg] 63) 7
  rw [← hwq]
  obtain ⟨b5, hb5e⟩ : ∃ b, b = wr.heap.size := ⟨_, rfl⟩
  rw [← hb5e]
  rw [← hb5e] at hb5
  have hXq := HXR.out.turn (hTq (fun _ => False)) (fun q => q) (fun q => q) (fun q => q) (fun q => q)
  have hBq := HBR.out.turn (hTq (fun _ => False)) (fun q => q) (fun _ _ q => q)
  have hMq := HMR.out.turn (hTq (fun _ => False)) (fun q => q)
  have hTQ : Turn (fun i => i = 1 ∨ i = 6 ∨ i = 10 ∨ 16 ≤ i) c7 w8 cq wq := HT.out.trans (hTq _)
  have hLq := HL8.out.turn hTQ (by omega)
  have hlk : ∀ w', Keeps wq w' → (Instr.lookup 53 (.map (some lb)) (.int .i64 A) false).run Tryd.prog w' = .ok (.bool ZL) w' := fun w' hk' => by
   have z := ((hLq.1.keep hk').look MKIB (x := A) (wfI_of (by omega) (by omega)) false).1
   rw [HKS.out, ← HZL.out] at z
   exact z
  have x8 : wq.cell? ⟨xb, 8, none⟩ = some (.map (some lb)) := hXq.blk.1.cell rfl
  have q0 : wq.cell? ⟨b5, 0, none⟩ = some (.int .i64 A) := hb5.1.cell rfl
  have HXQ := Lib.hid hXq
  have HBQ := Lib.hid hBq
  have HMQ := Lib.hid hMq
  have HTQ := Lib.hid hTQ
  have HB5 := Lib.hid hb5
  have HLK := Lib.hid hlk
  clear hwq hkq hTq hXq hBq hMq hTQ hLq hlk hb5 hb5e d0 d1 d2 d3 d4 d5 d6 d7 hspb HXR HBR HMR HT HC HPOS
  refine wp_region_held_drew (S := fun w' => Keeps wq w' ∧ Cells [(xb, 8, .map (some lb)), (b5, 0, .int .i64 A)] w') (by kernel_rfl) ⟨(Keeps.refl _).drew, x8, q0, trivial⟩ (fun hHeld => ?_)
  refine takeC 0 hHeld ?_
  refine takeC 1 hHeld ?_
  refine takeC 2 hHeld ?_
  refine takeC 3 hHeld ?_
  refine takeC 4 hHeld ?_
  refine takeC 5 hHeld ?_
  refine wpAnyH_take (i := 6) (oi := ?oq1x6) (v := ?vq1x6) ?hq1x6 ?aq1x6 ?bq1x6 ?cq1x6 ?qq1x6 (Or.inl ⟨?wq1x6, ?yq1x6⟩) hHeld ?rq1x6
  case hq1x6 => (simp only [List.getElem?_toArray, List.getElem?_cons_zero, List.getElem?_cons_succ]; try rfl)
  case aq1x6 => kernel_rfl
  case bq1x6 => kernel_rfl
  case cq1x6 => kernel_rfl
  case qq1x6 => exact fun _ _ _ h => h
  case wq1x6 => rfl
  case yq1x6 =>
   intro w hSw
   have hq := HLK.out _ hSw.1
   simp only [execOp, Act.eval]
   simp [hq, Result.andThen]
   try rfl
  try simp only [Act.put, List.setIfInBounds_toArray, List.set_cons_zero, List.set_cons_succ]
  refine wpAnyH_done (by kernel_rfl) ?_ _
  clear hHeld x8 q0 HLK
  go_upto_if 42 with fail
  go_cut [] (fun wx => ∃ (c2 : Nat → Nat) (vB2 : Value) (rs2 : List Bv), Hid (Turn (fun i => i = 1 ∨ i = 6 ∨ i = 10 ∨ 16 ≤ i) c7 w8 c2 wx) ∧ Hid (Fin m w0 v0 v1 v2 v3 v4 (.slice (some ⟨ga, 0, none⟩) vs.length acap) vs L xb ob lb kb vB2 vT (.slice fa7 NF1 fc7) c2 wx) ∧ Hid (BlkS w0.heap.size c2 wx vB2 rs2 C1.bs) ∧ Hid (MK6 c2 wx kb (nK + k + 1) C1.bm) ∧ Hid (BlkC 7 c2 wx b5 (.cells #[.int .i64 A, .int .i64 Z, .int .i64 K, .int .i64 D, .int .i64 A2, .int .i64 B, .int .i64 N, .bool Lg] 63)))
  case first =>
   cases ZL with
   | false =>
    have hC1 : C1 = C := by rw [HC1.out]; rfl
    have HCC := Lib.hid hC1
    clear hC1
    go_wp2_with fail
    go_meet
    case rel =>
     rw [HCC.out]
     exact ⟨cq, vB', rs', Lib.hid (HTQ.out.keep (by repeat (with_reducible (first | assumption | exact Keeps.refl _ | refine Keeps.alloc ?_ _ | refine Keeps.drew ?_ | refine Keeps.drewN ?_ _)))), Lib.hid (HXQ.out.keeps (by repeat (with_reducible (first | assumption | exact Keeps.refl _ | refine Keeps.alloc ?_ _ | refine Keeps.drew ?_ | refine Keeps.drewN ?_ _)))), Lib.hid (HBQ.out.keep (by repeat (with_reducible (first | assumption | exact Keeps.refl _ | refine Keeps.alloc ?_ _ | refine Keeps.drew ?_ | refine Keeps.drewN ?_ _)))), Lib.hid ((HMQ.out.keep (by repeat (with_reducible (first | assumption | exact Keeps.refl _ | refine Keeps.alloc ?_ _ | refine Keeps.drew ?_ | refine Keeps.drewN ?_ _)))).mono (by omega)), Lib.hid (HB5.out.keep (by repeat (with_reducible (first | assumption | exact Keeps.refl _ | refine Keeps.alloc ?_ _ | refine Keeps.drew ?_ | refine Keeps.drewN ?_ _))))⟩
   | true =>
    have hC1 : C1 = ⟨C.bs ++ [newB f A], putI C.bm A C.bs.length⟩ := by rw [HC1.out]; rfl
    have HCC := Lib.hid hC1
    clear hC1
    obtain ⟨ba2, bc2, hv2⟩ := own_form' HBQ.out.row.1
    obtain ⟨NB2, hNB2⟩ : ∃ n, n = C.bs.length := ⟨_, rfl⟩
    rw [HBQ.out.len, ← hNB2] at hv2
    subst hv2
    have hNB2b : NB2 ≤ 102000 := by have := HSMC.out.1; omega
    have HNB2 := Lib.hid hNB2
    clear hNB2
    go_upto_region 5 with fail
    have hXd := HXQ.out.keeps (show Keeps wq wq.drew from (Keeps.refl _).drew)
    have x9 : wq.drew.cell? ⟨xb, 9, none⟩ = some (.map (some kb)) := hXd.blk.1.cell rfl
    have x10 : wq.drew.cell? ⟨xb, 10, none⟩ = some (.slice ba2 NB2 bc2) := hXd.blk.1.cell rfl
    have q0 : wq.drew.cell? ⟨b5, 0, none⟩ = some (.int .i64 A) := (HB5.out.keep (show Keeps wq wq.drew from (Keeps.refl _).drew)).1.cell rfl
    clear hXd
    refine wp_region_head (S := Cells [(xb, 9, .map (some kb)), (xb, 10, .slice ba2 NB2 bc2), (b5, 0, .int .i64 A)]) 12 (by kernel_rfl) (by kernel_rfl) (by kernel_rfl) (by kernel_rfl) (by decide) (by kernel_rfl) ?hS15 (fun hHeld => ?_)
    case hS15 => exact ⟨x9, x10, q0, trivial⟩
    simp only [List.take_succ_cons, List.take_zero, List.drop_succ_cons, List.drop_zero]
    refine takeC 0 hHeld ?_
    refine takeC 1 hHeld ?_
    refine takeC 2 hHeld ?_
    refine takeC 3 hHeld ?_
    refine takeC 4 hHeld ?_
    refine takeC 5 hHeld ?_
    refine takeC 6 hHeld ?_
    refine takeC 7 hHeld ?_
    refine takeC 8 hHeld ?_
    refine takeC 9 hHeld ?_
    refine takeC 10 hHeld ?_
    refine takeC 11 hHeld ?_
    refine wpAnyH_done (by kernel_rfl) ?_ _
    dsimp only [TailQ]
    clear hHeld x9 x10 q0
    go_upto_region 6 with (at_mapUpdate; refine wpList_put _ rfl (.tmp 46) (.tmp 48) (.tmp 54) rfl MKII kb (nK + k) _ rfl (HMQ.out.1.keep (by repeat (with_reducible (first | assumption | exact Keeps.refl _ | refine Keeps.alloc ?_ _ | refine Keeps.drew ?_ | refine Keeps.drewN ?_ _)))) (by unfold maxLen; omega) A rfl (wfI_of (by omega) (by omega)) (NB2 : Int) rfl (wfI_of (by omega) (by omega)) ?_; intro w4 hM4 hg4)
    have ht4 : Turn (fun i => i = 6) cq wq cq w4 := ((show Keeps wq _ from (by repeat (with_reducible (first | assumption | exact Keeps.refl _ | refine Keeps.alloc ?_ _ | refine Keeps.drew ?_ | refine Keeps.drewN ?_ _)))).turn _ cq).trans (grown_turn hg4 (fun b e => by cases e; exact HMQ.out.2))
    have hX4 := HXQ.out.turn ht4 (by decide) (by decide) (by decide) (by decide)
    have hB4 := HBQ.out.turn ht4 (by decide) (fun i hi => by omega)
    have hb54 := HB5.out.turn ht4 (by decide)
    have x10 : w4.cell? ⟨xb, 10, none⟩ = some (.slice ba2 NB2 bc2) := hX4.blk.1.cell rfl
    have q0 : w4.cell? ⟨b5, 0, none⟩ = some (.int .i64 A) := hb54.1.cell rfl
    have HX4 := Lib.hid hX4
    have HB4 := Lib.hid hB4
    have HB54 := Lib.hid hb54
    have HT4 := Lib.hid (HTQ.out.trans (ht4.mono (J := (fun i => i = 1 ∨ i = 6 ∨ i = 10 ∨ 16 ≤ i)) fun i h => Or.inr (Or.inl h)))
    have HM4 : Hid (MK6 cq w4 kb (nK + k + 1) (putI C.bm A NB2)) := Lib.hid ⟨hM4, HMQ.out.2⟩
    clear ht4 hX4 hB4 hb54 hM4 hg4
    refine wp_region_head_tail (S := Cells [(xb, 10, .slice ba2 NB2 bc2), (b5, 0, .int .i64 A)]) 11 0 (v := .pointer (some ⟨xb, 0, none⟩)) (by kernel_rfl) rfl (by kernel_rfl) (by kernel_rfl) (by kernel_rfl) (by decide) (fun _ _ _ h => h) (Or.inl ⟨by rfl, fun w => by rfl⟩) (by kernel_rfl) (by kernel_rfl) (by kernel_rfl) (by decide) (by kernel_rfl) ?hS17 (fun hHeld => ?_)
    case hS17 => exact ⟨x10, q0, trivial⟩
    simp only [List.take_succ_cons, List.take_zero, List.drop_succ_cons, List.drop_zero, List.getElem_toArray, List.getElem_cons_zero]
    try simp only [Act.put, List.setIfInBounds_toArray, List.set_cons_zero, List.set_cons_succ]
    refine takeC 1 hHeld ?_
    refine takeC 2 hHeld ?_
    refine takeC 3 hHeld ?_
    refine takeC 4 hHeld ?_
    refine takeC 5 hHeld ?_
    refine takeC 6 hHeld ?_
    refine takeC 7 hHeld ?_
    refine takeC 8 hHeld ?_
    refine takeC 9 hHeld ?_
    refine wpAnyH_ready (rs := [10]) (by kernel_rfl) (by simp) ?_
    refine AllReadyH.cons (o := ?or5) ?hr5 ?sr5 ?mr5
    case hr5 => (simp only [List.getElem?_toArray, List.getElem?_cons_zero, List.getElem?_cons_succ]; try rfl)
    case mr5 => exact AllReadyH.nil
    case sr5 =>
    intro K hK
    go_simp
    refine hK.out _ _ (Cells.keep hHeld ((Keeps.refl _).alloc _)) (fun hHeld2 => ?_)
    clear hK K hHeld
    have hHeld := hHeld2
    clear hHeld2
    try simp only [Act.put, List.setIfInBounds_toArray, List.set_cons_zero, List.set_cons_succ]
    refine wpAnyH_done (by kernel_rfl) ?_ _
    dsimp only [TailQ]
    clear hHeld x10 q0
    obtain ⟨NB3, hNB3⟩ : ∃ n, n = NB2 + 1 := ⟨_, rfl⟩
    have HLR := Lib.hid (show (rs' ++ [(⟨(f : Int), A, ⟨none, 0, 0⟩, ⟨none, 0, 0⟩, zIc, 2, 0, 0, ⟨none, 0, 0⟩⟩ : Bv)]).length = NB3 by rw [List.length_append, List.length_singleton, hNB3, HNB2.out, HB4.out.len])
    have HRL := Lib.hid (show rs'.length = NB2 by rw [HB4.out.len, HNB2.out])
    clear hNB3
    go_wp2_with (at_builtin; refine wpList_pushes (by rfl) (.tmp 60) (.tmp 65) 30 (by rfl) Tryd.underlying30 info_block (by rfl) (by decide) (base := w0.heap.size) (f := cbv) (l := rs') (by rfl) (by exact HB4.out.row.1.keep (by repeat (with_reducible (first | assumption | exact Keeps.refl _ | refine Keeps.alloc ?_ _ | refine Keeps.drew ?_ | refine Keeps.drewN ?_ _)))) [⟨(f : Int), A, ⟨none, 0, 0⟩, ⟨none, 0, 0⟩, zIc, 2, 0, 0, ⟨none, 0, 0⟩⟩] _ _ (by rfl) (by exact Blk.top' _ _ (by first | rfl | simp)) cbv_len cbv_one (by simp only [List.length_cons, List.length_nil, HRL.out]; omega) (by simp only [List.length_cons, List.length_nil, HRL.out]; unfold maxLen; omega) (by have := HX4.out.keep.size; first | omega | (simp only [sz_alloc, sz_drew]; omega)) ?_; intro v7 w7 hown7 hbel7 hgr7 hfr7; obtain ⟨c5, ht5, hB5⟩ := HB4.out.push (show Keeps w4 _ from (by repeat (with_reducible (first | assumption | exact Keeps.refl _ | refine Keeps.alloc ?_ _ | refine Keeps.drew ?_ | refine Keeps.drewN ?_ _)))) hown7 hgr7 hfr7; have hX5 := HX4.out.turn ht5 (by decide) (by decide) (by decide) (by decide); have x10 := hX5.blk.1.cell (j := 10) rfl; have f10 := hX5.blk.1.thawed 10; have l5 := hX5.blk.1.lt; obtain ⟨ba3, bc3, e7⟩ := own_form' hown7; rw [HLR.out] at e7; subst e7)
    obtain ⟨hX6, ht6⟩ := hX5.put (vB' := .slice ba3 NB3 bc3) (vT' := vT) (vF' := .slice fa7 NF1 fc7) (w' := w7.setCell ⟨xb, 10, none⟩ (.slice ba3 NB3 bc3)) rfl rfl
    have hT6 := (HT4.out.trans (ht5.mono (J := (fun i => i = 1 ∨ i = 6 ∨ i = 10 ∨ 16 ≤ i)) fun i h => Or.inr (Or.inr (Or.inl h)))).trans (ht6.mono fun i h => Or.inl h)
    have hB6 := hB5.turn ht6 (by decide) (fun i hi => by omega)
    have hM6 := (HM4.out.turn ht5 (by decide)).turn ht6 (by decide)
    have hb56 := (HB54.out.turn ht5 (by decide)).turn ht6 (by decide)
    have HX6 := Lib.hid hX6
    have HT6 := Lib.hid hT6
    have HB6 := Lib.hid hB6
    have HM6 := Lib.hid hM6
    have HB56 := Lib.hid hb56
    clear hX6 ht6 hT6 hB6 hM6 hb56 hown7 hbel7 hgr7 hfr7 ht5 hB5 hX5 x10 f10 l5
    go_meet
    case rel =>
     rw [HCC.out, ← HNB2.out]
     exact ⟨c5, _, _, HT6, HX6, HB6, HM6, HB56⟩
  case rest =>
   obtain ⟨c2, vB2, rs2, HT2, HX2, HB2, HM2, HB52⟩ := hcut
   obtain ⟨w2, hw2⟩ : ∃ w2 : World, w2 = wc := ⟨_, rfl⟩
   subst hw2
   obtain ⟨J, hJ⟩ : ∃ J, J + 1 = C1.bs.length := ⟨C1.bs.length - 1, by have := HC1P.out; omega⟩
   obtain ⟨gB, gcap, hvB, hgB, -, -, -, -⟩ := HB2.out.last HC1P.out
   obtain ⟨N1, hN1⟩ : ∃ n, n = J + 1 := ⟨_, rfl⟩
   rw [← hJ, ← hN1] at hvB
   subst hvB
   have hS0 := HB2.out.self hJ
   obtain ⟨b0, hb0⟩ : ∃ b, b = nth C1.bs J := ⟨_, rfl⟩
   obtain ⟨⟨rF, rS, ⟨ca, cn, cc0⟩, ⟨aa, an, ac⟩, ⟨lK, lD, lA, lB, lN, lLg⟩, rE, rT, rL, ⟨la, ln, lc⟩⟩, hr0⟩ : ∃ r, r = nth rs2 J := ⟨_, rfl⟩
   rw [← hb0, ← hr0] at hS0
   have hmod : modL C1.bs (pbS m ⟨A, Z, ⟨K, D, A2, B, N, Lg⟩⟩) = C1.bs.set J (pbS m ⟨A, Z, ⟨K, D, A2, B, N, Lg⟩⟩ b0) := by unfold modL; rw [← hJ, Nat.add_sub_cancel, ← hb0]
   have hsz0 := HSM1.out.2 J (by omega)
   rw [← hb0] at hsz0
   have wJ : IntKind.i64.wrap ((N1 : Int) - 1) = (J : Int) := by rw [IntKind.wrap_i64]; have := HSM1.out.1; omega
   have hJz : (J : Int) < (N1 : Int) := by omega
   have hJn : J < N1 := by omega
   have x10 : w2.cell? ⟨xb, 10, none⟩ = some (.slice (some ⟨gB, 0, none⟩) N1 gcap) := HX2.out.blk.1.cell rfl
   have HS0 := Lib.hid hS0
   have HJ := Lib.hid hJ
   have HN1 := Lib.hid hN1
   have HMOD := Lib.hid hmod
   have HB0 := Lib.hid hb0
   clear hS0 hJ hN1 hmod hb0 hr0 HB2
   go_upto_region 7 with fail
   refine wp_region_held_drew (S := Cells [(xb, 10, .slice (some ⟨gB, 0, none⟩) N1 gcap)]) (by kernel_rfl) ⟨x10, trivial⟩ (fun hHeld => ?_)
   refine takeC 0 hHeld ?_
   refine takeC 1 hHeld ?_
   refine takeC 2 hHeld ?_
   refine takeC 3 hHeld ?_
   refine takeC 4 hHeld ?_
   refine takeC 5 hHeld ?_
   refine takeC 6 hHeld ?_
   refine takeC 7 hHeld ?_
   refine takeC 8 hHeld ?_
   refine takeC 9 hHeld ?_
   refine takeC 10 hHeld ?_
   refine takeC 11 hHeld ?_
   refine takeC 12 hHeld ?_
   refine takeC 13 hHeld ?_
   refine wpAnyH_done (by kernel_rfl) ?_ _
   clear hHeld x10
   go_upto_region 8 with fail
   have hd2 : Keeps w2 w2.drew := (Keeps.refl _).drew
   have hcj := (HS0.out.keep hd2).cellJ HJ.out (by rw [HN1.out])
   have g3 : w2.drew.cell? ⟨gB, J * 14 + 3, none⟩ = some (.slice aa an ac) := hcj.1 3 _ (by decide) rfl
   have q0 : w2.drew.cell? ⟨b5, 0, none⟩ = some (.int .i64 A) := (HB52.out.keep hd2).1.cell rfl
   have hAn : an = b0.At.length := by obtain ⟨a', c', e⟩ := own_form' hcj.2.2.2.2.2.1.2.1.1; injection e with e1 e2 e3
   have HAN := Lib.hid hAn
   clear hcj hAn
   refine wp_region_head_tail (S := Cells [(gB, J * 14 + 3, .slice aa an ac), (b5, 0, .int .i64 A)]) 8 0 (v := .pointer (some ⟨gB, J * 14, none⟩)) (by kernel_rfl) rfl (by kernel_rfl) (by kernel_rfl) (by kernel_rfl) (by decide) (fun _ _ _ h => h) (Or.inl ⟨by rfl, fun w => by rfl⟩) (by kernel_rfl) (by kernel_rfl) (by kernel_rfl) (by decide) (by kernel_rfl) ?hS18 (fun hHeld => ?_)
   case hS18 => exact ⟨g3, q0, trivial⟩
   simp only [List.take_succ_cons, List.take_zero, List.drop_succ_cons, List.drop_zero, List.getElem_toArray, List.getElem_cons_zero]
   try simp only [Act.put, List.setIfInBounds_toArray, List.set_cons_zero, List.set_cons_succ]
   refine takeC 1 hHeld ?_
   refine takeC 2 hHeld ?_
   refine takeC 3 hHeld ?_
   refine takeC 4 hHeld ?_
   refine takeC 5 hHeld ?_
   refine takeC 6 hHeld ?_
   refine wpAnyH_ready (rs := [7]) (by kernel_rfl) (by simp) ?_
   refine AllReadyH.cons (o := ?or6) ?hr6 ?sr6 ?mr6
   case hr6 => (simp only [List.getElem?_toArray, List.getElem?_cons_zero, List.getElem?_cons_succ]; try rfl)
   case mr6 => exact AllReadyH.nil
   case sr6 =>
   intro K hK
   go_simp
   refine hK.out _ _ (Cells.keep hHeld ((Keeps.refl _).alloc _)) (fun hHeld2 => ?_)
   clear hK K hHeld
   have hHeld := hHeld2
   clear hHeld2
   try simp only [Act.put, List.setIfInBounds_toArray, List.set_cons_zero, List.set_cons_succ]
   refine wpAnyH_done (by kernel_rfl) ?_ _
   dsimp only [TailQ]
   clear hHeld g3 q0
   obtain ⟨AN1, hAN1⟩ : ∃ n, n = an + 1 := ⟨_, rfl⟩
   have HLA := Lib.hid (show (b0.At ++ [A]).length = AN1 by rw [List.length_append, List.length_singleton, hAN1, HAN.out])
   have hanb : an ≤ 200000 := by have := HAN.out; omega
   clear hAN1
   go_upto_region 9 with (at_builtin; refine wpList_pushes (by rfl) (.tmp 87) (.tmp 90) 25 (by rfl) Tryd.underlying25 info_int (by rfl) (by decide) (base := w0.heap.size) (f := ci) (l := b0.At) (by rfl) (by exact (HS0.out.keep (by repeat (with_reducible (first | assumption | exact Keeps.refl _ | refine Keeps.alloc ?_ _ | refine Keeps.drew ?_ | refine Keeps.drewN ?_ _))) |>.cellJ HJ.out (by rw [HN1.out])).2.2.2.2.2.1.2.1.1) [A] _ _ (by rfl) (by exact Blk.top' _ _ (by first | rfl | simp)) ci_len ci_one (by simp only [List.length_cons, List.length_nil, ← HAN.out]; omega) (by simp only [List.length_cons, List.length_nil, ← HAN.out]; unfold maxLen; omega) (by have := HX2.out.keep.size; first | omega | (simp only [sz_alloc, sz_drew]; omega)) ?_; intro v7 w7 hown7 hbel7 hgr7 hfr7; obtain ⟨a7, c7x, e7⟩ := own_form' hown7; rw [HLA.out] at e7; subst e7; have hst7 := HS0.out.stay rfl (show Keeps w2 _ from (by repeat (with_reducible (first | assumption | exact Keeps.refl _ | refine Keeps.alloc ?_ _ | refine Keeps.drew ?_ | refine Keeps.drewN ?_ _)))) hgr7 (fun b e => by have := (HS0.out.cellJ HJ.out (by rw [HN1.out])).2.2.2.2.2.1.2.1.2 b e; omega); have g3 := hst7.1 _ _ ((HS0.out.cellJ HJ.out (by rw [HN1.out])).1 3 _ (by decide) rfl); have f3 := hst7.2.1 (J * 14 + 3); have l3 := hst7.2.2)
   obtain ⟨c3, ht3, hS3⟩ := HS0.out.pushAt' HJ.out (by rw [HN1.out]) (s7 := ⟨a7, AN1, c7x⟩) (x := A) (show Keeps w2 _ from (by repeat (with_reducible (first | assumption | exact Keeps.refl _ | refine Keeps.alloc ?_ _ | refine Keeps.drew ?_ | refine Keeps.drewN ?_ _)))) hown7 hgr7 hfr7
   obtain ⟨w3, hw3⟩ : ∃ w3, w3 = w7.setCell ⟨gB, J * 14 + 3, none⟩ (.slice a7 AN1 c7x) := ⟨_, rfl⟩
   rw [← hw3] at ht3 hS3
   rw [← hw3]
   have HX3 := Lib.hid (HX2.out.turn ht3 (by decide) (by decide) (by decide) (by decide))
   have HM3 := Lib.hid (HM2.out.turn ht3 (by decide))
   have HB53 := Lib.hid (HB52.out.turn ht3 (by decide))
   have HT3 := Lib.hid (HT2.out.trans (ht3.mono (J := (fun i => i = 1 ∨ i = 6 ∨ i = 10 ∨ 16 ≤ i)) fun i h => Or.inr (Or.inr h)))
   obtain ⟨b1, hb1⟩ : ∃ b, b = { b0 with At := b0.At ++ [A] } := ⟨_, rfl⟩
   have HS3 : Hid (BlkS w0.heap.size c3 w3 (.slice (some ⟨gB, 0, none⟩) N1 gcap) (rs2.set J ⟨rF, rS, ⟨ca, cn, cc0⟩, ⟨a7, AN1, c7x⟩, ⟨lK, lD, lA, lB, lN, lLg⟩, rE, rT, rL, ⟨la, ln, lc⟩⟩) (C1.bs.set J b1)) := Lib.hid (by rw [hb1]; exact hS3)
   have HB1 := Lib.hid hb1
   have hL1 : b1.Lines = b0.Lines := by rw [hb1]
   have HL1 := Lib.hid hL1
   clear ht3 hS3 hw3 hown7 hbel7 hgr7 hfr7 hst7 g3 f3 l3 hd2 hb1 hL1
   have hd3 : Keeps w3 w3.drew := (Keeps.refl _).drew
   have hcj := (HS3.out.keep hd3).cellJ HJ.out (by rw [HN1.out])
   have hx3 := (HX3.out.keeps hd3).blk.1
   have g3 : w3.drew.cell? ⟨gB, J * 14 + 13, none⟩ = some (.slice la ln lc) := hcj.1 13 _ (by decide) rfl
   have q0 : w3.drew.cell? ⟨b5, 0, none⟩ = some (.int .i64 A) := (HB53.out.keep hd3).1.cell rfl
   have hln : ln = b1.Lines.length := by obtain ⟨a', c', e⟩ := own_form' hcj.2.2.2.2.2.1.2.2.1; injection e with e1 e2 e3
   have HLN := Lib.hid hln
   have himg : ImgAt w3.drew (.agg #[v0, v1, v2, v3, v4, .int .i64 m.Entry]) m := HX3.out.img.keep (HX3.out.keep.trans hd3)
   obtain ⟨LV, hLV⟩ : ∃ z, z = lineAt m.Lines A m.Lines.length := ⟨_, rfl⟩
   have hcall := lineAt_any _ m A _ himg
   rw [← hLV] at hcall
   have HCALL := Lib.hid hcall
   have HLV := Lib.hid hLV
   have xv0 := hx3.cell (j := 0) rfl
   have xv1 := hx3.cell (j := 1) rfl
   have xv2 := hx3.cell (j := 2) rfl
   have xv3 := hx3.cell (j := 3) rfl
   have xv4 := hx3.cell (j := 4) rfl
   have xv5 := hx3.cell (j := 5) rfl
   clear hcj hln himg hcall hx3 hLV
   refine wp_region_head_tail (S := Cells [(gB, J * 14 + 13, .slice la ln lc), (b5, 0, .int .i64 A), (xb, 0, v0), (xb, 1, v1), (xb, 2, v2), (xb, 3, v3), (xb, 4, v4), (xb, 5, .int .i64 m.Entry)]) 13 0 (v := .pointer (some ⟨gB, J * 14, none⟩)) (by kernel_rfl) rfl (by kernel_rfl) (by kernel_rfl) (by kernel_rfl) (by decide) (fun _ _ _ h => h) (Or.inl ⟨by rfl, fun w => by rfl⟩) (by kernel_rfl) (by kernel_rfl) (by kernel_rfl) (by decide) (by kernel_rfl) ?hS19 (fun hHeld => ?_)
   case hS19 => exact ⟨g3, q0, xv0, xv1, xv2, xv3, xv4, xv5, trivial⟩
   simp only [List.take_succ_cons, List.take_zero, List.drop_succ_cons, List.drop_zero, List.getElem_toArray, List.getElem_cons_zero]
   try simp only [Act.put, List.setIfInBounds_toArray, List.set_cons_zero, List.set_cons_succ]
   refine takeC 1 hHeld ?_
   refine takeC 2 hHeld ?_
   refine takeC 3 hHeld ?_
   refine takeC 4 hHeld ?_
   refine takeC 5 hHeld ?_
   refine takeC 6 hHeld ?_
   refine takeC 7 hHeld ?_
   refine takeC 8 hHeld ?_
   refine takeC 9 hHeld ?_
   refine takeC 10 hHeld ?_
   refine wpAnyH_ready (rs := [11]) (by kernel_rfl) (by simp) ?_
   refine AllReadyH.cons (o := ?or2) ?hr2 ?sr2 ?mr2
   case hr2 => (simp only [List.getElem?_toArray, List.getElem?_cons_zero, List.getElem?_cons_succ]; try rfl)
   case mr2 => exact AllReadyH.nil
   case sr2 =>
   intro K' hK
   go_simp
   go_at_call 49
   refine HCALL.out.mono ?_
   rintro e wz ⟨rfl, hkz⟩
   refine hK.out _ _ (hHeld.keep hkz) (fun hHeld2 => ?_)
   clear hK K' hHeld
   have hHeld := hHeld2
   clear hHeld2 HCALL
   try simp only [Act.put, List.setIfInBounds_toArray, List.set_cons_zero, List.set_cons_succ]
   have HKZ := Lib.hid (hd3.trans hkz)
   clear hkz hd3 xv0 xv1 xv2 xv3 xv4 xv5 g3 q0
   refine wpAnyH_ready (rs := [12]) (by kernel_rfl) (by simp) ?_
   refine AllReadyH.cons (o := ?or7) ?hr7 ?sr7 ?mr7
   case hr7 => (simp only [List.getElem?_toArray, List.getElem?_cons_zero, List.getElem?_cons_succ]; try rfl)
   case mr7 => exact AllReadyH.nil
   case sr7 =>
   intro K hK
   go_simp
   refine hK.out _ _ (Cells.keep hHeld ((Keeps.refl _).alloc _)) (fun hHeld2 => ?_)
   clear hK K hHeld
   have hHeld := hHeld2
   clear hHeld2
   try simp only [Act.put, List.setIfInBounds_toArray, List.set_cons_zero, List.set_cons_succ]
   refine wpAnyH_done (by kernel_rfl) ?_ _
   dsimp only [TailQ]
   clear hHeld
   obtain ⟨LN1, hLN1⟩ : ∃ n, n = ln + 1 := ⟨_, rfl⟩
   have HLA := Lib.hid (show (b1.Lines ++ [LV]).length = LN1 by rw [List.length_append, List.length_singleton, hLN1, HLN.out])
   have hlnb : ln ≤ 200000 := by have := HLN.out; rw [HL1.out] at this; omega
   clear hLN1
   go_upto_block 2 with (at_builtin; refine wpList_pushes (by rfl) (.tmp 98) (.tmp 106) 25 (by rfl) Tryd.underlying25 info_int (by rfl) (by decide) (base := w0.heap.size) (f := ci) (l := b1.Lines) (by rfl) (by exact (HS3.out.keep (HKZ.out.trans (by repeat (with_reducible (first | assumption | exact Keeps.refl _ | refine Keeps.alloc ?_ _ | refine Keeps.drew ?_)))) |>.cellJ HJ.out (by rw [HN1.out])).2.2.2.2.2.1.2.2.1) [LV] _ _ (by rfl) (by exact Blk.top' _ _ (by first | rfl | simp)) ci_len ci_one (by simp only [List.length_cons, List.length_nil, ← HLN.out]; omega) (by simp only [List.length_cons, List.length_nil, ← HLN.out]; unfold maxLen; omega) (by have := HX3.out.keep.size; have := HKZ.out.size; first | omega | (simp only [sz_alloc]; omega)) ?_; intro v7 w7 hown7 hbel7 hgr7 hfr7; obtain ⟨a9, c9x, e7⟩ := own_form' hown7; rw [HLA.out] at e7; subst e7; have hst7 := HS3.out.stay rfl (HKZ.out.trans (by repeat (with_reducible (first | assumption | exact Keeps.refl _ | refine Keeps.alloc ?_ _ | refine Keeps.drew ?_ | refine Keeps.drewN ?_ _)))) hgr7 (fun b e => by have := (HS3.out.cellJ HJ.out (by rw [HN1.out])).2.2.2.2.2.1.2.2.2 b e; omega); have g3 := hst7.1 _ _ ((HS3.out.cellJ HJ.out (by rw [HN1.out])).1 13 _ (by decide) rfl); have f3 := hst7.2.1 (J * 14 + 13); have l3 := hst7.2.2)
   obtain ⟨c4, ht4, hS4⟩ := HS3.out.pushLn' HJ.out (by rw [HN1.out]) (s7 := ⟨a9, LN1, c9x⟩) (x := LV) (HKZ.out.trans (by repeat (with_reducible (first | assumption | exact Keeps.refl _ | refine Keeps.alloc ?_ _ | refine Keeps.drew ?_ | refine Keeps.drewN ?_ _)))) hown7 hgr7 hfr7
   obtain ⟨w4, hw4⟩ : ∃ w4, w4 = w7.setCell ⟨gB, J * 14 + 13, none⟩ (.slice a9 LN1 c9x) := ⟨_, rfl⟩
   rw [← hw4] at ht4 hS4
   rw [← hw4]
   have HX4 := Lib.hid (HX3.out.turn ht4 (by decide) (by decide) (by decide) (by decide))
   have HM4 := Lib.hid (HM3.out.turn ht4 (by decide))
   have HB54 := Lib.hid (HB53.out.turn ht4 (by decide))
   have HT4 := Lib.hid (HT3.out.trans (ht4.mono (J := (fun i => i = 1 ∨ i = 6 ∨ i = 10 ∨ 16 ≤ i)) fun i h => Or.inr (Or.inr h)))
   obtain ⟨b2, hb2⟩ : ∃ b, b = { b1 with Lines := b1.Lines ++ [LV] } := ⟨_, rfl⟩
   have HS4 : Hid (BlkS w0.heap.size c4 w4 (.slice (some ⟨gB, 0, none⟩) N1 gcap) (rs2.set J ⟨rF, rS, ⟨ca, cn, cc0⟩, ⟨a7, AN1, c7x⟩, ⟨lK, lD, lA, lB, lN, lLg⟩, rE, rT, rL, ⟨a9, LN1, c9x⟩⟩) (C1.bs.set J b2)) := Lib.hid (by rw [hb2]; exact hS4)
   have HB2 : Hid (b2 = { b0 with At := b0.At ++ [A], Lines := b0.Lines ++ [lineAt m.Lines A m.Lines.length] }) := Lib.hid (by rw [hb2, HB1.out, HLV.out])
   clear ht4 hS4 hw4 hown7 hbel7 hgr7 hfr7 hst7 g3 f3 l3 hb2
   have hcj := HS4.out.cellJ HJ.out (by rw [HN1.out])
   have hb54 := HB54.out.1
   have hcf : Cells [(b5, 0, .int .i64 A), (b5, 1, .int .i64 Z), (b5, 2, .int .i64 K), (b5, 3, .int .i64 D), (b5, 4, .int .i64 A2), (b5, 5, .int .i64 B), (b5, 6, .int .i64 N), (b5, 7, .bool Lg)] w4 := ⟨hb54.cell rfl, hb54.cell rfl, hb54.cell rfl, hb54.cell rfl, hb54.cell rfl, hb54.cell rfl, hb54.cell rfl, hb54.cell rfl, trivial⟩
   have hne : ¬ b5 = gB := fun e => by have h1 := HB54.out.2; have h2 := hcj.2.2.2.2.1; rw [e] at h1; omega
   have hne2 : ¬ gB = b5 := fun e => hne e.symm
   have hnx : ¬ xb = gB := fun e => by have h1 := HX4.out.blk.2; have h2 := hcj.2.2.2.2.1; rw [e] at h1; omega
   have hnx2 : ¬ gB = xb := fun e => hnx e.symm
   have HCF := Lib.hid hcf
   have HBR := Lib.hid (fun W' => branch_any K D A2 B N Lg W')
   have HSTP := Lib.hid (fun W' => stops_any K D A2 B N Lg W')
   unfold insV at HBR HSTP
   have wTo : IntKind.i64.wrap (A + N) = A + N := by rw [IntKind.wrap_i64]; omega
   have wNx : IntKind.i64.wrap (A + Z) = A + Z := by rw [IntKind.wrap_i64]; omega
   clear hcj hb54 hcf
   have hcf0 := HCF.out
   simp only [Cells] at hcf0
   obtain ⟨p0, p1, p2, p3, p4, p5, p6, p7, -⟩ := hcf0
   have lp5 := lt_of_cell p0
   by_cases hbr : brN K = true
   case pos =>
    rw [hbr] at HBR
    have hspec : pbS m ⟨A, Z, ⟨K, D, A2, B, N, Lg⟩⟩ b0 = { b2 with Ends := 4, Last := ⟨K, 0, A2, B, 0, false⟩, To := A + N, Else := A + Z } := by unfold pbS; rw [if_pos hbr, HB2.out]
    have HSPEC := Lib.hid hspec
    clear hspec hbr HSTP
    go_upto_region 15 with (go_at_call 44; refine (HBR.out _).mono ?_; rintro e wa ⟨rfl, hka⟩; have hcf := HCF.out.keep hka; simp only [Cells] at hcf; obtain ⟨q0, q1, q2, q3, q4, q5, q6, q7, -⟩ := hcf; have lb5 := lt_of_cell q0; have hcj := (HS4.out.keep hka).cellJ HJ.out (by rw [HN1.out]); have e4 := hcj.1 4 _ (by decide) rfl; have e5 := hcj.1 5 _ (by decide) rfl; have e6 := hcj.1 6 _ (by decide) rfl; have e7 := hcj.1 7 _ (by decide) rfl; have e8 := hcj.1 8 _ (by decide) rfl; have e9 := hcj.1 9 _ (by decide) rfl; have e10 := hcj.1 10 _ (by decide) rfl; have e11 := hcj.1 11 _ (by decide) rfl; have e12 := hcj.1 12 _ (by decide) rfl; have f4 := hcj.2.1 (J * 14 + 4); have f5 := hcj.2.1 (J * 14 + 5); have f6 := hcj.2.1 (J * 14 + 6); have f7 := hcj.2.1 (J * 14 + 7); have f8 := hcj.2.1 (J * 14 + 8); have f9 := hcj.2.1 (J * 14 + 9); have f10 := hcj.2.1 (J * 14 + 10); have f11 := hcj.2.1 (J * 14 + 11); have f12 := hcj.2.1 (J * 14 + 12); have lgB := hcj.2.2.1; have hsc := hcj.2.2.2.2.2.2; clear hcj)
    have hkd : Keeps w4 wa.drew := hka.trans (Keeps.refl _).drew
    obtain ⟨ps0, pt0⟩ := (HS4.out.keep hkd).put' HJ.out (by rw [HN1.out]) 10 (by decide) (.int .i64 4) ⟨rF, rS, ⟨ca, cn, cc0⟩, ⟨a7, AN1, c7x⟩, ⟨lK, lD, lA, lB, lN, lLg⟩, 4, rT, rL, ⟨a9, LN1, c9x⟩⟩ { b2 with Ends := 4 } rfl ⟨hsc.1, hsc.2.1, hsc.2.2.1, rfl, hsc.2.2.2.2.1, hsc.2.2.2.2.2⟩ rfl rfl rfl rfl rfl rfl
    obtain ⟨w14, hw14⟩ : ∃ w14 : World, w14 = wa.drew.setCell ⟨gB, J * 14 + 10, none⟩ (.int .i64 4) := ⟨_, rfl⟩
    rw [← hw14] at ps0 pt0
    obtain ⟨vs0, vt0⟩ := (ps0).put' HJ.out (by rw [HN1.out]) 4 (by decide) (.int .i64 (K)) ⟨rF, rS, ⟨ca, cn, cc0⟩, ⟨a7, AN1, c7x⟩, ⟨K, lD, lA, lB, lN, lLg⟩, 4, rT, rL, ⟨a9, LN1, c9x⟩⟩ { b2 with Ends := 4, Last := ⟨K, lD, lA, lB, lN, lLg⟩ } rfl ⟨hsc.1, hsc.2.1, rfl, rfl, hsc.2.2.2.2.1, hsc.2.2.2.2.2⟩ rfl rfl rfl rfl rfl rfl
    obtain ⟨vs1, vt1⟩ := (vs0).put' HJ.out (by rw [HN1.out]) 5 (by decide) (.int .i64 0) ⟨rF, rS, ⟨ca, cn, cc0⟩, ⟨a7, AN1, c7x⟩, ⟨K, 0, lA, lB, lN, lLg⟩, 4, rT, rL, ⟨a9, LN1, c9x⟩⟩ { b2 with Ends := 4, Last := ⟨K, 0, lA, lB, lN, lLg⟩ } rfl ⟨hsc.1, hsc.2.1, rfl, rfl, hsc.2.2.2.2.1, hsc.2.2.2.2.2⟩ rfl rfl rfl rfl rfl rfl
    obtain ⟨vs2, vt2⟩ := (vs1).put' HJ.out (by rw [HN1.out]) 6 (by decide) (.int .i64 (A2)) ⟨rF, rS, ⟨ca, cn, cc0⟩, ⟨a7, AN1, c7x⟩, ⟨K, 0, A2, lB, lN, lLg⟩, 4, rT, rL, ⟨a9, LN1, c9x⟩⟩ { b2 with Ends := 4, Last := ⟨K, 0, A2, lB, lN, lLg⟩ } rfl ⟨hsc.1, hsc.2.1, rfl, rfl, hsc.2.2.2.2.1, hsc.2.2.2.2.2⟩ rfl rfl rfl rfl rfl rfl
    obtain ⟨vs3, vt3⟩ := (vs2).put' HJ.out (by rw [HN1.out]) 7 (by decide) (.int .i64 (B)) ⟨rF, rS, ⟨ca, cn, cc0⟩, ⟨a7, AN1, c7x⟩, ⟨K, 0, A2, B, lN, lLg⟩, 4, rT, rL, ⟨a9, LN1, c9x⟩⟩ { b2 with Ends := 4, Last := ⟨K, 0, A2, B, lN, lLg⟩ } rfl ⟨hsc.1, hsc.2.1, rfl, rfl, hsc.2.2.2.2.1, hsc.2.2.2.2.2⟩ rfl rfl rfl rfl rfl rfl
    obtain ⟨vs4, vt4⟩ := (vs3).put' HJ.out (by rw [HN1.out]) 8 (by decide) (.int .i64 0) ⟨rF, rS, ⟨ca, cn, cc0⟩, ⟨a7, AN1, c7x⟩, ⟨K, 0, A2, B, 0, lLg⟩, 4, rT, rL, ⟨a9, LN1, c9x⟩⟩ { b2 with Ends := 4, Last := ⟨K, 0, A2, B, 0, lLg⟩ } rfl ⟨hsc.1, hsc.2.1, rfl, rfl, hsc.2.2.2.2.1, hsc.2.2.2.2.2⟩ rfl rfl rfl rfl rfl rfl
    obtain ⟨vs5, vt5⟩ := (vs4).put' HJ.out (by rw [HN1.out]) 9 (by decide) (.bool false) ⟨rF, rS, ⟨ca, cn, cc0⟩, ⟨a7, AN1, c7x⟩, ⟨K, 0, A2, B, 0, false⟩, 4, rT, rL, ⟨a9, LN1, c9x⟩⟩ { b2 with Ends := 4, Last := ⟨K, 0, A2, B, 0, false⟩ } rfl ⟨hsc.1, hsc.2.1, rfl, rfl, hsc.2.2.2.2.1, hsc.2.2.2.2.2⟩ rfl rfl rfl rfl rfl rfl
    have hpt := pt0.trans ((((((vt0).trans vt1).trans vt2).trans vt3).trans vt4).trans vt5)
    have HS14 := Lib.hid ps0
    have HW14 := Lib.hid hw14
    clear hw14
    clear p0 p1 p2 p3 p4 p5 p6 p7 lp5
    obtain ⟨w5, hw5⟩ : ∃ w5 : World, w5 = ((((((w14.setCell ⟨gB, J * 14 + 4, none⟩ (.int .i64 K)).setCell ⟨gB, J * 14 + 5, none⟩ (.int .i64 0)).setCell ⟨gB, J * 14 + 6, none⟩ (.int .i64 A2)).setCell ⟨gB, J * 14 + 7, none⟩ (.int .i64 B)).setCell ⟨gB, J * 14 + 8, none⟩ (.int .i64 0)).setCell ⟨gB, J * 14 + 9, none⟩ (.bool false)) := ⟨_, rfl⟩
    rw [← hw5] at vs5 hpt
    have HS5 := Lib.hid vs5
    have hX5 := (HX4.out.keeps hkd).turn hpt (by decide) (by decide) (by decide) (by decide)
    have hM5 := (HM4.out.keep hkd).turn hpt (by decide)
    have hb55 := (HB54.out.keep hkd).turn hpt (by decide)
    have hT5 := (HT4.out.keep hkd).trans (hpt.mono (J := (fun i => i = 1 ∨ i = 6 ∨ i = 10 ∨ 16 ≤ i)) fun i h => Or.inr (Or.inr h))
    have hd5 : Keeps w5 w5.drew := (Keeps.refl _).drew
    have hcj := (HS5.out.keep hd5).cellJ HJ.out (by rw [HN1.out])
    have g11 : w5.cell? ⟨gB, J * 14 + 11, none⟩ = some (.int .i64 rT) := hcj.1 11 _ (by decide) rfl
    have g12 : w5.cell? ⟨gB, J * 14 + 12, none⟩ = some (.int .i64 rL) := hcj.1 12 _ (by decide) rfl
    have z11 : w5.frozen? ⟨gB, J * 14 + 11, none⟩ = false := hcj.2.1 (J * 14 + 11)
    have z12 : w5.frozen? ⟨gB, J * 14 + 12, none⟩ = false := hcj.2.1 (J * 14 + 12)
    have lg5 : gB < w5.heap.size := hcj.2.2.1
    obtain ⟨us0, ut0⟩ := (HS5.out.keep hd5).put' HJ.out (by rw [HN1.out]) 11 (by decide) (.int .i64 (A + N)) ⟨rF, rS, ⟨ca, cn, cc0⟩, ⟨a7, AN1, c7x⟩, ⟨K, 0, A2, B, 0, false⟩, 4, A + N, rL, ⟨a9, LN1, c9x⟩⟩ { b2 with Ends := 4, Last := ⟨K, 0, A2, B, 0, false⟩, To := A + N } rfl ⟨hsc.1, hsc.2.1, rfl, rfl, rfl, hsc.2.2.2.2.2⟩ rfl rfl rfl rfl rfl rfl
    obtain ⟨us1, ut1⟩ := (us0).put' HJ.out (by rw [HN1.out]) 12 (by decide) (.int .i64 (A + Z)) ⟨rF, rS, ⟨ca, cn, cc0⟩, ⟨a7, AN1, c7x⟩, ⟨K, 0, A2, B, 0, false⟩, 4, A + N, A + Z, ⟨a9, LN1, c9x⟩⟩ { b2 with Ends := 4, Last := ⟨K, 0, A2, B, 0, false⟩, To := A + N, Else := A + Z } rfl ⟨hsc.1, hsc.2.1, rfl, rfl, rfl, rfl⟩ rfl rfl rfl rfl rfl rfl
    have hqt := (ut0).trans ut1
    have HX6 := Lib.hid ((hX5.keeps hd5).turn hqt (by decide) (by decide) (by decide) (by decide))
    have HM6 := Lib.hid ((hM5.keep hd5).turn hqt (by decide))
    have HT6 := Lib.hid ((hT5.keep hd5).trans (hqt.mono (J := (fun i => i = 1 ∨ i = 6 ∨ i = 10 ∨ 16 ≤ i)) fun i h => Or.inr (Or.inr h)))
    have HS6 := Lib.hid us1
    have HC5 := Lib.hid (show Cells [(b5, 0, .int .i64 A), (b5, 1, .int .i64 Z), (b5, 6, .int .i64 N)] w5.drew from ⟨hb55.1.cell rfl, hb55.1.cell rfl, hb55.1.cell rfl, trivial⟩)
    have HG11 := Lib.hid g11
    have HG12 := Lib.hid g12
    have HZ11 := Lib.hid z11
    have HZ12 := Lib.hid z12
    have HLG5 := Lib.hid lg5
    have HW5 := Lib.hid hw5
    clear hw5 hpt hX5 hM5 hT5 hcj hqt hd5 hb55 hka hsc ps0 pt0 vs0 vt0 vs1 vt1 vs2 vt2 vs3 vt3 vs4 vt4 vs5 vt5 us0 us1 ut0 ut1 g11 g12 z11 z12 lg5 hkd
    refine wp_region_held_drew (S := Cells [(b5, 0, .int .i64 A), (b5, 1, .int .i64 Z), (b5, 2, .int .i64 K), (b5, 3, .int .i64 D), (b5, 4, .int .i64 A2), (b5, 5, .int .i64 B), (b5, 6, .int .i64 N), (b5, 7, .bool Lg)]) (by kernel_rfl) ⟨q0, q1, q2, q3, q4, q5, q6, q7, trivial⟩ (fun hHeld => ?_)
    clear q0 q1 q2 q3 q4 q5 q6 q7
    refine takeC 0 hHeld ?_
    refine takeC 1 hHeld ?_
    refine takeC 2 hHeld ?_
    refine takeC 3 hHeld ?_
    refine takeC 4 hHeld ?_
    refine takeC 5 hHeld ?_
    refine takeC 6 hHeld ?_
    refine takeC 7 hHeld ?_
    refine takeC 8 hHeld ?_
    refine takeC 9 hHeld ?_
    refine takeC 10 hHeld ?_
    refine takeC 11 hHeld ?_
    refine takeC 12 hHeld ?_
    refine takeC 13 hHeld ?_
    refine wpAnyH_ready (rs := [14]) (by kernel_rfl) (by simp) ?_
    refine AllReadyH.cons (o := ?or10) ?hr10 ?sr10 ?mr10
    case hr10 => (simp only [List.getElem?_toArray, List.getElem?_cons_zero, List.getElem?_cons_succ]; try rfl)
    case mr10 => exact AllReadyH.nil
    case sr10 =>
    intro K' hK
    go_simp
    refine hK.out _ _ (by first | (refine Cells.keep ?_ ((Keeps.refl _).drew); (repeat refine Cells.set ?_ (by simp [hne2])); exact hHeld) | ((repeat refine Cells.set ?_ (by simp [hne2])); exact hHeld)) (fun hHeld2 => ?_)
    clear hK K' hHeld
    have hHeld := hHeld2
    clear hHeld2
    try simp only [Act.put, List.setIfInBounds_toArray, List.set_cons_zero, List.set_cons_succ]
    rw [show ((wa.setCell ⟨gB, J * 14 + 10, none⟩ (.int .i64 4)).drew) = w14 from HW14.out.symm] at hHeld ⊢
    clear e4 e5 e6 e7 e8 e9 e10 e11 e12 f4 f5 f6 f7 f8 f9 f10 f11 f12 lgB lb5
    have hcj := HS14.out.cellJ HJ.out (by rw [HN1.out])
    have e4 := hcj.1 4 _ (by decide) rfl
    have e5 := hcj.1 5 _ (by decide) rfl
    have e6 := hcj.1 6 _ (by decide) rfl
    have e7 := hcj.1 7 _ (by decide) rfl
    have e8 := hcj.1 8 _ (by decide) rfl
    have e9 := hcj.1 9 _ (by decide) rfl
    have f4 := hcj.2.1 (J * 14 + 4)
    have f5 := hcj.2.1 (J * 14 + 5)
    have f6 := hcj.2.1 (J * 14 + 6)
    have f7 := hcj.2.1 (J * 14 + 7)
    have f8 := hcj.2.1 (J * 14 + 8)
    have f9 := hcj.2.1 (J * 14 + 9)
    have lgB := hcj.2.2.1
    clear hcj HW14 HS14
    refine takeC 15 hHeld ?_
    refine takeC 16 hHeld ?_
    refine wpAnyH_ready (rs := [17]) (by kernel_rfl) (by simp) ?_
    refine AllReadyH.cons (o := ?or9) ?hr9 ?sr9 ?mr9
    case hr9 => (simp only [List.getElem?_toArray, List.getElem?_cons_zero, List.getElem?_cons_succ]; try rfl)
    case mr9 => exact AllReadyH.nil
    case sr9 =>
    intro K' hK
    go_simp
    refine hK.out _ _ (by (repeat refine Cells.set ?_ (by simp [hne2])); exact hHeld) (fun hHeld2 => ?_)
    clear hK K' hHeld
    have hHeld := hHeld2
    clear hHeld2
    try simp only [Act.put, List.setIfInBounds_toArray, List.set_cons_zero, List.set_cons_succ]
    refine wpAnyH_done (by kernel_rfl) ?_ _
    clear hHeld e4 e5 e6 e7 e8 e9 f4 f5 f6 f7 f8 f9 lgB
    rw [← HW5.out]
    clear HW5
    have g11 := HG11.out
    have g12 := HG12.out
    have z11 := HZ11.out
    have z12 := HZ12.out
    have lg5 := HLG5.out
    go_upto_region 16 with fail
    refine wp_region_held_drew (S := Cells [(b5, 0, .int .i64 A), (b5, 1, .int .i64 Z), (b5, 6, .int .i64 N)]) (by kernel_rfl) HC5.out (fun hHeld => ?_)
    refine takeC 0 hHeld ?_
    refine takeC 1 hHeld ?_
    refine takeC 2 hHeld ?_
    refine takeC 3 hHeld ?_
    refine takeC 4 hHeld ?_
    refine takeC 5 hHeld ?_
    refine takeC 6 hHeld ?_
    refine takeC 7 hHeld ?_
    refine takeC 8 hHeld ?_
    refine takeC 9 hHeld ?_
    refine takeC 10 hHeld ?_
    refine takeC 11 hHeld ?_
    refine takeC 12 hHeld ?_
    refine takeC 13 hHeld ?_
    refine takeC 14 hHeld ?_
    refine wpAnyH_ready (rs := [15]) (by kernel_rfl) (by simp) ?_
    refine AllReadyH.cons (o := ?or11) ?hr11 ?sr11 ?mr11
    case hr11 => (simp only [List.getElem?_toArray, List.getElem?_cons_zero, List.getElem?_cons_succ]; try rfl)
    case mr11 => exact AllReadyH.nil
    case sr11 =>
    intro K' hK
    go_simp
    refine hK.out _ _ (by first | (refine Cells.keep ?_ ((Keeps.refl _).drew); (repeat refine Cells.set ?_ (by simp [hne2])); exact hHeld) | ((repeat refine Cells.set ?_ (by simp [hne2])); exact hHeld)) (fun hHeld2 => ?_)
    clear hK K' hHeld
    have hHeld := hHeld2
    clear hHeld2
    try simp only [Act.put, List.setIfInBounds_toArray, List.set_cons_zero, List.set_cons_succ]
    refine takeC 16 hHeld ?_
    refine takeC 17 hHeld ?_
    have hHeld := HC5.out
    refine wpAnyH_ready (rs := [18]) (by kernel_rfl) (by simp) ?_
    refine AllReadyH.cons (o := ?or12) ?hr12 ?sr12 ?mr12
    case hr12 => (simp only [List.getElem?_toArray, List.getElem?_cons_zero, List.getElem?_cons_succ]; try rfl)
    case mr12 => exact AllReadyH.nil
    case sr12 =>
    intro K' hK
    go_simp
    refine hK.out _ _ (by first | (refine Cells.keep ?_ ((Keeps.refl _).drew); (repeat refine Cells.set ?_ (by simp [hne2])); exact hHeld) | ((repeat refine Cells.set ?_ (by simp [hne2])); exact hHeld)) (fun hHeld2 => ?_)
    clear hK K' hHeld
    have hHeld := hHeld2
    clear hHeld2
    try simp only [Act.put, List.setIfInBounds_toArray, List.set_cons_zero, List.set_cons_succ]
    refine wpAnyH_done (by kernel_rfl) ?_ _
    clear hHeld
    go_wp2_with fail
    have hsz := HS6.out
    rw [← HSPEC.out] at hsz
    have HSZ := Lib.hid hsz
    clear hsz
    go_roundw
    case rel =>
     refine ⟨k + 1, _, _, _, ⟨C1.bs.set J (pbS m ⟨A, Z, ⟨K, D, A2, B, N, Lg⟩⟩ b0), C1.bm⟩, by omega, by go_num, Lib.hid (by rw [HSTEP.out, HMOD.out]), Lib.hid ?_, Lib.hid (fun _ => by dsimp only; rw [List.length_set]; exact HC1P.out), HT6, HX6, HSZ, Lib.hid (MapC.mono HM6.out (by omega))⟩
     refine CutSm.last HSM1.out (by have := HJ.out; omega) ?_ ?_ ?_ <;> (rw [HSPEC.out, HB2.out, ← HB0.out]; simp)
    case measure => simp [intOf]; omega
   case neg =>
   have hbr0 : brN K = false := by simpa using hbr
   rw [hbr0] at HBR
   by_cases h22 : K = 22
   case pos =>
    have t22 : (K == 22) = true := by simpa using h22
    have hspec : pbS m ⟨A, Z, ⟨K, D, A2, B, N, Lg⟩⟩ b0 = { b2 with Ends := 3, To := A + N } := by unfold pbS; rw [if_neg hbr, if_pos h22, HB2.out]
    have HSPEC := Lib.hid hspec
    clear hspec hbr hbr0 h22 HSTP
    go_upto_region 18 with (go_at_call 44; refine (HBR.out _).mono ?_; rintro e wa ⟨rfl, hka⟩; have hcf := HCF.out.keep hka; simp only [Cells] at hcf; obtain ⟨q0, q1, q2, q3, q4, q5, q6, q7, -⟩ := hcf; have lb5 := lt_of_cell q0; have hcj := (HS4.out.keep hka).cellJ HJ.out (by rw [HN1.out]); have e4 := hcj.1 4 _ (by decide) rfl; have e5 := hcj.1 5 _ (by decide) rfl; have e6 := hcj.1 6 _ (by decide) rfl; have e7 := hcj.1 7 _ (by decide) rfl; have e8 := hcj.1 8 _ (by decide) rfl; have e9 := hcj.1 9 _ (by decide) rfl; have e10 := hcj.1 10 _ (by decide) rfl; have e11 := hcj.1 11 _ (by decide) rfl; have e12 := hcj.1 12 _ (by decide) rfl; have f4 := hcj.2.1 (J * 14 + 4); have f5 := hcj.2.1 (J * 14 + 5); have f6 := hcj.2.1 (J * 14 + 6); have f7 := hcj.2.1 (J * 14 + 7); have f8 := hcj.2.1 (J * 14 + 8); have f9 := hcj.2.1 (J * 14 + 9); have f10 := hcj.2.1 (J * 14 + 10); have f11 := hcj.2.1 (J * 14 + 11); have f12 := hcj.2.1 (J * 14 + 12); have lgB := hcj.2.2.1; have hsc := hcj.2.2.2.2.2.2; clear hcj)
    have hkd : Keeps w4 wa.drew := hka.trans (Keeps.refl _).drew
    clear p0 p1 p2 p3 p4 p5 p6 p7 lp5
    obtain ⟨us0, ut0⟩ := (HS4.out.keep hkd).put' HJ.out (by rw [HN1.out]) 10 (by decide) (.int .i64 3) ⟨rF, rS, ⟨ca, cn, cc0⟩, ⟨a7, AN1, c7x⟩, ⟨lK, lD, lA, lB, lN, lLg⟩, 3, rT, rL, ⟨a9, LN1, c9x⟩⟩ { b2 with Ends := 3 } rfl ⟨hsc.1, hsc.2.1, hsc.2.2.1, rfl, hsc.2.2.2.2.1, hsc.2.2.2.2.2⟩ rfl rfl rfl rfl rfl rfl
    obtain ⟨us1, ut1⟩ := (us0).put' HJ.out (by rw [HN1.out]) 11 (by decide) (.int .i64 (A + N)) ⟨rF, rS, ⟨ca, cn, cc0⟩, ⟨a7, AN1, c7x⟩, ⟨lK, lD, lA, lB, lN, lLg⟩, 3, A + N, rL, ⟨a9, LN1, c9x⟩⟩ { b2 with Ends := 3, To := A + N } rfl ⟨hsc.1, hsc.2.1, hsc.2.2.1, rfl, rfl, hsc.2.2.2.2.2⟩ rfl rfl rfl rfl rfl rfl
    have hqt := (ut0).trans ut1
    have HX6 := Lib.hid ((HX4.out.keeps hkd).turn hqt (by decide) (by decide) (by decide) (by decide))
    have HM6 := Lib.hid ((HM4.out.keep hkd).turn hqt (by decide))
    have HT6 := Lib.hid ((HT4.out.keep hkd).trans (hqt.mono (J := (fun i => i = 1 ∨ i = 6 ∨ i = 10 ∨ 16 ≤ i)) fun i h => Or.inr (Or.inr h)))
    have HS6 := Lib.hid us1
    clear hqt hkd us0 us1 ut0 ut1 hka hsc e4 e5 e6 e7 e8 e9 e12 f4 f5 f6 f7 f8 f9 f12 q1 q2 q3 q4 q5 q7
    have HC18 := Lib.hid (show Cells [(b5, 0, .int .i64 A), (b5, 6, .int .i64 N)] wa.drew from ⟨q0, q6, trivial⟩)
    refine wp_region_held_drew (S := Cells [(b5, 0, .int .i64 A), (b5, 6, .int .i64 N)]) (by kernel_rfl) ⟨q0, q6, trivial⟩ (fun hHeld => ?_)
    clear q0 q6
    refine takeC 0 hHeld ?_
    refine takeC 1 hHeld ?_
    refine takeC 2 hHeld ?_
    refine takeC 3 hHeld ?_
    refine takeC 4 hHeld ?_
    refine takeC 5 hHeld ?_
    refine takeC 6 hHeld ?_
    refine takeC 7 hHeld ?_
    refine takeC 8 hHeld ?_
    refine takeC 9 hHeld ?_
    refine wpAnyH_ready (rs := [10]) (by kernel_rfl) (by simp) ?_
    refine AllReadyH.cons (o := ?or13) ?hr13 ?sr13 ?mr13
    case hr13 => (simp only [List.getElem?_toArray, List.getElem?_cons_zero, List.getElem?_cons_succ]; try rfl)
    case mr13 => exact AllReadyH.nil
    case sr13 =>
    intro K' hK
    go_simp
    refine hK.out _ _ (by first | (refine Cells.keep ?_ ((Keeps.refl _).drew); (repeat refine Cells.set ?_ (by simp [hne2])); exact hHeld) | ((repeat refine Cells.set ?_ (by simp [hne2])); exact hHeld)) (fun hHeld2 => ?_)
    clear hK K' hHeld
    have hHeld := hHeld2
    clear hHeld2
    try simp only [Act.put, List.setIfInBounds_toArray, List.set_cons_zero, List.set_cons_succ]
    refine takeC 11 hHeld ?_
    refine takeC 12 hHeld ?_
    have hHeld := HC18.out
    refine wpAnyH_ready (rs := [13]) (by kernel_rfl) (by simp) ?_
    refine AllReadyH.cons (o := ?or14) ?hr14 ?sr14 ?mr14
    case hr14 => (simp only [List.getElem?_toArray, List.getElem?_cons_zero, List.getElem?_cons_succ]; try rfl)
    case mr14 => exact AllReadyH.nil
    case sr14 =>
    intro K' hK
    go_simp
    refine hK.out _ _ (by first | (refine Cells.keep ?_ ((Keeps.refl _).drew); (repeat refine Cells.set ?_ (by simp [hne2])); exact hHeld) | ((repeat refine Cells.set ?_ (by simp [hne2])); exact hHeld)) (fun hHeld2 => ?_)
    clear hK K' hHeld
    have hHeld := hHeld2
    clear hHeld2
    try simp only [Act.put, List.setIfInBounds_toArray, List.set_cons_zero, List.set_cons_succ]
    refine wpAnyH_done (by kernel_rfl) ?_ _
    clear hHeld
    go_wp2_with fail
    have hsz := HS6.out
    rw [← HSPEC.out] at hsz
    have HSZ := Lib.hid hsz
    clear hsz
    go_roundw
    case rel =>
     refine ⟨k + 1, _, _, _, ⟨C1.bs.set J (pbS m ⟨A, Z, ⟨K, D, A2, B, N, Lg⟩⟩ b0), C1.bm⟩, by omega, by go_num, Lib.hid (by rw [HSTEP.out, HMOD.out]), Lib.hid ?_, Lib.hid (fun _ => by dsimp only; rw [List.length_set]; exact HC1P.out), HT6, HX6, HSZ, Lib.hid (MapC.mono HM6.out (by omega))⟩
     refine CutSm.last HSM1.out (by have := HJ.out; omega) ?_ ?_ ?_ <;> (rw [HSPEC.out, HB2.out, ← HB0.out]; simp)
    case measure => simp [intOf]; omega
   case neg =>
   have t22 : (K == 22) = false := by simpa using h22
   have himg := HX4.out.img
   obtain ⟨z0, z1, z2, z3, z4, hz, -, hI1, -⟩ := himg
   injection hz with hz
   simp only [Array.mk.injEq, List.cons.injEq, and_true] at hz
   obtain ⟨rfl, rfl, rfl, rfl, rfl⟩ := hz
   obtain ⟨⟨pK, pD, pA, pB, pN, pLg⟩, hPI⟩ : ∃ i, i = plainI m ⟨A, Z, ⟨K, D, A2, B, N, Lg⟩⟩ := ⟨_, rfl⟩
   have hpl : ∀ W', Keeps w4 W' → Calls Tryd.prog 50 #[.pointer (some ⟨xb, 0, none⟩), .agg #[.int .i64 A, .int .i64 Z, .int .i64 K, .int .i64 D, .int .i64 A2, .int .i64 B, .int .i64 N, .bool Lg]] W' fun e w' => e = .returned (.agg #[.int .i64 pK, .int .i64 pD, .int .i64 pA, .int .i64 pB, .int .i64 pN, .bool pLg]) ∧ Keeps W' w' := fun W' hk' => by
    have hx1 : W'.cell? ⟨xb, 1, none⟩ = some v1 := hk'.cell (HX4.out.blk.1.cell rfl)
    have q := plain_any (m := m) (s := ⟨A, Z, ⟨K, D, A2, B, N, Lg⟩⟩) hx1 (Arr.keep hI1 (HX4.out.keep.trans hk')) HSOK.out
    rw [← hPI] at q
    exact q
   have HPL := Lib.hid hpl
   have HPI := Lib.hid hPI
   have hspec : pbS m ⟨A, Z, ⟨K, D, A2, B, N, Lg⟩⟩ b0 = if stN K = true then { b2 with Code := b2.Code ++ [⟨pK, pD, pA, pB, pN, pLg⟩], Ends := 1, To := 0 } else { b2 with Code := b2.Code ++ [⟨pK, pD, pA, pB, pN, pLg⟩], To := A + Z } := by
    unfold pbS
    rw [if_neg hbr, if_neg h22, hPI, HB2.out]
   have HSPEC0 := Lib.hid hspec
   clear hpl hPI hspec hbr hbr0 h22 hI1
   go_upto_region 10 with (go_at_call 44; refine (HBR.out _).mono ?_; rintro e wa ⟨rfl, hka⟩; have hcf := HCF.out.keep hka; simp only [Cells] at hcf; obtain ⟨q0, q1, q2, q3, q4, q5, q6, q7, -⟩ := hcf; have lb5 := lt_of_cell q0; have hcj := (HS4.out.keep hka).cellJ HJ.out (by rw [HN1.out]); have e4 := hcj.1 4 _ (by decide) rfl; have e5 := hcj.1 5 _ (by decide) rfl; have e6 := hcj.1 6 _ (by decide) rfl; have e7 := hcj.1 7 _ (by decide) rfl; have e8 := hcj.1 8 _ (by decide) rfl; have e9 := hcj.1 9 _ (by decide) rfl; have e10 := hcj.1 10 _ (by decide) rfl; have e11 := hcj.1 11 _ (by decide) rfl; have e12 := hcj.1 12 _ (by decide) rfl; have f4 := hcj.2.1 (J * 14 + 4); have f5 := hcj.2.1 (J * 14 + 5); have f6 := hcj.2.1 (J * 14 + 6); have f7 := hcj.2.1 (J * 14 + 7); have f8 := hcj.2.1 (J * 14 + 8); have f9 := hcj.2.1 (J * 14 + 9); have f10 := hcj.2.1 (J * 14 + 10); have f11 := hcj.2.1 (J * 14 + 11); have f12 := hcj.2.1 (J * 14 + 12); have lgB := hcj.2.2.1; have hsc := hcj.2.2.2.2.2.2; clear hcj)
   have hd5 : Keeps wa wa.drew := (Keeps.refl _).drew
   clear p0 p1 p2 p3 p4 p5 p6 p7 lp5
   have hcj := (HS4.out.keep (hka.trans hd5)).cellJ HJ.out (by rw [HN1.out])
   have g2 : wa.drew.cell? ⟨gB, J * 14 + 2, none⟩ = some (.slice ca cn cc0) := hcj.1 2 _ (by decide) rfl
   have hCn : cn = b2.Code.length := by obtain ⟨a', c', e⟩ := own_form' hcj.2.2.2.2.2.1.1.1; injection e with e1 e2 e3
   have HCN := Lib.hid hCn
   have HC0 := Lib.hid (show b2.Code = b0.Code by rw [HB2.out])
   clear hcj hCn e4 e5 e6 e7 e8 e9 e10 e11 e12 f4 f5 f6 f7 f8 f9 f10 f11 f12 lgB lb5 hsc
   refine wp_region_head_tail (S := Cells [(gB, J * 14 + 2, .slice ca cn cc0), (b5, 0, .int .i64 A), (b5, 1, .int .i64 Z), (b5, 2, .int .i64 K), (b5, 3, .int .i64 D), (b5, 4, .int .i64 A2), (b5, 5, .int .i64 B), (b5, 6, .int .i64 N), (b5, 7, .bool Lg)]) 9 0 (v := .pointer (some ⟨gB, J * 14, none⟩)) (by kernel_rfl) rfl (by kernel_rfl) (by kernel_rfl) (by kernel_rfl) (by decide) (fun _ _ _ h => h) (Or.inl ⟨by rfl, fun w => by rfl⟩) (by kernel_rfl) (by kernel_rfl) (by kernel_rfl) (by decide) (by kernel_rfl) ?hS20 (fun hHeld => ?_)
   case hS20 => exact ⟨g2, q0, q1, q2, q3, q4, q5, q6, q7, trivial⟩
   simp only [List.take_succ_cons, List.take_zero, List.drop_succ_cons, List.drop_zero, List.getElem_toArray, List.getElem_cons_zero]
   try simp only [Act.put, List.setIfInBounds_toArray, List.set_cons_zero, List.set_cons_succ]
   refine takeC 1 hHeld ?_
   refine takeC 2 hHeld ?_
   refine takeC 3 hHeld ?_
   refine takeC 4 hHeld ?_
   refine takeC 5 hHeld ?_
   refine takeC 6 hHeld ?_
   refine wpAnyH_ready (rs := [7]) (by kernel_rfl) (by simp) ?_
   refine AllReadyH.cons (o := ?or3) ?hr3 ?sr3 ?mr3
   case hr3 => (simp only [List.getElem?_toArray, List.getElem?_cons_zero, List.getElem?_cons_succ]; try rfl)
   case mr3 => exact AllReadyH.nil
   case sr3 =>
   intro K' hK
   go_simp
   go_at_call 50
   refine (HPL.out _ (hka.trans hd5)).mono ?_
   rintro e wz ⟨rfl, hkz⟩
   refine hK.out _ _ (hHeld.keep hkz) (fun hHeld2 => ?_)
   clear hK K' hHeld
   have hHeld := hHeld2
   clear hHeld2 HPL
   try simp only [Act.put, List.setIfInBounds_toArray, List.set_cons_zero, List.set_cons_succ]
   have HKZ := Lib.hid ((hka.trans hd5).trans hkz)
   clear hkz hd5 hka g2 q0 q1 q2 q3 q4 q5 q6 q7
   refine wpAnyH_ready (rs := [8]) (by kernel_rfl) (by simp) ?_
   refine AllReadyH.cons (o := ?or8) ?hr8 ?sr8 ?mr8
   case hr8 => (simp only [List.getElem?_toArray, List.getElem?_cons_zero, List.getElem?_cons_succ]; try rfl)
   case mr8 => exact AllReadyH.nil
   case sr8 =>
   intro K hK
   go_simp
   refine hK.out _ _ (Cells.keep hHeld ((Keeps.refl _).alloc _)) (fun hHeld2 => ?_)
   clear hK K hHeld
   have hHeld := hHeld2
   clear hHeld2
   try simp only [Act.put, List.setIfInBounds_toArray, List.set_cons_zero, List.set_cons_succ]
   refine wpAnyH_done (by kernel_rfl) ?_ _
   dsimp only [TailQ]
   clear hHeld
   obtain ⟨CN1, hCN1⟩ : ∃ n, n = cn + 1 := ⟨_, rfl⟩
   have HLA := Lib.hid (show (b2.Code ++ [(⟨pK, pD, pA, pB, pN, pLg⟩ : Ic)]).length = CN1 by rw [List.length_append, List.length_singleton, hCN1, HCN.out])
   have hcnb : cn ≤ 200000 := by have := HCN.out; rw [HC0.out] at this; omega
   clear hCN1
   go_upto_region 11 with (at_builtin; refine wpList_pushes (by rfl) (.tmp 114) (.tmp 118) 75 (by rfl) Tryd.underlying75 info_instr (by rfl) (by decide) (base := w0.heap.size) (f := cic) (l := b2.Code) (by rfl) (by exact (HS4.out.keep (HKZ.out.trans (by repeat (with_reducible (first | assumption | exact Keeps.refl _ | refine Keeps.alloc ?_ _ | refine Keeps.drew ?_)))) |>.cellJ HJ.out (by rw [HN1.out])).2.2.2.2.2.1.1.1) [⟨pK, pD, pA, pB, pN, pLg⟩] _ _ (by rfl) (by exact Blk.top' _ _ (by first | rfl | simp)) cic_len cic_one (by simp only [List.length_cons, List.length_nil, ← HCN.out]; omega) (by simp only [List.length_cons, List.length_nil, ← HCN.out]; unfold maxLen; omega) (by have := HX4.out.keep.size; have := HKZ.out.size; first | omega | (simp only [sz_alloc]; omega)) ?_; intro v7 w7 hown7 hbel7 hgr7 hfr7; obtain ⟨a8, c8x, e7⟩ := own_form' hown7; rw [HLA.out] at e7; subst e7; have hst7 := HS4.out.stay rfl (HKZ.out.trans (by repeat (with_reducible (first | assumption | exact Keeps.refl _ | refine Keeps.alloc ?_ _ | refine Keeps.drew ?_ | refine Keeps.drewN ?_ _)))) hgr7 (fun b e => by have := (HS4.out.cellJ HJ.out (by rw [HN1.out])).2.2.2.2.2.1.1.2 b e; omega); have g2 := hst7.1 _ _ ((HS4.out.cellJ HJ.out (by rw [HN1.out])).1 2 _ (by decide) rfl); have f2 := hst7.2.1 (J * 14 + 2); have l2 := hst7.2.2)
   obtain ⟨c5, ht5, hS5⟩ := HS4.out.pushCode' HJ.out (by rw [HN1.out]) (s7 := ⟨a8, CN1, c8x⟩) (x := ⟨pK, pD, pA, pB, pN, pLg⟩) (HKZ.out.trans (by repeat (with_reducible (first | assumption | exact Keeps.refl _ | refine Keeps.alloc ?_ _ | refine Keeps.drew ?_ | refine Keeps.drewN ?_ _)))) hown7 hgr7 hfr7
   obtain ⟨w5, hw5⟩ : ∃ w5, w5 = w7.setCell ⟨gB, J * 14 + 2, none⟩ (.slice a8 CN1 c8x) := ⟨_, rfl⟩
   rw [← hw5] at ht5 hS5
   rw [← hw5]
   obtain ⟨b3, hb3⟩ : ∃ b, b = { b2 with Code := b2.Code ++ [(⟨pK, pD, pA, pB, pN, pLg⟩ : Ic)] } := ⟨_, rfl⟩
   have HS5 : Hid (BlkS w0.heap.size c5 w5 (.slice (some ⟨gB, 0, none⟩) N1 gcap) (rs2.set J ⟨rF, rS, ⟨a8, CN1, c8x⟩, ⟨a7, AN1, c7x⟩, ⟨lK, lD, lA, lB, lN, lLg⟩, rE, rT, rL, ⟨a9, LN1, c9x⟩⟩) (C1.bs.set J b3)) := Lib.hid (by rw [hb3]; exact hS5)
   have HB3 := Lib.hid hb3
   have hX5 := HX4.out.turn ht5 (by decide) (by decide) (by decide) (by decide)
   have hM5 := HM4.out.turn ht5 (by decide)
   have hb55 := HB54.out.turn ht5 (by decide)
   have hT5 := HT4.out.trans (ht5.mono (J := (fun i => i = 1 ∨ i = 6 ∨ i = 10 ∨ 16 ≤ i)) fun i h => Or.inr (Or.inr h))
   have hcj := HS5.out.cellJ HJ.out (by rw [HN1.out])
   have g11 := hcj.1 11 _ (by decide) rfl
   have z11 := hcj.2.1 (J * 14 + 11)
   have lg5 := hcj.2.2.1
   have hsc := hcj.2.2.2.2.2.2
   have q0 : w5.cell? ⟨b5, 0, none⟩ = some (.int .i64 A) := hb55.1.cell rfl
   have q1 : w5.cell? ⟨b5, 1, none⟩ = some (.int .i64 Z) := hb55.1.cell rfl
   have lb5 := hb55.1.lt
   obtain ⟨us0, ut0⟩ := (HS5.out).put' HJ.out (by rw [HN1.out]) 11 (by decide) (.int .i64 (A + Z)) ⟨rF, rS, ⟨a8, CN1, c8x⟩, ⟨a7, AN1, c7x⟩, ⟨lK, lD, lA, lB, lN, lLg⟩, rE, A + Z, rL, ⟨a9, LN1, c9x⟩⟩ { b3 with To := A + Z } rfl ⟨hsc.1, hsc.2.1, hsc.2.2.1, hsc.2.2.2.1, rfl, hsc.2.2.2.2.2⟩ rfl rfl rfl rfl rfl rfl
   obtain ⟨w6, hw6⟩ : ∃ w6, w6 = w5.setCell ⟨gB, J * 14 + 11, none⟩ (.int .i64 (A + Z)) := ⟨_, rfl⟩
   rw [← hw6] at us0 ut0
   have HS6 := Lib.hid us0
   have HX6 := Lib.hid (hX5.turn ut0 (by decide) (by decide) (by decide) (by decide))
   have HM6 := Lib.hid (hM5.turn ut0 (by decide))
   have hb56 := hb55.turn ut0 (by decide)
   have HT6 := Lib.hid (hT5.trans (ut0.mono (J := (fun i => i = 1 ∨ i = 6 ∨ i = 10 ∨ 16 ≤ i)) fun i h => Or.inr (Or.inr h)))
   have HW6 := Lib.hid hw6
   clear hw6 us0 ut0 hX5 hM5 hb55 hT5 hcj hsc ht5 hS5 hw5 hown7 hbel7 hgr7 hfr7 hst7 g2 f2 l2 hb3
   go_upto_region 12 with fail
   rw [← HW6.out]
   clear HW6 g11 z11 lg5 q0 q1 lb5
   have q0 := hb56.1.cell (j := 0) rfl
   have q1 := hb56.1.cell (j := 1) rfl
   have q2 := hb56.1.cell (j := 2) rfl
   have q3 := hb56.1.cell (j := 3) rfl
   have q4 := hb56.1.cell (j := 4) rfl
   have q5 := hb56.1.cell (j := 5) rfl
   have q6 := hb56.1.cell (j := 6) rfl
   have q7 := hb56.1.cell (j := 7) rfl
   have lb5 := hb56.1.lt
   clear hb56
   by_cases hst9 : stN K = true
   case pos =>
    rw [hst9] at HSTP
    have HSPEC : Hid (pbS m ⟨A, Z, ⟨K, D, A2, B, N, Lg⟩⟩ b0 = { b3 with To := 0, Ends := 1 }) := Lib.hid (by rw [HSPEC0.out, if_pos hst9, HB3.out])
    have HB2C := HB2
    clear hst9
    go_upto_region 13 with (go_at_call 43; refine (HSTP.out _).mono ?_; rintro e wb ⟨rfl, hkb⟩; have hcj := (HS6.out.keep hkb).cellJ HJ.out (by rw [HN1.out]); have e10 := hcj.1 10 _ (by decide) rfl; have e11 := hcj.1 11 _ (by decide) rfl; have f10 := hcj.2.1 (J * 14 + 10); have f11 := hcj.2.1 (J * 14 + 11); have lgB := hcj.2.2.1; have hsc := hcj.2.2.2.2.2.2; clear hcj)
    obtain ⟨ys0, yt0⟩ := (HS6.out.keep hkb).put' HJ.out (by rw [HN1.out]) 10 (by decide) (.int .i64 1) ⟨rF, rS, ⟨a8, CN1, c8x⟩, ⟨a7, AN1, c7x⟩, ⟨lK, lD, lA, lB, lN, lLg⟩, 1, A + Z, rL, ⟨a9, LN1, c9x⟩⟩ { b3 with To := A + Z, Ends := 1 } rfl ⟨hsc.1, hsc.2.1, hsc.2.2.1, rfl, rfl, hsc.2.2.2.2.2⟩ rfl rfl rfl rfl rfl rfl
    obtain ⟨ys1, yt1⟩ := (ys0).put' HJ.out (by rw [HN1.out]) 11 (by decide) (.int .i64 0) ⟨rF, rS, ⟨a8, CN1, c8x⟩, ⟨a7, AN1, c7x⟩, ⟨lK, lD, lA, lB, lN, lLg⟩, 1, 0, rL, ⟨a9, LN1, c9x⟩⟩ { b3 with To := 0, Ends := 1 } rfl ⟨hsc.1, hsc.2.1, hsc.2.2.1, rfl, rfl, hsc.2.2.2.2.2⟩ rfl rfl rfl rfl rfl rfl
    have hqt := (yt0).trans yt1
    have HX7 := Lib.hid ((HX6.out.keeps hkb).turn hqt (by decide) (by decide) (by decide) (by decide))
    have HM7 := Lib.hid ((HM6.out.keep hkb).turn hqt (by decide))
    have HT7 := Lib.hid ((HT6.out.keep hkb).trans (hqt.mono (J := (fun i => i = 1 ∨ i = 6 ∨ i = 10 ∨ 16 ≤ i)) fun i h => Or.inr (Or.inr h)))
    have HS7 := Lib.hid ys1
    clear hqt hsc ys0 ys1 yt0 yt1
    go_wp2_with fail
    have hsz := HS7.out
    rw [← HSPEC.out] at hsz
    have HSZ := Lib.hid hsz
    clear hsz
    go_roundw
    case rel =>
     refine ⟨k + 1, _, _, _, ⟨C1.bs.set J (pbS m ⟨A, Z, ⟨K, D, A2, B, N, Lg⟩⟩ b0), C1.bm⟩, by omega, by go_num, Lib.hid (by rw [HSTEP.out, HMOD.out]), Lib.hid ?_, Lib.hid (fun _ => by dsimp only; rw [List.length_set]; exact HC1P.out), HT7, HX7, HSZ, Lib.hid (MapC.mono HM7.out (by omega))⟩
     refine CutSm.last HSM1.out (by have := HJ.out; omega) ?_ ?_ ?_ <;> (rw [HSPEC.out, HB3.out, HB2.out, ← HB0.out]; simp)
    case measure => simp [intOf]; omega
   case neg =>
    have hst0 : stN K = false := by simpa using hst9
    rw [hst0] at HSTP
    have HSPEC : Hid (pbS m ⟨A, Z, ⟨K, D, A2, B, N, Lg⟩⟩ b0 = { b3 with To := A + Z }) := Lib.hid (by rw [HSPEC0.out, if_neg hst9, HB3.out])
    clear hst9 hst0
    go_wp2_with (go_at_call 43; refine (HSTP.out _).mono ?_; rintro e wb ⟨rfl, hkb⟩; have hcj := (HS6.out.keep hkb).cellJ HJ.out (by rw [HN1.out]); have e10 := hcj.1 10 _ (by decide) rfl; have e11 := hcj.1 11 _ (by decide) rfl; have f10 := hcj.2.1 (J * 14 + 10); have f11 := hcj.2.1 (J * 14 + 11); have lgB := hcj.2.2.1; have hsc := hcj.2.2.2.2.2.2; clear hcj)
    have hsz := HS6.out.keep hkb
    rw [← HSPEC.out] at hsz
    have HSZ := Lib.hid hsz
    clear hsz
    go_roundw
    case rel =>
     refine ⟨k + 1, _, _, _, ⟨C1.bs.set J (pbS m ⟨A, Z, ⟨K, D, A2, B, N, Lg⟩⟩ b0), C1.bm⟩, by omega, by go_num, Lib.hid (by rw [HSTEP.out, HMOD.out]), Lib.hid ?_, Lib.hid (fun _ => by dsimp only; rw [List.length_set]; exact HC1P.out), (Lib.hid (HT6.out.keep hkb)), (Lib.hid (HX6.out.keeps hkb)), HSZ, Lib.hid (MapC.mono (HM6.out.keep hkb) (by omega))⟩
     refine CutSm.last HSM1.out (by have := HJ.out; omega) ?_ ?_ ?_ <;> (rw [HSPEC.out, HB3.out, HB2.out, ← HB0.out]; simp)
    case measure => simp [intOf]; omega
end Go.Proofs.YtnekiooaobnndaaDoor
