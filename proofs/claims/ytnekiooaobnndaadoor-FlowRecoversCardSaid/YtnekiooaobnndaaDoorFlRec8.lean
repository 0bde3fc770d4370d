/-
 (*finder).join: addresses become places; the tables.
-/
import Derived.Test.YtnekiooaobnndaaDoorFlRec7
import Derived.Test.YtnekiooaobnndaaDoorFlRec9P
set_option linter.unusedVariables false
set_option linter.unusedSimpArgs false
namespace Go.Proofs.YtnekiooaobnndaaDoor
open Go.RowKit BH
set_option maxHeartbeats 1000000000
set_option maxRecDepth 100000
/-- what join leaves -/
def JoinAns (m : Img) (w0 : World) (v0 v1 v2 v3 v4 va : Value) (vs : List Sle) (L : List (List Sp)) (xb ob lb kb : Nat) (vB vF : Value) (c : Nat → Nat) (w : World) (bs : List Bk) (bm : Int → Option Int) (w' : World) : Prop :=
 ∃ c' vT rs ts, Turn (fun i => i = 1 ∨ i = 10 ∨ i = 11 ∨ 16 ≤ i) c w c' w' ∧ Fin m w0 v0 v1 v2 v3 v4 va vs L xb ob lb kb vB vT vF c' w' ∧ BlkS w0.heap.size c' w' vB rs (bs.map (joinB bm)) ∧ TabS w0.heap.size (16 + 3 * bs.length) c' w' vT ts (m.Tables.map fun t => t.map fun x => (bm x).getD 0)
theorem join_any {m : Img} {w0 : World} {v0 v1 v2 v3 v4 va : Value} {vs : List Sle} {L : List (List Sp)} {xb ob lb kb nK : Nat} {vB vF : Value} {rs : List Bv} {bs : List Bk} {bm : Int → Option Int} {c : Nat → Nat} {w : World}
  (hX : Fin m w0 v0 v1 v2 v3 v4 va vs L xb ob lb kb vB (.slice none 0 0) vF c w) (hB : BlkS w0.heap.size c w vB rs bs) (hM : MK6 c w kb nK bm) (hsm : CutSm bs 200000)
  (hln : ∀ i, i < bs.length → 0 < (nth bs i).Lines.length) (hto : ∀ i, i < bs.length → wfI (nth bs i).To ∧ wfI (nth bs i).Else) (htl : m.Tables.length ≤ 20) (htt : ∀ i, i < m.Tables.length → (nth m.Tables i).length ≤ 20 ∧ ∀ x ∈ nth m.Tables i, 0 ≤ x ∧ x ≤ 8000) :
  Calls Tryd.prog 18 #[.pointer (some ⟨xb, 0, none⟩)] w fun e w' => e = .returned (.tuple #[]) ∧ JoinAns m w0 v0 v1 v2 v3 v4 va vs L xb ob lb kb vB vF c w bs bm w' := by
 have hxl := hX.blk.1.lt
 obtain ⟨z0, z1, z2, z3, z4, hz, -, -, hI2, -, -⟩ := hX.img
 injection hz with hz
 simp only [Array.mk.injEq, List.cons.injEq, and_true] at hz
 obtain ⟨rfl, rfl, rfl, rfl, rfl⟩ := hz
 obtain ⟨tv, ⟨ta, tcap, rfl, t1, t2, t3, t4⟩, ht5⟩ := hI2
 obtain ⟨ba, bcap, hvB⟩ := own_form' hB.row.1
 obtain ⟨NB, hNB⟩ : ∃ n, n = bs.length := ⟨_, rfl⟩
 rw [hB.len, ← hNB] at hvB
 subst hvB
 obtain ⟨NT, hNT⟩ : ∃ n, n = m.Tables.length := ⟨_, rfl⟩
 have x10 : w.cell? ⟨xb, 10, none⟩ = some (.slice ba NB bcap) := hX.blk.1.cell rfl
 have hsmN : NB ≤ 200000 := by rw [hNB]; exact hsm.1
 have HX := Lib.hid hX
 have HB := Lib.hid hB
 have HM := Lib.hid hM
 have HNB := Lib.hid hNB
 have HNT := Lib.hid hNT
 have HTC := Lib.hid t4
 have HTV := Lib.hid ht5
 have HSM := Lib.hid hsm
 have HLNS := Lib.hid hln
 have HTO := Lib.hid hto
 have HTT := Lib.hid htt
 rw [← hNT] at htl
 clear hX hB hM hNB hsm hln hto htt t1 t2 t3 t4 ht5 hNT
 go_enter Tryd.func18, Tryd.ntmps18
 go_wp2_with fail
 clear x10
 go_loopw [15] (fun s15 wr => ∃ (k : Nat) (cc : Nat → Nat) (rs' : List Bv), k ≤ NB ∧ s15 = .int .i64 k ∧ Hid (Turn (fun i => i = 1 ∨ i = 10 ∨ i = 11 ∨ 16 ≤ i) c w cc wr) ∧ Hid (Fin m w0 v0 v1 (.slice ta m.Tables.length tcap) v3 v4 va vs L xb ob lb kb (.slice ba NB bcap) (.slice none 0 0) vF cc wr) ∧ Hid (MK6 cc wr kb nK bm) ∧ Hid (BlkS w0.heap.size cc wr (.slice ba NB bcap) rs' (jn (joinB bm) bs k))) (fun s15 _ => NB - (intOf s15).toNat)
 case atStart => exact ⟨0, c, rs, Nat.zero_le _, rfl, Lib.hid (Turn.refl _ _ _), HX, HM, Lib.hid (by rw [jn_zero]; exact HB.out)⟩
 case round =>
  obtain ⟨k, cc, rs', hk, rfl, HTa, HXa, HMa, HBR⟩ := hrel
  by_cases hlt : k < NB
  case neg =>
   have tl : decide ((k : Int) < (NB : Int)) = false := decide_eq_false (by omega)
   have hBj : BlkS w0.heap.size cc wr (.slice ba NB bcap) rs' (bs.map (joinB bm)) := by
    have z := HBR.out
    rw [show k = bs.length by rw [← HNB.out]; omega, jn_all] at z
    exact z
   obtain ⟨K0, hK0⟩ : ∃ n, n = 16 + 3 * bs.length := ⟨_, rfl⟩
   have x2 : wr.cell? ⟨xb, 2, none⟩ = some (.slice ta m.Tables.length tcap) := HXa.out.blk.1.cell rfl
   rw [← HNT.out] at x2
   have HBJ := Lib.hid hBj
   have HK0 := Lib.hid hK0
   have hK16 : 16 ≤ K0 := by omega
   clear hBj HBR hK0
   obtain ⟨wo, hwo⟩ : ∃ wo : World, wo = wr := ⟨_, rfl⟩
   subst hwo
   go_wp2_with fail
   clear x2 tl
   go_loopw [99] (fun s99 wn => ∃ (i : Nat) (c2 : Nat → Nat) (vT : Value) (ts : List Sle), i ≤ NT ∧ s99 = .int .i64 i ∧ Hid (Turn (fun i => i = 1 ∨ i = 10 ∨ i = 11 ∨ 16 ≤ i) cc wo c2 wn) ∧ Hid (Fin m w0 v0 v1 (.slice ta m.Tables.length tcap) v3 v4 va vs L xb ob lb kb (.slice ba NB bcap) vT vF c2 wn) ∧ Hid (BlkS w0.heap.size c2 wn (.slice ba NB bcap) rs' (bs.map (joinB bm))) ∧ Hid (MK6 c2 wn kb nK bm) ∧ Hid (TabS w0.heap.size K0 c2 wn vT ts ((m.Tables.take i).map fun t => t.map fun x => (bm x).getD 0))) (fun s99 _ => NT - (intOf s99).toNat)
   case atStart => exact ⟨0, cc, _, [], Nat.zero_le _, rfl, Lib.hid (Turn.refl _ _ _), HXa, HBJ, HMa, Lib.hid (TabS.nil _ _ _ _)⟩
   case round =>
    obtain ⟨i, c2, vT, ts, hi, rfl, HT2, HX2, HB2, HM2, HTS⟩ := hrel
    by_cases hlt2 : i < NT
    case neg =>
     have tl2 : decide ((i : Int) < (NT : Int)) = false := decide_eq_false (by omega)
     go_wp2_with fail
     refine bodyPost_end (results_none rfl _ _ _) rfl ?_
     refine ⟨rfl, c2, vT, rs', ts, HTa.out.trans HT2.out, HX2.out, HB2.out, ?_⟩
     have z := HTS.out
     rw [show i = m.Tables.length by rw [← HNT.out]; omega, List.take_length, HK0.out] at z
     exact z
    case pos =>
    have hlz2 : (i : Int) < (NT : Int) := by omega
    have hiT : i < m.Tables.length := by rw [← HNT.out]; exact hlt2
    obtain ⟨tb, tof, hta, htc⟩ := HTC.out (by omega)
    subst hta
    obtain ⟨sa, scap, hsv, s1, s2, s3, s4⟩ := HTV.out i hiT
    obtain ⟨LT, hLT⟩ : ∃ l, l = nth m.Tables i := ⟨_, rfl⟩
    obtain ⟨TN, hTN⟩ : ∃ n, n = LT.length := ⟨_, rfl⟩
    rw [← hLT, ← hTN] at hsv s4
    have y0 : wr.cell? ⟨tb, tof + i, none⟩ = some (.slice sa TN scap) := by
     have z := HX2.out.keep.cell (htc i 0 hiT (by decide))
     rw [hsv] at z
     simpa using z
    have htt9 := HTT.out i hiT
    rw [← hLT, ← hTN] at htt9
    obtain ⟨KT, hKT⟩ : ∃ n, n = K0 + i := ⟨_, rfl⟩
    obtain ⟨wp, hwp⟩ : ∃ wp : World, wp = wr := ⟨_, rfl⟩
    subst hwp
    have HLT := Lib.hid hLT
    have HTN := Lib.hid hTN
    have HT9 := Lib.hid htt9
    have hTN20 : TN ≤ 20 := htt9.1
    have HKT := Lib.hid hKT
    have HS4 := Lib.hid s4
    clear hsv s1 s2 s3 s4 htc hLT hTN htt9 hKT
    go_wp2_with fail
    clear y0
    go_loopw [6, 105] (fun s6 s105 wn => ∃ (j : Nat) (acc : List Int) (c4 : Nat → Nat), j ≤ TN ∧ s105 = .int .i64 j ∧ Hid (acc = (LT.take j).map fun x => (bm x).getD 0) ∧ Hid (Turn (fun z => z = KT) c2 wp c4 wn) ∧ Hid (OwnC KT c4 wn w0.heap.size 3 1 ci s6 acc)) (fun _ s105 _ => TN - (intOf s105).toNat)
    case atStart => exact ⟨0, [], c2, Nat.zero_le _, rfl, Lib.hid rfl, Lib.hid (Turn.refl _ _ _), Lib.hid (OwnC.nil _ _ _ _ _ _ _)⟩
    case round =>
     obtain ⟨j, acc, c4, hj, rfl, HAC, HT4, HO4⟩ := hrel
     obtain ⟨a6, c6, e6⟩ := own_form' HO4.out.1
     obtain ⟨NA, hNA⟩ : ∃ n, n = acc.length := ⟨_, rfl⟩
     rw [← hNA] at e6
     subst e6
     have hNAj : NA = j := by rw [hNA, HAC.out, List.length_map, List.length_take, ← HTN.out]; omega
     have hT20 : NA ≤ 20 := by have := HT9.out.1; omega
     have HNA := Lib.hid hNA
     have HNAJ := Lib.hid hNAj
     clear hNA hNAj
     have hX4 := HX2.out.turn HT4.out (by have := HKT.out; omega) (by have := HKT.out; omega) (by have := HKT.out; omega) (by have := HKT.out; omega)
     by_cases hlt3 : j < TN
     case neg =>
      have tl3 : decide ((j : Int) < (TN : Int)) = false := decide_eq_false (by omega)
      have hacc : acc = LT.map fun x => (bm x).getD 0 := by rw [HAC.out, show j = LT.length by rw [← HTN.out]; omega, List.take_length]
      have htst := HTS.out.turn HT4.out (by have := HKT.out; omega) (fun z hz => by have h1 := HKT.out; rw [List.length_map, List.length_take] at hz; omega)
      obtain ⟨ta4, tc4, hvT⟩ := own_form' htst.row.1
      obtain ⟨NS, hNS⟩ : ∃ n, n = ts.length := ⟨_, rfl⟩
      rw [← hNS] at hvT
      subst hvT
      have hNSi : NS = i := by rw [hNS, htst.len, List.length_map, List.length_take]; omega
      have x11 : wr.cell? ⟨xb, 11, none⟩ = some (.slice ta4 NS tc4) := hX4.blk.1.cell rfl
      have hxl4 := hX4.blk.1.lt
      obtain ⟨NS1, hNS1⟩ : ∃ n, n = NS + 1 := ⟨_, rfl⟩
      have HLA := Lib.hid (show (ts ++ [(⟨a6, NA, c6⟩ : Sle)]).length = NS1 by rw [List.length_append, List.length_singleton, hNS1, hNS])
      have hNSb : NS ≤ 20 := by omega
      have HNS := Lib.hid hNS
      have HTST := Lib.hid htst
      have HX4 := Lib.hid hX4
      have HACC := Lib.hid hacc
      have hLi : ((m.Tables.take i).map fun t => t.map fun x => (bm x).getD 0).length = i := by rw [List.length_map, List.length_take]; omega
      have hOC : OwnC (K0 + ((m.Tables.take i).map fun t => t.map fun x => (bm x).getD 0).length) c4 wr w0.heap.size 3 1 ci (⟨a6, NA, c6⟩ : Sle).v acc := by rw [hLi, ← HKT.out]; exact HO4.out
      have HOC := Lib.hid hOC
      have hB4 := HB2.out.turnF HT4.out (by have := HKT.out; omega) (fun z h1 h2 => by rw [List.length_map] at h2; have := HKT.out; have := HK0.out; omega)
      have hM4 := HM2.out.turn HT4.out (by have := HKT.out; omega)
      have hT4' : Turn (fun i => i = 1 ∨ i = 10 ∨ i = 11 ∨ 16 ≤ i) cc wo c4 wr := HT2.out.trans (HT4.out.mono fun z hz => by have := HKT.out; omega)
      have HB4 := Lib.hid hB4
      have HM4 := Lib.hid hM4
      have HT4' := Lib.hid hT4'
      clear hX4 htst hacc hNS hLi hOC hB4 hM4 hT4' hNS1 hNSi
      go_wp2_with (at_builtin; refine wpList_pushes (by rfl) (.tmp 124) (.tmp 126) 24 (by rfl) Tryd.underlying24 info_ints (by rfl) (by decide) (base := w0.heap.size) (f := sle) (l := ts) (by rfl) (by exact HTST.out.row.1.keep (by repeat (with_reducible (first | assumption | exact Keeps.refl _ | refine Keeps.alloc ?_ _ | refine Keeps.drew ?_ | refine Keeps.drewN ?_ _)))) [⟨a6, NA, c6⟩] _ _ (by rfl) (by exact Blk.top' _ _ (by first | rfl | simp)) sle_len sle_one (by simp only [List.length_cons, List.length_nil, ← HNS.out]; omega) (by simp only [List.length_cons, List.length_nil, ← HNS.out]; unfold maxLen; omega) (by have := HX4.out.keep.size; first | omega | (simp only [sz_alloc, sz_drew]; omega)) ?_; intro v7 w7 hown7 hbel7 hgr7 hfr7; obtain ⟨c5, ht5, hTS5⟩ := HTST.out.push (by omega) HOC.out (show Keeps wr _ from (by repeat (with_reducible (first | assumption | exact Keeps.refl _ | refine Keeps.alloc ?_ _ | refine Keeps.drew ?_ | refine Keeps.drewN ?_ _)))) hown7 hgr7 hfr7; have hX5 := HX4.out.turn ht5 (by decide) (by decide) (by decide) (by decide); have x11 := hX5.blk.1.cell (j := 11) rfl; have f11 := hX5.blk.1.thawed 11; have l5 := hX5.blk.1.lt; obtain ⟨ba3, bc3, e7⟩ := own_form' hown7; rw [HLA.out] at e7; subst e7)
      obtain ⟨hX6, ht6⟩ := hX5.put (vB' := .slice ba NB bcap) (vT' := .slice ba3 NS1 bc3) (vF' := vF) (w' := w7.setCell ⟨xb, 11, none⟩ (.slice ba3 NS1 bc3)) rfl rfl
      have HT6 := Lib.hid ((HT4'.out.trans (ht5.mono (J := fun i => i = 1 ∨ i = 10 ∨ i = 11 ∨ 16 ≤ i) fun i h => Or.inr (Or.inr (Or.inl h)))).trans (ht6.mono fun i h => Or.inl h))
      have HB6 := Lib.hid ((HB4.out.turn ht5 (by decide) (fun i hi => by omega)).turn ht6 (by decide) (fun i hi => by omega))
      have HM6 := Lib.hid ((HM4.out.turn ht5 (by decide)).turn ht6 (by decide))
      have HTS6 := Lib.hid (hTS5.turn ht6 (by decide) (fun i _ => by omega))
      have HX6 := Lib.hid hX6
      clear hX6 ht6 hown7 hbel7 hgr7 hfr7 ht5 hX5 x11 f11 l5 hTS5 HT4 HT2
      go_roundw
      case rel => exact ⟨i + 1, _, _, _, by omega, by go_num, HT6, HX6, HB6, HM6, Lib.hid (by rw [take_succ_nth _ _ hiT, List.map_append, List.map_singleton, ← HLT.out, ← HACC.out]; exact HTS6.out)⟩
      case measure => simp [intOf]; omega
     case pos =>
     have hlz3 : (j : Int) < (TN : Int) := by omega
     obtain ⟨ab, aof, rfl, hsc4⟩ := HS4.out (by omega)
     obtain ⟨x, hx⟩ : ∃ x, x = nth LT j := ⟨_, rfl⟩
     have y1 : wr.cell? ⟨ab, aof + j, none⟩ = some (.int .i64 x) := by
      have z := hX4.keep.cell (hsc4 j 0 hlt3 (by decide))
      rw [← hx] at z
      simpa using z
     have hxb := HT9.out.2 x (by rw [hx]; rw [nth_eq _ _ (by rw [← HTN.out]; exact hlt3)]; exact List.getElem_mem _)
     have HWX := Lib.hid (wfI_of (c := x) (by omega) (by omega))
     have x9 : wr.cell? ⟨xb, 9, none⟩ = some (.map (some kb)) := hX4.blk.1.cell rfl
     have HM4 := Lib.hid (HM2.out.turn HT4.out (by have := HKT.out; omega))
     obtain ⟨PX, hPX⟩ : ∃ z, z = (bm x).getD 0 := ⟨_, rfl⟩
     have HPX := Lib.hid hPX
     have HX9 := Lib.hid hx
     have HX4 := Lib.hid hX4
     clear hsc4 hxb hPX hx hX4
     go_wp2_with (first | (at_lookup; refine wpList_look _ rfl (.tmp 113) (.tmp 114) rfl MKII kb nK bm rfl (HM4.out.1.keep (by repeat (with_reducible (first | assumption | exact Keeps.refl _ | refine Keeps.alloc ?_ _ | refine Keeps.drew ?_ | refine Keeps.drewN ?_ _)))) x rfl HWX.out ?_; rw [← HPX.out]) | (at_builtin; refine wpList_pushes (by rfl) (.tmp 109) (.tmp 116) 25 (by rfl) Tryd.underlying25 info_int (by rfl) (by decide) (base := w0.heap.size) (f := ci) (l := acc) (by rfl) (by exact HO4.out.1.keep (by repeat (with_reducible (first | assumption | exact Keeps.refl _ | refine Keeps.alloc ?_ _ | refine Keeps.drew ?_ | refine Keeps.drewN ?_ _)))) [PX] _ _ (by rfl) (by exact Blk.top' _ _ (by first | rfl | simp)) ci_len ci_one (by simp only [List.length_cons, List.length_nil, ← HNA.out]; omega) (by simp only [List.length_cons, List.length_nil, ← HNA.out]; unfold maxLen; omega) (by have := HX4.out.keep.size; first | omega | (simp only [sz_alloc]; omega)) ?_; intro v7 w7 hown7 hbel7 hgr7 hfr7; obtain ⟨c5, ht5, ho5⟩ := HO4.out.push (show Keeps wr _ from (by repeat (with_reducible (first | assumption | exact Keeps.refl _ | refine Keeps.alloc ?_ _ | refine Keeps.drew ?_ | refine Keeps.drewN ?_ _)))) hown7 hgr7 hfr7; have HT5 := Lib.hid (HT4.out.trans ht5); have HO5 := Lib.hid ho5; clear ht5 ho5 hown7 hbel7 hgr7 hfr7))
     go_roundw
     case rel => exact ⟨j + 1, acc ++ [PX], c5, by omega, by go_num, Lib.hid (by rw [take_succ_nth _ _ (by rw [← HTN.out]; exact hlt3), List.map_append, ← HAC.out, HPX.out, HX9.out]; rfl), HT5, HO5⟩
     case measure => simp [intOf]; omega
  case pos =>
  have hltz : (k : Int) < (NB : Int) := by omega
  have hkb0 : k < bs.length := by rw [← HNB.out]; exact hlt
  have hkb : k < (jn (joinB bm) bs k).length := by rw [jn_len _ _ (by omega)]; exact hkb0
  obtain ⟨b0, hb0⟩ : ∃ b, b = nth bs k := ⟨_, rfl⟩
  obtain ⟨⟨rF, rS, ⟨ca, cn, cc0⟩, ⟨aa, an, ac⟩, ⟨lK, lD, lA, lB, lN, lLg⟩, rE, rT, rL, ⟨la, ln, lc⟩⟩, hr0⟩ : ∃ r, r = nth rs' k := ⟨_, rfl⟩
  have hS0 := HBR.out.selfK hkb
  rw [jn_at _ _ hkb0, ← hb0, ← hr0] at hS0
  obtain ⟨gB, gcap, gN, hvB⟩ : ∃ g cap n, (.slice ba NB bcap : Value) = .slice (some ⟨g, 0, none⟩) n cap := by
   obtain ⟨g, cap, e, -⟩ := own_setc (f := cbv) (k := 14) cbv_len HBR.out.row.1 (i := k) (by rw [HBR.out.len]; exact hkb) (c := 0) (by decide)
   exact ⟨g, cap, _, e⟩
  injection hvB with hv1 hv2 hv3
  subst hv1 hv2 hv3
  have hcj := hS0.cellK hkb rfl
  have e10 : wr.cell? ⟨gB, k * 14 + 10, none⟩ = some (.int .i64 rE) := hcj.1 10 _ (by decide) rfl
  have hsc := hcj.2.2.2.2.2.2
  have hx10 : wr.cell? ⟨xb, 10, none⟩ = some (.slice (some ⟨gB, 0, none⟩) NB bcap) := HXa.out.blk.1.cell rfl
  have hEq : rE = b0.Ends := hsc.2.2.2.1
  have hTq : rT = b0.To := hsc.2.2.2.2.1
  have hLq : rL = b0.Else := hsc.2.2.2.2.2
  have HSa := Lib.hid hS0
  have hwf := HTO.out k hkb0
  rw [← hb0, ← hTq, ← hLq] at hwf
  have HWF := Lib.hid hwf
  have hlp := HLNS.out k hkb0
  rw [← hb0] at hlp
  have HLP := Lib.hid hlp
  have hlb := (HSM.out.2 k hkb0).2.2
  rw [← hb0] at hlb
  have HLB : Hid (b0.Lines.length ≤ 300000) := Lib.hid (by omega)
  obtain ⟨PT, hPT⟩ : ∃ z, z = (bm rT).getD 0 := ⟨_, rfl⟩
  obtain ⟨PL, hPL⟩ : ∃ z, z = (bm rL).getD 0 := ⟨_, rfl⟩
  have HPT := Lib.hid hPT
  have HPL := Lib.hid hPL
  have hPT' : PT = (bm b0.To).getD 0 := by rw [hPT, hTq]
  have hPL' : PL = (bm b0.Else).getD 0 := by rw [hPL, hLq]
  have HPT' := Lib.hid hPT'
  have HPL' := Lib.hid hPL'
  have HB0 := Lib.hid hb0
  have HEQ := Lib.hid hEq
  obtain ⟨wa, hwa⟩ : ∃ wa : World, wa = wr := ⟨_, rfl⟩
  subst hwa
  clear hS0 hb0 hr0 hcj hsc hwf hlp hlb hPT hPL hPT' hPL' hEq hTq hLq HBR
  by_cases h1 : rE = 1
  case pos =>
   subst h1
   go_upto_region 9 with fail
   have hd : Keeps wa wa.drew := (Keeps.refl _).drew
   have hcj := (HSa.out.keep hd).cellK hkb rfl
   have g13 : wa.drew.cell? ⟨gB, k * 14 + 13, none⟩ = some (.slice la ln lc) := hcj.1 13 _ (by decide) rfl
   have hOL := hcj.2.2.2.2.2.1.2.2
   have hln : ln = b0.Lines.length := by obtain ⟨a', c', e⟩ := own_form' hOL.1; injection e with e1 e2 e3
   have hlp : 0 < b0.Lines.length := HLP.out
   obtain ⟨lgb, lgc, lge, -, -, -, -, lgr, -⟩ := own_read1 (h := fun x : Int => .int .i64 x) hOL.1 hlp
   injection lge with lge1 lge2 lge3
   subst lge1
   obtain ⟨LJ, hLJ⟩ : ∃ n, n = ln - 1 := ⟨_, rfl⟩
   obtain ⟨LV, hLV⟩ : ∃ z, z = nth b0.Lines LJ := ⟨_, rfl⟩
   have q0 : wa.drew.cell? ⟨lgb, LJ, none⟩ = some (.int .i64 LV) := by rw [hLV]; exact lgr LJ (by show LJ < b0.Lines.length; omega)
   have hlnb : ln ≤ 300000 := by rw [hln]; exact HLB.out
   have wLJ : IntKind.i64.wrap ((ln : Int) - 1) = (LJ : Int) := by rw [IntKind.wrap_i64]; omega
   have hLJz : (LJ : Int) < (ln : Int) := by omega
   have hLJn : LJ < ln := by omega
   have hLVJ : LV = nth b0.Lines (b0.Lines.length - 1) := by rw [hLV, hLJ, hln]
   have HLN := Lib.hid hln
   have HLV := Lib.hid hLVJ
   clear hOL hcj hln hlp lge2 lge3 lgr hLJ hLV hLVJ
   refine wp_region_head_tail (S := Cells [(gB, k * 14 + 13, .slice (some ⟨lgb, 0, none⟩) ln lc), (lgb, LJ, .int .i64 LV)]) 18 0 (v := .pointer (some ⟨gB, k * 14, none⟩)) (by kernel_rfl) rfl (by kernel_rfl) (by kernel_rfl) (by kernel_rfl) (by decide) (fun _ _ _ h => h) (Or.inl ⟨by rfl, fun w => by rfl⟩) (by kernel_rfl) (by kernel_rfl) (by kernel_rfl) (by decide) (by kernel_rfl) ?hS7 (fun hHeld => ?_)
   case hS7 => exact ⟨g13, q0, trivial⟩
   simp only [List.take_succ_cons, List.take_zero, List.drop_succ_cons, List.drop_zero, List.getElem_toArray, List.getElem_cons_zero]
   try simp only [Act.put, List.setIfInBounds_toArray, List.set_cons_zero, List.set_cons_succ]
   refine takeC 1 hHeld ?_
   refine takeC 2 hHeld ?_
   refine takeC 3 hHeld ?_
   refine takeC 4 hHeld ?_
   refine takeC 5 hHeld ?_
   refine takeC 6 hHeld ?_
   refine takeC 7 hHeld ?_
   refine takeC 8 hHeld ?_
   refine takeC 9 hHeld ?_
   refine takeC 10 hHeld ?_
   refine takeC 11 hHeld ?_
   refine takeC 12 hHeld ?_
   refine takeC 13 hHeld ?_
   refine takeC 14 hHeld ?_
   refine takeC 15 hHeld ?_
   refine takeC 16 hHeld ?_
   refine wpAnyH_ready (rs := [17]) (by kernel_rfl) (by simp) ?_
   refine AllReadyH.cons (o := ?or5) ?hr5 ?sr5 ?mr5
   case hr5 => (simp only [List.getElem?_toArray, List.getElem?_cons_zero, List.getElem?_cons_succ]; try rfl)
   case mr5 => exact AllReadyH.nil
   case sr5 =>
   intro K hK
   go_simp
   refine hK.out _ _ (Cells.keep hHeld ((Keeps.refl _).alloc _)) (fun hHeld2 => ?_)
   clear hK K hHeld
   have hHeld := hHeld2
   clear hHeld2
   try simp only [Act.put, List.setIfInBounds_toArray, List.set_cons_zero, List.set_cons_succ]
   refine wpAnyH_done (by kernel_rfl) ?_ _
   dsimp only [TailQ]
   clear hHeld g13 q0 wLJ hLJz hLJn
   obtain ⟨LN1, hLN1⟩ : ∃ n, n = ln + 1 := ⟨_, rfl⟩
   have HLA := Lib.hid (show (b0.Lines ++ [LV]).length = LN1 by rw [List.length_append, List.length_singleton, hLN1, HLN.out])
   clear hLN1 hd
   go_upto_region 10 with (at_builtin; refine wpList_pushes (by rfl) (.tmp 75) (.tmp 88) 25 (by rfl) Tryd.underlying25 info_int (by rfl) (by decide) (base := w0.heap.size) (f := ci) (l := b0.Lines) (by rfl) (by exact (HSa.out.keep (by repeat (with_reducible (first | assumption | exact Keeps.refl _ | refine Keeps.alloc ?_ _ | refine Keeps.drew ?_ | refine Keeps.drewN ?_ _))) |>.cellK hkb rfl).2.2.2.2.2.1.2.2.1) [LV] _ _ (by rfl) (by exact Blk.top' _ _ (by first | rfl | simp)) ci_len ci_one (by simp only [List.length_cons, List.length_nil, ← HLN.out]; omega) (by simp only [List.length_cons, List.length_nil, ← HLN.out]; unfold maxLen; omega) (by have := HXa.out.keep.size; first | omega | (simp only [sz_alloc, sz_drew]; omega)) ?_; intro v7 w7 hown7 hbel7 hgr7 hfr7; obtain ⟨a9, c9x, e7⟩ := own_form' hown7; rw [HLA.out] at e7; subst e7; have hst7 := HSa.out.stay rfl (show Keeps wa _ from (by repeat (with_reducible (first | assumption | exact Keeps.refl _ | refine Keeps.alloc ?_ _ | refine Keeps.drew ?_ | refine Keeps.drewN ?_ _)))) hgr7 (fun b e => by have := (HSa.out.cellK hkb rfl).2.2.2.2.2.1.2.2.2 b e; omega); have g3 := hst7.1 _ _ ((HSa.out.cellK hkb rfl).1 13 _ (by decide) rfl); have f3 := hst7.2.1 (k * 14 + 13); have l3 := hst7.2.2)
   obtain ⟨c4, ht4, hS4⟩ := HSa.out.pushLnK hkb rfl (s7 := ⟨a9, LN1, c9x⟩) (x := LV) (show Keeps wa _ from (by repeat (with_reducible (first | assumption | exact Keeps.refl _ | refine Keeps.alloc ?_ _ | refine Keeps.drew ?_ | refine Keeps.drewN ?_ _)))) hown7 hgr7 hfr7
   obtain ⟨wb, hwb⟩ : ∃ w', w' = w7.setCell ⟨gB, k * 14 + 13, none⟩ (.slice a9 LN1 c9x) := ⟨_, rfl⟩
   rw [← hwb] at ht4 hS4
   rw [← hwb]
   have HXb := Lib.hid (HXa.out.turn ht4 (by omega) (by omega) (by omega) (by omega))
   have HMb := Lib.hid (HMa.out.turn ht4 (by omega))
   have HTb := Lib.hid (HTa.out.trans (ht4.mono (J := (fun i => i = 1 ∨ i = 10 ∨ i = 11 ∨ 16 ≤ i)) fun i h => by rcases h with h | h <;> simp [h] <;> omega))
   have HSb := Lib.hid hS4
   clear ht4 hS4 hwb hown7 hbel7 hgr7 hfr7 hst7 g3 f3 l3 HLA
   have hjk : joinB bm b0 = { b0 with Lines := b0.Lines ++ [LV] } := by unfold joinB; rw [if_pos HEQ.out.symm, if_neg (by rw [← HEQ.out]; decide), if_pos (Or.inl HEQ.out.symm), HLV.out]
   have HJK := Lib.hid hjk
   clear hjk
   go_wp2_with fail
   go_roundw
   case rel => exact ⟨k + 1, _, _, by omega, by go_num, HTb, HXb, HMb, Lib.hid (by rw [← jn_set _ _ hkb0, ← HB0.out, HJK.out]; exact HSb.out)⟩
   case measure => simp [intOf]; omega
  case neg =>
  have t1 : (rE != 1) = true := by simpa using h1
  by_cases h4 : rE = 4
  case pos =>
   subst h4
   go_upto_region 5 with fail
   have hd : Keeps wa wa.drew := (Keeps.refl _).drew
   have hcj := (HSa.out.keep hd).cellK hkb rfl
   have e11 : wa.drew.cell? ⟨gB, k * 14 + 11, none⟩ = some (.int .i64 rT) := hcj.1 11 _ (by decide) rfl
   have f11 : wa.drew.frozen? ⟨gB, k * 14 + 11, none⟩ = false := hcj.2.1 (k * 14 + 11)
   have lgB := hcj.2.2.1
   have hsc := hcj.2.2.2.2.2.2
   have hx9 : wa.drew.cell? ⟨xb, 9, none⟩ = some (.map (some kb)) := (HXa.out.keeps hd).blk.1.cell rfl
   have hlk : ∀ w', Keeps wa w' → (Instr.lookup 52 (.map (some kb)) (.int .i64 rT) false).run Tryd.prog w' = .ok (.int .i64 PT) w' := fun w' hk' => by
    have z := ((HMa.out.1.keep hk').look MKII (x := rT) HWF.out.1 false).1
    rw [HPT.out]
    exact z
   obtain ⟨hs1, ht1⟩ := (HSa.out.keep hd).putK hkb rfl 11 (by decide) (.int .i64 PT) ⟨rF, rS, ⟨ca, cn, cc0⟩, ⟨aa, an, ac⟩, ⟨lK, lD, lA, lB, lN, lLg⟩, 4, PT, rL, ⟨la, ln, lc⟩⟩ { b0 with To := PT } rfl ⟨hsc.1, hsc.2.1, hsc.2.2.1, hsc.2.2.2.1, rfl, hsc.2.2.2.2.2⟩ rfl rfl rfl rfl rfl rfl
   obtain ⟨wb, hwb⟩ : ∃ w', w' = wa.drew.setCell ⟨gB, k * 14 + 11, none⟩ (.int .i64 PT) := ⟨_, rfl⟩
   rw [← hwb] at hs1 ht1
   have HSb := Lib.hid hs1
   have HXb := Lib.hid ((HXa.out.keeps hd).turn ht1 (by decide) (by decide) (by decide) (by decide))
   have HMb := Lib.hid ((HMa.out.keep hd).turn ht1 (by decide))
   have HTb := Lib.hid ((HTa.out.keep hd).trans (ht1.mono (J := (fun i => i = 1 ∨ i = 10 ∨ i = 11 ∨ 16 ≤ i)) fun i h => Or.inr (Or.inl h)))
   have HLK := Lib.hid hlk
   have HWb := Lib.hid (show (wa.setCell ⟨gB, k * 14 + 11, none⟩ (.int .i64 PT)).drew = wb from hwb.symm)
   clear hs1 ht1 hlk hcj hwb hsc
   refine wp_region_head (S := fun w' => Keeps wa w' ∧ Cells [(gB, k * 14 + 11, .int .i64 rT), (xb, 9, .map (some kb))] w') 10 (by kernel_rfl) (by kernel_rfl) (by kernel_rfl) (by kernel_rfl) (by decide) (by kernel_rfl) ?hS (fun hHeld => ?_)
   case hS => exact ⟨hd, e11, hx9, trivial⟩
   simp only [List.take_succ_cons, List.take_zero, List.drop_succ_cons, List.drop_zero]
   refine takeC 0 hHeld ?_
   refine takeC 1 hHeld ?_
   refine takeC 2 hHeld ?_
   refine takeC 3 hHeld ?_
   refine takeC 4 hHeld ?_
   refine takeC 5 hHeld ?_
   refine takeC 6 hHeld ?_
   refine takeC 7 hHeld ?_
   refine takeC 8 hHeld ?_
   refine wpAnyH_take (i := 9) (oi := ?oq1x9) (v := ?vq1x9) ?hq1x9 ?aq1x9 ?bq1x9 ?cq1x9 ?qq1x9 (Or.inl ⟨?wq1x9, ?yq1x9⟩) hHeld ?rq1x9
   case hq1x9 => (simp only [List.getElem?_toArray, List.getElem?_cons_zero, List.getElem?_cons_succ]; try rfl)
   case aq1x9 => kernel_rfl
   case bq1x9 => kernel_rfl
   case cq1x9 => kernel_rfl
   case qq1x9 => exact fun _ _ _ h => h
   case wq1x9 => rfl
   case yq1x9 =>
    intro w hSw
    have hq := HLK.out _ hSw.1
    simp only [execOp, Act.eval]
    simp [hq, Result.andThen]
    try rfl
   try simp only [Act.put, List.setIfInBounds_toArray, List.set_cons_zero, List.set_cons_succ]
   refine wpAnyH_done (by kernel_rfl) ?_ _
   dsimp only [TailQ]
   clear hHeld hx9 HLK hd
   go_upto_region 6 with fail
   rw [HWb.out]
   clear e11 f11 lgB HWb
   have hcj := HSb.out.cellK hkb rfl
   have e10 : wb.cell? ⟨gB, k * 14 + 10, none⟩ = some (.int .i64 4) := hcj.1 10 _ (by decide) rfl
   clear hcj
   go_upto_region 7 with fail
   have hd : Keeps wb wb.drew := (Keeps.refl _).drew
   have hcj := (HSb.out.keep hd).cellK hkb rfl
   have e12 : wb.drew.cell? ⟨gB, k * 14 + 12, none⟩ = some (.int .i64 rL) := hcj.1 12 _ (by decide) rfl
   have f12 : wb.drew.frozen? ⟨gB, k * 14 + 12, none⟩ = false := hcj.2.1 (k * 14 + 12)
   have lgB := hcj.2.2.1
   have hsc := hcj.2.2.2.2.2.2
   have hx9 : wb.drew.cell? ⟨xb, 9, none⟩ = some (.map (some kb)) := (HXb.out.keeps hd).blk.1.cell rfl
   have hlk : ∀ w', Keeps wb w' → (Instr.lookup 52 (.map (some kb)) (.int .i64 rL) false).run Tryd.prog w' = .ok (.int .i64 PL) w' := fun w' hk' => by
    have z := ((HMb.out.1.keep hk').look MKII (x := rL) HWF.out.2 false).1
    rw [HPL.out]
    exact z
   obtain ⟨hs1, ht1⟩ := (HSb.out.keep hd).putK hkb rfl 12 (by decide) (.int .i64 PL) ⟨rF, rS, ⟨ca, cn, cc0⟩, ⟨aa, an, ac⟩, ⟨lK, lD, lA, lB, lN, lLg⟩, 4, PT, PL, ⟨la, ln, lc⟩⟩ { b0 with To := PT, Else := PL } rfl ⟨hsc.1, hsc.2.1, hsc.2.2.1, hsc.2.2.2.1, hsc.2.2.2.2.1, rfl⟩ rfl rfl rfl rfl rfl rfl
   obtain ⟨wc, hwc⟩ : ∃ w', w' = wb.drew.setCell ⟨gB, k * 14 + 12, none⟩ (.int .i64 PL) := ⟨_, rfl⟩
   rw [← hwc] at hs1 ht1
   have HSc := Lib.hid hs1
   have HXc := Lib.hid ((HXb.out.keeps hd).turn ht1 (by decide) (by decide) (by decide) (by decide))
   have HMc := Lib.hid ((HMb.out.keep hd).turn ht1 (by decide))
   have HTc := Lib.hid ((HTb.out.keep hd).trans (ht1.mono (J := (fun i => i = 1 ∨ i = 10 ∨ i = 11 ∨ 16 ≤ i)) fun i h => Or.inr (Or.inl h)))
   have HLK := Lib.hid hlk
   have HWc := Lib.hid (show (wb.setCell ⟨gB, k * 14 + 12, none⟩ (.int .i64 PL)).drew = wc from hwc.symm)
   clear hs1 ht1 hlk hcj hwc hsc
   refine wp_region_head (S := fun w' => Keeps wb w' ∧ Cells [(gB, k * 14 + 12, .int .i64 rL), (xb, 9, .map (some kb))] w') 10 (by kernel_rfl) (by kernel_rfl) (by kernel_rfl) (by kernel_rfl) (by decide) (by kernel_rfl) ?hS (fun hHeld => ?_)
   case hS => exact ⟨hd, e12, hx9, trivial⟩
   simp only [List.take_succ_cons, List.take_zero, List.drop_succ_cons, List.drop_zero]
   refine takeC 0 hHeld ?_
   refine takeC 1 hHeld ?_
   refine takeC 2 hHeld ?_
   refine takeC 3 hHeld ?_
   refine takeC 4 hHeld ?_
   refine takeC 5 hHeld ?_
   refine takeC 6 hHeld ?_
   refine takeC 7 hHeld ?_
   refine takeC 8 hHeld ?_
   refine wpAnyH_take (i := 9) (oi := ?oq2x9) (v := ?vq2x9) ?hq2x9 ?aq2x9 ?bq2x9 ?cq2x9 ?qq2x9 (Or.inl ⟨?wq2x9, ?yq2x9⟩) hHeld ?rq2x9
   case hq2x9 => (simp only [List.getElem?_toArray, List.getElem?_cons_zero, List.getElem?_cons_succ]; try rfl)
   case aq2x9 => kernel_rfl
   case bq2x9 => kernel_rfl
   case cq2x9 => kernel_rfl
   case qq2x9 => exact fun _ _ _ h => h
   case wq2x9 => rfl
   case yq2x9 =>
    intro w hSw
    have hq := HLK.out _ hSw.1
    simp only [execOp, Act.eval]
    simp [hq, Result.andThen]
    try rfl
   try simp only [Act.put, List.setIfInBounds_toArray, List.set_cons_zero, List.set_cons_succ]
   refine wpAnyH_done (by kernel_rfl) ?_ _
   dsimp only [TailQ]
   clear hHeld hx9 HLK hd
   go_upto_region 8 with fail
   rw [HWc.out]
   clear e12 f12 lgB HWc
   have hcj := HSc.out.cellK hkb rfl
   have e10 : wc.cell? ⟨gB, k * 14 + 10, none⟩ = some (.int .i64 4) := hcj.1 10 _ (by decide) rfl
   clear hcj
   have hjk : joinB bm b0 = { b0 with To := PT, Else := PL } := by unfold joinB; rw [if_neg (by rw [← HEQ.out]; decide), if_pos HEQ.out.symm, if_neg (by rw [← HEQ.out]; decide), ← HPT'.out, ← HPL'.out]
   have HJK := Lib.hid hjk
   clear hjk
   go_wp2_with fail
   go_roundw
   case rel => exact ⟨k + 1, _, _, by omega, by go_num, HTc, HXc, HMc, Lib.hid (by rw [← jn_set _ _ hkb0, ← HB0.out, HJK.out]; exact HSc.out)⟩
   case measure => simp [intOf]; omega
  case neg =>
  have t4 : (rE == 4) = false := by simpa using h4
  by_cases h2 : rE = 2
  case pos =>
   subst h2
   go_upto_region 5 with fail
   have hd : Keeps wa wa.drew := (Keeps.refl _).drew
   have hcj := (HSa.out.keep hd).cellK hkb rfl
   have e11 : wa.drew.cell? ⟨gB, k * 14 + 11, none⟩ = some (.int .i64 rT) := hcj.1 11 _ (by decide) rfl
   have f11 : wa.drew.frozen? ⟨gB, k * 14 + 11, none⟩ = false := hcj.2.1 (k * 14 + 11)
   have lgB := hcj.2.2.1
   have hsc := hcj.2.2.2.2.2.2
   have hx9 : wa.drew.cell? ⟨xb, 9, none⟩ = some (.map (some kb)) := (HXa.out.keeps hd).blk.1.cell rfl
   have hlk : ∀ w', Keeps wa w' → (Instr.lookup 52 (.map (some kb)) (.int .i64 rT) false).run Tryd.prog w' = .ok (.int .i64 PT) w' := fun w' hk' => by
    have z := ((HMa.out.1.keep hk').look MKII (x := rT) HWF.out.1 false).1
    rw [HPT.out]
    exact z
   obtain ⟨hs1, ht1⟩ := (HSa.out.keep hd).putK hkb rfl 11 (by decide) (.int .i64 PT) ⟨rF, rS, ⟨ca, cn, cc0⟩, ⟨aa, an, ac⟩, ⟨lK, lD, lA, lB, lN, lLg⟩, 2, PT, rL, ⟨la, ln, lc⟩⟩ { b0 with To := PT } rfl ⟨hsc.1, hsc.2.1, hsc.2.2.1, hsc.2.2.2.1, rfl, hsc.2.2.2.2.2⟩ rfl rfl rfl rfl rfl rfl
   obtain ⟨wb, hwb⟩ : ∃ w', w' = wa.drew.setCell ⟨gB, k * 14 + 11, none⟩ (.int .i64 PT) := ⟨_, rfl⟩
   rw [← hwb] at hs1 ht1
   have HSb := Lib.hid hs1
   have HXb := Lib.hid ((HXa.out.keeps hd).turn ht1 (by decide) (by decide) (by decide) (by decide))
   have HMb := Lib.hid ((HMa.out.keep hd).turn ht1 (by decide))
   have HTb := Lib.hid ((HTa.out.keep hd).trans (ht1.mono (J := (fun i => i = 1 ∨ i = 10 ∨ i = 11 ∨ 16 ≤ i)) fun i h => Or.inr (Or.inl h)))
   have HLK := Lib.hid hlk
   have HWb := Lib.hid (show (wa.setCell ⟨gB, k * 14 + 11, none⟩ (.int .i64 PT)).drew = wb from hwb.symm)
   clear hs1 ht1 hlk hcj hwb hsc
   refine wp_region_head (S := fun w' => Keeps wa w' ∧ Cells [(gB, k * 14 + 11, .int .i64 rT), (xb, 9, .map (some kb))] w') 10 (by kernel_rfl) (by kernel_rfl) (by kernel_rfl) (by kernel_rfl) (by decide) (by kernel_rfl) ?hS (fun hHeld => ?_)
   case hS => exact ⟨hd, e11, hx9, trivial⟩
   simp only [List.take_succ_cons, List.take_zero, List.drop_succ_cons, List.drop_zero]
   refine takeC 0 hHeld ?_
   refine takeC 1 hHeld ?_
   refine takeC 2 hHeld ?_
   refine takeC 3 hHeld ?_
   refine takeC 4 hHeld ?_
   refine takeC 5 hHeld ?_
   refine takeC 6 hHeld ?_
   refine takeC 7 hHeld ?_
   refine takeC 8 hHeld ?_
   refine wpAnyH_take (i := 9) (oi := ?oq3x9) (v := ?vq3x9) ?hq3x9 ?aq3x9 ?bq3x9 ?cq3x9 ?qq3x9 (Or.inl ⟨?wq3x9, ?yq3x9⟩) hHeld ?rq3x9
   case hq3x9 => (simp only [List.getElem?_toArray, List.getElem?_cons_zero, List.getElem?_cons_succ]; try rfl)
   case aq3x9 => kernel_rfl
   case bq3x9 => kernel_rfl
   case cq3x9 => kernel_rfl
   case qq3x9 => exact fun _ _ _ h => h
   case wq3x9 => rfl
   case yq3x9 =>
    intro w hSw
    have hq := HLK.out _ hSw.1
    simp only [execOp, Act.eval]
    simp [hq, Result.andThen]
    try rfl
   try simp only [Act.put, List.setIfInBounds_toArray, List.set_cons_zero, List.set_cons_succ]
   refine wpAnyH_done (by kernel_rfl) ?_ _
   dsimp only [TailQ]
   clear hHeld hx9 HLK hd
   go_upto_region 6 with fail
   rw [HWb.out]
   clear e11 f11 lgB HWb
   have hcj := HSb.out.cellK hkb rfl
   have e10 : wb.cell? ⟨gB, k * 14 + 10, none⟩ = some (.int .i64 2) := hcj.1 10 _ (by decide) rfl
   clear hcj
   go_upto_region 9 with fail
   have hd : Keeps wb wb.drew := (Keeps.refl _).drew
   have hcj := (HSb.out.keep hd).cellK hkb rfl
   have g13 : wb.drew.cell? ⟨gB, k * 14 + 13, none⟩ = some (.slice la ln lc) := hcj.1 13 _ (by decide) rfl
   have hOL := hcj.2.2.2.2.2.1.2.2
   have hln : ln = b0.Lines.length := by obtain ⟨a', c', e⟩ := own_form' hOL.1; injection e with e1 e2 e3
   have hlp : 0 < b0.Lines.length := HLP.out
   obtain ⟨lgb, lgc, lge, -, -, -, -, lgr, -⟩ := own_read1 (h := fun x : Int => .int .i64 x) hOL.1 hlp
   injection lge with lge1 lge2 lge3
   subst lge1
   obtain ⟨LJ, hLJ⟩ : ∃ n, n = ln - 1 := ⟨_, rfl⟩
   obtain ⟨LV, hLV⟩ : ∃ z, z = nth b0.Lines LJ := ⟨_, rfl⟩
   have q0 : wb.drew.cell? ⟨lgb, LJ, none⟩ = some (.int .i64 LV) := by rw [hLV]; exact lgr LJ (by show LJ < b0.Lines.length; omega)
   have hlnb : ln ≤ 300000 := by rw [hln]; exact HLB.out
   have wLJ : IntKind.i64.wrap ((ln : Int) - 1) = (LJ : Int) := by rw [IntKind.wrap_i64]; omega
   have hLJz : (LJ : Int) < (ln : Int) := by omega
   have hLJn : LJ < ln := by omega
   have hLVJ : LV = nth b0.Lines (b0.Lines.length - 1) := by rw [hLV, hLJ, hln]
   have HLN := Lib.hid hln
   have HLV := Lib.hid hLVJ
   clear hOL hcj hln hlp lge2 lge3 lgr hLJ hLV hLVJ
   refine wp_region_head_tail (S := Cells [(gB, k * 14 + 13, .slice (some ⟨lgb, 0, none⟩) ln lc), (lgb, LJ, .int .i64 LV)]) 18 0 (v := .pointer (some ⟨gB, k * 14, none⟩)) (by kernel_rfl) rfl (by kernel_rfl) (by kernel_rfl) (by kernel_rfl) (by decide) (fun _ _ _ h => h) (Or.inl ⟨by rfl, fun w => by rfl⟩) (by kernel_rfl) (by kernel_rfl) (by kernel_rfl) (by decide) (by kernel_rfl) ?hS8 (fun hHeld => ?_)
   case hS8 => exact ⟨g13, q0, trivial⟩
   simp only [List.take_succ_cons, List.take_zero, List.drop_succ_cons, List.drop_zero, List.getElem_toArray, List.getElem_cons_zero]
   try simp only [Act.put, List.setIfInBounds_toArray, List.set_cons_zero, List.set_cons_succ]
   refine takeC 1 hHeld ?_
   refine takeC 2 hHeld ?_
   refine takeC 3 hHeld ?_
   refine takeC 4 hHeld ?_
   refine takeC 5 hHeld ?_
   refine takeC 6 hHeld ?_
   refine takeC 7 hHeld ?_
   refine takeC 8 hHeld ?_
   refine takeC 9 hHeld ?_
   refine takeC 10 hHeld ?_
   refine takeC 11 hHeld ?_
   refine takeC 12 hHeld ?_
   refine takeC 13 hHeld ?_
   refine takeC 14 hHeld ?_
   refine takeC 15 hHeld ?_
   refine takeC 16 hHeld ?_
   refine wpAnyH_ready (rs := [17]) (by kernel_rfl) (by simp) ?_
   refine AllReadyH.cons (o := ?or6) ?hr6 ?sr6 ?mr6
   case hr6 => (simp only [List.getElem?_toArray, List.getElem?_cons_zero, List.getElem?_cons_succ]; try rfl)
   case mr6 => exact AllReadyH.nil
   case sr6 =>
   intro K hK
   go_simp
   refine hK.out _ _ (Cells.keep hHeld ((Keeps.refl _).alloc _)) (fun hHeld2 => ?_)
   clear hK K hHeld
   have hHeld := hHeld2
   clear hHeld2
   try simp only [Act.put, List.setIfInBounds_toArray, List.set_cons_zero, List.set_cons_succ]
   refine wpAnyH_done (by kernel_rfl) ?_ _
   dsimp only [TailQ]
   clear hHeld g13 q0 wLJ hLJz hLJn
   obtain ⟨LN1, hLN1⟩ : ∃ n, n = ln + 1 := ⟨_, rfl⟩
   have HLA := Lib.hid (show (b0.Lines ++ [LV]).length = LN1 by rw [List.length_append, List.length_singleton, hLN1, HLN.out])
   clear hLN1 hd
   go_upto_region 10 with (at_builtin; refine wpList_pushes (by rfl) (.tmp 75) (.tmp 88) 25 (by rfl) Tryd.underlying25 info_int (by rfl) (by decide) (base := w0.heap.size) (f := ci) (l := b0.Lines) (by rfl) (by exact (HSb.out.keep (by repeat (with_reducible (first | assumption | exact Keeps.refl _ | refine Keeps.alloc ?_ _ | refine Keeps.drew ?_ | refine Keeps.drewN ?_ _))) |>.cellK hkb rfl).2.2.2.2.2.1.2.2.1) [LV] _ _ (by rfl) (by exact Blk.top' _ _ (by first | rfl | simp)) ci_len ci_one (by simp only [List.length_cons, List.length_nil, ← HLN.out]; omega) (by simp only [List.length_cons, List.length_nil, ← HLN.out]; unfold maxLen; omega) (by have := HXb.out.keep.size; first | omega | (simp only [sz_alloc, sz_drew]; omega)) ?_; intro v7 w7 hown7 hbel7 hgr7 hfr7; obtain ⟨a9, c9x, e7⟩ := own_form' hown7; rw [HLA.out] at e7; subst e7; have hst7 := HSb.out.stay rfl (show Keeps wb _ from (by repeat (with_reducible (first | assumption | exact Keeps.refl _ | refine Keeps.alloc ?_ _ | refine Keeps.drew ?_ | refine Keeps.drewN ?_ _)))) hgr7 (fun b e => by have := (HSb.out.cellK hkb rfl).2.2.2.2.2.1.2.2.2 b e; omega); have g3 := hst7.1 _ _ ((HSb.out.cellK hkb rfl).1 13 _ (by decide) rfl); have f3 := hst7.2.1 (k * 14 + 13); have l3 := hst7.2.2)
   obtain ⟨c4, ht4, hS4⟩ := HSb.out.pushLnK hkb rfl (s7 := ⟨a9, LN1, c9x⟩) (x := LV) (show Keeps wb _ from (by repeat (with_reducible (first | assumption | exact Keeps.refl _ | refine Keeps.alloc ?_ _ | refine Keeps.drew ?_ | refine Keeps.drewN ?_ _)))) hown7 hgr7 hfr7
   obtain ⟨wc, hwc⟩ : ∃ w', w' = w7.setCell ⟨gB, k * 14 + 13, none⟩ (.slice a9 LN1 c9x) := ⟨_, rfl⟩
   rw [← hwc] at ht4 hS4
   rw [← hwc]
   have HXc := Lib.hid (HXb.out.turn ht4 (by omega) (by omega) (by omega) (by omega))
   have HMc := Lib.hid (HMb.out.turn ht4 (by omega))
   have HTc := Lib.hid (HTb.out.trans (ht4.mono (J := (fun i => i = 1 ∨ i = 10 ∨ i = 11 ∨ 16 ≤ i)) fun i h => by rcases h with h | h <;> simp [h] <;> omega))
   have HSc := Lib.hid hS4
   clear ht4 hS4 hwc hown7 hbel7 hgr7 hfr7 hst7 g3 f3 l3 HLA
   have hjk : joinB bm b0 = { b0 with To := PT, Lines := b0.Lines ++ [LV] } := by unfold joinB; rw [if_neg (by rw [← HEQ.out]; decide), if_neg (by rw [← HEQ.out]; decide), if_pos (Or.inr HEQ.out.symm), ← HPT'.out, HLV.out]
   have HJK := Lib.hid hjk
   clear hjk
   go_wp2_with fail
   go_roundw
   case rel => exact ⟨k + 1, _, _, by omega, by go_num, HTc, HXc, HMc, Lib.hid (by rw [← jn_set _ _ hkb0, ← HB0.out, HJK.out]; exact HSc.out)⟩
   case measure => simp [intOf]; omega
  case neg =>
  have t2 : (rE == 2) = false := by simpa using h2
  have t3 : (rE == 1) = false := by simpa using h1
  go_upto_region 5 with fail
  have hd : Keeps wa wa.drew := (Keeps.refl _).drew
  have hcj := (HSa.out.keep hd).cellK hkb rfl
  have e11 : wa.drew.cell? ⟨gB, k * 14 + 11, none⟩ = some (.int .i64 rT) := hcj.1 11 _ (by decide) rfl
  have f11 : wa.drew.frozen? ⟨gB, k * 14 + 11, none⟩ = false := hcj.2.1 (k * 14 + 11)
  have lgB := hcj.2.2.1
  have hsc := hcj.2.2.2.2.2.2
  have hx9 : wa.drew.cell? ⟨xb, 9, none⟩ = some (.map (some kb)) := (HXa.out.keeps hd).blk.1.cell rfl
  have hlk : ∀ w', Keeps wa w' → (Instr.lookup 52 (.map (some kb)) (.int .i64 rT) false).run Tryd.prog w' = .ok (.int .i64 PT) w' := fun w' hk' => by
   have z := ((HMa.out.1.keep hk').look MKII (x := rT) HWF.out.1 false).1
   rw [HPT.out]
   exact z
  obtain ⟨hs1, ht1⟩ := (HSa.out.keep hd).putK hkb rfl 11 (by decide) (.int .i64 PT) ⟨rF, rS, ⟨ca, cn, cc0⟩, ⟨aa, an, ac⟩, ⟨lK, lD, lA, lB, lN, lLg⟩, rE, PT, rL, ⟨la, ln, lc⟩⟩ { b0 with To := PT } rfl ⟨hsc.1, hsc.2.1, hsc.2.2.1, hsc.2.2.2.1, rfl, hsc.2.2.2.2.2⟩ rfl rfl rfl rfl rfl rfl
  obtain ⟨wb, hwb⟩ : ∃ w', w' = wa.drew.setCell ⟨gB, k * 14 + 11, none⟩ (.int .i64 PT) := ⟨_, rfl⟩
  rw [← hwb] at hs1 ht1
  have HSb := Lib.hid hs1
  have HXb := Lib.hid ((HXa.out.keeps hd).turn ht1 (by decide) (by decide) (by decide) (by decide))
  have HMb := Lib.hid ((HMa.out.keep hd).turn ht1 (by decide))
  have HTb := Lib.hid ((HTa.out.keep hd).trans (ht1.mono (J := (fun i => i = 1 ∨ i = 10 ∨ i = 11 ∨ 16 ≤ i)) fun i h => Or.inr (Or.inl h)))
  have HLK := Lib.hid hlk
  have HWb := Lib.hid (show (wa.setCell ⟨gB, k * 14 + 11, none⟩ (.int .i64 PT)).drew = wb from hwb.symm)
  clear hs1 ht1 hlk hcj hwb hsc
  refine wp_region_head (S := fun w' => Keeps wa w' ∧ Cells [(gB, k * 14 + 11, .int .i64 rT), (xb, 9, .map (some kb))] w') 10 (by kernel_rfl) (by kernel_rfl) (by kernel_rfl) (by kernel_rfl) (by decide) (by kernel_rfl) ?hS (fun hHeld => ?_)
  case hS => exact ⟨hd, e11, hx9, trivial⟩
  simp only [List.take_succ_cons, List.take_zero, List.drop_succ_cons, List.drop_zero]
  refine takeC 0 hHeld ?_
  refine takeC 1 hHeld ?_
  refine takeC 2 hHeld ?_
  refine takeC 3 hHeld ?_
  refine takeC 4 hHeld ?_
  refine takeC 5 hHeld ?_
  refine takeC 6 hHeld ?_
  refine takeC 7 hHeld ?_
  refine takeC 8 hHeld ?_
  refine wpAnyH_take (i := 9) (oi := ?oq4x9) (v := ?vq4x9) ?hq4x9 ?aq4x9 ?bq4x9 ?cq4x9 ?qq4x9 (Or.inl ⟨?wq4x9, ?yq4x9⟩) hHeld ?rq4x9
  case hq4x9 => (simp only [List.getElem?_toArray, List.getElem?_cons_zero, List.getElem?_cons_succ]; try rfl)
  case aq4x9 => kernel_rfl
  case bq4x9 => kernel_rfl
  case cq4x9 => kernel_rfl
  case qq4x9 => exact fun _ _ _ h => h
  case wq4x9 => rfl
  case yq4x9 =>
   intro w hSw
   have hq := HLK.out _ hSw.1
   simp only [execOp, Act.eval]
   simp [hq, Result.andThen]
   try rfl
  try simp only [Act.put, List.setIfInBounds_toArray, List.set_cons_zero, List.set_cons_succ]
  refine wpAnyH_done (by kernel_rfl) ?_ _
  dsimp only [TailQ]
  clear hHeld hx9 HLK hd
  go_upto_region 6 with fail
  rw [HWb.out]
  clear e11 f11 lgB HWb
  have hcj := HSb.out.cellK hkb rfl
  have e10 : wb.cell? ⟨gB, k * 14 + 10, none⟩ = some (.int .i64 rE) := hcj.1 10 _ (by decide) rfl
  clear hcj
  have hjk : joinB bm b0 = { b0 with To := PT } := by unfold joinB; rw [if_neg (fun q => h1 (HEQ.out.trans q)), if_neg (fun q => h4 (HEQ.out.trans q)), if_neg (fun q => q.elim (fun q => h1 (HEQ.out.trans q)) (fun q => h2 (HEQ.out.trans q))), ← HPT'.out]
  have HJK := Lib.hid hjk
  clear hjk
  go_wp2_with fail
  go_roundw
  case rel => exact ⟨k + 1, _, _, by omega, by go_num, HTb, HXb, HMb, Lib.hid (by rw [← jn_set _ _ hkb0, ← HB0.out, HJK.out]; exact HSb.out)⟩
  case measure => simp [intOf]; omega
end Go.Proofs.YtnekiooaobnndaaDoor
