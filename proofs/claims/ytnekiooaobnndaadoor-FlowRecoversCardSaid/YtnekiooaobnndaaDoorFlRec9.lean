/-
 flow.Recover: the blocks of a program, or that it can't be followed.
-/
import Derived.Test.YtnekiooaobnndaaDoorFlRec6
import Derived.Test.YtnekiooaobnndaaDoorFlRec8
import Derived.Test.YtnekiooaobnndaaDoorFlRec9P
import Derived.Test.YtnekiooaobnndaaDoorImgCheck
set_option linter.unusedVariables false
set_option linter.unusedSimpArgs false
namespace Go.Proofs.YtnekiooaobnndaaDoor
open Go.RowKit BH
set_option maxHeartbeats 1000000000
set_option maxRecDepth 100000
theorem info_spots : (Tryd.prog.info? 57).map (fun i => (i.zero, i.size, i.bytes)) = some (some (.slice none 0 0), 1, 24) := by kernel_rfl
theorem put3 {w wf : World} {z : Nat} {T : TypeId} {c0 c1 c2 : Value} (h : Blk w z (.cells #[c0, c1, c2] T)) (v0 v1 v2 : Value) (hf : wf = ((w.setCell ⟨z, 0, none⟩ v0).setCell ⟨z, 1, none⟩ v1).setCell ⟨z, 2, none⟩ v2) :
  Blk wf z (.cells #[v0, v1, v2] T) ∧ w.grownBy wf (some z) := by
 subst hf
 exact ⟨((h.set 0 _).set 1 _).set 2 _, grown_trans (grown_trans (grown_setCell _ _ _ _) (grown_setCell _ _ _ _)) (grown_setCell _ _ _ _)⟩
theorem keepsPut {w wr wf : World} {z : Nat} (hk : Keeps w wr) (hz : w.heap.size ≤ z) (hg : wr.grownBy wf (some z)) : Keeps w wf := Below.grown hk hg hk.size (by intro q e; cases e; exact hz)
/-- what flow.Recover, and the document, answer -/
def FlAns (m : Img) (w : World) (e : Ending) (w' : World) : Prop := ∃ fv, e = .returned (.tuple #[fv, .int .i64 (recE m)]) ∧ FlowAt w' fv (recA m) ∧ Keeps w w'
theorem flowNil_at (w : World) : FlowAt w (.agg #[.slice none 0 0, .slice none 0 0, .slice none 0 0]) ⟨[], [], []⟩ := by
 have hn : ∀ (k : Nat) (c : Nat → Nat → Value), Arr w (.slice none 0 0) 0 k c := fun k c => ⟨none, 0, rfl, Nat.le_refl _, Nat.zero_le _, fun _ => rfl, fun h => absurd h (Nat.lt_irrefl 0)⟩
 exact ⟨_, _, _, rfl, ⟨fun _ => undef, fun _ => undef, fun _ => undef, hn _ _, fun i h => absurd h (Nat.not_lt_zero _)⟩, ⟨fun _ => undef, hn _ _, fun i h => absurd h (Nat.not_lt_zero _)⟩, hn _ _⟩
theorem FlAns.bad {m : Img} {w w' : World} {er : Int} (h : recE m = er ∧ er ≠ 0) (hk : Keeps w w') : FlAns m w (.returned (.tuple #[.agg #[.slice none 0 0, .slice none 0 0, .slice none 0 0], .int .i64 er])) w' := by
 obtain ⟨h, h0⟩ := h
 refine ⟨_, by rw [h], ?_, hk⟩
 unfold recA
 rw [if_neg (by rw [h]; exact h0)]
 exact flowNil_at _
theorem FlAns.fine {m : Img} {w w' : World} {v : Value} (h : recE m = 0) (hf : FlowAt w' v (recF m)) (hk : Keeps w w') : FlAns m w (.returned (.tuple #[v, .int .i64 0])) w' := by
 refine ⟨v, by rw [h], ?_, hk⟩
 unfold recA
 rw [if_pos h]
 exact hf
theorem one_bad {m : Img} (h0 : imgFault m = 0) (h2 : ¬ 2000 < m.Text.length) (hb : recB m = true) : recE m = 9 ∧ (9 : Int) ≠ 0 := ⟨recE_bad h0 h2 hb, by decide⟩
/-- the finder as it begins -/
theorem start_fin {m : Img} {v0 v1 v2 v3 v4 : Value} (wa : World) (hI : ImgAt wa (.agg #[v0, v1, v2, v3, v4, .int .i64 m.Entry]) m) :
  ∃ (W : World) (c : Nat → Nat), W = (((wa.alloc (.map #[] 0)).alloc (.map #[] 0)).alloc (.map #[] 0)).alloc (.cells #[v0, v1, v2, v3, v4, .int .i64 m.Entry, .slice none 0 0, .map (some wa.heap.size), .map (some (wa.heap.size + 1)), .map (some (wa.heap.size + 1 + 1)), .slice none 0 0, .slice none 0 0, .slice none 0 0] 56) ∧
   Fin m wa v0 v1 v2 v3 v4 (.slice none 0 0) [] [] (wa.heap.size + 1 + 1 + 1) wa.heap.size (wa.heap.size + 1) (wa.heap.size + 1 + 1) (.slice none 0 0) (.slice none 0 0) (.slice none 0 0) c W ∧ MapC 4 c Tryd.prog 3 3 (fun x : Int => .int .i64 x) wfI litI W wa.heap.size 0 (fun _ => none) ∧
   MIBC c W (wa.heap.size + 1) 0 [] ∧ MK6 c W (wa.heap.size + 1 + 1) 0 (fun _ => none) := by
 obtain ⟨w1, hw1⟩ : ∃ w1, w1 = wa.alloc (.map #[] 0) := ⟨_, rfl⟩
 obtain ⟨w2, hw2⟩ : ∃ w2, w2 = w1.alloc (.map #[] 0) := ⟨_, rfl⟩
 obtain ⟨w3, hw3⟩ : ∃ w3, w3 = w2.alloc (.map #[] 0) := ⟨_, rfl⟩
 have s1 : w1.heap.size = wa.heap.size + 1 := by rw [hw1, sz_alloc]
 have s2 : w2.heap.size = wa.heap.size + 1 + 1 := by rw [hw2, sz_alloc, s1]
 have s3 : w3.heap.size = wa.heap.size + 1 + 1 + 1 := by rw [hw3, sz_alloc, s2]
 have k1 : Keeps wa w1 := by rw [hw1]; exact (Keeps.refl _).alloc _
 have k2 : Keeps w1 w2 := by rw [hw2]; exact (Keeps.refl _).alloc _
 have k3 : Keeps w2 w3 := by rw [hw3]; exact (Keeps.refl _).alloc _
 obtain ⟨o, ho⟩ : ∃ o : Obj, o = .cells #[v0, v1, v2, v3, v4, .int .i64 m.Entry, .slice none 0 0, .map (some wa.heap.size), .map (some (wa.heap.size + 1)), .map (some (wa.heap.size + 1 + 1)), .slice none 0 0, .slice none 0 0, .slice none 0 0] 56 := ⟨_, rfl⟩
 have k4 : Keeps w3 (w3.alloc o) := (Keeps.refl _).alloc _
 have hm1 : MapF Tryd.prog 3 3 (fun x : Int => .int .i64 x) wfI litI w1 wa.heap.size 0 (fun _ => none) := by rw [hw1]; exact MapF.made wa
 have hm2 : MapF Tryd.prog 3 4 (fun x : Int => .int .i64 x) wfI litB w2 (wa.heap.size + 1) 0 (fun _ => none) := by rw [hw2, ← s1]; exact MapF.made w1
 have hm3 : MapF Tryd.prog 3 3 (fun x : Int => .int .i64 x) wfI litI w3 (wa.heap.size + 1 + 1) 0 (fun _ => none) := by rw [hw3, ← s2]; exact MapF.made w2
 have hk : Keeps wa (w3.alloc o) := k1.trans (k2.trans (k3.trans k4))
 have hb : Blk (w3.alloc o) (wa.heap.size + 1 + 1 + 1) o := Blk.top' _ _ s3.symm
 refine ⟨w3.alloc o, fun b => if b = wa.heap.size then 4 else if b = wa.heap.size + 1 then 5 else if b = wa.heap.size + 1 + 1 then 6 else if b = wa.heap.size + 1 + 1 + 1 then 1 else 0, by rw [hw3, hw2, hw1, ho], ?_, ⟨hm1.keep (k2.trans (k3.trans k4)), ?_⟩, ⟨?_, ?_⟩, ⟨hm3.keep k4, ?_⟩⟩
 ·refine ⟨hk, fun b hb => ?_, hI, ⟨by rw [← ho]; exact hb, ?_⟩, OwnC.nil _ _ _ _ _ _ _, rfl, ?_⟩
  ·rw [if_neg (by omega), if_neg (by omega), if_neg (by omega), if_neg (by omega)]
  ·dsimp only
   rw [if_neg (by omega), if_neg (by omega), if_neg (by omega), if_pos rfl]
  ·exact (OwnC.nil 3 _ _ 0 3 1 ci).part.imp fun _ _ i hi => by cases hi
 ·dsimp only
  rw [if_pos rfl]
 ·rw [show isK [] = fun _ => none from by funext x; unfold isK; rw [if_neg (by simp)]]
  exact hm2.keep (k3.trans k4)
 ·dsimp only
  rw [if_neg (by omega), if_pos rfl]
 ·dsimp only
  rw [if_neg (by omega), if_neg (by omega), if_pos rfl]
/-- one more function's instructions -/
theorem Fin.snoc {m : Img} {w0 : World} {v0 v1 v2 v3 v4 va : Value} {vs : List Sle} {L : List (List Sp)} {xb ob lb kb B : Nat} {vB vT vF : Value} {c : Nat → Nat} {w wa w7 : World} {v7 : Value} {s : Sle} {l : List Sp}
  (h : Fin m w0 v0 v1 v2 v3 v4 va vs L xb ob lb kb vB vT vF c w) (hs : OwnC 3 c w B 63 8 csp s.v l) (ka : Keeps w wa) (o7 : Own w7 w0.heap.size 57 1 sle v7 (vs ++ [s])) (g7 : wa.grownBy w7 va.ownBlock) (f7 : ∀ b, v7.ownBlock = some b → va.ownBlock = some b ∨ wa.heap.size ≤ b) :
  ∃ c', Turn (fun i => i = 1 ∨ i = 2) c w c' (w7.setCell ⟨xb, 6, none⟩ v7) ∧ Turn (fun i => i = 2) c w c' w7 ∧ Fin m w0 v0 v1 v2 v3 v4 v7 (vs ++ [s]) (L ++ [l]) xb ob lb kb vB vT vF c' (w7.setCell ⟨xb, 6, none⟩ v7) ∧ Part 3 (fun w => SpAt w s.v l) c' (w7.setCell ⟨xb, 6, none⟩ v7) := by
 obtain ⟨c', ht, ho⟩ := h.all.push ka o7 g7 f7
 have hb := h.blk.turn ht (by decide)
 obtain ⟨hb2, ht2⟩ := hb.set 6 v7
 have htt : Turn (fun i => i = 1 ∨ i = 2) c w c' (w7.setCell ⟨xb, 6, none⟩ v7) := (ht.mono fun i q => Or.inr q).trans (ht2.mono fun i q => Or.inl q)
 have hp : Part 3 (fun w => SpAt w s.v l) c w := hs.part.imp fun w q => q.arr csp_len
 refine ⟨c', htt, ht, ⟨h.keep.trans' (htt.below h.keep.size h.zero (by decide)) (Nat.le_refl _), htt.zero h.keep.size h.zero, h.img, hb2, ho.turn ht2 (by decide), by simp [h.len], ?_⟩, hp.turn htt (by decide)⟩
 refine ((h.sps.and hp).imp (fun w q i hi => ?_)).turn htt (by decide)
 rw [List.length_append, List.length_singleton] at hi
 rcases Nat.lt_or_ge i L.length with z | z
 ·rw [nth_app_lt _ _ (by rw [h.len]; exact z), nth_app_lt _ _ z]; exact q.1 i z
 ·rw [nth_app_eq _ _ (by rw [h.len]; omega), nth_app_eq _ _ (by omega)]; exact q.2
theorem own1_take (v : Int) (l : List Sp) (om : Int → Option Int) {j : Nat} (h : j < l.length) : own1 v (l.take (j + 1)) om = putI (own1 v (l.take j) om) (nth l j).A v := by
 unfold own1
 rw [take_succ_nth _ _ h, List.foldl_append]
 rfl
/-- what flow.Recover's last part, behind the finder's first loops, is given -/
theorem recover_any {v : Value} {m : Img} {w : World} (ht : Tab w) (hs : Siz w) (hm : ImgAt w v m) : Calls Tryd.prog 6 #[v] w (FlAns m w) := by
 have hm' := hm
 obtain ⟨v0, v1, v2, v3, v4, rfl, i0, i1, i2, i3, i4⟩ := hm
 obtain ⟨x0, x0c, rfl⟩ := Arr.form i0
 obtain ⟨x1, x1c, rfl⟩ := Arr.form i1
 obtain ⟨tv, i2a, i2b⟩ := i2
 obtain ⟨x2, x2c, rfl⟩ := Arr.form i2a
 obtain ⟨x3, x3c, rfl⟩ := Arr.form i3
 obtain ⟨x4, x4c, rfl⟩ := Arr.form i4
 obtain ⟨v0, hv0⟩ : ∃ z : Value, z = .slice x0 m.Text.length x0c := ⟨_, rfl⟩
 obtain ⟨v1, hv1⟩ : ∃ z : Value, z = .slice x1 m.Funcs.length x1c := ⟨_, rfl⟩
 obtain ⟨v2, hv2⟩ : ∃ z : Value, z = .slice x2 m.Tables.length x2c := ⟨_, rfl⟩
 obtain ⟨TL, hTL⟩ : ∃ n, n = m.Text.length := ⟨_, rfl⟩
 obtain ⟨NF, hNF⟩ : ∃ n, n = m.Funcs.length := ⟨_, rfl⟩
 obtain ⟨NT, hNT⟩ : ∃ n, n = m.Tables.length := ⟨_, rfl⟩
 have HIM := Lib.hid hm'
 have HTAB := Lib.hid ht
 have HSIZ := Lib.hid hs
 have HCK := Lib.hid (fun (W' : World) (hk : Keeps w W') => imgCheck_any _ m W' (hm'.keep hk))
 have HI1 := Lib.hid i1
 have HI2a := Lib.hid i2a
 have HI2b := Lib.hid i2b
 clear i0 i1 i2a i2b i3 i4 hm' ht hs hv0 hv1 hv2
 rw [← hTL, ← hNF, ← hNT] at HCK HIM ⊢
 have HTL := Lib.hid hTL
 have HNF := Lib.hid hNF
 have HNT := Lib.hid hNT
 clear hTL hNF hNT
 obtain ⟨W, hW, hkW, hbM, hbF, hsW⟩ := two_blocks' w (.cells #[.slice x0 TL x0c, .slice x1 NF x1c, .slice x2 NT x2c, .slice x3 m.Data.length x3c, .slice x4 m.Lines.length x4c, .int .i64 m.Entry] 28) (.cells #[.slice none 0 0, .slice none 0 0, .slice none 0 0] 32)
 have HW := Lib.hid hW
 have HKW := Lib.hid hkW
 have HBM := Lib.hid hbM
 have HBF := Lib.hid hbF
 have m0 := (hbM).cell (j := 0) rfl; have m1 := (hbM).cell (j := 1) rfl; have m2 := (hbM).cell (j := 2) rfl; have m3 := (hbM).cell (j := 3) rfl; have m4 := (hbM).cell (j := 4) rfl; have m5 := (hbM).cell (j := 5) rfl
 clear hW hkW hbM hbF
 obtain ⟨FE, hFE⟩ : ∃ z, z = imgFault m := ⟨_, rfl⟩
 rw [← hFE] at HCK
 have HFE := Lib.hid hFE
 clear hFE
 go_enter Tryd.func6, Tryd.ntmps6
 go_upto_region 1 with fail
 rw [← HW.out]
 clear HW
 by_cases h0 : FE = 0
 case neg =>
  have t0 : (FE != 0) = true := by simpa using h0
  go_wp2_with (go_at_call 14; refine (HCK.out _ (HKW.out.trans (by repeat (with_reducible (first | assumption | exact Keeps.refl _ | refine Keeps.alloc ?_ _ | refine Keeps.drew ?_ | refine Keeps.drewN ?_ _))))).mono ?_; rintro e wa ⟨rfl, hka⟩; have q0 := (HBF.out.keep hka).cell (j := 0) rfl; have q1 := (HBF.out.keep hka).cell (j := 1) rfl; have q2 := (HBF.out.keep hka).cell (j := 2) rfl; have z0 := (HBF.out.keep hka).thawed 0; have z1 := (HBF.out.keep hka).thawed 1; have z2 := (HBF.out.keep hka).thawed 2; have lq := (HBF.out.keep hka).lt)
  obtain ⟨wf, hwf⟩ : ∃ wf : World, wf = (((wa).setCell ⟨w.heap.size + 1, 0, none⟩ (.slice none 0 0)).setCell ⟨w.heap.size + 1, 1, none⟩ (.slice none 0 0)).setCell ⟨w.heap.size + 1, 2, none⟩ (.slice none 0 0) := ⟨_, rfl⟩
  rw [← hwf]
  obtain ⟨hBf, hgf⟩ := put3 (HBF.out.keep hka) _ _ _ hwf
  have HKF := Lib.hid (keepsPut (HKW.out.trans hka) (by omega) hgf)
  have e0 := hBf.cell (j := 0) rfl
  have e1 := hBf.cell (j := 1) rfl
  have e2 := hBf.cell (j := 2) rfl
  clear hwf hBf hgf
  exact bodyPost_ret (v := .tuple #[.agg #[.slice none 0 0, .slice none 0 0, .slice none 0 0], .int .i64 FE]) (by simp [results, Tryd.results6, go_sem, e0, e1, e2]) rfl (FlAns.bad (⟨by rw [HFE.out]; exact recE_fault (by rw [← HFE.out]; exact h0), h0⟩) HKF.out)
 case pos =>
 subst h0
 have hg := imgGood m HFE.out.symm
 go_upto_region 4 with (go_at_call 14; refine (HCK.out _ (HKW.out.trans (by repeat (with_reducible (first | assumption | exact Keeps.refl _ | refine Keeps.alloc ?_ _ | refine Keeps.drew ?_ | refine Keeps.drewN ?_ _))))).mono ?_; rintro e wa ⟨rfl, hka⟩; have q0 := (HBF.out.keep hka).cell (j := 0) rfl; have q1 := (HBF.out.keep hka).cell (j := 1) rfl; have q2 := (HBF.out.keep hka).cell (j := 2) rfl; have z0 := (HBF.out.keep hka).thawed 0; have z1 := (HBF.out.keep hka).thawed 1; have z2 := (HBF.out.keep hka).thawed 2; have lq := (HBF.out.keep hka).lt; have n0 := (HBM.out.keep hka).cell (j := 0) rfl; have n1 := (HBM.out.keep hka).cell (j := 1) rfl; have n2 := (HBM.out.keep hka).cell (j := 2) rfl; have n3 := (HBM.out.keep hka).cell (j := 3) rfl; have n4 := (HBM.out.keep hka).cell (j := 4) rfl; have n5 := (HBM.out.keep hka).cell (j := 5) rfl)
 by_cases hbig : 2000 < TL
 case pos =>
  have tb : decide ((2000 : Int) < (TL : Int)) = true := decide_eq_true (by omega)
  go_wp2_with fail
  obtain ⟨wf, hwf⟩ : ∃ wf : World, wf = (((wa).setCell ⟨w.heap.size + 1, 0, none⟩ (.slice none 0 0)).setCell ⟨w.heap.size + 1, 1, none⟩ (.slice none 0 0)).setCell ⟨w.heap.size + 1, 2, none⟩ (.slice none 0 0) := ⟨_, rfl⟩
  rw [← hwf]
  obtain ⟨hBf, hgf⟩ := put3 (HBF.out.keep hka) _ _ _ hwf
  have HKF := Lib.hid (keepsPut (HKW.out.trans hka) (by omega) hgf)
  have e0 := hBf.cell (j := 0) rfl
  have e1 := hBf.cell (j := 1) rfl
  have e2 := hBf.cell (j := 2) rfl
  clear hwf hBf hgf
  exact bodyPost_ret (v := .tuple #[.agg #[.slice none 0 0, .slice none 0 0, .slice none 0 0], .int .i64 1]) (by simp [results, Tryd.results6, go_sem, e0, e1, e2]) rfl (FlAns.bad (⟨recE_big HFE.out.symm (by rw [← HTL.out]; exact hbig), by decide⟩) HKF.out)
 case neg =>
 have tb : decide ((2000 : Int) < (TL : Int)) = false := decide_eq_false (by omega)
 go_upto_region 6 with fail
 have hkwa : Keeps w wa := HKW.out.trans hka
 obtain ⟨W6, c6, hW6, hX6, hO6, hL6, hK6⟩ := start_fin wa (HIM.out.keep hkwa)
 obtain ⟨ob, hob⟩ : ∃ b, b = wa.heap.size := ⟨_, rfl⟩
 obtain ⟨lb, hlb⟩ : ∃ b, b = wa.heap.size + 1 := ⟨_, rfl⟩
 obtain ⟨kb, hkb⟩ : ∃ b, b = wa.heap.size + 1 + 1 := ⟨_, rfl⟩
 obtain ⟨xb, hxb⟩ : ∃ b, b = wa.heap.size + 1 + 1 + 1 := ⟨_, rfl⟩
 have HOB := Lib.hid hob
 have HLB := Lib.hid hlb
 have HKB := Lib.hid hkb
 have HXB := Lib.hid hxb
 have HW6 := Lib.hid hW6
 rw [← hxb, ← hkb, ← hlb, ← hob] at hX6
 rw [← hob] at hO6
 rw [← hlb] at hL6
 rw [← hkb] at hK6
 have hM6 : BlkC 0 c6 W6 w.heap.size (.cells #[.slice x0 TL x0c, .slice x1 NF x1c, .slice x2 NT x2c, .slice x3 m.Data.length x3c, .slice x4 m.Lines.length x4c, .int .i64 m.Entry] 28) := ⟨(HBM.out.keep hka).keep hX6.keep, hX6.zero _ (HBM.out.keep hka).lt⟩
 have hF6 : BlkC 0 c6 W6 (w.heap.size + 1) (.cells #[.slice none 0 0, .slice none 0 0, .slice none 0 0] 32) := ⟨(HBF.out.keep hka).keep hX6.keep, hX6.zero _ (HBF.out.keep hka).lt⟩
 have HX6 := Lib.hid hX6
 have HO6 := Lib.hid hO6
 have HL6 := Lib.hid hL6
 have HK6 := Lib.hid hK6
 have HM6 := Lib.hid hM6
 have HF6 := Lib.hid hF6
 have HKWA := Lib.hid hkwa
 have HG := Lib.hid hg
 have hTL2 : TL ≤ 2000 := by omega
 have hNF40 : NF ≤ 40 := by rw [HNF.out]; exact hg.funcs
 have hNT20 : NT ≤ 20 := by rw [HNT.out]; exact hg.tabs
 have HBIG : Hid (¬ 2000 < m.Text.length) := Lib.hid (by rw [← HTL.out]; exact hbig)
 have HH2 : Hid (m.Text.length ≤ 2000) := Lib.hid (by rw [← HTL.out]; exact hTL2)
 clear hob hlb hkb hxb hW6 hX6 hO6 hL6 hK6 hkwa hg hM6 hF6 hbig
 have hmm := @run_makeMap Tryd.prog
 go_upto_region 7 with fail
 clear hmm
 rw [← HW6.out, ← HXB.out, ← HKB.out, ← HLB.out, ← HOB.out]
 clear HW6 HXB HKB HLB HOB n0 n1 n2 n3 n4 n5 m0 m1 m2 m3 m4 m5 q0 q1 q2 z0 z1 z2 lq tb
 have n1 := HM6.out.1.cell (j := 1) rfl
 go_wp2_with fail
 clear n1
 go_loopw [41] (fun s41 wr => ∃ (i : Nat) (c1 : Nat → Nat) (va : Value) (vs : List Sle), i ≤ NF ∧ s41 = .int .i64 i ∧ Hid (Turn (fun i => i = 1 ∨ i = 2 ∨ i = 3 ∨ i = 4) c6 W6 c1 wr) ∧ Hid (Fin m wa (.slice x0 TL x0c) (.slice x1 NF x1c) (.slice x2 NT x2c) (.slice x3 m.Data.length x3c) (.slice x4 m.Lines.length x4c) va vs ((allS m).take i) xb ob lb kb (.slice none 0 0) (.slice none 0 0) (.slice none 0 0) c1 wr) ∧ Hid (MapC 4 c1 Tryd.prog 3 3 (fun x : Int => .int .i64 x) wfI litI wr ob (2000 * i) (ownS (allS m) i)) ∧ Hid (∀ j, j < i → badF m.Text (nth m.Funcs j) = false)) (fun s41 _ => NF - (intOf s41).toNat)
 case atStart => exact ⟨0, c6, _, [], Nat.zero_le _, rfl, Lib.hid (Turn.refl _ _ _), HX6, HO6, Lib.hid (fun j hj => absurd hj (Nat.not_lt_zero _))⟩
 case round =>
  obtain ⟨i, c1, va, vs, hi, rfl, HT1, HX1, HO1, HNB⟩ := hrel
  by_cases hlt : i < NF
  case neg =>
   have tl : decide ((i : Int) < (NF : Int)) = false := decide_eq_false (by omega)
   have hsw : Swept m := anyN_no (fun j hj => HNB.out j (by rw [← HNF.out] at hj; omega))
   have hXe : Fin m wa (.slice x0 TL x0c) (.slice x1 NF x1c) (.slice x2 NT x2c) (.slice x3 m.Data.length x3c) (.slice x4 m.Lines.length x4c) va vs (allS m) xb ob lb kb (.slice none 0 0) (.slice none 0 0) (.slice none 0 0) c1 wr := by
    have z := HX1.out
    rw [show i = (allS m).length by rw [allS_len, ← HNF.out]; omega, List.take_length] at z
    exact z
   obtain ⟨OM, hOM⟩ : ∃ om, om = ownS (allS m) m.Funcs.length := ⟨_, rfl⟩
   have hOe : MapC 4 c1 Tryd.prog 3 3 (fun x : Int => .int .i64 x) wfI litI wr ob 80000 OM := by
    have z := HO1.out
    rw [show i = m.Funcs.length by rw [← HNF.out]; omega, ← hOM] at z
    exact MapC.mono z (by rw [← HNF.out]; omega)
   obtain ⟨we, hwe⟩ : ∃ we : World, we = wr := ⟨_, rfl⟩
   subst hwe
   have HSWE := Lib.hid hsw
   have HXE := Lib.hid hXe
   have HOE := Lib.hid hOe
   have HOM := Lib.hid hOM
   have HLE := Lib.hid (HL6.out.turn HT1.out (by decide))
   have HKE := Lib.hid (HK6.out.turn HT1.out (by decide))
   have HME := Lib.hid (HM6.out.turn HT1.out (by decide))
   have HFE2 := Lib.hid (HF6.out.turn HT1.out (by decide))
   have n2 := HME.out.1.cell (j := 2) rfl
   clear hsw hXe hOe hOM HX1 HO1 HNB HX6 HO6 HL6 HK6 HM6 HF6
   go_wp2_with fail
   clear n2 tl
   go_loopw [84] (fun s84 wr => ∃ (k : Nat) (c2 : Nat → Nat), k ≤ NT ∧ s84 = .int .i64 k ∧ Hid (Turn (fun z => z = 5) c1 we c2 wr) ∧ Hid (MIBC c2 wr lb (20 * k) ((m.Tables.take k).flatten)) ∧ Hid (∀ j, j < k → tblB m OM j = false)) (fun s84 _ => NT - (intOf s84).toNat)
   case atStart => exact ⟨0, c1, Nat.zero_le _, rfl, Lib.hid (Turn.refl _ _ _), HLE, Lib.hid (fun j hj => absurd hj (Nat.not_lt_zero _))⟩
   case round =>
    obtain ⟨k, c2, hk, rfl, HT2, HL2, HTB⟩ := hrel
    by_cases hlt2 : k < NT
    case neg =>
     have tl2 : decide ((k : Int) < (NT : Int)) = false := decide_eq_false (by omega)
     have hLm : MIBC c2 wr lb 400 (keysM m (allS m) 0) := by
      have z := HL2.out
      rw [show k = m.Tables.length by rw [← HNT.out]; omega, List.take_length] at z
      exact MapC.mono z (by rw [← HNT.out]; omega)
     have hTBa : ∀ j, j < m.Tables.length → tblB m OM j = false := fun j hj => HTB.out j (by rw [← HNT.out] at hj; omega)
     have HLM := Lib.hid hLm
     have HTBA := Lib.hid hTBa
     obtain ⟨wm, hwm⟩ : ∃ wm : World, wm = wr := ⟨_, rfl⟩
     subst hwm
     have HXM := Lib.hid (HXE.out.turn HT2.out (by decide) (by decide) (by decide) (by decide))
     have HOMM := Lib.hid (HOE.out.turn HT2.out (by decide))
     have HKM := Lib.hid (HKE.out.turn HT2.out (by decide))
     have HMM := Lib.hid (HME.out.turn HT2.out (by decide))
     have HFM := Lib.hid (HFE2.out.turn HT2.out (by decide))
     have n1 := HMM.out.1.cell (j := 1) rfl
     clear hLm hTBa HL2 HTB
     go_wp2_with fail
     clear n1 tl2
     go_loopw [116] (fun s116 wr => ∃ (q : Nat) (c4 : Nat → Nat), q ≤ NF ∧ s116 = .int .i64 q ∧ Hid (Turn (fun z => z = 5) c2 wm c4 wr) ∧ Hid (∃ nn, nn ≤ 400 + 5000 * q ∧ MIBC c4 wr lb nn (keysM m (allS m) q)) ∧ Hid (∀ j, j < q → anyN (fun r => spB m OM j (nth (nth (allS m) j) r)) (nth (allS m) j).length = false)) (fun s116 _ => NF - (intOf s116).toNat)
     case atStart => exact ⟨0, c2, Nat.zero_le _, rfl, Lib.hid (Turn.refl _ _ _), Lib.hid ⟨400, by omega, HLM.out⟩, Lib.hid (fun j hj => absurd hj (Nat.not_lt_zero _))⟩
     case round =>
      obtain ⟨q, c4, hq, rfl, HT4, HL4, HSB⟩ := hrel
      by_cases hlt4 : q < NF
      case neg =>
       have tl4 : decide ((q : Int) < (NF : Int)) = false := decide_eq_false (by omega)
       obtain ⟨nn, hnn, hl4⟩ := HL4.out
       have hqN : q = m.Funcs.length := by rw [← HNF.out]; omega
       have hLk : MIBC c4 wr lb nn (keysM m (allS m) m.Funcs.length) := by rw [← hqN]; exact hl4
       have hSBa : recB m = false := recB_no (fun j hj => HSWE.out.f hj) (fun j hj => by rw [← HOM.out]; exact HTBA.out j hj) (fun j hj => by rw [← HOM.out]; exact HSB.out j (by rw [hqN]; exact hj))
       obtain ⟨wc, hwc⟩ : ∃ wc : World, wc = wr := ⟨_, rfl⟩
       subst hwc
       have HLK := Lib.hid hLk
       have HRB0 := Lib.hid hSBa
       have HXC := Lib.hid (HXM.out.turn HT4.out (by decide) (by decide) (by decide) (by decide))
       have HKC := Lib.hid (HKM.out.turn HT4.out (by decide))
       have HMC := Lib.hid (HMM.out.turn HT4.out (by decide))
       have HFC := Lib.hid (HFM.out.turn HT4.out (by decide))
       have n1 := HMC.out.1.cell (j := 1) rfl
       have HB0 : Hid (BlkS wa.heap.size c4 wc (.slice none 0 0) [] (cutF m 0).bs) := Lib.hid (BlkS.nil _ _ _)
       have HF0 : Hid (OwnC 9 c4 wc wa.heap.size 3 1 ci (.slice none 0 0) ((List.range 0).map fun i => ((cutF m i).bs.length : Int))) := Lib.hid (OwnC.nil _ _ _ _ _ _ _)
       clear hLk hSBa hqN hl4 hnn HL4 HSB
       go_wp2_with fail
       clear n1 tl4
       go_loopw [130] (fun s130 wr => ∃ (p : Nat) (c5 : Nat → Nat) (vB vF : Value) (rs : List Bv), p ≤ NF ∧ s130 = .int .i64 p ∧ Hid (Turn (fun i => i = 1 ∨ i = 6 ∨ i = 9 ∨ i = 10 ∨ 16 ≤ i) c4 wc c5 wr) ∧ Hid (Fin m wa (.slice x0 TL x0c) (.slice x1 NF x1c) (.slice x2 NT x2c) (.slice x3 m.Data.length x3c) (.slice x4 m.Lines.length x4c) va vs (allS m) xb ob lb kb vB (.slice none 0 0) vF c5 wr) ∧ Hid (BlkS wa.heap.size c5 wr vB rs (cutF m p).bs) ∧ Hid (MK6 c5 wr kb (2000 * p) (cutF m p).bm) ∧ Hid (OwnC 9 c5 wr wa.heap.size 3 1 ci vF ((List.range p).map fun i => ((cutF m i).bs.length : Int)))) (fun s130 _ => NF - (intOf s130).toNat)
       case atStart => exact ⟨0, c4, _, _, [], Nat.zero_le _, rfl, Lib.hid (Turn.refl _ _ _), HXC, HB0, HKC, HF0⟩
       case round =>
        obtain ⟨p, c5, vB, vF, rs, hp, rfl, HT5, HX5, HB5, HK5, HF5⟩ := hrel
        by_cases hlt5 : p < NF
        case neg =>
         have tl5 : decide ((p : Int) < (NF : Int)) = false := decide_eq_false (by omega)
         have hpN : p = m.Funcs.length := by rw [← HNF.out]; omega
         have hB9 : BlkS wa.heap.size c5 wr vB rs (cutF m m.Funcs.length).bs := by rw [← hpN]; exact HB5.out
         have hK9 : MK6 c5 wr kb (2000 * p) (cutF m m.Funcs.length).bm := by rw [← hpN]; exact HK5.out
         have hF9 : OwnC 9 c5 wr wa.heap.size 3 1 ci vF ((List.range m.Funcs.length).map fun i => ((cutF m i).bs.length : Int)) := by rw [← hpN]; exact HF5.out
         have hok := cutF_ok HG.out HSWE.out HH2.out
         have hsmN := cutF_sm HG.out HSWE.out HH2.out (Nat.le_refl m.Funcs.length)
         have hj := join_any HX5.out hB9 hK9 (hsmN.mono (by rw [← HNF.out]; omega)) (fun i hi => (hok _ (nthMem hi)).1) (fun i hi => by
          obtain ⟨-, b1, b2, b3, b4⟩ := hok _ (nthMem hi)
          exact ⟨wfI_of (by omega) (by omega), wfI_of (by omega) (by omega)⟩) HG.out.tabs (fun t ht => ⟨(HG.out.tab t ht).1, fun x hx => by
           obtain ⟨a, ha, e⟩ := memNth hx
           have := (HG.out.tab t ht).2 a ha
           have := HG.out.text
           rw [e] at *
           omega⟩)
         obtain ⟨ba, bc, hvB⟩ := own_form' hB9.row.1
         obtain ⟨fa, fcp, hvF⟩ := own_form' hF9.1
         obtain ⟨NBB, hNBB⟩ : ∃ n, n = rs.length := ⟨_, rfl⟩
         rw [← hNBB] at hvB
         rw [List.length_map, List.length_range] at hvF
         subst hvB hvF
         have HJ := Lib.hid hj
         have HB9 := Lib.hid hB9
         have HF9 := Lib.hid hF9
         have HFl := Lib.hid (HFC.out.turn HT5.out (by omega))
         clear hj hB9 hK9 hF9 hok hsmN hpN hNBB
         go_wp2_with (go_at_call 18; refine HJ.out.mono ?_; rintro e wb ⟨rfl, cj, vT, rsj, tsj, htj, hXj, hBj, hTj⟩; obtain ⟨ta7, tc7, e7⟩ := own_form' hTj.row.1; subst e7; have y10 := hXj.blk.1.cell (j := 10) rfl; have y11 := hXj.blk.1.cell (j := 11) rfl; have y12 := hXj.blk.1.cell (j := 12) rfl; have hfl := HFl.out.turn htj (by omega); have q0 := (hfl.1).cell (j := 0) rfl; have q1 := (hfl.1).cell (j := 1) rfl; have q2 := (hfl.1).cell (j := 2) rfl; have z0 := (hfl.1).thawed 0; have z1 := (hfl.1).thawed 1; have z2 := (hfl.1).thawed 2; have lq := hfl.1.lt; have HXJ := Lib.hid hXj; have HBJ := Lib.hid hBj; have HTJ := Lib.hid hTj; have HFJ := Lib.hid (HF9.out.turn htj (by omega)); have HFL := Lib.hid hfl; clear hXj hBj hTj hfl htj)
         obtain ⟨wf, hwf⟩ : ∃ wf : World, wf = ((wb.setCell ⟨w.heap.size + 1, 0, none⟩ (.slice ba NBB bc)).setCell ⟨w.heap.size + 1, 1, none⟩ (.slice ta7 tsj.length tc7)).setCell ⟨w.heap.size + 1, 2, none⟩ (.slice fa m.Funcs.length fcp) := ⟨_, rfl⟩
         rw [← hwf]
         obtain ⟨hBf, hgf⟩ := put3 HFL.out.1 _ _ _ hwf
         have HKF := Lib.hid (keepsPut (HKWA.out.trans HXJ.out.keep) (by omega) hgf)
         have e0 := hBf.cell (j := 0) rfl
         have e1 := hBf.cell (j := 1) rfl
         have e2 := hBf.cell (j := 2) rfl
         have htf : Turn (fun z => z = 0) cj wb cj wf := grown_turn hgf (fun b e => by cases e; exact HFL.out.2)
         have HFW : Hid (FlowAt wf (.agg #[.slice ba NBB bc, .slice ta7 tsj.length tc7, .slice fa m.Funcs.length fcp]) (recF m)) := Lib.hid ⟨_, _, _, rfl, (HBJ.out.turn htf (by decide) (fun i hi => by omega)).blocks, (HTJ.out.turn htf (by decide) (fun i _ => by omega)).tabs, (HFJ.out.turn htf (by decide)).1.ints⟩
         clear hwf hBf hgf htf
         exact bodyPost_ret (v := .tuple #[.agg #[.slice ba NBB bc, .slice ta7 tsj.length tc7, .slice fa m.Funcs.length fcp], .int .i64 0]) (by simp [results, Tryd.results6, go_sem, e0, e1, e2]) rfl (FlAns.fine (recE_good HFE.out.symm HBIG.out HRB0.out) HFW.out HKF.out)
        case pos =>
        have hlz5 : (p : Int) < (NF : Int) := by omega
        have hpF : p < m.Funcs.length := by rw [← HNF.out]; exact hlt5
        obtain ⟨s1, s2, -, s4⟩ := fun_short HG.out HH2.out hpF (HSWE.out.f hpF)
        have hcut := cut_any (f := p) HX5.out HB5.out HK5.out (HLK.out.turn HT5.out (by omega)) (isK_isL m) HF5.out (by rw [allS_len]; exact hpF) rfl s2 s1 (fun _ => first_isL HG.out HSWE.out hpF) (cutF_sm HG.out HSWE.out HH2.out (Nat.le_of_lt hpF)) (by omega) (by rw [List.length_map, List.length_range]; omega) (by omega)
        have hrg : ((List.range (p + 1)).map fun i => ((cutF m i).bs.length : Int)) = ((List.range p).map fun i => ((cutF m i).bs.length : Int)) ++ [((cutF m p).bs.length : Int)] := by rw [List.range_succ, List.map_append]; rfl
        have HCUT := Lib.hid hcut
        have HRG := Lib.hid hrg
        have HS1 := Lib.hid s1
        clear hcut hrg s1 s2 s4
        go_wp2_with (go_at_call 17; refine HCUT.out.mono ?_; rintro e wb ⟨rfl, cm, vB7, vF7, rs7, ht7, hX7, hB7, hK7, hF7⟩; have HT7 := Lib.hid (HT5.out.trans ht7); have HX7 := Lib.hid hX7; have HB7 := Lib.hid hB7; have HK7 := Lib.hid (MapC.mono hK7 (show _ ≤ 2000 * (p + 1) by have := HS1.out; omega)); have HF7 := Lib.hid hF7; clear ht7 hX7 hB7 hK7 hF7)
        go_roundw
        case rel => exact ⟨p + 1, cm, vB7, vF7, rs7, by omega, by go_num, HT7, HX7, HB7, HK7, Lib.hid (by rw [HRG.out]; exact HF7.out)⟩
        case measure => simp [intOf]; omega
      case pos =>
      have hlz4 : (q : Int) < (NF : Int) := by omega
      have hqF : q < m.Funcs.length := by rw [← HNF.out]; exact hlt4
      have hX4 := HXM.out.turn HT4.out (by decide) (by decide) (by decide) (by decide)
      have hO4 := HOMM.out.turn HT4.out (by decide)
      have hF4 := HFM.out.turn HT4.out (by decide)
      obtain ⟨nn, hnn, hl4⟩ := HL4.out
      obtain ⟨s1, s2, -, s4⟩ := fun_short HG.out HH2.out hqF (HSWE.out.f hqF)
      have hst := first_isL HG.out HSWE.out hqF
      have hgf := (HG.out.func q hqF).2.2
      have hsm0 := sumF_mono HG.out (show 0 ≤ q by omega) (Nat.le_of_lt hqF)
      have hsz0 : sumF m 0 = 0 := rfl
      have hmk := mark_any (f := q) hX4 hO4 hl4 (by rw [allS_len]; exact hqF) hqF s2 s1 (by have := HH2.out; omega) (by omega) HG.out.tabs (fun t ht => ⟨(HG.out.tab t ht).1, fun x hx => by
       obtain ⟨a, ha, e⟩ := memNth hx
       have := (HG.out.tab t ht).2 a ha
       have := HG.out.text
       rw [e] at *
       omega⟩) HG.out.funcs
      obtain ⟨BD, hBD⟩ : ∃ b, b = anyN (fun r => spB m OM q (nth (nth (allS m) q) r)) (nth (allS m) q).length := ⟨_, rfl⟩
      rw [← hBD] at hmk
      have HMK := Lib.hid hmk
      have HBD := Lib.hid hBD
      have HF4 := Lib.hid hF4
      have HX4 := Lib.hid hX4
      have HNL : Hid (nn + 1 + 2 * (nth (allS m) q).length ≤ 400 + 5000 * (q + 1)) := Lib.hid (by omega)
      clear hmk hBD hF4 hX4 hO4 hl4 s1 s2 s4 hst hgf hsm0 hsz0 hnn
      cases BD with
      | true =>
       have HRB : Hid (recB m = true) := Lib.hid (recB_s hqF (by rw [← HOM.out]; exact HBD.out.symm))
       go_wp2_with (go_at_call 16; refine HMK.out.mono ?_; rintro e wb ⟨cm, htm, hbm, -⟩; obtain rfl := hbm rfl; have hf5 := HF4.out.turn htm (by decide); have q0 := (hf5.1).cell (j := 0) rfl; have q1 := (hf5.1).cell (j := 1) rfl; have q2 := (hf5.1).cell (j := 2) rfl; have z0 := (hf5.1).thawed 0; have z1 := (hf5.1).thawed 1; have z2 := (hf5.1).thawed 2; have lq := hf5.1.lt)
       obtain ⟨wf, hwf⟩ : ∃ wf : World, wf = (((wb).setCell ⟨w.heap.size + 1, 0, none⟩ (.slice none 0 0)).setCell ⟨w.heap.size + 1, 1, none⟩ (.slice none 0 0)).setCell ⟨w.heap.size + 1, 2, none⟩ (.slice none 0 0) := ⟨_, rfl⟩
       rw [← hwf]
       obtain ⟨hBf, hgf⟩ := put3 (hf5.1) _ _ _ hwf
       have HKF := Lib.hid (keepsPut (HKWA.out.trans (HX4.out.turn htm (by decide) (by decide) (by decide) (by decide)).keep) (by omega) hgf)
       have e0 := hBf.cell (j := 0) rfl
       have e1 := hBf.cell (j := 1) rfl
       have e2 := hBf.cell (j := 2) rfl
       clear hwf hBf hgf
       exact bodyPost_ret (v := .tuple #[.agg #[.slice none 0 0, .slice none 0 0, .slice none 0 0], .int .i64 9]) (by simp [results, Tryd.results6, go_sem, e0, e1, e2]) rfl (FlAns.bad (one_bad HFE.out.symm HBIG.out HRB.out) HKF.out)
      | false =>
       go_wp2_with (go_at_call 16; refine HMK.out.mono ?_; rintro e wb ⟨cm, htm, -, hfm⟩; obtain ⟨rfl, hm5⟩ := hfm rfl; have HT5 := Lib.hid (HT4.out.trans htm); have HM5 := Lib.hid hm5; clear htm hfm hm5)
       go_roundw
       case rel => exact ⟨q + 1, cm, by omega, by go_num, HT5, Lib.hid ⟨_, HNL.out, HM5.out⟩, Lib.hid (fun j hj => by
        rcases Nat.lt_or_ge j q with z | z
        ·exact HSB.out j z
        ·obtain rfl : j = q := by omega
         exact HBD.out.symm)⟩
       case measure => simp [intOf]; omega
    case pos =>
    have hlz2 : (k : Int) < (NT : Int) := by omega
    have hkT : k < m.Tables.length := by rw [← HNT.out]; exact hlt2
    obtain ⟨_, _, te, -, -, -, t4⟩ := HI2a.out
    injection te with te1 te2 te3
    subst te1 te3
    obtain ⟨tb, tof, hta, tc⟩ := t4 (by omega)
    subst hta
    obtain ⟨sa, scap, hsv, s1, s2, s3, s4⟩ := HI2b.out k hkT
    obtain ⟨LT, hLT⟩ : ∃ l, l = nth m.Tables k := ⟨_, rfl⟩
    obtain ⟨TN, hTN⟩ : ∃ n, n = LT.length := ⟨_, rfl⟩
    rw [← hLT, ← hTN] at hsv s4
    have hX2 := HXE.out.turn HT2.out (by decide) (by decide) (by decide) (by decide)
    have y0 : wr.cell? ⟨tb, tof + k, none⟩ = some (.slice sa TN scap) := by
     have z := (HKWA.out.trans hX2.keep).cell (tc k 0 hkT (by decide))
     try dsimp only at z
     rw [hsv] at z
     simpa using z
    have htt9 := HG.out.tab k hkT
    rw [← hLT, ← hTN] at htt9
    have hTN20 : TN ≤ 20 := htt9.1
    obtain ⟨wp, hwp⟩ : ∃ wp : World, wp = wr := ⟨_, rfl⟩
    subst hwp
    have HLT := Lib.hid hLT
    have HTN := Lib.hid hTN
    have HT9 := Lib.hid htt9
    have HS4 := Lib.hid s4
    have HL2' : Hid (MIBC c2 wp lb (20 * k + 0) ((m.Tables.take k).flatten ++ LT.take 0)) := Lib.hid (by rw [List.take_zero, List.append_nil]; exact HL2.out)
    clear hsv s1 s2 s3 s4 tc t4 te2 hLT hTN htt9 hX2
    go_wp2_with fail
    clear y0
    go_loopw [90] (fun s90 wn => ∃ (j : Nat) (c3 : Nat → Nat), j ≤ TN ∧ s90 = .int .i64 j ∧ Hid (Turn (fun z => z = 5) c2 wp c3 wn) ∧ Hid (MIBC c3 wn lb (20 * k + j) ((m.Tables.take k).flatten ++ LT.take j)) ∧ Hid (∀ q, q < j → (OM (nth LT q)).isNone = false)) (fun s90 _ => TN - (intOf s90).toNat)
    case atStart => exact ⟨0, c2, Nat.zero_le _, rfl, Lib.hid (Turn.refl _ _ _), HL2', Lib.hid (fun j hj => absurd hj (Nat.not_lt_zero _))⟩
    case round =>
     obtain ⟨j, c3, hj, rfl, HT3, HL3, HNN⟩ := hrel
     have hT3 := HT2.out.trans HT3.out
     by_cases hlt3 : j < TN
     case neg =>
      have tl3 : decide ((j : Int) < (TN : Int)) = false := decide_eq_false (by omega)
      have hL9 : MIBC c3 wr lb (20 * (k + 1)) ((m.Tables.take (k + 1)).flatten) := by
       have z := HL3.out
       rw [show j = LT.length by rw [← HTN.out]; omega, List.take_length] at z
       rw [take_succ_nth _ _ hkT, List.flatten_append, ← HLT.out, List.flatten_singleton]
       exact MapC.mono z (by rw [← HTN.out]; omega)
      have hTB9 : tblB m OM k = false := by
       unfold tblB
       rw [← HLT.out, ← HTN.out]
       exact anyN_no (fun q hq => HNN.out q (by omega))
      have HL9 := Lib.hid hL9
      have HTB9 := Lib.hid hTB9
      have HT9' := Lib.hid hT3
      clear hL9 hTB9 hT3
      go_wp2_with fail
      go_roundw
      case rel => exact ⟨k + 1, c3, by omega, by go_num, HT9', HL9, Lib.hid (fun q hq => by
       rcases Nat.lt_or_ge q k with z | z
       ·exact HTB.out q z
       ·obtain rfl : q = k := by omega
        exact HTB9.out)⟩
      case measure => simp [intOf]; omega
     case pos =>
     have hlz3 : (j : Int) < (TN : Int) := by omega
     obtain ⟨ab, aof, hsa, hsc4⟩ := HS4.out (by omega)
     subst hsa
     obtain ⟨x, hx⟩ : ∃ x, x = nth LT j := ⟨_, rfl⟩
     have hX3 := HXE.out.turn hT3 (by decide) (by decide) (by decide) (by decide)
     have y1 : wr.cell? ⟨ab, aof + j, none⟩ = some (.int .i64 x) := by
      have z := (HKWA.out.trans hX3.keep).cell (hsc4 j 0 hlt3 (by decide))
      try dsimp only at z
      rw [← hx] at z
      simpa using z
     have hxb := HT9.out.2 j hlt3
     rw [← hx] at hxb
     have hxh : x < 2000 := by have := HH2.out; omega
     have HWX := Lib.hid (wfI_of (c := x) (by omega) (by omega))
     have x7 : wr.cell? ⟨xb, 7, none⟩ = some (.map (some ob)) := hX3.blk.1.cell rfl
     have x8 : wr.cell? ⟨xb, 8, none⟩ = some (.map (some lb)) := hX3.blk.1.cell rfl
     have HO3 := Lib.hid (HOE.out.turn hT3 (by decide))
     have HX9 := Lib.hid hx
     have HK3 := Lib.hid (HKWA.out.trans hX3.keep)
     have hF3 := HFE2.out.turn hT3 (by decide)
     have HF3 := Lib.hid hF3
     cases hom : OM x with
     | none =>
      have E1 := Lib.hid (show (OM x).getD 0 = 0 by rw [hom]; rfl)
      have E2 := Lib.hid (show (OM x).isSome = false by rw [hom]; rfl)
      have HRB : Hid (recB m = true) := Lib.hid (recB_t hkT (by
       rw [← HOM.out]
       unfold tblB
       refine anyN_yes (k := j) (by rw [← HLT.out, ← HTN.out]; exact hlt3) ?_
       rw [← HLT.out, ← HX9.out, hom]
       rfl))
      have q0 := (hF3.1).cell (j := 0) rfl
      have q1 := (hF3.1).cell (j := 1) rfl
      have q2 := (hF3.1).cell (j := 2) rfl
      have z0 := (hF3.1).thawed 0
      have z1 := (hF3.1).thawed 1
      have z2 := (hF3.1).thawed 2
      have lq := hF3.1.lt
      clear hsc4 hxb hxh hx hX3 hT3 hom hF3
      go_wp2_with (at_lookup; refine wpList_look_ok _ rfl (.tmp 98) (.tmp 99) rfl MKII ob 80000 OM rfl HO3.out.1 x rfl HWX.out ?_; rw [E1.out, E2.out])
      obtain ⟨wf, hwf⟩ : ∃ wf : World, wf = (((wr).setCell ⟨w.heap.size + 1, 0, none⟩ (.slice none 0 0)).setCell ⟨w.heap.size + 1, 1, none⟩ (.slice none 0 0)).setCell ⟨w.heap.size + 1, 2, none⟩ (.slice none 0 0) := ⟨_, rfl⟩
      rw [← hwf]
      obtain ⟨hBf, hgf⟩ := put3 (HF3.out.1) _ _ _ hwf
      have HKF := Lib.hid (keepsPut (HK3.out) (by omega) hgf)
      have e0 := hBf.cell (j := 0) rfl
      have e1 := hBf.cell (j := 1) rfl
      have e2 := hBf.cell (j := 2) rfl
      clear hwf hBf hgf
      exact bodyPost_ret (v := .tuple #[.agg #[.slice none 0 0, .slice none 0 0, .slice none 0 0], .int .i64 9]) (by simp [results, Tryd.results6, go_sem, e0, e1, e2]) rfl (FlAns.bad (one_bad HFE.out.symm HBIG.out HRB.out) HKF.out)
     | some g =>
      have E1 := Lib.hid (show (OM x).getD 0 = g by rw [hom]; rfl)
      have E2 := Lib.hid (show (OM x).isSome = true by rw [hom]; rfl)
      have HNS : Hid ((OM x).isNone = false) := Lib.hid (by rw [hom]; rfl)
      clear hsc4 hxb hxh hx hX3 hT3 hom hF3
      go_wp2_with (first | (at_lookup; refine wpList_look_ok _ rfl (.tmp 98) (.tmp 99) rfl MKII ob 80000 OM rfl HO3.out.1 x rfl HWX.out ?_; rw [E1.out, E2.out]) | (at_mapUpdate; refine wpList_put _ rfl (.tmp 109) (.tmp 110) (.const (.bool true)) rfl MKIB lb (20 * k + j) _ rfl (HL3.out.1.keep (by repeat (with_reducible (first | assumption | exact Keeps.refl _ | refine Keeps.alloc ?_ _ | refine Keeps.drew ?_ | refine Keeps.drewN ?_ _)))) (by unfold maxLen; omega) x rfl HWX.out true rfl trivial ?_; intro w4 hM4 hg4; rw [isK_put] at hM4; have HT4 := Lib.hid (HT3.out.trans (((show Keeps wr _ from (by repeat (with_reducible (first | assumption | exact Keeps.refl _ | refine Keeps.alloc ?_ _ | refine Keeps.drew ?_ | refine Keeps.drewN ?_ _)))).turn (fun z => z = 5) c3).trans (grown_turn hg4 (fun b e => by cases e; exact HL3.out.2)))); have HM4 := Lib.hid hM4; clear hM4 hg4))
      go_roundw
      case rel => exact ⟨j + 1, c3, by omega, by go_num, HT4, Lib.hid ⟨by rw [take_succ_nth _ _ (by rw [← HTN.out]; exact hlt3), ← HX9.out, ← List.append_assoc]; exact HM4.out, HL3.out.2⟩, Lib.hid (fun q hq => by
       rcases Nat.lt_or_ge q j with z | z
       ·exact HNN.out q z
       ·obtain rfl : q = j := by omega
        rw [← HX9.out]; exact HNS.out)⟩
      case measure => simp [intOf]; omega
  case pos =>
  have hltz : (i : Int) < (NF : Int) := by omega
  have hiF : i < m.Funcs.length := by rw [← HNF.out]; exact hlt
  have hfi := HI1.out
  obtain ⟨_, _, fe, -, -, -, f4⟩ := hfi
  injection fe with fe1 fe2 fe3
  subst fe1 fe3
  obtain ⟨fb, fof, hfa, fc⟩ := f4 (by omega)
  subst hfa
  have hgf := (HG.out.func i hiF).2.2
  obtain ⟨⟨fnm, fst, fsz⟩, hfu⟩ : ∃ f, f = nth m.Funcs i := ⟨_, rfl⟩
  rw [← hfu] at hgf
  dsimp only at hgf
  obtain ⟨g1, g2, g3⟩ := hgf
  have hsm0 := sumF_mono HG.out (show 0 ≤ i by omega) (Nat.le_of_lt hiF)
  have hsz0 : sumF m 0 = 0 := rfl
  have d0 : wr.cell? ⟨fb, fof + i * 3, none⟩ = some (.string fnm) := by have z := (HKWA.out.trans HX1.out.keep).cell (fc i 0 hiF (by decide)); dsimp only at z; rw [← hfu] at z; exact z
  have d1 : wr.cell? ⟨fb, fof + i * 3 + 1, none⟩ = some (.int .i64 fst) := by have z := (HKWA.out.trans HX1.out.keep).cell (fc i 1 hiF (by decide)); dsimp only at z; rw [← hfu] at z; exact z
  have d2 : wr.cell? ⟨fb, fof + i * 3 + 2, none⟩ = some (.int .i64 fsz) := by have z := (HKWA.out.trans HX1.out.keep).cell (fc i 2 hiF (by decide)); dsimp only at z; rw [← hfu] at z; exact z
  have hdl : fb < wr.heap.size := lt_of_cell d0
  have hf0 : 0 ≤ fst := by omega
  have hfsum : fst + fsz ≤ (m.Text.length : Int) := by omega
  have HSW : Hid (∀ W', Keeps wr W' → Calls Tryd.prog 15 #[.agg #[.slice x0 TL x0c, .slice (some ⟨fb, fof, none⟩) NF x1c, .slice x2 NT x2c, .slice x3 m.Data.length x3c, .slice x4 m.Lines.length x4c, .int .i64 m.Entry], .agg #[.string fnm, .int .i64 fst, .int .i64 fsz]] W' (SwAns (swA m.Text ⟨fnm, fst, fsz⟩) W')) :=
   Lib.hid (fun W' hk' => sweep_any (f := ⟨fnm, fst, fsz⟩) (HTAB.out.keep (HKWA.out.trans (HX1.out.keep.trans hk'))) (HSIZ.out.keep (HKWA.out.trans (HX1.out.keep.trans hk'))) (HIM.out.keep (HKWA.out.trans (HX1.out.keep.trans hk'))) hf0 g2 hfsum HH2.out)
  have HFU := Lib.hid hfu
  clear hfu g1 g2 g3 hsm0 hsz0 fc f4 fe2 hf0 hfsum
  go_upto_region 10 with fail
  obtain ⟨wq, cq, hwq, hkq, hTq, hb7⟩ := one_paint wr c1 (.cells #[.string fnm, .int .i64 fst, .int .i64 fsz] 47) 7
  rw [← hwq]
  obtain ⟨b7, hb7e⟩ : ∃ b, b = wr.heap.size := ⟨_, rfl⟩
  rw [← hb7e]
  rw [← hb7e] at hb7
  have hXq := HX1.out.turn (hTq (fun _ => False)) (fun q => q) (fun q => q) (fun q => q) (fun q => q)
  have hOq := HO1.out.turn (hTq (fun _ => False)) (fun q => q)
  have hTQ := HT1.out.trans (hTq (fun i => i = 1 ∨ i = 2 ∨ i = 3 ∨ i = 4))
  have hMq := HM6.out.turn hTQ (by decide)
  have n0 := (hMq.1).cell (j := 0) rfl
  have n1 := (hMq.1).cell (j := 1) rfl
  have n2 := (hMq.1).cell (j := 2) rfl
  have n3 := (hMq.1).cell (j := 3) rfl
  have n4 := (hMq.1).cell (j := 4) rfl
  have n5 := (hMq.1).cell (j := 5) rfl
  have u0 := (hb7.1).cell (j := 0) rfl
  have u1 := (hb7.1).cell (j := 1) rfl
  have u2 := (hb7.1).cell (j := 2) rfl
  have HXQ := Lib.hid hXq
  have HOQ := Lib.hid hOq
  have HTQ := Lib.hid hTQ
  have HFQ := Lib.hid (HF6.out.turn hTQ (by decide))
  have HKQ := Lib.hid hkq
  clear hXq hOq hTQ hMq hb7 hb7e hwq hTq d0 d1 d2 hdl
  by_cases hbd : badF m.Text (nth m.Funcs i) = true
  case pos =>
   have HSN : Hid (swA m.Text ⟨fnm, fst, fsz⟩ = none) := Lib.hid (by rw [HFU.out]; unfold swA; rw [if_pos hbd])
   have hrb := recB_f hiF hbd
   have HRB := Lib.hid hrb
   clear hbd hrb
   go_wp2_with (go_at_call 15; refine (HSW.out _ (HKQ.out.trans (by repeat (with_reducible (first | assumption | exact Keeps.refl _ | refine Keeps.alloc ?_ _ | refine Keeps.drew ?_ | refine Keeps.drewN ?_ _))))).mono ?_; rintro e wb ⟨hn, -, hkb⟩; obtain rfl := hn HSN.out; have q0 := (HFQ.out.1.keep hkb).cell (j := 0) rfl; have q1 := (HFQ.out.1.keep hkb).cell (j := 1) rfl; have q2 := (HFQ.out.1.keep hkb).cell (j := 2) rfl; have z0 := (HFQ.out.1.keep hkb).thawed 0; have z1 := (HFQ.out.1.keep hkb).thawed 1; have z2 := (HFQ.out.1.keep hkb).thawed 2; have lq := (HFQ.out.1.keep hkb).lt)
   obtain ⟨wf, hwf⟩ : ∃ wf : World, wf = (((wb).setCell ⟨w.heap.size + 1, 0, none⟩ (.slice none 0 0)).setCell ⟨w.heap.size + 1, 1, none⟩ (.slice none 0 0)).setCell ⟨w.heap.size + 1, 2, none⟩ (.slice none 0 0) := ⟨_, rfl⟩
   rw [← hwf]
   obtain ⟨hBf, hgf⟩ := put3 (HFQ.out.1.keep hkb) _ _ _ hwf
   have HKF := Lib.hid (keepsPut (HKWA.out.trans (HXQ.out.keep.trans hkb)) (by omega) hgf)
   have e0 := hBf.cell (j := 0) rfl
   have e1 := hBf.cell (j := 1) rfl
   have e2 := hBf.cell (j := 2) rfl
   clear hwf hBf hgf
   exact bodyPost_ret (v := .tuple #[.agg #[.slice none 0 0, .slice none 0 0, .slice none 0 0], .int .i64 9]) (by simp [results, Tryd.results6, go_sem, e0, e1, e2]) rfl (FlAns.bad (one_bad HFE.out.symm HBIG.out HRB.out) HKF.out)
  case neg =>
  have hbd0 : badF m.Text (nth m.Funcs i) = false := by simpa using hbd
  obtain ⟨s1, s2, s3, s4⟩ := fun_short HG.out HH2.out hiF hbd0
  obtain ⟨SL, hSL⟩ : ∃ l, l = nth (allS m) i := ⟨_, rfl⟩
  obtain ⟨SN, hSN⟩ : ∃ n, n = SL.length := ⟨_, rfl⟩
  rw [← hSL] at s1 s2 s3
  rw [← hSN] at s1
  have HSS : Hid (swA m.Text ⟨fnm, fst, fsz⟩ = some SL) := Lib.hid (by rw [HFU.out]; unfold swA; rw [if_neg hbd, s3])
  have HSL := Lib.hid hSL
  have HSN := Lib.hid hSN
  have HS2 := Lib.hid s2
  have HBD := Lib.hid hbd0
  obtain ⟨vaa, vac, hva⟩ := own_form' HXQ.out.all.1
  obtain ⟨NV, hNV⟩ : ∃ n, n = vs.length := ⟨_, rfl⟩
  rw [← hNV] at hva
  subst hva
  have hNVb : NV ≤ 40 := by rw [hNV, HXQ.out.len, List.length_take]; omega
  have HNV := Lib.hid hNV
  clear hbd hbd0 s2 s3 s4 hSL hSN hNV
  go_upto_region 13 with (go_at_call 15; refine (HSW.out _ (HKQ.out.trans (by repeat (with_reducible (first | assumption | exact Keeps.refl _ | refine Keeps.alloc ?_ _ | refine Keeps.drew ?_ | refine Keeps.drewN ?_ _))))).mono ?_; rintro e wb ⟨-, hsw, hkb⟩; obtain ⟨sv, rfl, hso⟩ := hsw _ HSS.out; obtain ⟨sa, sc, e7⟩ := own_form' hso; rw [← HSN.out] at e7; subst e7)
  obtain ⟨cb, htb, hob3⟩ := OwnC.fresh cq 3 hkb hso (Nat.le_refl _)
  have hXb := HXQ.out.turn (htb (fun _ => False)) (fun q => q) (fun q => q) (fun q => q) (fun q => q)
  have hOb := HOQ.out.turn (htb (fun _ => False)) (fun q => q)
  have hTb := HTQ.out.trans (htb (fun i => i = 1 ∨ i = 2 ∨ i = 3 ∨ i = 4))
  have y6 : wb.cell? ⟨xb, 6, none⟩ = some (.slice vaa NV vac) := hXb.blk.1.cell rfl
  have lxb := hXb.blk.1.lt
  have HXb := Lib.hid hXb
  have HOb := Lib.hid hOb
  have HTb := Lib.hid hTb
  have HSO := Lib.hid (show OwnC 3 cb wb wq.heap.size 63 8 csp (⟨sa, SN, sc⟩ : Sle).v SL from hob3)
  have HKB := Lib.hid hkb
  obtain ⟨NV1, hNV1⟩ : ∃ n, n = NV + 1 := ⟨_, rfl⟩
  have HLA := Lib.hid (show (vs ++ [(⟨sa, SN, sc⟩ : Sle)]).length = NV1 by rw [List.length_append, List.length_singleton, hNV1, HNV.out])
  clear hXb hOb hTb hob3 htb hso hsw hNV1 u0 u1 u2 n0 n1 n2 n3 n4 n5
  go_upto_region 14 with (at_builtin; refine wpList_pushes (by rfl) (.tmp 60) (.tmp 62) 54 (by rfl) Tryd.underlying54 info_spots (by rfl) (by decide) (base := wa.heap.size) (f := sle) (l := vs) (by rfl) (by exact HXb.out.all.1.keep (by repeat (with_reducible (first | assumption | exact Keeps.refl _ | refine Keeps.alloc ?_ _ | refine Keeps.drew ?_ | refine Keeps.drewN ?_ _)))) [⟨sa, SN, sc⟩] _ _ (by rfl) (by exact Blk.top' _ _ (by first | rfl | simp)) sle_len sle_one (by simp only [List.length_cons, List.length_nil, ← HNV.out]; omega) (by simp only [List.length_cons, List.length_nil, ← HNV.out]; unfold maxLen; omega) (by have := HXb.out.keep.size; first | omega | (simp only [sz_alloc]; omega)) ?_; intro v7 w7 hown7 hbel7 hgr7 hfr7; obtain ⟨va7, vc7, e7⟩ := own_form' hown7; rw [HLA.out] at e7; subst e7; obtain ⟨c5, ht5, ht52, hX5, hP5⟩ := HXb.out.snoc HSO.out (show Keeps wb _ from (by repeat (with_reducible (first | assumption | exact Keeps.refl _ | refine Keeps.alloc ?_ _ | refine Keeps.drew ?_ | refine Keeps.drewN ?_ _)))) hown7 hgr7 hfr7; have hbx := HXb.out.blk.turn ht52 (by decide); have y6 := hbx.1.cell (j := 6) rfl; have f6 := hbx.1.thawed 6; have l6 := hbx.1.lt)
  obtain ⟨w8, hw8⟩ : ∃ w8, w8 = w7.setCell ⟨xb, 6, none⟩ (.slice va7 NV1 vc7) := ⟨_, rfl⟩
  rw [← hw8] at ht5 hX5 hP5
  rw [← hw8]
  have HT8 := Lib.hid (HTb.out.trans (ht5.mono (J := (fun i => i = 1 ∨ i = 2 ∨ i = 3 ∨ i = 4)) fun z h => by rcases h with h | h <;> simp [h]))
  have HX8 := Lib.hid hX5
  have HP8 := Lib.hid hP5
  have HO8 := Lib.hid (HOb.out.turn ht5 (by decide))
  clear hw8 ht5 ht52 hX5 hP5 hbx y6 f6 l6 hown7 hbel7 hgr7 hfr7 lxb HXb HOb HTb
  go_wp2_with fail
  go_loopw [68] (fun s68 wn => ∃ (j : Nat) (c3 : Nat → Nat), j ≤ SN ∧ s68 = .int .i64 j ∧ Hid (Turn (fun z => z = 4) c5 w8 c3 wn) ∧ Hid (MapC 4 c3 Tryd.prog 3 3 (fun x : Int => .int .i64 x) wfI litI wn ob (2000 * i + j) (own1 i (SL.take j) (ownS (allS m) i)))) (fun s68 _ => SN - (intOf s68).toNat)
  case atStart => exact ⟨0, c5, Nat.zero_le _, rfl, Lib.hid (Turn.refl _ _ _), HO8⟩
  case round =>
   obtain ⟨wo, hwo⟩ : ∃ wo : World, wo = wr := ⟨_, rfl⟩
   obtain ⟨j, c3, hj, rfl, HT3, HO3⟩ := hrel
   have hT3 := HT8.out.trans (HT3.out.mono (J := (fun i => i = 1 ∨ i = 2 ∨ i = 3 ∨ i = 4)) fun z h => by simp [h])
   by_cases hlt3 : j < SN
   case neg =>
    have tl3 : decide ((j : Int) < (SN : Int)) = false := decide_eq_false (by omega)
    have hX9 := HX8.out.turn HT3.out (by decide) (by decide) (by decide) (by decide)
    have HX9 := Lib.hid hX9
    have HT9 := Lib.hid hT3
    have hO9 : MapC 4 c3 Tryd.prog 3 3 (fun x : Int => .int .i64 x) wfI litI wr ob (2000 * (i + 1)) (ownS (allS m) (i + 1)) := by
     have z := HO3.out
     rw [show j = SL.length by rw [← HSN.out]; omega, List.take_length, HSL.out] at z
     exact MapC.mono z (by rw [← HSL.out, ← HSN.out]; omega)
    have HO9 := Lib.hid hO9
    clear hX9 hT3 hO9
    go_wp2_with fail
    go_roundw
    case rel => exact ⟨i + 1, c3, _, _, by omega, by go_num, HT9, Lib.hid (by rw [take_succ_nth _ _ (by rw [allS_len]; exact hiF), ← HSL.out]; exact HX9.out), HO9, Lib.hid (fun k hk => by
     rcases Nat.lt_or_ge k i with q | q
     ·exact HNB.out k q
     ·obtain rfl : k = i := by omega
      exact HBD.out)⟩
    case measure => simp [intOf]; omega
   case pos =>
   have hlz3 : (j : Int) < (SN : Int) := by omega
   have hX9 := HX8.out.turn HT3.out (by decide) (by decide) (by decide) (by decide)
   have hsp := (HP8.out.turn HT3.out (by decide)).here
   obtain ⟨_, _, pe, -, -, -, p4⟩ := hsp
   injection pe with pe1 pe2 pe3
   subst pe1
   rw [← HSN.out] at p4
   obtain ⟨spb, spo, hsa, pc⟩ := p4 (by omega)
   subst hsa
   have hsok := HS2.out (nth SL j) (by rw [nth_eq _ _ (by rw [← HSN.out]; exact hlt3)]; exact List.getElem_mem _)
   obtain ⟨⟨A, Z, ⟨K, D, A2, B, N, Lg⟩⟩, hs⟩ : ∃ s, s = nth SL j := ⟨_, rfl⟩
   rw [← hs] at hsok
   have hA0 := hsok.a0
   have hA1 := hsok.a1
   dsimp only at hA0 hA1
   have g : ∀ q, q < 8 → wr.cell? ⟨spb, spo + j * 8 + q, none⟩ = some ((csp ⟨A, Z, ⟨K, D, A2, B, N, Lg⟩⟩).getD q undef) := fun q hq => by rw [hs]; exact pc j q hlt3 hq
   have d0 : wr.cell? ⟨spb, spo + j * 8, none⟩ = some (.int .i64 A) := g 0 (by omega)
   have d1 : wr.cell? ⟨spb, spo + j * 8 + 1, none⟩ = some (.int .i64 Z) := g 1 (by omega)
   have d2 : wr.cell? ⟨spb, spo + j * 8 + 2, none⟩ = some (.int .i64 K) := g 2 (by omega)
   have d3 : wr.cell? ⟨spb, spo + j * 8 + 3, none⟩ = some (.int .i64 D) := g 3 (by omega)
   have d4 : wr.cell? ⟨spb, spo + j * 8 + 4, none⟩ = some (.int .i64 A2) := g 4 (by omega)
   have d5 : wr.cell? ⟨spb, spo + j * 8 + 5, none⟩ = some (.int .i64 B) := g 5 (by omega)
   have d6 : wr.cell? ⟨spb, spo + j * 8 + 6, none⟩ = some (.int .i64 N) := g 6 (by omega)
   have d7 : wr.cell? ⟨spb, spo + j * 8 + 7, none⟩ = some (.bool Lg) := g 7 (by omega)
   have hspb : spb < wr.heap.size := lt_of_cell d0
   have HSA : Hid ((nth SL j).A = A) := Lib.hid (by rw [← hs])
   clear hs g pc p4 pe2 pe3 hsok hwo
   go_upto_region 17 with fail
   obtain ⟨wz, cz, hwz, hkz, hTz, hbz⟩ := one_paint wr c3 (.cells #[.int .i64 A, .int .i64 Z, .int .i64 K, .int .i64 D, .int .i64 A2, .int .i64 B, .int .i64 N, .bool Lg] 63) 7
   rw [← hwz]
   obtain ⟨b11, hb11⟩ : ∃ b, b = wr.heap.size := ⟨_, rfl⟩
   rw [← hb11]
   rw [← hb11] at hbz
   have hTZ := HT3.out.trans (hTz (fun z => z = 4))
   have hOZ := HO3.out.turn (hTz (fun _ => False)) (fun q => q)
   have x7 : wz.drew.cell? ⟨xb, 7, none⟩ = some (.map (some ob)) := (hX9.blk.turn (hTz (fun _ => False)) (fun q => q)).1.cell rfl
   have y0 : wz.drew.cell? ⟨b11, 0, none⟩ = some (.int .i64 A) := hbz.1.cell rfl
   have HTZ := Lib.hid hTZ
   have HOZ := Lib.hid hOZ
   clear hwz hkz hTz hbz hb11 hTZ hOZ hX9 hT3 d0 d1 d2 d3 d4 d5 d6 d7 hspb
   refine wp_region_head (S := Cells [(xb, 7, .map (some ob)), (b11, 0, .int .i64 A)]) 7 (by kernel_rfl) (by kernel_rfl) (by kernel_rfl) (by kernel_rfl) (by decide) (by kernel_rfl) ?hS1 (fun hHeld => ?_)
   case hS1 => exact ⟨x7, y0, trivial⟩
   simp only [List.take_succ_cons, List.take_zero, List.drop_succ_cons, List.drop_zero]
   refine takeC 0 hHeld ?_
   refine takeC 1 hHeld ?_
   refine takeC 2 hHeld ?_
   refine takeC 3 hHeld ?_
   refine takeC 4 hHeld ?_
   refine takeC 5 hHeld ?_
   refine takeC 6 hHeld ?_
   refine wpAnyH_done (by kernel_rfl) ?_ _
   dsimp only [TailQ]
   clear hHeld x7 y0
   have hn := HO3.out
   go_upto_region 18 with (at_mapUpdate; refine wpList_put _ rfl (.tmp 75) (.tmp 77) (.tmp 78) rfl MKII ob (2000 * i + j) _ rfl (HOZ.out.1.keep (by repeat (with_reducible (first | assumption | exact Keeps.refl _ | refine Keeps.alloc ?_ _ | refine Keeps.drew ?_ | refine Keeps.drewN ?_ _)))) (by unfold maxLen; omega) A rfl (wfI_of (by omega) (by omega)) (i : Int) rfl (wfI_of (by omega) (by omega)) ?_; intro w4 hM4 hg4)
   have ht4 : Turn (fun z => z = 4) c5 w8 cz w4 := (HTZ.out.trans ((show Keeps wz _ from (by repeat (with_reducible (first | assumption | exact Keeps.refl _ | refine Keeps.alloc ?_ _ | refine Keeps.drew ?_ | refine Keeps.drewN ?_ _)))).turn _ cz)).trans (grown_turn hg4 (fun b e => by cases e; exact HOZ.out.2))
   have hO4 : MapC 4 cz Tryd.prog 3 3 (fun x : Int => .int .i64 x) wfI litI w4 ob (2000 * i + (j + 1)) (own1 i (SL.take (j + 1)) (ownS (allS m) i)) := by
    rw [own1_take _ _ _ (by rw [← HSN.out]; exact hlt3), HSA.out]
    exact ⟨hM4, HOZ.out.2⟩
   have HT4 := Lib.hid ht4
   have HO4 := Lib.hid hO4
   clear ht4 hO4 hM4 hg4 hn
   go_wp2_with fail
   go_roundw
   case rel => exact ⟨j + 1, cz, by omega, by go_num, HT4, HO4⟩
   case measure => simp [intOf]; omega
