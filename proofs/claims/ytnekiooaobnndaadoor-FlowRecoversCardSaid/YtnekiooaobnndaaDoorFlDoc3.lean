/-
 The document's RecoveredOf: the blocks of a program, or that it can't be followed.
-/
import Derived.Test.YtnekiooaobnndaaDoorFlDoc4P
import Derived.Test.YtnekiooaobnndaaDoorImgFault
import Derived.Test.YtnekiooaobnndaaDoorRegHead
set_option linter.unusedVariables false
set_option linter.unusedSimpArgs false
namespace Go.Proofs.YtnekiooaobnndaaDoor
open Go.RowKit BH
set_option maxHeartbeats 1000000000
set_option maxRecDepth 100000
section
variable {w : World} {g : Nat} {T : TypeId} {rF rS rE rT rL lK lD lA lB lN : Int} {lLg : Bool} {ca aa la : Option Addr} {cn cc0 an ac ln lc : Nat}
theorem load_blk (hB : Blk w g (.cells (cbv ⟨rF, rS, ⟨ca, cn, cc0⟩, ⟨aa, an, ac⟩, ⟨lK, lD, lA, lB, lN, lLg⟩, rE, rT, rL, ⟨la, ln, lc⟩⟩).toArray T)) : (Instr.loadAt 77 (.pointer (some ⟨g, 0, none⟩))).run Tryd.prog w = .ok (.agg #[.int .i64 rF, .int .i64 rS, .slice ca cn cc0, .slice aa an ac, .int .i64 lK, .int .i64 lD, .int .i64 lA, .int .i64 lB, .int .i64 lN, .bool lLg, .int .i64 rE, .int .i64 rT, .int .i64 rL, .slice la ln lc]) w := by
 have c0 : w.cell? ⟨g, 0, none⟩ = some (.int .i64 rF) := hB.cell rfl
 have c1 : w.cell? ⟨g, 1, none⟩ = some (.int .i64 rS) := hB.cell rfl
 have c2 : w.cell? ⟨g, 2, none⟩ = some (.slice ca cn cc0) := hB.cell rfl
 have c3 : w.cell? ⟨g, 3, none⟩ = some (.slice aa an ac) := hB.cell rfl
 have c4 : w.cell? ⟨g, 4, none⟩ = some (.int .i64 lK) := hB.cell rfl
 have c5 : w.cell? ⟨g, 5, none⟩ = some (.int .i64 lD) := hB.cell rfl
 have c6 : w.cell? ⟨g, 6, none⟩ = some (.int .i64 lA) := hB.cell rfl
 have c7 : w.cell? ⟨g, 7, none⟩ = some (.int .i64 lB) := hB.cell rfl
 have c8 : w.cell? ⟨g, 8, none⟩ = some (.int .i64 lN) := hB.cell rfl
 have c9 : w.cell? ⟨g, 9, none⟩ = some (.bool lLg) := hB.cell rfl
 have c10 : w.cell? ⟨g, 10, none⟩ = some (.int .i64 rE) := hB.cell rfl
 have c11 : w.cell? ⟨g, 11, none⟩ = some (.int .i64 rT) := hB.cell rfl
 have c12 : w.cell? ⟨g, 12, none⟩ = some (.int .i64 rL) := hB.cell rfl
 have c13 : w.cell? ⟨g, 13, none⟩ = some (.slice la ln lc) := hB.cell rfl
 simp [go_sem, Instr.loadAt, c0, c1, c2, c3, c4, c5, c6, c7, c8, c9, c10, c11, c12, c13]
/-- a block's load at the operation -/
theorem wpList_loadBlk {ops : Array Oper} {Q : Exit → Act → World → Prop} {a : Act} {rest : List Oper} {o : Oper} (hg : o.guard = none) (x : Operand) (hop : o.op = Op.load 77 x) (hx : a.eval x = .pointer (some ⟨g, 0, none⟩)) (hB : Blk w g (.cells (cbv ⟨rF, rS, ⟨ca, cn, cc0⟩, ⟨aa, an, ac⟩, ⟨lK, lD, lA, lB, lN, lLg⟩, rE, rT, rL, ⟨la, ln, lc⟩⟩).toArray T))
  (hK : wpList Tryd.prog ops Q rest (a.put o.dst (.agg #[.int .i64 rF, .int .i64 rS, .slice ca cn cc0, .slice aa an ac, .int .i64 lK, .int .i64 lD, .int .i64 lA, .int .i64 lB, .int .i64 lN, .bool lLg, .int .i64 rE, .int .i64 rT, .int .i64 rL, .slice la ln lc])) w) : wpList Tryd.prog ops Q (o :: rest) a w := by
 refine wpList_plain hg fun K' hK' => ?_
 have hrun := load_blk hB
 unfold Oper.wp
 simp [execOp, hop, hx, hrun, Result.andThen]
 exact hK' _ _ hK
/-- a row of one block that is made, at the operation -/
theorem wpList_makeBlk {ops : Array Oper} {Q : Exit → Act → World → Prop} {a : Act} {rest : List Oper} {o : Oper} (hg : o.guard = none) (x : Tmp) (hop : o.op = Op.buildSlice 30 1 #[(0, .tmp x)]) (hx : a.eval (.tmp x) = .agg #[.int .i64 rF, .int .i64 rS, .slice ca cn cc0, .slice aa an ac, .int .i64 lK, .int .i64 lD, .int .i64 lA, .int .i64 lB, .int .i64 lN, .bool lLg, .int .i64 rE, .int .i64 rT, .int .i64 rL, .slice la ln lc])
  (hK : wpList Tryd.prog ops Q rest (a.put o.dst (.slice (some ⟨w.heap.size, 0, none⟩) 1 1)) (w.alloc (.cells #[.int .i64 rF, .int .i64 rS, .slice ca cn cc0, .slice aa an ac, .int .i64 lK, .int .i64 lD, .int .i64 lA, .int .i64 lB, .int .i64 lN, .bool lLg, .int .i64 rE, .int .i64 rT, .int .i64 rL, .slice la ln lc] 77))) : wpList Tryd.prog ops Q (o :: rest) a w := by
 refine wpList_plain hg fun K' hK' => ?_
 have hx' : a.tmps[x]?.getD undef = .agg #[.int .i64 rF, .int .i64 rS, .slice ca cn cc0, .slice aa an ac, .int .i64 lK, .int .i64 lD, .int .i64 lA, .int .i64 lB, .int .i64 lN, .bool lLg, .int .i64 rE, .int .i64 rT, .int .i64 rL, .slice la ln lc] := by simpa [Act.eval] using hx
 unfold Oper.wp
 simp [execOp, hop, hx', Result.andThen, go_sem]
 exact hK' _ _ hK
theorem run_loadIns {u0 u1 u2 u3 u4 u5 : Value} (hB : Blk w g (.cells #[u0, u1, u2, u3, u4, u5] T)) : (Instr.loadAt 61 (.pointer (some ⟨g, 0, none⟩))).run Tryd.prog w = .ok (.agg #[u0, u1, u2, u3, u4, u5]) w := by
 have c0 : w.cell? ⟨g, 0, none⟩ = some u0 := hB.cell rfl
 have c1 : w.cell? ⟨g, 1, none⟩ = some u1 := hB.cell rfl
 have c2 : w.cell? ⟨g, 2, none⟩ = some u2 := hB.cell rfl
 have c3 : w.cell? ⟨g, 3, none⟩ = some u3 := hB.cell rfl
 have c4 : w.cell? ⟨g, 4, none⟩ = some u4 := hB.cell rfl
 have c5 : w.cell? ⟨g, 5, none⟩ = some u5 := hB.cell rfl
 simp [go_sem, Instr.loadAt, c0, c1, c2, c3, c4, c5]
theorem wpList_loadIns {u0 u1 u2 u3 u4 u5 : Value} {ops : Array Oper} {Q : Exit → Act → World → Prop} {a : Act} {rest : List Oper} {o : Oper} (hg : o.guard = none) (x : Operand) (hop : o.op = Op.load 61 x) (hx : a.eval x = .pointer (some ⟨g, 0, none⟩)) (hB : Blk w g (.cells #[u0, u1, u2, u3, u4, u5] T))
  (hK : wpList Tryd.prog ops Q rest (a.put o.dst (.agg #[u0, u1, u2, u3, u4, u5])) w) : wpList Tryd.prog ops Q (o :: rest) a w := by
 refine wpList_plain hg fun K' hK' => ?_
 have hrun := run_loadIns hB
 unfold Oper.wp
 simp [execOp, hop, hx, hrun, Result.andThen]
 exact hK' _ _ hK
theorem wpList_makeIns {u0 u1 u2 u3 u4 u5 : Value} {ops : Array Oper} {Q : Exit → Act → World → Prop} {a : Act} {rest : List Oper} {o : Oper} (hg : o.guard = none) (x : Tmp) (hop : o.op = Op.buildSlice 75 1 #[(0, .tmp x)]) (hx : a.eval (.tmp x) = .agg #[u0, u1, u2, u3, u4, u5])
  (hK : wpList Tryd.prog ops Q rest (a.put o.dst (.slice (some ⟨w.heap.size, 0, none⟩) 1 1)) (w.alloc (.cells #[u0, u1, u2, u3, u4, u5] 61))) : wpList Tryd.prog ops Q (o :: rest) a w := by
 refine wpList_plain hg fun K' hK' => ?_
 have hx' : a.tmps[x]?.getD undef = .agg #[u0, u1, u2, u3, u4, u5] := by simpa [Act.eval] using hx
 unfold Oper.wp
 simp [execOp, hop, hx', Result.andThen, go_sem]
 exact hK' _ _ hK
theorem run_loadImg {u0 u1 u2 u3 u4 u5 : Value} (hB : Blk w g (.cells #[u0, u1, u2, u3, u4, u5] T)) : (Instr.loadAt 28 (.pointer (some ⟨g, 0, none⟩))).run Tryd.prog w = .ok (.agg #[u0, u1, u2, u3, u4, u5]) w := by
 have c0 : w.cell? ⟨g, 0, none⟩ = some u0 := hB.cell rfl
 have c1 : w.cell? ⟨g, 1, none⟩ = some u1 := hB.cell rfl
 have c2 : w.cell? ⟨g, 2, none⟩ = some u2 := hB.cell rfl
 have c3 : w.cell? ⟨g, 3, none⟩ = some u3 := hB.cell rfl
 have c4 : w.cell? ⟨g, 4, none⟩ = some u4 := hB.cell rfl
 have c5 : w.cell? ⟨g, 5, none⟩ = some u5 := hB.cell rfl
 simp [go_sem, Instr.loadAt, c0, c1, c2, c3, c4, c5]
theorem wpList_loadImg {u0 u1 u2 u3 u4 u5 : Value} {ops : Array Oper} {Q : Exit → Act → World → Prop} {a : Act} {rest : List Oper} {o : Oper} (hg : o.guard = none) (x : Operand) (hop : o.op = Op.load 28 x) (hx : a.eval x = .pointer (some ⟨g, 0, none⟩)) (hB : Blk w g (.cells #[u0, u1, u2, u3, u4, u5] T))
  (hK : wpList Tryd.prog ops Q rest (a.put o.dst (.agg #[u0, u1, u2, u3, u4, u5])) w) : wpList Tryd.prog ops Q (o :: rest) a w := by
 refine wpList_plain hg fun K' hK' => ?_
 have hrun := run_loadImg hB
 unfold Oper.wp
 simp [execOp, hop, hx, hrun, Result.andThen]
 exact hK' _ _ hK
end
theorem recRef_any {v : Value} {m : Img} {w : World} (hm : ImgAt w v m) : Calls Tryd.prog 7 #[v] w (FlAns m w) := by
 have hm' := hm
 obtain ⟨v0, v1, v2, v3, v4, rfl, i0, i1, i2, i3, i4⟩ := hm
 obtain ⟨x0, x0c, rfl⟩ := Arr.form i0
 obtain ⟨x1, x1c, rfl⟩ := Arr.form i1
 obtain ⟨tv, i2a, i2b⟩ := i2
 obtain ⟨x2, x2c, rfl⟩ := Arr.form i2a
 obtain ⟨x3, x3c, rfl⟩ := Arr.form i3
 obtain ⟨x4, x4c, rfl⟩ := Arr.form i4
 obtain ⟨v0, hv0⟩ : ∃ z : Value, z = .slice x0 m.Text.length x0c := ⟨_, rfl⟩
 obtain ⟨v1, hv1⟩ : ∃ z : Value, z = .slice x1 m.Funcs.length x1c := ⟨_, rfl⟩
 obtain ⟨v2, hv2⟩ : ∃ z : Value, z = .slice x2 m.Tables.length x2c := ⟨_, rfl⟩
 obtain ⟨TL, hTL⟩ : ∃ n, n = m.Text.length := ⟨_, rfl⟩
 obtain ⟨NF, hNF⟩ : ∃ n, n = m.Funcs.length := ⟨_, rfl⟩
 obtain ⟨NT, hNT⟩ : ∃ n, n = m.Tables.length := ⟨_, rfl⟩
 have HIM := Lib.hid hm'
 have HCK := Lib.hid (fun (W' : World) (hk : Keeps w W') => imageFault_any _ m W' (hm'.keep hk))
 have HI1 := Lib.hid i1
 have HI2a := Lib.hid i2a
 have HI2b := Lib.hid i2b
 have HI0 := Lib.hid i0
 clear i0 i1 i2a i2b i3 i4 hm' hv0 hv1 hv2
 rw [← hTL, ← hNF, ← hNT] at HCK HIM ⊢
 have HTL := Lib.hid hTL
 have HNF := Lib.hid hNF
 have HNT := Lib.hid hNT
 clear hTL hNF hNT
 obtain ⟨W, hW, hkW, hbM, hbF, hsW⟩ := two_blocks' w (.cells #[.slice x0 TL x0c, .slice x1 NF x1c, .slice x2 NT x2c, .slice x3 m.Data.length x3c, .slice x4 m.Lines.length x4c, .int .i64 m.Entry] 28) (.cells #[.slice none 0 0, .slice none 0 0, .slice none 0 0] 32)
 have HW := Lib.hid hW
 have HKW := Lib.hid hkW
 have HBM := Lib.hid hbM
 have HBF := Lib.hid hbF
 have m0 := (hbM).cell (j := 0) rfl; have m1 := (hbM).cell (j := 1) rfl; have m2 := (hbM).cell (j := 2) rfl; have m3 := (hbM).cell (j := 3) rfl; have m4 := (hbM).cell (j := 4) rfl; have m5 := (hbM).cell (j := 5) rfl
 clear hW hkW hbM hbF
 obtain ⟨FE, hFE⟩ : ∃ z, z = imgFault m := ⟨_, rfl⟩
 rw [← hFE] at HCK
 have HFE := Lib.hid hFE
 clear hFE
 go_enter Tryd.func7, Tryd.ntmps7
 go_upto_region 1 with fail
 rw [← HW.out]
 clear HW
 by_cases h0 : FE = 0
 case neg =>
  have t0 : (FE != 0) = true := by simpa using h0
  have t0' : (FE == 0) = false := by simpa using h0
  go_wp2_with (go_at_call 19; refine (HCK.out _ (HKW.out.trans (by repeat (with_reducible (first | assumption | exact Keeps.refl _ | refine Keeps.alloc ?_ _ | refine Keeps.drew ?_ | refine Keeps.drewN ?_ _))))).mono ?_; rintro e wa ⟨rfl, hka⟩; have q0 := (HBF.out.keep hka).cell (j := 0) rfl; have q1 := (HBF.out.keep hka).cell (j := 1) rfl; have q2 := (HBF.out.keep hka).cell (j := 2) rfl; have z0 := (HBF.out.keep hka).thawed 0; have z1 := (HBF.out.keep hka).thawed 1; have z2 := (HBF.out.keep hka).thawed 2; have lq := (HBF.out.keep hka).lt; have n0 := (HBM.out.keep hka).cell (j := 0) rfl; have n1 := (HBM.out.keep hka).cell (j := 1) rfl; have n2 := (HBM.out.keep hka).cell (j := 2) rfl; have n3 := (HBM.out.keep hka).cell (j := 3) rfl; have n4 := (HBM.out.keep hka).cell (j := 4) rfl; have n5 := (HBM.out.keep hka).cell (j := 5) rfl)
  obtain ⟨wf, hwf⟩ : ∃ wf : World, wf = (((wa).setCell ⟨w.heap.size + 1, 0, none⟩ (.slice none 0 0)).setCell ⟨w.heap.size + 1, 1, none⟩ (.slice none 0 0)).setCell ⟨w.heap.size + 1, 2, none⟩ (.slice none 0 0) := ⟨_, rfl⟩
  rw [← hwf]
  obtain ⟨hBf, hgf⟩ := put3 (HBF.out.keep hka) _ _ _ hwf
  have HKF := Lib.hid (keepsPut (HKW.out.trans hka) (by omega) hgf)
  have e0 := hBf.cell (j := 0) rfl
  have e1 := hBf.cell (j := 1) rfl
  have e2 := hBf.cell (j := 2) rfl
  clear hwf hBf hgf
  exact bodyPost_ret (v := .tuple #[.agg #[.slice none 0 0, .slice none 0 0, .slice none 0 0], .int .i64 FE]) (by simp [results, Tryd.results7, go_sem, e0, e1, e2]) rfl (FlAns.bad (⟨by rw [HFE.out]; exact recE_fault (by rw [← HFE.out]; exact h0), h0⟩) HKF.out)
 case pos =>
 subst h0
 have hg := imgGood m HFE.out.symm
 by_cases hbig : 2000 < TL
 case pos =>
  have tb : decide ((2000 : Int) < (TL : Int)) = true := decide_eq_true (by omega)
  go_wp2_with (go_at_call 19; refine (HCK.out _ (HKW.out.trans (by repeat (with_reducible (first | assumption | exact Keeps.refl _ | refine Keeps.alloc ?_ _ | refine Keeps.drew ?_ | refine Keeps.drewN ?_ _))))).mono ?_; rintro e wa ⟨rfl, hka⟩; have q0 := (HBF.out.keep hka).cell (j := 0) rfl; have q1 := (HBF.out.keep hka).cell (j := 1) rfl; have q2 := (HBF.out.keep hka).cell (j := 2) rfl; have z0 := (HBF.out.keep hka).thawed 0; have z1 := (HBF.out.keep hka).thawed 1; have z2 := (HBF.out.keep hka).thawed 2; have lq := (HBF.out.keep hka).lt; have n0 := (HBM.out.keep hka).cell (j := 0) rfl; have n1 := (HBM.out.keep hka).cell (j := 1) rfl; have n2 := (HBM.out.keep hka).cell (j := 2) rfl; have n3 := (HBM.out.keep hka).cell (j := 3) rfl; have n4 := (HBM.out.keep hka).cell (j := 4) rfl; have n5 := (HBM.out.keep hka).cell (j := 5) rfl)
  obtain ⟨wf, hwf⟩ : ∃ wf : World, wf = (((wa).setCell ⟨w.heap.size + 1, 0, none⟩ (.slice none 0 0)).setCell ⟨w.heap.size + 1, 1, none⟩ (.slice none 0 0)).setCell ⟨w.heap.size + 1, 2, none⟩ (.slice none 0 0) := ⟨_, rfl⟩
  rw [← hwf]
  obtain ⟨hBf, hgf⟩ := put3 (HBF.out.keep hka) _ _ _ hwf
  have HKF := Lib.hid (keepsPut (HKW.out.trans hka) (by omega) hgf)
  have e0 := hBf.cell (j := 0) rfl
  have e1 := hBf.cell (j := 1) rfl
  have e2 := hBf.cell (j := 2) rfl
  clear hwf hBf hgf
  exact bodyPost_ret (v := .tuple #[.agg #[.slice none 0 0, .slice none 0 0, .slice none 0 0], .int .i64 1]) (by simp [results, Tryd.results7, go_sem, e0, e1, e2]) rfl (FlAns.bad (⟨recE_big HFE.out.symm (by rw [← HTL.out]; exact hbig), by decide⟩) HKF.out)
 case neg =>
 have tb : decide ((2000 : Int) < (TL : Int)) = false := decide_eq_false (by omega)
 have hTL2 : TL ≤ 2000 := by omega
 have hNF40 : NF ≤ 40 := by rw [HNF.out]; exact hg.funcs
 have hNT20 : NT ≤ 20 := by rw [HNT.out]; exact hg.tabs
 have HG := Lib.hid hg
 have HBIG : Hid (¬ 2000 < m.Text.length) := Lib.hid (by rw [← HTL.out]; exact hbig)
 have HH2 : Hid (m.Text.length ≤ 2000) := Lib.hid (by rw [← HTL.out]; exact hTL2)
 have HFO := Lib.hid (fun (W' : World) (hk : Keeps w W') => funcOf_any (HIM.out.keep hk) HG.out HH2.out)
 obtain ⟨N1, hN1⟩ : ∃ n, n = m.Text.length + 1 := ⟨_, rfl⟩
 have hN1t : TL < N1 := by have := HTL.out; omega
 have hN1b : N1 ≤ 2001 := by have := HTL.out; omega
 have HW1 : IntKind.i64.wrap ((TL : Int) + 1) = (N1 : Int) := by rw [IntKind.wrap_i64]; have := HTL.out; omega
 unfold FoAns at HFO
 rw [← hN1] at HFO
 have HN1 := Lib.hid hN1
 clear hg hbig hN1
 go_upto_region 6 with (go_at_call 19; refine (HCK.out _ (HKW.out.trans (by repeat (with_reducible (first | assumption | exact Keeps.refl _ | refine Keeps.alloc ?_ _ | refine Keeps.drew ?_ | refine Keeps.drewN ?_ _))))).mono ?_; rintro e wa ⟨rfl, hka⟩; have q0 := (HBF.out.keep hka).cell (j := 0) rfl; have q1 := (HBF.out.keep hka).cell (j := 1) rfl; have q2 := (HBF.out.keep hka).cell (j := 2) rfl; have z0 := (HBF.out.keep hka).thawed 0; have z1 := (HBF.out.keep hka).thawed 1; have z2 := (HBF.out.keep hka).thawed 2; have lq := (HBF.out.keep hka).lt; have n0 := (HBM.out.keep hka).cell (j := 0) rfl; have n1 := (HBM.out.keep hka).cell (j := 1) rfl; have n2 := (HBM.out.keep hka).cell (j := 2) rfl; have n3 := (HBM.out.keep hka).cell (j := 3) rfl; have n4 := (HBM.out.keep hka).cell (j := 4) rfl; have n5 := (HBM.out.keep hka).cell (j := 5) rfl)
 have hkwa : Keeps w wa := HKW.out.trans hka
 have HKWA := Lib.hid hkwa
 have hMa := HBM.out.keep hka
 have hFa := HBF.out.keep hka
 have HMA := Lib.hid hMa
 have HFA := Lib.hid hFa
 clear hkwa hMa hFa tb m0 m1 m2 m3 m4 m5
 cases hsw : anyN (fun i => badF m.Text (nth m.Funcs i)) m.Funcs.length with
 | true =>
  obtain ⟨bi, hbi, hbb⟩ := anyN_true hsw
  have HRB := Lib.hid (recB_f hbi hbb)
  have HSW := Lib.hid hsw
  clear hbb hsw hbi q0 q1 q2 z0 z1 z2 lq
  go_wp2_with (go_at_call 20; refine (HFO.out _ (HKWA.out.trans (by repeat (with_reducible (first | assumption | exact Keeps.refl _ | refine Keeps.alloc ?_ _ | refine Keeps.drew ?_ | refine Keeps.drewN ?_ _))))).mono ?_; rintro e wb ⟨hb1, -, hkb⟩; obtain rfl := hb1 HSW.out; have q0 := (HFA.out.keep hkb).cell (j := 0) rfl; have q1 := (HFA.out.keep hkb).cell (j := 1) rfl; have q2 := (HFA.out.keep hkb).cell (j := 2) rfl; have z0 := (HFA.out.keep hkb).thawed 0; have z1 := (HFA.out.keep hkb).thawed 1; have z2 := (HFA.out.keep hkb).thawed 2; have lq := (HFA.out.keep hkb).lt)
  obtain ⟨wf, hwf⟩ : ∃ wf : World, wf = (((wb).setCell ⟨w.heap.size + 1, 0, none⟩ (.slice none 0 0)).setCell ⟨w.heap.size + 1, 1, none⟩ (.slice none 0 0)).setCell ⟨w.heap.size + 1, 2, none⟩ (.slice none 0 0) := ⟨_, rfl⟩
  rw [← hwf]
  obtain ⟨hBf, hgf⟩ := put3 (HFA.out.keep hkb) _ _ _ hwf
  have HKF := Lib.hid (keepsPut (HKWA.out.trans hkb) (by omega) hgf)
  have e0 := hBf.cell (j := 0) rfl
  have e1 := hBf.cell (j := 1) rfl
  have e2 := hBf.cell (j := 2) rfl
  clear hwf hBf hgf
  exact bodyPost_ret (v := .tuple #[.agg #[.slice none 0 0, .slice none 0 0, .slice none 0 0], .int .i64 9]) (by simp [results, Tryd.results7, go_sem, e0, e1, e2]) rfl (FlAns.bad (one_bad HFE.out.symm HBIG.out HRB.out) HKF.out)
 | false =>
 have HSW : Hid (Swept m) := Lib.hid hsw
 have HSW0 := Lib.hid hsw
 clear hsw q0 q1 q2 z0 z1 z2 lq
 go_upto_region 9 with (go_at_call 20; refine (HFO.out _ (HKWA.out.trans (by repeat (with_reducible (first | assumption | exact Keeps.refl _ | refine Keeps.alloc ?_ _ | refine Keeps.drew ?_ | refine Keeps.drewN ?_ _))))).mono ?_; rintro e wb ⟨-, hg1, hkb⟩; obtain ⟨gO, rfl, hO⟩ := hg1 HSW0.out)
 obtain ⟨c1, ht1, ho1⟩ := OwnC.fresh (fun _ => 0) 1 hkb hO (Nat.le_refl _)
 have HO1 := Lib.hid ho1
 have HT1 := Lib.hid (ht1 (fun z => z ≠ 0))
 have HKB := Lib.hid hkb
 have n0 := (HMA.out.keep hkb).cell (j := 0) rfl
 obtain ⟨ti, hti, htz, hts, htb⟩ := infoParts info_boolD
 clear n1 n2 n3 n4 n5 hO hg1 ho1 ht1 HFO
 go_upto_region 10 with (at_make; refine wpList_make_full _ rfl _ _ 69 rfl wb.heap.size 4 ti (.bool false) 1 Tryd.underlying69 hti htz hts .i64 .i64 _ _ N1 rfl rfl rfl rfl (by rw [htb]; omega) (by unfold maxLen; omega) (Nat.le_refl _) ?_; intro w2 hown2 hgr2)
 have k12 : Keeps wb w2 := below_grown hgr2 (Nat.le_refl _) fun q e => by cases e
 obtain ⟨c2, ht2, ho2⟩ := OwnC.fresh c1 2 k12 (ownMadeG bV false rfl hown2) (Nat.le_refl _)
 obtain ⟨gB, hgB⟩ : ∃ g, g = wb.heap.size := ⟨_, rfl⟩
 have hbb : wa.heap.size ≤ wb.heap.size := HKB.out.size
 rw [← hgB] at ho2 ⊢
 have HT2 := Lib.hid (HT1.out.trans (ht2 (fun z => z ≠ 0)))
 have HO2 : Hid (OwnI 1 c2 w2 wa.heap.size (.slice (some ⟨gO, 0, none⟩) N1 N1) (ownArr (ownS (allS m) m.Funcs.length) N1)) := Lib.hid (HO1.out.turn (ht2 (fun _ => False)) (fun q => q))
 have HB2 : Hid (OwnB 2 c2 w2 wa.heap.size (.slice (some ⟨gB, 0, none⟩) N1 N1) (bgArr (m.Tables.take 0 |>.flatten) N1)) := Lib.hid (by rw [List.take_zero, List.flatten_nil, bgArr_nil]; exact ⟨Own.mono ho2.1 (by omega), ho2.2⟩)
 clear k12 ht2 ho2 hown2 hgr2 hgB n0 hti htz hts htb HW1 hbb
 go_wp2_with fail
 go_loopw [8] (fun s8 wr => ∃ (k : Nat) (c3 : Nat → Nat), k ≤ NT ∧ s8 = .int .i64 k ∧ Hid (Turn (fun z => z = 2) c2 w2 c3 wr) ∧ Hid (OwnB 2 c3 wr wa.heap.size (.slice (some ⟨gB, 0, none⟩) N1 N1) (bgArr (m.Tables.take k |>.flatten) N1)) ∧ Hid (∀ j, j < k → tblB m (ownS (allS m) m.Funcs.length) j = false)) (fun s8 _ => NT - (intOf s8).toNat)
 case atStart => exact ⟨0, c2, Nat.zero_le _, rfl, Lib.hid (Turn.refl _ _ _), HB2, Lib.hid (fun j hj => absurd hj (Nat.not_lt_zero _))⟩
 case round =>
  obtain ⟨k, c3, hk, rfl, HT3, HB3, HTB⟩ := hrel
  have hkr : Keeps wa wr := (HT2.out.trans (HT3.out.mono (J := (fun z => z ≠ 0)) fun z h => by omega)).below (Nat.le_refl _) (fun _ _ => rfl) (fun q => q rfl)
  have n2 := (HMA.out.keep hkr).cell (j := 2) rfl
  have nl := (HMA.out.keep hkr).lt
  by_cases hltA : k < NT
  case neg =>
   have tlA : decide ((k : Int) < (NT : Int)) = false := decide_eq_false (by omega)
   have HTBA : Hid (∀ j, j < m.Tables.length → tblB m (ownS (allS m) m.Funcs.length) j = false) := Lib.hid (fun j hj => HTB.out j (by rw [← HNT.out] at hj; omega))
   have HBb : Hid (OwnB 2 c3 wr wa.heap.size (.slice (some ⟨gB, 0, none⟩) N1 N1) (bgArr ((m.Tables.flatten ++ (List.range 0).map fun i => (nth m.Funcs i).Start)) N1)) := Lib.hid (by
    have z := HB3.out
    rw [show k = m.Tables.length by rw [← HNT.out]; omega, List.take_length] at z
    rw [List.range_zero, List.map_nil, List.append_nil]
    exact z)
   clear HB3 HB2 HTB hkr
   go_wp2_with fail
   clear n2 nl tlA
   go_loopw [10] (fun s10 wr => ∃ (i : Nat) (c4 : Nat → Nat), i ≤ NF ∧ s10 = .int .i64 i ∧ Hid (Turn (fun z => z = 2) c2 w2 c4 wr) ∧ Hid (OwnB 2 c4 wr wa.heap.size (.slice (some ⟨gB, 0, none⟩) N1 N1) (bgArr ((m.Tables.flatten ++ (List.range i).map fun i => (nth m.Funcs i).Start)) N1))) (fun s10 _ => NF - (intOf s10).toNat)
   case atStart => exact ⟨0, c3, Nat.zero_le _, rfl, HT3, HBb⟩
   case round =>
    clear HT3 HBb
    obtain ⟨i, c4, hi, rfl, HT4, HB4⟩ := hrel
    have hkr : Keeps wa wr := (HT2.out.trans (HT4.out.mono (J := (fun z => z ≠ 0)) fun z h => by omega)).below (Nat.le_refl _) (fun _ _ => rfl) (fun q => q rfl)
    have n1 := (HMA.out.keep hkr).cell (j := 1) rfl
    have nl := (HMA.out.keep hkr).lt
    by_cases hltB : i < NF
    case neg =>
     have tlB : decide ((i : Int) < (NF : Int)) = false := decide_eq_false (by omega)
     have hKS0 : KeysAt m 0 (m.Tables.flatten ++ (List.range i).map fun i => (nth m.Funcs i).Start) := KeysAt.zero HG.out HSW.out (by rw [show i = m.Funcs.length by rw [← HNF.out]; omega])
     have HKS0 := Lib.hid hKS0
     clear hKS0 hkr
     go_wp2_with fail
     clear n1 nl tlB
     go_loopw [11] (fun s11 wr => ∃ (a : Nat) (c5 : Nat → Nat) (ks : List Int), a ≤ TL ∧ s11 = .int .i64 a ∧ Hid (Turn (fun z => z = 2) c2 w2 c5 wr) ∧ Hid (OwnB 2 c5 wr wa.heap.size (.slice (some ⟨gB, 0, none⟩) N1 N1) (bgArr ks N1)) ∧ Hid (KeysAt m a ks) ∧ Hid (∀ j, j < a → atB m j = false)) (fun s11 _ => TL - (intOf s11).toNat)
     case atStart => exact ⟨0, c4, _, Nat.zero_le _, rfl, HT4, HB4, HKS0, Lib.hid (fun j hj => absurd hj (Nat.not_lt_zero _))⟩
     case round =>
      clear HT4 HB4 HKS0
      obtain ⟨a, c5, ks, ha, rfl, HT5, HB5, HKS, HAT⟩ := hrel
      have hkr : Keeps wa wr := (HT2.out.trans (HT5.out.mono (J := (fun z => z ≠ 0)) fun z h => by omega)).below (Nat.le_refl _) (fun _ _ => rfl) (fun q => q rfl)
      have n0 := (HMA.out.keep hkr).cell (j := 0) rfl
      have nl := (HMA.out.keep hkr).lt
      by_cases hltC : a < TL
      case neg =>
       as_aux_lemma =>
        have tlC : decide ((a : Int) < (TL : Int)) = false := decide_eq_false (by omega)
        have hatB : anyN (atB m) m.Text.length = false := anyN_no (fun j hj => HAT.out j (by rw [← HTL.out] at hj; omega))
        have hrb0 : recB m = false := recB_no (fun j hj => HSW.out.f hj) HTBA.out (fun j hj => by
         have e := atB_any HG.out HSW.out
         rw [hatB] at e
         exact anyN_false e.symm j hj)
        have hfol := followed HFE.out.symm hrb0
        have hBl : OwnB 2 c5 wr wa.heap.size (.slice (some ⟨gB, 0, none⟩) N1 N1) ((List.range N1).map fun x : Nat => isL m x) := by
         have z := HB5.out
         rw [KeysAt.all HG.out HSW.out (by have q := HKS.out; rw [show a = m.Text.length by rw [← HTL.out]; omega] at q; exact q) N1] at z
         exact z
        obtain ⟨wC, hwC⟩ : ∃ wC : World, wC = wr := ⟨_, rfl⟩
        subst hwC
        have HRB0 := Lib.hid hrb0
        have HFOL := Lib.hid hfol
        have HBL := Lib.hid hBl
        have HTC := Lib.hid (HT2.out.trans (HT5.out.mono (J := (fun z => z ≠ 0)) fun z h => by omega))
        have HOC := Lib.hid (HO2.out.turn HT5.out (by decide))
        have HW1 : IntKind.i64.wrap ((TL : Int) + 1) = (N1 : Int) := by rw [IntKind.wrap_i64]; have := HTL.out; have := HN1.out; omega
        obtain ⟨ti, hti, htz, hts, htb⟩ := infoParts info_int
        have hwsC : wa.heap.size ≤ wC.heap.size := hkr.size
        clear hatB hrb0 hfol hBl HB5 HKS HAT hkr
        go_upto_region 44 with (at_make; refine wpList_make_full _ rfl _ _ 25 rfl wC.heap.size 3 ti (.int .i64 0) 1 Tryd.underlying25 hti htz hts .i64 .i64 _ _ N1 rfl rfl rfl rfl (by rw [htb]; omega) (by unfold maxLen; omega) (Nat.le_refl _) ?_; intro w3 hown3 hgr3)
        have k13 : Keeps wC w3 := below_grown hgr3 (Nat.le_refl _) fun q e => by cases e
        obtain ⟨c6, ht6, ho6⟩ := OwnC.fresh c5 3 k13 (ownMadeG iV (0 : Int) rfl hown3) (Nat.le_refl _)
        obtain ⟨gP, hgP⟩ : ∃ g, g = wC.heap.size := ⟨_, rfl⟩
        rw [← hgP] at ho6 ⊢
        have HT6 := Lib.hid (HTC.out.trans (ht6 (fun z => z ≠ 0)))
        have HOW6 := Lib.hid (HOC.out.turn (ht6 (fun _ => False)) (fun q => q))
        have HBG6 := Lib.hid (HBL.out.turn (ht6 (fun _ => False)) (fun q => q))
        have HP6 : Hid (OwnI 3 c6 w3 wa.heap.size (.slice (some ⟨gP, 0, none⟩) N1 N1) (plArr m 0 N1)) := Lib.hid (by rw [plArr_nil]; exact ⟨Own.mono ho6.1 (by omega), ho6.2⟩)
        clear k13 ht6 ho6 hown3 hgr3 hgP hti htz hts htb HW1 hwsC n0 nl tlC
        go_wp2_with fail
        go_loopw [18, 19] (fun s18 s19 wr => ∃ (a : Nat) (c7 : Nat → Nat), a ≤ TL ∧ s18 = .int .i64 (cntL m a : Int) ∧ s19 = .int .i64 a ∧ Hid (Turn (fun z => z = 3) c6 w3 c7 wr) ∧ Hid (OwnI 3 c7 wr wa.heap.size (.slice (some ⟨gP, 0, none⟩) N1 N1) (plArr m a N1))) (fun _ s19 _ => TL - (intOf s19).toNat)
        case atStart => exact ⟨0, c6, Nat.zero_le _, rfl, rfl, Lib.hid (Turn.refl _ _ _), HP6⟩
        case round =>
         clear HP6
         obtain ⟨a, c7, ha7, rfl, rfl, HT7, HP7⟩ := hrel
         have hkr : Keeps wa wr := (HT6.out.trans (HT7.out.mono (J := (fun z => z ≠ 0)) fun z h => by omega)).below (Nat.le_refl _) (fun _ _ => rfl) (fun q => q rfl)
         have n0 := (HMA.out.keep hkr).cell (j := 0) rfl
         have nl := (HMA.out.keep hkr).lt
         obtain ⟨CN, hCN⟩ : ∃ n, n = cntL m a := ⟨_, rfl⟩
         have hCNb : CN ≤ 2001 := by rw [hCN]; have := cntL_le m a; omega
         rw [← hCN]
         by_cases hltD : a < TL
         case neg =>
          have tlD : decide ((a : Int) < (TL : Int)) = false := decide_eq_false (by omega)
          have hPE : OwnI 3 c7 wr wa.heap.size (.slice (some ⟨gP, 0, none⟩) N1 N1) (plArr m TL N1) := by
           have z := HP7.out
           rw [show a = TL by omega] at z
           exact z
          have HPEr := Lib.hid hPE
          have HKR := Lib.hid hkr
          clear hPE hkr hCN
          go_upto_region 52 with fail
          obtain ⟨wE, cE, hwE, hkE, hTE, hbE⟩ := one_paint wr c7 (.cells #[.slice none 0 0, .slice none 0 0, .slice none 0 0] 32) 4
          rw [← hwE]
          obtain ⟨ob, hob⟩ : ∃ g, g = wr.heap.size := ⟨_, rfl⟩
          rw [← hob]
          rw [← hob] at hbE
          have HTE := Lib.hid ((HT6.out.trans (HT7.out.mono (J := (fun z => z ≠ 0)) fun z h => by omega)).trans (hTE (fun z => z ≠ 0)))
          have HPE := Lib.hid (HPEr.out.turn (hTE (fun _ => False)) (fun q => q))
          have HBGE := Lib.hid ((HBG6.out.turn HT7.out (by decide)).turn (hTE (fun _ => False)) (fun q => q))
          have HOWE := Lib.hid ((HOW6.out.turn HT7.out (by decide)).turn (hTE (fun _ => False)) (fun q => q))
          have HBE := Lib.hid hbE
          clear hwE hkE hTE hbE hob HPEr n0 nl tlD
          go_wp2_with fail
          as_aux_lemma =>
          go_loopw [21] (fun s21 wr => ∃ (i : Nat) (c8 : Nat → Nat) (vF : Value), i ≤ NF ∧ s21 = .int .i64 i ∧ Hid (Turn (fun z => z = 4 ∨ z = 9) cE wE c8 wr) ∧ Hid (BlkC 4 c8 wr ob (.cells #[.slice none 0 0, .slice none 0 0, vF] 32)) ∧ Hid (OwnC 9 c8 wr wa.heap.size 3 1 ci vF ((List.range i).map fun i => plR m (nth m.Funcs i).Start))) (fun s21 _ => NF - (intOf s21).toNat)
          case atStart => exact ⟨0, cE, _, Nat.zero_le _, rfl, Lib.hid (Turn.refl _ _ _), HBE, Lib.hid (OwnC.nil _ _ _ _ _ _ _)⟩
          case round =>
           obtain ⟨i, c8, vF, hi8, rfl, HT8, HB8, HF8⟩ := hrel
           obtain ⟨fa, fcp, hvF⟩ := own_form' HF8.out.1
           rw [List.length_map, List.length_range] at hvF
           subst hvF
           have hkr : Keeps wa wr := (HTE.out.trans (HT8.out.mono (J := (fun z => z ≠ 0)) fun z h => by omega)).below (Nat.le_refl _) (fun _ _ => rfl) (fun q => q rfl)
           have n1 := (HMA.out.keep hkr).cell (j := 1) rfl
           have nl := (HMA.out.keep hkr).lt
           by_cases hltF : i < NF
           case neg =>
            have tlF : decide ((i : Int) < (NF : Int)) = false := decide_eq_false (by omega)
            obtain ⟨cF, hcF⟩ : ∃ x : Nat → Nat, x = c8 := ⟨_, rfl⟩
            obtain ⟨wF, hwF⟩ : ∃ x : World, x = wr := ⟨_, rfl⟩
            subst hcF hwF
            have hiE : i = NF := by omega
            have HBF8 : Hid (BlkC 4 cF wF ob (.cells #[.slice none 0 0, .slice none 0 0, .slice fa NF fcp] 32)) := Lib.hid (by have z := HB8.out; rw [hiE] at z; exact z)
            have HFF8 : Hid (OwnC 9 cF wF wa.heap.size 3 1 ci (.slice fa NF fcp) ((List.range m.Funcs.length).map fun i => plR m (nth m.Funcs i).Start)) := Lib.hid (by have z := HF8.out; rw [hiE] at z; rw [← HNF.out]; exact z)
            have HTF := Lib.hid (HTE.out.trans (HT8.out.mono (J := (fun z => z ≠ 0)) fun z h => by omega))
            have HPF := Lib.hid (HPE.out.turn HT8.out (by decide))
            have HBGF := Lib.hid (HBGE.out.turn HT8.out (by decide))
            have HOWF := Lib.hid (HOWE.out.turn HT8.out (by decide))
            clear hiE HB8 HF8 HT8 hkr
            go_wp2_with fail
            clear n1 nl tlF
            as_aux_lemma =>
            go_loopw [22] (fun s22 wr => ∃ (k : Nat) (c9 : Nat → Nat) (vT : Value) (ts : List Sle), k ≤ NT ∧ s22 = .int .i64 k ∧ Hid (Turn (fun z => z = 4 ∨ z = 11 ∨ 1000000 ≤ z) cF wF c9 wr) ∧ Hid (BlkC 4 c9 wr ob (.cells #[.slice none 0 0, vT, .slice fa NF fcp] 32)) ∧ Hid (TabS wa.heap.size 1000000 c9 wr vT ts ((m.Tables.take k).map fun t => t.map (plR m)))) (fun s22 _ => NT - (intOf s22).toNat)
            case atStart => exact ⟨0, cF, _, [], Nat.zero_le _, rfl, Lib.hid (Turn.refl _ _ _), HBF8, Lib.hid (TabS.nil _ _ _ _)⟩
            case round =>
             obtain ⟨k, c9, vT, ts, hk9, rfl, HT9t, HB9t, HTS⟩ := hrel
             have hkr : Keeps wa wr := (HTF.out.trans (HT9t.out.mono (J := (fun z => z ≠ 0)) fun z h => by omega)).below (Nat.le_refl _) (fun _ _ => rfl) (fun q => q rfl)
             have n2 := (HMA.out.keep hkr).cell (j := 2) rfl
             have nl := (HMA.out.keep hkr).lt
             by_cases hltG : k < NT
             case neg =>
              as_aux_lemma =>
               have tlG : decide ((k : Int) < (NT : Int)) = false := decide_eq_false (by omega)
               obtain ⟨cG, hcG⟩ : ∃ x : Nat → Nat, x = c9 := ⟨_, rfl⟩
               obtain ⟨wG, hwG⟩ : ∃ x : World, x = wr := ⟨_, rfl⟩
               subst hcG hwG
               obtain ⟨ta, tac, hvT⟩ := own_form' HTS.out.row.1
               obtain ⟨NTS, hNTS⟩ : ∃ n, n = ts.length := ⟨_, rfl⟩
               rw [← hNTS] at hvT
               subst hvT
               have HTSG : Hid (TabS wa.heap.size 1000000 cG wG (.slice ta NTS tac) ts (m.Tables.map fun t => t.map (plR m))) := Lib.hid (by
                have z := HTS.out
                rw [show k = m.Tables.length by rw [← HNT.out]; omega, List.take_length] at z
                exact z)
               have HTG := Lib.hid (HTF.out.trans (HT9t.out.mono (J := (fun z => z ≠ 0)) fun z h => by omega))
               have HPG := Lib.hid (HPF.out.turn HT9t.out (by decide))
               have HBGG := Lib.hid (HBGF.out.turn HT9t.out (by decide))
               have HOWG := Lib.hid (HOWF.out.turn HT9t.out (by decide))
               have HFFG := Lib.hid (HFF8.out.turn HT9t.out (by decide))
               obtain ⟨SN, hSN⟩ : ∃ n, n = (annS (allS m) m.Funcs.length).length := ⟨_, rfl⟩
               obtain ⟨RB, hRB⟩ : ∃ l, l = gR m (annS (allS m) m.Funcs.length) [] none := ⟨_, rfl⟩
               have hSNb : SN ≤ TL := by have z := HFOL.out.chain.len; rw [List.length_map, ← hSN] at z; have := HTL.out; omega
               have HSN := Lib.hid hSN
               have HRBL := Lib.hid hRB
               have HG0 : Hid (gR m ((annS (allS m) m.Funcs.length).drop 0) [] none = RB) := Lib.hid (by rw [List.drop_zero]; exact hRB.symm)
               have HA0 : Hid (((0 : Nat) : Int) = adr (annS (allS m) m.Funcs.length) TL 0) := Lib.hid (by rw [HTL.out]; exact ((chain_adr HFOL.out.chain).1).symm)
               clear hSN hRB HTS HT9t hNTS hkr HPF HBGF HOWF HFF8
               have HPF := HPG
               have HBGF := HBGG
               have HOWF := HOWG
               go_wp2_with fail
               clear n2 nl tlG
               go_loopw [25] (fun s25 wr => ∃ (kk at_ : Nat) (co : Nat → Nat) (vB : Value) (rs : List Bv) (cl : List Bk), kk ≤ SN ∧ s25 = .int .i64 (at_ : Int) ∧ Hid ((at_ : Int) = adr (annS (allS m) m.Funcs.length) TL kk) ∧ Hid (Turn (fun z => z = 4 ∨ z = 10 ∨ z = 12 ∨ z = 13 ∨ (16 ≤ z ∧ z < 100000)) cG wG co wr) ∧ Hid (BlkC 4 co wr ob (.cells #[vB, .slice ta NTS tac, .slice fa NF fcp] 32)) ∧ Hid (BlkS wa.heap.size co wr vB rs cl) ∧ Hid (gR m ((annS (allS m) m.Funcs.length).drop kk) cl none = RB) ∧ Hid (cl.length ≤ kk)) (fun s25 _ => TL - (intOf s25).toNat)
               case atStart => exact ⟨0, 0, cG, _, [], [], Nat.zero_le _, rfl, HA0, Lib.hid (Turn.refl _ _ _), HB9t, Lib.hid (BlkS.nil _ _ _), HG0, Lib.hid (Nat.le_refl _)⟩
               case round =>
                obtain ⟨kk, at_, co, vB, rs, cl, hkk, rfl, HAD, HTo, HBo, HSo, HGo, HLo⟩ := hrel
                have hclb := HLo.out
                obtain ⟨ba, bac, hvB⟩ := own_form' HSo.out.row.1
                rw [HSo.out.len] at hvB
                obtain ⟨NB, hNB⟩ : ∃ n, n = cl.length := ⟨_, rfl⟩
                rw [← hNB] at hvB hclb
                subst hvB
                have HNB := Lib.hid hNB
                clear hNB
                have hkr : Keeps wa wr := (HTG.out.trans (HTo.out.mono (J := (fun z => z ≠ 0)) fun z h => by omega)).below (Nat.le_refl _) (fun _ _ => rfl) (fun q => q rfl)
                have n0 := (HMA.out.keep hkr).cell (j := 0) rfl
                have nl := (HMA.out.keep hkr).lt
                by_cases hltH : kk < SN
                case neg =>
                 as_aux_lemma =>
                  have hat : (at_ : Int) = TL := by rw [HAD.out]; unfold adr; rw [if_neg (by rw [← HSN.out]; exact hltH)]
                  have tlH : decide ((at_ : Int) < (TL : Int)) = false := decide_eq_false (by omega)
                  have hnlt : ¬ at_ < TL := by omega
                  have hcl : cl = RB := by
                   have z := HGo.out
                   rw [List.drop_eq_nil_of_le (by rw [← HSN.out]; omega)] at z
                   exact z
                  have hFL : FlowAt wr (.agg #[.slice ba NB bac, .slice ta NTS tac, .slice fa NF fcp]) (recF m) := by
                   rw [← flR_is HFOL.out]
                   refine ⟨_, _, _, rfl, ?_, ((HTSG.out.turn HTo.out (by omega) (fun i _ => by omega))).tabs, ((HFFG.out.turn HTo.out (by omega))).1.ints⟩
                   have z := HSo.out.blocks
                   rw [hcl, HRBL.out] at z
                   exact z
                  have hbo := HBo.out
                  have ob0 := hbo.1.cell (j := 0) rfl
                  have ob1 := hbo.1.cell (j := 1) rfl
                  have ob2 := hbo.1.cell (j := 2) rfl
                  have hff := HFA.out.keep hkr
                  have q0 := (hff).cell (j := 0) rfl
                  have q1 := (hff).cell (j := 1) rfl
                  have q2 := (hff).cell (j := 2) rfl
                  have z0 := (hff).thawed 0
                  have z1 := (hff).thawed 1
                  have z2 := (hff).thawed 2
                  have lq := hff.lt
                  have hfc : co (w.heap.size + 1) = 0 := (HTG.out.trans (HTo.out.mono (J := (fun z => z ≠ 0)) fun z h => by omega)).col _ HFA.out.lt
                  have HFLW := Lib.hid hFL
                  have HFFW := Lib.hid hff
                  have HFCC := Lib.hid hfc
                  have HKR := Lib.hid hkr
                  clear hat hcl hFL hbo hff hfc hkr
                  go_wp2_with fail
                  obtain ⟨wf, hwf⟩ : ∃ wf : World, wf = ((wr.setCell ⟨w.heap.size + 1, 0, none⟩ (.slice ba NB bac)).setCell ⟨w.heap.size + 1, 1, none⟩ (.slice ta NTS tac)).setCell ⟨w.heap.size + 1, 2, none⟩ (.slice fa NF fcp) := ⟨_, rfl⟩
                  rw [← hwf]
                  obtain ⟨hBf, hgf⟩ := put3 HFFW.out _ _ _ hwf
                  have HKF := Lib.hid (keepsPut (HKWA.out.trans HKR.out) (by omega) hgf)
                  have e0 := hBf.cell (j := 0) rfl
                  have e1 := hBf.cell (j := 1) rfl
                  have e2 := hBf.cell (j := 2) rfl
                  have htf : Turn (fun z => z = 0) co wr co wf := grown_turn hgf (fun b e => by cases e; exact HFCC.out)
                  have HFW : Hid (FlowAt wf (.agg #[.slice ba NB bac, .slice ta NTS tac, .slice fa NF fcp]) (recF m)) := Lib.hid (by
                   have hcl : cl = RB := by
                    have z := HGo.out
                    rw [List.drop_eq_nil_of_le (by rw [← HSN.out]; omega)] at z
                    exact z
                   rw [← flR_is HFOL.out]
                   refine ⟨_, _, _, rfl, ?_, ((HTSG.out.turn HTo.out (by omega) (fun i _ => by omega)).turn htf (by decide) (fun i _ => by omega)).tabs, ((HFFG.out.turn HTo.out (by omega)).turn htf (by decide)).1.ints⟩
                   have z := (HSo.out.turn htf (by decide) (fun i hi => by omega)).blocks
                   rw [hcl, HRBL.out] at z
                   exact z)
                  clear hwf hBf hgf htf
                  exact bodyPost_ret (v := .tuple #[.agg #[.slice ba NB bac, .slice ta NTS tac, .slice fa NF fcp], .int .i64 0]) (by simp [results, Tryd.results7, go_sem, e0, e1, e2]) rfl (FlAns.fine (recE_good HFE.out.symm HBIG.out HRB0.out) HFW.out HKF.out)
                case pos =>
                have hkl : kk < (annS (allS m) m.Funcs.length).length := by rw [← HSN.out]; exact hltH
                obtain ⟨pp, hpp⟩ : ∃ p, p = nth (annS (allS m) m.Funcs.length) kk := ⟨_, rfl⟩
                have hpm : pp ∈ annS (allS m) m.Funcs.length := by rw [hpp]; exact nthMem hkl
                have hpA : pp.2.A = (at_ : Int) := by rw [HAD.out, adr_at hkl, hpp]
                have hpo : ownR m (at_ : Int) = (pp.1 : Int) := by have z := (atB_spot HFOL.out.good HFOL.out.sw hpm).2; rw [hpA] at z; exact z
                have hfine := (ann_in HFOL.out.good HFOL.out.sw hpm).2.2.fine
                rw [hpA] at hfine
                have hatL : (at_ : Int) < (TL : Int) := by have := hfine.x1; have := HTL.out; omega
                have hatN : (at_ : Int) < (N1 : Int) := by omega
                obtain ⟨o1, -, o3, -, -⟩ := ownC_cell (HOWF.out.turn HTo.out (by omega)) (j := at_) (by rw [ownArr_len]; omega)
                rw [ownArr_at _ (by omega)] at o1
                obtain ⟨FF, hFF⟩ : ∃ z : Int, z = (pp.1 : Int) := ⟨_, rfl⟩
                have o1' : wr.cell? ⟨gO, at_, none⟩ = some (.int .i64 FF) := by
                 have z : wr.cell? ⟨gO, at_, none⟩ = some (.int .i64 ((ownS (allS m) m.Funcs.length (at_ : Int)).getD (-1))) := o1
                 rw [show (ownS (allS m) m.Funcs.length (at_ : Int)).getD (-1) = FF from hpo.trans hFF.symm] at z
                 exact z
                have hG1 : gR m ((annS (allS m) m.Funcs.length).drop kk) cl (some (newR FF at_)) = RB := by
                 have z := HGo.out
                 rw [gR_step hkl] at z ⊢
                 rw [← hpp] at z ⊢
                 rw [Option.getD_none] at z
                 rw [Option.getD_some, hFF, ← hpA]
                 exact z
                have HG1 := Lib.hid hG1
                clear hkl hpp hpm hpA hpo hfine o1 hFF hG1 hkr
                go_upto_block 20 with fail
                obtain ⟨wO, cO, hwO, hkO, hTO, hbO⟩ := one_paint wr co (.cells #[.int .i64 FF, .int .i64 at_, .slice none 0 0, .slice none 0 0, .int .i64 0, .int .i64 0, .int .i64 0, .int .i64 0, .int .i64 0, .bool false, .int .i64 0, .int .i64 0, .int .i64 0, .slice none 0 0] 77) 12
                rw [← hwO]
                obtain ⟨gb, hgb⟩ : ∃ g, g = wr.heap.size := ⟨_, rfl⟩
                rw [← hgb]
                rw [← hgb] at hbO
                have HToO := Lib.hid (HTo.out.trans (hTO (fun z => z = 4 ∨ z = 10 ∨ z = 12 ∨ z = 13 ∨ (16 ≤ z ∧ z < 100000))))
                have HBoO := Lib.hid (HBo.out.turn (hTO (fun _ => False)) (fun q => q))
                have HSoO := Lib.hid (HSo.out.turn (hTO (fun _ => False)) (fun q => q) (fun _ _ q => q))
                have HC0 : Hid (Cur wa.heap.size cO wO gb NB ⟨FF, at_, ⟨none, 0, 0⟩, ⟨none, 0, 0⟩, zIc, 0, 0, 0, ⟨none, 0, 0⟩⟩ (newR FF at_)) := Lib.hid ⟨hbO, ⟨rfl, rfl, rfl, rfl, rfl, rfl⟩, OwnC.nil _ _ _ _ _ _ _, OwnC.nil _ _ _ _ _ _ _, OwnC.nil _ _ _ _ _ _ _⟩
                have HTo := HToO
                have HBo := HBoO
                have HSo := HSoO
                have hltH0 := hltH
                have HAD0 := HAD
                obtain ⟨k0, hk0⟩ : ∃ n, n = kk := ⟨_, rfl⟩
                obtain ⟨at0, hat0⟩ : ∃ n, n = at_ := ⟨_, rfl⟩
                have HG1' : Hid (((newR FF at_).Ends = 0 → gR m ((annS (allS m) m.Funcs.length).drop kk) cl (some (newR FF at_)) = RB ∧ kk < SN) ∧ ((newR FF at_).Ends ≠ 0 → gR m ((annS (allS m) m.Funcs.length).drop kk) (cl ++ [newR FF at_]) none = RB ∧ k0 < kk)) := Lib.hid ⟨fun _ => ⟨HG1.out, hltH⟩, fun q => absurd rfl q⟩
                clear hwO hkO hTO hbO hgb o1' o3 n0 nl HToO HBoO HSoO
                go_wp2_with fail
                go_loopw [25] (fun s25 wr => ∃ (kk at_ : Nat) (ci_ : Nat → Nat) (b : Bk) (r : Bv), kk ≤ SN ∧ s25 = .int .i64 (at_ : Int) ∧ Hid ((at_ : Int) = adr (annS (allS m) m.Funcs.length) TL kk) ∧ Hid (Turn (fun z => z = 12 ∨ z = 13 ∨ z = 16 + 3 * NB ∨ z = 17 + 3 * NB ∨ z = 18 + 3 * NB) cO wO ci_ wr) ∧ Hid (Cur wa.heap.size ci_ wr gb NB r b) ∧ Hid ((b.Ends = 0 → gR m ((annS (allS m) m.Funcs.length).drop kk) cl (some b) = RB ∧ kk < SN) ∧ (b.Ends ≠ 0 → gR m ((annS (allS m) m.Funcs.length).drop kk) (cl ++ [b]) none = RB ∧ k0 < kk)) ∧ Hid (k0 ≤ kk) ∧ Hid (b.Code.length ≤ kk ∧ b.At.length ≤ kk ∧ b.Lines.length ≤ 2 * kk)) (fun s25 _ => TL + 1 - (intOf s25).toNat)
                case atStart => exact ⟨kk, at_, cO, _, _, by omega, rfl, HAD, Lib.hid (Turn.refl _ _ _), HC0, HG1', Lib.hid (by omega), Lib.hid ⟨Nat.zero_le _, Nat.zero_le _, Nat.zero_le _⟩⟩
                case round =>
                 clear HAD HC0 HG1' HG1 HGo
                 obtain ⟨wo, hwo⟩ : ∃ w' : World, w' = wO := ⟨_, rfl⟩
                 have HK0 := Lib.hid hk0
                 have HAT0 := Lib.hid hat0
                 clear hk0 hat0 hwo
                 obtain ⟨kk, at_, cc, b, ⟨rF, rS, ⟨ca, cn, cc0⟩, ⟨aa, an, ac⟩, ⟨lK, lD, lA, lB, lN, lLg⟩, rE, rT, rL, ⟨la, ln, lc⟩⟩, hkk, rfl, HAD, HT1, HC1, HGI, HKGE, HLENB⟩ := hrel
                 have hsc1 := HC1.out.sc
                 have hEq : rE = b.Ends := hsc1.2.2.2.1
                 have e10 : wr.cell? ⟨gb, 10, none⟩ = some (.int .i64 rE) := HC1.out.cell rfl
                 by_cases hE : rE = 0
                 case neg =>
                  as_aux_lemma =>
                   have tE : (rE == 0) = false := by simpa using hE
                   have hgi := HGI.out.2 (by rw [← hEq]; exact hE)
                   have HGI2 := Lib.hid hgi
                   have ob0' : wr.cell? ⟨ob, 0, none⟩ = some (.slice ba NB bac) := (HBo.out.turn HT1.out (by omega)).1.cell rfl
                   have obl' := (HBo.out.turn HT1.out (by omega)).1.lt
                   have hS1 := HSo.out.turnF HT1.out (by omega) (fun i h1 h2 => by have := HNB.out; omega)
                   have HS1 := Lib.hid hS1
                   have HROW := Lib.hid (show RowsB wa.heap.size cc wr cl.length ⟨rF, rS, ⟨ca, cn, cc0⟩, ⟨aa, an, ac⟩, ⟨lK, lD, lA, lB, lN, lLg⟩, rE, rT, rL, ⟨la, ln, lc⟩⟩ b by rw [← HNB.out]; exact HC1.out.rows)
                   have hR1 : Keeps wa wr := (HTG.out.trans ((HTo.out.trans (HT1.out.mono (J := (fun z => z = 4 ∨ z = 10 ∨ z = 12 ∨ z = 13 ∨ (16 ≤ z ∧ z < 100000))) fun z h => by omega)).mono (J := (fun z => z ≠ 0)) fun z h => by omega)).below (Nat.le_refl _) (fun _ _ => rfl) (fun q => q rfl)
                   have HR1 := Lib.hid hR1
                   clear hR1
                   obtain ⟨NB1, hNB1⟩ : ∃ n, n = NB + 1 := ⟨_, rfl⟩
                   have HLA := Lib.hid (show (rs ++ [(⟨rF, rS, ⟨ca, cn, cc0⟩, ⟨aa, an, ac⟩, ⟨lK, lD, lA, lB, lN, lLg⟩, rE, rT, rL, ⟨la, ln, lc⟩⟩ : Bv)]).length = NB1 by rw [List.length_append, List.length_singleton, HSo.out.len, ← HNB.out, hNB1])
                   have HRL := Lib.hid (show rs.length = NB by rw [HSo.out.len, HNB.out])
                   have hadl := adr_lt HFOL.out (k := k0) (k' := kk) hgi.2 (by rw [← HSN.out]; exact hkk)
                   rw [← HTL.out, ← HAD.out, HK0.out, ← HAD0.out, ← HAT0.out] at hadl
                   have hnb1 : NB1 ≤ kk := by have := hgi.2; have := HK0.out; omega
                   have HNB2 : Hid (NB + 1 ≤ kk) := Lib.hid (by have := hgi.2; have := HK0.out; omega)
                   clear hgi hE hEq hS1 hNB1 hsc1
                   go_wp2_with (first | ((with_reducible show wpList _ _ _ (_ :: _) _ _); refine wpList_loadBlk (by rfl) (.tmp 26) (by rfl) (by rfl) HC1.out.blk.1 ?_) | ((with_reducible show wpList _ _ _ (_ :: _) _ _); refine wpList_makeBlk (by rfl) 431 (by rfl) (by rfl) ?_) | (at_builtin; refine wpList_pushes (by rfl) (.tmp 430) (.tmp 432) 30 (by rfl) Tryd.underlying30 info_block (by rfl) (by decide) (base := wa.heap.size) (f := cbv) (l := rs) (by rfl) (by exact HS1.out.row.1.keep (by repeat (with_reducible (first | assumption | exact Keeps.refl _ | refine Keeps.alloc ?_ _ | refine Keeps.drew ?_ | refine Keeps.drewN ?_ _)))) [⟨rF, rS, ⟨ca, cn, cc0⟩, ⟨aa, an, ac⟩, ⟨lK, lD, lA, lB, lN, lLg⟩, rE, rT, rL, ⟨la, ln, lc⟩⟩] _ _ (by rfl) (by exact Blk.top' _ _ (by first | rfl | simp)) cbv_len cbv_one (by simp only [List.length_cons, List.length_nil, HRL.out]; omega) (by simp only [List.length_cons, List.length_nil, HRL.out]; unfold maxLen; omega) (by have := HR1.out.size; first | omega | (simp only [sz_alloc]; omega)) ?_; intro v7 w7 hown7 hbel7 hgr7 hfr7; obtain ⟨c7, ht7, hB7⟩ := HS1.out.pushB HC1.out.sc HROW.out (show Keeps wr _ from (by repeat (with_reducible (first | assumption | exact Keeps.refl _ | refine Keeps.alloc ?_ _ | refine Keeps.drew ?_ | refine Keeps.drewN ?_ _)))) hown7 hgr7 hfr7; have hb7 := (HBo.out.turn HT1.out (by omega)).turn ht7 (by decide); have ob0 : w7.cell? ⟨ob, 0, none⟩ = some (.slice ba NB bac) := hb7.1.cell rfl; have obf := hb7.1.thawed 0; have obl := hb7.1.lt; obtain ⟨b9, b9c, e9⟩ := own_form' hown7; rw [HLA.out] at e9; subst e9; clear ob0' obl' e10 tE; have HB7H := Lib.hid hB7; have HT7H := Lib.hid ht7; have HBB7 := Lib.hid hb7; clear hB7 ht7 hb7 hown7 hbel7 hgr7 hfr7))
                   obtain ⟨hb8, ht8⟩ := HBB7.out.set 0 (.slice b9 NB1 b9c)
                   have HB8 : Hid (BlkC 4 c7 (w7.setCell ⟨ob, 0, none⟩ (.slice b9 NB1 b9c)) ob (.cells #[.slice b9 NB1 b9c, .slice ta NTS tac, .slice fa NF fcp] 32)) := Lib.hid hb8
                   have HT8 := Lib.hid (((HTo.out.trans (HT1.out.mono (J := (fun z => z = 4 ∨ z = 10 ∨ z = 12 ∨ z = 13 ∨ (16 ≤ z ∧ z < 100000))) fun z h => by omega)).trans (HT7H.out.mono (J := (fun z => z = 4 ∨ z = 10 ∨ z = 12 ∨ z = 13 ∨ (16 ≤ z ∧ z < 100000))) fun z h => by omega)).trans (ht8.mono (J := (fun z => z = 4 ∨ z = 10 ∨ z = 12 ∨ z = 13 ∨ (16 ≤ z ∧ z < 100000))) fun z h => by omega))
                   have HS8 := Lib.hid (HB7H.out.turn ht8 (by decide) (fun i hi => by omega))
                   clear hb8 ht8 obf
                   go_roundw
                   case rel => exact ⟨kk, at_, c7, _, _, _, by omega, by go_num, HAD, HT8, HB8, HS8, Lib.hid HGI2.out.1, Lib.hid (by rw [List.length_append, List.length_singleton, ← HNB.out]; exact HNB2.out)⟩
                   case measure => have hat9 := HAT0.out; simp [intOf]; omega
                 case pos =>
                 have hb0 : b.Ends = 0 := by rw [← hEq]; exact hE
                 obtain ⟨hgi, hkS⟩ := HGI.out.1 hb0
                 subst hE
                 have hkl : kk < (annS (allS m) m.Funcs.length).length := by rw [← HSN.out]; exact hkS
                 obtain ⟨pp, hpp⟩ : ∃ p, p = nth (annS (allS m) m.Funcs.length) kk := ⟨_, rfl⟩
                 have hpm : pp ∈ annS (allS m) m.Funcs.length := by rw [hpp]; exact nthMem hkl
                 have hpA : pp.2.A = (at_ : Int) := by rw [HAD.out, adr_at hkl, hpp]
                 have hpg := (ann_in HFOL.out.good HFOL.out.sw hpm).2.2
                 have hfine := hpg.fine
                 have hok := hpg.ok
                 have hpz := hpg.z
                 have hpi := hpg.i
                 have hadr := (chain_adr HFOL.out.chain).2 kk hkl
                 rw [← hpp, ← HTL.out] at hadr
                 have hto := fun q => HFOL.out.to hpm q
                 rw [hpA] at hfine hok hpz hpi hadr hto
                 have z1 := hfine.z1
                 have z5 := hfine.z5
                 have ze := hfine.ze
                 have k1 := hfine.k1
                 have hn0 := hfine.n0
                 have hn1 := hfine.n1
                 obtain ⟨⟨⟨K, D, A, B, N, Lg⟩, Z, E⟩, hX⟩ : ∃ X, X = decAns m.Text at_ := ⟨_, rfl⟩
                 rw [← hX] at hok hpz hpi z1 z5 ze k1 hn0 hn1
                 dsimp only at hok hpz hpi z1 z5 ze k1 hn0 hn1
                 subst hok
                 have hpe : pp.2 = ⟨at_, Z, ⟨K, D, A, B, N, Lg⟩⟩ := by
                  have e1 : pp.2 = ⟨pp.2.A, pp.2.Z, pp.2.I⟩ := rfl
                  rw [e1, hpA, hpz, hpi]
                 rw [hpe] at hadr hto
                 dsimp only at hadr hto
                 have htob : brN K = true ∨ K = 22 → 0 ≤ (at_ : Int) + N ∧ (at_ : Int) + N < TL := fun q => by
                  obtain ⟨p', hp', e1, -⟩ := hto q
                  have hm := (ann_in HFOL.out.good HFOL.out.sw hp').2.2.fine
                  rw [e1] at hm
                  have := hm.x0
                  have := hm.x1
                  have := HTL.out
                  omega
                 have hgn : ((pbR m ⟨(at_ : Int), Z, ⟨K, D, A, B, N, Lg⟩⟩ b).Ends = 0 → gR m ((annS (allS m) m.Funcs.length).drop (kk + 1)) cl (some (pbR m ⟨(at_ : Int), Z, ⟨K, D, A, B, N, Lg⟩⟩ b)) = RB ∧ kk + 1 < SN) ∧ ((pbR m ⟨(at_ : Int), Z, ⟨K, D, A, B, N, Lg⟩⟩ b).Ends ≠ 0 → gR m ((annS (allS m) m.Funcs.length).drop (kk + 1)) (cl ++ [pbR m ⟨(at_ : Int), Z, ⟨K, D, A, B, N, Lg⟩⟩ b]) none = RB ∧ k0 < kk + 1) := by
                  have z := hgi
                  rw [gR_step hkl, Option.getD_some, ← hpp, hpe] at z
                  refine ⟨fun q => ?_, fun q => ?_⟩
                  ·rw [if_pos q] at z
                   have on := open_next HFOL.out hkl (b := b) (by rw [← hpp, hpe]; exact q)
                   exact ⟨z, by rw [HSN.out]; exact on⟩
                  ·rw [if_neg q] at z
                   exact ⟨z, by have := HKGE.out; omega⟩
                 have hlen := pbR_len m ⟨(at_ : Int), Z, ⟨K, D, A, B, N, Lg⟩⟩ b
                 have HGN := Lib.hid hgn
                 have HLEN : Hid ((pbR m ⟨(at_ : Int), Z, ⟨K, D, A, B, N, Lg⟩⟩ b).Code.length ≤ kk + 1 ∧ (pbR m ⟨(at_ : Int), Z, ⟨K, D, A, B, N, Lg⟩⟩ b).At.length ≤ kk + 1 ∧ (pbR m ⟨(at_ : Int), Z, ⟨K, D, A, B, N, Lg⟩⟩ b).Lines.length ≤ 2 * (kk + 1)) := Lib.hid (by have := HLENB.out; omega)
                 have HADR := Lib.hid hadr
                 have HTOB := Lib.hid htob
                 obtain ⟨LV, hLV⟩ : ∃ z, z = lineAt m.Lines (at_ : Int) m.Lines.length := ⟨_, rfl⟩
                 have HLV : Hid (lineAt m.Lines (at_ : Int) m.Lines.length = LV) := Lib.hid hLV.symm
                 obtain ⟨Y, hY⟩ : ∃ Y : Nat, (Y : Int) = (at_ : Int) + Z := ⟨((at_ : Int) + Z).toNat, by omega⟩
                 have HY := Lib.hid hY
                 have hYT : Y ≤ TL := by have := HTL.out; omega
                 have wY : IntKind.i64.wrap ((at_ : Int) + Z) = (Y : Int) := by rw [IntKind.wrap_i64]; omega
                 have hYat : at_ < Y := by omega
                 have hZT : (at_ : Int) + Z ≤ TL := by omega
                 have hYN : Y < N1 := by omega
                 have hYz : (Y : Int) < (N1 : Int) := by omega
                 have hR1 : Keeps wa wr := (HTG.out.trans ((HTo.out.trans (HT1.out.mono (J := (fun z => z = 4 ∨ z = 10 ∨ z = 12 ∨ z = 13 ∨ (16 ≤ z ∧ z < 100000))) fun z h => by omega)).mono (J := (fun z => z ≠ 0)) fun z h => by omega)).below (Nat.le_refl _) (fun _ _ => rfl) (fun q => q rfl)
                 have HR1 := Lib.hid hR1
                 clear hR1
                 have hIA : ∀ W', Keeps wr W' → Calls Tryd.prog 21 #[.slice x0 TL x0c, .int .i64 at_] W' (DecAns (decAns m.Text at_) W') := fun W' hk' => by
                  have z := instrAt_any _ m.Text at_ W' (Arr.keep HI0.out (HKWA.out.trans (HR1.out.trans hk')) : Bytes W' _ m.Text) (by have := HH2.out; omega)
                  rw [HTL.out]
                  exact z
                 rw [← hX] at hIA
                 unfold DecAns Ins.v insV at hIA
                 dsimp only at hIA
                 have HIAH := Lib.hid hIA
                 have HEN0 := Lib.hid (fun W' => ends_any K D A B N Lg W' k1)
                 unfold insV at HEN0
                 obtain ⟨EN, hEN⟩ : ∃ z, z = endsN K := ⟨_, rfl⟩
                 have HEN : Hid (∀ W', Calls Tryd.prog 22 #[.agg #[.int .i64 K, .int .i64 D, .int .i64 A, .int .i64 B, .int .i64 N, .bool Lg]] W' fun e w' => e = .returned (.int .i64 EN) ∧ Keeps W' w') := Lib.hid (by rw [hEN]; exact HEN0.out)
                 have HENE := Lib.hid hEN
                 have n0 := (HMA.out.keep HR1.out).cell (j := 0) rfl
                 have nl := (HMA.out.keep HR1.out).lt
                 have hANe : an = b.At.length := by obtain ⟨a', c', e⟩ := own_form' HC1.out.rows.2.1.1; injection e with e1 e2 e3
                 have hLNe : ln = b.Lines.length := by obtain ⟨a', c', e⟩ := own_form' HC1.out.rows.2.2.1; injection e with e1 e2 e3
                 have hCNe : cn = b.Code.length := by obtain ⟨a', c', e⟩ := own_form' HC1.out.rows.1.1; injection e with e1 e2 e3
                 have hanb : an ≤ 5000 := by have := HLENB.out; omega
                 have hlnb : ln ≤ 5000 := by have := HLENB.out; omega
                 have hcnb : cn ≤ 5000 := by have := HLENB.out; omega
                 have HANN := Lib.hid hANe
                 have HLNN1 : Hid (ln = ({ b with At := b.At ++ [(at_ : Int)] } : Bk).Lines.length) := Lib.hid hLNe
                 have HCNN := Lib.hid hCNe
                 clear hgi hkl hpp hpm hpA hpg hfine hpz hpi hadr hto hX hpe htob hgn hlen hLV hY hIA hEN HEN0 hANe hLNe hCNe hb0 hEq hsc1 ze k1
                 go_upto_region 70 with (go_at_call 21; refine (HIAH.out _ (by repeat (with_reducible (first | assumption | exact Keeps.refl _ | refine Keeps.alloc ?_ _ | refine Keeps.drew ?_ | refine Keeps.drewN ?_ _)))).mono ?_; rintro e wi ⟨rfl, hki⟩)
                 obtain ⟨w21, cq, hw21, hk21, hT21, hb21⟩ := one_paint wi cc (.cells #[.int .i64 K, .int .i64 D, .int .i64 A, .int .i64 B, .int .i64 N, .bool Lg] 61) 13
                 rw [← hw21]
                 obtain ⟨gq, hgq⟩ : ∃ g, g = wi.heap.size := ⟨_, rfl⟩
                 rw [← hgq]
                 rw [← hgq] at hb21
                 have HT21 := Lib.hid ((HT1.out.keep hki).trans (hT21 (fun z => z = 12 ∨ z = 13 ∨ z = 16 + 3 * NB ∨ z = 17 + 3 * NB ∨ z = 18 + 3 * NB)))
                 have HC21 := Lib.hid ((HC1.out.keep hki).turn (hT21 (fun _ => False)) (fun q => q) (fun q => q) (fun q => q) (fun q => q))
                 have HQ21 := Lib.hid hb21
                 clear hw21 hk21 hT21 hb21 hgq n0 nl e10 hki
                 have hR21 : Keeps wa w21 := (HTG.out.trans ((HTo.out.trans (HT21.out.mono (J := (fun z => z = 4 ∨ z = 10 ∨ z = 12 ∨ z = 13 ∨ (16 ≤ z ∧ z < 100000))) fun z h => by omega)).mono (J := (fun z => z ≠ 0)) fun z h => by omega)).below (Nat.le_refl _) (fun _ _ => rfl) (fun q => q rfl)
                 have HR21 := Lib.hid hR21
                 clear hR21
                 have g3 : w21.cell? ⟨gb, 3, none⟩ = some (.slice aa an ac) := HC21.out.cell rfl
                 have gl := HC21.out.blk.1.lt
                 obtain ⟨AN1, hAN1⟩ : ∃ n, n = an + 1 := ⟨_, rfl⟩
                 have HLAA := Lib.hid (show (b.At ++ [(at_ : Int)]).length = AN1 by rw [List.length_append, List.length_singleton, hAN1, HANN.out])
                 clear hAN1
                 go_upto_region 71 with (at_builtin; refine wpList_pushes (by rfl) (.tmp 327) (.tmp 329) 25 (by rfl) Tryd.underlying25 info_int (by rfl) (by decide) (base := wa.heap.size) (f := ci) (l := b.At) (by rfl) (by exact (HC21.out.keep (by repeat (with_reducible (first | assumption | exact Keeps.refl _ | refine Keeps.alloc ?_ _ | refine Keeps.drew ?_ | refine Keeps.drewN ?_ _)))).rows.2.1.1) [(at_ : Int)] _ _ (by rfl) (by exact Blk.top' _ _ (by first | rfl | simp)) ci_len ci_one (by simp only [List.length_cons, List.length_nil, ← HANN.out]; omega) (by simp only [List.length_cons, List.length_nil, ← HANN.out]; unfold maxLen; omega) (by have := HR21.out.size; first | omega | (simp only [sz_alloc]; omega)) ?_; intro v7 w7 hown7 hbel7 hgr7 hfr7; obtain ⟨a9, a9c, e7⟩ := own_form' hown7; rw [HLAA.out] at e7; subst e7; obtain ⟨c7, ht7, ho7⟩ := HC21.out.rows.2.1.push (show Keeps w21 _ from (by repeat (with_reducible (first | assumption | exact Keeps.refl _ | refine Keeps.alloc ?_ _ | refine Keeps.drew ?_ | refine Keeps.drewN ?_ _)))) hown7 hgr7 hfr7; have hb7 := HC21.out.blk.turn ht7 (by omega); have g3 : w7.cell? ⟨gb, 3, none⟩ = some (.slice aa an ac) := hb7.1.cell rfl; have f3 := hb7.1.thawed 3; have gl := hb7.1.lt)
                 obtain ⟨hC7, ht8⟩ := HC21.out.setAt (s7 := ⟨a9, AN1, a9c⟩) ht7 ho7
                 obtain ⟨w22, hw22⟩ : ∃ w', w' = w7.setCell ⟨gb, 3, none⟩ (.slice a9 AN1 a9c) := ⟨_, rfl⟩
                 rw [← hw22] at hC7 ht8
                 rw [← hw22]
                 have HC22 := Lib.hid hC7
                 have HT22 := Lib.hid (HT21.out.trans (ht8.mono (J := (fun z => z = 12 ∨ z = 13 ∨ z = 16 + 3 * NB ∨ z = 17 + 3 * NB ∨ z = 18 + 3 * NB)) fun z h => by omega))
                 have HQ22 := Lib.hid (HQ21.out.turn ht8 (by omega))
                 clear hC7 ht8 hw22 hb7 g3 f3 gl ht7 ho7 hown7 hbel7 hgr7 hfr7
                 go_upto_region 71 with fail
                 have hR22 : Keeps wa w22 := (HTG.out.trans ((HTo.out.trans (HT22.out.mono (J := (fun z => z = 4 ∨ z = 10 ∨ z = 12 ∨ z = 13 ∨ (16 ≤ z ∧ z < 100000))) fun z h => by omega)).mono (J := (fun z => z ≠ 0)) fun z h => by omega)).below (Nat.le_refl _) (fun _ _ => rfl) (fun q => q rfl)
                 have HR22 := Lib.hid hR22
                 clear hR22
                 have hd : Keeps w22 w22.drew := (Keeps.refl _).drew
                 have g13 : w22.drew.cell? ⟨gb, 13, none⟩ = some (.slice la ln lc) := HC22.out.cell rfl
                 have hMd := (HMA.out.keep HR22.out).keep hd
                 have v0 : w22.drew.cell? ⟨w.heap.size, 0, none⟩ = some (.slice x0 TL x0c) := hMd.cell rfl
                 have v1 : w22.drew.cell? ⟨w.heap.size, 1, none⟩ = some (.slice x1 NF x1c) := hMd.cell rfl
                 have v2 : w22.drew.cell? ⟨w.heap.size, 2, none⟩ = some (.slice x2 NT x2c) := hMd.cell rfl
                 have v3 : w22.drew.cell? ⟨w.heap.size, 3, none⟩ = some (.slice x3 m.Data.length x3c) := hMd.cell rfl
                 have v4 : w22.drew.cell? ⟨w.heap.size, 4, none⟩ = some (.slice x4 m.Lines.length x4c) := hMd.cell rfl
                 have v5 : w22.drew.cell? ⟨w.heap.size, 5, none⟩ = some (.int .i64 m.Entry) := hMd.cell rfl
                 have hcall := lineOf_any _ m (at_ : Int) _ (HIM.out.keep (HKWA.out.trans (HR22.out.trans hd)))
                 rw [HLV.out] at hcall
                 have HCALL := Lib.hid hcall
                 clear hMd hcall
                 refine wp_region_head (S := Cells [(gb, 13, .slice la ln lc), (w.heap.size, 0, .slice x0 TL x0c), (w.heap.size, 1, .slice x1 NF x1c), (w.heap.size, 2, .slice x2 NT x2c), (w.heap.size, 3, .slice x3 m.Data.length x3c), (w.heap.size, 4, .slice x4 m.Lines.length x4c), (w.heap.size, 5, .int .i64 m.Entry)]) 6 (by kernel_rfl) (by kernel_rfl) (by kernel_rfl) (by kernel_rfl) (by decide) (by kernel_rfl) ?hS34 (fun hHeld => ?_)
                 case hS34 => exact ⟨g13, v0, v1, v2, v3, v4, v5, trivial⟩
                 simp only [List.take_succ_cons, List.take_zero, List.drop_succ_cons, List.drop_zero]
                 refine takeC 0 hHeld ?_
                 refine takeC 1 hHeld ?_
                 refine takeC 2 hHeld ?_
                 refine takeC 3 hHeld ?_
                 refine wpAnyH_ready (rs := [4]) (by kernel_rfl) (by simp) ?_
                 refine AllReadyH.cons (o := ?or19) ?hr19 ?sr19 ?mr19
                 case hr19 => (simp only [List.getElem?_toArray, List.getElem?_cons_zero, List.getElem?_cons_succ]; try rfl)
                 case mr19 => exact AllReadyH.nil
                 case sr19 =>
                 intro K' hK
                 go_simp
                 go_at_call 25
                 refine HCALL.out.mono ?_
                 rintro e wz ⟨rfl, hkz⟩
                 refine hK.out _ _ (hHeld.keep hkz) (fun hHeld2 => ?_)
                 clear hK K' hHeld
                 have hHeld := hHeld2
                 clear hHeld2 HCALL
                 try simp only [Act.put, List.setIfInBounds_toArray, List.set_cons_zero, List.set_cons_succ]
                 have HKZ := Lib.hid (hd.trans hkz)
                 clear hkz hd g13 v0 v1 v2 v3 v4 v5
                 refine wpAnyH_ready (rs := [5]) (by kernel_rfl) (by simp) ?_
                 refine AllReadyH.cons (o := ?or28) ?hr28 ?sr28 ?mr28
                 case hr28 => (simp only [List.getElem?_toArray, List.getElem?_cons_zero, List.getElem?_cons_succ]; try rfl)
                 case mr28 => exact AllReadyH.nil
                 case sr28 =>
                 intro K hK
                 go_simp
                 refine hK.out _ _ (Cells.keep hHeld ((Keeps.refl _).alloc _)) (fun hHeld2 => ?_)
                 clear hK K hHeld
                 have hHeld := hHeld2
                 clear hHeld2
                 try simp only [Act.put, List.setIfInBounds_toArray, List.set_cons_zero, List.set_cons_succ]
                 refine wpAnyH_done (by kernel_rfl) ?_ _
                 dsimp only [TailQ]
                 clear hHeld
                 obtain ⟨LN1, hLN1⟩ : ∃ n, n = ln + 1 := ⟨_, rfl⟩
                 have HLAL := Lib.hid (show (b.Lines ++ [LV]).length = LN1 by rw [List.length_append, List.length_singleton, hLN1, HLNN1.out])
                 clear hLN1
                 go_upto_region 72 with (at_builtin; refine wpList_pushes (by rfl) (.tmp 333) (.tmp 337) 25 (by rfl) Tryd.underlying25 info_int (by rfl) (by decide) (base := wa.heap.size) (f := ci) (l := b.Lines) (by rfl) (by exact (HC22.out.keep (HKZ.out.trans (by repeat (with_reducible (first | assumption | exact Keeps.refl _ | refine Keeps.alloc ?_ _ | refine Keeps.drew ?_))))).rows.2.2.1) [LV] _ _ (by rfl) (by exact Blk.top' _ _ (by first | rfl | simp)) ci_len ci_one (by simp only [List.length_cons, List.length_nil, ← HLNN1.out]; omega) (by simp only [List.length_cons, List.length_nil, ← HLNN1.out]; unfold maxLen; omega) (by have := HR22.out.size; have := HKZ.out.size; first | omega | (simp only [sz_alloc]; omega)) ?_; intro v7 w7 hown7 hbel7 hgr7 hfr7; obtain ⟨l91, l9c1, e7⟩ := own_form' hown7; rw [HLAL.out] at e7; subst e7; obtain ⟨c7, ht7, ho7⟩ := HC22.out.rows.2.2.push (HKZ.out.trans (by repeat (with_reducible (first | assumption | exact Keeps.refl _ | refine Keeps.alloc ?_ _ | refine Keeps.drew ?_ | refine Keeps.drewN ?_ _)))) hown7 hgr7 hfr7; have hb7 := HC22.out.blk.turn ht7 (by omega); have g13 : w7.cell? ⟨gb, 13, none⟩ = some (.slice la ln lc) := hb7.1.cell rfl; have f13 := hb7.1.thawed 13; have gl := hb7.1.lt)
                 obtain ⟨hC7, ht8⟩ := HC22.out.setLn (s7 := ⟨l91, LN1, l9c1⟩) ht7 ho7
                 obtain ⟨w23, hw23⟩ : ∃ w', w' = w7.setCell ⟨gb, 13, none⟩ (.slice l91 LN1 l9c1) := ⟨_, rfl⟩
                 rw [← hw23] at hC7 ht8
                 rw [← hw23]
                 have HC23 := Lib.hid hC7
                 have HT23 := Lib.hid (HT22.out.trans (ht8.mono (J := (fun z => z = 12 ∨ z = 13 ∨ z = 16 + 3 * NB ∨ z = 17 + 3 * NB ∨ z = 18 + 3 * NB)) fun z h => by omega))
                 have HQ23 := Lib.hid (HQ22.out.turn ht8 (by omega))
                 clear hC7 ht8 hw23 hb7 g13 f13 gl ht7 ho7 hown7 hbel7 hgr7 hfr7
                 have HLN1E : Hid (LN1 = (b.Lines ++ [LV]).length) := Lib.hid (by rw [← HLAL.out])
                 have hb7 := HC23.out.blk.1
                 have hsc := HC23.out.sc
                 have u0 : w23.cell? ⟨gq, 0, none⟩ = some (.int .i64 K) := (HQ23.out.1).cell rfl
                 have u1 : w23.cell? ⟨gq, 1, none⟩ = some (.int .i64 D) := (HQ23.out.1).cell rfl
                 have u2 : w23.cell? ⟨gq, 2, none⟩ = some (.int .i64 A) := (HQ23.out.1).cell rfl
                 have u3 : w23.cell? ⟨gq, 3, none⟩ = some (.int .i64 B) := (HQ23.out.1).cell rfl
                 have u4 : w23.cell? ⟨gq, 4, none⟩ = some (.int .i64 N) := (HQ23.out.1).cell rfl
                 have u5 : w23.cell? ⟨gq, 5, none⟩ = some (.bool Lg) := (HQ23.out.1).cell rfl
                 have ul := (HQ23.out.1).lt
                 go_upto_region 73 with (go_at_call 22; refine (HEN.out _).mono ?_; rintro e we ⟨rfl, hke⟩; have gx : we.cell? ⟨gb, 10, none⟩ = some (.int .i64 0) := (HC23.out.keep hke).blk.1.cell rfl; have fx := (HC23.out.keep hke).blk.1.thawed 10; have gl := (HC23.out.keep hke).blk.1.lt)
                 obtain ⟨hC24, ht24⟩ := (HC23.out.keep hke).put (r' := ⟨rF, rS, ⟨ca, cn, cc0⟩, ⟨a9, AN1, a9c⟩, ⟨lK, lD, lA, lB, lN, lLg⟩, EN, rT, rL, ⟨l91, LN1, l9c1⟩⟩) (b' := { b with At := b.At ++ [(at_ : Int)], Lines := b.Lines ++ [LV], Ends := EN }) 10 (.int .i64 EN) rfl ⟨hsc.1, hsc.2.1, hsc.2.2.1, rfl, hsc.2.2.2.2.1, hsc.2.2.2.2.2⟩ rfl rfl rfl rfl rfl rfl
                 obtain ⟨w24, hw24⟩ : ∃ w', w' = we.setCell ⟨gb, 10, none⟩ (.int .i64 EN) := ⟨_, rfl⟩
                 rw [← hw24] at hC24 ht24
                 rw [← hw24]
                 have HC24 := Lib.hid hC24
                 have HT24 := Lib.hid ((HT23.out.keep hke).trans (ht24.mono (J := (fun z => z = 12 ∨ z = 13 ∨ z = 16 + 3 * NB ∨ z = 17 + 3 * NB ∨ z = 18 + 3 * NB)) fun z h => by omega))
                 have HQ24 := Lib.hid ((HQ23.out.keep hke).turn ht24 (by omega))
                 clear hC24 ht24 hw24 gx fx gl hsc hb7 hke u0 u1 u2 u3 u4 u5 ul
                 by_cases hb4 : brN K = true
                 case pos =>
                  have hEN4 : EN = 4 := by
                   rw [HENE.out]
                   unfold endsN
                   rw [if_neg (brN_st hb4), if_neg (fun q => by rw [q] at hb4; revert hb4; decide), if_pos hb4]
                  have hTB := HTOB.out (Or.inl hb4)
                  have HBRT := Lib.hid hb4
                  clear hb4
                  as_aux_lemma =>
                  subst hEN4
                  have u0 : w24.cell? ⟨gq, 0, none⟩ = some (.int .i64 K) := (HQ24.out.1).cell rfl
                  have u1 : w24.cell? ⟨gq, 1, none⟩ = some (.int .i64 D) := (HQ24.out.1).cell rfl
                  have u2 : w24.cell? ⟨gq, 2, none⟩ = some (.int .i64 A) := (HQ24.out.1).cell rfl
                  have u3 : w24.cell? ⟨gq, 3, none⟩ = some (.int .i64 B) := (HQ24.out.1).cell rfl
                  have u4 : w24.cell? ⟨gq, 4, none⟩ = some (.int .i64 N) := (HQ24.out.1).cell rfl
                  have u5 : w24.cell? ⟨gq, 5, none⟩ = some (.bool Lg) := (HQ24.out.1).cell rfl
                  have ul := (HQ24.out.1).lt
                  have hb7 := HC24.out.blk.1
                  have e4 : w24.cell? ⟨gb, 4, none⟩ = some (.int .i64 lK) := hb7.cell rfl
                  have e5 : w24.cell? ⟨gb, 5, none⟩ = some (.int .i64 lD) := hb7.cell rfl
                  have e6 : w24.cell? ⟨gb, 6, none⟩ = some (.int .i64 lA) := hb7.cell rfl
                  have e7 : w24.cell? ⟨gb, 7, none⟩ = some (.int .i64 lB) := hb7.cell rfl
                  have e8 : w24.cell? ⟨gb, 8, none⟩ = some (.int .i64 lN) := hb7.cell rfl
                  have e9 : w24.cell? ⟨gb, 9, none⟩ = some (.bool lLg) := hb7.cell rfl
                  have e10 : w24.cell? ⟨gb, 10, none⟩ = some (.int .i64 4) := hb7.cell rfl
                  have f4 := hb7.thawed 4
                  have f5 := hb7.thawed 5
                  have f6 := hb7.thawed 6
                  have f7 := hb7.thawed 7
                  have f8 := hb7.thawed 8
                  have f9 := hb7.thawed 9
                  have gl := hb7.lt
                  have hsc := HC24.out.sc
                  go_upto_region 84 with fail
                  obtain ⟨s0, t0⟩ := (HC24.out).put (r' := ⟨rF, rS, ⟨ca, cn, cc0⟩, ⟨a9, AN1, a9c⟩, ⟨K, lD, lA, lB, lN, lLg⟩, 4, rT, rL, ⟨l91, LN1, l9c1⟩⟩) (b' := { b with At := b.At ++ [(at_ : Int)], Lines := b.Lines ++ [LV], Ends := 4, Last := ⟨K, lD, lA, lB, lN, lLg⟩ }) 4 (.int .i64 K) rfl ⟨hsc.1, hsc.2.1, rfl, hsc.2.2.2.1, hsc.2.2.2.2.1, hsc.2.2.2.2.2⟩ rfl rfl rfl rfl rfl rfl
                  obtain ⟨s1, t1⟩ := (s0).put (r' := ⟨rF, rS, ⟨ca, cn, cc0⟩, ⟨a9, AN1, a9c⟩, ⟨K, 0, lA, lB, lN, lLg⟩, 4, rT, rL, ⟨l91, LN1, l9c1⟩⟩) (b' := { b with At := b.At ++ [(at_ : Int)], Lines := b.Lines ++ [LV], Ends := 4, Last := ⟨K, 0, lA, lB, lN, lLg⟩ }) 5 (.int .i64 0) rfl ⟨hsc.1, hsc.2.1, rfl, hsc.2.2.2.1, hsc.2.2.2.2.1, hsc.2.2.2.2.2⟩ rfl rfl rfl rfl rfl rfl
                  obtain ⟨s2, t2⟩ := (s1).put (r' := ⟨rF, rS, ⟨ca, cn, cc0⟩, ⟨a9, AN1, a9c⟩, ⟨K, 0, A, lB, lN, lLg⟩, 4, rT, rL, ⟨l91, LN1, l9c1⟩⟩) (b' := { b with At := b.At ++ [(at_ : Int)], Lines := b.Lines ++ [LV], Ends := 4, Last := ⟨K, 0, A, lB, lN, lLg⟩ }) 6 (.int .i64 A) rfl ⟨hsc.1, hsc.2.1, rfl, hsc.2.2.2.1, hsc.2.2.2.2.1, hsc.2.2.2.2.2⟩ rfl rfl rfl rfl rfl rfl
                  obtain ⟨s3, t3⟩ := (s2).put (r' := ⟨rF, rS, ⟨ca, cn, cc0⟩, ⟨a9, AN1, a9c⟩, ⟨K, 0, A, B, lN, lLg⟩, 4, rT, rL, ⟨l91, LN1, l9c1⟩⟩) (b' := { b with At := b.At ++ [(at_ : Int)], Lines := b.Lines ++ [LV], Ends := 4, Last := ⟨K, 0, A, B, lN, lLg⟩ }) 7 (.int .i64 B) rfl ⟨hsc.1, hsc.2.1, rfl, hsc.2.2.2.1, hsc.2.2.2.2.1, hsc.2.2.2.2.2⟩ rfl rfl rfl rfl rfl rfl
                  obtain ⟨s4, t4⟩ := (s3).put (r' := ⟨rF, rS, ⟨ca, cn, cc0⟩, ⟨a9, AN1, a9c⟩, ⟨K, 0, A, B, 0, lLg⟩, 4, rT, rL, ⟨l91, LN1, l9c1⟩⟩) (b' := { b with At := b.At ++ [(at_ : Int)], Lines := b.Lines ++ [LV], Ends := 4, Last := ⟨K, 0, A, B, 0, lLg⟩ }) 8 (.int .i64 0) rfl ⟨hsc.1, hsc.2.1, rfl, hsc.2.2.2.1, hsc.2.2.2.2.1, hsc.2.2.2.2.2⟩ rfl rfl rfl rfl rfl rfl
                  obtain ⟨s5, t5⟩ := (s4).put (r' := ⟨rF, rS, ⟨ca, cn, cc0⟩, ⟨a9, AN1, a9c⟩, ⟨K, 0, A, B, 0, false⟩, 4, rT, rL, ⟨l91, LN1, l9c1⟩⟩) (b' := { b with At := b.At ++ [(at_ : Int)], Lines := b.Lines ++ [LV], Ends := 4, Last := ⟨K, 0, A, B, 0, false⟩ }) 9 (.bool false) rfl ⟨hsc.1, hsc.2.1, rfl, hsc.2.2.2.1, hsc.2.2.2.2.1, hsc.2.2.2.2.2⟩ rfl rfl rfl rfl rfl rfl
                  obtain ⟨w25, hw25⟩ : ∃ w', w' = (((((w24.setCell ⟨gb, 4, none⟩ (.int .i64 K)).setCell ⟨gb, 5, none⟩ (.int .i64 0)).setCell ⟨gb, 6, none⟩ (.int .i64 A)).setCell ⟨gb, 7, none⟩ (.int .i64 B)).setCell ⟨gb, 8, none⟩ (.int .i64 0)).setCell ⟨gb, 9, none⟩ (.bool false) := ⟨_, rfl⟩
                  rw [← hw25] at s5 t5
                  rw [← hw25]
                  have HC25 := Lib.hid s5
                  have htt := (((((t0).trans t1).trans t2).trans t3).trans t4).trans t5
                  have HT25 := Lib.hid (HT24.out.trans (htt.mono (J := (fun z => z = 12 ∨ z = 13 ∨ z = 16 + 3 * NB ∨ z = 17 + 3 * NB ∨ z = 18 + 3 * NB)) fun z h => by omega))
                  have HQ25 := Lib.hid (HQ24.out.turn htt (by omega))
                  clear s0 t0 s1 t1 s2 t2 s3 t3 s4 t4 s5 t5 hw25 hb7 e4 e5 e6 e7 e8 e9 e10 f4 f5 f6 f7 f8 f9 gl hsc htt u0 u1 u2 u3 u4 u5 ul
                  obtain ⟨X26, hX⟩ : ∃ X : Nat, (at_ : Int) + N = (X : Int) := ⟨((at_ : Int) + N).toNat, by omega⟩
                  have hXN : X26 < N1 := by omega
                  have hXz : (X26 : Int) < (N1 : Int) := by omega
                  have wX : IntKind.i64.wrap ((at_ : Int) + N) = (X26 : Int) := by rw [IntKind.wrap_i64]; omega
                  obtain ⟨p1, -, p3, -, -⟩ := ownC_cell (HPF.out.turn ((HTo.out.trans (HT25.out.mono (J := (fun z => z = 4 ∨ z = 10 ∨ z = 12 ∨ z = 13 ∨ (16 ≤ z ∧ z < 100000))) fun z h => by omega))) (by omega)) (j := X26) (by rw [plArr_len]; exact hXN)
                  rw [HTL.out, plArr_all _ hXN] at p1
                  obtain ⟨PX26, hPX⟩ : ∃ z, z = plR m X26 := ⟨_, rfl⟩
                  rw [← hPX] at p1
                  have p1' : w25.cell? ⟨gP, X26, none⟩ = some (.int .i64 PX26) := p1
                  have HPX26 : Hid (plR m ((at_ : Int) + N) = PX26) := Lib.hid (by rw [hX, hPX])
                  have u0 : w25.cell? ⟨gq, 0, none⟩ = some (.int .i64 K) := (HQ25.out.1).cell rfl
                  have u1 : w25.cell? ⟨gq, 1, none⟩ = some (.int .i64 D) := (HQ25.out.1).cell rfl
                  have u2 : w25.cell? ⟨gq, 2, none⟩ = some (.int .i64 A) := (HQ25.out.1).cell rfl
                  have u3 : w25.cell? ⟨gq, 3, none⟩ = some (.int .i64 B) := (HQ25.out.1).cell rfl
                  have u4 : w25.cell? ⟨gq, 4, none⟩ = some (.int .i64 N) := (HQ25.out.1).cell rfl
                  have u5 : w25.cell? ⟨gq, 5, none⟩ = some (.bool Lg) := (HQ25.out.1).cell rfl
                  have ul := (HQ25.out.1).lt
                  have hb7 := HC25.out.blk.1
                  have gx : w25.cell? ⟨gb, 11, none⟩ = some (.int .i64 rT) := hb7.cell rfl
                  have fx := hb7.thawed 11
                  have gl := hb7.lt
                  have hsc := HC25.out.sc
                  clear hX hPX p1
                  go_upto_region 85 with fail
                  obtain ⟨hC7, ht8⟩ := HC25.out.put (r' := ⟨rF, rS, ⟨ca, cn, cc0⟩, ⟨a9, AN1, a9c⟩, ⟨K, 0, A, B, 0, false⟩, 4, PX26, rL, ⟨l91, LN1, l9c1⟩⟩) (b' := { b with At := b.At ++ [(at_ : Int)], Lines := b.Lines ++ [LV], Ends := 4, Last := ⟨K, 0, A, B, 0, false⟩, To := PX26 }) 11 (.int .i64 PX26) rfl ⟨hsc.1, hsc.2.1, hsc.2.2.1, hsc.2.2.2.1, rfl, hsc.2.2.2.2.2⟩ rfl rfl rfl rfl rfl rfl
                  obtain ⟨w26, hw26⟩ : ∃ w', w' = w25.setCell ⟨gb, 11, none⟩ (.int .i64 PX26) := ⟨_, rfl⟩
                  rw [← hw26] at hC7 ht8
                  rw [← hw26]
                  have HC26 := Lib.hid hC7
                  have HT26 := Lib.hid (HT25.out.trans (ht8.mono (J := (fun z => z = 12 ∨ z = 13 ∨ z = 16 + 3 * NB ∨ z = 17 + 3 * NB ∨ z = 18 + 3 * NB)) fun z h => by omega))
                  have HQ26 := Lib.hid (HQ25.out.turn ht8 (by omega))
                  clear hC7 ht8 hw26 hb7 gx fx gl hsc wX p3 p1' hXz u0 u1 u2 u3 u4 u5 ul
                  have hXN : Y < N1 := hYN
                  have hXz : (Y : Int) < (N1 : Int) := hYz
                  have hX := HY.out.symm
                  have wX := wY
                  obtain ⟨p1, -, p3, -, -⟩ := ownC_cell (HPF.out.turn ((HTo.out.trans (HT26.out.mono (J := (fun z => z = 4 ∨ z = 10 ∨ z = 12 ∨ z = 13 ∨ (16 ≤ z ∧ z < 100000))) fun z h => by omega))) (by omega)) (j := Y) (by rw [plArr_len]; exact hXN)
                  rw [HTL.out, plArr_all _ hXN] at p1
                  obtain ⟨PX27, hPX⟩ : ∃ z, z = plR m Y := ⟨_, rfl⟩
                  rw [← hPX] at p1
                  have p1' : w26.cell? ⟨gP, Y, none⟩ = some (.int .i64 PX27) := p1
                  have HPX27 : Hid (plR m ((at_ : Int) + Z) = PX27) := Lib.hid (by rw [hX, hPX])
                  have u0 : w26.cell? ⟨gq, 0, none⟩ = some (.int .i64 K) := (HQ26.out.1).cell rfl
                  have u1 : w26.cell? ⟨gq, 1, none⟩ = some (.int .i64 D) := (HQ26.out.1).cell rfl
                  have u2 : w26.cell? ⟨gq, 2, none⟩ = some (.int .i64 A) := (HQ26.out.1).cell rfl
                  have u3 : w26.cell? ⟨gq, 3, none⟩ = some (.int .i64 B) := (HQ26.out.1).cell rfl
                  have u4 : w26.cell? ⟨gq, 4, none⟩ = some (.int .i64 N) := (HQ26.out.1).cell rfl
                  have u5 : w26.cell? ⟨gq, 5, none⟩ = some (.bool Lg) := (HQ26.out.1).cell rfl
                  have ul := (HQ26.out.1).lt
                  have hb7 := HC26.out.blk.1
                  have gx : w26.cell? ⟨gb, 12, none⟩ = some (.int .i64 rL) := hb7.cell rfl
                  have fx := hb7.thawed 12
                  have gl := hb7.lt
                  have hsc := HC26.out.sc
                  clear hX hPX p1
                  go_upto_region 88 with fail
                  obtain ⟨hC7, ht8⟩ := HC26.out.put (r' := ⟨rF, rS, ⟨ca, cn, cc0⟩, ⟨a9, AN1, a9c⟩, ⟨K, 0, A, B, 0, false⟩, 4, PX26, PX27, ⟨l91, LN1, l9c1⟩⟩) (b' := { b with At := b.At ++ [(at_ : Int)], Lines := b.Lines ++ [LV], Ends := 4, Last := ⟨K, 0, A, B, 0, false⟩, To := PX26, Else := PX27 }) 12 (.int .i64 PX27) rfl ⟨hsc.1, hsc.2.1, hsc.2.2.1, hsc.2.2.2.1, hsc.2.2.2.2.1, rfl⟩ rfl rfl rfl rfl rfl rfl
                  obtain ⟨w27, hw27⟩ : ∃ w', w' = w26.setCell ⟨gb, 12, none⟩ (.int .i64 PX27) := ⟨_, rfl⟩
                  rw [← hw27] at hC7 ht8
                  rw [← hw27]
                  have HC27 := Lib.hid hC7
                  have HT27 := Lib.hid (HT26.out.trans (ht8.mono (J := (fun z => z = 12 ∨ z = 13 ∨ z = 16 + 3 * NB ∨ z = 17 + 3 * NB ∨ z = 18 + 3 * NB)) fun z h => by omega))
                  have HQ27 := Lib.hid (HQ26.out.turn ht8 (by omega))
                  clear hC7 ht8 hw27 hb7 gx fx gl hsc wX p3 p1' hXz u0 u1 u2 u3 u4 u5 ul
                  have HCF := Lib.hid (HC27.out.cast (show _ = pbR m ⟨(at_ : Int), Z, ⟨K, D, A, B, N, Lg⟩⟩ b from by unfold pbR; rw [if_pos HBRT.out]; rw [HLV.out]; dsimp only; rw [HPX26.out, HPX27.out]))
                  go_wp2_with fail
                  go_roundw
                  case rel => exact ⟨kk + 1, Y, _, pbR m ⟨(at_ : Int), Z, ⟨K, D, A, B, N, Lg⟩⟩ b, _, by omega, by go_num, Lib.hid (by rw [HADR.out, HY.out]), HT27, HCF, HGN, Lib.hid (by have := HKGE.out; omega), HLEN⟩
                  case measure => simp [intOf]; omega
                 case neg =>
                 have HNB4 := Lib.hid hb4
                 by_cases h22 : K = 22
                 case pos =>
                  have hEN3 : EN = 3 := by rw [HENE.out, h22]; decide
                  have hTB := HTOB.out (Or.inr h22)
                  have HK22 := Lib.hid h22
                  clear h22 hb4
                  as_aux_lemma =>
                  subst hEN3
                  have u0 : w24.cell? ⟨gq, 0, none⟩ = some (.int .i64 K) := (HQ24.out.1).cell rfl
                  have u1 : w24.cell? ⟨gq, 1, none⟩ = some (.int .i64 D) := (HQ24.out.1).cell rfl
                  have u2 : w24.cell? ⟨gq, 2, none⟩ = some (.int .i64 A) := (HQ24.out.1).cell rfl
                  have u3 : w24.cell? ⟨gq, 3, none⟩ = some (.int .i64 B) := (HQ24.out.1).cell rfl
                  have u4 : w24.cell? ⟨gq, 4, none⟩ = some (.int .i64 N) := (HQ24.out.1).cell rfl
                  have u5 : w24.cell? ⟨gq, 5, none⟩ = some (.bool Lg) := (HQ24.out.1).cell rfl
                  have ul := (HQ24.out.1).lt
                  have e10 : w24.cell? ⟨gb, 10, none⟩ = some (.int .i64 3) := HC24.out.blk.1.cell rfl
                  obtain ⟨X25, hX⟩ : ∃ X : Nat, (at_ : Int) + N = (X : Int) := ⟨((at_ : Int) + N).toNat, by omega⟩
                  have hXN : X25 < N1 := by omega
                  have hXz : (X25 : Int) < (N1 : Int) := by omega
                  have wX : IntKind.i64.wrap ((at_ : Int) + N) = (X25 : Int) := by rw [IntKind.wrap_i64]; omega
                  obtain ⟨p1, -, p3, -, -⟩ := ownC_cell (HPF.out.turn ((HTo.out.trans (HT24.out.mono (J := (fun z => z = 4 ∨ z = 10 ∨ z = 12 ∨ z = 13 ∨ (16 ≤ z ∧ z < 100000))) fun z h => by omega))) (by omega)) (j := X25) (by rw [plArr_len]; exact hXN)
                  rw [HTL.out, plArr_all _ hXN] at p1
                  obtain ⟨PX25, hPX⟩ : ∃ z, z = plR m X25 := ⟨_, rfl⟩
                  rw [← hPX] at p1
                  have p1' : w24.cell? ⟨gP, X25, none⟩ = some (.int .i64 PX25) := p1
                  have HPX25 : Hid (plR m ((at_ : Int) + N) = PX25) := Lib.hid (by rw [hX, hPX])
                  have u0 : w24.cell? ⟨gq, 0, none⟩ = some (.int .i64 K) := (HQ24.out.1).cell rfl
                  have u1 : w24.cell? ⟨gq, 1, none⟩ = some (.int .i64 D) := (HQ24.out.1).cell rfl
                  have u2 : w24.cell? ⟨gq, 2, none⟩ = some (.int .i64 A) := (HQ24.out.1).cell rfl
                  have u3 : w24.cell? ⟨gq, 3, none⟩ = some (.int .i64 B) := (HQ24.out.1).cell rfl
                  have u4 : w24.cell? ⟨gq, 4, none⟩ = some (.int .i64 N) := (HQ24.out.1).cell rfl
                  have u5 : w24.cell? ⟨gq, 5, none⟩ = some (.bool Lg) := (HQ24.out.1).cell rfl
                  have ul := (HQ24.out.1).lt
                  have hb7 := HC24.out.blk.1
                  have gx : w24.cell? ⟨gb, 11, none⟩ = some (.int .i64 rT) := hb7.cell rfl
                  have fx := hb7.thawed 11
                  have gl := hb7.lt
                  have hsc := HC24.out.sc
                  clear hX hPX p1
                  go_upto_region 88 with fail
                  clear e10
                  obtain ⟨hC7, ht8⟩ := HC24.out.put (r' := ⟨rF, rS, ⟨ca, cn, cc0⟩, ⟨a9, AN1, a9c⟩, ⟨lK, lD, lA, lB, lN, lLg⟩, 3, PX25, rL, ⟨l91, LN1, l9c1⟩⟩) (b' := { b with At := b.At ++ [(at_ : Int)], Lines := b.Lines ++ [LV], Ends := 3, To := PX25 }) 11 (.int .i64 PX25) rfl ⟨hsc.1, hsc.2.1, hsc.2.2.1, hsc.2.2.2.1, rfl, hsc.2.2.2.2.2⟩ rfl rfl rfl rfl rfl rfl
                  obtain ⟨w25, hw25⟩ : ∃ w', w' = w24.setCell ⟨gb, 11, none⟩ (.int .i64 PX25) := ⟨_, rfl⟩
                  rw [← hw25] at hC7 ht8
                  rw [← hw25]
                  have HC25 := Lib.hid hC7
                  have HT25 := Lib.hid (HT24.out.trans (ht8.mono (J := (fun z => z = 12 ∨ z = 13 ∨ z = 16 + 3 * NB ∨ z = 17 + 3 * NB ∨ z = 18 + 3 * NB)) fun z h => by omega))
                  have HQ25 := Lib.hid (HQ24.out.turn ht8 (by omega))
                  clear hC7 ht8 hw25 hb7 gx fx gl hsc wX p3 p1' hXz u0 u1 u2 u3 u4 u5 ul
                  have HCF := Lib.hid (HC25.out.cast (show _ = pbR m ⟨(at_ : Int), Z, ⟨K, D, A, B, N, Lg⟩⟩ b from by unfold pbR; rw [if_neg HNB4.out, if_pos HK22.out]; rw [HLV.out]; dsimp only; rw [HPX25.out]))
                  go_wp2_with fail
                  go_roundw
                  case rel => exact ⟨kk + 1, Y, _, pbR m ⟨(at_ : Int), Z, ⟨K, D, A, B, N, Lg⟩⟩ b, _, by omega, by go_num, Lib.hid (by rw [HADR.out, HY.out]), HT25, HCF, HGN, Lib.hid (by have := HKGE.out; omega), HLEN⟩
                  case measure => simp [intOf]; omega
                 case neg =>
                 have HN22 := Lib.hid h22
                 have HEN1 : Hid (stN K = true → EN = 1) := Lib.hid (fun q => by rw [HENE.out]; unfold endsN; rw [if_pos q])
                 have HEN00 : Hid (¬ stN K = true → EN = 0) := Lib.hid (fun q => by rw [HENE.out]; unfold endsN; rw [if_neg q, if_neg h22, if_neg hb4])
                 have hEs : EN ≠ 4 ∧ EN ≠ 3 := by
                  by_cases q : stN K = true
                  ·rw [HEN1.out q]; exact ⟨by decide, by decide⟩
                  ·rw [HEN00.out q]; exact ⟨by decide, by decide⟩
                 have tE4 : (EN == 4) = false := by simpa using hEs.1
                 have tE3 : (EN == 3) = false := by simpa using hEs.2
                 clear hb4 h22 hEs
                 by_cases hk23 : K = 23
                 case pos =>
                  as_aux_lemma =>
                  have tk : (K == 23) = true := by simpa using hk23
                  obtain ⟨FA, hFA⟩ : ∃ z, z = fnAt m ((at_ : Int) + N) := ⟨_, rfl⟩
                  have HPLN : Hid (plainI m ⟨(at_ : Int), Z, ⟨K, D, A, B, N, Lg⟩⟩ = (⟨K, D, A, B, FA, Lg⟩ : Ic)) := Lib.hid (by unfold plainI; rw [if_pos hk23, hFA]; rfl)
                  have hR24 : Keeps wa w24 := (HTG.out.trans ((HTo.out.trans (HT24.out.mono (J := (fun z => z = 4 ∨ z = 10 ∨ z = 12 ∨ z = 13 ∨ (16 ≤ z ∧ z < 100000))) fun z h => by omega)).mono (J := (fun z => z ≠ 0)) fun z h => by omega)).below (Nat.le_refl _) (fun _ _ => rfl) (fun q => q rfl)
                  have HR24 := Lib.hid hR24
                  clear hR24
                  have HCB : Hid (∀ W', Keeps w24 W' → Calls Tryd.prog 24 #[.agg #[.slice x0 TL x0c, .slice x1 NF x1c, .slice x2 NT x2c, .slice x3 m.Data.length x3c, .slice x4 m.Lines.length x4c, .int .i64 m.Entry], .int .i64 ((at_ : Int) + N)] W' fun e w' => e = .returned (.int .i64 FA) ∧ Keeps W' w') := Lib.hid (fun W' hk' => by rw [hFA]; exact calledBy_any (HIM.out.keep (HKWA.out.trans (HR24.out.trans hk'))) HG.out.funcs)
                  have HK23 := Lib.hid hk23
                  have e10 : w24.cell? ⟨gb, 10, none⟩ = some (.int .i64 EN) := HC24.out.blk.1.cell rfl
                  have u0 : w24.cell? ⟨gq, 0, none⟩ = some (.int .i64 K) := (HQ24.out.1).cell rfl
                  have u1 : w24.cell? ⟨gq, 1, none⟩ = some (.int .i64 D) := (HQ24.out.1).cell rfl
                  have u2 : w24.cell? ⟨gq, 2, none⟩ = some (.int .i64 A) := (HQ24.out.1).cell rfl
                  have u3 : w24.cell? ⟨gq, 3, none⟩ = some (.int .i64 B) := (HQ24.out.1).cell rfl
                  have u4 : w24.cell? ⟨gq, 4, none⟩ = some (.int .i64 N) := (HQ24.out.1).cell rfl
                  have u5 : w24.cell? ⟨gq, 5, none⟩ = some (.bool Lg) := (HQ24.out.1).cell rfl
                  have ul := (HQ24.out.1).lt
                  have hMd := HMA.out.keep HR24.out
                  have n0 := hMd.cell (j := 0) rfl
                  have n1 := hMd.cell (j := 1) rfl
                  have n2 := hMd.cell (j := 2) rfl
                  have n3 := hMd.cell (j := 3) rfl
                  have n4 := hMd.cell (j := 4) rfl
                  have n5 := hMd.cell (j := 5) rfl
                  have nl := hMd.lt
                  have wTo : IntKind.i64.wrap ((at_ : Int) + N) = (at_ : Int) + N := by rw [IntKind.wrap_i64]; omega
                  have HMD := Lib.hid hMd
                  clear hk23 hFA hMd
                  go_upto_region 76 with (first | ((with_reducible show wpList _ _ _ (_ :: _) _ _); refine wpList_loadImg (by rfl) (.tmp 1) (by rfl) (by rfl) HMD.out ?_) | (go_at_call 24; refine (HCB.out _ (by repeat (with_reducible (first | assumption | exact Keeps.refl _ | refine Keeps.alloc ?_ _ | refine Keeps.drew ?_ | refine Keeps.drewN ?_ _)))).mono ?_; rintro e wy ⟨rfl, hky⟩; have y4 := (HQ24.out.keep hky).1.cell (j := 4) rfl; have yf := (HQ24.out.keep hky).1.thawed 4; have yl := (HQ24.out.keep hky).1.lt))
                  obtain ⟨w25, hw25⟩ : ∃ w', w' = wy.setCell ⟨gq, 4, none⟩ (.int .i64 FA) := ⟨_, rfl⟩
                  obtain ⟨hq25, ht25⟩ := (HQ24.out.keep hky).set 4 (.int .i64 FA)
                  rw [← hw25] at hq25 ht25
                  rw [← hw25]
                  have HQ25 := Lib.hid (show BlkC 13 _ w25 gq (.cells #[.int .i64 K, .int .i64 D, .int .i64 A, .int .i64 B, .int .i64 FA, .bool Lg] 61) from hq25)
                  have HT25 := Lib.hid ((HT24.out.keep hky).trans (ht25.mono (J := (fun z => z = 12 ∨ z = 13 ∨ z = 16 + 3 * NB ∨ z = 17 + 3 * NB ∨ z = 18 + 3 * NB)) fun z h => by omega))
                  have HC25 := Lib.hid ((HC24.out.keep hky).turn ht25 (by omega) (by omega) (by omega) (by omega))
                  clear tk e10 hq25 ht25 hw25 hky y4 yf yl n0 n1 n2 n3 n4 n5 nl wTo u0 u1 u2 u3 u4 u5 ul
                  have u0 : w25.cell? ⟨gq, 0, none⟩ = some (.int .i64 K) := (HQ25.out.1).cell rfl
                  have u1 : w25.cell? ⟨gq, 1, none⟩ = some (.int .i64 D) := (HQ25.out.1).cell rfl
                  have u2 : w25.cell? ⟨gq, 2, none⟩ = some (.int .i64 A) := (HQ25.out.1).cell rfl
                  have u3 : w25.cell? ⟨gq, 3, none⟩ = some (.int .i64 B) := (HQ25.out.1).cell rfl
                  have u4 : w25.cell? ⟨gq, 4, none⟩ = some (.int .i64 FA) := (HQ25.out.1).cell rfl
                  have u5 : w25.cell? ⟨gq, 5, none⟩ = some (.bool Lg) := (HQ25.out.1).cell rfl
                  have ul := (HQ25.out.1).lt
                  have hb7 := HC25.out.blk.1
                  have e2 : w25.cell? ⟨gb, 2, none⟩ = some (.slice ca cn cc0) := hb7.cell rfl
                  obtain ⟨CN1, hCN1⟩ : ∃ n, n = cn + 1 := ⟨_, rfl⟩
                  have HLAC := Lib.hid (show (b.Code ++ [(⟨K, D, A, B, FA, Lg⟩ : Ic)]).length = CN1 by rw [List.length_append, List.length_singleton, hCN1, HCNN.out])
                  clear hCN1 hb7
                  have hR25 : Keeps wa w25 := (HTG.out.trans ((HTo.out.trans (HT25.out.mono (J := (fun z => z = 4 ∨ z = 10 ∨ z = 12 ∨ z = 13 ∨ (16 ≤ z ∧ z < 100000))) fun z h => by omega)).mono (J := (fun z => z ≠ 0)) fun z h => by omega)).below (Nat.le_refl _) (fun _ _ => rfl) (fun q => q rfl)
                  have HR25 := Lib.hid hR25
                  clear hR25
                  go_upto_region 77 with (first | ((with_reducible show wpList _ _ _ (_ :: _) _ _); refine wpList_loadIns (by rfl) (.tmp 27) (by rfl) (by rfl) HQ25.out.1 ?_) | ((with_reducible show wpList _ _ _ (_ :: _) _ _); refine wpList_makeIns (by rfl) 357 (by rfl) (by rfl) ?_) | (at_builtin; refine wpList_pushes (by rfl) (.tmp 356) (.tmp 358) 75 (by rfl) Tryd.underlying75 info_instr (by rfl) (by decide) (base := wa.heap.size) (f := cic) (l := b.Code) (by rfl) (by exact (HC25.out.keep (by repeat (with_reducible (first | assumption | exact Keeps.refl _ | refine Keeps.alloc ?_ _ | refine Keeps.drew ?_ | refine Keeps.drewN ?_ _)))).rows.1.1) [⟨K, D, A, B, FA, Lg⟩] _ _ (by rfl) (by exact Blk.top' _ _ (by first | rfl | simp)) cic_len cic_one (by simp only [List.length_cons, List.length_nil, ← HCNN.out]; omega) (by simp only [List.length_cons, List.length_nil, ← HCNN.out]; unfold maxLen; omega) (by have := HR25.out.size; first | omega | (simp only [sz_alloc]; omega)) ?_; intro v7 w7 hown7 hbel7 hgr7 hfr7; obtain ⟨k9, k9c, e7⟩ := own_form' hown7; rw [HLAC.out] at e7; subst e7; obtain ⟨c7, ht7, ho7⟩ := HC25.out.rows.1.push (show Keeps w25 _ from (by repeat (with_reducible (first | assumption | exact Keeps.refl _ | refine Keeps.alloc ?_ _ | refine Keeps.drew ?_ | refine Keeps.drewN ?_ _)))) hown7 hgr7 hfr7; have hb7 := HC25.out.blk.turn ht7 (by omega); have g2 : w7.cell? ⟨gb, 2, none⟩ = some (.slice ca cn cc0) := hb7.1.cell rfl; have f2 := hb7.1.thawed 2; have gl := hb7.1.lt))
                  obtain ⟨hC7, ht8⟩ := HC25.out.setCode (s7 := ⟨k9, CN1, k9c⟩) ht7 ho7
                  obtain ⟨w26, hw26⟩ : ∃ w', w' = w7.setCell ⟨gb, 2, none⟩ (.slice k9 CN1 k9c) := ⟨_, rfl⟩
                  rw [← hw26] at hC7 ht8
                  rw [← hw26]
                  have HC26 := Lib.hid hC7
                  have HT26 := Lib.hid (HT25.out.trans (ht8.mono (J := (fun z => z = 12 ∨ z = 13 ∨ z = 16 + 3 * NB ∨ z = 17 + 3 * NB ∨ z = 18 + 3 * NB)) fun z h => by omega))
                  have HQ26 := Lib.hid (HQ25.out.turn ht8 (by omega))
                  clear hC7 ht8 hw26 hb7 g2 f2 gl ht7 ho7 hown7 hbel7 hgr7 hfr7 e2 u0 u1 u2 u3 u4 u5 ul
                  have hLn2 : LN1 = (b.Lines ++ [LV]).length := HLN1E.out
                  have HLNN2 := Lib.hid hLn2
                  have hLn1b : LN1 ≤ 10000 := by have := HLENB.out.2.2; rw [hLn2, List.length_append, List.length_singleton]; omega
                  clear hLn2
                  have e10 : w26.cell? ⟨gb, 10, none⟩ = some (.int .i64 EN) := HC26.out.blk.1.cell rfl
                  by_cases hst : stN K = true
                  case pos =>
                   have hE1 := HEN1.out hst
                   subst hE1
                   have HST := Lib.hid hst
                   clear hst
                   go_upto_region 81 with fail
                   clear e10
                   have hR26 : Keeps wa w26 := (HTG.out.trans ((HTo.out.trans (HT26.out.mono (J := (fun z => z = 4 ∨ z = 10 ∨ z = 12 ∨ z = 13 ∨ (16 ≤ z ∧ z < 100000))) fun z h => by omega)).mono (J := (fun z => z ≠ 0)) fun z h => by omega)).below (Nat.le_refl _) (fun _ _ => rfl) (fun q => q rfl)
                   have HR26 := Lib.hid hR26
                   clear hR26
                   have hd : Keeps w26 w26.drew := (Keeps.refl _).drew
                   have g13 : w26.drew.cell? ⟨gb, 13, none⟩ = some (.slice l91 LN1 l9c1) := HC26.out.cell rfl
                   have hMd := (HMA.out.keep HR26.out).keep hd
                   have v0 : w26.drew.cell? ⟨w.heap.size, 0, none⟩ = some (.slice x0 TL x0c) := hMd.cell rfl
                   have v1 : w26.drew.cell? ⟨w.heap.size, 1, none⟩ = some (.slice x1 NF x1c) := hMd.cell rfl
                   have v2 : w26.drew.cell? ⟨w.heap.size, 2, none⟩ = some (.slice x2 NT x2c) := hMd.cell rfl
                   have v3 : w26.drew.cell? ⟨w.heap.size, 3, none⟩ = some (.slice x3 m.Data.length x3c) := hMd.cell rfl
                   have v4 : w26.drew.cell? ⟨w.heap.size, 4, none⟩ = some (.slice x4 m.Lines.length x4c) := hMd.cell rfl
                   have v5 : w26.drew.cell? ⟨w.heap.size, 5, none⟩ = some (.int .i64 m.Entry) := hMd.cell rfl
                   have hcall := lineOf_any _ m (at_ : Int) _ (HIM.out.keep (HKWA.out.trans (HR26.out.trans hd)))
                   rw [HLV.out] at hcall
                   have HCALL := Lib.hid hcall
                   clear hMd hcall
                   refine wp_region_head (S := Cells [(gb, 13, .slice l91 LN1 l9c1), (w.heap.size, 0, .slice x0 TL x0c), (w.heap.size, 1, .slice x1 NF x1c), (w.heap.size, 2, .slice x2 NT x2c), (w.heap.size, 3, .slice x3 m.Data.length x3c), (w.heap.size, 4, .slice x4 m.Lines.length x4c), (w.heap.size, 5, .int .i64 m.Entry)]) 6 (by kernel_rfl) (by kernel_rfl) (by kernel_rfl) (by kernel_rfl) (by decide) (by kernel_rfl) ?hS35 (fun hHeld => ?_)
                   case hS35 => exact ⟨g13, v0, v1, v2, v3, v4, v5, trivial⟩
                   simp only [List.take_succ_cons, List.take_zero, List.drop_succ_cons, List.drop_zero]
                   refine takeC 0 hHeld ?_
                   refine takeC 1 hHeld ?_
                   refine takeC 2 hHeld ?_
                   refine takeC 3 hHeld ?_
                   refine wpAnyH_ready (rs := [4]) (by kernel_rfl) (by simp) ?_
                   refine AllReadyH.cons (o := ?or20) ?hr20 ?sr20 ?mr20
                   case hr20 => (simp only [List.getElem?_toArray, List.getElem?_cons_zero, List.getElem?_cons_succ]; try rfl)
                   case mr20 => exact AllReadyH.nil
                   case sr20 =>
                   intro K' hK
                   go_simp
                   go_at_call 25
                   refine HCALL.out.mono ?_
                   rintro e wz ⟨rfl, hkz⟩
                   refine hK.out _ _ (hHeld.keep hkz) (fun hHeld2 => ?_)
                   clear hK K' hHeld
                   have hHeld := hHeld2
                   clear hHeld2 HCALL
                   try simp only [Act.put, List.setIfInBounds_toArray, List.set_cons_zero, List.set_cons_succ]
                   have HKZ := Lib.hid (hd.trans hkz)
                   clear hkz hd g13 v0 v1 v2 v3 v4 v5
                   refine wpAnyH_ready (rs := [5]) (by kernel_rfl) (by simp) ?_
                   refine AllReadyH.cons (o := ?or29) ?hr29 ?sr29 ?mr29
                   case hr29 => (simp only [List.getElem?_toArray, List.getElem?_cons_zero, List.getElem?_cons_succ]; try rfl)
                   case mr29 => exact AllReadyH.nil
                   case sr29 =>
                   intro K hK
                   go_simp
                   refine hK.out _ _ (Cells.keep hHeld ((Keeps.refl _).alloc _)) (fun hHeld2 => ?_)
                   clear hK K hHeld
                   have hHeld := hHeld2
                   clear hHeld2
                   try simp only [Act.put, List.setIfInBounds_toArray, List.set_cons_zero, List.set_cons_succ]
                   refine wpAnyH_done (by kernel_rfl) ?_ _
                   dsimp only [TailQ]
                   clear hHeld
                   obtain ⟨LN2, hLN1⟩ : ∃ n, n = LN1 + 1 := ⟨_, rfl⟩
                   have HLAL := Lib.hid (show ((b.Lines ++ [LV]) ++ [LV]).length = LN2 by rw [List.length_append, List.length_singleton, hLN1, HLNN2.out])
                   clear hLN1
                   go_upto_region 88 with (at_builtin; refine wpList_pushes (by rfl) (.tmp 384) (.tmp 388) 25 (by rfl) Tryd.underlying25 info_int (by rfl) (by decide) (base := wa.heap.size) (f := ci) (l := (b.Lines ++ [LV])) (by rfl) (by exact (HC26.out.keep (HKZ.out.trans (by repeat (with_reducible (first | assumption | exact Keeps.refl _ | refine Keeps.alloc ?_ _ | refine Keeps.drew ?_))))).rows.2.2.1) [LV] _ _ (by rfl) (by exact Blk.top' _ _ (by first | rfl | simp)) ci_len ci_one (by simp only [List.length_cons, List.length_nil, ← HLNN2.out]; omega) (by simp only [List.length_cons, List.length_nil, ← HLNN2.out]; unfold maxLen; omega) (by have := HR26.out.size; have := HKZ.out.size; first | omega | (simp only [sz_alloc]; omega)) ?_; intro v7 w7 hown7 hbel7 hgr7 hfr7; obtain ⟨l92, l9c2, e7⟩ := own_form' hown7; rw [HLAL.out] at e7; subst e7; obtain ⟨c7, ht7, ho7⟩ := HC26.out.rows.2.2.push (HKZ.out.trans (by repeat (with_reducible (first | assumption | exact Keeps.refl _ | refine Keeps.alloc ?_ _ | refine Keeps.drew ?_ | refine Keeps.drewN ?_ _)))) hown7 hgr7 hfr7; have hb7 := HC26.out.blk.turn ht7 (by omega); have g13 : w7.cell? ⟨gb, 13, none⟩ = some (.slice l91 LN1 l9c1) := hb7.1.cell rfl; have f13 := hb7.1.thawed 13; have gl := hb7.1.lt)
                   obtain ⟨hC7, ht8⟩ := HC26.out.setLn (s7 := ⟨l92, LN2, l9c2⟩) ht7 ho7
                   obtain ⟨w27, hw27⟩ : ∃ w', w' = w7.setCell ⟨gb, 13, none⟩ (.slice l92 LN2 l9c2) := ⟨_, rfl⟩
                   rw [← hw27] at hC7 ht8
                   rw [← hw27]
                   have HC27 := Lib.hid hC7
                   have HT27 := Lib.hid (HT26.out.trans (ht8.mono (J := (fun z => z = 12 ∨ z = 13 ∨ z = 16 + 3 * NB ∨ z = 17 + 3 * NB ∨ z = 18 + 3 * NB)) fun z h => by omega))
                   have HQ27 := Lib.hid (HQ26.out.turn ht8 (by omega))
                   clear hC7 ht8 hw27 hb7 g13 f13 gl ht7 ho7 hown7 hbel7 hgr7 hfr7
                   have HCF := Lib.hid (HC27.out.cast (show _ = pbR m ⟨(at_ : Int), Z, ⟨K, D, A, B, N, Lg⟩⟩ b from by unfold pbR; rw [if_neg HNB4.out, if_neg HN22.out, if_pos HST.out]; rw [HLV.out, HPLN.out]))
                   go_wp2_with fail
                   go_roundw
                   case rel => exact ⟨kk + 1, Y, _, pbR m ⟨(at_ : Int), Z, ⟨K, D, A, B, N, Lg⟩⟩ b, _, by omega, by go_num, Lib.hid (by rw [HADR.out, HY.out]), HT27, HCF, HGN, Lib.hid (by have := HKGE.out; omega), HLEN⟩
                   case measure => simp [intOf]; omega
                  case neg =>
                  have hE0 := HEN00.out hst
                  subst hE0
                  have HST := Lib.hid hst
                  clear hst
                  obtain ⟨bz1, -, bz3, -, -⟩ := ownC_cell (HBGF.out.turn (HTo.out.trans (HT26.out.mono (J := (fun z => z = 4 ∨ z = 10 ∨ z = 12 ∨ z = 13 ∨ (16 ≤ z ∧ z < 100000))) fun z h => by omega)) (by omega)) (j := Y) (by simp; omega)
                  rw [nthRange (fun x : Nat => isL m x) (by omega)] at bz1
                  obtain ⟨BY, hBY⟩ : ∃ z, z = isL m Y := ⟨_, rfl⟩
                  rw [← hBY] at bz1
                  have bz1' : w26.cell? ⟨gB, Y, none⟩ = some (.bool BY) := bz1
                  have HBY := Lib.hid hBY
                  clear bz1 hBY
                  cases BY with
                  | false =>
                   have HNL : Hid (¬ isL m ((at_ : Int) + Z) = true) := Lib.hid (by rw [← HY.out, ← HBY.out]; decide)
                   have HCF := Lib.hid (HC26.out.cast (show _ = pbR m ⟨(at_ : Int), Z, ⟨K, D, A, B, N, Lg⟩⟩ b from by unfold pbR; rw [if_neg HNB4.out, if_neg HN22.out, if_neg HST.out, if_neg HNL.out]; rw [HLV.out, HPLN.out]))
                   go_wp2_with fail
                   go_roundw
                   case rel => exact ⟨kk + 1, Y, _, pbR m ⟨(at_ : Int), Z, ⟨K, D, A, B, N, Lg⟩⟩ b, _, by omega, by go_num, Lib.hid (by rw [HADR.out, HY.out]), HT26, HCF, HGN, Lib.hid (by have := HKGE.out; omega), HLEN⟩
                   case measure => simp [intOf]; omega
                  | true =>
                   have HNL : Hid (isL m ((at_ : Int) + Z) = true) := Lib.hid (by rw [← HY.out, ← HBY.out])
                   have hb7 := HC26.out.blk.1
                   have f10 := hb7.thawed 10
                   have gl := hb7.lt
                   have hsc := HC26.out.sc
                   go_upto_region 79 with fail
                   obtain ⟨hC27, ht27⟩ := HC26.out.put (r' := ⟨rF, rS, ⟨k9, CN1, k9c⟩, ⟨a9, AN1, a9c⟩, ⟨lK, lD, lA, lB, lN, lLg⟩, 2, rT, rL, ⟨l91, LN1, l9c1⟩⟩) (b' := { b with At := b.At ++ [(at_ : Int)], Lines := b.Lines ++ [LV], Ends := 2, Code := b.Code ++ [(⟨K, D, A, B, FA, Lg⟩ : Ic)] }) 10 (.int .i64 2) rfl ⟨hsc.1, hsc.2.1, hsc.2.2.1, rfl, hsc.2.2.2.2.1, hsc.2.2.2.2.2⟩ rfl rfl rfl rfl rfl rfl
                   obtain ⟨w27, hw27⟩ : ∃ w', w' = w26.setCell ⟨gb, 10, none⟩ (.int .i64 2) := ⟨_, rfl⟩
                   rw [← hw27] at hC27 ht27
                   rw [← hw27]
                   have HC27 := Lib.hid hC27
                   have HT27 := Lib.hid (HT26.out.trans (ht27.mono (J := (fun z => z = 12 ∨ z = 13 ∨ z = 16 + 3 * NB ∨ z = 17 + 3 * NB ∨ z = 18 + 3 * NB)) fun z h => by omega))
                   have HQ27 := Lib.hid (HQ26.out.turn ht27 (by omega))
                   clear hC27 ht27 hw27 hb7 e10 f10 gl hsc bz1' bz3
                   have hXN : Y < N1 := hYN
                   have hXz : (Y : Int) < (N1 : Int) := hYz
                   have hX := HY.out.symm
                   have wX := wY
                   obtain ⟨p1, -, p3, -, -⟩ := ownC_cell (HPF.out.turn ((HTo.out.trans (HT27.out.mono (J := (fun z => z = 4 ∨ z = 10 ∨ z = 12 ∨ z = 13 ∨ (16 ≤ z ∧ z < 100000))) fun z h => by omega))) (by omega)) (j := Y) (by rw [plArr_len]; exact hXN)
                   rw [HTL.out, plArr_all _ hXN] at p1
                   obtain ⟨PX28, hPX⟩ : ∃ z, z = plR m Y := ⟨_, rfl⟩
                   rw [← hPX] at p1
                   have p1' : w27.cell? ⟨gP, Y, none⟩ = some (.int .i64 PX28) := p1
                   have HPX28 : Hid (plR m ((at_ : Int) + Z) = PX28) := Lib.hid (by rw [hX, hPX])
                   have u0 : w27.cell? ⟨gq, 0, none⟩ = some (.int .i64 K) := (HQ27.out.1).cell rfl
                   have u1 : w27.cell? ⟨gq, 1, none⟩ = some (.int .i64 D) := (HQ27.out.1).cell rfl
                   have u2 : w27.cell? ⟨gq, 2, none⟩ = some (.int .i64 A) := (HQ27.out.1).cell rfl
                   have u3 : w27.cell? ⟨gq, 3, none⟩ = some (.int .i64 B) := (HQ27.out.1).cell rfl
                   have u4 : w27.cell? ⟨gq, 4, none⟩ = some (.int .i64 FA) := (HQ27.out.1).cell rfl
                   have u5 : w27.cell? ⟨gq, 5, none⟩ = some (.bool Lg) := (HQ27.out.1).cell rfl
                   have ul := (HQ27.out.1).lt
                   have hb7 := HC27.out.blk.1
                   have gx : w27.cell? ⟨gb, 11, none⟩ = some (.int .i64 rT) := hb7.cell rfl
                   have fx := hb7.thawed 11
                   have gl := hb7.lt
                   have hsc := HC27.out.sc
                   clear hX hPX p1
                   go_upto_region 80 with fail
                   obtain ⟨hC7, ht8⟩ := HC27.out.put (r' := ⟨rF, rS, ⟨k9, CN1, k9c⟩, ⟨a9, AN1, a9c⟩, ⟨lK, lD, lA, lB, lN, lLg⟩, 2, PX28, rL, ⟨l91, LN1, l9c1⟩⟩) (b' := { b with At := b.At ++ [(at_ : Int)], Lines := b.Lines ++ [LV], Ends := 2, Code := b.Code ++ [(⟨K, D, A, B, FA, Lg⟩ : Ic)] , To := PX28 }) 11 (.int .i64 PX28) rfl ⟨hsc.1, hsc.2.1, hsc.2.2.1, hsc.2.2.2.1, rfl, hsc.2.2.2.2.2⟩ rfl rfl rfl rfl rfl rfl
                   obtain ⟨w28, hw28⟩ : ∃ w', w' = w27.setCell ⟨gb, 11, none⟩ (.int .i64 PX28) := ⟨_, rfl⟩
                   rw [← hw28] at hC7 ht8
                   rw [← hw28]
                   have HC28 := Lib.hid hC7
                   have HT28 := Lib.hid (HT27.out.trans (ht8.mono (J := (fun z => z = 12 ∨ z = 13 ∨ z = 16 + 3 * NB ∨ z = 17 + 3 * NB ∨ z = 18 + 3 * NB)) fun z h => by omega))
                   have HQ28 := Lib.hid (HQ27.out.turn ht8 (by omega))
                   clear hC7 ht8 hw28 hb7 gx fx gl hsc wX p3 p1' hXz u0 u1 u2 u3 u4 u5 ul
                   have e10 : w28.cell? ⟨gb, 10, none⟩ = some (.int .i64 2) := HC28.out.blk.1.cell rfl
                   go_upto_region 81 with fail
                   clear e10
                   have hR28 : Keeps wa w28 := (HTG.out.trans ((HTo.out.trans (HT28.out.mono (J := (fun z => z = 4 ∨ z = 10 ∨ z = 12 ∨ z = 13 ∨ (16 ≤ z ∧ z < 100000))) fun z h => by omega)).mono (J := (fun z => z ≠ 0)) fun z h => by omega)).below (Nat.le_refl _) (fun _ _ => rfl) (fun q => q rfl)
                   have HR28 := Lib.hid hR28
                   clear hR28
                   have hd : Keeps w28 w28.drew := (Keeps.refl _).drew
                   have g13 : w28.drew.cell? ⟨gb, 13, none⟩ = some (.slice l91 LN1 l9c1) := HC28.out.cell rfl
                   have hMd := (HMA.out.keep HR28.out).keep hd
                   have v0 : w28.drew.cell? ⟨w.heap.size, 0, none⟩ = some (.slice x0 TL x0c) := hMd.cell rfl
                   have v1 : w28.drew.cell? ⟨w.heap.size, 1, none⟩ = some (.slice x1 NF x1c) := hMd.cell rfl
                   have v2 : w28.drew.cell? ⟨w.heap.size, 2, none⟩ = some (.slice x2 NT x2c) := hMd.cell rfl
                   have v3 : w28.drew.cell? ⟨w.heap.size, 3, none⟩ = some (.slice x3 m.Data.length x3c) := hMd.cell rfl
                   have v4 : w28.drew.cell? ⟨w.heap.size, 4, none⟩ = some (.slice x4 m.Lines.length x4c) := hMd.cell rfl
                   have v5 : w28.drew.cell? ⟨w.heap.size, 5, none⟩ = some (.int .i64 m.Entry) := hMd.cell rfl
                   have hcall := lineOf_any _ m (at_ : Int) _ (HIM.out.keep (HKWA.out.trans (HR28.out.trans hd)))
                   rw [HLV.out] at hcall
                   have HCALL := Lib.hid hcall
                   clear hMd hcall
                   refine wp_region_head (S := Cells [(gb, 13, .slice l91 LN1 l9c1), (w.heap.size, 0, .slice x0 TL x0c), (w.heap.size, 1, .slice x1 NF x1c), (w.heap.size, 2, .slice x2 NT x2c), (w.heap.size, 3, .slice x3 m.Data.length x3c), (w.heap.size, 4, .slice x4 m.Lines.length x4c), (w.heap.size, 5, .int .i64 m.Entry)]) 6 (by kernel_rfl) (by kernel_rfl) (by kernel_rfl) (by kernel_rfl) (by decide) (by kernel_rfl) ?hS36 (fun hHeld => ?_)
                   case hS36 => exact ⟨g13, v0, v1, v2, v3, v4, v5, trivial⟩
                   simp only [List.take_succ_cons, List.take_zero, List.drop_succ_cons, List.drop_zero]
                   refine takeC 0 hHeld ?_
                   refine takeC 1 hHeld ?_
                   refine takeC 2 hHeld ?_
                   refine takeC 3 hHeld ?_
                   refine wpAnyH_ready (rs := [4]) (by kernel_rfl) (by simp) ?_
                   refine AllReadyH.cons (o := ?or21) ?hr21 ?sr21 ?mr21
                   case hr21 => (simp only [List.getElem?_toArray, List.getElem?_cons_zero, List.getElem?_cons_succ]; try rfl)
                   case mr21 => exact AllReadyH.nil
                   case sr21 =>
                   intro K' hK
                   go_simp
                   go_at_call 25
                   refine HCALL.out.mono ?_
                   rintro e wz ⟨rfl, hkz⟩
                   refine hK.out _ _ (hHeld.keep hkz) (fun hHeld2 => ?_)
                   clear hK K' hHeld
                   have hHeld := hHeld2
                   clear hHeld2 HCALL
                   try simp only [Act.put, List.setIfInBounds_toArray, List.set_cons_zero, List.set_cons_succ]
                   have HKZ := Lib.hid (hd.trans hkz)
                   clear hkz hd g13 v0 v1 v2 v3 v4 v5
                   refine wpAnyH_ready (rs := [5]) (by kernel_rfl) (by simp) ?_
                   refine AllReadyH.cons (o := ?or30) ?hr30 ?sr30 ?mr30
                   case hr30 => (simp only [List.getElem?_toArray, List.getElem?_cons_zero, List.getElem?_cons_succ]; try rfl)
                   case mr30 => exact AllReadyH.nil
                   case sr30 =>
                   intro K hK
                   go_simp
                   refine hK.out _ _ (Cells.keep hHeld ((Keeps.refl _).alloc _)) (fun hHeld2 => ?_)
                   clear hK K hHeld
                   have hHeld := hHeld2
                   clear hHeld2
                   try simp only [Act.put, List.setIfInBounds_toArray, List.set_cons_zero, List.set_cons_succ]
                   refine wpAnyH_done (by kernel_rfl) ?_ _
                   dsimp only [TailQ]
                   clear hHeld
                   obtain ⟨LN2, hLN1⟩ : ∃ n, n = LN1 + 1 := ⟨_, rfl⟩
                   have HLAL := Lib.hid (show ((b.Lines ++ [LV]) ++ [LV]).length = LN2 by rw [List.length_append, List.length_singleton, hLN1, HLNN2.out])
                   clear hLN1
                   go_upto_region 88 with (at_builtin; refine wpList_pushes (by rfl) (.tmp 384) (.tmp 388) 25 (by rfl) Tryd.underlying25 info_int (by rfl) (by decide) (base := wa.heap.size) (f := ci) (l := (b.Lines ++ [LV])) (by rfl) (by exact (HC28.out.keep (HKZ.out.trans (by repeat (with_reducible (first | assumption | exact Keeps.refl _ | refine Keeps.alloc ?_ _ | refine Keeps.drew ?_))))).rows.2.2.1) [LV] _ _ (by rfl) (by exact Blk.top' _ _ (by first | rfl | simp)) ci_len ci_one (by simp only [List.length_cons, List.length_nil, ← HLNN2.out]; omega) (by simp only [List.length_cons, List.length_nil, ← HLNN2.out]; unfold maxLen; omega) (by have := HR28.out.size; have := HKZ.out.size; first | omega | (simp only [sz_alloc]; omega)) ?_; intro v7 w7 hown7 hbel7 hgr7 hfr7; obtain ⟨l92, l9c2, e7⟩ := own_form' hown7; rw [HLAL.out] at e7; subst e7; obtain ⟨c7, ht7, ho7⟩ := HC28.out.rows.2.2.push (HKZ.out.trans (by repeat (with_reducible (first | assumption | exact Keeps.refl _ | refine Keeps.alloc ?_ _ | refine Keeps.drew ?_ | refine Keeps.drewN ?_ _)))) hown7 hgr7 hfr7; have hb7 := HC28.out.blk.turn ht7 (by omega); have g13 : w7.cell? ⟨gb, 13, none⟩ = some (.slice l91 LN1 l9c1) := hb7.1.cell rfl; have f13 := hb7.1.thawed 13; have gl := hb7.1.lt)
                   obtain ⟨hC7, ht8⟩ := HC28.out.setLn (s7 := ⟨l92, LN2, l9c2⟩) ht7 ho7
                   obtain ⟨w29, hw29⟩ : ∃ w', w' = w7.setCell ⟨gb, 13, none⟩ (.slice l92 LN2 l9c2) := ⟨_, rfl⟩
                   rw [← hw29] at hC7 ht8
                   rw [← hw29]
                   have HC29 := Lib.hid hC7
                   have HT29 := Lib.hid (HT28.out.trans (ht8.mono (J := (fun z => z = 12 ∨ z = 13 ∨ z = 16 + 3 * NB ∨ z = 17 + 3 * NB ∨ z = 18 + 3 * NB)) fun z h => by omega))
                   have HQ29 := Lib.hid (HQ28.out.turn ht8 (by omega))
                   clear hC7 ht8 hw29 hb7 g13 f13 gl ht7 ho7 hown7 hbel7 hgr7 hfr7
                   have HCF := Lib.hid (HC29.out.cast (show _ = pbR m ⟨(at_ : Int), Z, ⟨K, D, A, B, N, Lg⟩⟩ b from by unfold pbR; rw [if_neg HNB4.out, if_neg HN22.out, if_neg HST.out, if_pos HNL.out]; rw [HLV.out, HPLN.out]; dsimp only; rw [HPX28.out]))
                   go_wp2_with fail
                   go_roundw
                   case rel => exact ⟨kk + 1, Y, _, pbR m ⟨(at_ : Int), Z, ⟨K, D, A, B, N, Lg⟩⟩ b, _, by omega, by go_num, Lib.hid (by rw [HADR.out, HY.out]), HT29, HCF, HGN, Lib.hid (by have := HKGE.out; omega), HLEN⟩
                   case measure => simp [intOf]; omega
                 case neg =>
                  as_aux_lemma =>
                  have tk : (K == 23) = false := by simpa using hk23
                  have HPLN : Hid (plainI m ⟨(at_ : Int), Z, ⟨K, D, A, B, N, Lg⟩⟩ = (⟨K, D, A, B, N, Lg⟩ : Ic)) := Lib.hid (by unfold plainI; rw [if_neg hk23]; rfl)
                  clear hk23
                  have e10 : w24.cell? ⟨gb, 10, none⟩ = some (.int .i64 EN) := HC24.out.blk.1.cell rfl
                  have u0 : w24.cell? ⟨gq, 0, none⟩ = some (.int .i64 K) := (HQ24.out.1).cell rfl
                  have u1 : w24.cell? ⟨gq, 1, none⟩ = some (.int .i64 D) := (HQ24.out.1).cell rfl
                  have u2 : w24.cell? ⟨gq, 2, none⟩ = some (.int .i64 A) := (HQ24.out.1).cell rfl
                  have u3 : w24.cell? ⟨gq, 3, none⟩ = some (.int .i64 B) := (HQ24.out.1).cell rfl
                  have u4 : w24.cell? ⟨gq, 4, none⟩ = some (.int .i64 N) := (HQ24.out.1).cell rfl
                  have u5 : w24.cell? ⟨gq, 5, none⟩ = some (.bool Lg) := (HQ24.out.1).cell rfl
                  have ul := (HQ24.out.1).lt
                  go_upto_region 76 with fail
                  clear tk e10 u0 u1 u2 u3 u4 u5 ul
                  have u0 : w24.cell? ⟨gq, 0, none⟩ = some (.int .i64 K) := (HQ24.out.1).cell rfl
                  have u1 : w24.cell? ⟨gq, 1, none⟩ = some (.int .i64 D) := (HQ24.out.1).cell rfl
                  have u2 : w24.cell? ⟨gq, 2, none⟩ = some (.int .i64 A) := (HQ24.out.1).cell rfl
                  have u3 : w24.cell? ⟨gq, 3, none⟩ = some (.int .i64 B) := (HQ24.out.1).cell rfl
                  have u4 : w24.cell? ⟨gq, 4, none⟩ = some (.int .i64 N) := (HQ24.out.1).cell rfl
                  have u5 : w24.cell? ⟨gq, 5, none⟩ = some (.bool Lg) := (HQ24.out.1).cell rfl
                  have ul := (HQ24.out.1).lt
                  have hb7 := HC24.out.blk.1
                  have e2 : w24.cell? ⟨gb, 2, none⟩ = some (.slice ca cn cc0) := hb7.cell rfl
                  obtain ⟨CN1, hCN1⟩ : ∃ n, n = cn + 1 := ⟨_, rfl⟩
                  have HLAC := Lib.hid (show (b.Code ++ [(⟨K, D, A, B, N, Lg⟩ : Ic)]).length = CN1 by rw [List.length_append, List.length_singleton, hCN1, HCNN.out])
                  clear hCN1 hb7
                  have hR24 : Keeps wa w24 := (HTG.out.trans ((HTo.out.trans (HT24.out.mono (J := (fun z => z = 4 ∨ z = 10 ∨ z = 12 ∨ z = 13 ∨ (16 ≤ z ∧ z < 100000))) fun z h => by omega)).mono (J := (fun z => z ≠ 0)) fun z h => by omega)).below (Nat.le_refl _) (fun _ _ => rfl) (fun q => q rfl)
                  have HR24 := Lib.hid hR24
                  clear hR24
                  go_upto_region 77 with (first | ((with_reducible show wpList _ _ _ (_ :: _) _ _); refine wpList_loadIns (by rfl) (.tmp 27) (by rfl) (by rfl) HQ24.out.1 ?_) | ((with_reducible show wpList _ _ _ (_ :: _) _ _); refine wpList_makeIns (by rfl) 357 (by rfl) (by rfl) ?_) | (at_builtin; refine wpList_pushes (by rfl) (.tmp 356) (.tmp 358) 75 (by rfl) Tryd.underlying75 info_instr (by rfl) (by decide) (base := wa.heap.size) (f := cic) (l := b.Code) (by rfl) (by exact (HC24.out.keep (by repeat (with_reducible (first | assumption | exact Keeps.refl _ | refine Keeps.alloc ?_ _ | refine Keeps.drew ?_ | refine Keeps.drewN ?_ _)))).rows.1.1) [⟨K, D, A, B, N, Lg⟩] _ _ (by rfl) (by exact Blk.top' _ _ (by first | rfl | simp)) cic_len cic_one (by simp only [List.length_cons, List.length_nil, ← HCNN.out]; omega) (by simp only [List.length_cons, List.length_nil, ← HCNN.out]; unfold maxLen; omega) (by have := HR24.out.size; first | omega | (simp only [sz_alloc]; omega)) ?_; intro v7 w7 hown7 hbel7 hgr7 hfr7; obtain ⟨k9, k9c, e7⟩ := own_form' hown7; rw [HLAC.out] at e7; subst e7; obtain ⟨c7, ht7, ho7⟩ := HC24.out.rows.1.push (show Keeps w24 _ from (by repeat (with_reducible (first | assumption | exact Keeps.refl _ | refine Keeps.alloc ?_ _ | refine Keeps.drew ?_ | refine Keeps.drewN ?_ _)))) hown7 hgr7 hfr7; have hb7 := HC24.out.blk.turn ht7 (by omega); have g2 : w7.cell? ⟨gb, 2, none⟩ = some (.slice ca cn cc0) := hb7.1.cell rfl; have f2 := hb7.1.thawed 2; have gl := hb7.1.lt))
                  obtain ⟨hC7, ht8⟩ := HC24.out.setCode (s7 := ⟨k9, CN1, k9c⟩) ht7 ho7
                  obtain ⟨w26, hw26⟩ : ∃ w', w' = w7.setCell ⟨gb, 2, none⟩ (.slice k9 CN1 k9c) := ⟨_, rfl⟩
                  rw [← hw26] at hC7 ht8
                  rw [← hw26]
                  have HC26 := Lib.hid hC7
                  have HT26 := Lib.hid (HT24.out.trans (ht8.mono (J := (fun z => z = 12 ∨ z = 13 ∨ z = 16 + 3 * NB ∨ z = 17 + 3 * NB ∨ z = 18 + 3 * NB)) fun z h => by omega))
                  have HQ26 := Lib.hid (HQ24.out.turn ht8 (by omega))
                  clear hC7 ht8 hw26 hb7 g2 f2 gl ht7 ho7 hown7 hbel7 hgr7 hfr7 e2 u0 u1 u2 u3 u4 u5 ul
                  have hLn2 : LN1 = (b.Lines ++ [LV]).length := HLN1E.out
                  have HLNN2 := Lib.hid hLn2
                  have hLn1b : LN1 ≤ 10000 := by have := HLENB.out.2.2; rw [hLn2, List.length_append, List.length_singleton]; omega
                  clear hLn2
                  have e10 : w26.cell? ⟨gb, 10, none⟩ = some (.int .i64 EN) := HC26.out.blk.1.cell rfl
                  by_cases hst : stN K = true
                  case pos =>
                   have hE1 := HEN1.out hst
                   subst hE1
                   have HST := Lib.hid hst
                   clear hst
                   go_upto_region 81 with fail
                   clear e10
                   have hR26 : Keeps wa w26 := (HTG.out.trans ((HTo.out.trans (HT26.out.mono (J := (fun z => z = 4 ∨ z = 10 ∨ z = 12 ∨ z = 13 ∨ (16 ≤ z ∧ z < 100000))) fun z h => by omega)).mono (J := (fun z => z ≠ 0)) fun z h => by omega)).below (Nat.le_refl _) (fun _ _ => rfl) (fun q => q rfl)
                   have HR26 := Lib.hid hR26
                   clear hR26
                   have hd : Keeps w26 w26.drew := (Keeps.refl _).drew
                   have g13 : w26.drew.cell? ⟨gb, 13, none⟩ = some (.slice l91 LN1 l9c1) := HC26.out.cell rfl
                   have hMd := (HMA.out.keep HR26.out).keep hd
                   have v0 : w26.drew.cell? ⟨w.heap.size, 0, none⟩ = some (.slice x0 TL x0c) := hMd.cell rfl
                   have v1 : w26.drew.cell? ⟨w.heap.size, 1, none⟩ = some (.slice x1 NF x1c) := hMd.cell rfl
                   have v2 : w26.drew.cell? ⟨w.heap.size, 2, none⟩ = some (.slice x2 NT x2c) := hMd.cell rfl
                   have v3 : w26.drew.cell? ⟨w.heap.size, 3, none⟩ = some (.slice x3 m.Data.length x3c) := hMd.cell rfl
                   have v4 : w26.drew.cell? ⟨w.heap.size, 4, none⟩ = some (.slice x4 m.Lines.length x4c) := hMd.cell rfl
                   have v5 : w26.drew.cell? ⟨w.heap.size, 5, none⟩ = some (.int .i64 m.Entry) := hMd.cell rfl
                   have hcall := lineOf_any _ m (at_ : Int) _ (HIM.out.keep (HKWA.out.trans (HR26.out.trans hd)))
                   rw [HLV.out] at hcall
                   have HCALL := Lib.hid hcall
                   clear hMd hcall
                   refine wp_region_head (S := Cells [(gb, 13, .slice l91 LN1 l9c1), (w.heap.size, 0, .slice x0 TL x0c), (w.heap.size, 1, .slice x1 NF x1c), (w.heap.size, 2, .slice x2 NT x2c), (w.heap.size, 3, .slice x3 m.Data.length x3c), (w.heap.size, 4, .slice x4 m.Lines.length x4c), (w.heap.size, 5, .int .i64 m.Entry)]) 6 (by kernel_rfl) (by kernel_rfl) (by kernel_rfl) (by kernel_rfl) (by decide) (by kernel_rfl) ?hS37 (fun hHeld => ?_)
                   case hS37 => exact ⟨g13, v0, v1, v2, v3, v4, v5, trivial⟩
                   simp only [List.take_succ_cons, List.take_zero, List.drop_succ_cons, List.drop_zero]
                   refine takeC 0 hHeld ?_
                   refine takeC 1 hHeld ?_
                   refine takeC 2 hHeld ?_
                   refine takeC 3 hHeld ?_
                   refine wpAnyH_ready (rs := [4]) (by kernel_rfl) (by simp) ?_
                   refine AllReadyH.cons (o := ?or22) ?hr22 ?sr22 ?mr22
                   case hr22 => (simp only [List.getElem?_toArray, List.getElem?_cons_zero, List.getElem?_cons_succ]; try rfl)
                   case mr22 => exact AllReadyH.nil
                   case sr22 =>
                   intro K' hK
                   go_simp
                   go_at_call 25
                   refine HCALL.out.mono ?_
                   rintro e wz ⟨rfl, hkz⟩
                   refine hK.out _ _ (hHeld.keep hkz) (fun hHeld2 => ?_)
                   clear hK K' hHeld
                   have hHeld := hHeld2
                   clear hHeld2 HCALL
                   try simp only [Act.put, List.setIfInBounds_toArray, List.set_cons_zero, List.set_cons_succ]
                   have HKZ := Lib.hid (hd.trans hkz)
                   clear hkz hd g13 v0 v1 v2 v3 v4 v5
                   refine wpAnyH_ready (rs := [5]) (by kernel_rfl) (by simp) ?_
                   refine AllReadyH.cons (o := ?or31) ?hr31 ?sr31 ?mr31
                   case hr31 => (simp only [List.getElem?_toArray, List.getElem?_cons_zero, List.getElem?_cons_succ]; try rfl)
                   case mr31 => exact AllReadyH.nil
                   case sr31 =>
                   intro K hK
                   go_simp
                   refine hK.out _ _ (Cells.keep hHeld ((Keeps.refl _).alloc _)) (fun hHeld2 => ?_)
                   clear hK K hHeld
                   have hHeld := hHeld2
                   clear hHeld2
                   try simp only [Act.put, List.setIfInBounds_toArray, List.set_cons_zero, List.set_cons_succ]
                   refine wpAnyH_done (by kernel_rfl) ?_ _
                   dsimp only [TailQ]
                   clear hHeld
                   obtain ⟨LN2, hLN1⟩ : ∃ n, n = LN1 + 1 := ⟨_, rfl⟩
                   have HLAL := Lib.hid (show ((b.Lines ++ [LV]) ++ [LV]).length = LN2 by rw [List.length_append, List.length_singleton, hLN1, HLNN2.out])
                   clear hLN1
                   go_upto_region 88 with (at_builtin; refine wpList_pushes (by rfl) (.tmp 384) (.tmp 388) 25 (by rfl) Tryd.underlying25 info_int (by rfl) (by decide) (base := wa.heap.size) (f := ci) (l := (b.Lines ++ [LV])) (by rfl) (by exact (HC26.out.keep (HKZ.out.trans (by repeat (with_reducible (first | assumption | exact Keeps.refl _ | refine Keeps.alloc ?_ _ | refine Keeps.drew ?_))))).rows.2.2.1) [LV] _ _ (by rfl) (by exact Blk.top' _ _ (by first | rfl | simp)) ci_len ci_one (by simp only [List.length_cons, List.length_nil, ← HLNN2.out]; omega) (by simp only [List.length_cons, List.length_nil, ← HLNN2.out]; unfold maxLen; omega) (by have := HR26.out.size; have := HKZ.out.size; first | omega | (simp only [sz_alloc]; omega)) ?_; intro v7 w7 hown7 hbel7 hgr7 hfr7; obtain ⟨l92, l9c2, e7⟩ := own_form' hown7; rw [HLAL.out] at e7; subst e7; obtain ⟨c7, ht7, ho7⟩ := HC26.out.rows.2.2.push (HKZ.out.trans (by repeat (with_reducible (first | assumption | exact Keeps.refl _ | refine Keeps.alloc ?_ _ | refine Keeps.drew ?_ | refine Keeps.drewN ?_ _)))) hown7 hgr7 hfr7; have hb7 := HC26.out.blk.turn ht7 (by omega); have g13 : w7.cell? ⟨gb, 13, none⟩ = some (.slice l91 LN1 l9c1) := hb7.1.cell rfl; have f13 := hb7.1.thawed 13; have gl := hb7.1.lt)
                   obtain ⟨hC7, ht8⟩ := HC26.out.setLn (s7 := ⟨l92, LN2, l9c2⟩) ht7 ho7
                   obtain ⟨w27, hw27⟩ : ∃ w', w' = w7.setCell ⟨gb, 13, none⟩ (.slice l92 LN2 l9c2) := ⟨_, rfl⟩
                   rw [← hw27] at hC7 ht8
                   rw [← hw27]
                   have HC27 := Lib.hid hC7
                   have HT27 := Lib.hid (HT26.out.trans (ht8.mono (J := (fun z => z = 12 ∨ z = 13 ∨ z = 16 + 3 * NB ∨ z = 17 + 3 * NB ∨ z = 18 + 3 * NB)) fun z h => by omega))
                   have HQ27 := Lib.hid (HQ26.out.turn ht8 (by omega))
                   clear hC7 ht8 hw27 hb7 g13 f13 gl ht7 ho7 hown7 hbel7 hgr7 hfr7
                   have HCF := Lib.hid (HC27.out.cast (show _ = pbR m ⟨(at_ : Int), Z, ⟨K, D, A, B, N, Lg⟩⟩ b from by unfold pbR; rw [if_neg HNB4.out, if_neg HN22.out, if_pos HST.out]; rw [HLV.out, HPLN.out]))
                   go_wp2_with fail
                   go_roundw
                   case rel => exact ⟨kk + 1, Y, _, pbR m ⟨(at_ : Int), Z, ⟨K, D, A, B, N, Lg⟩⟩ b, _, by omega, by go_num, Lib.hid (by rw [HADR.out, HY.out]), HT27, HCF, HGN, Lib.hid (by have := HKGE.out; omega), HLEN⟩
                   case measure => simp [intOf]; omega
                  case neg =>
                  have hE0 := HEN00.out hst
                  subst hE0
                  have HST := Lib.hid hst
                  clear hst
                  obtain ⟨bz1, -, bz3, -, -⟩ := ownC_cell (HBGF.out.turn (HTo.out.trans (HT26.out.mono (J := (fun z => z = 4 ∨ z = 10 ∨ z = 12 ∨ z = 13 ∨ (16 ≤ z ∧ z < 100000))) fun z h => by omega)) (by omega)) (j := Y) (by simp; omega)
                  rw [nthRange (fun x : Nat => isL m x) (by omega)] at bz1
                  obtain ⟨BY, hBY⟩ : ∃ z, z = isL m Y := ⟨_, rfl⟩
                  rw [← hBY] at bz1
                  have bz1' : w26.cell? ⟨gB, Y, none⟩ = some (.bool BY) := bz1
                  have HBY := Lib.hid hBY
                  clear bz1 hBY
                  cases BY with
                  | false =>
                   have HNL : Hid (¬ isL m ((at_ : Int) + Z) = true) := Lib.hid (by rw [← HY.out, ← HBY.out]; decide)
                   have HCF := Lib.hid (HC26.out.cast (show _ = pbR m ⟨(at_ : Int), Z, ⟨K, D, A, B, N, Lg⟩⟩ b from by unfold pbR; rw [if_neg HNB4.out, if_neg HN22.out, if_neg HST.out, if_neg HNL.out]; rw [HLV.out, HPLN.out]))
                   go_wp2_with fail
                   go_roundw
                   case rel => exact ⟨kk + 1, Y, _, pbR m ⟨(at_ : Int), Z, ⟨K, D, A, B, N, Lg⟩⟩ b, _, by omega, by go_num, Lib.hid (by rw [HADR.out, HY.out]), HT26, HCF, HGN, Lib.hid (by have := HKGE.out; omega), HLEN⟩
                   case measure => simp [intOf]; omega
                  | true =>
                   have HNL : Hid (isL m ((at_ : Int) + Z) = true) := Lib.hid (by rw [← HY.out, ← HBY.out])
                   have hb7 := HC26.out.blk.1
                   have f10 := hb7.thawed 10
                   have gl := hb7.lt
                   have hsc := HC26.out.sc
                   go_upto_region 79 with fail
                   obtain ⟨hC27, ht27⟩ := HC26.out.put (r' := ⟨rF, rS, ⟨k9, CN1, k9c⟩, ⟨a9, AN1, a9c⟩, ⟨lK, lD, lA, lB, lN, lLg⟩, 2, rT, rL, ⟨l91, LN1, l9c1⟩⟩) (b' := { b with At := b.At ++ [(at_ : Int)], Lines := b.Lines ++ [LV], Ends := 2, Code := b.Code ++ [(⟨K, D, A, B, N, Lg⟩ : Ic)] }) 10 (.int .i64 2) rfl ⟨hsc.1, hsc.2.1, hsc.2.2.1, rfl, hsc.2.2.2.2.1, hsc.2.2.2.2.2⟩ rfl rfl rfl rfl rfl rfl
                   obtain ⟨w27, hw27⟩ : ∃ w', w' = w26.setCell ⟨gb, 10, none⟩ (.int .i64 2) := ⟨_, rfl⟩
                   rw [← hw27] at hC27 ht27
                   rw [← hw27]
                   have HC27 := Lib.hid hC27
                   have HT27 := Lib.hid (HT26.out.trans (ht27.mono (J := (fun z => z = 12 ∨ z = 13 ∨ z = 16 + 3 * NB ∨ z = 17 + 3 * NB ∨ z = 18 + 3 * NB)) fun z h => by omega))
                   have HQ27 := Lib.hid (HQ26.out.turn ht27 (by omega))
                   clear hC27 ht27 hw27 hb7 e10 f10 gl hsc bz1' bz3
                   have hXN : Y < N1 := hYN
                   have hXz : (Y : Int) < (N1 : Int) := hYz
                   have hX := HY.out.symm
                   have wX := wY
                   obtain ⟨p1, -, p3, -, -⟩ := ownC_cell (HPF.out.turn ((HTo.out.trans (HT27.out.mono (J := (fun z => z = 4 ∨ z = 10 ∨ z = 12 ∨ z = 13 ∨ (16 ≤ z ∧ z < 100000))) fun z h => by omega))) (by omega)) (j := Y) (by rw [plArr_len]; exact hXN)
                   rw [HTL.out, plArr_all _ hXN] at p1
                   obtain ⟨PX28, hPX⟩ : ∃ z, z = plR m Y := ⟨_, rfl⟩
                   rw [← hPX] at p1
                   have p1' : w27.cell? ⟨gP, Y, none⟩ = some (.int .i64 PX28) := p1
                   have HPX28 : Hid (plR m ((at_ : Int) + Z) = PX28) := Lib.hid (by rw [hX, hPX])
                   have u0 : w27.cell? ⟨gq, 0, none⟩ = some (.int .i64 K) := (HQ27.out.1).cell rfl
                   have u1 : w27.cell? ⟨gq, 1, none⟩ = some (.int .i64 D) := (HQ27.out.1).cell rfl
                   have u2 : w27.cell? ⟨gq, 2, none⟩ = some (.int .i64 A) := (HQ27.out.1).cell rfl
                   have u3 : w27.cell? ⟨gq, 3, none⟩ = some (.int .i64 B) := (HQ27.out.1).cell rfl
                   have u4 : w27.cell? ⟨gq, 4, none⟩ = some (.int .i64 N) := (HQ27.out.1).cell rfl
                   have u5 : w27.cell? ⟨gq, 5, none⟩ = some (.bool Lg) := (HQ27.out.1).cell rfl
                   have ul := (HQ27.out.1).lt
                   have hb7 := HC27.out.blk.1
                   have gx : w27.cell? ⟨gb, 11, none⟩ = some (.int .i64 rT) := hb7.cell rfl
                   have fx := hb7.thawed 11
                   have gl := hb7.lt
                   have hsc := HC27.out.sc
                   clear hX hPX p1
                   go_upto_region 80 with fail
                   obtain ⟨hC7, ht8⟩ := HC27.out.put (r' := ⟨rF, rS, ⟨k9, CN1, k9c⟩, ⟨a9, AN1, a9c⟩, ⟨lK, lD, lA, lB, lN, lLg⟩, 2, PX28, rL, ⟨l91, LN1, l9c1⟩⟩) (b' := { b with At := b.At ++ [(at_ : Int)], Lines := b.Lines ++ [LV], Ends := 2, Code := b.Code ++ [(⟨K, D, A, B, N, Lg⟩ : Ic)] , To := PX28 }) 11 (.int .i64 PX28) rfl ⟨hsc.1, hsc.2.1, hsc.2.2.1, hsc.2.2.2.1, rfl, hsc.2.2.2.2.2⟩ rfl rfl rfl rfl rfl rfl
                   obtain ⟨w28, hw28⟩ : ∃ w', w' = w27.setCell ⟨gb, 11, none⟩ (.int .i64 PX28) := ⟨_, rfl⟩
                   rw [← hw28] at hC7 ht8
                   rw [← hw28]
                   have HC28 := Lib.hid hC7
                   have HT28 := Lib.hid (HT27.out.trans (ht8.mono (J := (fun z => z = 12 ∨ z = 13 ∨ z = 16 + 3 * NB ∨ z = 17 + 3 * NB ∨ z = 18 + 3 * NB)) fun z h => by omega))
                   have HQ28 := Lib.hid (HQ27.out.turn ht8 (by omega))
                   clear hC7 ht8 hw28 hb7 gx fx gl hsc wX p3 p1' hXz u0 u1 u2 u3 u4 u5 ul
                   have e10 : w28.cell? ⟨gb, 10, none⟩ = some (.int .i64 2) := HC28.out.blk.1.cell rfl
                   go_upto_region 81 with fail
                   clear e10
                   have hR28 : Keeps wa w28 := (HTG.out.trans ((HTo.out.trans (HT28.out.mono (J := (fun z => z = 4 ∨ z = 10 ∨ z = 12 ∨ z = 13 ∨ (16 ≤ z ∧ z < 100000))) fun z h => by omega)).mono (J := (fun z => z ≠ 0)) fun z h => by omega)).below (Nat.le_refl _) (fun _ _ => rfl) (fun q => q rfl)
                   have HR28 := Lib.hid hR28
                   clear hR28
                   have hd : Keeps w28 w28.drew := (Keeps.refl _).drew
                   have g13 : w28.drew.cell? ⟨gb, 13, none⟩ = some (.slice l91 LN1 l9c1) := HC28.out.cell rfl
                   have hMd := (HMA.out.keep HR28.out).keep hd
                   have v0 : w28.drew.cell? ⟨w.heap.size, 0, none⟩ = some (.slice x0 TL x0c) := hMd.cell rfl
                   have v1 : w28.drew.cell? ⟨w.heap.size, 1, none⟩ = some (.slice x1 NF x1c) := hMd.cell rfl
                   have v2 : w28.drew.cell? ⟨w.heap.size, 2, none⟩ = some (.slice x2 NT x2c) := hMd.cell rfl
                   have v3 : w28.drew.cell? ⟨w.heap.size, 3, none⟩ = some (.slice x3 m.Data.length x3c) := hMd.cell rfl
                   have v4 : w28.drew.cell? ⟨w.heap.size, 4, none⟩ = some (.slice x4 m.Lines.length x4c) := hMd.cell rfl
                   have v5 : w28.drew.cell? ⟨w.heap.size, 5, none⟩ = some (.int .i64 m.Entry) := hMd.cell rfl
                   have hcall := lineOf_any _ m (at_ : Int) _ (HIM.out.keep (HKWA.out.trans (HR28.out.trans hd)))
                   rw [HLV.out] at hcall
                   have HCALL := Lib.hid hcall
                   clear hMd hcall
                   refine wp_region_head (S := Cells [(gb, 13, .slice l91 LN1 l9c1), (w.heap.size, 0, .slice x0 TL x0c), (w.heap.size, 1, .slice x1 NF x1c), (w.heap.size, 2, .slice x2 NT x2c), (w.heap.size, 3, .slice x3 m.Data.length x3c), (w.heap.size, 4, .slice x4 m.Lines.length x4c), (w.heap.size, 5, .int .i64 m.Entry)]) 6 (by kernel_rfl) (by kernel_rfl) (by kernel_rfl) (by kernel_rfl) (by decide) (by kernel_rfl) ?hS38 (fun hHeld => ?_)
                   case hS38 => exact ⟨g13, v0, v1, v2, v3, v4, v5, trivial⟩
                   simp only [List.take_succ_cons, List.take_zero, List.drop_succ_cons, List.drop_zero]
                   refine takeC 0 hHeld ?_
                   refine takeC 1 hHeld ?_
                   refine takeC 2 hHeld ?_
                   refine takeC 3 hHeld ?_
                   refine wpAnyH_ready (rs := [4]) (by kernel_rfl) (by simp) ?_
                   refine AllReadyH.cons (o := ?or23) ?hr23 ?sr23 ?mr23
                   case hr23 => (simp only [List.getElem?_toArray, List.getElem?_cons_zero, List.getElem?_cons_succ]; try rfl)
                   case mr23 => exact AllReadyH.nil
                   case sr23 =>
                   intro K' hK
                   go_simp
                   go_at_call 25
                   refine HCALL.out.mono ?_
                   rintro e wz ⟨rfl, hkz⟩
                   refine hK.out _ _ (hHeld.keep hkz) (fun hHeld2 => ?_)
                   clear hK K' hHeld
                   have hHeld := hHeld2
                   clear hHeld2 HCALL
                   try simp only [Act.put, List.setIfInBounds_toArray, List.set_cons_zero, List.set_cons_succ]
                   have HKZ := Lib.hid (hd.trans hkz)
                   clear hkz hd g13 v0 v1 v2 v3 v4 v5
                   refine wpAnyH_ready (rs := [5]) (by kernel_rfl) (by simp) ?_
                   refine AllReadyH.cons (o := ?or32) ?hr32 ?sr32 ?mr32
                   case hr32 => (simp only [List.getElem?_toArray, List.getElem?_cons_zero, List.getElem?_cons_succ]; try rfl)
                   case mr32 => exact AllReadyH.nil
                   case sr32 =>
                   intro K hK
                   go_simp
                   refine hK.out _ _ (Cells.keep hHeld ((Keeps.refl _).alloc _)) (fun hHeld2 => ?_)
                   clear hK K hHeld
                   have hHeld := hHeld2
                   clear hHeld2
                   try simp only [Act.put, List.setIfInBounds_toArray, List.set_cons_zero, List.set_cons_succ]
                   refine wpAnyH_done (by kernel_rfl) ?_ _
                   dsimp only [TailQ]
                   clear hHeld
                   obtain ⟨LN2, hLN1⟩ : ∃ n, n = LN1 + 1 := ⟨_, rfl⟩
                   have HLAL := Lib.hid (show ((b.Lines ++ [LV]) ++ [LV]).length = LN2 by rw [List.length_append, List.length_singleton, hLN1, HLNN2.out])
                   clear hLN1
                   go_upto_region 88 with (at_builtin; refine wpList_pushes (by rfl) (.tmp 384) (.tmp 388) 25 (by rfl) Tryd.underlying25 info_int (by rfl) (by decide) (base := wa.heap.size) (f := ci) (l := (b.Lines ++ [LV])) (by rfl) (by exact (HC28.out.keep (HKZ.out.trans (by repeat (with_reducible (first | assumption | exact Keeps.refl _ | refine Keeps.alloc ?_ _ | refine Keeps.drew ?_))))).rows.2.2.1) [LV] _ _ (by rfl) (by exact Blk.top' _ _ (by first | rfl | simp)) ci_len ci_one (by simp only [List.length_cons, List.length_nil, ← HLNN2.out]; omega) (by simp only [List.length_cons, List.length_nil, ← HLNN2.out]; unfold maxLen; omega) (by have := HR28.out.size; have := HKZ.out.size; first | omega | (simp only [sz_alloc]; omega)) ?_; intro v7 w7 hown7 hbel7 hgr7 hfr7; obtain ⟨l92, l9c2, e7⟩ := own_form' hown7; rw [HLAL.out] at e7; subst e7; obtain ⟨c7, ht7, ho7⟩ := HC28.out.rows.2.2.push (HKZ.out.trans (by repeat (with_reducible (first | assumption | exact Keeps.refl _ | refine Keeps.alloc ?_ _ | refine Keeps.drew ?_ | refine Keeps.drewN ?_ _)))) hown7 hgr7 hfr7; have hb7 := HC28.out.blk.turn ht7 (by omega); have g13 : w7.cell? ⟨gb, 13, none⟩ = some (.slice l91 LN1 l9c1) := hb7.1.cell rfl; have f13 := hb7.1.thawed 13; have gl := hb7.1.lt)
                   obtain ⟨hC7, ht8⟩ := HC28.out.setLn (s7 := ⟨l92, LN2, l9c2⟩) ht7 ho7
                   obtain ⟨w29, hw29⟩ : ∃ w', w' = w7.setCell ⟨gb, 13, none⟩ (.slice l92 LN2 l9c2) := ⟨_, rfl⟩
                   rw [← hw29] at hC7 ht8
                   rw [← hw29]
                   have HC29 := Lib.hid hC7
                   have HT29 := Lib.hid (HT28.out.trans (ht8.mono (J := (fun z => z = 12 ∨ z = 13 ∨ z = 16 + 3 * NB ∨ z = 17 + 3 * NB ∨ z = 18 + 3 * NB)) fun z h => by omega))
                   have HQ29 := Lib.hid (HQ28.out.turn ht8 (by omega))
                   clear hC7 ht8 hw29 hb7 g13 f13 gl ht7 ho7 hown7 hbel7 hgr7 hfr7
                   have HCF := Lib.hid (HC29.out.cast (show _ = pbR m ⟨(at_ : Int), Z, ⟨K, D, A, B, N, Lg⟩⟩ b from by unfold pbR; rw [if_neg HNB4.out, if_neg HN22.out, if_neg HST.out, if_pos HNL.out]; rw [HLV.out, HPLN.out]; dsimp only; rw [HPX28.out]))
                   go_wp2_with fail
                   go_roundw
                   case rel => exact ⟨kk + 1, Y, _, pbR m ⟨(at_ : Int), Z, ⟨K, D, A, B, N, Lg⟩⟩ b, _, by omega, by go_num, Lib.hid (by rw [HADR.out, HY.out]), HT29, HCF, HGN, Lib.hid (by have := HKGE.out; omega), HLEN⟩
                   case measure => simp [intOf]; omega
             case pos =>
             have hlzG : (k : Int) < (NT : Int) := by omega
             have hkT : k < m.Tables.length := by rw [← HNT.out]; exact hltG
             obtain ⟨_, _, te, -, -, -, t4⟩ := HI2a.out
             injection te with te1 te2 te3
             subst te1 te3
             obtain ⟨tb, tof, hta, tc⟩ := t4 (by omega)
             subst hta
             obtain ⟨sa, scap, hsv, s1, s2, s3, s4⟩ := HI2b.out k hkT
             obtain ⟨LT, hLT⟩ : ∃ l, l = nth m.Tables k := ⟨_, rfl⟩
             obtain ⟨TN, hTN⟩ : ∃ n, n = LT.length := ⟨_, rfl⟩
             rw [← hLT, ← hTN] at hsv s4
             have HY0 : Hid (∀ W', Keeps wa W' → W'.cell? ⟨tb, tof + k, none⟩ = some (.slice sa TN scap)) := Lib.hid (fun W' hk' => by
              have z := (HKWA.out.trans hk').cell (tc k 0 hkT (by decide))
              try dsimp only at z
              rw [hsv] at z
              simpa using z)
             have htt9 := HG.out.tab k hkT
             rw [← hLT, ← hTN] at htt9
             have hTN20 : TN ≤ 20 := htt9.1
             obtain ⟨KT, hKT⟩ : ∃ n, n = 1000000 + k := ⟨_, rfl⟩
             obtain ⟨wp, hwp⟩ : ∃ wp : World, wp = wr := ⟨_, rfl⟩
             subst hwp
             have HLT := Lib.hid hLT
             have HTN := Lib.hid hTN
             have HT9 := Lib.hid htt9
             have HS4 := Lib.hid s4
             have HKT := Lib.hid hKT
             have HKP := Lib.hid hkr
             clear hsv s1 s2 s3 s4 tc t4 te2 hLT hTN htt9 hkr hKT
             go_wp2_with fail
             clear n2 nl
             go_loopw [23, 24] (fun s23 s24 wn => ∃ (j : Nat) (acc : List Int) (c10 : Nat → Nat), j ≤ TN ∧ s24 = .int .i64 j ∧ Hid (acc = (LT.take j).map (plR m)) ∧ Hid (Turn (fun z => z = KT) c9 wp c10 wn) ∧ Hid (OwnC KT c10 wn wa.heap.size 3 1 ci s23 acc)) (fun _ s24 _ => TN - (intOf s24).toNat)
             case atStart => exact ⟨0, [], c9, Nat.zero_le _, rfl, Lib.hid rfl, Lib.hid (Turn.refl _ _ _), Lib.hid (OwnC.nil _ _ _ _ _ _ _)⟩
             case round =>
              obtain ⟨j, acc, c10, hj, rfl, HAC, HT10, HO10⟩ := hrel
              obtain ⟨a6, cc6, e6⟩ := own_form' HO10.out.1
              obtain ⟨NA, hNA⟩ : ∃ n, n = acc.length := ⟨_, rfl⟩
              rw [← hNA] at e6
              subst e6
              have hT20 : NA ≤ 20 := by rw [hNA, HAC.out, List.length_map, List.length_take]; omega
              have HNA := Lib.hid hNA
              clear hNA
              have hTall : Turn (fun z => z = 4 ∨ z = 11 ∨ 1000000 ≤ z) cF wF c10 wr := HT9t.out.trans (HT10.out.mono fun z h => by have := HKT.out; omega)
              have hkr : Keeps wa wr := (HTF.out.trans (hTall.mono (J := (fun z => z ≠ 0)) fun z h => by omega)).below (Nat.le_refl _) (fun _ _ => rfl) (fun q => q rfl)
              have n2 := (HMA.out.keep hkr).cell (j := 2) rfl
              have nl := (HMA.out.keep hkr).lt
              have y0 := HY0.out _ hkr
              have yl := lt_of_cell y0
              by_cases hlt10 : j < TN
              case neg =>
               have tl10 : decide ((j : Int) < (TN : Int)) = false := decide_eq_false (by omega)
               have hacc : acc = LT.map (plR m) := by rw [HAC.out, show j = LT.length by rw [← HTN.out]; omega, List.take_length]
               have htst := HTS.out.turn HT10.out (by have := HKT.out; omega) (fun z hz => by have h1 := HKT.out; rw [List.length_map, List.length_take] at hz; omega)
               have hbb := HB9t.out.turn HT10.out (by have := HKT.out; omega)
               obtain ⟨ta4, tc4, hvT⟩ := own_form' htst.row.1
               obtain ⟨NS, hNS⟩ : ∃ n, n = ts.length := ⟨_, rfl⟩
               rw [← hNS] at hvT
               subst hvT
               have hNSb : NS ≤ 20 := by rw [hNS, htst.len, List.length_map, List.length_take]; omega
               have o1 : wr.cell? ⟨ob, 1, none⟩ = some (.slice ta4 NS tc4) := hbb.1.cell rfl
               have olt := hbb.1.lt
               obtain ⟨NS1, hNS1⟩ : ∃ n, n = NS + 1 := ⟨_, rfl⟩
               have HLA := Lib.hid (show (ts ++ [(⟨a6, NA, cc6⟩ : Sle)]).length = NS1 by rw [List.length_append, List.length_singleton, hNS1, hNS])
               have HNS := Lib.hid hNS
               have HTST := Lib.hid htst
               have HBB := Lib.hid hbb
               have HACC := Lib.hid hacc
               have hLi : ((m.Tables.take k).map fun t => t.map (plR m)).length = k := by rw [List.length_map, List.length_take]; omega
               have hOC : OwnC (1000000 + ((m.Tables.take k).map fun t => t.map (plR m)).length) c10 wr wa.heap.size 3 1 ci (⟨a6, NA, cc6⟩ : Sle).v acc := by rw [hLi, ← HKT.out]; exact HO10.out
               have HOC := Lib.hid hOC
               have HTALL := Lib.hid hTall
               have HKR := Lib.hid hkr
               have hws : wa.heap.size ≤ wr.heap.size := hkr.size
               clear htst hbb hacc hNS hLi hOC hTall hkr hNS1
               go_wp2_with (at_builtin; refine wpList_pushes (by rfl) (.tmp 299) (.tmp 301) 24 (by rfl) Tryd.underlying24 info_ints (by rfl) (by decide) (base := wa.heap.size) (f := sle) (l := ts) (by rfl) (by exact HTST.out.row.1.keep (by repeat (with_reducible (first | assumption | exact Keeps.refl _ | refine Keeps.alloc ?_ _ | refine Keeps.drew ?_ | refine Keeps.drewN ?_ _)))) [⟨a6, NA, cc6⟩] _ _ (by rfl) (by exact Blk.top' _ _ (by first | rfl | simp)) sle_len sle_one (by simp only [List.length_cons, List.length_nil, ← HNS.out]; omega) (by simp only [List.length_cons, List.length_nil, ← HNS.out]; unfold maxLen; omega) (by first | omega | (simp only [sz_alloc]; omega)) ?_; intro v7 w7 hown7 hbel7 hgr7 hfr7; obtain ⟨c11, ht11, hTS11⟩ := HTST.out.push (by omega) HOC.out (show Keeps wr _ from (by repeat (with_reducible (first | assumption | exact Keeps.refl _ | refine Keeps.alloc ?_ _ | refine Keeps.drew ?_ | refine Keeps.drewN ?_ _)))) hown7 hgr7 hfr7; have hb11 := HBB.out.turn ht11 (by decide); have o1 := hb11.1.cell (j := 1) rfl; have of1 := hb11.1.thawed 1; have ol5 := hb11.1.lt; obtain ⟨ba3, bc3, e7⟩ := own_form' hown7; rw [HLA.out] at e7; subst e7)
               obtain ⟨hb12, ht12⟩ := hb11.set 1 (.slice ba3 NS1 bc3)
               have HB12 : Hid (BlkC 4 c11 (w7.setCell ⟨ob, 1, none⟩ (.slice ba3 NS1 bc3)) ob (.cells #[.slice none 0 0, .slice ba3 NS1 bc3, .slice fa NF fcp] 32)) := Lib.hid hb12
               have HT12 := Lib.hid ((HTALL.out.trans (ht11.mono (J := fun z => z = 4 ∨ z = 11 ∨ 1000000 ≤ z) fun z h => Or.inr (Or.inl h))).trans (ht12.mono fun z h => Or.inl h))
               have HTS12 := Lib.hid (hTS11.turn ht12 (by decide) (fun z _ => by omega))
               clear hb12 ht12 hown7 hbel7 hgr7 hfr7 ht11 hb11 o1 of1 ol5 hTS11 HT10 n2 nl y0 yl
               go_roundw
               case rel => exact ⟨k + 1, c11, _, _, by omega, by go_num, HT12, HB12, Lib.hid (by rw [take_succ_nth _ _ hkT, List.map_append, List.map_singleton, ← HLT.out, ← HACC.out]; exact HTS12.out)⟩
               case measure => simp [intOf]; omega
              case pos =>
              have hlz10 : (j : Int) < (TN : Int) := by omega
              obtain ⟨ab, aof, hsa, hsc4⟩ := HS4.out (by omega)
              subst hsa
              obtain ⟨x, hx⟩ : ∃ x, x = nth LT j := ⟨_, rfl⟩
              have hxb := HT9.out.2 j hlt10
              rw [← hx] at hxb
              have hxh := HH2.out
              obtain ⟨X, hX⟩ : ∃ X : Nat, x = (X : Int) := ⟨x.toNat, by omega⟩
              have y1 : wr.cell? ⟨ab, aof + j, none⟩ = some (.int .i64 X) := by
               have z := (HKWA.out.trans hkr).cell (hsc4 j 0 hlt10 (by decide))
               try dsimp only at z
               rw [← hx, hX] at z
               simpa using z
              have hXN : X < N1 := by have := HTL.out; omega
              have hXNz : (X : Int) < (N1 : Int) := by omega
              obtain ⟨p1, -, p3, -, -⟩ := ownC_cell (HPF.out.turn hTall (by decide)) (j := X) (by rw [plArr_len]; exact hXN)
              rw [HTL.out, plArr_all _ hXN] at p1
              obtain ⟨PX, hPX⟩ : ∃ z, z = plR m X := ⟨_, rfl⟩
              rw [← hPX] at p1
              have p1' : wr.cell? ⟨gP, X, none⟩ = some (.int .i64 PX) := p1
              have HPX : Hid (plR m (nth LT j) = PX) := Lib.hid (by rw [← hx, hX, hPX])
              have hws : wa.heap.size ≤ wr.heap.size := hkr.size
              clear hsc4 hxb hxh hx hX hPX p1 hkr hTall
              go_wp2_with (at_builtin; refine wpList_pushes (by rfl) (.tmp 284) (.tmp 296) 25 (by rfl) Tryd.underlying25 info_int (by rfl) (by decide) (base := wa.heap.size) (f := ci) (l := acc) (by rfl) (by exact HO10.out.1.keep (by repeat (with_reducible (first | assumption | exact Keeps.refl _ | refine Keeps.alloc ?_ _ | refine Keeps.drew ?_ | refine Keeps.drewN ?_ _)))) [PX] _ _ (by rfl) (by exact Blk.top' _ _ (by first | rfl | simp)) ci_len ci_one (by simp only [List.length_cons, List.length_nil, ← HNA.out]; omega) (by simp only [List.length_cons, List.length_nil, ← HNA.out]; unfold maxLen; omega) (by first | omega | (simp only [sz_alloc]; omega)) ?_; intro v7 w7 hown7 hbel7 hgr7 hfr7; obtain ⟨c5x, ht5x, ho5x⟩ := HO10.out.push (show Keeps wr _ from (by repeat (with_reducible (first | assumption | exact Keeps.refl _ | refine Keeps.alloc ?_ _ | refine Keeps.drew ?_ | refine Keeps.drewN ?_ _)))) hown7 hgr7 hfr7; have HT5x := Lib.hid (HT10.out.trans ht5x); have HO5x := Lib.hid ho5x; clear ht5x ho5x hown7 hbel7 hgr7 hfr7)
              go_roundw
              case rel => exact ⟨j + 1, acc ++ [PX], c5x, by omega, by go_num, Lib.hid (by rw [take_succ_nth _ _ (by rw [← HTN.out]; exact hlt10), List.map_append, ← HAC.out, List.map_singleton, HPX.out]), HT5x, HO5x⟩
              case measure => simp [intOf]; omega
           case pos =>
           have hlzF : (i : Int) < (NF : Int) := by omega
           have hiF : i < m.Funcs.length := by rw [← HNF.out]; exact hltF
           obtain ⟨_, _, fe, -, -, -, f4⟩ := HI1.out
           injection fe with fe1 fe2 fe3
           subst fe1 fe3
           obtain ⟨fb, fof, hfa, fc⟩ := f4 (by omega)
           subst hfa
           have hgf := (HG.out.func i hiF).2.2
           have hsm0 := sumF_mono HG.out (show 0 ≤ i by omega) (Nat.le_of_lt hiF)
           have hsz0 : sumF m 0 = 0 := rfl
           have hxh := HH2.out
           obtain ⟨X, hX⟩ : ∃ X : Nat, (nth m.Funcs i).Start = (X : Int) := ⟨(nth m.Funcs i).Start.toNat, by omega⟩
           have hXN : X < N1 := by have := HTL.out; omega
           have hXNz : (X : Int) < (N1 : Int) := by omega
           have d1 : wr.drew.cell? ⟨fb, fof + i * 3 + 1, none⟩ = some (.int .i64 X) := by rw [← hX]; exact (HKWA.out.trans hkr).cell (fc i 1 hiF (by decide))
           obtain ⟨p1, -, p3, -, -⟩ := ownC_cell (HPE.out.turn HT8.out (by decide)) (j := X) (by rw [plArr_len]; exact hXN)
           rw [HTL.out, plArr_all _ hXN] at p1
           obtain ⟨PX, hPX⟩ : ∃ z, z = plR m X := ⟨_, rfl⟩
           rw [← hPX] at p1
           have p1' : wr.drew.cell? ⟨gP, X, none⟩ = some (.int .i64 PX) := p1
           have HPX : Hid (plR m (nth m.Funcs i).Start = PX) := Lib.hid (by rw [hX, hPX])
           have n1d : wr.drew.cell? ⟨w.heap.size, 1, none⟩ = some (.slice (some ⟨fb, fof, none⟩) NF x1c) := n1
           have o2d : wr.drew.cell? ⟨ob, 2, none⟩ = some (.slice fa i fcp) := HB8.out.1.cell rfl
           obtain ⟨I1, hI1⟩ : ∃ n, n = i + 1 := ⟨_, rfl⟩
           have HLA := Lib.hid (show (((List.range i).map fun i => plR m (nth m.Funcs i).Start) ++ [PX]).length = I1 by rw [List.length_append, List.length_singleton, List.length_map, List.length_range, hI1])
           have HLI := Lib.hid (show ((List.range i).map fun i => plR m (nth m.Funcs i).Start).length = i by rw [List.length_map, List.length_range])
           have hws : wa.heap.size ≤ wr.heap.size := hkr.size
           clear hgf hsm0 hsz0 hxh hX hPX p1 hkr fc f4 fe2 hI1
           go_upto_region 55 with fail
           clear n1 nl p3
           refine wp_region_head (S := Cells [(ob, 2, .slice fa i fcp), (w.heap.size, 1, .slice (some ⟨fb, fof, none⟩) NF x1c), (fb, fof + i * 3 + 1, .int .i64 X), (gP, X, .int .i64 PX)]) 12 (by kernel_rfl) (by kernel_rfl) (by kernel_rfl) (by kernel_rfl) (by decide) (by kernel_rfl) ?hS39 (fun hHeld => ?_)
           case hS39 => exact ⟨o2d, n1d, d1, p1', trivial⟩
           simp only [List.take_succ_cons, List.take_zero, List.drop_succ_cons, List.drop_zero]
           refine takeC 0 hHeld ?_
           refine takeC 1 hHeld ?_
           refine takeC 2 hHeld ?_
           refine takeC 3 hHeld ?_
           refine takeC 4 hHeld ?_
           refine takeC 5 hHeld ?_
           refine takeC 6 hHeld ?_
           refine takeC 7 hHeld ?_
           refine takeC 8 hHeld ?_
           refine takeC 9 hHeld ?_
           refine takeC 10 hHeld ?_
           refine wpAnyH_ready (rs := [11]) (by kernel_rfl) (by simp) ?_
           refine AllReadyH.cons (o := ?or33) ?hr33 ?sr33 ?mr33
           case hr33 => (simp only [List.getElem?_toArray, List.getElem?_cons_zero, List.getElem?_cons_succ]; try rfl)
           case mr33 => exact AllReadyH.nil
           case sr33 =>
           intro K hK
           go_simp
           refine hK.out _ _ (Cells.keep hHeld ((Keeps.refl _).alloc _)) (fun hHeld2 => ?_)
           clear hK K hHeld
           have hHeld := hHeld2
           clear hHeld2
           try simp only [Act.put, List.setIfInBounds_toArray, List.set_cons_zero, List.set_cons_succ]
           refine wpAnyH_done (by kernel_rfl) ?_ _
           dsimp only [TailQ]
           clear hHeld o2d n1d d1 p1'
           go_upto_region 54 with (at_builtin; refine wpList_pushes (by rfl) (.tmp 254) (.tmp 264) 25 (by rfl) Tryd.underlying25 info_int (by rfl) (by decide) (base := wa.heap.size) (f := ci) (l := (List.range i).map fun i => plR m (nth m.Funcs i).Start) (by rfl) (by exact HF8.out.1.keep (by repeat (with_reducible (first | assumption | exact Keeps.refl _ | refine Keeps.alloc ?_ _ | refine Keeps.drew ?_ | refine Keeps.drewN ?_ _)))) [PX] _ _ (by rfl) (by exact Blk.top' _ _ (by first | rfl | simp)) ci_len ci_one (by simp only [List.length_cons, List.length_nil, HLI.out]; omega) (by simp only [List.length_cons, List.length_nil, HLI.out]; unfold maxLen; omega) (by first | omega | (simp only [sz_alloc, sz_drew]; omega)) ?_; intro v7 w7 hown7 hbel7 hgr7 hfr7; obtain ⟨c9, ht9, ho9⟩ := HF8.out.push (show Keeps wr _ from (by repeat (with_reducible (first | assumption | exact Keeps.refl _ | refine Keeps.alloc ?_ _ | refine Keeps.drew ?_ | refine Keeps.drewN ?_ _)))) hown7 hgr7 hfr7; have hb9 := HB8.out.turn ht9 (by decide); have o2 := hb9.1.cell (j := 2) rfl; have of2 := hb9.1.thawed 2; have ol2 := hb9.1.lt; obtain ⟨fa9, fc9, e9⟩ := own_form' hown7; rw [HLA.out] at e9; subst e9)
           obtain ⟨hb10, ht10⟩ := hb9.set 2 (.slice fa9 I1 fc9)
           have HB10 : Hid (BlkC 4 c9 (w7.setCell ⟨ob, 2, none⟩ (.slice fa9 I1 fc9)) ob (.cells #[.slice none 0 0, .slice none 0 0, .slice fa9 I1 fc9] 32)) := Lib.hid hb10
           have HT10 := Lib.hid ((HT8.out.trans (ht9.mono (J := fun z => z = 4 ∨ z = 9) fun z h => Or.inr h)).trans (ht10.mono fun z h => Or.inl h))
           have HF10 := Lib.hid (ho9.turn ht10 (by decide))
           clear hb10 ht10 hown7 hbel7 hgr7 hfr7 ht9 ho9 hb9 o2 of2 ol2
           go_wp2_with fail
           go_roundw
           case rel => exact ⟨i + 1, c9, _, by omega, by go_num, HT10, HB10, Lib.hid (by rw [List.range_succ, List.map_append, List.map_singleton, HPX.out]; exact HF10.out)⟩
           case measure => simp [intOf]; omega
         case pos =>
         have hlzD : (a : Int) < (TL : Int) := by omega
         have haN : (a : Int) < (N1 : Int) := by omega
         obtain ⟨b1, -, b3, -, -⟩ := ownC_cell (HBG6.out.turn HT7.out (by decide)) (j := a) (by simp; omega)
         rw [nthRange (fun x : Nat => isL m x) (by omega)] at b1
         obtain ⟨BA, hBA⟩ : ∃ z, z = isL m a := ⟨_, rfl⟩
         rw [← hBA] at b1
         have b1' : wr.cell? ⟨gB, a, none⟩ = some (.bool BA) := b1
         obtain ⟨p1, p2, p3, p4, p5⟩ := ownC_cell HP7.out (j := a) (by rw [plArr_len]; omega)
         obtain ⟨PV, hPV⟩ : ∃ z, z = nth (plArr m a N1) a := ⟨_, rfl⟩
         rw [← hPV] at p1
         have p1' : wr.cell? ⟨gP, a, none⟩ = some (.int .i64 PV) := p1
         have wCN : IntKind.i64.wrap ((CN : Int) + 1) = ((CN + 1 : Nat) : Int) := by rw [IntKind.wrap_i64]; omega
         cases BA with
         | false =>
          have hP8 := HP7.out
          rw [plArr_skip hBA.symm] at hP8
          have HP8 := Lib.hid hP8
          have HCN : Hid (cntL m (a + 1) = CN) := Lib.hid (by rw [hCN]; show cntL m a + (if isL m a = true then 1 else 0) = _; rw [← hBA]; rfl)
          clear hP8 hBA hCN hPV p1 b1 p4 p5 hkr
          go_wp2_with fail
          go_roundw
          case rel => exact ⟨a + 1, c7, by omega, by rw [HCN.out], by go_num, HT7, HP8⟩
          case measure => simp [intOf]; omega
         | true =>
          have hP8 := p4 (CN : Int)
          rw [hCN, plArr_put (by omega) hBA.symm] at hP8
          have HP8 : Hid (OwnI 3 c7 (wr.setCell ⟨gP, a, none⟩ (.int .i64 CN)) wa.heap.size (.slice (some ⟨gP, 0, none⟩) N1 N1) (plArr m (a + 1) N1)) := Lib.hid (by rw [hCN]; exact hP8)
          have HT8 := Lib.hid (HT7.out.trans ((p5 (iV (CN : Int))).mono (J := fun z => z = 3) fun z h => h))
          have HCN : Hid (cntL m (a + 1) = CN + 1) := Lib.hid (by rw [hCN]; show cntL m a + (if isL m a = true then 1 else 0) = _; rw [← hBA]; rfl)
          clear hP8 hBA hCN hPV p1 b1 p4 p5 hkr
          go_wp2_with fail
          go_roundw
          case rel => exact ⟨a + 1, c7, by omega, by rw [HCN.out]; rfl, by go_num, HT8, HP8⟩
          case measure => simp [intOf]; omega
      case pos =>
      have hlzC : (a : Int) < (TL : Int) := by omega
      have haN : (a : Int) < (N1 : Int) := by omega
      obtain ⟨o1, -, o3, -, -⟩ := ownC_cell (HO2.out.turn HT5.out (by decide)) (j := a) (by rw [ownArr_len]; omega)
      rw [ownArr_at _ (by omega)] at o1
      obtain ⟨FI, hOA⟩ : ∃ z, z = ownR m a := ⟨_, rfl⟩
      have o1' : wr.cell? ⟨gO, a, none⟩ = some (.int .i64 FI) := by rw [hOA]; exact o1
      by_cases hown : FI < 0
      case pos =>
       have toa : decide (FI < 0) = true := decide_eq_true hown
       have hks := HKS.out.skip (ownR_neg (by rw [← hOA]; exact hown))
       have hat : atB m a = false := by unfold atB; rw [if_pos (by rw [← hOA]; exact hown)]
       have HKS' := Lib.hid hks
       have HAT' := Lib.hid hat
       clear hks hat hown hOA o1 hkr
       go_wp2_with fail
       go_roundw
       case rel => exact ⟨a + 1, c5, ks, by omega, by go_num, HT5, HB5, HKS', Lib.hid (fun j hj => by
        rcases Nat.lt_or_ge j a with z | z
        ·exact HAT.out j z
        ·obtain rfl : j = a := by omega
         exact HAT'.out)⟩
       case measure => simp [intOf]; omega
      case neg =>
      have toa : decide (FI < 0) = false := decide_eq_false hown
      obtain ⟨pp, hpp, hpa, hpo, hpg⟩ := ownR_pos HG.out HSW.out (x := (a : Int)) (by rw [← hOA]; exact hown)
      have hspb0 : atB m a = spB m (ownS (allS m) m.Funcs.length) (ownR m a) ⟨a, (decAns m.Text a).2.1, (decAns m.Text a).1⟩ := by unfold atB; rw [if_neg (by rw [← hOA]; exact hown)]
      have hFI := hOA
      rw [← hFI] at hspb0 hpo
      have hFI0 : 0 ≤ FI := by omega
      clear hOA
      have hfine := hpg.fine
      rw [hpa] at hfine
      have hok := hpg.ok
      rw [hpa] at hok
      have hpz := hpg.z
      rw [hpa] at hpz
      have hpi := hpg.i
      rw [hpa] at hpi
      have z1 := hfine.z1
      have z5 := hfine.z5
      have ze := hfine.ze
      have k1 := hfine.k1
      have k24 := hfine.k24
      have hn0 := hfine.n0
      have hn1 := hfine.n1
      have hnt := hfine.nt
      obtain ⟨⟨⟨K, D, A, B, N, Lg⟩, Z, E⟩, hX⟩ : ∃ X, X = decAns m.Text a := ⟨_, rfl⟩
      rw [← hX] at hspb0 z1 z5 ze k1 k24 hn0 hn1 hnt hok hpz hpi
      dsimp only at hspb0 z1 z5 ze k1 k24 hn0 hn1 hnt hok hpz hpi
      subst hok
      have hIA : ∀ W', Keeps wr W' → Calls Tryd.prog 21 #[.slice x0 TL x0c, .int .i64 a] W' (DecAns (decAns m.Text a) W') := fun W' hk' => by
       have z := instrAt_any _ m.Text a W' (Arr.keep HI0.out (HKWA.out.trans (hkr.trans hk')) : Bytes W' _ m.Text) (by have := HH2.out; omega)
       rw [HTL.out]
       exact z
      rw [← hX] at hIA
      unfold DecAns Ins.v insV at hIA
      dsimp only at hIA
      have hpe : pp.2 = ⟨a, Z, ⟨K, D, A, B, N, Lg⟩⟩ := by
       have e1 : pp.2 = ⟨pp.2.A, pp.2.Z, pp.2.I⟩ := rfl
       rw [e1, hpa, hpz, hpi]
      have hkj : keysP pp.2 = if brN K = true ∨ K = 22 then [(a : Int) + N, (a : Int) + Z] else if stN K = true then [(a : Int) + Z] else [] := by rw [hpe]; rfl
      have hspj : spB m (ownS (allS m) m.Funcs.length) FI ⟨a, Z, ⟨K, D, A, B, N, Lg⟩⟩ = if brN K = true ∨ K = 22 then !decide (ownS (allS m) m.Funcs.length ((a : Int) + N) = some FI) else if K = 24 then decide (N < m.Tables.length) && anyN (fun k => !decide (ownS (allS m) m.Funcs.length (nth (nth m.Tables N.toNat) k) = some FI)) (nth m.Tables N.toNat).length else if K = 23 then !(anyN (fnP m ((a : Int) + N)) m.Funcs.length) else false := rfl
      have hbads : spB m (ownS (allS m) m.Funcs.length) FI ⟨a, Z, ⟨K, D, A, B, N, Lg⟩⟩ = true → recB m = true := fun q => by
       have e := atB_any HG.out HSW.out
       rw [anyN_yes (p := atB m) (k := a) (by rw [← HTL.out]; exact hltC) (by rw [hspb0]; exact q)] at e
       unfold recB
       rw [← e]
       simp
      have hout : ¬ (0 ≤ (a : Int) + N ∧ (a : Int) + N ≤ TL) → ¬ (ownS (allS m) m.Funcs.length ((a : Int) + N) = some FI) := fun q e => by
       obtain ⟨p', hp', e1, -⟩ := ownS_some e
       have hm := (ann_in HG.out HSW.out hp').2.2.fine
       rw [e1] at hm
       have := hm.x0
       have := hm.x1
       have := HTL.out
       exact q (by omega)
      have wTo : IntKind.i64.wrap ((a : Int) + N) = (a : Int) + N := by rw [IntKind.wrap_i64]; omega
      have HPP := Lib.hid hpp
      have HPA := Lib.hid hpa
      have HKJ0 := Lib.hid hkj
      have HSPJ0 := Lib.hid hspj
      have HSPB := Lib.hid hspb0
      have HBADS := Lib.hid hbads
      have HOUT := Lib.hid hout
      have HIA := Lib.hid hIA
      have HOWN : Hid ((ownS (allS m) m.Funcs.length (a : Int)).getD (-1) = FI) := Lib.hid hFI.symm
      have HEN0 := Lib.hid (fun W' => ends_any K D A B N Lg W' k1)
      unfold insV at HEN0
      obtain ⟨EN, hEN⟩ : ∃ z, z = endsN K := ⟨_, rfl⟩
      have HEN : Hid (∀ W', Calls Tryd.prog 22 #[.agg #[.int .i64 K, .int .i64 D, .int .i64 A, .int .i64 B, .int .i64 N, .bool Lg]] W' fun e w' => e = .returned (.int .i64 EN) ∧ Keeps W' w') := Lib.hid (by rw [hEN]; exact HEN0.out)
      have hZT : (a : Int) + Z ≤ TL := by have := HTL.out; omega
      clear hpp hpa hpo hpg hkj hspj hspb0 hbads hout hIA hFI hfine hX hpe hpz hpi HEN0 o1 hown ze
      go_upto_region 28 with (go_at_call 21; refine (HIA.out _ (by repeat (with_reducible (first | assumption | exact Keeps.refl _ | refine Keeps.alloc ?_ _ | refine Keeps.drew ?_ | refine Keeps.drewN ?_ _)))).mono ?_; rintro e wi ⟨rfl, hki⟩)
      obtain ⟨wq, cq, hwq, hkq, hTq, hbq⟩ := one_paint wi c5 (.cells #[.int .i64 K, .int .i64 D, .int .i64 A, .int .i64 B, .int .i64 N, .bool Lg] 61) 7
      rw [← hwq]
      obtain ⟨gq, hgq⟩ : ∃ g, g = wi.heap.size := ⟨_, rfl⟩
      rw [← hgq]
      rw [← hgq] at hbq
      have HTq := Lib.hid ((HT5.out.keep hki).trans (hTq (fun z => z = 2)))
      have HBq := Lib.hid ((HB5.out.keep hki).turn (hTq (fun _ => False)) (fun q => q))
      have HQq := Lib.hid hbq.1
      have HCQ := Lib.hid hbq.2
      have HRq := Lib.hid (hkr.trans (hki.trans hkq))
      have u0 : wq.cell? ⟨gq, 0, none⟩ = some (.int .i64 K) := (hbq.1).cell rfl
      have u1 : wq.cell? ⟨gq, 1, none⟩ = some (.int .i64 D) := (hbq.1).cell rfl
      have u2 : wq.cell? ⟨gq, 2, none⟩ = some (.int .i64 A) := (hbq.1).cell rfl
      have u3 : wq.cell? ⟨gq, 3, none⟩ = some (.int .i64 B) := (hbq.1).cell rfl
      have u4 : wq.cell? ⟨gq, 4, none⟩ = some (.int .i64 N) := (hbq.1).cell rfl
      have u5 : wq.cell? ⟨gq, 5, none⟩ = some (.bool Lg) := (hbq.1).cell rfl
      have ul := hbq.1.lt
      clear hwq hgq hbq hTq hkq hki hkr HT5 HB5 n0 nl toa o3 o1'
      by_cases hj : brN K = true ∨ K = 22
      case pos =>
       have hk23 : K ≠ 23 := by rcases hj with q | q; (unfold brN at q; simp at q; omega); omega
       have hk24 : K ≠ 24 := by rcases hj with q | q; (unfold brN at q; simp at q; omega); omega
       have HKJ : Hid (keysP pp.2 = [(a : Int) + N, (a : Int) + Z]) := Lib.hid (by rw [HKJ0.out, if_pos hj])
       have HSPJ : Hid (spB m (ownS (allS m) m.Funcs.length) FI ⟨a, Z, ⟨K, D, A, B, N, Lg⟩⟩ = !decide (ownS (allS m) m.Funcs.length ((a : Int) + N) = some FI)) := Lib.hid (by rw [HSPJ0.out, if_pos hj])
       clear HKJ0 HSPJ0
       by_cases hb : brN K = true
       case pos =>
        have hENv : EN = 4 := by
         rw [hEN]
         unfold endsN
         rw [if_neg (brN_st hb), if_neg (fun q => by rw [q] at hb; revert hb; decide), if_pos hb]
        clear hEN hj hb
        as_aux_lemma =>
        have tE0 : decide ((0 : Int) < EN) = true := by rw [hENv]; decide
        go_upto_region 30 with (go_at_call 22; refine (HEN.out _).mono ?_; rintro e we ⟨rfl, hke⟩; have u0 : we.cell? ⟨gq, 0, none⟩ = some (.int .i64 K) := (HQq.out.keep hke).cell rfl; have u1 : we.cell? ⟨gq, 1, none⟩ = some (.int .i64 D) := (HQq.out.keep hke).cell rfl; have u2 : we.cell? ⟨gq, 2, none⟩ = some (.int .i64 A) := (HQq.out.keep hke).cell rfl; have u3 : we.cell? ⟨gq, 3, none⟩ = some (.int .i64 B) := (HQq.out.keep hke).cell rfl; have u4 : we.cell? ⟨gq, 4, none⟩ = some (.int .i64 N) := (HQq.out.keep hke).cell rfl; have u5 : we.cell? ⟨gq, 5, none⟩ = some (.bool Lg) := (HQq.out.keep hke).cell rfl; have ul := (HQq.out.keep hke).lt; have HKE := Lib.hid hke)
        have HTe := Lib.hid (HTq.out.keep HKE.out)
        have HBe := Lib.hid (HBq.out.keep HKE.out)
        have HQe := Lib.hid (HQq.out.keep HKE.out)
        have HRe := Lib.hid (HRq.out.trans HKE.out)
        obtain ⟨Y, hY⟩ : ∃ Y : Nat, (a : Int) + Z = (Y : Int) := ⟨((a : Int) + Z).toNat, by omega⟩
        have wY : IntKind.i64.wrap ((a : Int) + Z) = (Y : Int) := by rw [IntKind.wrap_i64]; omega
        have hYN : Y < N1 := by omega
        have hYz : (Y : Int) < (N1 : Int) := by omega
        have HYY := Lib.hid hY
        clear hY tE0 u0 u1 u2 u3 u4 u5 ul
        obtain ⟨b1, b2, b3, b4, b5⟩ := ownC_cell HBe.out (j := Y) (by rw [bgArr_len]; omega)
        obtain ⟨BX, hBX⟩ : ∃ z, z = nth (bgArr ks N1) Y := ⟨_, rfl⟩
        rw [← hBX] at b1
        have b1' : we.cell? ⟨gB, Y, none⟩ = some (.bool BX) := b1
        have hB5 := b4 true
        rw [bgArr_put _ (by omega)] at hB5
        obtain ⟨w5, hw5⟩ : ∃ w', w' = we.setCell ⟨gB, Y, none⟩ (.bool true) := ⟨_, rfl⟩
        have hB5' : OwnB 2 cq w5 wa.heap.size (.slice (some ⟨gB, 0, none⟩) N1 N1) (bgArr (ks ++ [(Y : Int)]) N1) := by rw [hw5]; exact hB5
        have ht5 : Turn (fun z => z = 2) cq we cq w5 := by rw [hw5]; exact b5 (bV true)
        have HB5 := Lib.hid hB5'
        have HT5 := Lib.hid (HTe.out.trans ht5)
        have HQ5 := Lib.hid ((BlkC.turn ⟨HQe.out, HCQ.out⟩ ht5 (by decide)).1)
        have HR5 : Hid (Keeps wa w5) := Lib.hid ((HT2.out.trans (HT5.out.mono (J := (fun z => z ≠ 0)) fun z h => by omega)).below (Nat.le_refl _) (fun _ _ => rfl) (fun q => q rfl))
        have HW5 := Lib.hid hw5
        clear b1 hBX hB5 hB5' b4 b5 ht5 hw5
        go_upto_region 31 with fail
        rw [← HW5.out]
        clear HW5 b1' b2 b3
        have u0 : w5.cell? ⟨gq, 0, none⟩ = some (.int .i64 K) := (HQ5.out).cell rfl
        have u1 : w5.cell? ⟨gq, 1, none⟩ = some (.int .i64 D) := (HQ5.out).cell rfl
        have u2 : w5.cell? ⟨gq, 2, none⟩ = some (.int .i64 A) := (HQ5.out).cell rfl
        have u3 : w5.cell? ⟨gq, 3, none⟩ = some (.int .i64 B) := (HQ5.out).cell rfl
        have u4 : w5.cell? ⟨gq, 4, none⟩ = some (.int .i64 N) := (HQ5.out).cell rfl
        have u5 : w5.cell? ⟨gq, 5, none⟩ = some (.bool Lg) := (HQ5.out).cell rfl
        have ul := HQ5.out.lt
        clear wY
        have tE4 : (EN == 4) = true := by rw [hENv]; decide

        clear hENv
        go_upto_region 32 with (go_at_call 22; refine (HEN.out _).mono ?_; rintro e we ⟨rfl, hke⟩; have u0 : we.cell? ⟨gq, 0, none⟩ = some (.int .i64 K) := (HQ5.out.keep hke).cell rfl; have u1 : we.cell? ⟨gq, 1, none⟩ = some (.int .i64 D) := (HQ5.out.keep hke).cell rfl; have u2 : we.cell? ⟨gq, 2, none⟩ = some (.int .i64 A) := (HQ5.out.keep hke).cell rfl; have u3 : we.cell? ⟨gq, 3, none⟩ = some (.int .i64 B) := (HQ5.out.keep hke).cell rfl; have u4 : we.cell? ⟨gq, 4, none⟩ = some (.int .i64 N) := (HQ5.out.keep hke).cell rfl; have u5 : we.cell? ⟨gq, 5, none⟩ = some (.bool Lg) := (HQ5.out.keep hke).cell rfl; have ul := (HQ5.out.keep hke).lt; have HKE := Lib.hid hke)
        clear tE4 
        have HT6 := Lib.hid (HT5.out.keep HKE.out)
        have HB6 := Lib.hid (HB5.out.keep HKE.out)
        have HQ6 := Lib.hid (HQ5.out.keep HKE.out)
        have HR6 := Lib.hid (HR5.out.trans HKE.out)
        obtain ⟨w6, hw6⟩ : ∃ w6 : World, w6 = we := ⟨_, rfl⟩
        subst hw6
        clear u0 u1 u2 u3 u4 u5 ul
        have hO6 := HO2.out.turn HT6.out (by decide)
        obtain ⟨o1, -, o3, -, -⟩ := ownC_cell hO6 (j := a) (by rw [ownArr_len]; omega)
        rw [ownArr_at _ (by omega)] at o1
        have o1' : w6.drew.cell? ⟨gO, a, none⟩ = some (.int .i64 FI) := by
         have z : w6.cell? ⟨gO, a, none⟩ = some (.int .i64 ((ownS (allS m) m.Funcs.length (a : Int)).getD (-1))) := o1
         rw [show (ownS (allS m) m.Funcs.length (a : Int)).getD (-1) = FI from HOWN.out] at z
         exact z
        have n0 : w6.drew.cell? ⟨w.heap.size, 0, none⟩ = some (.slice x0 TL x0c) := (HMA.out.keep HR6.out).cell rfl
        by_cases hin : 0 ≤ (a : Int) + N ∧ (a : Int) + N ≤ TL
        case neg =>
         have HRB : Hid (recB m = true) := Lib.hid (HBADS.out (by rw [HSPJ.out, decide_eq_false (fun q => HOUT.out hin q)]; rfl))
         clear o1 hO6
         refine wp_region_held_drew (S := Cells [(w.heap.size, 0, .slice x0 TL x0c)]) (by kernel_rfl) ⟨n0, trivial⟩ (fun hHeld => ?_)
         clear n0 o1' o3
         refine takeC 0 hHeld ?_
         refine takeC 1 hHeld ?_
         refine takeC 2 hHeld ?_
         refine takeC 3 hHeld ?_
         refine wpAnyH_ready (rs := [4]) (by kernel_rfl) (by simp) ?_
         refine AllReadyH.cons (o := ?or24) ?hr24 ?sr24 ?mr24
         case hr24 => (simp only [List.getElem?_toArray, List.getElem?_cons_zero, List.getElem?_cons_succ]; try rfl)
         case mr24 => exact AllReadyH.nil
         case sr24 =>
         intro K' hK
         go_simp
         go_at_call 23
         refine (in_no' _ _ _ _ (by omega)).mono ?_
         rintro e wz ⟨rfl, rfl⟩
         refine hK.out _ _ hHeld (fun hHeld2 => ?_)
         clear hK K' hHeld
         have hHeld := hHeld2
         clear hHeld2
         try simp only [Act.put, List.setIfInBounds_toArray, List.set_cons_zero, List.set_cons_succ]
         refine takeC 5 hHeld ?_
         refine takeC 6 hHeld ?_
         refine wpAnyH_take (i := 7) (oi := ?oq1x7) (v := undef) ?hq1x7 ?aq1x7 ?bq1x7 ?cq1x7 ?qq1x7 (Or.inr ⟨?wq1x7, rfl⟩) hHeld ?rq1x7
         case hq1x7 => (simp only [List.getElem?_toArray, List.getElem?_cons_zero, List.getElem?_cons_succ]; try rfl)
         case aq1x7 => kernel_rfl
         case bq1x7 => kernel_rfl
         case cq1x7 => kernel_rfl
         case qq1x7 => exact fun _ _ _ h => h
         case wq1x7 => rfl
         try simp only [Act.put, List.setIfInBounds_toArray, List.set_cons_zero, List.set_cons_succ]
         refine wpAnyH_take (i := 8) (oi := ?oq2x8) (v := undef) ?hq2x8 ?aq2x8 ?bq2x8 ?cq2x8 ?qq2x8 (Or.inr ⟨?wq2x8, rfl⟩) hHeld ?rq2x8
         case hq2x8 => (simp only [List.getElem?_toArray, List.getElem?_cons_zero, List.getElem?_cons_succ]; try rfl)
         case aq2x8 => kernel_rfl
         case bq2x8 => kernel_rfl
         case cq2x8 => kernel_rfl
         case qq2x8 => exact fun _ _ _ h => h
         case wq2x8 => rfl
         try simp only [Act.put, List.setIfInBounds_toArray, List.set_cons_zero, List.set_cons_succ]
         refine wpAnyH_take (i := 9) (oi := ?oq3x9) (v := undef) ?hq3x9 ?aq3x9 ?bq3x9 ?cq3x9 ?qq3x9 (Or.inr ⟨?wq3x9, rfl⟩) hHeld ?rq3x9
         case hq3x9 => (simp only [List.getElem?_toArray, List.getElem?_cons_zero, List.getElem?_cons_succ]; try rfl)
         case aq3x9 => kernel_rfl
         case bq3x9 => kernel_rfl
         case cq3x9 => kernel_rfl
         case qq3x9 => exact fun _ _ _ h => h
         case wq3x9 => rfl
         try simp only [Act.put, List.setIfInBounds_toArray, List.set_cons_zero, List.set_cons_succ]
         refine wpAnyH_take (i := 10) (oi := ?oq4x10) (v := undef) ?hq4x10 ?aq4x10 ?bq4x10 ?cq4x10 ?qq4x10 (Or.inr ⟨?wq4x10, rfl⟩) hHeld ?rq4x10
         case hq4x10 => (simp only [List.getElem?_toArray, List.getElem?_cons_zero, List.getElem?_cons_succ]; try rfl)
         case aq4x10 => kernel_rfl
         case bq4x10 => kernel_rfl
         case cq4x10 => kernel_rfl
         case qq4x10 => exact fun _ _ _ h => h
         case wq4x10 => rfl
         try simp only [Act.put, List.setIfInBounds_toArray, List.set_cons_zero, List.set_cons_succ]
         refine wpAnyH_take (i := 11) (oi := ?oq5x11) (v := undef) ?hq5x11 ?aq5x11 ?bq5x11 ?cq5x11 ?qq5x11 (Or.inr ⟨?wq5x11, rfl⟩) hHeld ?rq5x11
         case hq5x11 => (simp only [List.getElem?_toArray, List.getElem?_cons_zero, List.getElem?_cons_succ]; try rfl)
         case aq5x11 => kernel_rfl
         case bq5x11 => kernel_rfl
         case cq5x11 => kernel_rfl
         case qq5x11 => exact fun _ _ _ h => h
         case wq5x11 => rfl
         try simp only [Act.put, List.setIfInBounds_toArray, List.set_cons_zero, List.set_cons_succ]
         refine wpAnyH_take (i := 12) (oi := ?oq6x12) (v := undef) ?hq6x12 ?aq6x12 ?bq6x12 ?cq6x12 ?qq6x12 (Or.inr ⟨?wq6x12, rfl⟩) hHeld ?rq6x12
         case hq6x12 => (simp only [List.getElem?_toArray, List.getElem?_cons_zero, List.getElem?_cons_succ]; try rfl)
         case aq6x12 => kernel_rfl
         case bq6x12 => kernel_rfl
         case cq6x12 => kernel_rfl
         case qq6x12 => exact fun _ _ _ h => h
         case wq6x12 => rfl
         try simp only [Act.put, List.setIfInBounds_toArray, List.set_cons_zero, List.set_cons_succ]
         refine wpAnyH_take (i := 13) (oi := ?oq7x13) (v := undef) ?hq7x13 ?aq7x13 ?bq7x13 ?cq7x13 ?qq7x13 (Or.inr ⟨?wq7x13, rfl⟩) hHeld ?rq7x13
         case hq7x13 => (simp only [List.getElem?_toArray, List.getElem?_cons_zero, List.getElem?_cons_succ]; try rfl)
         case aq7x13 => kernel_rfl
         case bq7x13 => kernel_rfl
         case cq7x13 => kernel_rfl
         case qq7x13 => exact fun _ _ _ h => h
         case wq7x13 => rfl
         try simp only [Act.put, List.setIfInBounds_toArray, List.set_cons_zero, List.set_cons_succ]
         refine wpAnyH_take (i := 14) (oi := ?oq8x14) (v := undef) ?hq8x14 ?aq8x14 ?bq8x14 ?cq8x14 ?qq8x14 (Or.inr ⟨?wq8x14, rfl⟩) hHeld ?rq8x14
         case hq8x14 => (simp only [List.getElem?_toArray, List.getElem?_cons_zero, List.getElem?_cons_succ]; try rfl)
         case aq8x14 => kernel_rfl
         case bq8x14 => kernel_rfl
         case cq8x14 => kernel_rfl
         case qq8x14 => exact fun _ _ _ h => h
         case wq8x14 => rfl
         try simp only [Act.put, List.setIfInBounds_toArray, List.set_cons_zero, List.set_cons_succ]
         refine wpAnyH_take (i := 15) (oi := ?oq9x15) (v := undef) ?hq9x15 ?aq9x15 ?bq9x15 ?cq9x15 ?qq9x15 (Or.inr ⟨?wq9x15, rfl⟩) hHeld ?rq9x15
         case hq9x15 => (simp only [List.getElem?_toArray, List.getElem?_cons_zero, List.getElem?_cons_succ]; try rfl)
         case aq9x15 => kernel_rfl
         case bq9x15 => kernel_rfl
         case cq9x15 => kernel_rfl
         case qq9x15 => exact fun _ _ _ h => h
         case wq9x15 => rfl
         try simp only [Act.put, List.setIfInBounds_toArray, List.set_cons_zero, List.set_cons_succ]
         refine takeC 16 hHeld ?_
         refine wpAnyH_done (by kernel_rfl) ?_ _
         clear hHeld
         have HR7 := Lib.hid (show Keeps wa w6.drew from HR6.out.drew)
         obtain ⟨w7, hw7⟩ : ∃ w7 : World, w7 = w6.drew := ⟨_, rfl⟩
         rw [← hw7] at HR7 ⊢
         clear hw7
         have q0 := ((HFA.out.keep HR7.out)).cell (j := 0) rfl
         have q1 := ((HFA.out.keep HR7.out)).cell (j := 1) rfl
         have q2 := ((HFA.out.keep HR7.out)).cell (j := 2) rfl
         have z0 := ((HFA.out.keep HR7.out)).thawed 0
         have z1 := ((HFA.out.keep HR7.out)).thawed 1
         have z2 := ((HFA.out.keep HR7.out)).thawed 2
         have lq := (HFA.out.keep HR7.out).lt
         go_wp2_with fail
         obtain ⟨wf, hwf⟩ : ∃ wf : World, wf = (((w7).setCell ⟨w.heap.size + 1, 0, none⟩ (.slice none 0 0)).setCell ⟨w.heap.size + 1, 1, none⟩ (.slice none 0 0)).setCell ⟨w.heap.size + 1, 2, none⟩ (.slice none 0 0) := ⟨_, rfl⟩
         rw [← hwf]
         obtain ⟨hBf, hgf⟩ := put3 (HFA.out.keep HR7.out) _ _ _ hwf
         have HKF := Lib.hid (keepsPut (HKWA.out.trans HR7.out) (by omega) hgf)
         have e0 := hBf.cell (j := 0) rfl
         have e1 := hBf.cell (j := 1) rfl
         have e2 := hBf.cell (j := 2) rfl
         clear hwf hBf hgf
         exact bodyPost_ret (v := .tuple #[.agg #[.slice none 0 0, .slice none 0 0, .slice none 0 0], .int .i64 9]) (by simp [results, Tryd.results7, go_sem, e0, e1, e2]) rfl (FlAns.bad (one_bad HFE.out.symm HBIG.out HRB.out) HKF.out)
        case pos =>
        obtain ⟨X, hX⟩ : ∃ X : Nat, (a : Int) + N = (X : Int) := ⟨((a : Int) + N).toNat, by omega⟩
        have hXN : X < N1 := by omega
        have hXz : (X : Int) < (N1 : Int) := by omega
        obtain ⟨p1, -, p3, -, -⟩ := ownC_cell hO6 (j := X) (by rw [ownArr_len]; exact hXN)
        rw [ownArr_at _ hXN] at p1
        obtain ⟨OX, hOX⟩ : ∃ z, z = (ownS (allS m) m.Funcs.length (X : Int)).getD (-1) := ⟨_, rfl⟩
        rw [← hOX] at p1
        have p1' : w6.drew.cell? ⟨gO, X, none⟩ = some (.int .i64 OX) := p1
        have HXX := Lib.hid hX
        have hdd : decide (ownS (allS m) m.Funcs.length ((a : Int) + N) = some FI) = decide (OX = FI) := by
         rw [hX, hOX]
         exact decide_eq_decide.2 (ownR_is (m := m) (by omega))
        have HDD := Lib.hid hdd
        have wX : (a : Int) + N = (X : Int) := hX
        have tO : decide (OX = FI) = (OX == FI) := by rfl
        clear o1 hO6 p1 hOX hdd hX
        refine wp_region_held_drew (S := Cells [(w.heap.size, 0, .slice x0 TL x0c), (gO, X, .int .i64 OX), (gO, a, .int .i64 FI)]) (by kernel_rfl) ⟨n0, p1', o1', trivial⟩ (fun hHeld => ?_)
        clear n0 o1' p1'
        refine takeC 0 hHeld ?_
        refine takeC 1 hHeld ?_
        refine takeC 2 hHeld ?_
        refine takeC 3 hHeld ?_
        refine wpAnyH_ready (rs := [4]) (by kernel_rfl) (by simp) ?_
        refine AllReadyH.cons (o := ?or25) ?hr25 ?sr25 ?mr25
        case hr25 => (simp only [List.getElem?_toArray, List.getElem?_cons_zero, List.getElem?_cons_succ]; try rfl)
        case mr25 => exact AllReadyH.nil
        case sr25 =>
        intro K' hK
        go_simp
        go_at_call 23
        refine (in_yes' _ _ _ _ (by omega) (by omega)).mono ?_
        rintro e wz ⟨rfl, rfl⟩
        refine hK.out _ _ hHeld (fun hHeld2 => ?_)
        clear hK K' hHeld
        have hHeld := hHeld2
        clear hHeld2
        try simp only [Act.put, List.setIfInBounds_toArray, List.set_cons_zero, List.set_cons_succ]
        refine takeC 5 hHeld ?_
        refine takeC 6 hHeld ?_
        refine takeC 7 hHeld ?_
        refine takeC 8 hHeld ?_
        refine takeC 9 hHeld ?_
        refine takeC 10 hHeld ?_
        refine takeC 11 hHeld ?_
        refine takeC 12 hHeld ?_
        refine takeC 13 hHeld ?_
        refine takeC 14 hHeld ?_
        refine takeC 15 hHeld ?_
        refine takeC 16 hHeld ?_
        refine wpAnyH_done (by kernel_rfl) ?_ _
        clear hHeld
        have HR7 := Lib.hid (show Keeps wa w6.drew from HR6.out.drew)
        by_cases hox : OX = FI
        case neg =>
         have tox : (OX != FI) = true := by simpa using hox
         have HRB : Hid (recB m = true) := Lib.hid (HBADS.out (by rw [HSPJ.out, HDD.out, decide_eq_false hox]; rfl))
         obtain ⟨w7, hw7⟩ : ∃ w7 : World, w7 = w6.drew := ⟨_, rfl⟩
         rw [← hw7] at HR7 ⊢
         clear o3 p3 hox hw7
         have q0 := ((HFA.out.keep HR7.out)).cell (j := 0) rfl
         have q1 := ((HFA.out.keep HR7.out)).cell (j := 1) rfl
         have q2 := ((HFA.out.keep HR7.out)).cell (j := 2) rfl
         have z0 := ((HFA.out.keep HR7.out)).thawed 0
         have z1 := ((HFA.out.keep HR7.out)).thawed 1
         have z2 := ((HFA.out.keep HR7.out)).thawed 2
         have lq := (HFA.out.keep HR7.out).lt
         go_wp2_with fail
         obtain ⟨wf, hwf⟩ : ∃ wf : World, wf = (((w7).setCell ⟨w.heap.size + 1, 0, none⟩ (.slice none 0 0)).setCell ⟨w.heap.size + 1, 1, none⟩ (.slice none 0 0)).setCell ⟨w.heap.size + 1, 2, none⟩ (.slice none 0 0) := ⟨_, rfl⟩
         rw [← hwf]
         obtain ⟨hBf, hgf⟩ := put3 (HFA.out.keep HR7.out) _ _ _ hwf
         have HKF := Lib.hid (keepsPut (HKWA.out.trans HR7.out) (by omega) hgf)
         have e0 := hBf.cell (j := 0) rfl
         have e1 := hBf.cell (j := 1) rfl
         have e2 := hBf.cell (j := 2) rfl
         clear hwf hBf hgf
         exact bodyPost_ret (v := .tuple #[.agg #[.slice none 0 0, .slice none 0 0, .slice none 0 0], .int .i64 9]) (by simp [results, Tryd.results7, go_sem, e0, e1, e2]) rfl (FlAns.bad (one_bad HFE.out.symm HBIG.out HRB.out) HKF.out)
        case pos =>
        have tox : (OX != FI) = false := by simpa using hox
        have HSPF : Hid (spB m (ownS (allS m) m.Funcs.length) FI ⟨a, Z, ⟨K, D, A, B, N, Lg⟩⟩ = false) := Lib.hid (by rw [HSPJ.out, HDD.out, decide_eq_true hox]; rfl)
        have hdk : Keeps w6 w6.drew := (Keeps.refl _).drew
        have HT7 := Lib.hid (HT6.out.keep hdk)
        have HB7 := Lib.hid (HB6.out.keep hdk)
        have HQ7 := Lib.hid (HQ6.out.keep hdk)
        clear o3 p3 hox hdk tO
        go_upto_region 34 with fail
        obtain ⟨w7, hw7⟩ : ∃ w7 : World, w7 = w6.drew := ⟨_, rfl⟩
        rw [← hw7] at HR7 HT7 HB7 HQ7 ⊢
        clear hw7 tox
        obtain ⟨b1, b2, b3, b4, b5⟩ := ownC_cell HB7.out (j := X) (by rw [bgArr_len]; omega)
        obtain ⟨BX, hBX⟩ : ∃ z, z = nth (bgArr (ks ++ [(Y : Int)]) N1) X := ⟨_, rfl⟩
        rw [← hBX] at b1
        have b1' : w7.cell? ⟨gB, X, none⟩ = some (.bool BX) := b1
        have hB5 := b4 true
        rw [bgArr_put _ (by omega)] at hB5
        obtain ⟨w8, hw8⟩ : ∃ w', w' = w7.setCell ⟨gB, X, none⟩ (.bool true) := ⟨_, rfl⟩
        have hB5' : OwnB 2 cq w8 wa.heap.size (.slice (some ⟨gB, 0, none⟩) N1 N1) (bgArr ((ks ++ [(Y : Int)]) ++ [(X : Int)]) N1) := by rw [hw8]; exact hB5
        have ht5 : Turn (fun z => z = 2) cq w7 cq w8 := by rw [hw8]; exact b5 (bV true)
        have HB8 := Lib.hid hB5'
        have HT8 := Lib.hid (HT7.out.trans ht5)
        have HQ8 := Lib.hid ((BlkC.turn ⟨HQ7.out, HCQ.out⟩ ht5 (by decide)).1)
        have HR8 : Hid (Keeps wa w8) := Lib.hid ((HT2.out.trans (HT8.out.mono (J := (fun z => z ≠ 0)) fun z h => by omega)).below (Nat.le_refl _) (fun _ _ => rfl) (fun q => q rfl))
        have HW8 := Lib.hid hw8
        clear b1 hBX hB5 hB5' b4 b5 ht5 hw8
        go_upto_region 35 with fail
        rw [← HW8.out]
        clear HW8 b1' b2 b3
        have u0 : w8.cell? ⟨gq, 0, none⟩ = some (.int .i64 K) := (HQ8.out).cell rfl
        have u1 : w8.cell? ⟨gq, 1, none⟩ = some (.int .i64 D) := (HQ8.out).cell rfl
        have u2 : w8.cell? ⟨gq, 2, none⟩ = some (.int .i64 A) := (HQ8.out).cell rfl
        have u3 : w8.cell? ⟨gq, 3, none⟩ = some (.int .i64 B) := (HQ8.out).cell rfl
        have u4 : w8.cell? ⟨gq, 4, none⟩ = some (.int .i64 N) := (HQ8.out).cell rfl
        have u5 : w8.cell? ⟨gq, 5, none⟩ = some (.bool Lg) := (HQ8.out).cell rfl
        have ul := HQ8.out.lt
        have tk23 : (K == 23) = false := by simpa using hk23
        have tk24 : (K == 24) = false := by simpa using hk24
        have HKEY : Hid (keysP pp.2 = [(X : Int), (Y : Int)]) := Lib.hid (by rw [HKJ.out, HXX.out, HYY.out])
        have HB9 : Hid (OwnB 2 cq w8 wa.heap.size (.slice (some ⟨gB, 0, none⟩) N1 N1) (bgArr (ks ++ [(Y : Int), (X : Int)]) N1)) := Lib.hid (by rw [show ks ++ [(Y : Int), (X : Int)] = ks ++ [(Y : Int)] ++ [(X : Int)] by simp]; exact HB8.out)
        clear wX
        go_wp2_with fail
        go_roundw
        case rel => exact ⟨a + 1, cq, _, by omega, by go_num, HT8, HB9, Lib.hid (KeysAt.step HG.out HSW.out HKS.out HPP.out HPA.out (by intro x; rw [HKEY.out]; simp only [List.mem_cons, List.not_mem_nil, or_false]; exact or_comm)), Lib.hid (fun j hj => by
         rcases Nat.lt_or_ge j a with z | z
         ·exact HAT.out j z
         ·obtain rfl : j = a := by omega
          rw [HSPB.out]; exact HSPF.out)⟩
        case measure => simp [intOf]; omega
       case neg =>
        have h22 : K = 22 := hj.resolve_left hb
        have hENv : EN = 3 := by rw [hEN, h22]; decide
        clear hEN hj hb h22
        as_aux_lemma =>
        have tE0 : decide ((0 : Int) < EN) = true := by rw [hENv]; decide
        go_upto_region 30 with (go_at_call 22; refine (HEN.out _).mono ?_; rintro e we ⟨rfl, hke⟩; have u0 : we.cell? ⟨gq, 0, none⟩ = some (.int .i64 K) := (HQq.out.keep hke).cell rfl; have u1 : we.cell? ⟨gq, 1, none⟩ = some (.int .i64 D) := (HQq.out.keep hke).cell rfl; have u2 : we.cell? ⟨gq, 2, none⟩ = some (.int .i64 A) := (HQq.out.keep hke).cell rfl; have u3 : we.cell? ⟨gq, 3, none⟩ = some (.int .i64 B) := (HQq.out.keep hke).cell rfl; have u4 : we.cell? ⟨gq, 4, none⟩ = some (.int .i64 N) := (HQq.out.keep hke).cell rfl; have u5 : we.cell? ⟨gq, 5, none⟩ = some (.bool Lg) := (HQq.out.keep hke).cell rfl; have ul := (HQq.out.keep hke).lt; have HKE := Lib.hid hke)
        have HTe := Lib.hid (HTq.out.keep HKE.out)
        have HBe := Lib.hid (HBq.out.keep HKE.out)
        have HQe := Lib.hid (HQq.out.keep HKE.out)
        have HRe := Lib.hid (HRq.out.trans HKE.out)
        obtain ⟨Y, hY⟩ : ∃ Y : Nat, (a : Int) + Z = (Y : Int) := ⟨((a : Int) + Z).toNat, by omega⟩
        have wY : IntKind.i64.wrap ((a : Int) + Z) = (Y : Int) := by rw [IntKind.wrap_i64]; omega
        have hYN : Y < N1 := by omega
        have hYz : (Y : Int) < (N1 : Int) := by omega
        have HYY := Lib.hid hY
        clear hY tE0 u0 u1 u2 u3 u4 u5 ul
        obtain ⟨b1, b2, b3, b4, b5⟩ := ownC_cell HBe.out (j := Y) (by rw [bgArr_len]; omega)
        obtain ⟨BX, hBX⟩ : ∃ z, z = nth (bgArr ks N1) Y := ⟨_, rfl⟩
        rw [← hBX] at b1
        have b1' : we.cell? ⟨gB, Y, none⟩ = some (.bool BX) := b1
        have hB5 := b4 true
        rw [bgArr_put _ (by omega)] at hB5
        obtain ⟨w5, hw5⟩ : ∃ w', w' = we.setCell ⟨gB, Y, none⟩ (.bool true) := ⟨_, rfl⟩
        have hB5' : OwnB 2 cq w5 wa.heap.size (.slice (some ⟨gB, 0, none⟩) N1 N1) (bgArr (ks ++ [(Y : Int)]) N1) := by rw [hw5]; exact hB5
        have ht5 : Turn (fun z => z = 2) cq we cq w5 := by rw [hw5]; exact b5 (bV true)
        have HB5 := Lib.hid hB5'
        have HT5 := Lib.hid (HTe.out.trans ht5)
        have HQ5 := Lib.hid ((BlkC.turn ⟨HQe.out, HCQ.out⟩ ht5 (by decide)).1)
        have HR5 : Hid (Keeps wa w5) := Lib.hid ((HT2.out.trans (HT5.out.mono (J := (fun z => z ≠ 0)) fun z h => by omega)).below (Nat.le_refl _) (fun _ _ => rfl) (fun q => q rfl))
        have HW5 := Lib.hid hw5
        clear b1 hBX hB5 hB5' b4 b5 ht5 hw5
        go_upto_region 31 with fail
        rw [← HW5.out]
        clear HW5 b1' b2 b3
        have u0 : w5.cell? ⟨gq, 0, none⟩ = some (.int .i64 K) := (HQ5.out).cell rfl
        have u1 : w5.cell? ⟨gq, 1, none⟩ = some (.int .i64 D) := (HQ5.out).cell rfl
        have u2 : w5.cell? ⟨gq, 2, none⟩ = some (.int .i64 A) := (HQ5.out).cell rfl
        have u3 : w5.cell? ⟨gq, 3, none⟩ = some (.int .i64 B) := (HQ5.out).cell rfl
        have u4 : w5.cell? ⟨gq, 4, none⟩ = some (.int .i64 N) := (HQ5.out).cell rfl
        have u5 : w5.cell? ⟨gq, 5, none⟩ = some (.bool Lg) := (HQ5.out).cell rfl
        have ul := HQ5.out.lt
        clear wY
        have tE4 : (EN == 4) = false := by rw [hENv]; decide
        have tE3 : (EN == 3) = true := by rw [hENv]; decide
        clear hENv
        go_upto_region 32 with first | (go_at_call 22; refine (HEN.out _).mono ?_; rintro e we ⟨rfl, hke⟩; have u0 : we.cell? ⟨gq, 0, none⟩ = some (.int .i64 K) := (HQ5.out.keep hke).cell rfl; have u1 : we.cell? ⟨gq, 1, none⟩ = some (.int .i64 D) := (HQ5.out.keep hke).cell rfl; have u2 : we.cell? ⟨gq, 2, none⟩ = some (.int .i64 A) := (HQ5.out.keep hke).cell rfl; have u3 : we.cell? ⟨gq, 3, none⟩ = some (.int .i64 B) := (HQ5.out.keep hke).cell rfl; have u4 : we.cell? ⟨gq, 4, none⟩ = some (.int .i64 N) := (HQ5.out.keep hke).cell rfl; have u5 : we.cell? ⟨gq, 5, none⟩ = some (.bool Lg) := (HQ5.out.keep hke).cell rfl; have ul := (HQ5.out.keep hke).lt; have HKE := Lib.hid hke) | (go_at_call 22; refine (HEN.out _).mono ?_; rintro e wf ⟨rfl, hkf⟩; have u0 : wf.cell? ⟨gq, 0, none⟩ = some (.int .i64 K) := ((HQ5.out.keep HKE.out).keep hkf).cell rfl; have u1 : wf.cell? ⟨gq, 1, none⟩ = some (.int .i64 D) := ((HQ5.out.keep HKE.out).keep hkf).cell rfl; have u2 : wf.cell? ⟨gq, 2, none⟩ = some (.int .i64 A) := ((HQ5.out.keep HKE.out).keep hkf).cell rfl; have u3 : wf.cell? ⟨gq, 3, none⟩ = some (.int .i64 B) := ((HQ5.out.keep HKE.out).keep hkf).cell rfl; have u4 : wf.cell? ⟨gq, 4, none⟩ = some (.int .i64 N) := ((HQ5.out.keep HKE.out).keep hkf).cell rfl; have u5 : wf.cell? ⟨gq, 5, none⟩ = some (.bool Lg) := ((HQ5.out.keep HKE.out).keep hkf).cell rfl; have ul := ((HQ5.out.keep HKE.out).keep hkf).lt; have HKF := Lib.hid hkf)
        clear tE4 tE3
        have HT6 := Lib.hid (HT5.out.keep (HKE.out.trans HKF.out))
        have HB6 := Lib.hid (HB5.out.keep (HKE.out.trans HKF.out))
        have HQ6 := Lib.hid (HQ5.out.keep (HKE.out.trans HKF.out))
        have HR6 := Lib.hid (HR5.out.trans (HKE.out.trans HKF.out))
        obtain ⟨w6, hw6⟩ : ∃ w6 : World, w6 = wf := ⟨_, rfl⟩
        subst hw6
        clear u0 u1 u2 u3 u4 u5 ul
        have hO6 := HO2.out.turn HT6.out (by decide)
        obtain ⟨o1, -, o3, -, -⟩ := ownC_cell hO6 (j := a) (by rw [ownArr_len]; omega)
        rw [ownArr_at _ (by omega)] at o1
        have o1' : w6.drew.cell? ⟨gO, a, none⟩ = some (.int .i64 FI) := by
         have z : w6.cell? ⟨gO, a, none⟩ = some (.int .i64 ((ownS (allS m) m.Funcs.length (a : Int)).getD (-1))) := o1
         rw [show (ownS (allS m) m.Funcs.length (a : Int)).getD (-1) = FI from HOWN.out] at z
         exact z
        have n0 : w6.drew.cell? ⟨w.heap.size, 0, none⟩ = some (.slice x0 TL x0c) := (HMA.out.keep HR6.out).cell rfl
        by_cases hin : 0 ≤ (a : Int) + N ∧ (a : Int) + N ≤ TL
        case neg =>
         have HRB : Hid (recB m = true) := Lib.hid (HBADS.out (by rw [HSPJ.out, decide_eq_false (fun q => HOUT.out hin q)]; rfl))
         clear o1 hO6
         refine wp_region_held_drew (S := Cells [(w.heap.size, 0, .slice x0 TL x0c)]) (by kernel_rfl) ⟨n0, trivial⟩ (fun hHeld => ?_)
         clear n0 o1' o3
         refine takeC 0 hHeld ?_
         refine takeC 1 hHeld ?_
         refine takeC 2 hHeld ?_
         refine takeC 3 hHeld ?_
         refine wpAnyH_ready (rs := [4]) (by kernel_rfl) (by simp) ?_
         refine AllReadyH.cons (o := ?or26) ?hr26 ?sr26 ?mr26
         case hr26 => (simp only [List.getElem?_toArray, List.getElem?_cons_zero, List.getElem?_cons_succ]; try rfl)
         case mr26 => exact AllReadyH.nil
         case sr26 =>
         intro K' hK
         go_simp
         go_at_call 23
         refine (in_no' _ _ _ _ (by omega)).mono ?_
         rintro e wz ⟨rfl, rfl⟩
         refine hK.out _ _ hHeld (fun hHeld2 => ?_)
         clear hK K' hHeld
         have hHeld := hHeld2
         clear hHeld2
         try simp only [Act.put, List.setIfInBounds_toArray, List.set_cons_zero, List.set_cons_succ]
         refine takeC 5 hHeld ?_
         refine takeC 6 hHeld ?_
         refine wpAnyH_take (i := 7) (oi := ?oq10x7) (v := undef) ?hq10x7 ?aq10x7 ?bq10x7 ?cq10x7 ?qq10x7 (Or.inr ⟨?wq10x7, rfl⟩) hHeld ?rq10x7
         case hq10x7 => (simp only [List.getElem?_toArray, List.getElem?_cons_zero, List.getElem?_cons_succ]; try rfl)
         case aq10x7 => kernel_rfl
         case bq10x7 => kernel_rfl
         case cq10x7 => kernel_rfl
         case qq10x7 => exact fun _ _ _ h => h
         case wq10x7 => rfl
         try simp only [Act.put, List.setIfInBounds_toArray, List.set_cons_zero, List.set_cons_succ]
         refine wpAnyH_take (i := 8) (oi := ?oq11x8) (v := undef) ?hq11x8 ?aq11x8 ?bq11x8 ?cq11x8 ?qq11x8 (Or.inr ⟨?wq11x8, rfl⟩) hHeld ?rq11x8
         case hq11x8 => (simp only [List.getElem?_toArray, List.getElem?_cons_zero, List.getElem?_cons_succ]; try rfl)
         case aq11x8 => kernel_rfl
         case bq11x8 => kernel_rfl
         case cq11x8 => kernel_rfl
         case qq11x8 => exact fun _ _ _ h => h
         case wq11x8 => rfl
         try simp only [Act.put, List.setIfInBounds_toArray, List.set_cons_zero, List.set_cons_succ]
         refine wpAnyH_take (i := 9) (oi := ?oq12x9) (v := undef) ?hq12x9 ?aq12x9 ?bq12x9 ?cq12x9 ?qq12x9 (Or.inr ⟨?wq12x9, rfl⟩) hHeld ?rq12x9
         case hq12x9 => (simp only [List.getElem?_toArray, List.getElem?_cons_zero, List.getElem?_cons_succ]; try rfl)
         case aq12x9 => kernel_rfl
         case bq12x9 => kernel_rfl
         case cq12x9 => kernel_rfl
         case qq12x9 => exact fun _ _ _ h => h
         case wq12x9 => rfl
         try simp only [Act.put, List.setIfInBounds_toArray, List.set_cons_zero, List.set_cons_succ]
         refine wpAnyH_take (i := 10) (oi := ?oq13x10) (v := undef) ?hq13x10 ?aq13x10 ?bq13x10 ?cq13x10 ?qq13x10 (Or.inr ⟨?wq13x10, rfl⟩) hHeld ?rq13x10
         case hq13x10 => (simp only [List.getElem?_toArray, List.getElem?_cons_zero, List.getElem?_cons_succ]; try rfl)
         case aq13x10 => kernel_rfl
         case bq13x10 => kernel_rfl
         case cq13x10 => kernel_rfl
         case qq13x10 => exact fun _ _ _ h => h
         case wq13x10 => rfl
         try simp only [Act.put, List.setIfInBounds_toArray, List.set_cons_zero, List.set_cons_succ]
         refine wpAnyH_take (i := 11) (oi := ?oq14x11) (v := undef) ?hq14x11 ?aq14x11 ?bq14x11 ?cq14x11 ?qq14x11 (Or.inr ⟨?wq14x11, rfl⟩) hHeld ?rq14x11
         case hq14x11 => (simp only [List.getElem?_toArray, List.getElem?_cons_zero, List.getElem?_cons_succ]; try rfl)
         case aq14x11 => kernel_rfl
         case bq14x11 => kernel_rfl
         case cq14x11 => kernel_rfl
         case qq14x11 => exact fun _ _ _ h => h
         case wq14x11 => rfl
         try simp only [Act.put, List.setIfInBounds_toArray, List.set_cons_zero, List.set_cons_succ]
         refine wpAnyH_take (i := 12) (oi := ?oq15x12) (v := undef) ?hq15x12 ?aq15x12 ?bq15x12 ?cq15x12 ?qq15x12 (Or.inr ⟨?wq15x12, rfl⟩) hHeld ?rq15x12
         case hq15x12 => (simp only [List.getElem?_toArray, List.getElem?_cons_zero, List.getElem?_cons_succ]; try rfl)
         case aq15x12 => kernel_rfl
         case bq15x12 => kernel_rfl
         case cq15x12 => kernel_rfl
         case qq15x12 => exact fun _ _ _ h => h
         case wq15x12 => rfl
         try simp only [Act.put, List.setIfInBounds_toArray, List.set_cons_zero, List.set_cons_succ]
         refine wpAnyH_take (i := 13) (oi := ?oq16x13) (v := undef) ?hq16x13 ?aq16x13 ?bq16x13 ?cq16x13 ?qq16x13 (Or.inr ⟨?wq16x13, rfl⟩) hHeld ?rq16x13
         case hq16x13 => (simp only [List.getElem?_toArray, List.getElem?_cons_zero, List.getElem?_cons_succ]; try rfl)
         case aq16x13 => kernel_rfl
         case bq16x13 => kernel_rfl
         case cq16x13 => kernel_rfl
         case qq16x13 => exact fun _ _ _ h => h
         case wq16x13 => rfl
         try simp only [Act.put, List.setIfInBounds_toArray, List.set_cons_zero, List.set_cons_succ]
         refine wpAnyH_take (i := 14) (oi := ?oq17x14) (v := undef) ?hq17x14 ?aq17x14 ?bq17x14 ?cq17x14 ?qq17x14 (Or.inr ⟨?wq17x14, rfl⟩) hHeld ?rq17x14
         case hq17x14 => (simp only [List.getElem?_toArray, List.getElem?_cons_zero, List.getElem?_cons_succ]; try rfl)
         case aq17x14 => kernel_rfl
         case bq17x14 => kernel_rfl
         case cq17x14 => kernel_rfl
         case qq17x14 => exact fun _ _ _ h => h
         case wq17x14 => rfl
         try simp only [Act.put, List.setIfInBounds_toArray, List.set_cons_zero, List.set_cons_succ]
         refine wpAnyH_take (i := 15) (oi := ?oq18x15) (v := undef) ?hq18x15 ?aq18x15 ?bq18x15 ?cq18x15 ?qq18x15 (Or.inr ⟨?wq18x15, rfl⟩) hHeld ?rq18x15
         case hq18x15 => (simp only [List.getElem?_toArray, List.getElem?_cons_zero, List.getElem?_cons_succ]; try rfl)
         case aq18x15 => kernel_rfl
         case bq18x15 => kernel_rfl
         case cq18x15 => kernel_rfl
         case qq18x15 => exact fun _ _ _ h => h
         case wq18x15 => rfl
         try simp only [Act.put, List.setIfInBounds_toArray, List.set_cons_zero, List.set_cons_succ]
         refine takeC 16 hHeld ?_
         refine wpAnyH_done (by kernel_rfl) ?_ _
         clear hHeld
         have HR7 := Lib.hid (show Keeps wa w6.drew from HR6.out.drew)
         obtain ⟨w7, hw7⟩ : ∃ w7 : World, w7 = w6.drew := ⟨_, rfl⟩
         rw [← hw7] at HR7 ⊢
         clear hw7
         have q0 := ((HFA.out.keep HR7.out)).cell (j := 0) rfl
         have q1 := ((HFA.out.keep HR7.out)).cell (j := 1) rfl
         have q2 := ((HFA.out.keep HR7.out)).cell (j := 2) rfl
         have z0 := ((HFA.out.keep HR7.out)).thawed 0
         have z1 := ((HFA.out.keep HR7.out)).thawed 1
         have z2 := ((HFA.out.keep HR7.out)).thawed 2
         have lq := (HFA.out.keep HR7.out).lt
         go_wp2_with fail
         obtain ⟨wf, hwf⟩ : ∃ wf : World, wf = (((w7).setCell ⟨w.heap.size + 1, 0, none⟩ (.slice none 0 0)).setCell ⟨w.heap.size + 1, 1, none⟩ (.slice none 0 0)).setCell ⟨w.heap.size + 1, 2, none⟩ (.slice none 0 0) := ⟨_, rfl⟩
         rw [← hwf]
         obtain ⟨hBf, hgf⟩ := put3 (HFA.out.keep HR7.out) _ _ _ hwf
         have HKF := Lib.hid (keepsPut (HKWA.out.trans HR7.out) (by omega) hgf)
         have e0 := hBf.cell (j := 0) rfl
         have e1 := hBf.cell (j := 1) rfl
         have e2 := hBf.cell (j := 2) rfl
         clear hwf hBf hgf
         exact bodyPost_ret (v := .tuple #[.agg #[.slice none 0 0, .slice none 0 0, .slice none 0 0], .int .i64 9]) (by simp [results, Tryd.results7, go_sem, e0, e1, e2]) rfl (FlAns.bad (one_bad HFE.out.symm HBIG.out HRB.out) HKF.out)
        case pos =>
        obtain ⟨X, hX⟩ : ∃ X : Nat, (a : Int) + N = (X : Int) := ⟨((a : Int) + N).toNat, by omega⟩
        have hXN : X < N1 := by omega
        have hXz : (X : Int) < (N1 : Int) := by omega
        obtain ⟨p1, -, p3, -, -⟩ := ownC_cell hO6 (j := X) (by rw [ownArr_len]; exact hXN)
        rw [ownArr_at _ hXN] at p1
        obtain ⟨OX, hOX⟩ : ∃ z, z = (ownS (allS m) m.Funcs.length (X : Int)).getD (-1) := ⟨_, rfl⟩
        rw [← hOX] at p1
        have p1' : w6.drew.cell? ⟨gO, X, none⟩ = some (.int .i64 OX) := p1
        have HXX := Lib.hid hX
        have hdd : decide (ownS (allS m) m.Funcs.length ((a : Int) + N) = some FI) = decide (OX = FI) := by
         rw [hX, hOX]
         exact decide_eq_decide.2 (ownR_is (m := m) (by omega))
        have HDD := Lib.hid hdd
        have wX : (a : Int) + N = (X : Int) := hX
        have tO : decide (OX = FI) = (OX == FI) := by rfl
        clear o1 hO6 p1 hOX hdd hX
        refine wp_region_held_drew (S := Cells [(w.heap.size, 0, .slice x0 TL x0c), (gO, X, .int .i64 OX), (gO, a, .int .i64 FI)]) (by kernel_rfl) ⟨n0, p1', o1', trivial⟩ (fun hHeld => ?_)
        clear n0 o1' p1'
        refine takeC 0 hHeld ?_
        refine takeC 1 hHeld ?_
        refine takeC 2 hHeld ?_
        refine takeC 3 hHeld ?_
        refine wpAnyH_ready (rs := [4]) (by kernel_rfl) (by simp) ?_
        refine AllReadyH.cons (o := ?or27) ?hr27 ?sr27 ?mr27
        case hr27 => (simp only [List.getElem?_toArray, List.getElem?_cons_zero, List.getElem?_cons_succ]; try rfl)
        case mr27 => exact AllReadyH.nil
        case sr27 =>
        intro K' hK
        go_simp
        go_at_call 23
        refine (in_yes' _ _ _ _ (by omega) (by omega)).mono ?_
        rintro e wz ⟨rfl, rfl⟩
        refine hK.out _ _ hHeld (fun hHeld2 => ?_)
        clear hK K' hHeld
        have hHeld := hHeld2
        clear hHeld2
        try simp only [Act.put, List.setIfInBounds_toArray, List.set_cons_zero, List.set_cons_succ]
        refine takeC 5 hHeld ?_
        refine takeC 6 hHeld ?_
        refine takeC 7 hHeld ?_
        refine takeC 8 hHeld ?_
        refine takeC 9 hHeld ?_
        refine takeC 10 hHeld ?_
        refine takeC 11 hHeld ?_
        refine takeC 12 hHeld ?_
        refine takeC 13 hHeld ?_
        refine takeC 14 hHeld ?_
        refine takeC 15 hHeld ?_
        refine takeC 16 hHeld ?_
        refine wpAnyH_done (by kernel_rfl) ?_ _
        clear hHeld
        have HR7 := Lib.hid (show Keeps wa w6.drew from HR6.out.drew)
        by_cases hox : OX = FI
        case neg =>
         have tox : (OX != FI) = true := by simpa using hox
         have HRB : Hid (recB m = true) := Lib.hid (HBADS.out (by rw [HSPJ.out, HDD.out, decide_eq_false hox]; rfl))
         obtain ⟨w7, hw7⟩ : ∃ w7 : World, w7 = w6.drew := ⟨_, rfl⟩
         rw [← hw7] at HR7 ⊢
         clear o3 p3 hox hw7
         have q0 := ((HFA.out.keep HR7.out)).cell (j := 0) rfl
         have q1 := ((HFA.out.keep HR7.out)).cell (j := 1) rfl
         have q2 := ((HFA.out.keep HR7.out)).cell (j := 2) rfl
         have z0 := ((HFA.out.keep HR7.out)).thawed 0
         have z1 := ((HFA.out.keep HR7.out)).thawed 1
         have z2 := ((HFA.out.keep HR7.out)).thawed 2
         have lq := (HFA.out.keep HR7.out).lt
         go_wp2_with fail
         obtain ⟨wf, hwf⟩ : ∃ wf : World, wf = (((w7).setCell ⟨w.heap.size + 1, 0, none⟩ (.slice none 0 0)).setCell ⟨w.heap.size + 1, 1, none⟩ (.slice none 0 0)).setCell ⟨w.heap.size + 1, 2, none⟩ (.slice none 0 0) := ⟨_, rfl⟩
         rw [← hwf]
         obtain ⟨hBf, hgf⟩ := put3 (HFA.out.keep HR7.out) _ _ _ hwf
         have HKF := Lib.hid (keepsPut (HKWA.out.trans HR7.out) (by omega) hgf)
         have e0 := hBf.cell (j := 0) rfl
         have e1 := hBf.cell (j := 1) rfl
         have e2 := hBf.cell (j := 2) rfl
         clear hwf hBf hgf
         exact bodyPost_ret (v := .tuple #[.agg #[.slice none 0 0, .slice none 0 0, .slice none 0 0], .int .i64 9]) (by simp [results, Tryd.results7, go_sem, e0, e1, e2]) rfl (FlAns.bad (one_bad HFE.out.symm HBIG.out HRB.out) HKF.out)
        case pos =>
        have tox : (OX != FI) = false := by simpa using hox
        have HSPF : Hid (spB m (ownS (allS m) m.Funcs.length) FI ⟨a, Z, ⟨K, D, A, B, N, Lg⟩⟩ = false) := Lib.hid (by rw [HSPJ.out, HDD.out, decide_eq_true hox]; rfl)
        have hdk : Keeps w6 w6.drew := (Keeps.refl _).drew
        have HT7 := Lib.hid (HT6.out.keep hdk)
        have HB7 := Lib.hid (HB6.out.keep hdk)
        have HQ7 := Lib.hid (HQ6.out.keep hdk)
        clear o3 p3 hox hdk tO
        go_upto_region 34 with fail
        obtain ⟨w7, hw7⟩ : ∃ w7 : World, w7 = w6.drew := ⟨_, rfl⟩
        rw [← hw7] at HR7 HT7 HB7 HQ7 ⊢
        clear hw7 tox
        obtain ⟨b1, b2, b3, b4, b5⟩ := ownC_cell HB7.out (j := X) (by rw [bgArr_len]; omega)
        obtain ⟨BX, hBX⟩ : ∃ z, z = nth (bgArr (ks ++ [(Y : Int)]) N1) X := ⟨_, rfl⟩
        rw [← hBX] at b1
        have b1' : w7.cell? ⟨gB, X, none⟩ = some (.bool BX) := b1
        have hB5 := b4 true
        rw [bgArr_put _ (by omega)] at hB5
        obtain ⟨w8, hw8⟩ : ∃ w', w' = w7.setCell ⟨gB, X, none⟩ (.bool true) := ⟨_, rfl⟩
        have hB5' : OwnB 2 cq w8 wa.heap.size (.slice (some ⟨gB, 0, none⟩) N1 N1) (bgArr ((ks ++ [(Y : Int)]) ++ [(X : Int)]) N1) := by rw [hw8]; exact hB5
        have ht5 : Turn (fun z => z = 2) cq w7 cq w8 := by rw [hw8]; exact b5 (bV true)
        have HB8 := Lib.hid hB5'
        have HT8 := Lib.hid (HT7.out.trans ht5)
        have HQ8 := Lib.hid ((BlkC.turn ⟨HQ7.out, HCQ.out⟩ ht5 (by decide)).1)
        have HR8 : Hid (Keeps wa w8) := Lib.hid ((HT2.out.trans (HT8.out.mono (J := (fun z => z ≠ 0)) fun z h => by omega)).below (Nat.le_refl _) (fun _ _ => rfl) (fun q => q rfl))
        have HW8 := Lib.hid hw8
        clear b1 hBX hB5 hB5' b4 b5 ht5 hw8
        go_upto_region 35 with fail
        rw [← HW8.out]
        clear HW8 b1' b2 b3
        have u0 : w8.cell? ⟨gq, 0, none⟩ = some (.int .i64 K) := (HQ8.out).cell rfl
        have u1 : w8.cell? ⟨gq, 1, none⟩ = some (.int .i64 D) := (HQ8.out).cell rfl
        have u2 : w8.cell? ⟨gq, 2, none⟩ = some (.int .i64 A) := (HQ8.out).cell rfl
        have u3 : w8.cell? ⟨gq, 3, none⟩ = some (.int .i64 B) := (HQ8.out).cell rfl
        have u4 : w8.cell? ⟨gq, 4, none⟩ = some (.int .i64 N) := (HQ8.out).cell rfl
        have u5 : w8.cell? ⟨gq, 5, none⟩ = some (.bool Lg) := (HQ8.out).cell rfl
        have ul := HQ8.out.lt
        have tk23 : (K == 23) = false := by simpa using hk23
        have tk24 : (K == 24) = false := by simpa using hk24
        have HKEY : Hid (keysP pp.2 = [(X : Int), (Y : Int)]) := Lib.hid (by rw [HKJ.out, HXX.out, HYY.out])
        have HB9 : Hid (OwnB 2 cq w8 wa.heap.size (.slice (some ⟨gB, 0, none⟩) N1 N1) (bgArr (ks ++ [(Y : Int), (X : Int)]) N1)) := Lib.hid (by rw [show ks ++ [(Y : Int), (X : Int)] = ks ++ [(Y : Int)] ++ [(X : Int)] by simp]; exact HB8.out)
        clear wX
        go_wp2_with fail
        go_roundw
        case rel => exact ⟨a + 1, cq, _, by omega, by go_num, HT8, HB9, Lib.hid (KeysAt.step HG.out HSW.out HKS.out HPP.out HPA.out (by intro x; rw [HKEY.out]; simp only [List.mem_cons, List.not_mem_nil, or_false]; exact or_comm)), Lib.hid (fun j hj => by
         rcases Nat.lt_or_ge j a with z | z
         ·exact HAT.out j z
         ·obtain rfl : j = a := by omega
          rw [HSPB.out]; exact HSPF.out)⟩
        case measure => simp [intOf]; omega
      case neg =>
      by_cases hk24 : K = 24
      case pos =>
       have hk23 : K ≠ 23 := by omega
       have HKJ : Hid (keysP pp.2 = [(a : Int) + Z]) := Lib.hid (by rw [HKJ0.out, if_neg hj, if_pos (by rw [hk24]; decide)])
       have HSPJ : Hid (spB m (ownS (allS m) m.Funcs.length) FI ⟨a, Z, ⟨K, D, A, B, N, Lg⟩⟩ = (decide (N < m.Tables.length) && anyN (fun k => !decide (ownS (allS m) m.Funcs.length (nth (nth m.Tables N.toNat) k) = some FI)) (nth m.Tables N.toNat).length)) := Lib.hid (by rw [HSPJ0.out, if_neg hj, if_pos hk24])
       have hENv : EN = 1 := by rw [hEN, hk24]; decide
       have HK24 := Lib.hid hk24
       clear hEN hj HKJ0 HSPJ0 hk24
       as_aux_lemma =>
       have tE0 : decide ((0 : Int) < EN) = true := by rw [hENv]; decide
       go_upto_region 30 with (go_at_call 22; refine (HEN.out _).mono ?_; rintro e we ⟨rfl, hke⟩; have u0 : we.cell? ⟨gq, 0, none⟩ = some (.int .i64 K) := (HQq.out.keep hke).cell rfl; have u1 : we.cell? ⟨gq, 1, none⟩ = some (.int .i64 D) := (HQq.out.keep hke).cell rfl; have u2 : we.cell? ⟨gq, 2, none⟩ = some (.int .i64 A) := (HQq.out.keep hke).cell rfl; have u3 : we.cell? ⟨gq, 3, none⟩ = some (.int .i64 B) := (HQq.out.keep hke).cell rfl; have u4 : we.cell? ⟨gq, 4, none⟩ = some (.int .i64 N) := (HQq.out.keep hke).cell rfl; have u5 : we.cell? ⟨gq, 5, none⟩ = some (.bool Lg) := (HQq.out.keep hke).cell rfl; have ul := (HQq.out.keep hke).lt; have HKE := Lib.hid hke)
       have HTe := Lib.hid (HTq.out.keep HKE.out)
       have HBe := Lib.hid (HBq.out.keep HKE.out)
       have HQe := Lib.hid (HQq.out.keep HKE.out)
       have HRe := Lib.hid (HRq.out.trans HKE.out)
       obtain ⟨Y, hY⟩ : ∃ Y : Nat, (a : Int) + Z = (Y : Int) := ⟨((a : Int) + Z).toNat, by omega⟩
       have wY : IntKind.i64.wrap ((a : Int) + Z) = (Y : Int) := by rw [IntKind.wrap_i64]; omega
       have hYN : Y < N1 := by omega
       have hYz : (Y : Int) < (N1 : Int) := by omega
       have HYY := Lib.hid hY
       clear hY tE0 u0 u1 u2 u3 u4 u5 ul
       obtain ⟨b1, b2, b3, b4, b5⟩ := ownC_cell HBe.out (j := Y) (by rw [bgArr_len]; omega)
       obtain ⟨BX, hBX⟩ : ∃ z, z = nth (bgArr ks N1) Y := ⟨_, rfl⟩
       rw [← hBX] at b1
       have b1' : we.cell? ⟨gB, Y, none⟩ = some (.bool BX) := b1
       have hB5 := b4 true
       rw [bgArr_put _ (by omega)] at hB5
       obtain ⟨w5, hw5⟩ : ∃ w', w' = we.setCell ⟨gB, Y, none⟩ (.bool true) := ⟨_, rfl⟩
       have hB5' : OwnB 2 cq w5 wa.heap.size (.slice (some ⟨gB, 0, none⟩) N1 N1) (bgArr (ks ++ [(Y : Int)]) N1) := by rw [hw5]; exact hB5
       have ht5 : Turn (fun z => z = 2) cq we cq w5 := by rw [hw5]; exact b5 (bV true)
       have HB5 := Lib.hid hB5'
       have HT5 := Lib.hid (HTe.out.trans ht5)
       have HQ5 := Lib.hid ((BlkC.turn ⟨HQe.out, HCQ.out⟩ ht5 (by decide)).1)
       have HR5 : Hid (Keeps wa w5) := Lib.hid ((HT2.out.trans (HT5.out.mono (J := (fun z => z ≠ 0)) fun z h => by omega)).below (Nat.le_refl _) (fun _ _ => rfl) (fun q => q rfl))
       have HW5 := Lib.hid hw5
       clear b1 hBX hB5 hB5' b4 b5 ht5 hw5
       go_upto_region 31 with fail
       rw [← HW5.out]
       clear HW5 b1' b2 b3
       have u0 : w5.cell? ⟨gq, 0, none⟩ = some (.int .i64 K) := (HQ5.out).cell rfl
       have u1 : w5.cell? ⟨gq, 1, none⟩ = some (.int .i64 D) := (HQ5.out).cell rfl
       have u2 : w5.cell? ⟨gq, 2, none⟩ = some (.int .i64 A) := (HQ5.out).cell rfl
       have u3 : w5.cell? ⟨gq, 3, none⟩ = some (.int .i64 B) := (HQ5.out).cell rfl
       have u4 : w5.cell? ⟨gq, 4, none⟩ = some (.int .i64 N) := (HQ5.out).cell rfl
       have u5 : w5.cell? ⟨gq, 5, none⟩ = some (.bool Lg) := (HQ5.out).cell rfl
       have ul := HQ5.out.lt
       clear wY
       have HKEY : Hid (keysP pp.2 = [(Y : Int)]) := Lib.hid (by rw [HKJ.out, HYY.out])
       have HB5k : Hid (OwnB 2 cq w5 wa.heap.size (.slice (some ⟨gB, 0, none⟩) N1 N1) (bgArr (ks ++ [(Y : Int)]) N1)) := HB5
       have tE4 : (EN == 4) = false := by rw [hENv]; decide
       have tE3 : (EN == 3) = false := by rw [hENv]; decide
       clear hENv
       go_upto_region 35 with first | (go_at_call 22; refine (HEN.out _).mono ?_; rintro e we ⟨rfl, hke⟩; have u0 : we.cell? ⟨gq, 0, none⟩ = some (.int .i64 K) := (HQ5.out.keep hke).cell rfl; have u1 : we.cell? ⟨gq, 1, none⟩ = some (.int .i64 D) := (HQ5.out.keep hke).cell rfl; have u2 : we.cell? ⟨gq, 2, none⟩ = some (.int .i64 A) := (HQ5.out.keep hke).cell rfl; have u3 : we.cell? ⟨gq, 3, none⟩ = some (.int .i64 B) := (HQ5.out.keep hke).cell rfl; have u4 : we.cell? ⟨gq, 4, none⟩ = some (.int .i64 N) := (HQ5.out.keep hke).cell rfl; have u5 : we.cell? ⟨gq, 5, none⟩ = some (.bool Lg) := (HQ5.out.keep hke).cell rfl; have ul := (HQ5.out.keep hke).lt; have HKE := Lib.hid hke) | (go_at_call 22; refine (HEN.out _).mono ?_; rintro e wf ⟨rfl, hkf⟩; have u0 : wf.cell? ⟨gq, 0, none⟩ = some (.int .i64 K) := ((HQ5.out.keep HKE.out).keep hkf).cell rfl; have u1 : wf.cell? ⟨gq, 1, none⟩ = some (.int .i64 D) := ((HQ5.out.keep HKE.out).keep hkf).cell rfl; have u2 : wf.cell? ⟨gq, 2, none⟩ = some (.int .i64 A) := ((HQ5.out.keep HKE.out).keep hkf).cell rfl; have u3 : wf.cell? ⟨gq, 3, none⟩ = some (.int .i64 B) := ((HQ5.out.keep HKE.out).keep hkf).cell rfl; have u4 : wf.cell? ⟨gq, 4, none⟩ = some (.int .i64 N) := ((HQ5.out.keep HKE.out).keep hkf).cell rfl; have u5 : wf.cell? ⟨gq, 5, none⟩ = some (.bool Lg) := ((HQ5.out.keep HKE.out).keep hkf).cell rfl; have ul := ((HQ5.out.keep HKE.out).keep hkf).lt; have HKF := Lib.hid hkf)
       clear tE4 tE3
       have hk2 := HKE.out.trans HKF.out
       have HT6 := Lib.hid (HT5.out.keep hk2)
       have HB6 := Lib.hid (HB5k.out.keep hk2)
       have HQ6 := Lib.hid (HQ5.out.keep hk2)
       have HR6 := Lib.hid (HR5.out.trans hk2)
       clear hk2
       obtain ⟨w6, hw6⟩ : ∃ w6 : World, w6 = wf := ⟨_, rfl⟩
       subst hw6
       have tk23 : (K == 23) = false := by rw [HK24.out]; rfl
       have tk24 : (K == 24) = true := by rw [HK24.out]; rfl
       have n0 := (HMA.out.keep HR6.out).cell (j := 0) rfl
       have n1 := (HMA.out.keep HR6.out).cell (j := 1) rfl
       have n2 := (HMA.out.keep HR6.out).cell (j := 2) rfl
       have n3 := (HMA.out.keep HR6.out).cell (j := 3) rfl
       have n4 := (HMA.out.keep HR6.out).cell (j := 4) rfl
       have n5 := (HMA.out.keep HR6.out).cell (j := 5) rfl
       have nl := (HMA.out.keep HR6.out).lt
       by_cases hNT : N < NT
       case neg =>
        have tN : decide (N < (NT : Int)) = false := decide_eq_false hNT
        have HSPF : Hid (spB m (ownS (allS m) m.Funcs.length) FI ⟨a, Z, ⟨K, D, A, B, N, Lg⟩⟩ = false) := Lib.hid (by rw [HSPJ.out, ← HNT.out, decide_eq_false hNT]; rfl)
        clear hNT
        go_wp2_with fail
        go_roundw
        case rel => exact ⟨a + 1, cq, _, by omega, by go_num, HT6, HB6, Lib.hid (KeysAt.step HG.out HSW.out HKS.out HPP.out HPA.out (by intro x; rw [HKEY.out])), Lib.hid (fun j hj => by
         rcases Nat.lt_or_ge j a with z | z
         ·exact HAT.out j z
         ·obtain rfl : j = a := by omega
          rw [HSPB.out]; exact HSPF.out)⟩
        case measure => simp [intOf]; omega
       case pos =>
       have tN : decide (N < (NT : Int)) = true := decide_eq_true hNT
       obtain ⟨NI, hNI⟩ : ∃ n : Nat, N = (n : Int) := ⟨N.toNat, by have := hnt HK24.out; omega⟩
       subst hNI
       have hNIT : NI < m.Tables.length := by rw [← HNT.out]; omega
       obtain ⟨_, _, te, -, -, -, t4⟩ := HI2a.out
       injection te with te1 te2 te3
       subst te1 te3
       obtain ⟨tb, tof, hta, tc⟩ := t4 (by omega)
       subst hta
       obtain ⟨sa, scap, hsv, s1, s2, s3, s4⟩ := HI2b.out NI hNIT
       obtain ⟨LT, hLT⟩ : ∃ l, l = nth m.Tables NI := ⟨_, rfl⟩
       obtain ⟨TN, hTN⟩ : ∃ n, n = LT.length := ⟨_, rfl⟩
       rw [← hLT, ← hTN] at hsv s4
       have HY0 : Hid (∀ W', Keeps wa W' → W'.cell? ⟨tb, tof + NI, none⟩ = some (.slice sa TN scap)) := Lib.hid (fun W' hk' => by
        have z := (HKWA.out.trans hk').cell (tc NI 0 hNIT (by decide))
        try dsimp only at z
        rw [hsv] at z
        simpa using z)
       have htt9 := HG.out.tab NI hNIT
       rw [← hLT, ← hTN] at htt9
       have hTN20 : TN ≤ 20 := htt9.1
       have HLT := Lib.hid hLT
       have HTN := Lib.hid hTN
       have HT9 := Lib.hid htt9
       have HS4 := Lib.hid s4
       have HTB9 : Hid (∀ j, j < TN → ∃ p ∈ annS (allS m) m.Funcs.length, p.2.A = nth LT j) := Lib.hid (fun j hj => by
        have z := anyN_false (HTBA.out NI hNIT) j (by rw [← hLT, ← hTN]; exact hj)
        try dsimp only at z
        rw [← hLT] at z
        cases e : ownS (allS m) m.Funcs.length (nth LT j) with
        | none => rw [e] at z; cases z
        | some g => obtain ⟨p, hp, e2, -⟩ := ownS_some e; exact ⟨p, hp, e2⟩)
       have hspt : spB m (ownS (allS m) m.Funcs.length) FI ⟨a, Z, ⟨K, D, A, B, NI, Lg⟩⟩ = anyN (fun j => !decide (ownS (allS m) m.Funcs.length (nth LT j) = some FI)) TN := by
        rw [HSPJ.out, ← HNT.out, decide_eq_true (by omega), Bool.true_and]
        try dsimp only
        rw [Int.toNat_natCast, ← hLT, ← hTN]
       have HSPT := Lib.hid hspt
       have hNIz : (NI : Int) < (NT : Int) := by omega
       clear hsv s1 s2 s3 s4 tc t4 te2 hLT hTN htt9 hspt hNT
       go_upto_region 38 with fail
       clear u0 u1 u2 u3 u4 u5 ul n0 n1 n2 n3 n4 n5 nl
       go_wp2_with fail
       go_loopw [16] (fun s16 wn => ∃ (j : Nat) (cn : Nat → Nat), j ≤ TN ∧ s16 = .int .i64 j ∧ Hid (Turn (fun _ => False) cq w6 cn wn) ∧ Hid (∀ r, r < j → decide (ownS (allS m) m.Funcs.length (nth LT r) = some FI) = true)) (fun s16 _ => TN - (intOf s16).toNat)
       case atStart => exact ⟨0, cq, Nat.zero_le _, rfl, Lib.hid (Turn.refl _ _ _), Lib.hid (fun j hj => absurd hj (Nat.not_lt_zero _))⟩
       case round =>
        obtain ⟨j, cn, hj, rfl, HTn, HNN⟩ := hrel
        have hkn : Keeps w6 wr := turnKeeps HTn.out
        have hQn := HQ6.out.keep hkn
        have u0 : wr.cell? ⟨gq, 0, none⟩ = some (.int .i64 K) := (hQn).cell rfl
        have u1 : wr.cell? ⟨gq, 1, none⟩ = some (.int .i64 D) := (hQn).cell rfl
        have u2 : wr.cell? ⟨gq, 2, none⟩ = some (.int .i64 A) := (hQn).cell rfl
        have u3 : wr.cell? ⟨gq, 3, none⟩ = some (.int .i64 B) := (hQn).cell rfl
        have u4 : wr.cell? ⟨gq, 4, none⟩ = some (.int .i64 NI) := (hQn).cell rfl
        have u5 : wr.cell? ⟨gq, 5, none⟩ = some (.bool Lg) := (hQn).cell rfl
        have ul := hQn.lt
        have hRn := HR6.out.trans hkn
        have n2 := (HMA.out.keep hRn).cell (j := 2) rfl
        have nl := (HMA.out.keep hRn).lt
        have y0 := HY0.out _ hRn
        have yl := lt_of_cell y0
        by_cases hlt9 : j < TN
        case neg =>
         have tl9 : decide ((j : Int) < (TN : Int)) = false := decide_eq_false (by omega)
         have HSPF : Hid (spB m (ownS (allS m) m.Funcs.length) FI ⟨a, Z, ⟨K, D, A, B, NI, Lg⟩⟩ = false) := Lib.hid (by
          rw [HSPT.out]
          exact anyN_no (fun r hr => by rw [HNN.out r (by omega)]; rfl))
         have HT7 := Lib.hid (HT6.out.keep hkn)
         have HB7 := Lib.hid (HB6.out.keep hkn)
         clear hkn hQn hRn
         go_wp2_with fail
         go_roundw
         case rel => exact ⟨a + 1, cq, _, by omega, by go_num, HT7, HB7, Lib.hid (KeysAt.step HG.out HSW.out HKS.out HPP.out HPA.out (by intro x; rw [HKEY.out])), Lib.hid (fun j hj => by
          rcases Nat.lt_or_ge j a with z | z
          ·exact HAT.out j z
          ·obtain rfl : j = a := by omega
           rw [HSPB.out]; exact HSPF.out)⟩
         case measure => simp [intOf]; omega
        case pos =>
        have hlz9 : (j : Int) < (TN : Int) := by omega
        obtain ⟨ab, aof, hsa, hsc4⟩ := HS4.out (by omega)
        subst hsa
        obtain ⟨x, hx⟩ : ∃ x, x = nth LT j := ⟨_, rfl⟩
        have hxb := HT9.out.2 j hlt9
        rw [← hx] at hxb
        have hxh := HH2.out
        obtain ⟨X, hX⟩ : ∃ X : Nat, x = (X : Int) := ⟨x.toNat, by omega⟩
        have y1 : wr.drew.cell? ⟨ab, aof + j, none⟩ = some (.int .i64 X) := by
         have z := (HKWA.out.trans hRn).cell (hsc4 j 0 hlt9 (by decide))
         try dsimp only at z
         rw [← hx, hX] at z
         simpa using z
        have hXN : X < N1 := by have := HTL.out; omega
        have hXNz : (X : Int) < (N1 : Int) := by omega
        have hOn := HO2.out.turn (HT6.out.keep hkn) (by decide)
        obtain ⟨o1, -, o3, -, -⟩ := ownC_cell hOn (j := X) (by rw [ownArr_len]; exact hXN)
        obtain ⟨p1, -, -, -, -⟩ := ownC_cell hOn (j := a) (by rw [ownArr_len]; omega)
        rw [ownArr_at _ hXN] at o1
        rw [ownArr_at _ (by omega)] at p1
        obtain ⟨OX, hOX⟩ : ∃ z, z = (ownS (allS m) m.Funcs.length (X : Int)).getD (-1) := ⟨_, rfl⟩
        rw [← hOX] at o1
        have o1' : wr.drew.cell? ⟨gO, X, none⟩ = some (.int .i64 OX) := o1
        have p1' : wr.drew.cell? ⟨gO, a, none⟩ = some (.int .i64 FI) := by
         have z : wr.cell? ⟨gO, a, none⟩ = some (.int .i64 ((ownS (allS m) m.Funcs.length (a : Int)).getD (-1))) := p1
         rw [show (ownS (allS m) m.Funcs.length (a : Int)).getD (-1) = FI from HOWN.out] at z
         exact z
        have hdd : decide (ownS (allS m) m.Funcs.length (nth LT j) = some FI) = decide (OX = FI) := by
         rw [← hx, hX, hOX]
         exact decide_eq_decide.2 (ownR_is (m := m) (by omega))
        have HDD := Lib.hid hdd
        have HRN := Lib.hid hRn
        have HKN := Lib.hid hkn
        have n2d : wr.drew.cell? ⟨w.heap.size, 2, none⟩ = some (.slice (some ⟨tb, tof, none⟩) NT x2c) := n2
        have u4d : wr.drew.cell? ⟨gq, 4, none⟩ = some (.int .i64 NI) := u4
        have y0d : wr.drew.cell? ⟨tb, tof + NI, none⟩ = some (.slice (some ⟨ab, aof, none⟩) TN scap) := y0
        clear hsc4 hxb hxh hx hX hOX o1 p1 hdd hkn hRn hOn hQn
        go_upto_region 41 with fail
        refine wp_region_held_drew (S := Cells [(w.heap.size, 2, .slice (some ⟨tb, tof, none⟩) NT x2c), (gq, 4, .int .i64 NI), (tb, tof + NI, .slice (some ⟨ab, aof, none⟩) TN scap), (ab, aof + j, .int .i64 X), (gO, X, .int .i64 OX), (gO, a, .int .i64 FI)]) (by kernel_rfl) ⟨n2d, u4d, y0d, y1, o1', p1', trivial⟩ (fun hHeld => ?_)
        clear n2d u4d y0d y1 o1' p1' n2 y0 o3 yl u0 u1 u2 u3 u4 u5 ul
        refine takeC 0 hHeld ?_
        refine takeC 1 hHeld ?_
        refine takeC 2 hHeld ?_
        refine takeC 3 hHeld ?_
        refine takeC 4 hHeld ?_
        refine takeC 5 hHeld ?_
        refine takeC 6 hHeld ?_
        refine takeC 7 hHeld ?_
        refine takeC 8 hHeld ?_
        refine takeC 9 hHeld ?_
        refine takeC 10 hHeld ?_
        refine takeC 11 hHeld ?_
        refine takeC 12 hHeld ?_
        refine takeC 13 hHeld ?_
        refine takeC 14 hHeld ?_
        refine takeC 15 hHeld ?_
        refine takeC 16 hHeld ?_
        refine wpAnyH_done (by kernel_rfl) ?_ _
        clear hHeld
        by_cases hox : OX = FI
        case neg =>
         have tox : (OX != FI) = true := by simpa using hox
         have HRB : Hid (recB m = true) := Lib.hid (HBADS.out (by rw [HSPT.out]; exact anyN_yes hlt9 (by rw [HDD.out, decide_eq_false hox]; rfl)))
         have HR7 := Lib.hid (show Keeps wa wr.drew from HRN.out.drew)
         obtain ⟨w7, hw7⟩ : ∃ w7 : World, w7 = wr.drew := ⟨_, rfl⟩
         rw [← hw7] at HR7 ⊢
         clear hox hw7
         have q0 := ((HFA.out.keep HR7.out)).cell (j := 0) rfl
         have q1 := ((HFA.out.keep HR7.out)).cell (j := 1) rfl
         have q2 := ((HFA.out.keep HR7.out)).cell (j := 2) rfl
         have z0 := ((HFA.out.keep HR7.out)).thawed 0
         have z1 := ((HFA.out.keep HR7.out)).thawed 1
         have z2 := ((HFA.out.keep HR7.out)).thawed 2
         have lq := (HFA.out.keep HR7.out).lt
         go_wp2_with fail
         obtain ⟨wf, hwf⟩ : ∃ wf : World, wf = (((w7).setCell ⟨w.heap.size + 1, 0, none⟩ (.slice none 0 0)).setCell ⟨w.heap.size + 1, 1, none⟩ (.slice none 0 0)).setCell ⟨w.heap.size + 1, 2, none⟩ (.slice none 0 0) := ⟨_, rfl⟩
         rw [← hwf]
         obtain ⟨hBf, hgf⟩ := put3 (HFA.out.keep HR7.out) _ _ _ hwf
         have HKF := Lib.hid (keepsPut (HKWA.out.trans HR7.out) (by omega) hgf)
         have e0 := hBf.cell (j := 0) rfl
         have e1 := hBf.cell (j := 1) rfl
         have e2 := hBf.cell (j := 2) rfl
         clear hwf hBf hgf
         exact bodyPost_ret (v := .tuple #[.agg #[.slice none 0 0, .slice none 0 0, .slice none 0 0], .int .i64 9]) (by simp [results, Tryd.results7, go_sem, e0, e1, e2]) rfl (FlAns.bad (one_bad HFE.out.symm HBIG.out HRB.out) HKF.out)
        case pos =>
         have tox : (OX != FI) = false := by simpa using hox
         have HDE : Hid (decide (ownS (allS m) m.Funcs.length (nth LT j) = some FI) = true) := Lib.hid (by rw [HDD.out]; exact decide_eq_true hox)
         clear hox
         go_wp2_with fail
         go_roundw
         case rel => exact ⟨j + 1, cn, by omega, by go_num, Lib.hid (HTn.out.keep ((Keeps.refl _).drew)), Lib.hid (fun r hr => by
          rcases Nat.lt_or_ge r j with z | z
          ·exact HNN.out r z
          ·obtain rfl : r = j := by omega
           exact HDE.out)⟩
         case measure => simp [intOf]; omega
      case neg =>
      by_cases hk23 : K = 23
      case pos =>
       have HKJ : Hid (keysP pp.2 = []) := Lib.hid (by rw [HKJ0.out, if_neg hj, if_neg (by rw [hk23]; decide)])
       have HSPJ : Hid (spB m (ownS (allS m) m.Funcs.length) FI ⟨a, Z, ⟨K, D, A, B, N, Lg⟩⟩ = !(anyN (fnP m ((a : Int) + N)) m.Funcs.length)) := Lib.hid (by rw [HSPJ0.out, if_neg hj, if_neg hk24, if_pos hk23])
       have hENv : EN = 0 := by rw [hEN, hk23]; decide
       have HK23 := Lib.hid hk23
       clear hEN hj HKJ0 HSPJ0 hk23
       as_aux_lemma =>
       have tE0 : decide ((0 : Int) < EN) = false := by rw [hENv]; decide
       go_upto_region 31 with (go_at_call 22; refine (HEN.out _).mono ?_; rintro e we ⟨rfl, hke⟩; have u0 : we.cell? ⟨gq, 0, none⟩ = some (.int .i64 K) := (HQq.out.keep hke).cell rfl; have u1 : we.cell? ⟨gq, 1, none⟩ = some (.int .i64 D) := (HQq.out.keep hke).cell rfl; have u2 : we.cell? ⟨gq, 2, none⟩ = some (.int .i64 A) := (HQq.out.keep hke).cell rfl; have u3 : we.cell? ⟨gq, 3, none⟩ = some (.int .i64 B) := (HQq.out.keep hke).cell rfl; have u4 : we.cell? ⟨gq, 4, none⟩ = some (.int .i64 N) := (HQq.out.keep hke).cell rfl; have u5 : we.cell? ⟨gq, 5, none⟩ = some (.bool Lg) := (HQq.out.keep hke).cell rfl; have ul := (HQq.out.keep hke).lt; have HKE := Lib.hid hke)
       have HT5 := Lib.hid (HTq.out.keep HKE.out)
       have HB5 := Lib.hid (HBq.out.keep HKE.out)
       have HQ5 := Lib.hid (HQq.out.keep HKE.out)
       have HR5 := Lib.hid (HRq.out.trans HKE.out)
       obtain ⟨w5, hw5⟩ : ∃ w5 : World, w5 = we := ⟨_, rfl⟩
       subst hw5
       clear tE0
       have HKEY : Hid (keysP pp.2 = []) := Lib.hid HKJ.out
       have HB5k : Hid (OwnB 2 cq w5 wa.heap.size (.slice (some ⟨gB, 0, none⟩) N1 N1) (bgArr (ks ++ []) N1)) := Lib.hid (by rw [List.append_nil]; exact HB5.out)
       have tE4 : (EN == 4) = false := by rw [hENv]; decide
       have tE3 : (EN == 3) = false := by rw [hENv]; decide
       clear hENv
       go_upto_region 35 with first | (go_at_call 22; refine (HEN.out _).mono ?_; rintro e we ⟨rfl, hke⟩; have u0 : we.cell? ⟨gq, 0, none⟩ = some (.int .i64 K) := (HQ5.out.keep hke).cell rfl; have u1 : we.cell? ⟨gq, 1, none⟩ = some (.int .i64 D) := (HQ5.out.keep hke).cell rfl; have u2 : we.cell? ⟨gq, 2, none⟩ = some (.int .i64 A) := (HQ5.out.keep hke).cell rfl; have u3 : we.cell? ⟨gq, 3, none⟩ = some (.int .i64 B) := (HQ5.out.keep hke).cell rfl; have u4 : we.cell? ⟨gq, 4, none⟩ = some (.int .i64 N) := (HQ5.out.keep hke).cell rfl; have u5 : we.cell? ⟨gq, 5, none⟩ = some (.bool Lg) := (HQ5.out.keep hke).cell rfl; have ul := (HQ5.out.keep hke).lt; have HKE := Lib.hid hke) | (go_at_call 22; refine (HEN.out _).mono ?_; rintro e wf ⟨rfl, hkf⟩; have u0 : wf.cell? ⟨gq, 0, none⟩ = some (.int .i64 K) := ((HQ5.out.keep HKE.out).keep hkf).cell rfl; have u1 : wf.cell? ⟨gq, 1, none⟩ = some (.int .i64 D) := ((HQ5.out.keep HKE.out).keep hkf).cell rfl; have u2 : wf.cell? ⟨gq, 2, none⟩ = some (.int .i64 A) := ((HQ5.out.keep HKE.out).keep hkf).cell rfl; have u3 : wf.cell? ⟨gq, 3, none⟩ = some (.int .i64 B) := ((HQ5.out.keep HKE.out).keep hkf).cell rfl; have u4 : wf.cell? ⟨gq, 4, none⟩ = some (.int .i64 N) := ((HQ5.out.keep HKE.out).keep hkf).cell rfl; have u5 : wf.cell? ⟨gq, 5, none⟩ = some (.bool Lg) := ((HQ5.out.keep HKE.out).keep hkf).cell rfl; have ul := ((HQ5.out.keep HKE.out).keep hkf).lt; have HKF := Lib.hid hkf)
       clear tE4 tE3
       have hk2 := HKE.out.trans HKF.out
       have HT6 := Lib.hid (HT5.out.keep hk2)
       have HB6 := Lib.hid (HB5k.out.keep hk2)
       have HQ6 := Lib.hid (HQ5.out.keep hk2)
       have HR6 := Lib.hid (HR5.out.trans hk2)
       clear hk2
       obtain ⟨w6, hw6⟩ : ∃ w6 : World, w6 = wf := ⟨_, rfl⟩
       subst hw6
       have tk23 : (K == 23) = true := by rw [HK23.out]; rfl
       have tk24 : (K == 24) = false := by rw [HK23.out]; rfl
       have n0 := (HMA.out.keep HR6.out).cell (j := 0) rfl
       have n1 := (HMA.out.keep HR6.out).cell (j := 1) rfl
       have n2 := (HMA.out.keep HR6.out).cell (j := 2) rfl
       have n3 := (HMA.out.keep HR6.out).cell (j := 3) rfl
       have n4 := (HMA.out.keep HR6.out).cell (j := 4) rfl
       have n5 := (HMA.out.keep HR6.out).cell (j := 5) rfl
       have nl := (HMA.out.keep HR6.out).lt
       obtain ⟨FA, hFA⟩ : ∃ z, z = fnAt m ((a : Int) + N) := ⟨_, rfl⟩
       have HCB : Hid (∀ W', Keeps w6 W' → Calls Tryd.prog 24 #[.agg #[.slice x0 TL x0c, .slice x1 NF x1c, .slice x2 NT x2c, .slice x3 m.Data.length x3c, .slice x4 m.Lines.length x4c, .int .i64 m.Entry], .int .i64 ((a : Int) + N)] W' fun e w' => e = .returned (.int .i64 FA) ∧ Keeps W' w') := Lib.hid (fun W' hk' => by rw [hFA]; exact calledBy_any (HIM.out.keep (HKWA.out.trans (HR6.out.trans hk'))) HG.out.funcs)
       have hspv : spB m (ownS (allS m) m.Funcs.length) FI ⟨a, Z, ⟨K, D, A, B, N, Lg⟩⟩ = !decide (0 ≤ FA) := by rw [HSPJ.out, hFA]; unfold fnAt; rw [idxN_any]
       have HSPV := Lib.hid hspv
       clear hspv hFA
       by_cases hfa : FA < 0
       case pos =>
        have tfa : decide (FA < 0) = true := decide_eq_true hfa
        have HRB : Hid (recB m = true) := Lib.hid (HBADS.out (by rw [HSPV.out, decide_eq_false (by omega)]; rfl))
        clear hfa
        go_upto_region 36 with (go_at_call 24; refine (HCB.out _ (by repeat (with_reducible (first | assumption | exact Keeps.refl _ | refine Keeps.alloc ?_ _ | refine Keeps.drew ?_ | refine Keeps.drewN ?_ _)))).mono ?_; rintro e wg ⟨rfl, hkg⟩)
        have HR7 := Lib.hid (HR6.out.trans hkg)
        have q0 := ((HFA.out.keep HR7.out)).cell (j := 0) rfl
        have q1 := ((HFA.out.keep HR7.out)).cell (j := 1) rfl
        have q2 := ((HFA.out.keep HR7.out)).cell (j := 2) rfl
        have z0 := ((HFA.out.keep HR7.out)).thawed 0
        have z1 := ((HFA.out.keep HR7.out)).thawed 1
        have z2 := ((HFA.out.keep HR7.out)).thawed 2
        have lq := (HFA.out.keep HR7.out).lt
        go_wp2_with fail
        obtain ⟨wf, hwf⟩ : ∃ wf : World, wf = (((wg).setCell ⟨w.heap.size + 1, 0, none⟩ (.slice none 0 0)).setCell ⟨w.heap.size + 1, 1, none⟩ (.slice none 0 0)).setCell ⟨w.heap.size + 1, 2, none⟩ (.slice none 0 0) := ⟨_, rfl⟩
        rw [← hwf]
        obtain ⟨hBf, hgf⟩ := put3 (HFA.out.keep HR7.out) _ _ _ hwf
        have HKF := Lib.hid (keepsPut (HKWA.out.trans HR7.out) (by omega) hgf)
        have e0 := hBf.cell (j := 0) rfl
        have e1 := hBf.cell (j := 1) rfl
        have e2 := hBf.cell (j := 2) rfl
        clear hwf hBf hgf
        exact bodyPost_ret (v := .tuple #[.agg #[.slice none 0 0, .slice none 0 0, .slice none 0 0], .int .i64 9]) (by simp [results, Tryd.results7, go_sem, e0, e1, e2]) rfl (FlAns.bad (one_bad HFE.out.symm HBIG.out HRB.out) HKF.out)
       case neg =>
       have tfa : decide (FA < 0) = false := decide_eq_false hfa
       have HSPF : Hid (spB m (ownS (allS m) m.Funcs.length) FI ⟨a, Z, ⟨K, D, A, B, N, Lg⟩⟩ = false) := Lib.hid (by rw [HSPV.out, decide_eq_true (by omega)]; rfl)
       clear hfa
       go_upto_region 37 with (go_at_call 24; refine (HCB.out _ (by repeat (with_reducible (first | assumption | exact Keeps.refl _ | refine Keeps.alloc ?_ _ | refine Keeps.drew ?_ | refine Keeps.drewN ?_ _)))).mono ?_; rintro e wg ⟨rfl, hkg⟩)
       have HT7 := Lib.hid (HT6.out.keep hkg)
       have HB7 := Lib.hid (HB6.out.keep hkg)
       have HQ7 := Lib.hid (HQ6.out.keep hkg)
       clear u0 u1 u2 u3 u4 u5 ul
       have u0 : wg.cell? ⟨gq, 0, none⟩ = some (.int .i64 K) := (HQ7.out).cell rfl
       have u1 : wg.cell? ⟨gq, 1, none⟩ = some (.int .i64 D) := (HQ7.out).cell rfl
       have u2 : wg.cell? ⟨gq, 2, none⟩ = some (.int .i64 A) := (HQ7.out).cell rfl
       have u3 : wg.cell? ⟨gq, 3, none⟩ = some (.int .i64 B) := (HQ7.out).cell rfl
       have u4 : wg.cell? ⟨gq, 4, none⟩ = some (.int .i64 N) := (HQ7.out).cell rfl
       have u5 : wg.cell? ⟨gq, 5, none⟩ = some (.bool Lg) := (HQ7.out).cell rfl
       have ul := HQ7.out.lt
       go_wp2_with fail
       go_roundw
       case rel => exact ⟨a + 1, cq, _, by omega, by go_num, HT7, HB7, Lib.hid (KeysAt.step HG.out HSW.out HKS.out HPP.out HPA.out (by intro x; rw [HKEY.out])), Lib.hid (fun j hj => by
        rcases Nat.lt_or_ge j a with z | z
        ·exact HAT.out j z
        ·obtain rfl : j = a := by omega
         rw [HSPB.out]; exact HSPF.out)⟩
       case measure => simp [intOf]; omega
      case neg =>
      have HSPJ : Hid (spB m (ownS (allS m) m.Funcs.length) FI ⟨a, Z, ⟨K, D, A, B, N, Lg⟩⟩ = false) := Lib.hid (by rw [HSPJ0.out, if_neg hj, if_neg hk24, if_neg hk23])
      by_cases hst : stN K = true
      case pos =>
       have HKJ : Hid (keysP pp.2 = [(a : Int) + Z]) := Lib.hid (by rw [HKJ0.out, if_neg hj, if_pos hst])
       have hENv : EN = 1 := by rw [hEN]; unfold endsN; rw [if_pos hst]
       clear hEN hj HKJ0 HSPJ0 hst
       as_aux_lemma =>
       have tE0 : decide ((0 : Int) < EN) = true := by rw [hENv]; decide
       go_upto_region 30 with (go_at_call 22; refine (HEN.out _).mono ?_; rintro e we ⟨rfl, hke⟩; have u0 : we.cell? ⟨gq, 0, none⟩ = some (.int .i64 K) := (HQq.out.keep hke).cell rfl; have u1 : we.cell? ⟨gq, 1, none⟩ = some (.int .i64 D) := (HQq.out.keep hke).cell rfl; have u2 : we.cell? ⟨gq, 2, none⟩ = some (.int .i64 A) := (HQq.out.keep hke).cell rfl; have u3 : we.cell? ⟨gq, 3, none⟩ = some (.int .i64 B) := (HQq.out.keep hke).cell rfl; have u4 : we.cell? ⟨gq, 4, none⟩ = some (.int .i64 N) := (HQq.out.keep hke).cell rfl; have u5 : we.cell? ⟨gq, 5, none⟩ = some (.bool Lg) := (HQq.out.keep hke).cell rfl; have ul := (HQq.out.keep hke).lt; have HKE := Lib.hid hke)
       have HTe := Lib.hid (HTq.out.keep HKE.out)
       have HBe := Lib.hid (HBq.out.keep HKE.out)
       have HQe := Lib.hid (HQq.out.keep HKE.out)
       have HRe := Lib.hid (HRq.out.trans HKE.out)
       obtain ⟨Y, hY⟩ : ∃ Y : Nat, (a : Int) + Z = (Y : Int) := ⟨((a : Int) + Z).toNat, by omega⟩
       have wY : IntKind.i64.wrap ((a : Int) + Z) = (Y : Int) := by rw [IntKind.wrap_i64]; omega
       have hYN : Y < N1 := by omega
       have hYz : (Y : Int) < (N1 : Int) := by omega
       have HYY := Lib.hid hY
       clear hY tE0 u0 u1 u2 u3 u4 u5 ul
       obtain ⟨b1, b2, b3, b4, b5⟩ := ownC_cell HBe.out (j := Y) (by rw [bgArr_len]; omega)
       obtain ⟨BX, hBX⟩ : ∃ z, z = nth (bgArr ks N1) Y := ⟨_, rfl⟩
       rw [← hBX] at b1
       have b1' : we.cell? ⟨gB, Y, none⟩ = some (.bool BX) := b1
       have hB5 := b4 true
       rw [bgArr_put _ (by omega)] at hB5
       obtain ⟨w5, hw5⟩ : ∃ w', w' = we.setCell ⟨gB, Y, none⟩ (.bool true) := ⟨_, rfl⟩
       have hB5' : OwnB 2 cq w5 wa.heap.size (.slice (some ⟨gB, 0, none⟩) N1 N1) (bgArr (ks ++ [(Y : Int)]) N1) := by rw [hw5]; exact hB5
       have ht5 : Turn (fun z => z = 2) cq we cq w5 := by rw [hw5]; exact b5 (bV true)
       have HB5 := Lib.hid hB5'
       have HT5 := Lib.hid (HTe.out.trans ht5)
       have HQ5 := Lib.hid ((BlkC.turn ⟨HQe.out, HCQ.out⟩ ht5 (by decide)).1)
       have HR5 : Hid (Keeps wa w5) := Lib.hid ((HT2.out.trans (HT5.out.mono (J := (fun z => z ≠ 0)) fun z h => by omega)).below (Nat.le_refl _) (fun _ _ => rfl) (fun q => q rfl))
       have HW5 := Lib.hid hw5
       clear b1 hBX hB5 hB5' b4 b5 ht5 hw5
       go_upto_region 31 with fail
       rw [← HW5.out]
       clear HW5 b1' b2 b3
       have u0 : w5.cell? ⟨gq, 0, none⟩ = some (.int .i64 K) := (HQ5.out).cell rfl
       have u1 : w5.cell? ⟨gq, 1, none⟩ = some (.int .i64 D) := (HQ5.out).cell rfl
       have u2 : w5.cell? ⟨gq, 2, none⟩ = some (.int .i64 A) := (HQ5.out).cell rfl
       have u3 : w5.cell? ⟨gq, 3, none⟩ = some (.int .i64 B) := (HQ5.out).cell rfl
       have u4 : w5.cell? ⟨gq, 4, none⟩ = some (.int .i64 N) := (HQ5.out).cell rfl
       have u5 : w5.cell? ⟨gq, 5, none⟩ = some (.bool Lg) := (HQ5.out).cell rfl
       have ul := HQ5.out.lt
       clear wY
       have HKEY : Hid (keysP pp.2 = [(Y : Int)]) := Lib.hid (by rw [HKJ.out, HYY.out])
       have HB5k : Hid (OwnB 2 cq w5 wa.heap.size (.slice (some ⟨gB, 0, none⟩) N1 N1) (bgArr (ks ++ [(Y : Int)]) N1)) := HB5
       have tE4 : (EN == 4) = false := by rw [hENv]; decide
       have tE3 : (EN == 3) = false := by rw [hENv]; decide
       clear hENv
       go_upto_region 35 with first | (go_at_call 22; refine (HEN.out _).mono ?_; rintro e we ⟨rfl, hke⟩; have u0 : we.cell? ⟨gq, 0, none⟩ = some (.int .i64 K) := (HQ5.out.keep hke).cell rfl; have u1 : we.cell? ⟨gq, 1, none⟩ = some (.int .i64 D) := (HQ5.out.keep hke).cell rfl; have u2 : we.cell? ⟨gq, 2, none⟩ = some (.int .i64 A) := (HQ5.out.keep hke).cell rfl; have u3 : we.cell? ⟨gq, 3, none⟩ = some (.int .i64 B) := (HQ5.out.keep hke).cell rfl; have u4 : we.cell? ⟨gq, 4, none⟩ = some (.int .i64 N) := (HQ5.out.keep hke).cell rfl; have u5 : we.cell? ⟨gq, 5, none⟩ = some (.bool Lg) := (HQ5.out.keep hke).cell rfl; have ul := (HQ5.out.keep hke).lt; have HKE := Lib.hid hke) | (go_at_call 22; refine (HEN.out _).mono ?_; rintro e wf ⟨rfl, hkf⟩; have u0 : wf.cell? ⟨gq, 0, none⟩ = some (.int .i64 K) := ((HQ5.out.keep HKE.out).keep hkf).cell rfl; have u1 : wf.cell? ⟨gq, 1, none⟩ = some (.int .i64 D) := ((HQ5.out.keep HKE.out).keep hkf).cell rfl; have u2 : wf.cell? ⟨gq, 2, none⟩ = some (.int .i64 A) := ((HQ5.out.keep HKE.out).keep hkf).cell rfl; have u3 : wf.cell? ⟨gq, 3, none⟩ = some (.int .i64 B) := ((HQ5.out.keep HKE.out).keep hkf).cell rfl; have u4 : wf.cell? ⟨gq, 4, none⟩ = some (.int .i64 N) := ((HQ5.out.keep HKE.out).keep hkf).cell rfl; have u5 : wf.cell? ⟨gq, 5, none⟩ = some (.bool Lg) := ((HQ5.out.keep HKE.out).keep hkf).cell rfl; have ul := ((HQ5.out.keep HKE.out).keep hkf).lt; have HKF := Lib.hid hkf)
       clear tE4 tE3
       have hk2 := HKE.out.trans HKF.out
       have HT6 := Lib.hid (HT5.out.keep hk2)
       have HB6 := Lib.hid (HB5k.out.keep hk2)
       have HQ6 := Lib.hid (HQ5.out.keep hk2)
       have HR6 := Lib.hid (HR5.out.trans hk2)
       clear hk2
       obtain ⟨w6, hw6⟩ : ∃ w6 : World, w6 = wf := ⟨_, rfl⟩
       subst hw6
       have tk23 : (K == 23) = false := by simpa using hk23
       have tk24 : (K == 24) = false := by simpa using hk24
       have HSPF : Hid (spB m (ownS (allS m) m.Funcs.length) FI ⟨a, Z, ⟨K, D, A, B, N, Lg⟩⟩ = false) := HSPJ
       go_wp2_with fail
       go_roundw
       case rel => exact ⟨a + 1, cq, _, by omega, by go_num, HT6, HB6, Lib.hid (KeysAt.step HG.out HSW.out HKS.out HPP.out HPA.out (by intro x; rw [HKEY.out])), Lib.hid (fun j hj => by
        rcases Nat.lt_or_ge j a with z | z
        ·exact HAT.out j z
        ·obtain rfl : j = a := by omega
         rw [HSPB.out]; exact HSPF.out)⟩
       case measure => simp [intOf]; omega
      case neg =>
       have HKJ : Hid (keysP pp.2 = []) := Lib.hid (by rw [HKJ0.out, if_neg hj, if_neg hst])
       have hENv : EN = 0 := by rw [hEN]; unfold endsN; rw [if_neg hst, if_neg (fun q => hj (Or.inr q)), if_neg (fun q => hj (Or.inl q))]
       clear hEN hj HKJ0 HSPJ0 hst
       as_aux_lemma =>
       have tE0 : decide ((0 : Int) < EN) = false := by rw [hENv]; decide
       go_upto_region 31 with (go_at_call 22; refine (HEN.out _).mono ?_; rintro e we ⟨rfl, hke⟩; have u0 : we.cell? ⟨gq, 0, none⟩ = some (.int .i64 K) := (HQq.out.keep hke).cell rfl; have u1 : we.cell? ⟨gq, 1, none⟩ = some (.int .i64 D) := (HQq.out.keep hke).cell rfl; have u2 : we.cell? ⟨gq, 2, none⟩ = some (.int .i64 A) := (HQq.out.keep hke).cell rfl; have u3 : we.cell? ⟨gq, 3, none⟩ = some (.int .i64 B) := (HQq.out.keep hke).cell rfl; have u4 : we.cell? ⟨gq, 4, none⟩ = some (.int .i64 N) := (HQq.out.keep hke).cell rfl; have u5 : we.cell? ⟨gq, 5, none⟩ = some (.bool Lg) := (HQq.out.keep hke).cell rfl; have ul := (HQq.out.keep hke).lt; have HKE := Lib.hid hke)
       have HT5 := Lib.hid (HTq.out.keep HKE.out)
       have HB5 := Lib.hid (HBq.out.keep HKE.out)
       have HQ5 := Lib.hid (HQq.out.keep HKE.out)
       have HR5 := Lib.hid (HRq.out.trans HKE.out)
       obtain ⟨w5, hw5⟩ : ∃ w5 : World, w5 = we := ⟨_, rfl⟩
       subst hw5
       clear tE0
       have HKEY : Hid (keysP pp.2 = []) := Lib.hid HKJ.out
       have HB5k : Hid (OwnB 2 cq w5 wa.heap.size (.slice (some ⟨gB, 0, none⟩) N1 N1) (bgArr (ks ++ []) N1)) := Lib.hid (by rw [List.append_nil]; exact HB5.out)
       have tE4 : (EN == 4) = false := by rw [hENv]; decide
       have tE3 : (EN == 3) = false := by rw [hENv]; decide
       clear hENv
       go_upto_region 35 with first | (go_at_call 22; refine (HEN.out _).mono ?_; rintro e we ⟨rfl, hke⟩; have u0 : we.cell? ⟨gq, 0, none⟩ = some (.int .i64 K) := (HQ5.out.keep hke).cell rfl; have u1 : we.cell? ⟨gq, 1, none⟩ = some (.int .i64 D) := (HQ5.out.keep hke).cell rfl; have u2 : we.cell? ⟨gq, 2, none⟩ = some (.int .i64 A) := (HQ5.out.keep hke).cell rfl; have u3 : we.cell? ⟨gq, 3, none⟩ = some (.int .i64 B) := (HQ5.out.keep hke).cell rfl; have u4 : we.cell? ⟨gq, 4, none⟩ = some (.int .i64 N) := (HQ5.out.keep hke).cell rfl; have u5 : we.cell? ⟨gq, 5, none⟩ = some (.bool Lg) := (HQ5.out.keep hke).cell rfl; have ul := (HQ5.out.keep hke).lt; have HKE := Lib.hid hke) | (go_at_call 22; refine (HEN.out _).mono ?_; rintro e wf ⟨rfl, hkf⟩; have u0 : wf.cell? ⟨gq, 0, none⟩ = some (.int .i64 K) := ((HQ5.out.keep HKE.out).keep hkf).cell rfl; have u1 : wf.cell? ⟨gq, 1, none⟩ = some (.int .i64 D) := ((HQ5.out.keep HKE.out).keep hkf).cell rfl; have u2 : wf.cell? ⟨gq, 2, none⟩ = some (.int .i64 A) := ((HQ5.out.keep HKE.out).keep hkf).cell rfl; have u3 : wf.cell? ⟨gq, 3, none⟩ = some (.int .i64 B) := ((HQ5.out.keep HKE.out).keep hkf).cell rfl; have u4 : wf.cell? ⟨gq, 4, none⟩ = some (.int .i64 N) := ((HQ5.out.keep HKE.out).keep hkf).cell rfl; have u5 : wf.cell? ⟨gq, 5, none⟩ = some (.bool Lg) := ((HQ5.out.keep HKE.out).keep hkf).cell rfl; have ul := ((HQ5.out.keep HKE.out).keep hkf).lt; have HKF := Lib.hid hkf)
       clear tE4 tE3
       have hk2 := HKE.out.trans HKF.out
       have HT6 := Lib.hid (HT5.out.keep hk2)
       have HB6 := Lib.hid (HB5k.out.keep hk2)
       have HQ6 := Lib.hid (HQ5.out.keep hk2)
       have HR6 := Lib.hid (HR5.out.trans hk2)
       clear hk2
       obtain ⟨w6, hw6⟩ : ∃ w6 : World, w6 = wf := ⟨_, rfl⟩
       subst hw6
       have tk23 : (K == 23) = false := by simpa using hk23
       have tk24 : (K == 24) = false := by simpa using hk24
       have HSPF : Hid (spB m (ownS (allS m) m.Funcs.length) FI ⟨a, Z, ⟨K, D, A, B, N, Lg⟩⟩ = false) := HSPJ
       go_wp2_with fail
       go_roundw
       case rel => exact ⟨a + 1, cq, _, by omega, by go_num, HT6, HB6, Lib.hid (KeysAt.step HG.out HSW.out HKS.out HPP.out HPA.out (by intro x; rw [HKEY.out])), Lib.hid (fun j hj => by
        rcases Nat.lt_or_ge j a with z | z
        ·exact HAT.out j z
        ·obtain rfl : j = a := by omega
         rw [HSPB.out]; exact HSPF.out)⟩
       case measure => simp [intOf]; omega
    case pos =>
    have hlzB : (i : Int) < (NF : Int) := by omega
    have hiF : i < m.Funcs.length := by rw [← HNF.out]; exact hltB
    obtain ⟨_, _, fe, -, -, -, f4⟩ := HI1.out
    injection fe with fe1 fe2 fe3
    subst fe1 fe3
    obtain ⟨fb, fof, hfa, fc⟩ := f4 (by omega)
    subst hfa
    have hgf := (HG.out.func i hiF).2.2
    have hsm0 := sumF_mono HG.out (show 0 ≤ i by omega) (Nat.le_of_lt hiF)
    have hsz0 : sumF m 0 = 0 := rfl
    have hxh := HH2.out
    obtain ⟨X, hX⟩ : ∃ X : Nat, (nth m.Funcs i).Start = (X : Int) := ⟨(nth m.Funcs i).Start.toNat, by omega⟩
    have hXN : X < N1 := by have := HTL.out; omega
    have hXNz : (X : Int) < (N1 : Int) := by omega
    have d1 : wr.cell? ⟨fb, fof + i * 3 + 1, none⟩ = some (.int .i64 X) := by rw [← hX]; exact (HKWA.out.trans hkr).cell (fc i 1 hiF (by decide))
    have dl := lt_of_cell d1
    obtain ⟨b1, b2, b3, b4, b5⟩ := ownC_cell HB4.out (j := X) (by rw [bgArr_len]; exact hXN)
    obtain ⟨BX, hBX⟩ : ∃ z, z = nth (bgArr (m.Tables.flatten ++ (List.range i).map fun i => (nth m.Funcs i).Start) N1) X := ⟨_, rfl⟩
    rw [← hBX] at b1
    have b1' : wr.cell? ⟨gB, X, none⟩ = some (.bool BX) := b1
    have hB5 := b4 true
    rw [bgArr_put _ hXN] at hB5
    have HB5 : Hid (OwnB 2 c4 (wr.setCell ⟨gB, X, none⟩ (.bool true)) wa.heap.size (.slice (some ⟨gB, 0, none⟩) N1 N1) (bgArr ((m.Tables.flatten ++ (List.range (i + 1)).map fun i => (nth m.Funcs i).Start)) N1)) := Lib.hid (by rw [List.range_succ, List.map_append, List.map_singleton, hX, ← List.append_assoc]; exact hB5)
    have HT5 := Lib.hid (HT4.out.trans ((b5 (bV true)).mono (J := (fun z => z = 2)) fun z h => h))
    clear hgf hsm0 hsz0 hxh hX b1 hkr hBX hB5 b4 b5 fc f4 fe2
    go_wp2_with fail
    go_roundw
    case rel => exact ⟨i + 1, c4, by omega, by go_num, HT5, HB5⟩
    case measure => simp [intOf]; omega
  case pos =>
  have hlzA : (k : Int) < (NT : Int) := by omega
  have hkT : k < m.Tables.length := by rw [← HNT.out]; exact hltA
  obtain ⟨_, _, te, -, -, -, t4⟩ := HI2a.out
  injection te with te1 te2 te3
  subst te1 te3
  obtain ⟨tb, tof, hta, tc⟩ := t4 (by omega)
  subst hta
  obtain ⟨sa, scap, hsv, s1, s2, s3, s4⟩ := HI2b.out k hkT
  obtain ⟨LT, hLT⟩ : ∃ l, l = nth m.Tables k := ⟨_, rfl⟩
  obtain ⟨TN, hTN⟩ : ∃ n, n = LT.length := ⟨_, rfl⟩
  rw [← hLT, ← hTN] at hsv s4
  have HY0 : Hid (∀ W', Keeps wa W' → W'.cell? ⟨tb, tof + k, none⟩ = some (.slice sa TN scap)) := Lib.hid (fun W' hk' => by
   have z := (HKWA.out.trans hk').cell (tc k 0 hkT (by decide))
   try dsimp only at z
   rw [hsv] at z
   simpa using z)
  have htt9 := HG.out.tab k hkT
  rw [← hLT, ← hTN] at htt9
  have hTN20 : TN ≤ 20 := htt9.1
  have HLT := Lib.hid hLT
  have HTN := Lib.hid hTN
  have HT9 := Lib.hid htt9
  have HS4 := Lib.hid s4
  have HB3' : Hid (OwnB 2 c3 wr wa.heap.size (.slice (some ⟨gB, 0, none⟩) N1 N1) (bgArr ((m.Tables.take k |>.flatten) ++ LT.take 0) N1)) := Lib.hid (by rw [List.take_zero, List.append_nil]; exact HB3.out)
  clear hsv s1 s2 s3 s4 tc t4 te2 hLT hTN htt9 hkr
  go_wp2_with fail
  clear n2 nl
  go_loopw [9] (fun s9 wn => ∃ (j : Nat) (c4 : Nat → Nat), j ≤ TN ∧ s9 = .int .i64 j ∧ Hid (Turn (fun z => z = 2) c2 w2 c4 wn) ∧ Hid (OwnB 2 c4 wn wa.heap.size (.slice (some ⟨gB, 0, none⟩) N1 N1) (bgArr ((m.Tables.take k |>.flatten) ++ LT.take j) N1)) ∧ Hid (∀ q, q < j → (ownS (allS m) m.Funcs.length (nth LT q)).isNone = false)) (fun s9 _ => TN - (intOf s9).toNat)
  case atStart => exact ⟨0, c3, Nat.zero_le _, rfl, HT3, HB3', Lib.hid (fun j hj => absurd hj (Nat.not_lt_zero _))⟩
  case round =>
   clear HT3 HB3 HB3'
   obtain ⟨j, c4, hj, rfl, HT4, HB4, HNN⟩ := hrel
   have hkr : Keeps wa wr := (HT2.out.trans (HT4.out.mono (J := (fun z => z ≠ 0)) fun z h => by omega)).below (Nat.le_refl _) (fun _ _ => rfl) (fun q => q rfl)
   have n2 := (HMA.out.keep hkr).cell (j := 2) rfl
   have nl := (HMA.out.keep hkr).lt
   have y0 := HY0.out _ hkr
   have yl := lt_of_cell y0
   by_cases hlt4 : j < TN
   case neg =>
    have tl4 : decide ((j : Int) < (TN : Int)) = false := decide_eq_false (by omega)
    have hB9 : OwnB 2 c4 wr wa.heap.size (.slice (some ⟨gB, 0, none⟩) N1 N1) (bgArr (m.Tables.take (k + 1) |>.flatten) N1) := by
     have z := HB4.out
     rw [show j = LT.length by rw [← HTN.out]; omega, List.take_length] at z
     rw [take_succ_nth _ _ hkT, List.flatten_append, ← HLT.out, List.flatten_singleton]
     exact z
    have hTB9 : tblB m (ownS (allS m) m.Funcs.length) k = false := by
     unfold tblB
     rw [← HLT.out, ← HTN.out]
     exact anyN_no (fun q hq => HNN.out q (by omega))
    have HB9 := Lib.hid hB9
    have HTB9 := Lib.hid hTB9
    clear hB9 hTB9 hkr
    go_wp2_with fail
    go_roundw
    case rel => exact ⟨k + 1, c4, by omega, by go_num, HT4, HB9, Lib.hid (fun q hq => by
     rcases Nat.lt_or_ge q k with z | z
     ·exact HTB.out q z
     ·obtain rfl : q = k := by omega
      exact HTB9.out)⟩
    case measure => simp [intOf]; omega
   case pos =>
   have hlz4 : (j : Int) < (TN : Int) := by omega
   obtain ⟨ab, aof, hsa, hsc4⟩ := HS4.out (by omega)
   subst hsa
   obtain ⟨x, hx⟩ : ∃ x, x = nth LT j := ⟨_, rfl⟩
   have hxb := HT9.out.2 j hlt4
   rw [← hx] at hxb
   have hxh := HH2.out
   obtain ⟨X, hX⟩ : ∃ X : Nat, x = (X : Int) := ⟨x.toNat, by omega⟩
   have y1 : wr.cell? ⟨ab, aof + j, none⟩ = some (.int .i64 X) := by
    have z := (HKWA.out.trans hkr).cell (hsc4 j 0 hlt4 (by decide))
    try dsimp only at z
    rw [← hx, hX] at z
    simpa using z
   have hXN : X < N1 := by have := HTL.out; omega
   have hXNz : (X : Int) < (N1 : Int) := by omega
   obtain ⟨o1, -, o3, -, -⟩ := ownC_cell (HO2.out.turn HT4.out (by decide)) (j := X) (by rw [ownArr_len]; exact hXN)
   rw [ownArr_at _ hXN] at o1
   obtain ⟨OX, hOX⟩ : ∃ z, z = (ownS (allS m) m.Funcs.length (X : Int)).getD (-1) := ⟨_, rfl⟩
   rw [← hOX] at o1
   have o1' : wr.cell? ⟨gO, X, none⟩ = some (.int .i64 OX) := o1
   have HXX : Hid (nth LT j = (X : Int)) := Lib.hid (by rw [← hx, hX])
   have HKR := Lib.hid hkr
   cases hom : ownS (allS m) m.Funcs.length (X : Int) with
   | none =>
    have tox : decide (OX < 0) = true := by rw [hOX, hom]; decide
    have HRB : Hid (recB m = true) := Lib.hid (recB_t hkT (by
     unfold tblB
     refine anyN_yes (k := j) (by rw [← HLT.out, ← HTN.out]; exact hlt4) ?_
     rw [← HLT.out, HXX.out, hom]
     rfl))
    have q0 := ((HFA.out.keep hkr)).cell (j := 0) rfl
    have q1 := ((HFA.out.keep hkr)).cell (j := 1) rfl
    have q2 := ((HFA.out.keep hkr)).cell (j := 2) rfl
    have z0 := ((HFA.out.keep hkr)).thawed 0
    have z1 := ((HFA.out.keep hkr)).thawed 1
    have z2 := ((HFA.out.keep hkr)).thawed 2
    have lq := (HFA.out.keep hkr).lt
    clear hsc4 hxb hxh hx hX hom hOX o1 hkr
    go_wp2_with fail
    obtain ⟨wf, hwf⟩ : ∃ wf : World, wf = (((wr).setCell ⟨w.heap.size + 1, 0, none⟩ (.slice none 0 0)).setCell ⟨w.heap.size + 1, 1, none⟩ (.slice none 0 0)).setCell ⟨w.heap.size + 1, 2, none⟩ (.slice none 0 0) := ⟨_, rfl⟩
    rw [← hwf]
    obtain ⟨hBf, hgf⟩ := put3 (HFA.out.keep HKR.out) _ _ _ hwf
    have HKF := Lib.hid (keepsPut (HKWA.out.trans HKR.out) (by omega) hgf)
    have e0 := hBf.cell (j := 0) rfl
    have e1 := hBf.cell (j := 1) rfl
    have e2 := hBf.cell (j := 2) rfl
    clear hwf hBf hgf
    exact bodyPost_ret (v := .tuple #[.agg #[.slice none 0 0, .slice none 0 0, .slice none 0 0], .int .i64 9]) (by simp [results, Tryd.results7, go_sem, e0, e1, e2]) rfl (FlAns.bad (one_bad HFE.out.symm HBIG.out HRB.out) HKF.out)
   | some g =>
    have hge := ownR_ge m (X : Int)
    have hgn : ¬ OX < 0 := by
     obtain ⟨p, -, -, e2⟩ := ownS_some hom
     rw [hOX, hom]
     show ¬ g < 0
     omega
    have tox : decide (OX < 0) = false := decide_eq_false hgn
    have HNS : Hid ((ownS (allS m) m.Funcs.length (nth LT j)).isNone = false) := Lib.hid (by rw [HXX.out, hom]; rfl)
    obtain ⟨b1, b2, b3, b4, b5⟩ := ownC_cell HB4.out (j := X) (by rw [bgArr_len]; exact hXN)
    obtain ⟨BX, hBX⟩ : ∃ z, z = nth (bgArr ((m.Tables.take k |>.flatten) ++ LT.take j) N1) X := ⟨_, rfl⟩
    rw [← hBX] at b1
    have b1' : wr.cell? ⟨gB, X, none⟩ = some (.bool BX) := b1
    have hB5 := b4 true
    rw [bgArr_put _ hXN] at hB5
    have HB5 := Lib.hid hB5
    have HT5 := Lib.hid (HT4.out.trans ((b5 (bV true)).mono (J := (fun z => z = 2)) fun z h => h))
    clear hsc4 hxb hxh hx hX hom hOX o1 b1 hkr hge hgn hBX hB5 b4 b5
    go_wp2_with fail
    go_roundw
    case rel => exact ⟨j + 1, c4, by omega, by go_num, HT5, Lib.hid (by rw [take_succ_nth _ _ (by rw [← HTN.out]; exact hlt4), HXX.out, ← List.append_assoc]; exact HB5.out), Lib.hid (fun q hq => by
     rcases Nat.lt_or_ge q j with z | z
     ·exact HNN.out q z
     ·obtain rfl : q = j := by omega
      exact HNS.out)⟩
    case measure => simp [intOf]; omega
end Go.Proofs.YtnekiooaobnndaaDoor
