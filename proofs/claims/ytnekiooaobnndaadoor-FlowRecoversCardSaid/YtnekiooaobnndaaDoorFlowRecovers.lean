/-
 The law FlowRecovers, for every image, and its card: flow.Recover of a copy answers what the document's RecoveredOf answers, and the copy is still the same. The one condition is the row's own: the tables isa.rows and isa.sizes hold what their initialisers lay, which the card ties to the program's text.
-/
import Derived.Test.YtnekiooaobnndaaDoorCards
import Derived.Test.YtnekiooaobnndaaDoorTie
import Derived.Test.YtnekiooaobnndaaDoorFlRec9
import Derived.Test.YtnekiooaobnndaaDoorFlDoc3
import Derived.Test.YtnekiooaobnndaaDoorSameFlow
import Derived.Test.YtnekiooaobnndaaDoorRefCopy
import Derived.Test.YtnekiooaobnndaaDoorImgOpen
import Derived.Test.YtnekiooaobnndaaDoorIsaLaid2
import Derived.Deep.DeepHandedRow
set_option linter.unusedVariables false
set_option linter.unusedSimpArgs false
namespace Go.Proofs.YtnekiooaobnndaaDoor.flowRecovers
open Go.ChangeShapes Go.WideShapes Go.ChangeAt Go.RowKit BH

set_option maxHeartbeats 10000000
set_option maxRecDepth 100000
theorem small {m : Img} (h : ImgOk m) : ImgSmall m := by
 have hr : reachBytes ≤ 140737488355328 := by decide
 refine ⟨by have := h.text; omega, by have := h.funsN; omega, fun t ht => ?_, by have := h.tabsN; omega, by have := h.dataN; omega, by have := h.linesN; omega⟩
 obtain ⟨i, hi, he⟩ := List.getElem_of_mem ht
 have := (h.tabs i hi).2
 rw [nth_eq _ _ hi, he] at this
 omega
theorem flow_form {w : World} {v : Value} {f : Fl} (h : FlowAt w v f) : ∃ a0 c0 a1 c1 a2 c2, v = .agg #[.slice a0 f.Blocks.length c0, .slice a1 f.Tables.length c1, .slice a2 f.Firsts.length c2] := by
 obtain ⟨v0, v1, v2, rfl, ⟨_, _, _, hb, _⟩, ⟨_, ht, _⟩, hf⟩ := h
 obtain ⟨a0, c0, rfl⟩ := Arr.form hb
 obtain ⟨a1, c1, rfl⟩ := Arr.form ht
 obtain ⟨a2, c2, rfl⟩ := Arr.form hf
 exact ⟨a0, c0, a1, c1, a2, c2, rfl⟩
theorem walk (v : Value) (m : Img) (w : World) (ht : Tab w) (hs : Siz w) (hv : ImgAt w v m) (hok : ImgOk m) :
  Calls Tryd.prog 3 #[v] w fun e w' => e = .returned (.bool true) ∧ Keeps w w' := by
 have HS := Lib.hid (small hok)
 have HV := Lib.hid hv
 obtain ⟨E, hE⟩ : ∃ z, z = recE m := ⟨_, rfl⟩
 obtain ⟨R, hR⟩ : ∃ z, z = recA m := ⟨_, rfl⟩
 have h1 := fun w' v' (hk : Keeps w w') (h : ImgAt w' v' m) => recover_any (ht.keep hk) (hs.keep hk) h
 have h2 := fun w' v' (h : ImgAt w' v' m) => recRef_any (v := v') (w := w') h
 unfold FlAns at h1 h2
 rw [← hE, ← hR] at h1 h2
 have H1 := Lib.hid h1
 have H2 := Lib.hid h2
 have tE : (E == E) = true := by simp
 obtain ⟨NB, hNB⟩ : ∃ n, n = R.Blocks.length := ⟨_, rfl⟩
 obtain ⟨NT, hNT⟩ : ∃ n, n = R.Tables.length := ⟨_, rfl⟩
 obtain ⟨NF, hNF⟩ : ∃ n, n = R.Firsts.length := ⟨_, rfl⟩
 have HNB := Lib.hid hNB
 have HNT := Lib.hid hNT
 have HNF := Lib.hid hNF
 clear hE hR h1 h2 ht hs hok hNB hNT hNF
 obtain ⟨v0, v1, v2, v3, v4, rfl, z0, z1, ⟨_, z2, _⟩, z3, z4⟩ := hv
 obtain ⟨x0, xc0, rfl⟩ := Arr.form z0
 obtain ⟨x1, xc1, rfl⟩ := Arr.form z1
 obtain ⟨x2, xc2, rfl⟩ := Arr.form z2
 obtain ⟨x3, xc3, rfl⟩ := Arr.form z3
 obtain ⟨x4, xc4, rfl⟩ := Arr.form z4
 clear z0 z1 z2 z3 z4
 go_enter Tryd.func3, Tryd.ntmps3
 go_upto_region 1 with fail
 obtain ⟨wA, hw2, hB2, hk2⟩ : ∃ w', w' = w.alloc (.cells #[.slice x0 m.Text.length xc0, .slice x1 m.Funcs.length xc1, .slice x2 m.Tables.length xc2, .slice x3 m.Data.length xc3, .slice x4 m.Lines.length xc4, .int .i64 m.Entry] 28) ∧ Blk w' w.heap.size (.cells #[.slice x0 m.Text.length xc0, .slice x1 m.Funcs.length xc1, .slice x2 m.Tables.length xc2, .slice x3 m.Data.length xc3, .slice x4 m.Lines.length xc4, .int .i64 m.Entry] 28) ∧ Keeps w w' := ⟨_, rfl, Blk.top _ _, (Keeps.refl _).alloc _⟩
 rw [← hw2]
 obtain ⟨gm, hg2⟩ : ∃ g, g = w.heap.size := ⟨_, rfl⟩
 rw [← hg2] at hB2 ⊢
 have HBX := Lib.hid hB2
 have HKA := Lib.hid hk2
 clear hw2 hg2 hB2 hk2
 have n0 : wA.cell? ⟨gm, 0, none⟩ = some (.slice x0 m.Text.length xc0) := HBX.out.cell (j := 0) rfl
 have n1 : wA.cell? ⟨gm, 1, none⟩ = some (.slice x1 m.Funcs.length xc1) := HBX.out.cell (j := 1) rfl
 have n2 : wA.cell? ⟨gm, 2, none⟩ = some (.slice x2 m.Tables.length xc2) := HBX.out.cell (j := 2) rfl
 have n3 : wA.cell? ⟨gm, 3, none⟩ = some (.slice x3 m.Data.length xc3) := HBX.out.cell (j := 3) rfl
 have n4 : wA.cell? ⟨gm, 4, none⟩ = some (.slice x4 m.Lines.length xc4) := HBX.out.cell (j := 4) rfl
 have n5 : wA.cell? ⟨gm, 5, none⟩ = some (.int .i64 m.Entry) := HBX.out.cell (j := 5) rfl
 have nl := HBX.out.lt
 go_wp2_with fail
 refine (imageCopy_any _ m _ (HV.out.keep HKA.out) HS.out).mono ?_
 rintro e w1 ⟨vk, rfl, hk, hk1⟩
 have HK := Lib.hid hk
 have HK1 := Lib.hid hk1
 obtain ⟨k0, k1, k2, k3, k4, rfl, y0, y1, ⟨_, y2, _⟩, y3, y4⟩ := hk
 obtain ⟨k0, kc0, rfl⟩ := Arr.form y0
 obtain ⟨k1, kc1, rfl⟩ := Arr.form y1
 obtain ⟨k2, kc2, rfl⟩ := Arr.form y2
 obtain ⟨k3, kc3, rfl⟩ := Arr.form y3
 obtain ⟨k4, kc4, rfl⟩ := Arr.form y4
 clear y0 y1 y2 y3 y4 hk1 n0 n1 n2 n3 n4 n5 nl
 go_upto_region 2 with fail
 obtain ⟨w2, hw2, hB2, hk2⟩ : ∃ w', w' = w1.alloc (.cells #[.slice k0 m.Text.length kc0, .slice k1 m.Funcs.length kc1, .slice k2 m.Tables.length kc2, .slice k3 m.Data.length kc3, .slice k4 m.Lines.length kc4, .int .i64 m.Entry] 28) ∧ Blk w' w1.heap.size (.cells #[.slice k0 m.Text.length kc0, .slice k1 m.Funcs.length kc1, .slice k2 m.Tables.length kc2, .slice k3 m.Data.length kc3, .slice k4 m.Lines.length kc4, .int .i64 m.Entry] 28) ∧ Keeps w1 w' := ⟨_, rfl, Blk.top _ _, (Keeps.refl _).alloc _⟩
 rw [← hw2]
 obtain ⟨gk, hg2⟩ : ∃ g, g = w1.heap.size := ⟨_, rfl⟩
 rw [← hg2] at hB2 ⊢
 have HBK := Lib.hid hB2
 have HK2 := Lib.hid hk2
 clear hw2 hg2 hB2 hk2
 have i0 : w2.cell? ⟨gk, 0, none⟩ = some (.slice k0 m.Text.length kc0) := HBK.out.cell (j := 0) rfl
 have i1 : w2.cell? ⟨gk, 1, none⟩ = some (.slice k1 m.Funcs.length kc1) := HBK.out.cell (j := 1) rfl
 have i2 : w2.cell? ⟨gk, 2, none⟩ = some (.slice k2 m.Tables.length kc2) := HBK.out.cell (j := 2) rfl
 have i3 : w2.cell? ⟨gk, 3, none⟩ = some (.slice k3 m.Data.length kc3) := HBK.out.cell (j := 3) rfl
 have i4 : w2.cell? ⟨gk, 4, none⟩ = some (.slice k4 m.Lines.length kc4) := HBK.out.cell (j := 4) rfl
 have i5 : w2.cell? ⟨gk, 5, none⟩ = some (.int .i64 m.Entry) := HBK.out.cell (j := 5) rfl
 have il := HBK.out.lt
 go_wp2_with fail
 refine (H1.out _ _ (HKA.out.trans (HK1.out.trans HK2.out)) (HK.out.keep HK2.out)).mono ?_
 rintro e w3 ⟨fv, rfl, hf, hk3⟩
 have HF := Lib.hid hf
 have HK3 := Lib.hid hk3
 obtain ⟨a0, ad0, a1, ad1, a2, ad2, rfl⟩ := flow_form hf
 rw [← HNB.out, ← HNT.out, ← HNF.out] at HF ⊢
 clear hf hk3 i0 i1 i2 i3 i4 i5 il
 go_upto_region 3 with fail
 obtain ⟨w4, hw2, hB2, hk2⟩ : ∃ w', w' = w3.alloc (.cells #[.slice a0 NB ad0, .slice a1 NT ad1, .slice a2 NF ad2] 32) ∧ Blk w' w3.heap.size (.cells #[.slice a0 NB ad0, .slice a1 NT ad1, .slice a2 NF ad2] 32) ∧ Keeps w3 w' := ⟨_, rfl, Blk.top _ _, (Keeps.refl _).alloc _⟩
 rw [← hw2]
 obtain ⟨gf, hg2⟩ : ∃ g, g = w3.heap.size := ⟨_, rfl⟩
 rw [← hg2] at hB2 ⊢
 have HBF := Lib.hid hB2
 have HK4 := Lib.hid hk2
 clear hw2 hg2 hB2 hk2
 have n0 : w4.cell? ⟨gm, 0, none⟩ = some (.slice x0 m.Text.length xc0) := (HBX.out.keep (HK1.out.trans (HK2.out.trans (HK3.out.trans HK4.out)))).cell (j := 0) rfl
 have n1 : w4.cell? ⟨gm, 1, none⟩ = some (.slice x1 m.Funcs.length xc1) := (HBX.out.keep (HK1.out.trans (HK2.out.trans (HK3.out.trans HK4.out)))).cell (j := 1) rfl
 have n2 : w4.cell? ⟨gm, 2, none⟩ = some (.slice x2 m.Tables.length xc2) := (HBX.out.keep (HK1.out.trans (HK2.out.trans (HK3.out.trans HK4.out)))).cell (j := 2) rfl
 have n3 : w4.cell? ⟨gm, 3, none⟩ = some (.slice x3 m.Data.length xc3) := (HBX.out.keep (HK1.out.trans (HK2.out.trans (HK3.out.trans HK4.out)))).cell (j := 3) rfl
 have n4 : w4.cell? ⟨gm, 4, none⟩ = some (.slice x4 m.Lines.length xc4) := (HBX.out.keep (HK1.out.trans (HK2.out.trans (HK3.out.trans HK4.out)))).cell (j := 4) rfl
 have n5 : w4.cell? ⟨gm, 5, none⟩ = some (.int .i64 m.Entry) := (HBX.out.keep (HK1.out.trans (HK2.out.trans (HK3.out.trans HK4.out)))).cell (j := 5) rfl
 have nl := (HBX.out.keep (HK1.out.trans (HK2.out.trans (HK3.out.trans HK4.out)))).lt
 go_wp2_with fail
 refine (H2.out _ _ (HV.out.keep (HKA.out.trans (HK1.out.trans (HK2.out.trans (HK3.out.trans HK4.out)))))).mono ?_
 rintro e w5 ⟨fv, rfl, hf, hk5⟩
 have HG := Lib.hid hf
 have HK5 := Lib.hid hk5
 obtain ⟨b0, bd0, b1, bd1, b2, bd2, rfl⟩ := flow_form hf
 rw [← HNB.out, ← HNT.out, ← HNF.out] at HG ⊢
 clear hf hk5 n0 n1 n2 n3 n4 n5 nl
 go_upto_region 4 with fail
 obtain ⟨w6, hw2, hB2, hk2⟩ : ∃ w', w' = w5.alloc (.cells #[.slice b0 NB bd0, .slice b1 NT bd1, .slice b2 NF bd2] 32) ∧ Blk w' w5.heap.size (.cells #[.slice b0 NB bd0, .slice b1 NT bd1, .slice b2 NF bd2] 32) ∧ Keeps w5 w' := ⟨_, rfl, Blk.top _ _, (Keeps.refl _).alloc _⟩
 rw [← hw2]
 obtain ⟨gg, hg2⟩ : ∃ g, g = w5.heap.size := ⟨_, rfl⟩
 rw [← hg2] at hB2 ⊢
 have HBG := Lib.hid hB2
 have HK6 := Lib.hid hk2
 clear hw2 hg2 hB2 hk2
 have p0 : w6.cell? ⟨gf, 0, none⟩ = some (.slice a0 NB ad0) := (HBF.out.keep (HK5.out.trans HK6.out)).cell (j := 0) rfl
 have p1 : w6.cell? ⟨gf, 1, none⟩ = some (.slice a1 NT ad1) := (HBF.out.keep (HK5.out.trans HK6.out)).cell (j := 1) rfl
 have p2 : w6.cell? ⟨gf, 2, none⟩ = some (.slice a2 NF ad2) := (HBF.out.keep (HK5.out.trans HK6.out)).cell (j := 2) rfl
 have pl := (HBF.out.keep (HK5.out.trans HK6.out)).lt
 have q0 : w6.cell? ⟨gg, 0, none⟩ = some (.slice b0 NB bd0) := HBG.out.cell (j := 0) rfl
 have q1 : w6.cell? ⟨gg, 1, none⟩ = some (.slice b1 NT bd1) := HBG.out.cell (j := 1) rfl
 have q2 : w6.cell? ⟨gg, 2, none⟩ = some (.slice b2 NF bd2) := HBG.out.cell (j := 2) rfl
 have ql := HBG.out.lt
 go_wp2_with (first
  | (go_at_call 8; refine (sameFlow_yes _ _ R _ (HF.out.keep (HK4.out.trans (HK5.out.trans HK6.out))) (HG.out.keep HK6.out)).mono ?_; rintro e w7 ⟨rfl, hk7⟩; have HK7 := Lib.hid hk7
     have i0 : w7.cell? ⟨gk, 0, none⟩ = some (.slice k0 m.Text.length kc0) := (HBK.out.keep (HK3.out.trans (HK4.out.trans (HK5.out.trans (HK6.out.trans HK7.out))))).cell (j := 0) rfl
     have i1 : w7.cell? ⟨gk, 1, none⟩ = some (.slice k1 m.Funcs.length kc1) := (HBK.out.keep (HK3.out.trans (HK4.out.trans (HK5.out.trans (HK6.out.trans HK7.out))))).cell (j := 1) rfl
     have i2 : w7.cell? ⟨gk, 2, none⟩ = some (.slice k2 m.Tables.length kc2) := (HBK.out.keep (HK3.out.trans (HK4.out.trans (HK5.out.trans (HK6.out.trans HK7.out))))).cell (j := 2) rfl
     have i3 : w7.cell? ⟨gk, 3, none⟩ = some (.slice k3 m.Data.length kc3) := (HBK.out.keep (HK3.out.trans (HK4.out.trans (HK5.out.trans (HK6.out.trans HK7.out))))).cell (j := 3) rfl
     have i4 : w7.cell? ⟨gk, 4, none⟩ = some (.slice k4 m.Lines.length kc4) := (HBK.out.keep (HK3.out.trans (HK4.out.trans (HK5.out.trans (HK6.out.trans HK7.out))))).cell (j := 4) rfl
     have i5 : w7.cell? ⟨gk, 5, none⟩ = some (.int .i64 m.Entry) := (HBK.out.keep (HK3.out.trans (HK4.out.trans (HK5.out.trans (HK6.out.trans HK7.out))))).cell (j := 5) rfl
     have il := (HBK.out.keep (HK3.out.trans (HK4.out.trans (HK5.out.trans (HK6.out.trans HK7.out))))).lt
     have n0 : w7.cell? ⟨gm, 0, none⟩ = some (.slice x0 m.Text.length xc0) := (HBX.out.keep (HK1.out.trans (HK2.out.trans (HK3.out.trans (HK4.out.trans (HK5.out.trans (HK6.out.trans HK7.out))))))).cell (j := 0) rfl
     have n1 : w7.cell? ⟨gm, 1, none⟩ = some (.slice x1 m.Funcs.length xc1) := (HBX.out.keep (HK1.out.trans (HK2.out.trans (HK3.out.trans (HK4.out.trans (HK5.out.trans (HK6.out.trans HK7.out))))))).cell (j := 1) rfl
     have n2 : w7.cell? ⟨gm, 2, none⟩ = some (.slice x2 m.Tables.length xc2) := (HBX.out.keep (HK1.out.trans (HK2.out.trans (HK3.out.trans (HK4.out.trans (HK5.out.trans (HK6.out.trans HK7.out))))))).cell (j := 2) rfl
     have n3 : w7.cell? ⟨gm, 3, none⟩ = some (.slice x3 m.Data.length xc3) := (HBX.out.keep (HK1.out.trans (HK2.out.trans (HK3.out.trans (HK4.out.trans (HK5.out.trans (HK6.out.trans HK7.out))))))).cell (j := 3) rfl
     have n4 : w7.cell? ⟨gm, 4, none⟩ = some (.slice x4 m.Lines.length xc4) := (HBX.out.keep (HK1.out.trans (HK2.out.trans (HK3.out.trans (HK4.out.trans (HK5.out.trans (HK6.out.trans HK7.out))))))).cell (j := 4) rfl
     have n5 : w7.cell? ⟨gm, 5, none⟩ = some (.int .i64 m.Entry) := (HBX.out.keep (HK1.out.trans (HK2.out.trans (HK3.out.trans (HK4.out.trans (HK5.out.trans (HK6.out.trans HK7.out))))))).cell (j := 5) rfl
     have nl := (HBX.out.keep (HK1.out.trans (HK2.out.trans (HK3.out.trans (HK4.out.trans (HK5.out.trans (HK6.out.trans HK7.out))))))).lt
     clear hk7 p0 p1 p2 pl q0 q1 q2 ql)
  | (go_at_call 9; refine (sameImage_yes _ _ m _ (HK.out.keep (HK2.out.trans (HK3.out.trans (HK4.out.trans (HK5.out.trans (HK6.out.trans HK7.out)))))) (HV.out.keep (HKA.out.trans (HK1.out.trans (HK2.out.trans (HK3.out.trans (HK4.out.trans (HK5.out.trans (HK6.out.trans HK7.out))))))))).mono ?_; rintro e w8 ⟨rfl, hk8⟩))
 go_ret
 exact ⟨by simp, HKA.out.trans (HK1.out.trans (HK2.out.trans (HK3.out.trans (HK4.out.trans (HK5.out.trans (HK6.out.trans (HK7.out.trans hk8)))))))⟩

theorem own : ownKnob Tryd.prog.godebug = none := by kernel_rfl
theorem laidOut : laidOutB Tryd.prog = true := by kernel_rfl
theorem reads : ∀ t ∈ Tryd.f3.params.toList, Tryd.prog.readableRec t = true ∧ t < Tryd.prog.types.size := by
 intro t ht
 rw [Tryd.params3] at ht
 simp only [List.mem_cons, List.mem_nil_iff, or_false] at ht
 subst ht
 exact ⟨by kernel_rfl, of_decide_eq_true (by kernel_rfl)⟩

theorem contract (H : Type) (enc : TypeId × Value → H) (W : World) (base : Nat) (args : Array Value) (ds gs : List (DataW H)) (before : List MemPlace)
  (hval : ∀ (j : Nat) t v, Tryd.f3.params[j]? = some t → args[j]? = some v → Value.okWide Tryd.prog W .any base t v)
  (hW : DataW.Whole enc Tryd.prog Tryd.f3.params.toList Rows.flowRecoversSpec.vars false W args.toList ds gs before)
  (hsz : (DataW.weightsEach Tryd.prog (Tryd.f3.params.toList ++ []) (ds ++ gs)).all (· ≤ reachBytes) = true)
  (hL : laidMetH Tryd.prog Rows.flowRecoversRow.laid W) :
  Calls Tryd.prog 3 args W fun e W' => ∃ v, e = .returned v ∧ Rows.flowRecoversSpec.post enc Tryd.prog Tryd.f3 false true false false W args v W' := by
 have hT : Tab W := tab_of_laid hL
 have hS : Siz W := siz_of_laid hL
 have hW' := hW
 obtain ⟨p, q, hA0, hV, rfl, hfz, hnd⟩ := hW
 have hA : DataW.TrodAll enc Tryd.prog W 0 (fun _ => true) true Tryd.f3.params.toList args.toList ds p := hA0
 have hsz' := hsz
 rw [Tryd.params3] at hA hval hsz'
 obtain ⟨v0, d0, hargs, rfl, h0⟩ := trodAll_one hA
 obtain ⟨rfl, rfl⟩ := trodVars_none hV
 obtain rfl : args = #[v0] := by cases args; simp_all
 obtain ⟨m, hm, okm⟩ := img_open (hval 0 _ v0 rfl rfl) h0 (fits_each hsz' (j := 0) rfl rfl)
 refine (walk _ m W hT hS hm okm).mono fun e W' ⟨he, hk⟩ => ?_
 subst he
 exact ⟨_, rfl, law_post laidOut reads rfl Tryd.underlying4 rfl rfl rfl rfl hW' hk⟩

/-- A world for the witness: the settled one, the tables holding what their initialisers lay. -/
noncomputable def laidWorld (os : Os) : World :=
 { World.holding Tryd.prog os ⟨#[], #[], []⟩ with heap := (((World.holding Tryd.prog os ⟨#[], #[], []⟩).heap.modify 0 fun
   | .cells _ t frozen => .cells #[.int .u8 0, .int .u8 0, .int .i64 0, .int .u8 0, .int .u8 0, .int .i64 1, .int .u8 1, .int .u8 0, .int .i64 1, .int .u8 2, .int .u8 0, .int .i64 1, .int .u8 3, .int .u8 0, .int .i64 1, .int .u8 16, .int .u8 0, .int .i64 2, .int .u8 17, .int .u8 0, .int .i64 3, .int .u8 32, .int .u8 0, .int .i64 4, .int .u8 33, .int .u8 0, .int .i64 4, .int .u8 34, .int .u8 0, .int .i64 4, .int .u8 35, .int .u8 0, .int .i64 4, .int .u8 36, .int .u8 0, .int .i64 4, .int .u8 37, .int .u8 0, .int .i64 4, .int .u8 38, .int .u8 0, .int .i64 4, .int .u8 48, .int .u8 0, .int .i64 3, .int .u8 49, .int .u8 0, .int .i64 5, .int .u8 64, .int .u8 0, .int .i64 6, .int .u8 65, .int .u8 0, .int .i64 7, .int .u8 80, .int .u8 84, .int .i64 8, .int .u8 81, .int .u8 85, .int .i64 8, .int .u8 82, .int .u8 86, .int .i64 8, .int .u8 83, .int .u8 87, .int .i64 8, .int .u8 96, .int .u8 97, .int .i64 9, .int .u8 98, .int .u8 0, .int .i64 10, .int .u8 99, .int .u8 0, .int .i64 11] t frozen
   | o => o).modify 1 fun
   | .cells _ t frozen => .cells #[.int .i64 0, .int .i64 1, .int .i64 4, .int .i64 3, .int .i64 3, .int .i64 3, .int .i64 2, .int .i64 2, .int .i64 3, .int .i64 2, .int .i64 3, .int .i64 3] t frozen
   | o => o) }
theorem laid_met (os : Os) : laidMet Tryd.prog Rows.flowRecoversRow.laid ((laidWorld os).forCall (fun _ _ => 0) ⟨#[], #[.agg #[.slice none 0 0, .slice none 0 0, .slice none 0 0, .slice none 0 0, .slice none 0 0, .int .i64 0]], []⟩).memory :=
 laidMet_of_run' 8 (by kernel_rfl) (by kernel_rfl)
theorem readsW (os : Os) {H : Type} (enc : TypeId × Value → H) : ∃ places, DataW.whole enc Tryd.prog ((laidWorld os).forCall (fun _ _ => 0) ⟨#[], #[.agg #[.slice none 0 0, .slice none 0 0, .slice none 0 0, .slice none 0 0, .slice none 0 0, .int .i64 0]], []⟩).memory Tryd.f3.params.toList Rows.flowRecoversSpec.vars false (#[.agg #[.slice none 0 0, .slice none 0 0, .slice none 0 0, .slice none 0 0, .slice none 0 0, .int .i64 0]] : Array Value).toList 8 = some ([.agg [.nil, .nil, .nil, .nil, .nil, .lit (.int .i64 0)]], [], places) :=
 ⟨[], by kernel_rfl⟩

theorem lifted (os : Os) (started : os.Started) (H : Type) (enc : TypeId × Value → H) (F : Stop.Interp) :
  ReturnsInHanded {} Tryd.checked os 3 .any ((OpenSpec.ofChange Rows.flowRecoversSpec).preRow enc Tryd.prog Tryd.f3 Rows.flowRecoversRow.domain false Rows.flowRecoversRow.laid) (((OpenSpec.ofChange Rows.flowRecoversSpec).at F).post enc Tryd.prog Tryd.f3 false true false false) := by
 obtain ⟨places, hx⟩ := readsW os enc
 refine returnsInHanded_of_row (C := Tryd.checked) (s := OpenSpec.ofChange Rows.flowRecoversSpec) own started (by kernel_rfl) Tryd.func3
  (witness_row_at (enc := enc) (C := Tryd.checked) false (laidWorld os) #[.agg #[.slice none 0 0, .slice none 0 0, .slice none 0 0, .slice none 0 0, .slice none 0 0, .int .i64 0]] rfl (by kernel_rfl) (by kernel_rfl) (by kernel_rfl)
   (OpenSpec.preRow_of_cond 8 hx (by kernel_rfl) (fun k hk => by cases hk) (by kernel_rfl) (laid_met os))) ?_
 intro W base args ds gs before hval hW hx1 hx2 hx3 hL hx4 hx5
 exact contract H enc W base args ds gs before hval hW (by first | exact hx1 | exact hx2 | exact hx3 | exact hx4 | exact hx5) hL

theorem said : Rows.FlowRecoversSaid :=
 OpenClaim.holds_of_cond 3 Tryd.f3 rfl rfl rfl rfl rfl rfl rfl ⟨rfl, rfl, rfl, rfl, rfl⟩ rfl rfl rfl rfl rfl (by kernel_rfl) Tryd.func3 (by kernel_rfl)
  (of_decide_eq_true (by kernel_rfl)) (by unfold Func.isWrapper; first | (rw [if_pos (by decide +kernel)]; kernel_rfl) | (rw [if_neg (by decide +kernel)]; exact ⟨rfl, rfl⟩))
  (fun os started H enc _ F => by rw [OpenClaim.pre_eq_preRow]; exact lifted os started H enc F)

theorem plain (f : FuncId) (fn : Func) (hf : Tryd.pinned.checked.prog.funcNamed "bolthole/boltholelaw.FlowRecovers" = some f) (hfn : Tryd.pinned.checked.prog.funcs[f]? = some fn) :
  false = Tryd.pinned.checked.prog.looks [] ∧ ∀ (j : Nat) t, fn.params[j]? = some t → Tryd.pinned.checked.prog.wantsStandIn t = false := by
 obtain rfl : f = 3 := Option.some.inj ((show Tryd.prog.funcNamed "bolthole/boltholelaw.FlowRecovers" = some 3 by kernel_rfl).symm.trans hf) |>.symm
 obtain rfl : fn = Tryd.f3 := (Option.some.inj (Tryd.func3.symm.trans hfn)).symm
 refine ⟨by kernel_rfl, fun j t ht => ?_⟩
 rw [Tryd.params3] at ht
 have hm := Array.mem_of_getElem? ht
 simp only [List.mem_toArray, List.mem_cons, List.mem_nil_iff, or_false] at hm
 subst hm
 exact (show Tryd.prog.wantsStandIn 28 = false by kernel_rfl)

/-- THE CARD -/
theorem card : Rows.FlowRecoversCardSaid :=
 Claim7.holds_tied_plain_at .later [] _ _ _ _ said (fun _ h => by cases h) (by kernel_rfl) (fun _ h => by cases h) flowRecovers_row_tie rfl ⟨rfl, rfl⟩ (by kernel_rfl) rfl plain (by kernel_rfl)
end Go.Proofs.YtnekiooaobnndaaDoor.flowRecovers
