/-
  The law StepRuns, for every image, all inputs and every fuel, and its card: step.Run of a copy answers what the document's Ran answers, and the copy is still the same. The one condition is the row's own: the tables isa.rows and isa.sizes hold what their initialisers lay, which the card ties to the program's text.
-/
import Derived.Test.YtpgifkhgefbnfaaDoorCards
import Derived.Test.YtpgifkhgefbnfaaDoorTie
import Derived.Test.YtpgifkhgefbnfaaDoorRan
import Derived.Test.YtpgifkhgefbnfaaDoorSameRun
import Derived.Test.YtpgifkhgefbnfaaDoorRefCopy
import Derived.Test.YtpgifkhgefbnfaaDoorImgOpen
import Derived.Test.YtpgifkhgefbnfaaDoorIsaLaid2
import Derived.Deep.DeepHandedRow
namespace Go.Proofs.YtpgifkhgefbnfaaDoor.stepRuns
open Go.ChangeShapes Go.WideShapes Go.ChangeAt Go.RowKit BH

set_option maxHeartbeats 1000000
set_option maxRecDepth 100000
theorem small {m : Img} (h : ImgOk m) : ImgSmall m := by
  have hr : reachBytes ≤ 140737488355328 := by decide
  refine ⟨by have := h.text; omega, by have := h.funsN; omega, fun t ht => ?_, by have := h.tabsN; omega, by have := h.dataN; omega, by have := h.linesN; omega⟩
  obtain ⟨i, hi, he⟩ := List.getElem_of_mem ht
  have := (h.tabs i hi).2
  rw [nth_eq _ _ hi, he] at this
  omega
theorem walk (v vin : Value) (m : Img) (inp : List Int) (fuel : Int) (w : World) (ht : Tab w) (hs : Siz w) (hv : ImgAt w v m) (hok : ImgOk m) (hi : Ints w vin inp) (hil : inp.length * 8 ≤ reachBytes) :
    Calls Tryd.prog 5 #[v, vin, .int .i64 fuel] w fun e w' => e = .returned (.bool true) ∧ Keeps w w' := by
  have hil2 : inp.length * 8 ≤ 140737488355328 := Nat.le_trans hil (by decide)
  have hsm := small hok
  have hl := hsm.text
  obtain ⟨r, er, hr⟩ : ∃ r er, ranS m inp fuel = (r, er) := ⟨_, _, rfl⟩
  have h1 := fun w' (hk : Keeps w w') v1 v2 (h1 : ImgAt w' v1 m) (h2 : Ints w' v2 inp) => run_any v1 v2 m inp fuel w' (ht.keep hk) (hs.keep hk) h1 h2 hl
  have h2 := fun w' v1 v2 (h1 : ImgAt w' v1 m) (h2 : Ints w' v2 inp) => ran_any v1 v2 m inp fuel w' h1 h2 hl
  rw [hr] at h1 h2
  have H1 := Lib.hid h1
  have H2 := Lib.hid h2
  have HS := Lib.hid hsm
  have HV := Lib.hid hv
  have HI := Lib.hid hi
  clear hr h1 h2 hl hil hok hsm ht hs
  obtain ⟨v0, v1, v2, v3, v4, rfl, -⟩ := hv
  obtain ⟨oi, ei, rfl⟩ := Arr.form hi
  clear hi
  go_enter Tryd.func5, Tryd.ntmps5
  go_wp2_with fail
  refine (imageCopy_any _ m _ (HV.out.keep ((Keeps.refl w).alloc _)) HS.out).mono ?_
  rintro e w1 ⟨vk, rfl, hk, hk1⟩
  have hkw : Keeps w w1 := ((Keeps.refl w).alloc _).trans hk1
  have hB3 : Blk w1 w.heap.size (.cells #[v0, v1, v2, v3, v4, .int .i64 m.Entry] 35) := (Blk.top w _).keep hk1
  have HB3 := Lib.hid hB3
  have HKW := Lib.hid hkw
  have HK := Lib.hid hk
  obtain ⟨k0, k1, k2, k3, k4, rfl, y0, y1, ⟨tv, y2, -⟩, y3, y4⟩ := hk
  obtain ⟨a0, c0, rfl⟩ := Arr.form y0
  obtain ⟨a1, c1, rfl⟩ := Arr.form y1
  obtain ⟨a2, c2, rfl⟩ := Arr.form y2
  obtain ⟨a3, c3, rfl⟩ := Arr.form y3
  obtain ⟨a4, c4, rfl⟩ := Arr.form y4
  clear y0 y1 y2 y3 y4 hB3 hk1 hkw
  go_upto_region 2 with fail
  obtain ⟨w2, hw2, hB7, hk2⟩ : ∃ w2, w2 = w1.alloc (.cells #[.slice a0 m.Text.length c0, .slice a1 m.Funcs.length c1, .slice a2 m.Tables.length c2, .slice a3 m.Data.length c3, .slice a4 m.Lines.length c4, .int .i64 m.Entry] 35) ∧ Blk w2 w1.heap.size (.cells #[.slice a0 m.Text.length c0, .slice a1 m.Funcs.length c1, .slice a2 m.Tables.length c2, .slice a3 m.Data.length c3, .slice a4 m.Lines.length c4, .int .i64 m.Entry] 35) ∧ Keeps w1 w2 := ⟨_, rfl, Blk.top _ _, (Keeps.refl _).alloc _⟩
  rw [← hw2]
  obtain ⟨f7, hf7⟩ : ∃ f7, f7 = w1.heap.size := ⟨_, rfl⟩
  rw [← hf7] at hB7 ⊢
  have i0 := hB7.cell (j := 0) rfl
  have i1 := hB7.cell (j := 1) rfl
  have i2 := hB7.cell (j := 2) rfl
  have i3 := hB7.cell (j := 3) rfl
  have i4 := hB7.cell (j := 4) rfl
  have i5 := hB7.cell (j := 5) rfl
  have hl7 := hB7.lt
  have HB7 := Lib.hid hB7
  have HKW2 := Lib.hid (HKW.out.trans hk2)
  have HK12 := Lib.hid hk2
  have hl3 : w.heap.size < w2.heap.size := (HB3.out.keep hk2).lt
  clear hw2 hf7 hB7 hk2
  go_cut [8, 9] (fun s8 s9 wx => ∃ (f : Nat) (a c : _), s8 = .pointer (some ⟨f, 0, none⟩) ∧ s9 = .int .i64 er ∧ Blk wx f (.cells #[.slice a r.told.length c, .int .i64 r.en, .int .i64 r.steps, .int .i64 r.pc] 46) ∧ Ints wx (.slice a r.told.length c) r.told ∧ Keeps w2 wx)
  case first =>
    go_region_law (first
      | ((try go_simp); go_at_call 14; refine (H1.out _ (Keeps.trans HKW2.out (Keeps.trans HKA.out (by repeat (with_reducible (first | assumption | exact Keeps.refl _ | refine Keeps.alloc ?_ _ | refine Keeps.drew ?_ | refine Keeps.drewN ?_ _))))) _ _ (HK.out.keep (HK12.out.trans (Keeps.trans HKA.out (by repeat (with_reducible (first | assumption | exact Keeps.refl _ | refine Keeps.alloc ?_ _ | refine Keeps.drew ?_ | refine Keeps.drewN ?_ _)))))) (Arr.keep HXA.out (by repeat (with_reducible (first | assumption | exact Keeps.refl _ | refine Keeps.alloc ?_ _ | refine Keeps.drew ?_ | refine Keeps.drewN ?_ _))))).mono ?_; rintro e wb ⟨v', rfl, ⟨vt, rfl, hvt, hnw⟩, hkb⟩; obtain ⟨at1, ct1, rfl⟩ := Arr.form hvt; have HKB := Lib.hid (show Keeps w2 wb from Keeps.trans (Keeps.trans HKA.out (by repeat (with_reducible (first | assumption | exact Keeps.refl _ | refine Keeps.alloc ?_ _ | refine Keeps.drew ?_ | refine Keeps.drewN ?_ _)))) hkb); have HVB : Hid (Ints wb _ r.told) := Lib.hid hvt; have HNW := Lib.hid hnw; (first | (have hbf := blk_up' hkb; (try simp only [sz_drew, sz_drewN] at hbf)) | (have hbf := blk_up_drew hkb) | (have hbf := Blk.keep hbf hkb) | skip); (first | (have y0 := hbf.cell (j := 0) rfl; have y1 := hbf.cell (j := 1) rfl; have y2 := hbf.cell (j := 2) rfl; have y3 := hbf.cell (j := 3) rfl; have u0 := hbf.thawed 0; have u1 := hbf.thawed 1; have u2 := hbf.thawed 2; have u3 := hbf.thawed 3; have hbl := hbf.lt) | skip); clear hvt hnw hkb)
      | ((try go_simp); go_at_call 15; refine (ints_any _ inp _ (Arr.keep HI.out (Keeps.trans HKW2.out (by repeat (with_reducible (first | assumption | exact Keeps.refl _ | refine Keeps.alloc ?_ _ | refine Keeps.drew ?_ | refine Keeps.drewN ?_ _))))) hil2).mono ?_; rintro e wa ⟨v', rfl, hx, hka⟩; obtain ⟨ax, cx, rfl⟩ := Arr.form hx; have HKA := Lib.hid (show Keeps w2 wa from Keeps.trans (by repeat (with_reducible (first | assumption | exact Keeps.refl _ | refine Keeps.alloc ?_ _ | refine Keeps.drew ?_ | refine Keeps.drewN ?_ _))) hka); have HXA : Hid (Ints wa _ inp) := Lib.hid hx; have j0 := HKA.out.cell i0; have j1 := HKA.out.cell i1; have j2 := HKA.out.cell i2; have j3 := HKA.out.cell i3; have j4 := HKA.out.cell i4; have j5 := HKA.out.cell i5; have hsa := HKA.out.size; have hl7a : f7 < wa.heap.size := (by omega); (first | (have hbf := blk_up' hka; (try simp only [sz_drew, sz_drewN] at hbf); have hfa := hbf.lt) | (have hbf := blk_up_drew hka; have hfa := hbf.lt) | skip); clear hx hka))
    all_goals
      go_wp2_with fail
      go_meet
      case rel =>
        first
          | ((with_reducible refine ⟨_, _, _, rfl, rfl, Blk.top _ _, ?_, ?_⟩); exact Arr.keep HVB.out ((Keeps.refl _).alloc _); exact HKB.out.alloc _)
          | exact ⟨_, _, _, rfl, rfl, (((hbf.set 0 _).set 1 _).set 2 _).set 3 _, ((Arr.foot HVB.out (by decide)).grown (grown_trans (grown_trans (grown_trans (grown_setCell _ _ _ _) (grown_setCell _ _ _ _)) (grown_setCell _ _ _ _)) (grown_setCell _ _ _ _)) (fun b hb e => by injection e with e; subst e; have := HNW.out _ hb.2; first | omega | (simp only [sz_alloc, sz_drew, sz_drewN] at this; omega))).here, keeps_put HKB.out (by omega) (grown_trans (grown_trans (grown_trans (grown_setCell _ _ _ _) (grown_setCell _ _ _ _)) (grown_setCell _ _ _ _)) (grown_setCell _ _ _ _))⟩
  case rest =>
    obtain ⟨f8, at1, ct1, rfl, rfl, hb8, hv8, hk8⟩ := hcut
    have hb38 := (HB3.out.keep (HK12.out.trans hk8))
    have g0 := hb38.cell (j := 0) rfl
    have g1 := hb38.cell (j := 1) rfl
    have g2 := hb38.cell (j := 2) rfl
    have g3 := hb38.cell (j := 3) rfl
    have g4 := hb38.cell (j := 4) rfl
    have g5 := hb38.cell (j := 5) rfl
    have HB38 := Lib.hid hb38
    have HB8 := Lib.hid hb8
    have HV8 := Lib.hid hv8
    have HK8 := Lib.hid hk8
    clear hb38 hb8 hv8 hk8 i0 i1 i2 i3 i4 i5
    go_wp2_with fail
    refine (H2.out _ _ _ (HV.out.keep (HKW2.out.trans HK8.out)) (Arr.keep HI.out (HKW2.out.trans HK8.out))).mono ?_
    rintro e w4 ⟨v', rfl, ⟨vt, rfl, hvt, -⟩, hk4⟩
    obtain ⟨at2, ct2, rfl⟩ := Arr.form hvt
    have hb3 := HB38.out.keep hk4
    have hb7 := HB7.out.keep (HK8.out.trans hk4)
    have hb8 := HB8.out.keep hk4
    have g0 := hb3.cell (j := 0) rfl
    have g1 := hb3.cell (j := 1) rfl
    have g2 := hb3.cell (j := 2) rfl
    have g3 := hb3.cell (j := 3) rfl
    have g4 := hb3.cell (j := 4) rfl
    have g5 := hb3.cell (j := 5) rfl
    have i0 := hb7.cell (j := 0) rfl
    have i1 := hb7.cell (j := 1) rfl
    have i2 := hb7.cell (j := 2) rfl
    have i3 := hb7.cell (j := 3) rfl
    have i4 := hb7.cell (j := 4) rfl
    have i5 := hb7.cell (j := 5) rfl
    have y0 := hb8.cell (j := 0) rfl
    have y1 := hb8.cell (j := 1) rfl
    have y2 := hb8.cell (j := 2) rfl
    have y3 := hb8.cell (j := 3) rfl
    have b3 := hb3.lt
    have b7 := hb7.lt
    have b8 := hb8.lt
    have HVT : Hid (Ints w4 _ r.told) := Lib.hid hvt
    have HK4 := Lib.hid hk4
    clear hb3 hb7 hb8 hvt hk4
    go_wp2_with (first
      | (go_at_call 17; refine (sameRun_yes _ _ r _ (B1 := 0) (B2 := 0) ⟨_, rfl, Arr.keep HV8.out (Keeps.trans HK4.out (by repeat (with_reducible (first | assumption | exact Keeps.refl _ | refine Keeps.alloc ?_ _ | refine Keeps.drew ?_ | refine Keeps.drewN ?_ _)))), fun _ _ => Nat.zero_le _⟩ ⟨_, rfl, Arr.keep HVT.out (by repeat (with_reducible (first | assumption | exact Keeps.refl _ | refine Keeps.alloc ?_ _ | refine Keeps.drew ?_ | refine Keeps.drewN ?_ _))), fun _ _ => Nat.zero_le _⟩).mono ?_; rintro e w5 ⟨rfl, hk5⟩; have hk45 := Keeps.trans ((Keeps.refl w4).alloc _) hk5; have g0 := hk45.cell g0; have g1 := hk45.cell g1; have g2 := hk45.cell g2; have g3 := hk45.cell g3; have g4 := hk45.cell g4; have g5 := hk45.cell g5; have i0 := hk45.cell i0; have i1 := hk45.cell i1; have i2 := hk45.cell i2; have i3 := hk45.cell i3; have i4 := hk45.cell i4; have i5 := hk45.cell i5; have HK5 := Lib.hid hk45; clear hk45 hk5)
      | (go_at_call 13; refine (sameImage_yes _ _ m _ (HK.out.keep ((HK12.out.trans HK8.out).trans (HK4.out.trans HK5.out))) (HV.out.keep ((HKW2.out.trans HK8.out).trans (HK4.out.trans HK5.out)))).mono ?_; rintro e w6 ⟨rfl, hk6⟩))
    go_ret
    exact ⟨by simp, ((HKW2.out.trans HK8.out).trans (HK4.out.trans HK5.out)).trans hk6⟩

theorem own : ownKnob Tryd.prog.godebug = none := by kernel_rfl
theorem laidOut : laidOutB Tryd.prog = true := by kernel_rfl
theorem reads : ∀ t ∈ Tryd.f5.params.toList, Tryd.prog.readableRec t = true ∧ t < Tryd.prog.types.size := by
  intro t ht
  rw [Tryd.params5] at ht
  simp only [List.mem_cons, List.mem_nil_iff, or_false] at ht
  rcases ht with rfl | rfl | rfl <;> exact ⟨by kernel_rfl, of_decide_eq_true (by kernel_rfl)⟩

theorem contract (H : Type) (enc : TypeId × Value → H) (W : World) (base : Nat) (args : Array Value) (ds gs : List (DataW H)) (before : List MemPlace)
    (hval : ∀ (j : Nat) t v, Tryd.f5.params[j]? = some t → args[j]? = some v → Value.okWide Tryd.prog W .any base t v)
    (hW : DataW.Whole enc Tryd.prog Tryd.f5.params.toList Rows.stepRunsSpec.vars false W args.toList ds gs before)
    (hsz : (DataW.weightsEach Tryd.prog (Tryd.f5.params.toList ++ []) (ds ++ gs)).all (· ≤ reachBytes) = true)
    (hL : laidMetH Tryd.prog Rows.stepRunsRow.laid W) :
    Calls Tryd.prog 5 args W fun e W' => ∃ v, e = .returned v ∧ Rows.stepRunsSpec.post enc Tryd.prog Tryd.f5 false true false false W args v W' := by
  have hT : Tab W := tab_of_laid hL
  have hS : Siz W := siz_of_laid hL
  have hW' := hW
  obtain ⟨p, q, hA0, hV, rfl, hfz, hnd⟩ := hW
  have hA : DataW.TrodAll enc Tryd.prog W 0 (fun _ => true) true Tryd.f5.params.toList args.toList ds p := hA0
  have hsz' := hsz
  rw [Tryd.params5] at hA hval hsz'
  obtain ⟨v0, v1, v2, d0, d1, d2, p0, p1, p2, hargs, rfl, rfl, h0, h1, h2⟩ := trodAll_three hA
  obtain ⟨rfl, rfl⟩ := trodVars_none hV
  obtain rfl : args = #[v0, v1, v2] := by cases args; simp_all
  obtain ⟨m, hm, okm⟩ := img_open (hval 0 _ v0 rfl rfl) h0 (fits_each hsz' (j := 0) rfl rfl)
  obtain ⟨ao1, ln1, cp1, rfl⟩ := okWide_slice Tryd.underlying32 (hval 1 _ v1 rfl rfl)
  obtain ⟨fu1, t1⟩ := h1
  obtain ⟨inp, hi, hil⟩ := ints_open Tryd.underlying32 (by kernel_rfl) Tryd.underlying3 (by kernel_rfl) t1 (fits_each hsz' (j := 1) rfl rfl)
  obtain ⟨x, rfl, -, -, wx⟩ := open_int Tryd.underlying3 (hval 2 _ v2 rfl rfl) h2
  refine (walk _ _ m inp x W hT hS hm okm hi hil.2).mono fun e W' ⟨he, hk⟩ => ?_
  subst he
  exact ⟨_, rfl, law_post laidOut reads rfl Tryd.underlying4 rfl rfl rfl rfl hW' hk⟩

/-- A world for the witness: the settled one, the tables holding what their initialisers lay. -/
noncomputable def laidWorld (os : Os) : World :=
  { World.holding Tryd.prog os ⟨#[], #[], []⟩ with heap := (((World.holding Tryd.prog os ⟨#[], #[], []⟩).heap.modify 0 fun
      | .cells _ t frozen => .cells #[.int .u8 0, .int .u8 0, .int .i64 0, .int .u8 0, .int .u8 0, .int .i64 1, .int .u8 1, .int .u8 0, .int .i64 1, .int .u8 2, .int .u8 0, .int .i64 1, .int .u8 3, .int .u8 0, .int .i64 1, .int .u8 16, .int .u8 0, .int .i64 2, .int .u8 17, .int .u8 0, .int .i64 3, .int .u8 32, .int .u8 0, .int .i64 4, .int .u8 33, .int .u8 0, .int .i64 4, .int .u8 34, .int .u8 0, .int .i64 4, .int .u8 35, .int .u8 0, .int .i64 4, .int .u8 36, .int .u8 0, .int .i64 4, .int .u8 37, .int .u8 0, .int .i64 4, .int .u8 38, .int .u8 0, .int .i64 4, .int .u8 48, .int .u8 0, .int .i64 3, .int .u8 49, .int .u8 0, .int .i64 5, .int .u8 64, .int .u8 0, .int .i64 6, .int .u8 65, .int .u8 0, .int .i64 7, .int .u8 80, .int .u8 84, .int .i64 8, .int .u8 81, .int .u8 85, .int .i64 8, .int .u8 82, .int .u8 86, .int .i64 8, .int .u8 83, .int .u8 87, .int .i64 8, .int .u8 96, .int .u8 97, .int .i64 9, .int .u8 98, .int .u8 0, .int .i64 10, .int .u8 99, .int .u8 0, .int .i64 11] t frozen
      | o => o).modify 1 fun
      | .cells _ t frozen => .cells #[.int .i64 0, .int .i64 1, .int .i64 4, .int .i64 3, .int .i64 3, .int .i64 3, .int .i64 2, .int .i64 2, .int .i64 3, .int .i64 2, .int .i64 3, .int .i64 3] t frozen
      | o => o) }
theorem laid_met (os : Os) : laidMet Tryd.prog Rows.stepRunsRow.laid ((laidWorld os).forCall (fun _ _ => 0) ⟨#[], #[.agg #[.slice none 0 0, .slice none 0 0, .slice none 0 0, .slice none 0 0, .slice none 0 0, .int .i64 0], .slice none 0 0, .int .i64 0], []⟩).memory :=
  laidMet_of_run' 8 (by kernel_rfl) (by kernel_rfl)
theorem readsW (os : Os) {H : Type} (enc : TypeId × Value → H) : ∃ places, DataW.whole enc Tryd.prog ((laidWorld os).forCall (fun _ _ => 0) ⟨#[], #[.agg #[.slice none 0 0, .slice none 0 0, .slice none 0 0, .slice none 0 0, .slice none 0 0, .int .i64 0], .slice none 0 0, .int .i64 0], []⟩).memory Tryd.f5.params.toList Rows.stepRunsSpec.vars false (#[.agg #[.slice none 0 0, .slice none 0 0, .slice none 0 0, .slice none 0 0, .slice none 0 0, .int .i64 0], .slice none 0 0, .int .i64 0] : Array Value).toList 8 = some ([.agg [.nil, .nil, .nil, .nil, .nil, .lit (.int .i64 0)], .nil, .lit (.int .i64 0)], [], places) :=
  ⟨[], by kernel_rfl⟩

theorem lifted (os : Os) (started : os.Started) (H : Type) (enc : TypeId × Value → H) (F : Stop.Interp) :
    ReturnsInHanded {} Tryd.checked os 5 .any ((OpenSpec.ofChange Rows.stepRunsSpec).preRow enc Tryd.prog Tryd.f5 Rows.stepRunsRow.domain false Rows.stepRunsRow.laid) (((OpenSpec.ofChange Rows.stepRunsSpec).at F).post enc Tryd.prog Tryd.f5 false true false false) := by
  obtain ⟨places, hx⟩ := readsW os enc
  refine returnsInHanded_of_row (C := Tryd.checked) (s := OpenSpec.ofChange Rows.stepRunsSpec) own started (by kernel_rfl) Tryd.func5
    (witness_row_at (enc := enc) (C := Tryd.checked) false (laidWorld os) #[.agg #[.slice none 0 0, .slice none 0 0, .slice none 0 0, .slice none 0 0, .slice none 0 0, .int .i64 0], .slice none 0 0, .int .i64 0] rfl (by kernel_rfl) (by kernel_rfl) (by kernel_rfl)
      (OpenSpec.preRow_of_cond 8 hx (by kernel_rfl) (fun k hk => by cases hk) (by kernel_rfl) (laid_met os))) ?_
  intro W base args ds gs before hval hW hx1 hx2 hx3 hL hx4 hx5
  exact contract H enc W base args ds gs before hval hW (by first | exact hx1 | exact hx2 | exact hx3 | exact hx4 | exact hx5) hL

theorem said : Rows.StepRunsSaid :=
  OpenClaim.holds_of_cond 5 Tryd.f5 rfl rfl rfl rfl rfl rfl rfl ⟨rfl, rfl, rfl, rfl, rfl⟩ rfl rfl rfl rfl rfl (by kernel_rfl) Tryd.func5 (by kernel_rfl)
    (of_decide_eq_true (by kernel_rfl)) (by unfold Func.isWrapper; first | (rw [if_pos (by decide +kernel)]; kernel_rfl) | (rw [if_neg (by decide +kernel)]; exact ⟨rfl, rfl⟩))
    (fun os started H enc _ F => by rw [OpenClaim.pre_eq_preRow]; exact lifted os started H enc F)

theorem plain (f : FuncId) (fn : Func) (hf : Tryd.pinned.checked.prog.funcNamed "bolthole/boltholelaw.StepRuns" = some f) (hfn : Tryd.pinned.checked.prog.funcs[f]? = some fn) :
    false = Tryd.pinned.checked.prog.looks [] ∧ ∀ (j : Nat) t, fn.params[j]? = some t → Tryd.pinned.checked.prog.wantsStandIn t = false := by
  obtain rfl : f = 5 := Option.some.inj ((show Tryd.prog.funcNamed "bolthole/boltholelaw.StepRuns" = some 5 by kernel_rfl).symm.trans hf) |>.symm
  obtain rfl : fn = Tryd.f5 := (Option.some.inj (Tryd.func5.symm.trans hfn)).symm
  refine ⟨by kernel_rfl, fun j t ht => ?_⟩
  rw [Tryd.params5] at ht
  have hm := Array.mem_of_getElem? ht
  simp only [List.mem_toArray, List.mem_cons, List.mem_nil_iff, or_false] at hm
  rcases hm with rfl | rfl | rfl
  · exact (show Tryd.prog.wantsStandIn 35 = false by kernel_rfl)
  · exact (show Tryd.prog.wantsStandIn 32 = false by kernel_rfl)
  · exact (show Tryd.prog.wantsStandIn 3 = false by kernel_rfl)

/-- THE CARD -/
theorem card : Rows.StepRunsCardSaid :=
  Claim7.holds_tied_plain_at .later [] _ _ _ _ said (fun _ h => by cases h) (by kernel_rfl) (fun _ h => by cases h) stepRuns_row_tie rfl ⟨rfl, rfl⟩ (by kernel_rfl) rfl plain (by kernel_rfl)
end Go.Proofs.YtpgifkhgefbnfaaDoor.stepRuns
