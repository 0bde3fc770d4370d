/-
  The law ImageChecks, for every image: image.Check answers what the document's ImageFault answers. No condition.
-/
import Derived.Test.YtckofmijaiahbaaRows
import Derived.Test.YtckofmijaiahbaaImgCheck
import Derived.Test.YtckofmijaiahbaaImgFault
import Derived.Test.YtckofmijaiahbaaImgOpen
namespace Go.Proofs.Ytckofmijaiahbaa.imageChecks
open Go.ChangeShapes Go.WideShapes Go.ChangeAt Go.RowKit BH

set_option maxHeartbeats 1000000
set_option maxRecDepth 100000
theorem walk (v : Value) (m : Img) (w : World) (hv : ImgAt w v m) :
    Calls Try.prog 4 #[v] w fun e w' => e = .returned (.bool true) ∧ Keeps w w' := by
  have hv' := hv
  obtain ⟨v0, v1, v2, v3, v4, rfl, -⟩ := hv'
  go_enter Try.func4, Try.ntmps4
  go_wp2_with fail
  refine (imgCheck_any _ m _ (hv.keep ((Keeps.refl _).alloc _))).mono ?_
  rintro e w1 ⟨rfl, hk1⟩
  have hb : w1.cell? ⟨w.heap.size, 0, none⟩ = some v0 := hk1.cell (by simp)
  have hb1 : w1.cell? ⟨w.heap.size, 1, none⟩ = some v1 := hk1.cell (by simp)
  have hb2 : w1.cell? ⟨w.heap.size, 2, none⟩ = some v2 := hk1.cell (by simp)
  have hb3 : w1.cell? ⟨w.heap.size, 3, none⟩ = some v3 := hk1.cell (by simp)
  have hb4 : w1.cell? ⟨w.heap.size, 4, none⟩ = some v4 := hk1.cell (by simp)
  have hb5 : w1.cell? ⟨w.heap.size, 5, none⟩ = some (.int .i64 m.Entry) := hk1.cell (by simp)
  go_wp2_with fail
  refine (imageFault_any _ m _ (hv.keep (((Keeps.refl _).alloc _).trans hk1))).mono ?_
  rintro e w2 ⟨rfl, hk2⟩
  go_wp2
  go_ret
  exact ⟨by simp, (((Keeps.refl _).alloc _).trans hk1).trans hk2⟩

theorem own : ownKnob Try.prog.godebug = none := by kernel_rfl
theorem laidOut : laidOutB Try.prog = true := by kernel_rfl
theorem reads : ∀ t ∈ Try.f4.params.toList, Try.prog.readableRec t = true ∧ t < Try.prog.types.size := by
  intro t ht
  rw [Try.params4] at ht
  simp only [List.mem_cons, List.mem_nil_iff, or_false] at ht
  subst ht
  exact ⟨by kernel_rfl, of_decide_eq_true (by kernel_rfl)⟩

theorem lifted (os : Os) (started : os.Started) (H : Type) (enc : TypeId × Value → H) :
    ReturnsInHanded {} Try.checked os 4 .any (Rows.imageChecksSpec.pre6 enc Try.prog Try.f4 Rows.imageChecksRow.domain false) (Rows.imageChecksSpec.post enc Try.prog Try.f4 false true false false) := by
  refine returnsInHanded_of_change_sized (C := Try.checked) own started (by kernel_rfl) Try.func4
    (ChangeSpec.witness6 (enc := enc) (C := Try.checked) false ⟨#[], #[.agg #[.slice none 0 0, .slice none 0 0, .slice none 0 0, .slice none 0 0, .slice none 0 0, .int .i64 0]], []⟩ 8 (by kernel_rfl) (by kernel_rfl) (by kernel_rfl) (by kernel_rfl)) ?_
  intro W base args ds gs before hval0 hW _ hsz _
  have hval : ∀ (j : Nat) t v, Try.f4.params[j]? = some t → args[j]? = some v → Value.okWide Try.prog W .any base t v := hval0
  have hsz' : (DataW.weightsEach Try.prog (Try.f4.params.toList ++ []) (ds ++ gs)).all (· ≤ reachBytes) = true := hsz
  have hW' := hW
  obtain ⟨p, q, hA0, hV, rfl, hfz, hnd⟩ := hW
  have hA : DataW.TrodAll enc Try.prog W 0 (fun _ => true) true Try.f4.params.toList args.toList ds p := hA0
  rw [Try.params4] at hA hval hsz'
  obtain ⟨v0, d0, hargs, rfl, h0⟩ := trodAll_one hA
  obtain ⟨rfl, rfl⟩ := trodVars_none hV
  obtain rfl : args = #[v0] := by cases args; simp_all
  obtain ⟨m, hm, -⟩ := img_open (hval 0 _ v0 rfl rfl) h0 (fits_each hsz' (j := 0) rfl rfl)
  refine (walk v0 m W hm).mono fun e W' ⟨he, hk⟩ => ?_
  subst he
  exact ⟨_, rfl, law_post laidOut reads rfl Try.underlying4 rfl rfl rfl rfl hW' hk⟩

theorem holds : Rows.ImageChecksSaid :=
  OpenClaim.holds_of_wide 4 Try.f4 rfl rfl rfl rfl rfl rfl rfl ⟨rfl, rfl, rfl, rfl, rfl⟩ rfl rfl rfl rfl rfl (by kernel_rfl) Try.func4 (by kernel_rfl)
    (of_decide_eq_true (by kernel_rfl)) (by unfold Func.isWrapper; first | (rw [if_pos (by decide +kernel)]; kernel_rfl) | (rw [if_neg (by decide +kernel)]; exact ⟨rfl, rfl⟩))
    (fun os started H enc _ => lifted os started H enc)
end Go.Proofs.Ytckofmijaiahbaa.imageChecks
