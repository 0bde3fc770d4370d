/-
  The law PlaceChecks, for every list of edges and every number of blocks: place.CheckEdges answers what the document's EdgesFault answers. No condition.
-/
import Derived.Test.YthelecdeaikmdaaRows
import Derived.Test.YthelecdeaikmdaaEdges
import Derived.Test.YthelecdeaikmdaaOwn
import Derived.Test.YthelecdeaikmdaaTypes
import Derived.Test.YthelecdeaikmdaaEdgeOpen
namespace Go.Proofs.Ythelecdeaikmdaa.placeChecks
open Go.ChangeShapes Go.WideShapes Go.ChangeAt Go.RowKit BH

set_option maxHeartbeats 1000000
set_option maxRecDepth 100000
theorem walk (v : Value) (l : List Ed) (x : Int) (w : World) (hv : Edges w v l) (hl : l.length * 24 ≤ reachBytes) :
    Calls Try.prog 5 #[v, .int .i64 x] w fun e w' => e = .returned (.bool true) ∧ Keeps w w' := by
  have hl' : l.length * 24 ≤ 140737488355328 := Nat.le_trans hl (by decide)
  have HV := Lib.hid hv
  obtain ⟨ao, cap, rfl, -⟩ := hv
  go_enter Try.func5, Try.ntmps5
  go_wp2_with (at_builtin; refine wpList_copy_nil rfl (.tmp 7) 34 rfl Try.underlying34 info_edge rfl (by decide) rfl HV.out ?c1 hl' ?_)
  case c1 =>
    intro i j hi hj
    match j, hj with
    | 0, _ => rfl
    | 1, _ => rfl
    | 2, _ => rfl
  intro v' w1 harr hk1
  go_wp2_with fail
  refine (checkEdges_any v' l x w1 harr).mono ?_
  rintro e w2 ⟨rfl, hk2⟩
  go_wp2_with fail
  refine (edgesFault_any _ l x w2 (HV.out.keep (hk1.trans hk2))).mono ?_
  rintro e w3 ⟨rfl, hk3⟩
  go_wp2
  go_ret
  exact ⟨by simp, (hk1.trans hk2).trans hk3⟩

theorem own : ownKnob Try.prog.godebug = none := by kernel_rfl
theorem laidOut : laidOutB Try.prog = true := by kernel_rfl
theorem reads : ∀ t ∈ Try.f5.params.toList, Try.prog.readableRec t = true ∧ t < Try.prog.types.size := by
  intro t ht
  rw [Try.params5] at ht
  simp only [List.mem_cons, List.mem_nil_iff, or_false] at ht
  rcases ht with rfl | rfl <;> exact ⟨by kernel_rfl, of_decide_eq_true (by kernel_rfl)⟩

theorem lifted (os : Os) (started : os.Started) (H : Type) (enc : TypeId × Value → H) :
    ReturnsInHanded {} Try.checked os 5 .any (Rows.placeChecksSpec.pre6 enc Try.prog Try.f5 Rows.placeChecksRow.domain false) (Rows.placeChecksSpec.post enc Try.prog Try.f5 false true false false) := by
  refine returnsInHanded_of_change_sized (C := Try.checked) own started (by kernel_rfl) Try.func5
    (ChangeSpec.witness6 (enc := enc) (C := Try.checked) false ⟨#[], #[.slice none 0 0, .int .i64 0], []⟩ 8 (by kernel_rfl) (by kernel_rfl) (by kernel_rfl) (by kernel_rfl)) ?_
  intro W base args ds gs before hval0 hW _ hsz _
  have hval : ∀ (j : Nat) t v, Try.f5.params[j]? = some t → args[j]? = some v → Value.okWide Try.prog W .any base t v := hval0
  have hsz' : (DataW.weightsEach Try.prog (Try.f5.params.toList ++ []) (ds ++ gs)).all (· ≤ reachBytes) = true := hsz
  have hW' := hW
  obtain ⟨p, q, hA0, hV, rfl, hfz, hnd⟩ := hW
  have hA : DataW.TrodAll enc Try.prog W 0 (fun _ => true) true Try.f5.params.toList args.toList ds p := hA0
  rw [Try.params5] at hA hval hsz'
  obtain ⟨v0, v1, d0, d1, p0, p1, hargs, rfl, rfl, h0, h1⟩ := trodAll_two hA
  obtain ⟨rfl, rfl⟩ := trodVars_none hV
  obtain rfl : args = #[v0, v1] := by cases args; simp_all
  obtain ⟨ao0, ln0, cp0, rfl⟩ := okWide_slice Try.underlying34 (hval 0 _ v0 rfl rfl)
  obtain ⟨fu0, t0⟩ := h0
  obtain ⟨l, hl, ol⟩ := edges_open t0 (fits_each hsz' (j := 0) rfl rfl)
  obtain ⟨x, rfl, -, -, wx⟩ := open_int Try.underlying3 (hval 1 _ v1 rfl rfl) h1
  refine (walk _ l x W hl ol.2).mono fun e W' ⟨he, hk⟩ => ?_
  subst he
  exact ⟨_, rfl, law_post laidOut reads rfl Try.underlying4 rfl rfl rfl rfl hW' hk⟩

theorem holds : Rows.PlaceChecksSaid :=
  OpenClaim.holds_of_wide 5 Try.f5 rfl rfl rfl rfl rfl rfl rfl ⟨rfl, rfl, rfl, rfl, rfl⟩ rfl rfl rfl rfl rfl (by kernel_rfl) Try.func5 (by kernel_rfl)
    (of_decide_eq_true (by kernel_rfl)) (by unfold Func.isWrapper; first | (rw [if_pos (by decide +kernel)]; kernel_rfl) | (rw [if_neg (by decide +kernel)]; exact ⟨rfl, rfl⟩))
    (fun os started H enc _ => lifted os started H enc)
end Go.Proofs.Ythelecdeaikmdaa.placeChecks
