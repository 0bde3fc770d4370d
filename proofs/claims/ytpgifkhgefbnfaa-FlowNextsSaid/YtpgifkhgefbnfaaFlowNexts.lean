/-
  The law FlowNexts, for every flow and every number: flow.Nexts answers what the document's NextsOf answers. No condition.
-/
import Derived.Test.YtpgifkhgefbnfaaRows
import Derived.Test.YtpgifkhgefbnfaaNextsRef
import Derived.Test.YtpgifkhgefbnfaaFlowOpen
import Derived.Test.YtpgifkhgefbnfaaSame
namespace Go.Proofs.Ytpgifkhgefbnfaa.flowNexts
open Go.ChangeShapes Go.WideShapes Go.ChangeAt Go.RowKit BH

set_option maxHeartbeats 1000000
set_option maxRecDepth 100000
theorem small {f : Fl} (h : FlowOk f) : FlowSmall f := by
  have hr : reachBytes ≤ 140737488355328 := by decide
  refine ⟨by have := h.blocksN; omega, by have := h.tabsN; omega, fun t ht => ?_⟩
  obtain ⟨i, hi, he⟩ := List.getElem_of_mem ht
  have := (h.tabs i hi).2
  rw [nth_eq _ _ hi, he] at this
  omega
/-- both answer the same list and number -/
theorem answers (v : Value) (f : Fl) (x : Int) (w : World) (hv : FlowAt w v f) (hs : FlowSmall f) :
    ∃ (l : List Int) (er : Int), (∀ w', Keeps w w' → Calls Try.prog 18 #[v, .int .i64 x] w' (GivesN (fun v' w' => Ints w' v' l) er w')) ∧
      (∀ w', Keeps w w' → Calls Try.prog 19 #[v, .int .i64 x] w' (GivesN (fun v' w' => Ints w' v' l) er w')) := by
  by_cases h : x < 0 ∨ (f.Blocks.length : Int) ≤ x
  · exact ⟨[], 6, fun w' hk => (nexts_bad v f x w' (hv.keep hk) h).mono fun _ _ ⟨he, hk⟩ => ⟨_, he, ints_empty _, hk⟩,
      fun w' hk => (nextsOf_bad v f x w' (hv.keep hk) hs h).mono fun _ _ ⟨he, hk⟩ => ⟨_, he, ints_empty _, hk⟩⟩
  · obtain ⟨k, rfl⟩ : ∃ k : Nat, x = k := ⟨x.toNat, by omega⟩
    exact ⟨_, 0, fun w' hk => nexts_ok v f k w' (hv.keep hk) (by omega) hs, fun w' hk => nextsOf_ok v f k w' (hv.keep hk) (by omega) hs⟩
theorem walk (v : Value) (f : Fl) (x : Int) (w : World) (hv : FlowAt w v f) (hok : FlowOk f) :
    Calls Try.prog 6 #[v, .int .i64 x] w fun e w' => e = .returned (.bool true) ∧ Keeps w w' := by
  obtain ⟨l, er, h1, h2⟩ := answers v f x w hv (small hok)
  obtain ⟨v0, v1, v2, rfl, -⟩ := hv
  have H1 := Lib.hid (h1 _ ((Keeps.refl w).alloc (.cells #[v0, v1, v2] 41)))
  have H2 := Lib.hid h2
  clear h1 h2 hok
  go_enter Try.func6, Try.ntmps6
  go_wp2_with fail
  refine H1.out.mono ?_
  rintro e w1 ⟨va, rfl, ha, hk1⟩
  have b0 : w1.cell? ⟨w.heap.size, 0, none⟩ = some v0 := hk1.cell (by simp)
  have b1 : w1.cell? ⟨w.heap.size, 1, none⟩ = some v1 := hk1.cell (by simp)
  have b2 : w1.cell? ⟨w.heap.size, 2, none⟩ = some v2 := hk1.cell (by simp)
  have hkw := ((Keeps.refl w).alloc _).trans hk1
  have HA := Lib.hid ha
  clear ha H1
  go_wp2_with fail
  refine (H2.out _ hkw).mono ?_
  rintro e w2 ⟨vb, rfl, hb, hk2⟩
  have HB := Lib.hid hb
  clear hb
  go_wp2_with (go_at_call 20; refine (sameInts_yes _ _ l _ (Arr.keep HA.out hk2) HB.out).mono ?_; rintro e w3 ⟨rfl, hk3⟩)
  go_ret
  exact ⟨by simp, (hkw.trans hk2).trans hk3⟩

theorem own : ownKnob Try.prog.godebug = none := by kernel_rfl
theorem laidOut : laidOutB Try.prog = true := by kernel_rfl
theorem reads : ∀ t ∈ Try.f6.params.toList, Try.prog.readableRec t = true ∧ t < Try.prog.types.size := by
  intro t ht
  rw [Try.params6] at ht
  simp only [List.mem_cons, List.mem_nil_iff, or_false] at ht
  rcases ht with rfl | rfl <;> exact ⟨by kernel_rfl, of_decide_eq_true (by kernel_rfl)⟩

theorem lifted (os : Os) (started : os.Started) (H : Type) (enc : TypeId × Value → H) :
    ReturnsInHanded {} Try.checked os 6 .any (Rows.flowNextsSpec.pre6 enc Try.prog Try.f6 Rows.flowNextsRow.domain false) (Rows.flowNextsSpec.post enc Try.prog Try.f6 false true false false) := by
  refine returnsInHanded_of_change_sized (C := Try.checked) own started (by kernel_rfl) Try.func6
    (ChangeSpec.witness6 (enc := enc) (C := Try.checked) false ⟨#[], #[.agg #[.slice none 0 0, .slice none 0 0, .slice none 0 0], .int .i64 0], []⟩ 8 (by kernel_rfl) (by kernel_rfl) (by kernel_rfl) (by kernel_rfl)) ?_
  intro W base args ds gs before hval0 hW _ hsz _
  have hval : ∀ (j : Nat) t v, Try.f6.params[j]? = some t → args[j]? = some v → Value.okWide Try.prog W .any base t v := hval0
  have hsz' : (DataW.weightsEach Try.prog (Try.f6.params.toList ++ []) (ds ++ gs)).all (· ≤ reachBytes) = true := hsz
  have hW' := hW
  obtain ⟨p, q, hA0, hV, rfl, hfz, hnd⟩ := hW
  have hA : DataW.TrodAll enc Try.prog W 0 (fun _ => true) true Try.f6.params.toList args.toList ds p := hA0
  rw [Try.params6] at hA hval hsz'
  obtain ⟨v0, v1, d0, d1, p0, p1, hargs, rfl, rfl, h0, h1⟩ := trodAll_two hA
  obtain ⟨rfl, rfl⟩ := trodVars_none hV
  obtain rfl : args = #[v0, v1] := by cases args; simp_all
  obtain ⟨f, hf, of⟩ := flow_open (hval 0 _ v0 rfl rfl) h0 (fits_each hsz' (j := 0) rfl rfl)
  obtain ⟨x, rfl, -, -, wx⟩ := open_int Try.underlying3 (hval 1 _ v1 rfl rfl) h1
  refine (walk _ f x W hf of).mono fun e W' ⟨he, hk⟩ => ?_
  subst he
  exact ⟨_, rfl, law_post laidOut reads rfl Try.underlying4 rfl rfl rfl rfl hW' hk⟩

theorem holds : Rows.FlowNextsSaid :=
  OpenClaim.holds_of_wide 6 Try.f6 rfl rfl rfl rfl rfl rfl rfl ⟨rfl, rfl, rfl, rfl, rfl⟩ rfl rfl rfl rfl rfl (by kernel_rfl) Try.func6 (by kernel_rfl)
    (of_decide_eq_true (by kernel_rfl)) (by unfold Func.isWrapper; first | (rw [if_pos (by decide +kernel)]; kernel_rfl) | (rw [if_neg (by decide +kernel)]; exact ⟨rfl, rfl⟩))
    (fun os started H enc _ => lifted os started H enc)
end Go.Proofs.Ytpgifkhgefbnfaa.flowNexts
