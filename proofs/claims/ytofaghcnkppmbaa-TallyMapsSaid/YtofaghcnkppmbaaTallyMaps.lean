/-
  The law TallyMaps, for every flow and every list of edges: tally.Map answers what the document's MappedOf answers. No condition.
-/
import Derived.Test.YtofaghcnkppmbaaRows
import Derived.Test.YtofaghcnkppmbaaTalMapR
import Derived.Test.YtofaghcnkppmbaaFlowOpen
import Derived.Test.YtofaghcnkppmbaaEdgeOpen
import Derived.Test.YtofaghcnkppmbaaSameEd
import Derived.Test.YtofaghcnkppmbaaWpOf
namespace Go.Proofs.Ytofaghcnkppmbaa.tallyMaps
open Go.ChangeShapes Go.WideShapes Go.ChangeAt Go.RowKit BH

set_option maxHeartbeats 10000000
set_option maxRecDepth 100000
theorem small {f : Fl} (h : FlowOk f) : FlowSmall f := by
  have hr : reachBytes ≤ 140737488355328 := by decide
  refine ⟨by have := h.blocksN; omega, by have := h.tabsN; omega, fun t ht => ?_⟩
  obtain ⟨i, hi, he⟩ := List.getElem_of_mem ht
  have := (h.tabs i hi).2
  rw [nth_eq _ _ hi, he] at this
  omega
theorem i64_wf {x : Int} (h : I64 x) : wfI x := by unfold I64 at h; exact wfI_of (by omega) (by omega)
theorem walk {vf vl : Value} {f : Fl} {l : List Ed} {w : World} (hf : FlowAt w vf f) (hl : Edges w vl l) (hs : FlowSmall f) (hwb : ∀ i, i < f.Blocks.length → wfI (nth f.Blocks i).Start ∧ ∀ j, j < (nth f.Blocks i).At.length → wfI (nth (nth f.Blocks i).At j)) (hwe : ∀ i, i < l.length → wfI (nth l i).From ∧ wfI (nth l i).To) (hll : l.length * 24 ≤ 140737488355328) :
    Calls Try.prog 4 #[vf, vl] w fun e w' => e = .returned (.bool true) ∧ Keeps w w' := by
  have H1 := Lib.hid (fun (w' : World) (x : Value) (hk : Keeps w w') (hx : Edges w' x l) => map_any (f := f) (l := l) (vf := vf) (vl := x) (hf.keep hk) hx hs hwb hwe)
  have H2 := Lib.hid (fun (w' : World) (hk : Keeps w w') => mapRef_any (f := f) (l := l) (vf := vf) (vl := vl) (hf.keep hk) (Arr.keep hl hk) hs)
  have HL := Lib.hid hl
  obtain ⟨v0, v1, v2, rfl, -⟩ := hf
  obtain ⟨ao, cap, rfl, -⟩ := hl
  obtain ⟨W, hW, hB, hkW⟩ : ∃ W, W = w.alloc (.cells #[v0, v1, v2] 26) ∧ Blk W w.heap.size (.cells #[v0, v1, v2] 26) ∧ Keeps w W := ⟨_, rfl, Blk.top _ _, (Keeps.refl _).alloc _⟩
  have HW := Lib.hid hW
  have HK := Lib.hid hkW
  have HB := Lib.hid hB
  have b0 := hB.cell (j := 0) rfl
  have b1 := hB.cell (j := 1) rfl
  have b2 := hB.cell (j := 2) rfl
  obtain ⟨E, hE⟩ : ∃ z, z = mapE l := ⟨_, rfl⟩
  obtain ⟨R, hR⟩ : ∃ z, z = mapS f l := ⟨_, rfl⟩
  rw [← hE, ← hR] at H1 H2
  clear hs hwb hwe hW hB hkW hE hR
  go_enter Try.func4, Try.ntmps4
  go_upto_region 1 with fail
  rw [← HW.out]
  refine wp_region_held_drew (S := fun w' => Keeps W w' ∧ w'.cell? ⟨w.heap.size, 0, none⟩ = some v0 ∧ w'.cell? ⟨w.heap.size, 1, none⟩ = some v1 ∧ w'.cell? ⟨w.heap.size, 2, none⟩ = some v2) (by kernel_rfl) ⟨(Keeps.refl _).drew, b0, b1, b2⟩ (fun hHeld => ?_)
  refine wpAnyH_take (i := 0) (oi := ?oq1x0) (v := ?vq1x0) ?hq1x0 ?aq1x0 ?bq1x0 ?cq1x0 ?qq1x0 (Or.inl ⟨?wq1x0, ?yq1x0⟩) hHeld ?rq1x0
  case hq1x0 => (simp only [List.getElem?_toArray, List.getElem?_cons_zero]; try rfl)
  case aq1x0 => kernel_rfl
  case bq1x0 => kernel_rfl
  case cq1x0 => kernel_rfl
  case qq1x0 => exact fun _ _ _ h => h
  case wq1x0 => rfl
  case yq1x0 =>
    intro w hSw
    (try dsimp only at hSw)
    go_simp
    try with_reducible rfl
  try simp only [Act.put, List.setIfInBounds_toArray, List.set_cons_zero, List.set_cons_succ]
  refine wpAnyH_take (i := 1) (oi := ?oq1x1) (v := ?vq1x1) ?hq1x1 ?aq1x1 ?bq1x1 ?cq1x1 ?qq1x1 (Or.inl ⟨?wq1x1, ?yq1x1⟩) hHeld ?rq1x1
  case hq1x1 => (simp only [List.getElem?_toArray, List.getElem?_cons_zero, List.getElem?_cons_succ]; try rfl)
  case aq1x1 => kernel_rfl
  case bq1x1 => kernel_rfl
  case cq1x1 => kernel_rfl
  case qq1x1 => exact fun _ _ _ h => h
  case wq1x1 => rfl
  case yq1x1 =>
    intro w hSw
    (try dsimp only at hSw)
    go_simp
    try with_reducible rfl
  try simp only [Act.put, List.setIfInBounds_toArray, List.set_cons_zero, List.set_cons_succ]
  refine wpAnyH_ready (rs := [2]) (by kernel_rfl) (by simp) ?_
  refine AllReadyH.cons (o := ?o2) ?h2 ?s2 ?m2
  case h2 => (simp only [List.getElem?_toArray, List.getElem?_cons_zero, List.getElem?_cons_succ]; try rfl)
  case m2 => exact AllReadyH.nil
  case s2 =>
  intro K hK
  rw [if_pos (by rfl)]
  have hkd := HK.out.trans hHeld.1
  refine wp_copy_nil rfl (.tmp 11) 27 rfl Try.underlying27 info_edge rfl (by decide) (n := l.length) (c := fun i j => (nth l i).c j) (by rfl) (Arr.keep HL.out hkd) (fun i j hi hj => by match j, hj with | 0, _ => rfl | 1, _ => rfl | 2, _ => rfl) (by omega) ?_
  intro v5 w5 ha5 hn5 hk5
  refine hK.out _ _ ⟨hHeld.1.trans hk5, hk5.cell hHeld.2.1, hk5.cell hHeld.2.2.1, hk5.cell hHeld.2.2.2⟩ (fun hHeld2 => ?_)
  clear hK K hHeld
  have hHeld := hHeld2
  clear hHeld2 hkd
  have HA5 := Lib.hid (show Edges w5 v5 l from ha5)
  clear ha5 hn5
  obtain ⟨ao5, cap5, e5⟩ := Arr.form HA5.out
  subst e5
  try simp only [Act.put, List.setIfInBounds_toArray, List.set_cons_zero, List.set_cons_succ]
  refine wpAnyH_ready (rs := [3]) (by kernel_rfl) (by simp) ?_
  refine AllReadyH.cons (o := ?o3) ?h3 ?s3 ?m3
  case h3 => (simp only [List.getElem?_toArray, List.getElem?_cons_zero, List.getElem?_cons_succ]; try rfl)
  case m3 => exact AllReadyH.nil
  case s3 =>
  intro K hK
  go_simp
  go_at_call 9
  refine (H1.out _ _ (HK.out.trans hHeld.1) HA5.out).mono ?_
  rintro e w6 ⟨v6, rfl, ha6, hk6⟩
  refine hK.out _ _ ⟨hHeld.1.trans hk6, hk6.cell hHeld.2.1, hk6.cell hHeld.2.2.1, hk6.cell hHeld.2.2.2⟩ (fun hHeld2 => ?_)
  clear hK K hHeld
  have hHeld := hHeld2
  clear hHeld2
  obtain ⟨ao6, cap6, e6⟩ := Arr.form ha6
  subst e6
  have HA6 := Lib.hid ha6
  clear ha6
  try simp only [Act.put, List.setIfInBounds_toArray, List.set_cons_zero, List.set_cons_succ]
  refine wpAnyH_take (i := 4) (oi := ?oq2x4) (v := ?vq2x4) ?hq2x4 ?aq2x4 ?bq2x4 ?cq2x4 ?qq2x4 (Or.inl ⟨?wq2x4, ?yq2x4⟩) hHeld ?rq2x4
  case hq2x4 => (simp only [List.getElem?_toArray, List.getElem?_cons_zero, List.getElem?_cons_succ]; try rfl)
  case aq2x4 => kernel_rfl
  case bq2x4 => kernel_rfl
  case cq2x4 => kernel_rfl
  case qq2x4 => exact fun _ _ _ h => h
  case wq2x4 => rfl
  case yq2x4 =>
    intro w hSw
    (try dsimp only at hSw)
    go_simp
    try with_reducible rfl
  try simp only [Act.put, List.setIfInBounds_toArray, List.set_cons_zero, List.set_cons_succ]
  refine wpAnyH_take (i := 5) (oi := ?oq2x5) (v := ?vq2x5) ?hq2x5 ?aq2x5 ?bq2x5 ?cq2x5 ?qq2x5 (Or.inl ⟨?wq2x5, ?yq2x5⟩) hHeld ?rq2x5
  case hq2x5 => (simp only [List.getElem?_toArray, List.getElem?_cons_zero, List.getElem?_cons_succ]; try rfl)
  case aq2x5 => kernel_rfl
  case bq2x5 => kernel_rfl
  case cq2x5 => kernel_rfl
  case qq2x5 => exact fun _ _ _ h => h
  case wq2x5 => rfl
  case yq2x5 =>
    intro w hSw
    (try dsimp only at hSw)
    go_simp
    try with_reducible rfl
  try simp only [Act.put, List.setIfInBounds_toArray, List.set_cons_zero, List.set_cons_succ]
  refine wpAnyH_take (i := 6) (oi := ?oq2x6) (v := ?vq2x6) ?hq2x6 ?aq2x6 ?bq2x6 ?cq2x6 ?qq2x6 (Or.inl ⟨?wq2x6, ?yq2x6⟩) hHeld ?rq2x6
  case hq2x6 => (simp only [List.getElem?_toArray, List.getElem?_cons_zero, List.getElem?_cons_succ]; try rfl)
  case aq2x6 => kernel_rfl
  case bq2x6 => kernel_rfl
  case cq2x6 => kernel_rfl
  case qq2x6 => exact fun _ _ _ h => h
  case wq2x6 => rfl
  case yq2x6 =>
    intro w hSw
    (try dsimp only at hSw)
    go_simp
    try with_reducible rfl
  try simp only [Act.put, List.setIfInBounds_toArray, List.set_cons_zero, List.set_cons_succ]
  refine wpAnyH_take (i := 7) (oi := ?oq2x7) (v := ?vq2x7) ?hq2x7 ?aq2x7 ?bq2x7 ?cq2x7 ?qq2x7 (Or.inl ⟨?wq2x7, ?yq2x7⟩) hHeld ?rq2x7
  case hq2x7 => (simp only [List.getElem?_toArray, List.getElem?_cons_zero, List.getElem?_cons_succ]; try rfl)
  case aq2x7 => kernel_rfl
  case bq2x7 => kernel_rfl
  case cq2x7 => kernel_rfl
  case qq2x7 => exact fun _ _ _ h => h
  case wq2x7 => rfl
  case yq2x7 =>
    intro w hSw
    (try dsimp only at hSw)
    go_simp
    try with_reducible rfl
  try simp only [Act.put, List.setIfInBounds_toArray, List.set_cons_zero, List.set_cons_succ]
  refine wpAnyH_take (i := 8) (oi := ?oq2x8) (v := ?vq2x8) ?hq2x8 ?aq2x8 ?bq2x8 ?cq2x8 ?qq2x8 (Or.inl ⟨?wq2x8, ?yq2x8⟩) hHeld ?rq2x8
  case hq2x8 => (simp only [List.getElem?_toArray, List.getElem?_cons_zero, List.getElem?_cons_succ]; try rfl)
  case aq2x8 => kernel_rfl
  case bq2x8 => kernel_rfl
  case cq2x8 => kernel_rfl
  case qq2x8 => exact fun _ _ _ h => h
  case wq2x8 => rfl
  case yq2x8 =>
    intro w hSw
    (try dsimp only at hSw)
    go_simp
    try with_reducible rfl
  try simp only [Act.put, List.setIfInBounds_toArray, List.set_cons_zero, List.set_cons_succ]
  refine wpAnyH_done (by kernel_rfl) ?_ _
  obtain ⟨hk7, b0, b1, b2⟩ := hHeld
  have HK7 := Lib.hid hk7
  clear hk7 hk6 hk5
  have tE : (E == E) = true := by simp
  go_wp2_with (first
    | (go_at_call 10; refine (H2.out _ (HK.out.trans (HK7.out.trans (by repeat (with_reducible (first | assumption | exact Keeps.refl _ | refine Keeps.alloc ?_ _ | refine Keeps.drew ?_ | refine Keeps.drewN ?_ _)))))).mono ?_; rintro e w8 ⟨v8, rfl, ha8, hk8⟩; obtain ⟨ao8, cap8, e8⟩ := Arr.form ha8; subst e8; have HA8 := Lib.hid ha8; clear ha8)
    | (go_at_call 8; refine (sameEdges_yes _ _ R _ (Arr.keep HA6.out (Keeps.trans (show Keeps w6 _ from (by repeat (with_reducible (first | assumption | exact Keeps.refl _ | refine Keeps.alloc ?_ _ | refine Keeps.drew ?_ | refine Keeps.drewN ?_ _)))) hk8)) HA8.out).mono ?_; rintro e w9 ⟨rfl, hk9⟩))
  go_ret
  exact ⟨by simp, HK.out.trans (HK7.out.trans ((Keeps.trans (show Keeps w6 _ from (by repeat (with_reducible (first | assumption | exact Keeps.refl _ | refine Keeps.alloc ?_ _ | refine Keeps.drew ?_ | refine Keeps.drewN ?_ _)))) hk8).trans hk9))⟩

theorem own : ownKnob Try.prog.godebug = none := by kernel_rfl
theorem laidOut : laidOutB Try.prog = true := by kernel_rfl
theorem reads : ∀ t ∈ Try.f4.params.toList, Try.prog.readableRec t = true ∧ t < Try.prog.types.size := by
  intro t ht
  rw [Try.params4] at ht
  simp only [List.mem_cons, List.mem_nil_iff, or_false] at ht
  rcases ht with rfl | rfl <;> exact ⟨by kernel_rfl, of_decide_eq_true (by kernel_rfl)⟩

theorem lifted (os : Os) (started : os.Started) (H : Type) (enc : TypeId × Value → H) :
    ReturnsInHanded {} Try.checked os 4 .any (Rows.tallyMapsSpec.pre6 enc Try.prog Try.f4 Rows.tallyMapsRow.domain false) (Rows.tallyMapsSpec.post enc Try.prog Try.f4 false true false false) := by
  refine returnsInHanded_of_change_sized (C := Try.checked) own started (by kernel_rfl) Try.func4
    (ChangeSpec.witness6 (enc := enc) (C := Try.checked) false ⟨#[], #[.agg #[.slice none 0 0, .slice none 0 0, .slice none 0 0], .slice none 0 0], []⟩ 8 (by kernel_rfl) (by kernel_rfl) (by kernel_rfl) (by kernel_rfl)) ?_
  intro W base args ds gs before hval0 hW _ hsz _
  have hval : ∀ (j : Nat) t v, Try.f4.params[j]? = some t → args[j]? = some v → Value.okWide Try.prog W .any base t v := hval0
  have hsz' : (DataW.weightsEach Try.prog (Try.f4.params.toList ++ []) (ds ++ gs)).all (· ≤ reachBytes) = true := hsz
  have hW' := hW
  obtain ⟨p, q, hA0, hV, rfl, hfz, hnd⟩ := hW
  have hA : DataW.TrodAll enc Try.prog W 0 (fun _ => true) true Try.f4.params.toList args.toList ds p := hA0
  rw [Try.params4] at hA hval hsz'
  obtain ⟨v0, v1, d0, d1, p0, p1, hargs, rfl, rfl, h0, h1⟩ := trodAll_two hA
  obtain ⟨rfl, rfl⟩ := trodVars_none hV
  obtain rfl : args = #[v0, v1] := by cases args; simp_all
  obtain ⟨f, hf, of⟩ := flow_open (hval 0 _ v0 rfl rfl) h0 (fits_each hsz' (j := 0) rfl rfl)
  obtain ⟨ao1, ln1, cp1, rfl⟩ := okWide_slice Try.underlying27 (hval 1 _ v1 rfl rfl)
  obtain ⟨fu1, t1⟩ := h1
  obtain ⟨l, hl, ol, ob⟩ := edges_open t1 (fits_each hsz' (j := 1) rfl rfl)
  refine (walk hf hl (small of) (fun i hi => ⟨i64_wf (of.blocks i hi).ints.2.1, fun j hj => i64_wf ((of.blocks i hi).at_ j hj)⟩) (fun i hi => ⟨i64_wf (ol i hi).1, i64_wf (ol i hi).2.1⟩) (Nat.le_trans ob (by decide))).mono fun e W' ⟨he, hk⟩ => ?_
  subst he
  exact ⟨_, rfl, law_post laidOut reads rfl Try.underlying4 rfl rfl rfl rfl hW' hk⟩

theorem holds : Rows.TallyMapsSaid :=
  OpenClaim.holds_of_wide 4 Try.f4 rfl rfl rfl rfl rfl rfl rfl ⟨rfl, rfl, rfl, rfl, rfl⟩ rfl rfl rfl rfl rfl (by kernel_rfl) Try.func4 (by kernel_rfl)
    (of_decide_eq_true (by kernel_rfl)) (by unfold Func.isWrapper; first | (rw [if_pos (by decide +kernel)]; kernel_rfl) | (rw [if_neg (by decide +kernel)]; exact ⟨rfl, rfl⟩))
    (fun os started H enc _ => lifted os started H enc)
end Go.Proofs.Ytofaghcnkppmbaa.tallyMaps
