/-
  The law PlaceOrders: place.Order answers what the document's OrderOf answers, for every flow and every list of edges. The condition: all that the arguments hold is at most 1048576 values (the row's own; beyond it heats may pass 2^63).
-/
import Derived.Test.YtofaghcnkppmbaaRows
import Derived.Test.YtofaghcnkppmbaaOrdRef
import Derived.Test.YtofaghcnkppmbaaOrdSame
import Derived.Test.YtofaghcnkppmbaaFlowOpen
import Derived.Test.YtofaghcnkppmbaaEdgeOpen
import Derived.Deep.CondSized
namespace Go.Proofs.Ytofaghcnkppmbaa.placeOrders
open Go.ChangeShapes Go.WideShapes Go.ChangeAt Go.RowKit BH Go.Sort Go.Deep
set_option maxHeartbeats 10000000
set_option maxRecDepth 100000
theorem one_le {H : Type} (d : DataW H) : 1 ≤ Rows.uptoBulk d := by
  cases d with
  | lit l => cases l <;> simp [Rows.uptoBulk]
  | nil => simp [Rows.uptoBulk]
  | ptr d => simp [Rows.uptoBulk]
  | slice elems spare => simp [Rows.uptoBulk]
  | agg parts => simp [Rows.uptoBulk]
  | iface t d => simp [Rows.uptoBulk]
  | map entries => simp [Rows.uptoBulk]
  | held h => simp [Rows.uptoBulk]
theorem len_le {H : Type} : ∀ l : List (DataW H), l.length ≤ Rows.uptoBulkAll l
  | [] => by simp [Rows.uptoBulkAll]
  | x :: r => by
    have h1 := one_le x
    have h2 := len_le r
    simp only [Rows.uptoBulkAll, List.length_cons]
    omega
theorem mem_le {H : Type} {d : DataW H} : ∀ {l : List (DataW H)}, d ∈ l → Rows.uptoBulk d ≤ Rows.uptoBulkAll l
  | x :: r, h => by
    simp only [Rows.uptoBulkAll]
    rcases List.mem_cons.1 h with e | e
    · subst e; omega
    · have := mem_le e; omega
section
variable {H : Type} {enc : TypeId × Value → H} {P : Program} {w : World}
theorem slice_bulk {t e : TypeId} {fuel : Nat} {c : Value} {x : DataW H × List MemPlace} (ht : P.underlying t = some (.slice e)) (h : DataW.trod enc P w 0 (fun _ => true) true fuel t [c] = some x) {ao : Option Addr} {n cap : Nat} (hc : c = .slice ao n cap) : n ≤ Rows.uptoBulk x.1 := by
  rcases open_slice ht h with ⟨h1, -⟩ | ⟨a, len, cp, m, fu, D, Pl, h1, -, -, -, -, h2, -⟩
  · simp only [List.cons.injEq, and_true] at h1
    rw [h1] at hc
    injection hc with e1 e2 e3
    omega
  · simp only [List.cons.injEq, and_true] at h1
    rw [h1] at hc
    injection hc with e1 e2 e3
    rw [h2]
    simp only [Rows.uptoBulk]
    have := len_le ((List.range len).map D)
    simp only [List.length_map, List.length_range] at this
    omega
end
section
variable {H : Type} {enc : TypeId × Value → H} {w : World}
theorem flow_bulk {r : Reach} {b0 : Nat} {v : Value} {d : DataW H} {p : List MemPlace} {f : Fl} (hv : Value.okWide Try.prog w r b0 26 v) (h : DataW.Trod enc Try.prog w 0 (fun _ => true) true 26 v d p) (hf : FlowAt w v f) : f.Blocks.length ≤ Rows.uptoBulk d ∧ f.Firsts.length ≤ Rows.uptoBulk d := by
  obtain ⟨v0, v1, v2, rfl, ⟨cv, av, lv, ⟨ao, cap, rfl, -⟩, -⟩, -, ⟨fo, fcap, rfl, -⟩⟩ := hf
  obtain ⟨fuel, ht⟩ := h
  obtain ⟨xs, n, -, hd, -, hl, hx⟩ := DataW.trod_struct Try.underlying26 ht
  simp only [List.size_toArray, List.length_cons, List.length_nil] at hl
  match xs, hl with
  | [y0, y1, y2], _ =>
    simp only [Prod.mk.injEq] at hd
    obtain ⟨rfl, -⟩ := hd
    have h0 := hx 0 _ rfl
    have h2 := hx 2 _ rfl
    simp only [List.getElem?_cons_zero, List.getElem?_cons_succ] at h0 h2
    have b0 := slice_bulk Try.underlying22 h0 rfl
    have b2 := slice_bulk Try.underlying24 h2 rfl
    simp only [Rows.uptoBulk, Rows.uptoBulkAll, List.map_cons, List.map_nil]
    omega
end
theorem order_same {f : Fl} {l : List Ed} : orderS f l = orderD f l := by
  unfold orderS orderD
  by_cases h : orderE f l = 0
  · rw [if_pos h, if_pos h]
    have hg : edgesGo (f.Blocks.length : Int) l l.length 0 = 0 := by
      unfold orderE at h
      by_cases hf : flowFit f = true
      · rwa [if_pos hf] at h
      · rw [if_neg hf] at h; cases h
    have hok : ∀ e, e ∈ l → EdOk f.Blocks.length e := fun e he => by
      obtain ⟨j, hj, q⟩ := List.mem_iff_getElem.1 he
      have := edges_ok l.length 0 hg (by omega) j (Nat.zero_le _) hj
      rwa [nth_eq _ _ hj, q] at this
    have hoo : ∀ e, e ∈ oftenL l → EdOk f.Blocks.length e := fun e he => hok e (List.mem_mergeSort.1 he)
    rw [docL_end f l hok]
    exact parts_same (chL_inv f _ hoo) fun L hL => by
      rw [sumH_heat hoo L hL]
      exact heatR_perm (List.mergeSort_perm _ _) L
  · rw [if_neg h, if_neg h]
theorem PartsAt.keep {w w' : World} {v : Value} {l : List Pa} (h : PartsAt w v l) (hk : Keeps w w') : PartsAt w' v l := by
  obtain ⟨tv, h1, h2⟩ := h
  exact ⟨tv, Arr.keep h1 hk, fun i hi => Arr.keep (h2 i hi) hk⟩
theorem walk {v vl : Value} {f : Fl} {l : List Ed} {w : World} (hv : FlowAt w v f) (hl : Edges w vl l) (hnb : f.Blocks.length ≤ 1048576) (hnf : f.Firsts.length ≤ 1048576) (hne : l.length ≤ 1048576) :
    Calls Try.prog 3 #[v, vl] w fun e w' => e = .returned (.bool true) ∧ Keeps w w' := by
  have HV := Lib.hid hv
  have HL := Lib.hid hl
  obtain ⟨v0, v1, v2, rfl, -⟩ := hv
  obtain ⟨ao, cap, rfl, -⟩ := hl
  have H1 := Lib.hid (fun (w' : World) (x : Value) (hk : Keeps w w') (hx : Edges w' x l) => order_any (f := f) (l := l) (vf := .agg #[v0, v1, v2]) (vl := x) (HV.out.keep hk) hx (by omega) (by omega) (by omega))
  have H2 := Lib.hid (fun (w' : World) (hk : Keeps w w') => orderOf_any (f := f) (l := l) (vf := .agg #[v0, v1, v2]) (vl := .slice ao l.length cap) (HV.out.keep hk) (Arr.keep HL.out hk) (by omega) (by omega) (by omega))
  go_enter Try.func3, Try.ntmps3
  go_upto_region 2 with (at_builtin; refine wpList_copy_nil rfl (.tmp 10) 27 rfl Try.underlying27 info_edge rfl (by decide) (n := l.length) (c := fun i j => (nth l i).c j) (by rfl) (HL.out.keep (by repeat (with_reducible (first | assumption | exact Keeps.refl _ | refine Keeps.alloc ?_ _ | refine Keeps.drew ?_ | refine Keeps.drewN ?_ _)))) (fun i j hi hj => by match j, hj with | 0, _ => rfl | 1, _ => rfl | 2, _ => rfl) (by omega) ?_; intro v5 w1 harr hnew hk1)
  have hkw1 : Keeps w w1 := ((Keeps.refl w).alloc _).trans hk1
  have b0 : w1.cell? ⟨w.heap.size, 0, none⟩ = some v0 := hk1.cell (by simp)
  have b1 : w1.cell? ⟨w.heap.size, 1, none⟩ = some v1 := hk1.cell (by simp)
  have b2 : w1.cell? ⟨w.heap.size, 2, none⟩ = some v2 := hk1.cell (by simp)
  have HARR := Lib.hid (show Edges w1 v5 l from harr)
  have HK1 := Lib.hid hkw1
  obtain ⟨E, hE⟩ : ∃ E, E = orderE f l := ⟨_, rfl⟩
  rw [← hE] at H1 H2
  clear harr hnew hk1 hkw1 hE
  go_wp2_with (first
    | (go_at_call 5; refine (H1.out _ v5 (HK1.out.trans (by repeat (with_reducible (first | assumption | exact Keeps.refl _ | refine Keeps.alloc ?_ _ | refine Keeps.drew ?_ | refine Keeps.drewN ?_ _)))) (Arr.keep HARR.out (by repeat (with_reducible (first | assumption | exact Keeps.refl _ | refine Keeps.alloc ?_ _ | refine Keeps.drew ?_ | refine Keeps.drewN ?_ _))))).mono ?_; rintro e w2 ⟨va, rfl, ha, hk2⟩; have d0 := hk2.cell b0; have d1 := hk2.cell b1; have d2 := hk2.cell b2; have HA := Lib.hid ha; have HK2 := Lib.hid (show Keeps w1 w2 from Keeps.trans (by repeat (with_reducible (first | assumption | exact Keeps.refl _ | refine Keeps.alloc ?_ _ | refine Keeps.drew ?_ | refine Keeps.drewN ?_ _))) hk2); clear ha hk2)
    | (go_at_call 6; refine (H2.out _ ((HK1.out.trans HK2.out).trans (by repeat (with_reducible (first | assumption | exact Keeps.refl _ | refine Keeps.alloc ?_ _ | refine Keeps.drew ?_ | refine Keeps.drewN ?_ _))))).mono ?_; rintro e w3 ⟨vb, rfl, hb, hk3⟩; have HB := Lib.hid hb; have HK3 := Lib.hid (show Keeps w2 w3 from Keeps.trans (by repeat (with_reducible (first | assumption | exact Keeps.refl _ | refine Keeps.alloc ?_ _ | refine Keeps.drew ?_ | refine Keeps.drewN ?_ _))) hk3); clear hb hk3)
    | (go_at_call 7; refine (sameParts_yes _ _ (orderD f l) _ (PartsAt.keep (by rw [← order_same]; exact HA.out) (HK3.out.trans (by repeat (with_reducible (first | assumption | exact Keeps.refl _ | refine Keeps.alloc ?_ _ | refine Keeps.drew ?_ | refine Keeps.drewN ?_ _))))) (PartsAt.keep HB.out (by repeat (with_reducible (first | assumption | exact Keeps.refl _ | refine Keeps.alloc ?_ _ | refine Keeps.drew ?_ | refine Keeps.drewN ?_ _))))).mono ?_; rintro e w4 ⟨rfl, hk4⟩; have HK4 := Lib.hid (show Keeps w3 w4 from Keeps.trans (by repeat (with_reducible (first | assumption | exact Keeps.refl _ | refine Keeps.alloc ?_ _ | refine Keeps.drew ?_ | refine Keeps.drewN ?_ _))) hk4); clear hk4)
    | (go_at_call 8; refine (sameEdges_yes _ _ l _ (Arr.keep HARR.out (((HK2.out.trans HK3.out).trans HK4.out).trans (by repeat (with_reducible (first | assumption | exact Keeps.refl _ | refine Keeps.alloc ?_ _ | refine Keeps.drew ?_ | refine Keeps.drewN ?_ _))))) (Arr.keep HL.out ((((HK1.out.trans HK2.out).trans HK3.out).trans HK4.out).trans (by repeat (with_reducible (first | assumption | exact Keeps.refl _ | refine Keeps.alloc ?_ _ | refine Keeps.drew ?_ | refine Keeps.drewN ?_ _)))))).mono ?_; rintro e w5 ⟨rfl, hk5⟩))
  go_ret
  exact ⟨by simp, (((HK1.out.trans HK2.out).trans HK3.out).trans HK4.out).trans hk5⟩
theorem own : ownKnob Try.prog.godebug = none := by kernel_rfl
theorem laidOut : laidOutB Try.prog = true := by kernel_rfl
theorem reads : ∀ t ∈ Try.f3.params.toList, Try.prog.readableRec t = true ∧ t < Try.prog.types.size := by
  intro t ht
  rw [Try.params3] at ht
  simp only [List.mem_cons, List.mem_nil_iff, or_false] at ht
  rcases ht with rfl | rfl <;> exact ⟨by kernel_rfl, of_decide_eq_true (by kernel_rfl)⟩
theorem lifted (os : Os) (started : os.Started) (H : Type) (enc : TypeId × Value → H) (F : Stop.Interp) :
    ReturnsInHanded {} Try.checked os 3 .any ((Rows.OpenSpec.upto Rows.placeOrdersSpec).pre6 enc Try.prog Try.f3 Rows.placeOrdersUptoRow.domain false) (((Rows.OpenSpec.upto Rows.placeOrdersSpec).at F).post enc Try.prog Try.f3 false true false false) := by
  refine returnsInHanded_of_cond_sized (C := Try.checked) (s := Rows.OpenSpec.upto Rows.placeOrdersSpec) (k := Rows.uptoSmall) rfl own started (by kernel_rfl) Try.func3
    (OpenSpec.witness (enc := enc) (C := Try.checked) (s := Rows.OpenSpec.upto Rows.placeOrdersSpec) (k := Rows.uptoSmall) rfl false ⟨#[], #[.agg #[.slice none 0 0, .slice none 0 0, .slice none 0 0], .slice none 0 0], []⟩ 8 (by kernel_rfl) (by kernel_rfl) (by kernel_rfl)
      (x := ([.agg [.nil, .nil, .nil], .nil], [], [])) (by kernel_rfl) rfl (by kernel_rfl)) ?_
  intro W base args ds gs before hval0 hW _ hk hsz _
  have hval : ∀ (j : Nat) t v, Try.f3.params[j]? = some t → args[j]? = some v → Value.okWide Try.prog W .any base t v := hval0
  have hsz' : (DataW.weightsEach Try.prog (Try.f3.params.toList ++ []) (ds ++ gs)).all (· ≤ reachBytes) = true := hsz
  have hW' := hW
  obtain ⟨p, q, hA0, hV, rfl, hfz, hnd⟩ := hW
  have hA : DataW.TrodAll enc Try.prog W 0 (fun _ => true) true Try.f3.params.toList args.toList ds p := hA0
  rw [Try.params3] at hA hval hsz'
  obtain ⟨v0, v1, d0, d1, p0, p1, hargs, rfl, rfl, h0, h1⟩ := trodAll_two hA
  obtain ⟨rfl, rfl⟩ := trodVars_none hV
  obtain rfl : args = #[v0, v1] := by cases args; simp_all
  have hb : Rows.uptoBulkAll [d0, d1] ≤ 1048576 := by simpa [Rows.uptoSmall] using hk
  have hb0 := mem_le (d := d0) (l := [d0, d1]) (by simp)
  have hb1 := mem_le (d := d1) (l := [d0, d1]) (by simp)
  obtain ⟨f, hf, of⟩ := flow_open (hval 0 _ v0 rfl rfl) h0 (fits_each hsz' (j := 0) rfl rfl)
  have hfb := flow_bulk (hval 0 _ v0 rfl rfl) h0 hf
  obtain ⟨ao1, ln1, cp1, rfl⟩ := okWide_slice Try.underlying27 (hval 1 _ v1 rfl rfl)
  obtain ⟨fuel, ht⟩ := h1
  obtain ⟨l, hl, -, -⟩ := edges_open ht (fits_each hsz' (j := 1) rfl rfl)
  have hlb : l.length ≤ Rows.uptoBulk d1 := by
    obtain ⟨ao, cap, e, -⟩ := hl
    exact slice_bulk Try.underlying27 ht e
  refine (walk hf hl (by omega) (by omega) (by omega)).mono fun e W' ⟨he, hk'⟩ => ?_
  subst he
  exact ⟨_, rfl, law_post laidOut reads rfl Try.underlying4 rfl rfl rfl rfl hW' hk'⟩
theorem over : Rows.placeOrdersUptoRow.holds Try.pinned (Rows.OpenSpec.upto Rows.placeOrdersSpec) :=
  OpenClaim.holds_of_cond 3 Try.f3 rfl rfl rfl rfl rfl rfl rfl ⟨rfl, rfl, rfl, rfl, rfl⟩ rfl rfl rfl rfl rfl (by kernel_rfl) Try.func3 (by kernel_rfl)
    (of_decide_eq_true (by kernel_rfl)) (by unfold Func.isWrapper; first | (rw [if_pos (by decide +kernel)]; kernel_rfl) | (rw [if_neg (by decide +kernel)]; exact ⟨rfl, rfl⟩))
    (fun os started H enc _ F => lifted os started H enc F)
theorem holds : Rows.PlaceOrdersUptoSaid := over
end Go.Proofs.Ytofaghcnkppmbaa.placeOrders
