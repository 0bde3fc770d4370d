/-
  The law BoltEdges, for every flow and every text, and its card: bolt.Edges answers the edges that the document's EdgesOf and MappedOf answer; none for a text that is no tally, of which bolt.Optimize of no bytes says nothing. The one condition is the row's own: the library's tables and the variables strconv.ErrRange, strconv.ErrSyntax hold what the program's text lays, which the card ties to that text.
-/
import Derived.Test.YtjnhiiidcjajbaaGreatDoorCards
import Derived.Test.YtjnhiiidcjajbaaGreatDoorTie
import Derived.Test.YtjnhiiidcjajbaaGreatDoorBoltE
import Derived.Test.YtjnhiiidcjajbaaGreatDoorFlowOpen
import Derived.Test.YtjnhiiidcjajbaaGreatDoorSameEd
import Derived.Test.YtjnhiiidcjajbaaGreatDoorLift
import Derived.Deep.DeepHandedRow
import Derived.Lib.LaidTab
import Derived.Lib.LaidU8
import Derived.PinnedBridge
import Derived.Stop.LaidErr
namespace Go.Proofs.YtjnhiiidcjajbaaGreatDoor.boltEdges
open Go.ChangeShapes Go.WideShapes Go.ChangeAt Go.RowKit BH Go.Lib
open Go.ChangeMaps (open_string)

set_option maxHeartbeats 10000000
set_option maxRecDepth 100000
theorem small {f : Fl} (h : FlowOk f) : FlowSmall f := by
  have hr : reachBytes ≤ 140737488355328 := by decide
  refine ⟨by have := h.blocksN; omega, by have := h.tabsN; omega, fun t ht => ?_⟩
  obtain ⟨i, hi, he⟩ := List.getElem_of_mem ht
  have := (h.tabs i hi).2
  rw [nth_eq _ _ hi, he] at this
  omega
theorem i64_wf {x : Int} (h : I64 x) : wfI x := by unfold I64 at h; exact wfI_of (by omega) (by omega)
theorem walk {vf : Value} {f : Fl} {s : ByteArray} {w : World} (hf : FlowAt w vf f) (hs : FlowSmall f) (hwb : ∀ i, i < f.Blocks.length → wfI (nth f.Blocks i).Start ∧ ∀ j, j < (nth f.Blocks i).At.length → wfI (nth (nth f.Blocks i).At j)) (hT : TalW w) :
    Calls Tryz.prog 3 #[vf, .string s] w fun e w' => e = .returned (.bool true) ∧ Keeps w w' := by
  have HED := Lib.hid (fun (w' : World) (hk : Keeps w w') => edges_any (f := f) (vf := vf) (s := s) (hf.keep hk) hs hwb (hT.keep hk))
  have HEO := Lib.hid (fun w' => edgesOf_any s w')
  have HOP := Lib.hid (fun w' => optNil_any s w')
  have hE : edgesS f s.data.toList = if (tallyS s.data.toList).1 = 0 then mapS f (tallyS s.data.toList).2 else [] := rfl
  obtain ⟨er, l, hr⟩ : ∃ er l, tallyS s.data.toList = (er, l) := ⟨_, _, rfl⟩
  rw [hr] at HEO hE
  dsimp only at HEO hE
  obtain ⟨R, hR⟩ : ∃ R, R = edgesS f s.data.toList := ⟨_, rfl⟩
  rw [← hR] at hE HED
  have HMR := Lib.hid (fun (w' : World) (x : Value) (hk : Keeps w w') (hx : Edges w' x l) => mapRef_any (f := f) (l := l) (vf := vf) (vl := x) (hf.keep hk) hx hs)
  obtain ⟨v0, v1, v2, rfl, -⟩ := hf
  obtain ⟨W, hW, hB, hkW⟩ : ∃ W, W = w.alloc (.cells #[v0, v1, v2] 26) ∧ Blk W w.heap.size (.cells #[v0, v1, v2] 26) ∧ Keeps w W := ⟨_, rfl, Blk.top _ _, (Keeps.refl _).alloc _⟩
  have HW := Lib.hid hW
  have HK := Lib.hid hkW
  have HB := Lib.hid hB
  have b0 := hB.cell (j := 0) rfl
  have b1 := hB.cell (j := 1) rfl
  have b2 := hB.cell (j := 2) rfl
  obtain ⟨E, hEE⟩ : ∃ z, z = mapE l := ⟨_, rfl⟩
  rw [← hEE] at HMR
  have HE := Lib.hid hE
  clear hs hwb hW hB hkW hr hR hT hE hEE
  go_enter Tryz.func3, Tryz.ntmps3
  go_upto_region 1 with fail
  rw [← HW.out]
  clear HW
  by_cases h0 : er = 0
  case neg =>
    have t0 : (er != 0) = true := by simpa using h0
    have hRn : R = [] := by rw [HE.out, if_neg h0]
    subst hRn
    clear h0
    go_wp2_with (first
      | (go_at_call 5; refine (HED.out _ (HK.out.trans (by repeat (with_reducible (first | assumption | exact Keeps.refl _ | refine Keeps.alloc ?_ _ | refine Keeps.drew ?_ | refine Keeps.drewN ?_ _))))).mono ?_; rintro e w1 ⟨v1, rfl, he1, hk1⟩; obtain ⟨a1, c1, e1⟩ := Arr.form he1; subst e1; clear he1)
      | (go_at_call 6; refine (HEO.out _).mono ?_; rintro e w2 ⟨v2, rfl, he2, hk2⟩; obtain ⟨a2, c2, e2⟩ := Arr.form he2; subst e2; clear he2)
      | (go_at_call 7; refine (HOP.out _).mono ?_; rintro e w3 ⟨rfl, hk3⟩))
    go_ret
    exact ⟨rfl, HK.out.trans (hk1.trans (hk2.trans hk3))⟩
  case pos =>
    subst h0
    have hRm : R = mapS f l := by rw [HE.out, if_pos rfl]
    rw [← hRm] at HMR
    clear hRm
    go_wp2_with (first
      | (go_at_call 5; refine (HED.out _ (HK.out.trans (by repeat (with_reducible (first | assumption | exact Keeps.refl _ | refine Keeps.alloc ?_ _ | refine Keeps.drew ?_ | refine Keeps.drewN ?_ _))))).mono ?_; rintro e w1 ⟨v1, rfl, he1, hk1⟩; obtain ⟨a1, c1, e1⟩ := Arr.form he1; subst e1; have HE1 := Lib.hid he1; clear he1)
      | (go_at_call 6; refine (HEO.out _).mono ?_; rintro e w2 ⟨v2, rfl, he2, hk2⟩; obtain ⟨a2, c2, e2⟩ := Arr.form he2; subst e2; have HE2 := Lib.hid he2; clear he2; have d0 := ((HB.out.keep hk1).keep hk2).cell (j := 0) rfl; have d1 := ((HB.out.keep hk1).keep hk2).cell (j := 1) rfl; have d2 := ((HB.out.keep hk1).keep hk2).cell (j := 2) rfl)
      | (go_at_call 8; refine (HMR.out _ _ (HK.out.trans (hk1.trans (hk2.trans (by repeat (with_reducible (first | assumption | exact Keeps.refl _ | refine Keeps.alloc ?_ _ | refine Keeps.drew ?_ | refine Keeps.drewN ?_ _)))))) HE2.out).mono ?_; rintro e w3 ⟨v3, rfl, he3, hk3⟩; obtain ⟨a3, c3, e3⟩ := Arr.form he3; subst e3; have HE3 := Lib.hid he3; clear he3)
      | (go_at_call 9; refine (sameEdges_yes _ _ R _ (Arr.keep HE1.out (hk2.trans hk3)) HE3.out).mono ?_; rintro e w4 ⟨rfl, hk4⟩))
    go_ret
    exact ⟨rfl, HK.out.trans (hk1.trans (hk2.trans (hk3.trans hk4)))⟩

theorem laid_head {P : Program} {W : World} {name : String} {d : DataW Unit} {rest : List (String × DataW Unit)} {g : Nat} {t : TypeId}
    (hg : P.globalNamed name = some g) (hty : (P.globals[g]?).map (·.type) = some t) (h : laidMet P ((name, d) :: rest) W) :
    ∃ cs fuel q, W.var? P name = some cs ∧ DataW.trod (fun _ => ()) P W 0 (fun _ => true) false fuel t cs.toList = some (d, q) := by
  obtain ⟨ps, ⟨g', t', cs, fuel, p, q, hg', ht', hvar, hd, _, _⟩, _⟩ := h
  obtain rfl := Option.some.inj (hg.symm.trans hg')
  obtain rfl := Option.some.inj (hty.symm.trans ht')
  exact ⟨cs, fuel, _, hvar, hd⟩
theorem var_iface {W : World} {name nm : String} {d : DataW Unit} {rest : List (String × DataW Unit)} {g : Nat}
    (hg : Tryz.prog.globalNamed name = some g) (hty : (Tryz.prog.globals[g]?).map (·.type) = some 150) (h : laidMet Tryz.prog ((name, .iface nm d) :: rest) W) : ∃ tp p, W.var? Tryz.prog name = some #[.iface tp p] := by
  obtain ⟨cs, fuel, q, hvar, hd⟩ := laid_head hg hty h
  obtain ⟨f1, u, v, e, -⟩ := iface_of_trod Tryz.underlying150 hd
  refine ⟨u, v, ?_⟩
  rw [hvar]
  congr 1
  exact Array.toList_inj.1 e
theorem gPow : Tryz.prog.globalNamed "internal/strconv.uint64pow10" = some 7 := by kernel_rfl
theorem gPowType : (Tryz.prog.globals[7]?).map (·.type) = some 283 := by kernel_rfl
theorem gER : Tryz.prog.globalNamed "strconv.ErrRange" = some 4 := by kernel_rfl
theorem gERType : (Tryz.prog.globals[4]?).map (·.type) = some 150 := by kernel_rfl
theorem gES : Tryz.prog.globalNamed "strconv.ErrSyntax" = some 3 := by kernel_rfl
theorem gESType : (Tryz.prog.globals[3]?).map (·.type) = some 150 := by kernel_rfl
theorem talW_of_laid {W : World} (hL : laidMet Tryz.prog Rows.boltEdgesRow.laid W) (hS : W.ShapedOpen Tryz.prog) : TalW W := by
  obtain ⟨m, hm⟩ := Tryz.laysCut.s1_3 W hS
  refine ⟨⟨m, hm⟩, ?_, ?_, ?_⟩
  · exact var_iface gES gESType hL.tail.tail.tail.tail.tail
  · exact var_iface gER gERType hL.tail.tail.tail.tail
  · exact tabIs_of_head gPow gPowType Tryz.underlying283 Tryz.underlying201 (by kernel_rfl) (by kernel_rfl) (show laidMet Tryz.prog ((_, tabData .u64 pow10Tab) :: _) W from hL.tail.tail)

theorem own : ownKnob Tryz.prog.godebug = none := by kernel_rfl
theorem laidOut : laidOutB Tryz.prog = true := by kernel_rfl
theorem reads : ∀ t ∈ Tryz.f3.params.toList, Tryz.prog.readableRec t = true ∧ t < Tryz.prog.types.size := by
  intro t ht
  rw [Tryz.params3] at ht
  simp only [List.mem_cons, List.mem_nil_iff, or_false] at ht
  rcases ht with rfl | rfl <;> exact ⟨by kernel_rfl, of_decide_eq_true (by kernel_rfl)⟩

theorem contract (H : Type) (enc : TypeId × Value → H) (W : World) (base : Nat) (args : Array Value) (ds gs : List (DataW H)) (before : List MemPlace)
    (hval : ∀ (j : Nat) t v, Tryz.f3.params[j]? = some t → args[j]? = some v → Value.okWide Tryz.prog W .any base t v)
    (hW : DataW.Whole enc Tryz.prog Tryz.f3.params.toList Rows.boltEdgesSpec.vars false W args.toList ds gs before)
    (hsz : (DataW.weightsEach Tryz.prog (Tryz.f3.params.toList ++ []) (ds ++ gs)).all (· ≤ reachBytes) = true)
    (hL : laidMetH Tryz.prog Rows.boltEdgesRow.laid W) (hS : W.ShapedOpen Tryz.prog) :
    Calls Tryz.prog 3 args W fun e W' => ∃ v, e = .returned v ∧ Rows.boltEdgesSpec.post enc Tryz.prog Tryz.f3 false true false false W args v W' := by
  have hT : TalW W := talW_of_laid hL hS
  have hW' := hW
  obtain ⟨p, q, hA0, hV, rfl, hfz, hnd⟩ := hW
  have hA : DataW.TrodAll enc Tryz.prog W 0 (fun _ => true) true Tryz.f3.params.toList args.toList ds p := hA0
  have hsz' := hsz
  rw [Tryz.params3] at hA hval hsz'
  obtain ⟨v0, v1, d0, d1, p0, p1, hargs, rfl, rfl, h0, h1⟩ := trodAll_two hA
  obtain ⟨rfl, rfl⟩ := trodVars_none hV
  obtain rfl : args = #[v0, v1] := by cases args; simp_all
  obtain ⟨f, hf, of⟩ := flow_open (hval 0 _ v0 rfl rfl) h0 (fits_each hsz' (j := 0) rfl rfl)
  obtain ⟨s, rfl, rfl, -⟩ := open_string Tryz.underlying9 (hval 1 _ v1 rfl rfl) h1
  refine (walk (s := s) hf (small of) (fun i hi => ⟨i64_wf (of.blocks i hi).ints.2.1, fun j hj => i64_wf ((of.blocks i hi).at_ j hj)⟩) hT).mono fun e W' ⟨he, hk⟩ => ?_
  subst he
  exact ⟨_, rfl, law_post laidOut reads rfl Tryz.underlying4 rfl rfl rfl rfl hW' hk⟩

abbrev rngS : ByteArray := { data := #[118, 97, 108, 117, 101, 32, 111, 117, 116, 32, 111, 102, 32, 114, 97, 110, 103, 101] }
abbrev synS : ByteArray := { data := #[105, 110, 118, 97, 108, 105, 100, 32, 115, 121, 110, 116, 97, 120] }
/-- So many blocks has the settled world. -/
noncomputable def low : Nat := (World.holding Tryz.prog default ⟨#[], #[], []⟩).heap.size
/-- A world for the witness: the settled one, with two blocks more (the texts of the two errors), the variables holding what their initialisers lay. -/
noncomputable def laidWorld (os : Os) : World :=
  { World.holding Tryz.prog os ⟨#[.cells #[.string rngS] 281, .cells #[.string synS] 281], #[], []⟩ with heap := ((((((((((World.holding Tryz.prog os ⟨#[.cells #[.string rngS] 281, .cells #[.string synS] 281], #[], []⟩).heap.modify 8 fun
      | .cells _ t frozen => .cells #[.int .u8 0, .int .u8 1, .int .u8 28, .int .u8 2, .int .u8 29, .int .u8 14, .int .u8 24, .int .u8 3, .int .u8 30, .int .u8 22, .int .u8 20, .int .u8 15, .int .u8 25, .int .u8 17, .int .u8 4, .int .u8 8, .int .u8 31, .int .u8 27, .int .u8 13, .int .u8 23, .int .u8 21, .int .u8 19, .int .u8 16, .int .u8 7, .int .u8 26, .int .u8 12, .int .u8 18, .int .u8 6, .int .u8 11, .int .u8 5, .int .u8 10, .int .u8 9] t frozen
      | o => o).modify 9 fun
      | .cells _ t frozen => .cells #[.int .u8 0, .int .u8 1, .int .u8 56, .int .u8 2, .int .u8 57, .int .u8 49, .int .u8 28, .int .u8 3, .int .u8 61, .int .u8 58, .int .u8 42, .int .u8 50, .int .u8 38, .int .u8 29, .int .u8 17, .int .u8 4, .int .u8 62, .int .u8 47, .int .u8 59, .int .u8 36, .int .u8 45, .int .u8 43, .int .u8 51, .int .u8 22, .int .u8 53, .int .u8 39, .int .u8 33, .int .u8 30, .int .u8 24, .int .u8 18, .int .u8 12, .int .u8 5, .int .u8 63, .int .u8 55, .int .u8 48, .int .u8 27, .int .u8 60, .int .u8 41, .int .u8 37, .int .u8 16, .int .u8 46, .int .u8 35, .int .u8 44, .int .u8 21, .int .u8 52, .int .u8 32, .int .u8 23, .int .u8 11, .int .u8 54, .int .u8 26, .int .u8 40, .int .u8 15, .int .u8 34, .int .u8 20, .int .u8 31, .int .u8 10, .int .u8 25, .int .u8 14, .int .u8 19, .int .u8 9, .int .u8 13, .int .u8 8, .int .u8 7, .int .u8 6] t frozen
      | o => o).modify 7 fun
      | .cells _ t frozen => .cells #[.int .u64 1, .int .u64 10, .int .u64 100, .int .u64 1000, .int .u64 10000, .int .u64 100000, .int .u64 1000000, .int .u64 10000000, .int .u64 100000000, .int .u64 1000000000, .int .u64 10000000000, .int .u64 100000000000, .int .u64 1000000000000, .int .u64 10000000000000, .int .u64 100000000000000, .int .u64 1000000000000000, .int .u64 10000000000000000, .int .u64 100000000000000000, .int .u64 1000000000000000000, .int .u64 10000000000000000000] t frozen
      | o => o).modify 6 fun
      | .cells _ t frozen => .cells #[.int .u8 128, .int .u8 191, .int .u8 160, .int .u8 191, .int .u8 128, .int .u8 159, .int .u8 144, .int .u8 191, .int .u8 128, .int .u8 143, .int .u8 0, .int .u8 0, .int .u8 0, .int .u8 0, .int .u8 0, .int .u8 0, .int .u8 0, .int .u8 0, .int .u8 0, .int .u8 0, .int .u8 0, .int .u8 0, .int .u8 0, .int .u8 0, .int .u8 0, .int .u8 0, .int .u8 0, .int .u8 0, .int .u8 0, .int .u8 0, .int .u8 0, .int .u8 0] t frozen
      | o => o).modify 4 fun
      | .cells _ t frozen => .cells #[.iface 279 (.pointer (some ⟨low, 0, none⟩))] t frozen
      | o => o).modify 3 fun
      | .cells _ t frozen => .cells #[.iface 279 (.pointer (some ⟨low + 1, 0, none⟩))] t frozen
      | o => o).modify 5 fun
      | .cells _ t frozen => .cells (Go.Lib.firstTab.map fun z => Value.int .u8 z).toArray t frozen
      | o => o).modify 0 fun
      | .cells _ t frozen => .cells #[.int .u8 0, .int .u8 0, .int .i64 0, .int .u8 0, .int .u8 0, .int .i64 1, .int .u8 1, .int .u8 0, .int .i64 1, .int .u8 2, .int .u8 0, .int .i64 1, .int .u8 3, .int .u8 0, .int .i64 1, .int .u8 16, .int .u8 0, .int .i64 2, .int .u8 17, .int .u8 0, .int .i64 3, .int .u8 32, .int .u8 0, .int .i64 4, .int .u8 33, .int .u8 0, .int .i64 4, .int .u8 34, .int .u8 0, .int .i64 4, .int .u8 35, .int .u8 0, .int .i64 4, .int .u8 36, .int .u8 0, .int .i64 4, .int .u8 37, .int .u8 0, .int .i64 4, .int .u8 38, .int .u8 0, .int .i64 4, .int .u8 48, .int .u8 0, .int .i64 3, .int .u8 49, .int .u8 0, .int .i64 5, .int .u8 64, .int .u8 0, .int .i64 6, .int .u8 65, .int .u8 0, .int .i64 7, .int .u8 80, .int .u8 84, .int .i64 8, .int .u8 81, .int .u8 85, .int .i64 8, .int .u8 82, .int .u8 86, .int .i64 8, .int .u8 83, .int .u8 87, .int .i64 8, .int .u8 96, .int .u8 97, .int .i64 9, .int .u8 98, .int .u8 0, .int .i64 10, .int .u8 99, .int .u8 0, .int .i64 11] t frozen
      | o => o).modify 1 fun
      | .cells _ t frozen => .cells #[.int .i64 0, .int .i64 1, .int .i64 4, .int .i64 3, .int .i64 3, .int .i64 3, .int .i64 2, .int .i64 2, .int .i64 3, .int .i64 2, .int .i64 3, .int .i64 3] t frozen
      | o => o) }
theorem laid_met (os : Os) : laidMet Tryz.prog Rows.boltEdgesRow.laid ((laidWorld os).forCall (fun _ _ => 0) ⟨#[], #[.agg #[.slice none 0 0, .slice none 0 0, .slice none 0 0], .string ByteArray.empty], []⟩).memory :=
  laidMet_of_run' 8 (by kernel_rfl) (by kernel_rfl)
theorem readsW (os : Os) {H : Type} (enc : TypeId × Value → H) : ∃ places, DataW.whole enc Tryz.prog ((laidWorld os).forCall (fun _ _ => 0) ⟨#[], #[.agg #[.slice none 0 0, .slice none 0 0, .slice none 0 0], .string ByteArray.empty], []⟩).memory Tryz.f3.params.toList Rows.boltEdgesSpec.vars false (#[.agg #[.slice none 0 0, .slice none 0 0, .slice none 0 0], .string ByteArray.empty] : Array Value).toList 8 = some ([.agg [.nil, .nil, .nil], .lit (.string [])], [], places) :=
  ⟨[], by kernel_rfl⟩

theorem lifted (os : Os) (started : os.Started) (H : Type) (enc : TypeId × Value → H) (F : Stop.Interp) :
    ReturnsInHanded {} Tryz.checked os 3 .any ((OpenSpec.ofChange Rows.boltEdgesSpec).preRow enc Tryz.prog Tryz.f3 Rows.boltEdgesRow.domain false Rows.boltEdgesRow.laid) (((OpenSpec.ofChange Rows.boltEdgesSpec).at F).post enc Tryz.prog Tryz.f3 false true false false) := by
  obtain ⟨places, hx⟩ := readsW os enc
  refine returnsInHanded_of_row (C := Tryz.checked) (s := OpenSpec.ofChange Rows.boltEdgesSpec) own started (by kernel_rfl) Tryz.func3
    (witness_row_at (enc := enc) (C := Tryz.checked) false (laidWorld os) #[.agg #[.slice none 0 0, .slice none 0 0, .slice none 0 0], .string ByteArray.empty] rfl (by kernel_rfl) (by kernel_rfl) (by kernel_rfl)
      (OpenSpec.preRow_of_cond 8 hx (by kernel_rfl) (fun k hk => by cases hk) (by kernel_rfl) (laid_met os))) ?_
  intro W base args ds gs before hval hW hx1 hx2 hx3 hL hS hx4
  exact contract H enc W base args ds gs before hval hW (by first | exact hx1 | exact hx2 | exact hx3 | exact hx4) hL hS

theorem said : Rows.BoltEdgesSaid :=
  OpenClaim.holds_of_cond 3 Tryz.f3 rfl rfl rfl rfl rfl rfl rfl ⟨rfl, rfl, rfl, rfl, rfl⟩ rfl rfl rfl rfl rfl (by kernel_rfl) Tryz.func3 (by kernel_rfl)
    (of_decide_eq_true (by kernel_rfl)) (by unfold Func.isWrapper; first | (rw [if_pos (by decide +kernel)]; kernel_rfl) | (rw [if_neg (by decide +kernel)]; exact ⟨rfl, rfl⟩))
    (fun os started H enc _ F => by rw [OpenClaim.pre_eq_preRow]; exact lifted os started H enc F)

theorem plain (f : FuncId) (fn : Func) (hf : Tryz.pinned.checked.prog.funcNamed "bolthole/boltholelaw.BoltEdges" = some f) (hfn : Tryz.pinned.checked.prog.funcs[f]? = some fn) :
    true = Tryz.pinned.checked.prog.looks [] ∧ ∀ (j : Nat) t, fn.params[j]? = some t → Tryz.pinned.checked.prog.wantsStandIn t = false := by
  obtain rfl : f = 3 := Option.some.inj ((show Tryz.prog.funcNamed "bolthole/boltholelaw.BoltEdges" = some 3 by kernel_rfl).symm.trans hf) |>.symm
  obtain rfl : fn = Tryz.f3 := (Option.some.inj (Tryz.func3.symm.trans hfn)).symm
  refine ⟨by kernel_rfl, fun j t ht => ?_⟩
  rw [Tryz.params3] at ht
  have hm := Array.mem_of_getElem? ht
  simp only [List.mem_toArray, List.mem_cons, List.mem_nil_iff, or_false] at hm
  rcases hm with rfl | rfl
  · exact (show Tryz.prog.wantsStandIn 26 = false by kernel_rfl)
  · exact (show Tryz.prog.wantsStandIn 9 = false by kernel_rfl)

/-- THE CARD -/
theorem card : Rows.BoltEdgesCardSaid :=
  Claim7.holds_tied_plain_at .later [] _ _ _ _ said (fun _ h => by cases h) (by kernel_rfl) (fun _ h => by cases h) boltEdges_row_tie rfl ⟨rfl, rfl⟩ (by kernel_rfl) rfl plain (by kernel_rfl)
end Go.Proofs.YtjnhiiidcjajbaaGreatDoor.boltEdges
