/-
  The law IsaDecodes, for all bytes and every address, and its card: isa.Decode answers what the document's InstrAt answers. The one condition is the row's own: the tables isa.rows and isa.sizes hold what their initialisers lay, which the card ties to the program's text.
-/
import Derived.Test.YtpgifkhgefbnfaaDoorCards
import Derived.Test.YtpgifkhgefbnfaaDoorTie
import Derived.Test.YtpgifkhgefbnfaaDoorIsaAt6
import Derived.Test.YtpgifkhgefbnfaaDoorIsaLaid2
import Derived.Deep.DeepHandedRow
namespace Go.Proofs.YtpgifkhgefbnfaaDoor.isaDecodes
open Go.ChangeShapes Go.WideShapes Go.ChangeAt Go.RowKit BH

set_option maxHeartbeats 1000000
set_option maxRecDepth 100000
theorem octets_any (v : Value) (l : List UInt8) (w : World) (hv : Bytes w v l) (hl : l.length ≤ 140737488355328) :
    Calls Tryd.prog 7 #[v] w (Gives (fun v' w' => Bytes w' v' l) w) := by
  have HV := Lib.hid hv
  obtain ⟨ao, cap, rfl, -⟩ := hv
  go_enter Tryd.func7, Tryd.ntmps7
  go_wp2_with (at_builtin; refine wpList_copy_nil rfl (.tmp 3) 22 rfl Tryd.underlying22 info_u8 rfl (by decide) rfl HV.out ?c1 (by omega) ?_)
  case c1 =>
    intro i j hi hj
    match j, hj with
    | 0, _ => rfl
  intro v' w1 harr _ hk1
  go_wp2
  go_ret
  exact ⟨_, rfl, harr, hk1⟩
theorem walk (v : Value) (l : List UInt8) (x : Int) (w : World) (ht : Tab w) (hs : Siz w) (hv : Bytes w v l) (hl : l.length ≤ reachBytes) :
    Calls Tryd.prog 3 #[v, .int .i64 x] w fun e w' => e = .returned (.bool true) ∧ Keeps w w' := by
  have hl' : l.length ≤ 140737488355328 := Nat.le_trans hl (by decide)
  have HO := Lib.hid (octets_any v l w hv hl')
  have HD := Lib.hid (fun v' w' (hk : Keeps w w') (hb : Bytes w' v' l) => decode_any v' l x w' (ht.keep hk) (hs.keep hk) hb hl')
  have HA := Lib.hid (fun w' (hk : Keeps w w') => instrAt_any v l x w' (Arr.keep hv hk) hl')
  obtain ⟨⟨K, D, A, B, N, Lg⟩, n, er, hr⟩ : ∃ i n er, decAns l x = (i, n, er) := ⟨_, _, _, rfl⟩
  rw [hr] at HD HA
  unfold DecAns Ins.v insV at HD HA
  clear hr ht hs hv hl hl'
  go_enter Tryd.func3, Tryd.ntmps3
  go_wp2_with fail
  refine HO.out.mono ?_
  rintro e w1 ⟨v1, rfl, hb1, hk1⟩
  go_wp2_with fail
  refine (HD.out v1 w1 hk1 hb1).mono ?_
  rintro e w2 ⟨rfl, hk2⟩
  clear hb1
  go_wp2_with fail
  refine (HA.out _ ((hk1.trans hk2).trans ((Keeps.refl _).alloc _))).mono ?_
  rintro e w3 ⟨rfl, hk3⟩
  have hb0 : w3.cell? ⟨w2.heap.size, 0, none⟩ = some (.int .i64 K) := hk3.cell (by simp)
  have hb1 : w3.cell? ⟨w2.heap.size, 1, none⟩ = some (.int .i64 D) := hk3.cell (by simp)
  have hb2 : w3.cell? ⟨w2.heap.size, 2, none⟩ = some (.int .i64 A) := hk3.cell (by simp)
  have hb3 : w3.cell? ⟨w2.heap.size, 3, none⟩ = some (.int .i64 B) := hk3.cell (by simp)
  have hb4 : w3.cell? ⟨w2.heap.size, 4, none⟩ = some (.int .i64 N) := hk3.cell (by simp)
  have hb5 : w3.cell? ⟨w2.heap.size, 5, none⟩ = some (.bool Lg) := hk3.cell (by simp)
  have hlt := lt_top hk3
  go_wp2
  go_ret
  exact ⟨by simp, by repeat (with_reducible (first | assumption | exact Keeps.refl _ | refine Keeps.alloc ?_ _ | refine Keeps.drew ?_ | refine Keeps.drewN ?_ _ | refine Keeps.trans ?_ (by assumption)))⟩

theorem own : ownKnob Tryd.prog.godebug = none := by kernel_rfl
theorem laidOut : laidOutB Tryd.prog = true := by kernel_rfl
theorem reads : ∀ t ∈ Tryd.f3.params.toList, Tryd.prog.readableRec t = true ∧ t < Tryd.prog.types.size := by
  intro t ht
  rw [Tryd.params3] at ht
  simp only [List.mem_cons, List.mem_nil_iff, or_false] at ht
  rcases ht with rfl | rfl <;> exact ⟨by kernel_rfl, of_decide_eq_true (by kernel_rfl)⟩

theorem contract (H : Type) (enc : TypeId × Value → H) (W : World) (base : Nat) (args : Array Value) (ds gs : List (DataW H)) (before : List MemPlace)
    (hval : ∀ (j : Nat) t v, Tryd.f3.params[j]? = some t → args[j]? = some v → Value.okWide Tryd.prog W .any base t v)
    (hW : DataW.Whole enc Tryd.prog Tryd.f3.params.toList Rows.isaDecodesSpec.vars false W args.toList ds gs before)
    (hsz : (DataW.weightsEach Tryd.prog (Tryd.f3.params.toList ++ []) (ds ++ gs)).all (· ≤ reachBytes) = true)
    (hL : laidMetH Tryd.prog Rows.isaDecodesRow.laid W) :
    Calls Tryd.prog 3 args W fun e W' => ∃ v, e = .returned v ∧ Rows.isaDecodesSpec.post enc Tryd.prog Tryd.f3 false true false false W args v W' := by
  have hT : Tab W := tab_of_laid hL
  have hS : Siz W := siz_of_laid hL
  have hW' := hW
  obtain ⟨p, q, hA0, hV, rfl, hfz, hnd⟩ := hW
  have hA : DataW.TrodAll enc Tryd.prog W 0 (fun _ => true) true Tryd.f3.params.toList args.toList ds p := hA0
  have hsz' := hsz
  rw [Tryd.params3] at hA hval hsz'
  obtain ⟨v0, v1, d0, d1, p0, p1, hargs, rfl, rfl, h0, h1⟩ := trodAll_two hA
  obtain ⟨rfl, rfl⟩ := trodVars_none hV
  obtain rfl : args = #[v0, v1] := by cases args; simp_all
  obtain ⟨ao0, ln0, cp0, rfl⟩ := okWide_slice Tryd.underlying22 (hval 0 _ v0 rfl rfl)
  obtain ⟨fu0, t0⟩ := h0
  obtain ⟨l, hv, hl⟩ := bytes_open Tryd.underlying22 (by kernel_rfl) Tryd.underlying5 (by kernel_rfl) t0 (fits_each hsz' (j := 0) rfl rfl)
  obtain ⟨x, rfl, -, -, wx⟩ := open_int Tryd.underlying3 (hval 1 _ v1 rfl rfl) h1
  refine (walk _ l x W hT hS hv hl).mono fun e W' ⟨he, hk⟩ => ?_
  subst he
  exact ⟨_, rfl, law_post laidOut reads rfl Tryd.underlying4 rfl rfl rfl rfl hW' hk⟩

/-- A world for the witness: the settled one, the tables holding what their initialisers lay. -/
noncomputable def laidWorld (os : Os) : World :=
  { World.holding Tryd.prog os ⟨#[], #[], []⟩ with heap := (((World.holding Tryd.prog os ⟨#[], #[], []⟩).heap.modify 0 fun
      | .cells _ t frozen => .cells #[.int .u8 0, .int .u8 0, .int .i64 0, .int .u8 0, .int .u8 0, .int .i64 1, .int .u8 1, .int .u8 0, .int .i64 1, .int .u8 2, .int .u8 0, .int .i64 1, .int .u8 3, .int .u8 0, .int .i64 1, .int .u8 16, .int .u8 0, .int .i64 2, .int .u8 17, .int .u8 0, .int .i64 3, .int .u8 32, .int .u8 0, .int .i64 4, .int .u8 33, .int .u8 0, .int .i64 4, .int .u8 34, .int .u8 0, .int .i64 4, .int .u8 35, .int .u8 0, .int .i64 4, .int .u8 36, .int .u8 0, .int .i64 4, .int .u8 37, .int .u8 0, .int .i64 4, .int .u8 38, .int .u8 0, .int .i64 4, .int .u8 48, .int .u8 0, .int .i64 3, .int .u8 49, .int .u8 0, .int .i64 5, .int .u8 64, .int .u8 0, .int .i64 6, .int .u8 65, .int .u8 0, .int .i64 7, .int .u8 80, .int .u8 84, .int .i64 8, .int .u8 81, .int .u8 85, .int .i64 8, .int .u8 82, .int .u8 86, .int .i64 8, .int .u8 83, .int .u8 87, .int .i64 8, .int .u8 96, .int .u8 97, .int .i64 9, .int .u8 98, .int .u8 0, .int .i64 10, .int .u8 99, .int .u8 0, .int .i64 11] t frozen
      | o => o).modify 1 fun
      | .cells _ t frozen => .cells #[.int .i64 0, .int .i64 1, .int .i64 4, .int .i64 3, .int .i64 3, .int .i64 3, .int .i64 2, .int .i64 2, .int .i64 3, .int .i64 2, .int .i64 3, .int .i64 3] t frozen
      | o => o) }
theorem laid_met (os : Os) : laidMet Tryd.prog Rows.isaDecodesRow.laid ((laidWorld os).forCall (fun _ _ => 0) ⟨#[], #[.slice none 0 0, .int .i64 0], []⟩).memory :=
  laidMet_of_run' 8 (by kernel_rfl) (by kernel_rfl)
theorem readsW (os : Os) {H : Type} (enc : TypeId × Value → H) : ∃ places, DataW.whole enc Tryd.prog ((laidWorld os).forCall (fun _ _ => 0) ⟨#[], #[.slice none 0 0, .int .i64 0], []⟩).memory Tryd.f3.params.toList Rows.isaDecodesSpec.vars false (#[.slice none 0 0, .int .i64 0] : Array Value).toList 8 = some ([.nil, .lit (.int .i64 0)], [], places) :=
  ⟨[], by kernel_rfl⟩

theorem lifted (os : Os) (started : os.Started) (H : Type) (enc : TypeId × Value → H) (F : Stop.Interp) :
    ReturnsInHanded {} Tryd.checked os 3 .any ((OpenSpec.ofChange Rows.isaDecodesSpec).preRow enc Tryd.prog Tryd.f3 Rows.isaDecodesRow.domain false Rows.isaDecodesRow.laid) (((OpenSpec.ofChange Rows.isaDecodesSpec).at F).post enc Tryd.prog Tryd.f3 false true false false) := by
  obtain ⟨places, hx⟩ := readsW os enc
  refine returnsInHanded_of_row (C := Tryd.checked) (s := OpenSpec.ofChange Rows.isaDecodesSpec) own started (by kernel_rfl) Tryd.func3
    (witness_row_at (enc := enc) (C := Tryd.checked) false (laidWorld os) #[.slice none 0 0, .int .i64 0] rfl (by kernel_rfl) (by kernel_rfl) (by kernel_rfl)
      (OpenSpec.preRow_of_cond 8 hx (by kernel_rfl) (fun k hk => by cases hk) (by kernel_rfl) (laid_met os))) ?_
  intro W base args ds gs before hval hW hx1 hx2 hx3 hL hx4 hx5
  exact contract H enc W base args ds gs before hval hW (by first | exact hx1 | exact hx2 | exact hx3 | exact hx4 | exact hx5) hL

theorem said : Rows.IsaDecodesSaid :=
  OpenClaim.holds_of_cond 3 Tryd.f3 rfl rfl rfl rfl rfl rfl rfl ⟨rfl, rfl, rfl, rfl, rfl⟩ rfl rfl rfl rfl rfl (by kernel_rfl) Tryd.func3 (by kernel_rfl)
    (of_decide_eq_true (by kernel_rfl)) (by unfold Func.isWrapper; first | (rw [if_pos (by decide +kernel)]; kernel_rfl) | (rw [if_neg (by decide +kernel)]; exact ⟨rfl, rfl⟩))
    (fun os started H enc _ F => by rw [OpenClaim.pre_eq_preRow]; exact lifted os started H enc F)

theorem plain (f : FuncId) (fn : Func) (hf : Tryd.pinned.checked.prog.funcNamed "bolthole/boltholelaw.IsaDecodes" = some f) (hfn : Tryd.pinned.checked.prog.funcs[f]? = some fn) :
    false = Tryd.pinned.checked.prog.looks [] ∧ ∀ (j : Nat) t, fn.params[j]? = some t → Tryd.pinned.checked.prog.wantsStandIn t = false := by
  obtain rfl : f = 3 := Option.some.inj ((show Tryd.prog.funcNamed "bolthole/boltholelaw.IsaDecodes" = some 3 by kernel_rfl).symm.trans hf) |>.symm
  obtain rfl : fn = Tryd.f3 := (Option.some.inj (Tryd.func3.symm.trans hfn)).symm
  refine ⟨by kernel_rfl, fun j t ht => ?_⟩
  rw [Tryd.params3] at ht
  have hm := Array.mem_of_getElem? ht
  simp only [List.mem_toArray, List.mem_cons, List.mem_nil_iff, or_false] at hm
  rcases hm with rfl | rfl
  · exact (show Tryd.prog.wantsStandIn 22 = false by kernel_rfl)
  · exact (show Tryd.prog.wantsStandIn 3 = false by kernel_rfl)

/-- THE CARD -/
theorem card : Rows.IsaDecodesCardSaid :=
  Claim7.holds_tied_plain_at .later [] _ _ _ _ said (fun _ h => by cases h) (by kernel_rfl) (fun _ h => by cases h) isaDecodes_row_tie rfl ⟨rfl, rfl⟩ (by kernel_rfl) rfl plain (by kernel_rfl)
end Go.Proofs.YtpgifkhgefbnfaaDoor.isaDecodes
