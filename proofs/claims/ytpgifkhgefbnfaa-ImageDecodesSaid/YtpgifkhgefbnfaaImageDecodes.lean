/-
  The law ImageDecodes, for all bytes: image.Decode answers what the document's ImageOf answers. No condition.
-/
import Derived.Test.YtpgifkhgefbnfaaRows
import Derived.Test.YtpgifkhgefbnfaaDecode
import Derived.Test.YtpgifkhgefbnfaaImageOf
import Derived.Test.YtpgifkhgefbnfaaSame
import Derived.Test.YtpgifkhgefbnfaaImgOpen
namespace Go.Proofs.Ytpgifkhgefbnfaa.imageDecodes
open Go.ChangeShapes Go.WideShapes Go.ChangeAt Go.RowKit BH

set_option maxHeartbeats 1000000
set_option maxRecDepth 100000
theorem octets_any (v : Value) (l : List UInt8) (w : World) (hv : Bytes w v l) (hl : l.length ≤ 140737488355328) :
    Calls Try.prog 12 #[v] w (Gives (fun v' w' => Bytes w' v' l) w) := by
  have HV := Lib.hid hv
  obtain ⟨ao, cap, rfl, -⟩ := hv
  go_enter Try.func12, Try.ntmps12
  go_wp2_with (at_builtin; refine wpList_copy_nil rfl (.tmp 3) 22 rfl Try.underlying22 info_u8 rfl (by decide) rfl HV.out ?c1 (by omega) ?_)
  case c1 =>
    intro i j hi hj
    match j, hj with
    | 0, _ => rfl
  intro v' w1 harr _ hk1
  go_wp2
  go_ret
  exact ⟨_, rfl, harr, hk1⟩
theorem walk (v : Value) (l : List UInt8) (w : World) (hv : Bytes w v l) (hl : l.length ≤ reachBytes) :
    Calls Try.prog 4 #[v] w fun e w' => e = .returned (.bool true) ∧ Keeps w w' := by
  have hl' : l.length ≤ 140737488355328 := Nat.le_trans hl (by decide)
  have HO := Lib.hid (octets_any v l w hv hl')
  have HV := Lib.hid hv
  obtain ⟨m, er, hr⟩ : ∃ m er, decImg l = (m, er) := ⟨_, _, rfl⟩
  have h1 := fun v w hv => decode_any v l w hv
  have h2 := fun v w hv => imageOf_any v l w hv
  rw [hr] at h1 h2
  have H1 := Lib.hid h1
  have H2 := Lib.hid h2
  clear hr h1 h2 hl hl' hv
  go_enter Try.func4, Try.ntmps4
  go_wp2_with fail
  refine HO.out.mono ?_
  rintro e w1 ⟨v1, rfl, hb1, hk1⟩
  go_wp2_with fail
  refine (H1.out v1 w1 hb1).mono ?_
  rintro e w2 ⟨va, rfl, ha, hk2⟩
  have HA := Lib.hid ha
  obtain ⟨k0, k1, k2, k3, k4, rfl, y0, y1, ⟨tv, y2, -⟩, y3, y4⟩ := ha
  obtain ⟨pa0, pc0, rfl⟩ := Arr.form y0
  obtain ⟨pa1, pc1, rfl⟩ := Arr.form y1
  obtain ⟨pa2, pc2, rfl⟩ := Arr.form y2
  obtain ⟨pa3, pc3, rfl⟩ := Arr.form y3
  obtain ⟨pa4, pc4, rfl⟩ := Arr.form y4
  clear y0 y1 y2 y3 y4 hb1
  go_wp2_with fail
  refine (H2.out v _ (HV.out.keep ((hk1.trans hk2).trans ((Keeps.refl _).alloc _)))).mono ?_
  rintro e w3 ⟨vb, rfl, hb, hk3⟩
  have hB := blk_after hk3
  have i0 := hB.cell (j := 0) rfl
  have i1 := hB.cell (j := 1) rfl
  have i2 := hB.cell (j := 2) rfl
  have i3 := hB.cell (j := 3) rfl
  have i4 := hB.cell (j := 4) rfl
  have i5 := hB.cell (j := 5) rfl
  have hlt := hB.lt
  have HB := Lib.hid hb
  obtain ⟨k0, k1, k2, k3, k4, rfl, y0, y1, ⟨tv, y2, -⟩, y3, y4⟩ := hb
  obtain ⟨qa0, qc0, rfl⟩ := Arr.form y0
  obtain ⟨qa1, qc1, rfl⟩ := Arr.form y1
  obtain ⟨qa2, qc2, rfl⟩ := Arr.form y2
  obtain ⟨qa3, qc3, rfl⟩ := Arr.form y3
  obtain ⟨qa4, qc4, rfl⟩ := Arr.form y4
  have hk13 : Keeps w2 w3 := ((Keeps.refl _).alloc _).trans hk3
  clear y0 y1 y2 y3 y4 hB
  go_wp2_with (go_at_call 10; refine (sameImage_yes _ _ m _ (HA.out.keep (hk13.trans ((Keeps.refl _).alloc _))) (HB.out.keep ((Keeps.refl _).alloc _))).mono ?_; rintro e w4 ⟨rfl, hk4⟩)
  go_ret
  exact ⟨by simp, ((hk1.trans hk2).trans (hk13.trans ((Keeps.refl _).alloc _))).trans hk4⟩

theorem own : ownKnob Try.prog.godebug = none := by kernel_rfl
theorem laidOut : laidOutB Try.prog = true := by kernel_rfl
theorem reads : ∀ t ∈ Try.f4.params.toList, Try.prog.readableRec t = true ∧ t < Try.prog.types.size := by
  intro t ht
  rw [Try.params4] at ht
  simp only [List.mem_cons, List.mem_nil_iff, or_false] at ht
  subst ht
  exact ⟨by kernel_rfl, of_decide_eq_true (by kernel_rfl)⟩

theorem lifted (os : Os) (started : os.Started) (H : Type) (enc : TypeId × Value → H) :
    ReturnsInHanded {} Try.checked os 4 .any (Rows.imageDecodesSpec.pre6 enc Try.prog Try.f4 Rows.imageDecodesRow.domain false) (Rows.imageDecodesSpec.post enc Try.prog Try.f4 false true false false) := by
  refine returnsInHanded_of_change_sized (C := Try.checked) own started (by kernel_rfl) Try.func4
    (ChangeSpec.witness6 (enc := enc) (C := Try.checked) false ⟨#[], #[.slice none 0 0], []⟩ 8 (by kernel_rfl) (by kernel_rfl) (by kernel_rfl) (by kernel_rfl)) ?_
  intro W base args ds gs before hval0 hW _ hsz _
  have hval : ∀ (j : Nat) t v, Try.f4.params[j]? = some t → args[j]? = some v → Value.okWide Try.prog W .any base t v := hval0
  have hsz' : (DataW.weightsEach Try.prog (Try.f4.params.toList ++ []) (ds ++ gs)).all (· ≤ reachBytes) = true := hsz
  have hW' := hW
  obtain ⟨p, q, hA0, hV, rfl, hfz, hnd⟩ := hW
  have hA : DataW.TrodAll enc Try.prog W 0 (fun _ => true) true Try.f4.params.toList args.toList ds p := hA0
  rw [Try.params4] at hA hval hsz'
  obtain ⟨v0, d0, hargs, rfl, h0⟩ := trodAll_one hA
  obtain ⟨rfl, rfl⟩ := trodVars_none hV
  obtain rfl : args = #[v0] := by cases args; simp_all
  obtain ⟨ao0, ln0, cp0, rfl⟩ := okWide_slice Try.underlying22 (hval 0 _ v0 rfl rfl)
  obtain ⟨fu0, t0⟩ := h0
  obtain ⟨l, hv, hl⟩ := bytes_open Try.underlying22 (by kernel_rfl) Try.underlying5 (by kernel_rfl) t0 (fits_each hsz' (j := 0) rfl rfl)
  refine (walk _ l W hv hl).mono fun e W' ⟨he, hk⟩ => ?_
  subst he
  exact ⟨_, rfl, law_post laidOut reads rfl Try.underlying4 rfl rfl rfl rfl hW' hk⟩

theorem holds : Rows.ImageDecodesSaid :=
  OpenClaim.holds_of_wide 4 Try.f4 rfl rfl rfl rfl rfl rfl rfl ⟨rfl, rfl, rfl, rfl, rfl⟩ rfl rfl rfl rfl rfl (by kernel_rfl) Try.func4 (by kernel_rfl)
    (of_decide_eq_true (by kernel_rfl)) (by unfold Func.isWrapper; first | (rw [if_pos (by decide +kernel)]; kernel_rfl) | (rw [if_neg (by decide +kernel)]; exact ⟨rfl, rfl⟩))
    (fun os started H enc _ => lifted os started H enc)
end Go.Proofs.Ytpgifkhgefbnfaa.imageDecodes
