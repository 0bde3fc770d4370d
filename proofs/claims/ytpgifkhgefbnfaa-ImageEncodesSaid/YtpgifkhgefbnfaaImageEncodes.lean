/-
  The law ImageEncodes, for every image: image.Encode of a copy answers what the document's ImageBytes answers, and the copy is still the same. No condition.
-/
import Derived.Test.YtpgifkhgefbnfaaRows
import Derived.Test.YtpgifkhgefbnfaaRefCopy
import Derived.Test.YtpgifkhgefbnfaaBytesRef
import Derived.Test.YtpgifkhgefbnfaaSame
import Derived.Test.YtpgifkhgefbnfaaImgOpen
import Derived.Laws.IdiomStrings
import Derived.Lib.BufferRead
namespace Go.Proofs.Ytpgifkhgefbnfaa.imageEncodes
open Go.ChangeShapes Go.WideShapes Go.ChangeAt Go.RowKit BH

set_option maxHeartbeats 1000000
set_option maxRecDepth 100000
/-- 'string(b)', b a slice of bytes that read as numbers: the string is the same wherever they lie -/
theorem run_string_octs {P : Program} {w : World} {v : Value} {l : List Int} (h : Octs w v l) (hb : ∀ x ∈ l, 0 ≤ x ∧ x < 256) {src dst e : TypeId} (hs : P.underlying src = some (.slice e)) (he : P.underlying e = some (.int .u8)) (hd : P.underlying dst = some .string) :
    (convert src dst v).run P w = .ok (.string ⟨(l.map fun x => UInt8.ofNat x.toNat).toArray⟩) w := by
  obtain ⟨ao, cap, rfl, -, -, -, hc⟩ := h
  cases ao with
  | none =>
    have hl : l = [] := by
      cases l with
      | nil => rfl
      | cons x r => obtain ⟨b, off, hab, _⟩ := hc (by simp); cases hab
    subst hl
    exact Lib.run_convert_nil_bytes w src dst e cap hs he hd
  | some a =>
    have hlen : l.length = (l.map fun x => UInt8.ofNat x.toNat).length := by simp
    rw [hlen]
    refine run_convert_bytes_back w src dst e a cap (l.map fun x => UInt8.ofNat x.toNat) hs he hd fun j hj => ?_
    have hj' : j < l.length := by simpa using hj
    obtain ⟨b, off, hab, hcell⟩ := hc (by omega)
    cases hab
    have h0 : w.cell? ⟨b, off + j * 1 + 0, none⟩ = some (.int .u8 (nth l j)) := hcell j 0 hj' (by omega)
    rw [nth_eq l j hj'] at h0
    have hbd := hb l[j] (List.getElem_mem hj')
    have hval : (((l.map fun x => UInt8.ofNat x.toNat)[j]).toNat : Int) = l[j] := by
      rw [List.getElem_map, UInt8.toNat_ofNat']
      omega
    rw [hval, ← h0]
    unfold Addr.add
    split
    · rename_i hz; subst hz; simp
    · simp
theorem small {m : Img} (h : ImgOk m) : ImgSmall m := by
  have hr : reachBytes ≤ 140737488355328 := by decide
  refine ⟨by have := h.text; omega, by have := h.funsN; omega, fun t ht => ?_, by have := h.tabsN; omega, by have := h.dataN; omega, by have := h.linesN; omega⟩
  obtain ⟨i, hi, he⟩ := List.getElem_of_mem ht
  have := (h.tabs i hi).2
  rw [nth_eq _ _ hi, he] at this
  omega
/-- both answer the same bytes and number -/
theorem answers (m : Img) : ∃ (l : List Int) (er : Int), (∀ x ∈ l, 0 ≤ x ∧ x < 256) ∧
    (∀ v w, ImgAt w v m → Calls Try.prog 8 #[v] w (GivesN (fun v' w' => Octs w' v' l) er w)) ∧
    (∀ v w, ImgAt w v m → Calls Try.prog 9 #[v] w (GivesN (fun v' w' => Octs w' v' l) er w)) := by
  by_cases h : imgFault m = 0
  · exact ⟨_, 0, imgB_bd m, fun v w hv => encode_ok v m w hv h, fun v w hv => imageBytes_ok v m w hv h⟩
  · exact ⟨_, _, by simp, fun v w hv => encode_bad v m w hv h, fun v w hv => imageBytes_bad v m w hv h⟩
theorem walk (v : Value) (m : Img) (w : World) (hv : ImgAt w v m) (hok : ImgOk m) :
    Calls Try.prog 3 #[v] w fun e w' => e = .returned (.bool true) ∧ Keeps w w' := by
  obtain ⟨l, er, hd, h1, h2⟩ := answers m
  have H1 := Lib.hid h1
  have H2 := Lib.hid h2
  have HD := Lib.hid hd
  have HS := Lib.hid (small hok)
  have HV := Lib.hid hv
  clear h1 h2 hok hd
  obtain ⟨v0, v1, v2, v3, v4, rfl, -⟩ := hv
  go_enter Try.func3, Try.ntmps3
  go_wp2_with fail
  refine (imageCopy_any _ m _ (HV.out.keep ((Keeps.refl w).alloc _)) HS.out).mono ?_
  rintro e w1 ⟨vk, rfl, hk, hk1⟩
  have hkw : Keeps w w1 := ((Keeps.refl w).alloc _).trans hk1
  have b0 : w1.cell? ⟨w.heap.size, 0, none⟩ = some v0 := hk1.cell (by simp)
  have b1 : w1.cell? ⟨w.heap.size, 1, none⟩ = some v1 := hk1.cell (by simp)
  have b2 : w1.cell? ⟨w.heap.size, 2, none⟩ = some v2 := hk1.cell (by simp)
  have b3 : w1.cell? ⟨w.heap.size, 3, none⟩ = some v3 := hk1.cell (by simp)
  have b4 : w1.cell? ⟨w.heap.size, 4, none⟩ = some v4 := hk1.cell (by simp)
  have b5 : w1.cell? ⟨w.heap.size, 5, none⟩ = some (.int .i64 m.Entry) := hk1.cell (by simp)
  have hlt := hkw.size
  have hlt2 := lt_top hk1
  have HK := Lib.hid hk
  obtain ⟨k0, k1, k2, k3, k4, rfl, y0, y1, ⟨tv, y2, -⟩, y3, y4⟩ := hk
  obtain ⟨a0, c0, rfl⟩ := Arr.form y0
  obtain ⟨a1, c1, rfl⟩ := Arr.form y1
  obtain ⟨a2, c2, rfl⟩ := Arr.form y2
  obtain ⟨a3, c3, rfl⟩ := Arr.form y3
  obtain ⟨a4, c4, rfl⟩ := Arr.form y4
  clear y0 y1 y2 y3 y4
  go_wp2_with fail
  refine (H1.out _ _ (HK.out.keep ((Keeps.refl _).alloc _))).mono ?_
  rintro e w2 ⟨va, rfl, ha, hk2⟩
  have hB := blk_after hk2
  have i0 := hB.cell (j := 0) rfl
  have i1 := hB.cell (j := 1) rfl
  have i2 := hB.cell (j := 2) rfl
  have i3 := hB.cell (j := 3) rfl
  have i4 := hB.cell (j := 4) rfl
  have i5 := hB.cell (j := 5) rfl
  have hk12 : Keeps w1 w2 := ((Keeps.refl _).alloc _).trans hk2
  have b0 := hk12.cell b0
  have b1 := hk12.cell b1
  have b2 := hk12.cell b2
  have b3 := hk12.cell b3
  have b4 := hk12.cell b4
  have b5 := hk12.cell b5
  have HA := Lib.hid ha
  clear ha hB
  go_wp2_with fail
  refine (H2.out _ _ (HV.out.keep (hkw.trans hk12))).mono ?_
  rintro e w3 ⟨vb, rfl, hb, hk3⟩
  have e1 := run_string_octs (P := Try.prog) (Arr.keep HA.out hk3) HD.out Try.underlying22 Try.underlying5 Try.underlying9
  have e2 := run_string_octs (P := Try.prog) hb HD.out Try.underlying22 Try.underlying5 Try.underlying9
  have b0 := hk3.cell b0
  have b1 := hk3.cell b1
  have b2 := hk3.cell b2
  have b3 := hk3.cell b3
  have b4 := hk3.cell b4
  have b5 := hk3.cell b5
  have i0 := hk3.cell i0
  have i1 := hk3.cell i1
  have i2 := hk3.cell i2
  have i3 := hk3.cell i3
  have i4 := hk3.cell i4
  have i5 := hk3.cell i5
  clear hb
  go_wp2_with (go_at_call 10; refine (sameImage_yes _ _ m _ (HK.out.keep (hk12.trans hk3)) (HV.out.keep ((hkw.trans hk12).trans hk3))).mono ?_; rintro e w4 ⟨rfl, hk4⟩)
  go_ret
  exact ⟨by simp, ((hkw.trans hk12).trans hk3).trans hk4⟩

theorem own : ownKnob Try.prog.godebug = none := by kernel_rfl
theorem laidOut : laidOutB Try.prog = true := by kernel_rfl
theorem reads : ∀ t ∈ Try.f3.params.toList, Try.prog.readableRec t = true ∧ t < Try.prog.types.size := by
  intro t ht
  rw [Try.params3] at ht
  simp only [List.mem_cons, List.mem_nil_iff, or_false] at ht
  subst ht
  exact ⟨by kernel_rfl, of_decide_eq_true (by kernel_rfl)⟩

theorem lifted (os : Os) (started : os.Started) (H : Type) (enc : TypeId × Value → H) :
    ReturnsInHanded {} Try.checked os 3 .any (Rows.imageEncodesSpec.pre6 enc Try.prog Try.f3 Rows.imageEncodesRow.domain false) (Rows.imageEncodesSpec.post enc Try.prog Try.f3 false true false false) := by
  refine returnsInHanded_of_change_sized (C := Try.checked) own started (by kernel_rfl) Try.func3
    (ChangeSpec.witness6 (enc := enc) (C := Try.checked) false ⟨#[], #[.agg #[.slice none 0 0, .slice none 0 0, .slice none 0 0, .slice none 0 0, .slice none 0 0, .int .i64 0]], []⟩ 8 (by kernel_rfl) (by kernel_rfl) (by kernel_rfl) (by kernel_rfl)) ?_
  intro W base args ds gs before hval0 hW _ hsz _
  have hval : ∀ (j : Nat) t v, Try.f3.params[j]? = some t → args[j]? = some v → Value.okWide Try.prog W .any base t v := hval0
  have hsz' : (DataW.weightsEach Try.prog (Try.f3.params.toList ++ []) (ds ++ gs)).all (· ≤ reachBytes) = true := hsz
  have hW' := hW
  obtain ⟨p, q, hA0, hV, rfl, hfz, hnd⟩ := hW
  have hA : DataW.TrodAll enc Try.prog W 0 (fun _ => true) true Try.f3.params.toList args.toList ds p := hA0
  rw [Try.params3] at hA hval hsz'
  obtain ⟨v0, d0, hargs, rfl, h0⟩ := trodAll_one hA
  obtain ⟨rfl, rfl⟩ := trodVars_none hV
  obtain rfl : args = #[v0] := by cases args; simp_all
  obtain ⟨m, hm, ok⟩ := img_open (hval 0 _ v0 rfl rfl) h0 (fits_each hsz' (j := 0) rfl rfl)
  refine (walk _ m W hm ok).mono fun e W' ⟨he, hk⟩ => ?_
  subst he
  exact ⟨_, rfl, law_post laidOut reads rfl Try.underlying4 rfl rfl rfl rfl hW' hk⟩

theorem holds : Rows.ImageEncodesSaid :=
  OpenClaim.holds_of_wide 3 Try.f3 rfl rfl rfl rfl rfl rfl rfl ⟨rfl, rfl, rfl, rfl, rfl⟩ rfl rfl rfl rfl rfl (by kernel_rfl) Try.func3 (by kernel_rfl)
    (of_decide_eq_true (by kernel_rfl)) (by unfold Func.isWrapper; first | (rw [if_pos (by decide +kernel)]; kernel_rfl) | (rw [if_neg (by decide +kernel)]; exact ⟨rfl, rfl⟩))
    (fun os started H enc _ => lifted os started H enc)
end Go.Proofs.Ytpgifkhgefbnfaa.imageEncodes
