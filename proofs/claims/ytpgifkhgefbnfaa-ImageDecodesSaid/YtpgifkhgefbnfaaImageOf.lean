/-
  The document's ImageOf: the image that the bytes tell, or what is wrong.
-/
import Derived.Test.YtpgifkhgefbnfaaDecOpen
import Derived.Test.YtpgifkhgefbnfaaTapeNum
import Derived.Test.YtpgifkhgefbnfaaImgFault
import Derived.Test.YtpgifkhgefbnfaaFlowCore
import Derived.Deep.DeepCutAuto
import Derived.Deep.CutBlock
import Derived.Deep.RegionLaw
import Derived.Deep.QuietTactic
import Derived.BigQuiet
namespace Go.Proofs.Ytpgifkhgefbnfaa
open Go.RowKit BH
set_option maxHeartbeats 4000000
set_option maxRecDepth 100000
theorem TpAt.lt {W0 w : World} {g : Nat} {l0 : List UInt8} {p : PS} (h : TpAt W0 g l0 p w) : g < w.heap.size := by
  obtain ⟨_, _, _, _, hb, _⟩ := h
  exact hb.lt
theorem take_sign {l : List UInt8} {i : Nat} (h : i < l.length) (ht : l.take i = sign.take i) (hx : nth l i = nth sign i) (hs : i < sign.length := by decide) : l.take (i + 1) = sign.take (i + 1) := by
  rw [List.take_succ_eq_append_getElem h, List.take_succ_eq_append_getElem hs, ht, ← nth_eq l i h, ← nth_eq sign i hs, hx]
theorem sign_bad {l : List UInt8} (j : Nat) (hj : j < 4) (hl : j < l.length) (hx : nth l j ≠ nth sign j) : l.take 4 ≠ sign.take l.length := by
  intro e
  apply hx
  have h1 : (l.take 4)[j]? = (sign.take l.length)[j]? := by rw [e]
  rw [List.getElem?_take_of_lt hj, List.getElem?_take_of_lt hl] at h1
  rw [List.getElem?_eq_getElem hl, List.getElem?_eq_getElem (show j < sign.length from hj)] at h1
  rw [nth_eq l j hl, nth_eq sign j hj]
  injection h1
theorem imageOf_any (v : Value) (l : List UInt8) (w : World) (hv : Bytes w v l) :
    Calls Try.prog 13 #[v] w (GivesN (fun v' w' => ImgAt w' v' (decImg l).1) (decImg l).2 w) := by
  obtain ⟨av, cv, e, q1, q2, q3, q4⟩ := id hv
  subst e
  unfold maxLen at q2
  generalize hD : decImg l = R
  obtain ⟨mi, er⟩ := R
  have HD := Lib.hid hD
  clear hD
  dsimp only
  obtain ⟨W, hW, hB0, hkW⟩ : ∃ W : World, W = w.alloc (.cells #[.slice none 0 0, .slice none 0 0, .slice none 0 0, .slice none 0 0, .slice none 0 0, .int .i64 0] 28) ∧ Blk W w.heap.size (.cells #[.slice none 0 0, .slice none 0 0, .slice none 0 0, .slice none 0 0, .slice none 0 0, .int .i64 0] 28) ∧ Keeps w W := ⟨_, rfl, Blk.top _ _, (Keeps.refl w).alloc _⟩
  have HW := Lib.hid hW
  have HB0 := Lib.hid hB0
  have HKW := Lib.hid hkW
  have hsz : w.heap.size < W.heap.size := by rw [hW, sz_alloc]; exact Nat.lt_succ_self _
  have d0 := (hB0).cell (j := 0) rfl
  have d1 := (hB0).cell (j := 1) rfl
  have d2 := (hB0).cell (j := 2) rfl
  have d3 := (hB0).cell (j := 3) rfl
  have d4 := (hB0).cell (j := 4) rfl
  have d5 := (hB0).cell (j := 5) rfl
  have u0 := (hB0).thawed 0
  have u1 := (hB0).thawed 1
  have u2 := (hB0).thawed 2
  have u3 := (hB0).thawed 3
  have u4 := (hB0).thawed 4
  have u5 := (hB0).thawed 5
  have hV : Bytes W _ l := Arr.keep hv hkW
  have HV := Lib.hid hV
  have HC : Hid (0 < l.length → ∃ b off, av = some ⟨b, off, none⟩ ∧ ∀ i j, i < l.length → j < 1 → W.cell? ⟨b, off + i * 1 + j, none⟩ = some (.int .u8 ((nth l i).toNat : Int))) := by
    obtain ⟨a, c, e, _, _, _, h⟩ := hV
    cases e
    exact Lib.hid h
  clear hW hB0 hkW hv q4 hV
  go_enter Try.func13, Try.ntmps13
  go_upto_region 1 with fail
  rw [← HW.out]
  clear HW
  by_cases hbig : 100000 < l.length
  · have hx := HD.out.symm.trans (dec_big hbig)
    injection hx with hx1 hx2
    subst hx1 hx2
    go_wp2_with fail
    obtain ⟨wf, hwf⟩ : ∃ wf : World, wf = ((((((((((((W).setCell ⟨w.heap.size, 0, none⟩ (.slice none 0 0))).setCell ⟨w.heap.size, 1, none⟩ (.slice none 0 0))).setCell ⟨w.heap.size, 2, none⟩ (.slice none 0 0))).setCell ⟨w.heap.size, 3, none⟩ (.slice none 0 0))).setCell ⟨w.heap.size, 4, none⟩ (.slice none 0 0))).setCell ⟨w.heap.size, 5, none⟩ (.int .i64 0)) := ⟨_, rfl⟩
    rw [← hwf]
    obtain ⟨hBf, hgf⟩ := put6 (HB0.out) _ _ _ _ _ _ hwf
    have HK := Lib.hid (keeps_put (HKW.out) (Nat.le_refl _) hgf)
    have HGF := Lib.hid hgf
    have e0 := (hBf).cell (j := 0) rfl
    have e1 := (hBf).cell (j := 1) rfl
    have e2 := (hBf).cell (j := 2) rfl
    have e3 := (hBf).cell (j := 3) rfl
    have e4 := (hBf).cell (j := 4) rfl
    have e5 := (hBf).cell (j := 5) rfl
    clear hwf hBf hgf
    exact bodyPost_ret (v := .tuple #[.agg #[.slice none 0 0, .slice none 0 0, .slice none 0 0, .slice none 0 0, .slice none 0 0, .int .i64 0], .int .i64 1]) (by simp [results, Try.results13, go_sem, e0, e1, e2, e3, e4, e5]) rfl ⟨_, rfl, zimg_at _, HK.out⟩
  · have hlb : l.length ≤ 100000 := by omega
    clear hbig u0 u1 u2 u3 u4 u5 d0 d1 d2 d3 d4 d5
    obtain ⟨Wa, hWa⟩ : ∃ Wa : World, Wa = W := ⟨_, rfl⟩
    subst hWa
    go_wp2_with fail
    go_loopw [4] (fun s4 wr => ∃ i : Nat, i ≤ 4 ∧ i ≤ l.length ∧ s4 = .int .i64 i ∧ Hid (l.take i = sign.take i) ∧ Keeps Wa wr) (fun s4 _ => 4 - (intOf s4).toNat)
    case atStart => exact ⟨0, by omega, by omega, rfl, Lib.hid rfl, Keeps.refl _⟩
    case round =>
      obtain ⟨i, hi, hi1, rfl, HT, hkr⟩ := hrel
      rcases (show i = 0 ∨ i = 1 ∨ i = 2 ∨ i = 3 ∨ i = 4 by omega) with rfl | rfl | rfl | rfl | rfl
      · have hj := hi1
        by_cases hlt : 0 < l.length
        · obtain ⟨b, off, e, hc⟩ := HC.out (by omega)
          cases e
          have c0 : wr.cell? ⟨b, off, none⟩ = some (.int .u8 ((nth l 0).toNat : Int)) := Keeps.cell hkr (by simpa using hc 0 0 (by omega) (by omega))
          have hbd := byte_bd (nth l 0)
          have hmb : ((⟨#[98, 104, 49, 10]⟩ : ByteArray)[0]'(by decide)).toNat = 98 := by first | rfl | decide
          have hne : ¬ (l = []) := by intro e; rw [e] at hlt; exact absurd hlt (Nat.lt_irrefl _)
          have hbd0 : (0 : Int) ≤ ((nth l 0).toNat : Int) := by omega
          by_cases hx : nth l 0 = 98
          · have te : (((nth l 0).toNat : Int) == 98) = true := by rw [hx]; rfl
            have HX := Lib.hid hx
            have HKr := Lib.hid hkr
            clear hx hc hkr
            go_wp2_with fail
            go_quiet (fail)
            go_wp2_with fail
            go_roundw
            case rel => exact ⟨1, by omega, hlt, rfl, Lib.hid (take_sign hlt HT.out HX.out), HKr.out.drewN nq⟩
            case measure => simp [intOf]
          · have te : (((nth l 0).toNat : Int) == 98) = false := by
              have : (nth l 0).toNat ≠ 98 := fun e => hx (by apply UInt8.toNat_inj.mp; rw [e]; rfl)
              simp; omega
            have hxx := HD.out.symm.trans (dec_sign (by omega) (sign_bad 0 (by omega) hlt (by rw [show nth sign 0 = 98 from rfl]; exact hx)))
            injection hxx with hx1 hx2
            subst hx1 hx2
            have HKr := Lib.hid hkr
            clear hx hc hkr
            go_wp2_with fail
            go_quiet (fail)
            have hBz := HB0.out.keep (HKr.out.drewN nq)
            have d0 := (hBz).cell (j := 0) rfl
            have d1 := (hBz).cell (j := 1) rfl
            have d2 := (hBz).cell (j := 2) rfl
            have d3 := (hBz).cell (j := 3) rfl
            have d4 := (hBz).cell (j := 4) rfl
            have d5 := (hBz).cell (j := 5) rfl
            have u0 := (hBz).thawed 0
            have u1 := (hBz).thawed 1
            have u2 := (hBz).thawed 2
            have u3 := (hBz).thawed 3
            have u4 := (hBz).thawed 4
            have u5 := (hBz).thawed 5
            have hzs : w.heap.size < (wr.drewN nq).heap.size := hBz.lt
            clear hBz
            go_wp2_with fail
            obtain ⟨wf, hwf⟩ : ∃ wf : World, wf = (((((((((((((wr.drewN nq)).setCell ⟨w.heap.size, 0, none⟩ (.slice none 0 0))).setCell ⟨w.heap.size, 1, none⟩ (.slice none 0 0))).setCell ⟨w.heap.size, 2, none⟩ (.slice none 0 0))).setCell ⟨w.heap.size, 3, none⟩ (.slice none 0 0))).setCell ⟨w.heap.size, 4, none⟩ (.slice none 0 0))).setCell ⟨w.heap.size, 5, none⟩ (.int .i64 0)) := ⟨_, rfl⟩
            rw [← hwf]
            obtain ⟨hBf, hgf⟩ := put6 (HB0.out.keep (HKr.out.drewN nq)) _ _ _ _ _ _ hwf
            have HK := Lib.hid (keeps_put (HKW.out.trans (HKr.out.drewN nq)) (Nat.le_refl _) hgf)
            have HGF := Lib.hid hgf
            have e0 := (hBf).cell (j := 0) rfl
            have e1 := (hBf).cell (j := 1) rfl
            have e2 := (hBf).cell (j := 2) rfl
            have e3 := (hBf).cell (j := 3) rfl
            have e4 := (hBf).cell (j := 4) rfl
            have e5 := (hBf).cell (j := 5) rfl
            clear hwf hBf hgf
            exact bodyPost_ret (v := .tuple #[.agg #[.slice none 0 0, .slice none 0 0, .slice none 0 0, .slice none 0 0, .slice none 0 0, .int .i64 0], .int .i64 4]) (by simp [results, Try.results13, go_sem, e0, e1, e2, e3, e4, e5]) rfl ⟨_, rfl, zimg_at _, HK.out⟩
        · obtain rfl : l = [] := List.length_eq_zero_iff.mp (by omega)
          have hxx := HD.out.symm.trans (dec_few (l := []) (by simp) rfl (by simp))
          injection hxx with hx1 hx2
          subst hx1 hx2
          have HKr := Lib.hid hkr
          clear hkr
          have hBz := HB0.out.keep HKr.out
          have d0 := (hBz).cell (j := 0) rfl
          have d1 := (hBz).cell (j := 1) rfl
          have d2 := (hBz).cell (j := 2) rfl
          have d3 := (hBz).cell (j := 3) rfl
          have d4 := (hBz).cell (j := 4) rfl
          have d5 := (hBz).cell (j := 5) rfl
          have u0 := (hBz).thawed 0
          have u1 := (hBz).thawed 1
          have u2 := (hBz).thawed 2
          have u3 := (hBz).thawed 3
          have u4 := (hBz).thawed 4
          have u5 := (hBz).thawed 5
          have hzs : w.heap.size < wr.heap.size := hBz.lt
          clear hBz
          go_wp2_with fail
          obtain ⟨wf, hwf⟩ : ∃ wf : World, wf = ((((((((((((wr).setCell ⟨w.heap.size, 0, none⟩ (.slice none 0 0))).setCell ⟨w.heap.size, 1, none⟩ (.slice none 0 0))).setCell ⟨w.heap.size, 2, none⟩ (.slice none 0 0))).setCell ⟨w.heap.size, 3, none⟩ (.slice none 0 0))).setCell ⟨w.heap.size, 4, none⟩ (.slice none 0 0))).setCell ⟨w.heap.size, 5, none⟩ (.int .i64 0)) := ⟨_, rfl⟩
          rw [← hwf]
          obtain ⟨hBf, hgf⟩ := put6 (HB0.out.keep HKr.out) _ _ _ _ _ _ hwf
          have HK := Lib.hid (keeps_put (HKW.out.trans HKr.out) (Nat.le_refl _) hgf)
          have HGF := Lib.hid hgf
          have e0 := (hBf).cell (j := 0) rfl
          have e1 := (hBf).cell (j := 1) rfl
          have e2 := (hBf).cell (j := 2) rfl
          have e3 := (hBf).cell (j := 3) rfl
          have e4 := (hBf).cell (j := 4) rfl
          have e5 := (hBf).cell (j := 5) rfl
          clear hwf hBf hgf
          exact bodyPost_ret (v := .tuple #[.agg #[.slice none 0 0, .slice none 0 0, .slice none 0 0, .slice none 0 0, .slice none 0 0, .int .i64 0], .int .i64 5]) (by simp [results, Try.results13, go_sem, e0, e1, e2, e3, e4, e5]) rfl ⟨_, rfl, zimg_at _, HK.out⟩
      · have hj := hi1
        by_cases hlt : 1 < l.length
        · obtain ⟨b, off, e, hc⟩ := HC.out (by omega)
          cases e
          have c0 : wr.cell? ⟨b, off + 1, none⟩ = some (.int .u8 ((nth l 1).toNat : Int)) := Keeps.cell hkr (by simpa using hc 1 0 (by omega) (by omega))
          have hbd := byte_bd (nth l 1)
          have hmb : ((⟨#[98, 104, 49, 10]⟩ : ByteArray)[1]'(by decide)).toNat = 104 := by first | rfl | decide
          have hbd0 : (0 : Int) ≤ ((nth l 1).toNat : Int) := by omega
          by_cases hx : nth l 1 = 104
          · have te : (((nth l 1).toNat : Int) == 104) = true := by rw [hx]; rfl
            have HX := Lib.hid hx
            have HKr := Lib.hid hkr
            clear hx hc hkr
            go_wp2_with fail
            go_quiet (fail)
            go_wp2_with fail
            go_roundw
            case rel => exact ⟨2, by omega, hlt, rfl, Lib.hid (take_sign hlt HT.out HX.out), HKr.out.drewN nq⟩
            case measure => simp [intOf]
          · have te : (((nth l 1).toNat : Int) == 104) = false := by
              have : (nth l 1).toNat ≠ 104 := fun e => hx (by apply UInt8.toNat_inj.mp; rw [e]; rfl)
              simp; omega
            have hxx := HD.out.symm.trans (dec_sign (by omega) (sign_bad 1 (by omega) hlt (by rw [show nth sign 1 = 104 from rfl]; exact hx)))
            injection hxx with hx1 hx2
            subst hx1 hx2
            have HKr := Lib.hid hkr
            clear hx hc hkr
            go_wp2_with fail
            go_quiet (fail)
            have hBz := HB0.out.keep (HKr.out.drewN nq)
            have d0 := (hBz).cell (j := 0) rfl
            have d1 := (hBz).cell (j := 1) rfl
            have d2 := (hBz).cell (j := 2) rfl
            have d3 := (hBz).cell (j := 3) rfl
            have d4 := (hBz).cell (j := 4) rfl
            have d5 := (hBz).cell (j := 5) rfl
            have u0 := (hBz).thawed 0
            have u1 := (hBz).thawed 1
            have u2 := (hBz).thawed 2
            have u3 := (hBz).thawed 3
            have u4 := (hBz).thawed 4
            have u5 := (hBz).thawed 5
            have hzs : w.heap.size < (wr.drewN nq).heap.size := hBz.lt
            clear hBz
            go_wp2_with fail
            obtain ⟨wf, hwf⟩ : ∃ wf : World, wf = (((((((((((((wr.drewN nq)).setCell ⟨w.heap.size, 0, none⟩ (.slice none 0 0))).setCell ⟨w.heap.size, 1, none⟩ (.slice none 0 0))).setCell ⟨w.heap.size, 2, none⟩ (.slice none 0 0))).setCell ⟨w.heap.size, 3, none⟩ (.slice none 0 0))).setCell ⟨w.heap.size, 4, none⟩ (.slice none 0 0))).setCell ⟨w.heap.size, 5, none⟩ (.int .i64 0)) := ⟨_, rfl⟩
            rw [← hwf]
            obtain ⟨hBf, hgf⟩ := put6 (HB0.out.keep (HKr.out.drewN nq)) _ _ _ _ _ _ hwf
            have HK := Lib.hid (keeps_put (HKW.out.trans (HKr.out.drewN nq)) (Nat.le_refl _) hgf)
            have HGF := Lib.hid hgf
            have e0 := (hBf).cell (j := 0) rfl
            have e1 := (hBf).cell (j := 1) rfl
            have e2 := (hBf).cell (j := 2) rfl
            have e3 := (hBf).cell (j := 3) rfl
            have e4 := (hBf).cell (j := 4) rfl
            have e5 := (hBf).cell (j := 5) rfl
            clear hwf hBf hgf
            exact bodyPost_ret (v := .tuple #[.agg #[.slice none 0 0, .slice none 0 0, .slice none 0 0, .slice none 0 0, .slice none 0 0, .int .i64 0], .int .i64 4]) (by simp [results, Try.results13, go_sem, e0, e1, e2, e3, e4, e5]) rfl ⟨_, rfl, zimg_at _, HK.out⟩
        · have hle : l.length = 1 := by omega
          have hxx := HD.out.symm.trans (dec_few (by omega) (by rw [List.take_of_length_le (show l.length ≤ 4 by omega), hle, ← HT.out, List.take_of_length_le (by omega)]) (by omega))
          injection hxx with hx1 hx2
          subst hx1 hx2
          have HKr := Lib.hid hkr
          have hle2 : l.length ≤ 1 := by omega
          clear hle hkr
          have hBz := HB0.out.keep HKr.out
          have d0 := (hBz).cell (j := 0) rfl
          have d1 := (hBz).cell (j := 1) rfl
          have d2 := (hBz).cell (j := 2) rfl
          have d3 := (hBz).cell (j := 3) rfl
          have d4 := (hBz).cell (j := 4) rfl
          have d5 := (hBz).cell (j := 5) rfl
          have u0 := (hBz).thawed 0
          have u1 := (hBz).thawed 1
          have u2 := (hBz).thawed 2
          have u3 := (hBz).thawed 3
          have u4 := (hBz).thawed 4
          have u5 := (hBz).thawed 5
          have hzs : w.heap.size < wr.heap.size := hBz.lt
          clear hBz
          go_wp2_with fail
          obtain ⟨wf, hwf⟩ : ∃ wf : World, wf = ((((((((((((wr).setCell ⟨w.heap.size, 0, none⟩ (.slice none 0 0))).setCell ⟨w.heap.size, 1, none⟩ (.slice none 0 0))).setCell ⟨w.heap.size, 2, none⟩ (.slice none 0 0))).setCell ⟨w.heap.size, 3, none⟩ (.slice none 0 0))).setCell ⟨w.heap.size, 4, none⟩ (.slice none 0 0))).setCell ⟨w.heap.size, 5, none⟩ (.int .i64 0)) := ⟨_, rfl⟩
          rw [← hwf]
          obtain ⟨hBf, hgf⟩ := put6 (HB0.out.keep HKr.out) _ _ _ _ _ _ hwf
          have HK := Lib.hid (keeps_put (HKW.out.trans HKr.out) (Nat.le_refl _) hgf)
          have HGF := Lib.hid hgf
          have e0 := (hBf).cell (j := 0) rfl
          have e1 := (hBf).cell (j := 1) rfl
          have e2 := (hBf).cell (j := 2) rfl
          have e3 := (hBf).cell (j := 3) rfl
          have e4 := (hBf).cell (j := 4) rfl
          have e5 := (hBf).cell (j := 5) rfl
          clear hwf hBf hgf
          exact bodyPost_ret (v := .tuple #[.agg #[.slice none 0 0, .slice none 0 0, .slice none 0 0, .slice none 0 0, .slice none 0 0, .int .i64 0], .int .i64 5]) (by simp [results, Try.results13, go_sem, e0, e1, e2, e3, e4, e5]) rfl ⟨_, rfl, zimg_at _, HK.out⟩
      · have hj := hi1
        by_cases hlt : 2 < l.length
        · obtain ⟨b, off, e, hc⟩ := HC.out (by omega)
          cases e
          have c0 : wr.cell? ⟨b, off + 2, none⟩ = some (.int .u8 ((nth l 2).toNat : Int)) := Keeps.cell hkr (by simpa using hc 2 0 (by omega) (by omega))
          have hbd := byte_bd (nth l 2)
          have hmb : ((⟨#[98, 104, 49, 10]⟩ : ByteArray)[2]'(by decide)).toNat = 49 := by first | rfl | decide
          have hbd0 : (0 : Int) ≤ ((nth l 2).toNat : Int) := by omega
          by_cases hx : nth l 2 = 49
          · have te : (((nth l 2).toNat : Int) == 49) = true := by rw [hx]; rfl
            have HX := Lib.hid hx
            have HKr := Lib.hid hkr
            clear hx hc hkr
            go_wp2_with fail
            go_quiet (fail)
            go_wp2_with fail
            go_roundw
            case rel => exact ⟨3, by omega, hlt, rfl, Lib.hid (take_sign hlt HT.out HX.out), HKr.out.drewN nq⟩
            case measure => simp [intOf]
          · have te : (((nth l 2).toNat : Int) == 49) = false := by
              have : (nth l 2).toNat ≠ 49 := fun e => hx (by apply UInt8.toNat_inj.mp; rw [e]; rfl)
              simp; omega
            have hxx := HD.out.symm.trans (dec_sign (by omega) (sign_bad 2 (by omega) hlt (by rw [show nth sign 2 = 49 from rfl]; exact hx)))
            injection hxx with hx1 hx2
            subst hx1 hx2
            have HKr := Lib.hid hkr
            clear hx hc hkr
            go_wp2_with fail
            go_quiet (fail)
            have hBz := HB0.out.keep (HKr.out.drewN nq)
            have d0 := (hBz).cell (j := 0) rfl
            have d1 := (hBz).cell (j := 1) rfl
            have d2 := (hBz).cell (j := 2) rfl
            have d3 := (hBz).cell (j := 3) rfl
            have d4 := (hBz).cell (j := 4) rfl
            have d5 := (hBz).cell (j := 5) rfl
            have u0 := (hBz).thawed 0
            have u1 := (hBz).thawed 1
            have u2 := (hBz).thawed 2
            have u3 := (hBz).thawed 3
            have u4 := (hBz).thawed 4
            have u5 := (hBz).thawed 5
            have hzs : w.heap.size < (wr.drewN nq).heap.size := hBz.lt
            clear hBz
            go_wp2_with fail
            obtain ⟨wf, hwf⟩ : ∃ wf : World, wf = (((((((((((((wr.drewN nq)).setCell ⟨w.heap.size, 0, none⟩ (.slice none 0 0))).setCell ⟨w.heap.size, 1, none⟩ (.slice none 0 0))).setCell ⟨w.heap.size, 2, none⟩ (.slice none 0 0))).setCell ⟨w.heap.size, 3, none⟩ (.slice none 0 0))).setCell ⟨w.heap.size, 4, none⟩ (.slice none 0 0))).setCell ⟨w.heap.size, 5, none⟩ (.int .i64 0)) := ⟨_, rfl⟩
            rw [← hwf]
            obtain ⟨hBf, hgf⟩ := put6 (HB0.out.keep (HKr.out.drewN nq)) _ _ _ _ _ _ hwf
            have HK := Lib.hid (keeps_put (HKW.out.trans (HKr.out.drewN nq)) (Nat.le_refl _) hgf)
            have HGF := Lib.hid hgf
            have e0 := (hBf).cell (j := 0) rfl
            have e1 := (hBf).cell (j := 1) rfl
            have e2 := (hBf).cell (j := 2) rfl
            have e3 := (hBf).cell (j := 3) rfl
            have e4 := (hBf).cell (j := 4) rfl
            have e5 := (hBf).cell (j := 5) rfl
            clear hwf hBf hgf
            exact bodyPost_ret (v := .tuple #[.agg #[.slice none 0 0, .slice none 0 0, .slice none 0 0, .slice none 0 0, .slice none 0 0, .int .i64 0], .int .i64 4]) (by simp [results, Try.results13, go_sem, e0, e1, e2, e3, e4, e5]) rfl ⟨_, rfl, zimg_at _, HK.out⟩
        · have hle : l.length = 2 := by omega
          have hxx := HD.out.symm.trans (dec_few (by omega) (by rw [List.take_of_length_le (show l.length ≤ 4 by omega), hle, ← HT.out, List.take_of_length_le (by omega)]) (by omega))
          injection hxx with hx1 hx2
          subst hx1 hx2
          have HKr := Lib.hid hkr
          have hle2 : l.length ≤ 2 := by omega
          clear hle hkr
          have hBz := HB0.out.keep HKr.out
          have d0 := (hBz).cell (j := 0) rfl
          have d1 := (hBz).cell (j := 1) rfl
          have d2 := (hBz).cell (j := 2) rfl
          have d3 := (hBz).cell (j := 3) rfl
          have d4 := (hBz).cell (j := 4) rfl
          have d5 := (hBz).cell (j := 5) rfl
          have u0 := (hBz).thawed 0
          have u1 := (hBz).thawed 1
          have u2 := (hBz).thawed 2
          have u3 := (hBz).thawed 3
          have u4 := (hBz).thawed 4
          have u5 := (hBz).thawed 5
          have hzs : w.heap.size < wr.heap.size := hBz.lt
          clear hBz
          go_wp2_with fail
          obtain ⟨wf, hwf⟩ : ∃ wf : World, wf = ((((((((((((wr).setCell ⟨w.heap.size, 0, none⟩ (.slice none 0 0))).setCell ⟨w.heap.size, 1, none⟩ (.slice none 0 0))).setCell ⟨w.heap.size, 2, none⟩ (.slice none 0 0))).setCell ⟨w.heap.size, 3, none⟩ (.slice none 0 0))).setCell ⟨w.heap.size, 4, none⟩ (.slice none 0 0))).setCell ⟨w.heap.size, 5, none⟩ (.int .i64 0)) := ⟨_, rfl⟩
          rw [← hwf]
          obtain ⟨hBf, hgf⟩ := put6 (HB0.out.keep HKr.out) _ _ _ _ _ _ hwf
          have HK := Lib.hid (keeps_put (HKW.out.trans HKr.out) (Nat.le_refl _) hgf)
          have HGF := Lib.hid hgf
          have e0 := (hBf).cell (j := 0) rfl
          have e1 := (hBf).cell (j := 1) rfl
          have e2 := (hBf).cell (j := 2) rfl
          have e3 := (hBf).cell (j := 3) rfl
          have e4 := (hBf).cell (j := 4) rfl
          have e5 := (hBf).cell (j := 5) rfl
          clear hwf hBf hgf
          exact bodyPost_ret (v := .tuple #[.agg #[.slice none 0 0, .slice none 0 0, .slice none 0 0, .slice none 0 0, .slice none 0 0, .int .i64 0], .int .i64 5]) (by simp [results, Try.results13, go_sem, e0, e1, e2, e3, e4, e5]) rfl ⟨_, rfl, zimg_at _, HK.out⟩
      · have hj := hi1
        by_cases hlt : 3 < l.length
        · obtain ⟨b, off, e, hc⟩ := HC.out (by omega)
          cases e
          have c0 : wr.cell? ⟨b, off + 3, none⟩ = some (.int .u8 ((nth l 3).toNat : Int)) := Keeps.cell hkr (by simpa using hc 3 0 (by omega) (by omega))
          have hbd := byte_bd (nth l 3)
          have hmb : ((⟨#[98, 104, 49, 10]⟩ : ByteArray)[3]'(by decide)).toNat = 10 := by first | rfl | decide
          have hbd0 : (0 : Int) ≤ ((nth l 3).toNat : Int) := by omega
          by_cases hx : nth l 3 = 10
          · have te : (((nth l 3).toNat : Int) == 10) = true := by rw [hx]; rfl
            have HX := Lib.hid hx
            have HKr := Lib.hid hkr
            clear hx hc hkr
            go_wp2_with fail
            go_quiet (fail)
            go_wp2_with fail
            go_roundw
            case rel => exact ⟨4, by omega, hlt, rfl, Lib.hid (take_sign hlt HT.out HX.out), HKr.out.drewN nq⟩
            case measure => simp [intOf]
          · have te : (((nth l 3).toNat : Int) == 10) = false := by
              have : (nth l 3).toNat ≠ 10 := fun e => hx (by apply UInt8.toNat_inj.mp; rw [e]; rfl)
              simp; omega
            have hxx := HD.out.symm.trans (dec_sign (by omega) (sign_bad 3 (by omega) hlt (by rw [show nth sign 3 = 10 from rfl]; exact hx)))
            injection hxx with hx1 hx2
            subst hx1 hx2
            have HKr := Lib.hid hkr
            clear hx hc hkr
            go_wp2_with fail
            go_quiet (fail)
            have hBz := HB0.out.keep (HKr.out.drewN nq)
            have d0 := (hBz).cell (j := 0) rfl
            have d1 := (hBz).cell (j := 1) rfl
            have d2 := (hBz).cell (j := 2) rfl
            have d3 := (hBz).cell (j := 3) rfl
            have d4 := (hBz).cell (j := 4) rfl
            have d5 := (hBz).cell (j := 5) rfl
            have u0 := (hBz).thawed 0
            have u1 := (hBz).thawed 1
            have u2 := (hBz).thawed 2
            have u3 := (hBz).thawed 3
            have u4 := (hBz).thawed 4
            have u5 := (hBz).thawed 5
            have hzs : w.heap.size < (wr.drewN nq).heap.size := hBz.lt
            clear hBz
            go_wp2_with fail
            obtain ⟨wf, hwf⟩ : ∃ wf : World, wf = (((((((((((((wr.drewN nq)).setCell ⟨w.heap.size, 0, none⟩ (.slice none 0 0))).setCell ⟨w.heap.size, 1, none⟩ (.slice none 0 0))).setCell ⟨w.heap.size, 2, none⟩ (.slice none 0 0))).setCell ⟨w.heap.size, 3, none⟩ (.slice none 0 0))).setCell ⟨w.heap.size, 4, none⟩ (.slice none 0 0))).setCell ⟨w.heap.size, 5, none⟩ (.int .i64 0)) := ⟨_, rfl⟩
            rw [← hwf]
            obtain ⟨hBf, hgf⟩ := put6 (HB0.out.keep (HKr.out.drewN nq)) _ _ _ _ _ _ hwf
            have HK := Lib.hid (keeps_put (HKW.out.trans (HKr.out.drewN nq)) (Nat.le_refl _) hgf)
            have HGF := Lib.hid hgf
            have e0 := (hBf).cell (j := 0) rfl
            have e1 := (hBf).cell (j := 1) rfl
            have e2 := (hBf).cell (j := 2) rfl
            have e3 := (hBf).cell (j := 3) rfl
            have e4 := (hBf).cell (j := 4) rfl
            have e5 := (hBf).cell (j := 5) rfl
            clear hwf hBf hgf
            exact bodyPost_ret (v := .tuple #[.agg #[.slice none 0 0, .slice none 0 0, .slice none 0 0, .slice none 0 0, .slice none 0 0, .int .i64 0], .int .i64 4]) (by simp [results, Try.results13, go_sem, e0, e1, e2, e3, e4, e5]) rfl ⟨_, rfl, zimg_at _, HK.out⟩
        · have hle : l.length = 3 := by omega
          have hxx := HD.out.symm.trans (dec_few (by omega) (by rw [List.take_of_length_le (show l.length ≤ 4 by omega), hle, ← HT.out, List.take_of_length_le (by omega)]) (by omega))
          injection hxx with hx1 hx2
          subst hx1 hx2
          have HKr := Lib.hid hkr
          have hle2 : l.length ≤ 3 := by omega
          clear hle hkr
          have hBz := HB0.out.keep HKr.out
          have d0 := (hBz).cell (j := 0) rfl
          have d1 := (hBz).cell (j := 1) rfl
          have d2 := (hBz).cell (j := 2) rfl
          have d3 := (hBz).cell (j := 3) rfl
          have d4 := (hBz).cell (j := 4) rfl
          have d5 := (hBz).cell (j := 5) rfl
          have u0 := (hBz).thawed 0
          have u1 := (hBz).thawed 1
          have u2 := (hBz).thawed 2
          have u3 := (hBz).thawed 3
          have u4 := (hBz).thawed 4
          have u5 := (hBz).thawed 5
          have hzs : w.heap.size < wr.heap.size := hBz.lt
          clear hBz
          go_wp2_with fail
          obtain ⟨wf, hwf⟩ : ∃ wf : World, wf = ((((((((((((wr).setCell ⟨w.heap.size, 0, none⟩ (.slice none 0 0))).setCell ⟨w.heap.size, 1, none⟩ (.slice none 0 0))).setCell ⟨w.heap.size, 2, none⟩ (.slice none 0 0))).setCell ⟨w.heap.size, 3, none⟩ (.slice none 0 0))).setCell ⟨w.heap.size, 4, none⟩ (.slice none 0 0))).setCell ⟨w.heap.size, 5, none⟩ (.int .i64 0)) := ⟨_, rfl⟩
          rw [← hwf]
          obtain ⟨hBf, hgf⟩ := put6 (HB0.out.keep HKr.out) _ _ _ _ _ _ hwf
          have HK := Lib.hid (keeps_put (HKW.out.trans HKr.out) (Nat.le_refl _) hgf)
          have HGF := Lib.hid hgf
          have e0 := (hBf).cell (j := 0) rfl
          have e1 := (hBf).cell (j := 1) rfl
          have e2 := (hBf).cell (j := 2) rfl
          have e3 := (hBf).cell (j := 3) rfl
          have e4 := (hBf).cell (j := 4) rfl
          have e5 := (hBf).cell (j := 5) rfl
          clear hwf hBf hgf
          exact bodyPost_ret (v := .tuple #[.agg #[.slice none 0 0, .slice none 0 0, .slice none 0 0, .slice none 0 0, .slice none 0 0, .int .i64 0], .int .i64 5]) (by simp [results, Try.results13, go_sem, e0, e1, e2, e3, e4, e5]) rfl ⟨_, rfl, zimg_at _, HK.out⟩
      · obtain ⟨W, hWe⟩ : ∃ W : World, W = wr := ⟨_, rfl⟩
        subst hWe
        have hkw2 := HKW.out.trans hkr
        have hB02 := HB0.out.keep hkr
        have hV2 : Bytes W _ l := Arr.keep HV.out hkr
        have hsz2 := hkr.size
        have hsz : w.heap.size < W.heap.size := by omega
        have HKW := Lib.hid hkw2
        have HB0 := Lib.hid hB02
        have HV := Lib.hid hV2
        have HD1 : Hid (l.take 4 = sign.take l.length) := Lib.hid (by rw [HT.out, List.take_of_length_le (show sign.length ≤ l.length from hi1)]; rfl)
        clear hkw2 hB02 hV2 hsz2 hkr
        obtain ⟨r, hr⟩ : ∃ r, r = W.heap.size := ⟨_, rfl⟩
        have HR := Lib.hid hr
        have hrW : W.heap.size ≤ r := Nat.le_of_eq hr.symm
        obtain ⟨W1, hW1, hR1, hkW1, hs1⟩ : ∃ W1 : World, W1 = W.alloc (.cells #[.slice av l.length cv, .int .i64 4, .bool false] 72) ∧ TpAt W r l (some (l.drop 4)) W1 ∧ Keeps W W1 ∧ W1.heap.size = r + 1 := ⟨_, rfl, ⟨av, cv, 4, false, Blk.top' _ _ hr, by omega, HV.out, rfl, by omega, rfl⟩, (Keeps.refl W).alloc _, by rw [sz_alloc, hr]⟩
        obtain ⟨W2, hW2, hB2, hkW2⟩ : ∃ W2 : World, W2 = W1.alloc (.cells #[.slice none 0 0, .slice none 0 0, .slice none 0 0, .slice none 0 0, .slice none 0 0, .int .i64 0] 28) ∧ Blk W2 W1.heap.size (.cells #[.slice none 0 0, .slice none 0 0, .slice none 0 0, .slice none 0 0, .slice none 0 0, .int .i64 0] 28) ∧ Keeps W1 W2 := ⟨_, rfl, Blk.top _ _, (Keeps.refl _).alloc _⟩
        obtain ⟨g, hg⟩ : ∃ g, g = W1.heap.size := ⟨_, rfl⟩
        rw [← hg] at hB2
        have hgr : r < g := by omega
        have HW1 := Lib.hid hW1
        have HW2 := Lib.hid hW2
        have HG := Lib.hid hg
        have HB2 := Lib.hid hB2
        have HR2 := Lib.hid (TpAt.grown hR1 (hkW2.grown none) (fun e => by cases e))
        have HK2 := Lib.hid (hkW1.trans hkW2)
        have HS1 : Hid (r + 1 = g) := Lib.hid (by omega)
        clear hW1 hW2 hB2 hR1 hkW1 hkW2 hg hs1 hr
        go_upto_region 12 with fail
        rw [← HR.out, ← HW1.out, ← HW2.out, HS1.out]
        go_wp2_with fail
        refine (num_tp W r l 2 _ _ (HK2.out) (HR2.out) hlb (by decide) (by decide)).mono ?_
        rintro e w4 ⟨rfl, hg4, hr4⟩
        have HK4 := Lib.hid (keeps_put HK2.out hrW hg4)
        have hb4 := nm2_bd (some (l.drop 4))
        have HR4 := Lib.hid (show TpAt W r l (dTextN l).2 w4 from hr4)
        have hb4 : 0 ≤ (dTextN l).1 ∧ (dTextN l).1 ≤ 65535 := hb4
        have HB4 := Lib.hid (HB2.out.grown hg4 (fun e => by injection e with e; omega))
        clear hg4 hr4
        go_wp2_with fail
        refine (next_any W r l (dTextN l).1 _ _ (HK4.out) (HR4.out) hlb hb4.1 (by omega)).mono ?_
        rintro e w5 ⟨v5, rfl, hv5, hn5, hg5, hr5⟩
        have HK5 := Lib.hid (keeps_put HK4.out hrW hg5)
        have HR5 := Lib.hid (show TpAt W r l (dText l).2 w5 from hr5)
        have hv5 : Bytes w5 v5 (dText l).1 := hv5
        obtain ⟨a0, n0, c0, e5⟩ := bytes_form hv5
        subst e5
        have hB5 := HB4.out.grown hg5 (fun e => by injection e with e; omega)
        have g0 := hB5.cell (j := 0) rfl
        have f0 := hB5.thawed 0
        have hgl := hB5.lt
        have HB5 := Lib.hid hB5
        have HV5 := Lib.hid hv5
        have HN5 := Lib.hid hn5
        have HRL := Lib.hid HR4.out.lt
        have HGL := Lib.hid HB4.out.lt
        clear hg5 hr5 hv5 hn5 hb4 hB5
        go_upto_region 14 with fail
        obtain ⟨w6, hw6⟩ : ∃ w6, w6 = w5.setCell ⟨g, 0, none⟩ (.slice a0 n0 c0) := ⟨_, rfl⟩
        rw [← hw6]
        have hgw : w5.grownBy w6 (some g) := by rw [hw6]; exact grown_setCell _ _ _ _
        have hr6 := TpAt.grown HR5.out hgw (fun e => by injection e with e; omega)
        have hk6 : Keeps W w6 := keeps_put HK5.out (by omega) hgw
        have hv6 : Bytes w6 (.slice a0 n0 c0) (dText l).1 := Bytes.grown HV5.out hgw (fun b hb e => by injection e with e; subst e; have := HN5.out _ hb; have := HGL.out; omega)
        have hb0 : Bld W.heap.size W g 28 (fun b => b = r) _ _ 55 3 cfu #[(.slice a0 n0 c0), .slice none 0 0, .slice none 0 0, .slice none 0 0, .slice none 0 0, .int .i64 0] (.slice none 0 0) ([] : List Fu) w6 :=
          bld_text hk6 (by rw [hw6]; exact HB5.out.set 0 _) hv6 HN5.out HK4.out.size HRL.out (fun b hb hm ho hn e => by have := HGL.out; omega) (by omega) (by omega) hr6.lt
        obtain ⟨S0, hS0⟩ : ∃ Sx : Nat → Prop, Sx = (fun b => 0 < (dText l).1.length ∧ (Value.slice a0 n0 c0).ownBlock = some b) := ⟨_, rfl⟩
        obtain ⟨F0, hF0⟩ : ∃ Fx : World → Prop, Fx = (fun w => Bytes w (.slice a0 n0 c0) (dText l).1) := ⟨_, rfl⟩
        rw [← hS0, ← hF0] at hb0
        have HBN := Lib.hid hb0
        have HRN := Lib.hid hr6
        have HF0 := Lib.hid hF0
        clear hw6 hgw hr6 hk6 hv6 hb0 hS0 hF0 HV5 HN5 HK5 HR5 HRL HGL HB5 HB4 HK4 HR4 HK2 HR2 HB2 HG HS1 HW1 HW2 g0 f0 hgl
        go_wp2_with fail
        refine (num_tp W r l 1 _ _ (HBN.out.keep) (HRN.out) hlb (by decide) (by decide)).mono ?_
        rintro e w7 ⟨rfl, hg7, hr7⟩
        have hb7 := nm1_bd (dText l).2
        have HR7 := Lib.hid (show TpAt W r l (dFunN l).2 w7 from hr7)
        have HB7 := Lib.hid (HBN.out.else hg7 rfl hrW)
        obtain ⟨N1, hN⟩ : ∃ N : Nat, (dFunN l).1 = N := ⟨(dFunN l).1.toNat, (Int.toNat_of_nonneg hb7.1).symm⟩
        have hN' : (nm 1 (dText l).2).1 = N1 := hN
        have hN21 : N1 ≤ 255 := by rw [hN'] at hb7; omega
        rw [hN']
        have HN1 := Lib.hid hN
        clear hg7 hr7 hb7 HBN HRN hN hN'
        go_upto_block 2 with fail
        go_cut [] (fun wx => ∃ x, Bld W.heap.size W g 28 (fun b => b = r) S0 F0 55 3 cfu #[(.slice a0 n0 c0), x, .slice none 0 0, .slice none 0 0, .slice none 0 0, .int .i64 0] x (dFuns l).1 wx ∧ TpAt W r l (dFuns l).2 wx)
        case first =>
          go_wp2_with fail
          go_loopw [8, 9] (fun s8 s9 wr => ∃ (k i : Nat) (a : Int) (x : Value) (p : PS) (acc : List Fu), s8 = .int .i64 a ∧ s9 = .int .i64 i ∧ Hid (i + k = N1) ∧ Hid (fnP k a p acc = dFuns l) ∧ k ≤ 255 ∧ 0 ≤ a ∧ a + k * 65535 ≤ 16711425 ∧ acc.length + k ≤ 255 ∧ Bld W.heap.size W g 28 (fun b => b = r) S0 F0 55 3 cfu #[(.slice a0 n0 c0), x, .slice none 0 0, .slice none 0 0, .slice none 0 0, .int .i64 0] x acc wr ∧ TpAt W r l p wr) (fun _ s9 _ => N1 - (intOf s9).toNat)
          case atStart =>
            refine ⟨N1, 0, 0, _, _, [], rfl, rfl, Lib.hid (Nat.zero_add _), Lib.hid ?_, hN21, Int.le_refl _, by omega, by simpa using hN21, HB7.out, HR7.out⟩
            show fnP N1 0 (dFunN l).2 [] = fnP (dFunN l).1.toNat 0 (dFunN l).2 []
            rw [HN1.out, Int.toNat_natCast]
          case round =>
            obtain ⟨k, i, a, x, p, acc, rfl, rfl, HIK, HF, hk, ha0, ha1, hac, hb, hrd⟩ := hrel
            have HBR := Lib.hid hb
            have HRR := Lib.hid hrd
            obtain ⟨_, _, _, o, hbr, -, -, hro⟩ := hrd
            have r1 := hbr.cell (j := 2) rfl
            have hrl := hbr.lt
            clear hb hbr
            cases k with
            | zero =>
              have hik : N1 ≤ i := by have := HIK.out; omega
              clear hro
              go_wp2_with fail
              go_meet
              case rel =>
                have e := HF.out
                exact ⟨x, by rw [← e]; exact HBR.out, by rw [← e]; exact HRR.out⟩
            | succ k =>
              have hik : i < N1 := by have := HIK.out; omega
              cases p with
              | none =>
                have hro : o = true := hro
                subst hro
                go_wp2_with fail
                go_meet
                case rel =>
                  have e := HF.out
                  rw [fnP_stop] at e
                  exact ⟨x, by rw [← e]; exact HBR.out, by rw [← e]; exact HRR.out⟩
              | some q =>
                have hro : o = false := hro.1
                subst hro
                have HS := Lib.hid (fnP_step k a q acc)
                have HKr : Hid (Keeps W wr) := Lib.hid HBR.out.keep
                obtain ⟨ax7, cx7, e7⟩ := own_form' HBR.out.own
                subst e7
                have b1 := nm1_bd (some q)
                have qs := nm2_bd (fn2 (some q)).2
                have qs : 0 ≤ (fn3 (some q)).1 ∧ (fn3 (some q)).1 ≤ 65535 := qs
                go_wp2_with fail
                refine (num_tp W r l 1 (some q) _ (HKr.out) (HRR.out) hlb (by decide) (by decide)).mono ?_
                rintro e wa ⟨rfl, hga, hra⟩
                have HGa := Lib.hid hga
                have HRa := Lib.hid (show TpAt W r l (fn1 (some q)) wa from hra)
                clear hga hra r1
                go_wp2_with fail
                refine (next_any W r l (nm 1 (some q)).1 (fn1 (some q)) _ (keeps_put HKr.out hrW HGa.out) (HRa.out) hlb b1.1 (by omega)).mono ?_
                rintro e wb ⟨v2, rfl, hv2, hn2, hgb, hrb⟩
                obtain ⟨a2, n2, c2, e2⟩ := bytes_form hv2
                subst e2
                have HGb := Lib.hid (grown_trans HGa.out hgb)
                have HRb := Lib.hid (show TpAt W r l (fn2 (some q)).2 wb from hrb)
                have hcv : (convert 22 9 (.slice a2 n2 c2)).run Try.prog wb = .ok (.string (str (fn2 (some q)).1)) wb := run_string_of hv2 Try.underlying22 Try.underlying5 Try.underlying9
                clear hv2 hn2 hgb hrb
                generalize hst : str (fn2 (some q)).1 = st at *
                have HST := Lib.hid hst
                clear hst
                go_wp2_with fail
                refine (num_tp W r l 2 (fn2 (some q)).2 _ (keeps_put HKr.out hrW HGb.out) (HRb.out) hlb (by decide) (by decide)).mono ?_
                rintro e wc ⟨rfl, hgc, hrc⟩
                have HB14 := Lib.hid (HBR.out.else (grown_trans HGb.out hgc) rfl hrW)
                have HR14 := Lib.hid (show TpAt W r l (fn3 (some q)).2 wc from hrc)
                rw [show (nm 2 (fn2 (some q)).2).1 = (fn3 (some q)).1 from rfl]
                generalize hz : (fn3 (some q)).1 = sz at *
                have HZ := Lib.hid hz
                have g1 := HB14.out.blk.cell (j := 1) rfl
                have f1 := HB14.out.blk.thawed 1
                have hgl := HB14.out.blk.lt
                have hsw := HB14.out.Bw
                clear hz hgc hrc hcv
                go_wp2_with (at_builtin; refine wpList_pushes (by rfl) (.tmp 78) (.tmp 83) 23 (by rfl) Try.underlying23 info_fun (by rfl) (by decide) (base := W.heap.size) (f := cfu) (l := acc) (by rfl) (by exact HB14.out.own.keep (by repeat (with_reducible (first | assumption | exact Keeps.refl _ | refine Keeps.alloc ?_ _ | refine Keeps.drew ?_ | refine Keeps.drewN ?_ _ | refine Keeps.trans' ?_ (by assumption) (by assumption))))) [⟨st, a, sz⟩] _ _ (by rfl) (by exact Blk.top' _ _ (by first | rfl | simp)) cfu_len cfu_one (by skip; simp only [List.length_cons, List.length_nil]; omega) (by skip; simp only [List.length_cons, List.length_nil]; unfold maxLen; omega) (by first | omega | (simp only [sz_alloc]; omega) | (simp only [sz_drew]; omega) | (simp only [sz_alloc, sz_drew]; omega) | (simp only [sz_alloc, sz_drewN]; omega)) ?_; intro v7 wp7 hown7 hbel7 hgr7 hfr7; obtain ⟨ap7, cp7, rfl⟩ := own_form' hown7; have hB7 := Blk.grown (Blk.keep HB14.out.blk (by repeat (with_reducible (first | assumption | exact Keeps.refl _ | refine Keeps.alloc ?_ _ | refine Keeps.drew ?_ | refine Keeps.drewN ?_ _ | refine Keeps.trans' ?_ (by assumption) (by assumption))))) hgr7 (fun e => HB14.out.vg e.symm); have hc7 := hB7.cell (j := 1) rfl; have hf7 := hB7.thawed 1; have hl7 := hB7.lt; have HB7 := Lib.hid hB7; have HO7 := Lib.hid hown7; have HG7 := Lib.hid hgr7; have HF7 := Lib.hid hfr7; clear hB7 hown7 hbel7 hgr7 hfr7)
                go_roundw
                case rel =>
                  have e := HS.out
                  (try rw [HZ.out] at e)
                  (try rw [HST.out] at e)
                  have hp := Bld.push HB14.out (by repeat (with_reducible (first | assumption | exact Keeps.refl _ | refine Keeps.alloc ?_ _ | refine Keeps.drew ?_ | refine Keeps.drewN ?_ _))) HO7.out HG7.out HF7.out 1
                  rw [show (acc ++ [(⟨st, a, sz⟩ : Fu)]).length = acc.length + 1 by simp] at hp
                  exact ⟨k, i + 1, a + sz, .slice ap7 (acc.length + 1) cp7, (fn3 (some q)).2, acc ++ [(⟨st, a, sz⟩ : Fu)], rfl, by go_num, Lib.hid (by have := HIK.out; omega), Lib.hid (e.symm.trans HF.out), by omega, by omega, by omega, by simp only [List.length_append, List.length_cons, List.length_nil]; omega, hp, TpAt.grown (TpAt.grown (TpAt.grown HR14.out (Keeps.grown (by repeat (with_reducible (first | assumption | exact Keeps.refl _ | refine Keeps.alloc ?_ _ | refine Keeps.drew ?_ | refine Keeps.drewN ?_ _))) none) (fun e => by cases e)) HG7.out (HB14.out.Av r rfl)) (grown_setCell _ _ _ _) (fun e => HB14.out.Ag (by injection e))⟩
                case measure => simp [intOf]; omega
        case rest =>
          obtain ⟨x, hb, hrd⟩ := hcut
          obtain ⟨ax1, cx1, e7⟩ := own_form' hb.own
          subst e7
          have hnx := hb.next (β := Sle) (e' := 25) (k' := 1) (f' := sle)
          obtain ⟨S1, hS1⟩ : ∃ Sx : Nat → Prop, Sx = (fun b => S0 b ∨ ((.slice ax1 (dFuns l).1.length cx1) : Value).ownBlock = some b) := ⟨_, rfl⟩
          obtain ⟨F1, hF1⟩ : ∃ Fx : World → Prop, Fx = (fun w => F0 w ∧ Own w W.heap.size 55 3 cfu (.slice ax1 (dFuns l).1.length cx1) (dFuns l).1) := ⟨_, rfl⟩
          rw [← hS1, ← hF1] at hnx
          have HF1 := Lib.hid hF1
          have HBN := Lib.hid hnx
          have HRN := Lib.hid hrd
          clear hnx hS1 hF1 hb hrd
          go_wp2_with fail
          refine (num_tp W r l 1 _ _ (HBN.out.keep) (HRN.out) hlb (by decide) (by decide)).mono ?_
          rintro e w8 ⟨rfl, hg7, hr7⟩
          have hr8 : TpAt W r l (dEntry l).2 w8 := hr7
          have hb8 := HBN.out.else hg7 rfl hrW
          have g5 := hb8.blk.cell (j := 5) rfl
          have f5 := hb8.blk.thawed 5
          have hgl := hb8.blk.lt
          have HB8 := Lib.hid hb8
          have HR8 := Lib.hid hr8
          clear hg7 hr7 hr8 hb8 HBN HRN
          go_upto_region 25 with fail
          rw [show (nm 1 (dFuns l).2).1 = (dEntry l).1 from rfl]
          obtain ⟨w9, hw9⟩ : ∃ w9, w9 = w8.setCell ⟨g, 5, none⟩ (.int .i64 (dEntry l).1) := ⟨_, rfl⟩
          rw [← hw9]
          have hbn : Bld W.heap.size W g 28 (fun b => b = r) S1 F1 25 1 sle #[(.slice a0 n0 c0), (.slice ax1 (dFuns l).1.length cx1), .slice none 0 0, .slice none 0 0, .slice none 0 0, .int .i64 (dEntry l).1] (.slice none 0 0) ([] : List Sle) w9 := by rw [hw9]; exact HB8.out.put 5 _
          have hrn : TpAt W r l (dEntry l).2 w9 := by rw [hw9]; exact TpAt.grown HR8.out (grown_setCell _ _ _ _) (fun e => HB8.out.Ag (by injection e))
          have HBN := Lib.hid hbn
          have HRN := Lib.hid hrn
          clear hw9 hbn hrn g5 f5 hgl HB8 HR8
          go_wp2_with fail
          refine (num_tp W r l 1 _ _ (HBN.out.keep) (HRN.out) hlb (by decide) (by decide)).mono ?_
          rintro e w10 ⟨rfl, hg7, hr7⟩
          have hb7 := nm1_bd (dEntry l).2
          have HR10 := Lib.hid (show TpAt W r l (dTabN l).2 w10 from hr7)
          have HB10 := Lib.hid (HBN.out.else hg7 rfl hrW)
          obtain ⟨N2, hN⟩ : ∃ N : Nat, (dTabN l).1 = N := ⟨(dTabN l).1.toNat, (Int.toNat_of_nonneg hb7.1).symm⟩
          have hN' : (nm 1 (dEntry l).2).1 = N2 := hN
          have hN22 : N2 ≤ 255 := by rw [hN'] at hb7; omega
          rw [hN']
          have HN2 := Lib.hid hN
          clear hg7 hr7 hb7 HBN HRN hN hN'
          go_upto_block 4 with fail
          go_cut [] (fun wx => ∃ (x : Value) (vs : List Sle) (S' : Nat → Prop), Bld W.heap.size W g 28 (fun b => b = r) S' (fun w => F1 w ∧ RowsAt vs (dTabs l).1 w) 25 1 sle #[(.slice a0 n0 c0), (.slice ax1 (dFuns l).1.length cx1), x, .slice none 0 0, .slice none 0 0, .int .i64 (dEntry l).1] x vs wx ∧ TpAt W r l (dTabs l).2 wx)
          case first =>
            go_wp2_with fail
            go_loopw [13] (fun s10 wr => ∃ (k i : Nat) (x : Value) (p : PS) (vs : List Sle) (ls : List (List Int)) (S' : Nat → Prop), s10 = .int .i64 i ∧ Hid (i + k = N2) ∧ Hid (tabP k p ls = dTabs l) ∧ k ≤ 255 ∧ ls.length + k ≤ 255 ∧ Bld W.heap.size W g 28 (fun b => b = r) S' (fun w => F1 w ∧ RowsAt vs ls w) 25 1 sle #[(.slice a0 n0 c0), (.slice ax1 (dFuns l).1.length cx1), x, .slice none 0 0, .slice none 0 0, .int .i64 (dEntry l).1] x vs wr ∧ TpAt W r l p wr) (fun s10 _ => N2 - (intOf s10).toNat)
            case atStart =>
              refine ⟨N2, 0, _, _, [], [], _, rfl, Lib.hid (Nat.zero_add _), Lib.hid ?_, hN22, by simpa using hN22, HB10.out.weak fun w h => ⟨h, rowsAt_nil w⟩, HR10.out⟩
              show tabP N2 (dTabN l).2 [] = tabP (dTabN l).1.toNat (dTabN l).2 []
              rw [HN2.out, Int.toNat_natCast]
            case round =>
              obtain ⟨k, i, x, p, vs, ls, S', rfl, HIK, HF, hk, hac, hb, hrd⟩ := hrel
              have HBR := Lib.hid hb
              have HRR := Lib.hid hrd
              obtain ⟨_, _, _, o, hbr, -, -, hro⟩ := hrd
              have r1 := hbr.cell (j := 2) rfl
              have hrl := hbr.lt
              clear hb hbr
              cases k with
              | zero =>
                have hik : N2 ≤ i := by have := HIK.out; omega
                clear hro
                go_wp2_with fail
                go_meet
                case rel =>
                  have e := HF.out
                  exact ⟨x, vs, S', by rw [← e]; exact HBR.out, by rw [← e]; exact HRR.out⟩
              | succ k =>
                have hik : i < N2 := by have := HIK.out; omega
                cases p with
                | none =>
                  have hro : o = true := hro
                  subst hro
                  go_wp2_with fail
                  go_meet
                  case rel =>
                    have e := HF.out
                    rw [tabP_stop] at e
                    exact ⟨x, vs, S', by rw [← e]; exact HBR.out, by rw [← e]; exact HRR.out⟩
                | some q =>
                  have hro : o = false := hro.1
                  subst hro
                  have HS := Lib.hid (tabP_step k q ls)
                  obtain ⟨wi, hwi⟩ : ∃ wi : World, wi = wr := ⟨_, rfl⟩
                  subst hwi
                  have hrl2 := HRR.out.lt
                  go_wp2_with fail
                  refine (num_tp W r l 1 (some q) _ (HBR.out.keep) (HRR.out) hlb (by decide) (by decide)).mono ?_
                  rintro e wj ⟨rfl, hgj, hrj⟩
                  have hbj := nm1_bd (some q)
                  obtain ⟨M, hM⟩ : ∃ M : Nat, (nm 1 (some q)).1 = M := ⟨(nm 1 (some q)).1.toNat, (Int.toNat_of_nonneg hbj.1).symm⟩
                  have hM2 : M ≤ 255 := by rw [hM] at hbj; omega
                  rw [hM]
                  have HM := Lib.hid hM
                  have HGJ := Lib.hid hgj
                  have HRJ := Lib.hid (show TpAt W r l (tb1 (some q)).2 wj from hrj)
                  have hjs := hgj.size
                  clear hM hbj hgj hrj r1
                  go_upto_block 6 with fail
                  go_cut [15] (fun s11 wx => ∃ (a c : _) (acc : List Int), s11 = .slice a acc.length c ∧ acc = (tb2 (some q)).1 ∧ acc.length ≤ 255 ∧ Own wx wj.heap.size 3 1 ci (.slice a acc.length c) acc ∧ wj.grownBy wx (some r) ∧ TpAt W r l (tb2 (some q)).2 wx)
                  case first =>
                    go_wp2_with fail
                    go_loopw [15, 16] (fun s11 s12 wr => ∃ (k i : Nat) (a c : _) (p : PS) (acc : List Int), s11 = .slice a acc.length c ∧ s12 = .int .i64 i ∧ Hid (i + k = M) ∧ Hid (nmP 2 k p acc = tb2 (some q)) ∧ k ≤ 255 ∧ acc.length + k ≤ 255 ∧ Own wr wj.heap.size 3 1 ci (.slice a acc.length c) acc ∧ wj.grownBy wr (some r) ∧ TpAt W r l p wr) (fun _ s12 _ => M - (intOf s12).toNat)
                    case atStart =>
                      refine ⟨M, 0, none, 0, _, [], rfl, rfl, Lib.hid (Nat.zero_add _), Lib.hid ?_, hM2, by simpa using hM2, Own.nil _ _ _ _ _, (Keeps.refl _).grown _, HRJ.out⟩
                      show nmP 2 M (tb1 (some q)).2 [] = nmP 2 (nm 1 (some q)).1.toNat (tb1 (some q)).2 []
                      rw [HM.out, Int.toNat_natCast]
                    case round =>
                      obtain ⟨k2, i2, aa, ca, p2, acc, rfl, rfl, HIK2, HF2, hk2, hac2, ho, hgw, hrd⟩ := hrel
                      have HO := Lib.hid ho
                      have HGW := Lib.hid hgw
                      have HRR2 := Lib.hid hrd
                      obtain ⟨_, _, _, o2, hbr, -, -, hro⟩ := hrd
                      have r1 := hbr.cell (j := 2) rfl
                      have hrl3 := hbr.lt
                      clear ho hgw hbr
                      cases k2 with
                      | zero =>
                        have hik2 : M ≤ i2 := by have := HIK2.out; omega
                        clear hro
                        go_wp2_with fail
                        go_meet
                        case rel =>
                          have e := HF2.out
                          exact ⟨aa, ca, acc, rfl, by rw [← e]; rfl, by omega, HO.out, HGW.out, by rw [← e]; exact HRR2.out⟩
                      | succ k2 =>
                        have hik2 : i2 < M := by have := HIK2.out; omega
                        cases p2 with
                        | none =>
                          have hro : o2 = true := hro
                          subst hro
                          go_wp2_with fail
                          go_meet
                          case rel =>
                            have e := HF2.out
                            rw [nmP_stop] at e
                            exact ⟨aa, ca, acc, rfl, by rw [← e], by omega, HO.out, HGW.out, by rw [← e]; exact HRR2.out⟩
                        | some q2 =>
                          have hro : o2 = false := hro.1
                          subst hro
                          have HS2 := Lib.hid (nmP_step 2 k2 q2 acc)
                          go_wp2_with fail
                          refine (num_tp W r l 2 (some q2) _ (keeps_put (keeps_put HBR.out.keep hrW HGJ.out) hrW HGW.out) (HRR2.out) hlb (by decide) (by decide)).mono ?_
                          rintro e wn ⟨rfl, hgn, hrn⟩
                          have ho2 : Own wn wj.heap.size 3 1 ci (.slice aa acc.length ca) acc := HO.out.other hgn (fun b hb e => by
                            cases e
                            have h1 := HO.out.row _ hb
                            have h2 := HRJ.out.lt
                            omega)
                          have hgn2 := grown_trans HGW.out hgn
                          have hjn := hgn2.size
                          have HGN := Lib.hid hgn2
                          have HO2 := Lib.hid ho2
                          have HRN := Lib.hid hrn
                          clear hgn hrn ho2 hgn2 r1
                          generalize hxx : (nm 2 (some q2)).1 = xx at *
                          have HXX := Lib.hid hxx
                          clear hxx
                          go_wp2_with (at_builtin; refine wpList_pushes (by rfl) (.tmp 122) (.tmp 124) 25 (by rfl) Try.underlying25 info_int (by rfl) (by decide) (base := wj.heap.size) (f := ci) (l := acc) (by rfl) (by exact HO2.out.keep (by repeat (with_reducible (first | assumption | exact Keeps.refl _ | refine Keeps.alloc ?_ _ | refine Keeps.drew ?_ | refine Keeps.drewN ?_ _ | refine Keeps.trans' ?_ (by assumption) (by assumption))))) [xx] _ _ (by rfl) (by exact Blk.top' _ _ (by first | rfl | simp)) ci_len ci_one (by skip; simp only [List.length_cons, List.length_nil]; omega) (by skip; simp only [List.length_cons, List.length_nil]; unfold maxLen; omega) (by first | omega | (simp only [sz_alloc]; omega) | (simp only [sz_drew]; omega) | (simp only [sz_alloc, sz_drew]; omega) | (simp only [sz_alloc, sz_drewN]; omega)) ?_; intro v7 wp7 hown7 hbel7 hgr7 hfr7; obtain ⟨ap7, cp7, rfl⟩ := own_form' hown7; have HO7 := Lib.hid hown7; have HG7 := Lib.hid hgr7; have HF7 := Lib.hid hfr7; clear hown7 hbel7 hgr7 hfr7)
                          go_roundw
                          case rel =>
                            have e := HS2.out
                            (try rw [HXX.out] at e)
                            exact ⟨k2, i2 + 1, ap7, cp7, (nm 2 (some q2)).2, acc ++ [xx], by simp, by go_num, Lib.hid (by have := HIK2.out; omega), Lib.hid (e.symm.trans HF2.out), by omega, by simp only [List.length_append, List.length_cons, List.length_nil]; omega, HO7.out, grown_own (grown_trans HGN.out (Keeps.grown (by repeat (with_reducible (first | assumption | exact Keeps.refl _ | refine Keeps.alloc ?_ _ | refine Keeps.drew ?_ | refine Keeps.drewN ?_ _))) _)) HG7.out HO2.out.row, TpAt.grown (TpAt.grown HRN.out (Keeps.grown (by repeat (with_reducible (first | assumption | exact Keeps.refl _ | refine Keeps.alloc ?_ _ | refine Keeps.drew ?_ | refine Keeps.drewN ?_ _))) none) (fun e => by cases e)) HG7.out (fun e => by
                              have h1 := HO2.out.row _ e
                              have h2 := HRJ.out.lt
                              omega)⟩
                          case measure => simp [intOf]; omega
                  case rest =>
                    obtain ⟨aa, ca, acc, rfl, hacc, hal, ho, hgw, hrd⟩ := hcut
                    have HB14 := Lib.hid (HBR.out.else (grown_trans HGJ.out hgw) rfl hrW)
                    have HR14 := Lib.hid hrd
                    have HO := Lib.hid ho
                    have HAC := Lib.hid hacc
                    obtain ⟨ax7, cx7, e7⟩ := own_form' HB14.out.own
                    subst e7
                    have g2 := HB14.out.blk.cell (j := 2) rfl
                    have f2 := HB14.out.blk.thawed 2
                    have hgl := HB14.out.blk.lt
                    have hsw := HB14.out.Bw
                    have hvl : vs.length ≤ 254 := by have := HBR.out.foot.here.2.1; omega
                    clear hgw hrd ho hacc
                    go_wp2_with (at_builtin; refine wpList_pushes (by rfl) (.tmp 127) (.tmp 129) 24 (by rfl) Try.underlying24 info_ints (by rfl) (by decide) (base := W.heap.size) (f := sle) (l := vs) (by rfl) (by exact HB14.out.own.keep (by repeat (with_reducible (first | assumption | exact Keeps.refl _ | refine Keeps.alloc ?_ _ | refine Keeps.drew ?_ | refine Keeps.drewN ?_ _ | refine Keeps.trans' ?_ (by assumption) (by assumption))))) [⟨aa, acc.length, ca⟩] _ _ (by rfl) (by exact Blk.top' _ _ (by first | rfl | simp)) sle_len sle_one (by skip; simp only [List.length_cons, List.length_nil]; omega) (by skip; simp only [List.length_cons, List.length_nil]; unfold maxLen; omega) (by first | omega | (simp only [sz_alloc]; omega) | (simp only [sz_drew]; omega) | (simp only [sz_alloc, sz_drew]; omega) | (simp only [sz_alloc, sz_drewN]; omega)) ?_; intro v7 wp7 hown7 hbel7 hgr7 hfr7; obtain ⟨ap7, cp7, rfl⟩ := own_form' hown7; have hB7 := Blk.grown (Blk.keep HB14.out.blk (by repeat (with_reducible (first | assumption | exact Keeps.refl _ | refine Keeps.alloc ?_ _ | refine Keeps.drew ?_ | refine Keeps.drewN ?_ _ | refine Keeps.trans' ?_ (by assumption) (by assumption))))) hgr7 (fun e => HB14.out.vg e.symm); have hc7 := hB7.cell (j := 2) rfl; have hf7 := hB7.thawed 2; have hl7 := hB7.lt; have HB7 := Lib.hid hB7; have HO7 := Lib.hid hown7; have HG7 := Lib.hid hgr7; have HF7 := Lib.hid hfr7; clear hB7 hown7 hbel7 hgr7 hfr7)
                    go_roundw
                    case rel =>
                      have hWj : W.heap.size ≤ wj.heap.size := by have := (HBR.out.keep).size; omega
                      have hj := HB14.out.join (HO.out.foot.imp fun _ h => Own.ints h) (fun b hb => Nat.le_trans hWj (HO.out.row b hb)) (fun e => by have := HO.out.row _ e; have := HBR.out.blk.lt; omega) (fun b hb e => by have := HO.out.row _ hb; have := own_lt' HBR.out.own e; omega) (fun b hb e => by subst hb; have := HO.out.row _ e; omega)
                      have hp := (hj.push (by repeat (with_reducible (first | assumption | exact Keeps.refl _ | refine Keeps.alloc ?_ _ | refine Keeps.drew ?_ | refine Keeps.drewN ?_ _))) HO7.out HG7.out HF7.out 2).weak (G := fun w => F1 w ∧ RowsAt (vs ++ [⟨aa, acc.length, ca⟩]) (ls ++ [acc]) w) (fun w h => ⟨h.1.1, rowsAt_snoc (s := ⟨aa, acc.length, ca⟩) h.1.2 h.2⟩)
                      rw [show (vs ++ [(⟨aa, acc.length, ca⟩ : Sle)]).length = vs.length + 1 by simp] at hp
                      have e := HS.out
                      rw [← HAC.out] at e
                      exact ⟨k, i + 1, .slice ap7 (vs.length + 1) cp7, (tb2 (some q)).2, vs ++ [(⟨aa, acc.length, ca⟩ : Sle)], ls ++ [acc], _, by go_num, Lib.hid (by have := HIK.out; omega), Lib.hid (e.symm.trans HF.out), by omega, by simp only [List.length_append, List.length_cons, List.length_nil]; omega, hp, TpAt.grown (TpAt.grown (TpAt.grown HR14.out (Keeps.grown (by repeat (with_reducible (first | assumption | exact Keeps.refl _ | refine Keeps.alloc ?_ _ | refine Keeps.drew ?_ | refine Keeps.drewN ?_ _))) none) (fun e => by cases e)) HG7.out (HB14.out.Av r rfl)) (grown_setCell _ _ _ _) (fun e => HB14.out.Ag (by injection e))⟩
                    case measure => simp [intOf]; omega
          case rest =>
            obtain ⟨x, vs, S2', hb, hrd⟩ := hcut
            obtain ⟨ax2, cx2, e7⟩ := own_form' hb.own
            subst e7
            have hnx := hb.next (β := Int) (e' := 3) (k' := 1) (f' := ci)
            obtain ⟨S2, hS2⟩ : ∃ Sx : Nat → Prop, Sx = (fun b => S2' b ∨ ((.slice ax2 vs.length cx2) : Value).ownBlock = some b) := ⟨_, rfl⟩
            obtain ⟨F2, hF2⟩ : ∃ Fx : World → Prop, Fx = (fun w => (F1 w ∧ RowsAt vs (dTabs l).1 w) ∧ Own w W.heap.size 25 1 sle (.slice ax2 vs.length cx2) vs) := ⟨_, rfl⟩
            rw [← hS2, ← hF2] at hnx
            have HF2 := Lib.hid hF2
            have HBN := Lib.hid hnx
            have HRN := Lib.hid hrd
            clear hnx hS2 hF2 hb hrd
            go_wp2_with fail
            refine (num_tp W r l 1 _ _ (HBN.out.keep) (HRN.out) hlb (by decide) (by decide)).mono ?_
            rintro e w20 ⟨rfl, hg7, hr7⟩
            have hb7 := nm1_bd (dTabs l).2
            have HR20 := Lib.hid (show TpAt W r l (dDataN l).2 w20 from hr7)
            have HB20 := Lib.hid (HBN.out.else hg7 rfl hrW)
            obtain ⟨N3, hN⟩ : ∃ N : Nat, (dDataN l).1 = N := ⟨(dDataN l).1.toNat, (Int.toNat_of_nonneg hb7.1).symm⟩
            have hN' : (nm 1 (dTabs l).2).1 = N3 := hN
            have hN23 : N3 ≤ 255 := by rw [hN'] at hb7; omega
            rw [hN']
            have HN3 := Lib.hid hN
            clear hg7 hr7 hb7 HBN HRN hN hN'
            go_upto_block 8 with fail
            go_cut [] (fun wx => ∃ x, Bld W.heap.size W g 28 (fun b => b = r) S2 F2 3 1 ci #[(.slice a0 n0 c0), (.slice ax1 (dFuns l).1.length cx1), (.slice ax2 vs.length cx2), x, .slice none 0 0, .int .i64 (dEntry l).1] x (dData l).1 wx ∧ TpAt W r l (dData l).2 wx)
            case first =>
              go_wp2_with fail
              go_loopw [18] (fun s13 wr => ∃ (k i : Nat) (x : Value) (p : PS) (acc : List Int), s13 = .int .i64 i ∧ Hid (i + k = N3) ∧ Hid (nmP 8 k p acc = dData l) ∧ k ≤ 255 ∧ acc.length + k ≤ 255 ∧ Bld W.heap.size W g 28 (fun b => b = r) S2 F2 3 1 ci #[(.slice a0 n0 c0), (.slice ax1 (dFuns l).1.length cx1), (.slice ax2 vs.length cx2), x, .slice none 0 0, .int .i64 (dEntry l).1] x acc wr ∧ TpAt W r l p wr) (fun s13 _ => N3 - (intOf s13).toNat)
              case atStart =>
                refine ⟨N3, 0, _, _, [], rfl, Lib.hid (Nat.zero_add _), Lib.hid ?_, hN23, by simpa using hN23, HB20.out, HR20.out⟩
                show nmP 8 N3 (dDataN l).2 [] = nmP 8 (dDataN l).1.toNat (dDataN l).2 []
                rw [HN3.out, Int.toNat_natCast]
              case round =>
                obtain ⟨k, i, x, p, acc, rfl, HIK, HF, hk, hac, hb, hrd⟩ := hrel
                have HBR := Lib.hid hb
                have HRR := Lib.hid hrd
                obtain ⟨_, _, _, o, hbr, -, -, hro⟩ := hrd
                have r1 := hbr.cell (j := 2) rfl
                have hrl := hbr.lt
                clear hb hbr
                cases k with
                | zero =>
                  have hik : N3 ≤ i := by have := HIK.out; omega
                  clear hro
                  go_wp2_with fail
                  go_meet
                  case rel =>
                    have e := HF.out
                    exact ⟨x, by rw [← e]; exact HBR.out, by rw [← e]; exact HRR.out⟩
                | succ k =>
                  have hik : i < N3 := by have := HIK.out; omega
                  cases p with
                  | none =>
                    have hro : o = true := hro
                    subst hro
                    go_wp2_with fail
                    go_meet
                    case rel =>
                      have e := HF.out
                      rw [nmP_stop] at e
                      exact ⟨x, by rw [← e]; exact HBR.out, by rw [← e]; exact HRR.out⟩
                  | some q =>
                    have hro : o = false := hro.1
                    subst hro
                    have HS := Lib.hid (nmP_step 8 k q acc)
                    have HKr : Hid (Keeps W wr) := Lib.hid HBR.out.keep
                    obtain ⟨ax7, cx7, e7⟩ := own_form' HBR.out.own
                    subst e7
                    go_wp2_with fail
                    refine (num_tp W r l 8 (some q) _ (HKr.out) (HRR.out) hlb (by decide) (by decide)).mono ?_
                    rintro e wa ⟨rfl, hga, hra⟩
                    generalize hxx : (nm 8 (some q)).1 = xx at *
                    have HXX := Lib.hid hxx
                    have HB14 := Lib.hid (HBR.out.else hga rfl hrW)
                    have HR14 := Lib.hid hra
                    have g3 := HB14.out.blk.cell (j := 3) rfl
                    have f3 := HB14.out.blk.thawed 3
                    have hgl := HB14.out.blk.lt
                    have hsw := HB14.out.Bw
                    clear hxx hga hra r1
                    go_wp2_with (at_builtin; refine wpList_pushes (by rfl) (.tmp 149) (.tmp 151) 25 (by rfl) Try.underlying25 info_int (by rfl) (by decide) (base := W.heap.size) (f := ci) (l := acc) (by rfl) (by exact HB14.out.own.keep (by repeat (with_reducible (first | assumption | exact Keeps.refl _ | refine Keeps.alloc ?_ _ | refine Keeps.drew ?_ | refine Keeps.drewN ?_ _ | refine Keeps.trans' ?_ (by assumption) (by assumption))))) [xx] _ _ (by rfl) (by exact Blk.top' _ _ (by first | rfl | simp)) ci_len ci_one (by skip; simp only [List.length_cons, List.length_nil]; omega) (by skip; simp only [List.length_cons, List.length_nil]; unfold maxLen; omega) (by first | omega | (simp only [sz_alloc]; omega) | (simp only [sz_drew]; omega) | (simp only [sz_alloc, sz_drew]; omega) | (simp only [sz_alloc, sz_drewN]; omega)) ?_; intro v7 wp7 hown7 hbel7 hgr7 hfr7; obtain ⟨ap7, cp7, rfl⟩ := own_form' hown7; have hB7 := Blk.grown (Blk.keep HB14.out.blk (by repeat (with_reducible (first | assumption | exact Keeps.refl _ | refine Keeps.alloc ?_ _ | refine Keeps.drew ?_ | refine Keeps.drewN ?_ _ | refine Keeps.trans' ?_ (by assumption) (by assumption))))) hgr7 (fun e => HB14.out.vg e.symm); have hc7 := hB7.cell (j := 3) rfl; have hf7 := hB7.thawed 3; have hl7 := hB7.lt; have HB7 := Lib.hid hB7; have HO7 := Lib.hid hown7; have HG7 := Lib.hid hgr7; have HF7 := Lib.hid hfr7; clear hB7 hown7 hbel7 hgr7 hfr7)
                    go_roundw
                    case rel =>
                      have e := HS.out
                      (try rw [HXX.out] at e)
                      have hp := Bld.push HB14.out (by repeat (with_reducible (first | assumption | exact Keeps.refl _ | refine Keeps.alloc ?_ _ | refine Keeps.drew ?_ | refine Keeps.drewN ?_ _))) HO7.out HG7.out HF7.out 3
                      rw [show (acc ++ [xx]).length = acc.length + 1 by simp] at hp
                      exact ⟨k, i + 1, .slice ap7 (acc.length + 1) cp7, (nm 8 (some q)).2, acc ++ [xx], by go_num, Lib.hid (by have := HIK.out; omega), Lib.hid (e.symm.trans HF.out), by omega, by simp only [List.length_append, List.length_cons, List.length_nil]; omega, hp, TpAt.grown (TpAt.grown (TpAt.grown HR14.out (Keeps.grown (by repeat (with_reducible (first | assumption | exact Keeps.refl _ | refine Keeps.alloc ?_ _ | refine Keeps.drew ?_ | refine Keeps.drewN ?_ _))) none) (fun e => by cases e)) HG7.out (HB14.out.Av r rfl)) (grown_setCell _ _ _ _) (fun e => HB14.out.Ag (by injection e))⟩
                    case measure => simp [intOf]; omega
            case rest =>
              obtain ⟨x, hb, hrd⟩ := hcut
              obtain ⟨ax3, cx3, e7⟩ := own_form' hb.own
              subst e7
              have hnx := hb.next (β := Ln) (e' := 57) (k' := 2) (f' := cln)
              obtain ⟨S3, hS3⟩ : ∃ Sx : Nat → Prop, Sx = (fun b => S2 b ∨ ((.slice ax3 (dData l).1.length cx3) : Value).ownBlock = some b) := ⟨_, rfl⟩
              obtain ⟨F3, hF3⟩ : ∃ Fx : World → Prop, Fx = (fun w => F2 w ∧ Own w W.heap.size 3 1 ci (.slice ax3 (dData l).1.length cx3) (dData l).1) := ⟨_, rfl⟩
              rw [← hS3, ← hF3] at hnx
              have HF3 := Lib.hid hF3
              have HBN := Lib.hid hnx
              have HRN := Lib.hid hrd
              clear hnx hS3 hF3 hb hrd
              go_wp2_with fail
              refine (num_tp W r l 2 _ _ (HBN.out.keep) (HRN.out) hlb (by decide) (by decide)).mono ?_
              rintro e w30 ⟨rfl, hg7, hr7⟩
              have hb7 := nm2_bd (dData l).2
              have HR30 := Lib.hid (show TpAt W r l (dLineN l).2 w30 from hr7)
              have HB30 := Lib.hid (HBN.out.else hg7 rfl hrW)
              obtain ⟨N4, hN⟩ : ∃ N : Nat, (dLineN l).1 = N := ⟨(dLineN l).1.toNat, (Int.toNat_of_nonneg hb7.1).symm⟩
              have hN' : (nm 2 (dData l).2).1 = N4 := hN
              have hN24 : N4 ≤ 65535 := by rw [hN'] at hb7; omega
              rw [hN']
              have HN4 := Lib.hid hN
              clear hg7 hr7 hb7 HBN HRN hN hN'
              go_upto_block 10 with fail
              go_cut [] (fun wx => ∃ x, Bld W.heap.size W g 28 (fun b => b = r) S3 F3 57 2 cln #[(.slice a0 n0 c0), (.slice ax1 (dFuns l).1.length cx1), (.slice ax2 vs.length cx2), (.slice ax3 (dData l).1.length cx3), x, .int .i64 (dEntry l).1] x (dLines l).1 wx ∧ TpAt W r l (dLines l).2 wx)
              case first =>
                go_wp2_with fail
                go_loopw [20] (fun s14 wr => ∃ (k i : Nat) (x : Value) (p : PS) (acc : List Ln), s14 = .int .i64 i ∧ Hid (i + k = N4) ∧ Hid (lnP k p acc = dLines l) ∧ k ≤ 65535 ∧ acc.length + k ≤ 65535 ∧ Bld W.heap.size W g 28 (fun b => b = r) S3 F3 57 2 cln #[(.slice a0 n0 c0), (.slice ax1 (dFuns l).1.length cx1), (.slice ax2 vs.length cx2), (.slice ax3 (dData l).1.length cx3), x, .int .i64 (dEntry l).1] x acc wr ∧ TpAt W r l p wr) (fun s14 _ => N4 - (intOf s14).toNat)
                case atStart =>
                  refine ⟨N4, 0, _, _, [], rfl, Lib.hid (Nat.zero_add _), Lib.hid ?_, hN24, by simpa using hN24, HB30.out, HR30.out⟩
                  show lnP N4 (dLineN l).2 [] = lnP (dLineN l).1.toNat (dLineN l).2 []
                  rw [HN4.out, Int.toNat_natCast]
                case round =>
                  obtain ⟨k, i, x, p, acc, rfl, HIK, HF, hk, hac, hb, hrd⟩ := hrel
                  have HBR := Lib.hid hb
                  have HRR := Lib.hid hrd
                  obtain ⟨_, _, _, o, hbr, -, -, hro⟩ := hrd
                  have r1 := hbr.cell (j := 2) rfl
                  have hrl := hbr.lt
                  clear hb hbr
                  cases k with
                  | zero =>
                    have hik : N4 ≤ i := by have := HIK.out; omega
                    clear hro
                    go_wp2_with fail
                    go_meet
                    case rel =>
                      have e := HF.out
                      exact ⟨x, by rw [← e]; exact HBR.out, by rw [← e]; exact HRR.out⟩
                  | succ k =>
                    have hik : i < N4 := by have := HIK.out; omega
                    cases p with
                    | none =>
                      have hro : o = true := hro
                      subst hro
                      go_wp2_with fail
                      go_meet
                      case rel =>
                        have e := HF.out
                        rw [lnP_stop] at e
                        exact ⟨x, by rw [← e]; exact HBR.out, by rw [← e]; exact HRR.out⟩
                    | some q =>
                      have hro : o = false := hro.1
                      subst hro
                      have HS := Lib.hid (lnP_step k q acc)
                      have HKr : Hid (Keeps W wr) := Lib.hid HBR.out.keep
                      obtain ⟨ax7, cx7, e7⟩ := own_form' HBR.out.own
                      subst e7
                      go_wp2_with fail
                      refine (num_tp W r l 2 (some q) _ (HKr.out) (HRR.out) hlb (by decide) (by decide)).mono ?_
                      rintro e wa ⟨rfl, hga, hra⟩
                      have HGa := Lib.hid hga
                      have HRa := Lib.hid hra
                      generalize hx1 : (nm 2 (some q)).1 = x1 at *
                      have HX1 := Lib.hid hx1
                      clear hga hra r1 hx1
                      go_wp2_with fail
                      refine (num_tp W r l 2 (nm 2 (some q)).2 _ (keeps_put HKr.out hrW HGa.out) (HRa.out) hlb (by decide) (by decide)).mono ?_
                      rintro e wd ⟨rfl, hgd, hrd⟩
                      rw [show (nm 2 (nm 2 (some q)).2).1 = (ln2 (some q)).1 from rfl]
                      generalize hx2 : (ln2 (some q)).1 = x2 at *
                      have HX2 := Lib.hid hx2
                      have HB14 := Lib.hid (HBR.out.else (grown_trans HGa.out hgd) rfl hrW)
                      have HR14 := Lib.hid (show TpAt W r l (ln2 (some q)).2 wd from hrd)
                      have g4 := HB14.out.blk.cell (j := 4) rfl
                      have f4 := HB14.out.blk.thawed 4
                      have hgl := HB14.out.blk.lt
                      have hsw := HB14.out.Bw
                      clear hx2 hgd hrd
                      go_wp2_with (at_builtin; refine wpList_pushes (by rfl) (.tmp 173) (.tmp 177) 26 (by rfl) Try.underlying26 info_line (by rfl) (by decide) (base := W.heap.size) (f := cln) (l := acc) (by rfl) (by exact HB14.out.own.keep (by repeat (with_reducible (first | assumption | exact Keeps.refl _ | refine Keeps.alloc ?_ _ | refine Keeps.drew ?_ | refine Keeps.drewN ?_ _ | refine Keeps.trans' ?_ (by assumption) (by assumption))))) [⟨x1, x2⟩] _ _ (by rfl) (by exact Blk.top' _ _ (by first | rfl | simp)) cln_len cln_one (by skip; simp only [List.length_cons, List.length_nil]; omega) (by skip; simp only [List.length_cons, List.length_nil]; unfold maxLen; omega) (by first | omega | (simp only [sz_alloc]; omega) | (simp only [sz_drew]; omega) | (simp only [sz_alloc, sz_drew]; omega) | (simp only [sz_alloc, sz_drewN]; omega)) ?_; intro v7 wp7 hown7 hbel7 hgr7 hfr7; obtain ⟨ap7, cp7, rfl⟩ := own_form' hown7; have hB7 := Blk.grown (Blk.keep HB14.out.blk (by repeat (with_reducible (first | assumption | exact Keeps.refl _ | refine Keeps.alloc ?_ _ | refine Keeps.drew ?_ | refine Keeps.drewN ?_ _ | refine Keeps.trans' ?_ (by assumption) (by assumption))))) hgr7 (fun e => HB14.out.vg e.symm); have hc7 := hB7.cell (j := 4) rfl; have hf7 := hB7.thawed 4; have hl7 := hB7.lt; have HB7 := Lib.hid hB7; have HO7 := Lib.hid hown7; have HG7 := Lib.hid hgr7; have HF7 := Lib.hid hfr7; clear hB7 hown7 hbel7 hgr7 hfr7)
                      go_roundw
                      case rel =>
                        have e := HS.out
                        (try rw [HX1.out] at e)
                        (try rw [HX2.out] at e)
                        have hp := Bld.push HB14.out (by repeat (with_reducible (first | assumption | exact Keeps.refl _ | refine Keeps.alloc ?_ _ | refine Keeps.drew ?_ | refine Keeps.drewN ?_ _))) HO7.out HG7.out HF7.out 4
                        rw [show (acc ++ [(⟨x1, x2⟩ : Ln)]).length = acc.length + 1 by simp] at hp
                        exact ⟨k, i + 1, .slice ap7 (acc.length + 1) cp7, (ln2 (some q)).2, acc ++ [(⟨x1, x2⟩ : Ln)], by go_num, Lib.hid (by have := HIK.out; omega), Lib.hid (e.symm.trans HF.out), by omega, by simp only [List.length_append, List.length_cons, List.length_nil]; omega, hp, TpAt.grown (TpAt.grown (TpAt.grown HR14.out (Keeps.grown (by repeat (with_reducible (first | assumption | exact Keeps.refl _ | refine Keeps.alloc ?_ _ | refine Keeps.drew ?_ | refine Keeps.drewN ?_ _))) none) (fun e => by cases e)) HG7.out (HB14.out.Av r rfl)) (grown_setCell _ _ _ _) (fun e => HB14.out.Ag (by injection e))⟩
                      case measure => simp [intOf]; omega
              case rest =>
                obtain ⟨x, hb, hrd⟩ := hcut
                obtain ⟨ax4, cx4, e7⟩ := own_form' hb.own
                subst e7
                have hkr : Keeps W wc := hb.keep
                have HKR := Lib.hid hkr
                have HBR := Lib.hid hb
                have hBz := HB0.out.keep hkr
                have d0 := (hBz).cell (j := 0) rfl
                have d1 := (hBz).cell (j := 1) rfl
                have d2 := (hBz).cell (j := 2) rfl
                have d3 := (hBz).cell (j := 3) rfl
                have d4 := (hBz).cell (j := 4) rfl
                have d5 := (hBz).cell (j := 5) rfl
                have u0 := (hBz).thawed 0
                have u1 := (hBz).thawed 1
                have u2 := (hBz).thawed 2
                have u3 := (hBz).thawed 3
                have u4 := (hBz).thawed 4
                have u5 := (hBz).thawed 5
                have hzs : w.heap.size < wc.heap.size := hBz.lt
                have HBZ := Lib.hid hBz
                obtain ⟨_, _, i9, o, hbr, -, -, hro⟩ := hrd
                have r0 := hbr.cell (j := 1) rfl
                have r1 := hbr.cell (j := 2) rfl
                have hrl := hbr.lt
                clear hb hbr hBz hkr
                cases hP : (dLines l).2 with
                | none =>
                  rw [hP] at hro
                  have hro : o = true := hro
                  subst hro
                  have hx := HD.out.symm.trans (dec_short (by omega) HD1.out (by omega) hP)
                  injection hx with hx1 hx2
                  subst hx1 hx2
                  clear hP
                  go_wp2_with fail
                  obtain ⟨wf, hwf⟩ : ∃ wf : World, wf = ((((((((((((wc).setCell ⟨w.heap.size, 0, none⟩ (.slice none 0 0))).setCell ⟨w.heap.size, 1, none⟩ (.slice none 0 0))).setCell ⟨w.heap.size, 2, none⟩ (.slice none 0 0))).setCell ⟨w.heap.size, 3, none⟩ (.slice none 0 0))).setCell ⟨w.heap.size, 4, none⟩ (.slice none 0 0))).setCell ⟨w.heap.size, 5, none⟩ (.int .i64 0)) := ⟨_, rfl⟩
                  rw [← hwf]
                  obtain ⟨hBf, hgf⟩ := put6 (HBZ.out) _ _ _ _ _ _ hwf
                  have HK := Lib.hid (keeps_put (HKW.out.trans HKR.out) (Nat.le_refl _) hgf)
                  have HGF := Lib.hid hgf
                  have e0 := (hBf).cell (j := 0) rfl
                  have e1 := (hBf).cell (j := 1) rfl
                  have e2 := (hBf).cell (j := 2) rfl
                  have e3 := (hBf).cell (j := 3) rfl
                  have e4 := (hBf).cell (j := 4) rfl
                  have e5 := (hBf).cell (j := 5) rfl
                  clear hwf hBf hgf
                  exact bodyPost_ret (v := .tuple #[.agg #[.slice none 0 0, .slice none 0 0, .slice none 0 0, .slice none 0 0, .slice none 0 0, .int .i64 0], .int .i64 5]) (by simp [results, Try.results13, go_sem, e0, e1, e2, e3, e4, e5]) rfl ⟨_, rfl, zimg_at _, HK.out⟩
                | some q =>
                  rw [hP] at hro
                  obtain ⟨ho, hi9, hqd⟩ := hro
                  subst ho
                  have hql : q.length = l.length - i9 := by rw [hqd, List.length_drop]
                  have HPP := Lib.hid hP
                  have HQL := Lib.hid hql
                  clear hP hqd hql
                  by_cases hq : 0 < q.length
                  · have hx := HD.out.symm.trans (dec_more (by omega) HD1.out (by omega) HPP.out hq)
                    injection hx with hx1 hx2
                    subst hx1 hx2
                    have hi8 : i9 < l.length := by have := HQL.out; omega
                    go_wp2_with fail
                    obtain ⟨wf, hwf⟩ : ∃ wf : World, wf = ((((((((((((wc).setCell ⟨w.heap.size, 0, none⟩ (.slice none 0 0))).setCell ⟨w.heap.size, 1, none⟩ (.slice none 0 0))).setCell ⟨w.heap.size, 2, none⟩ (.slice none 0 0))).setCell ⟨w.heap.size, 3, none⟩ (.slice none 0 0))).setCell ⟨w.heap.size, 4, none⟩ (.slice none 0 0))).setCell ⟨w.heap.size, 5, none⟩ (.int .i64 0)) := ⟨_, rfl⟩
                    rw [← hwf]
                    obtain ⟨hBf, hgf⟩ := put6 (HBZ.out) _ _ _ _ _ _ hwf
                    have HK := Lib.hid (keeps_put (HKW.out.trans HKR.out) (Nat.le_refl _) hgf)
                    have HGF := Lib.hid hgf
                    have e0 := (hBf).cell (j := 0) rfl
                    have e1 := (hBf).cell (j := 1) rfl
                    have e2 := (hBf).cell (j := 2) rfl
                    have e3 := (hBf).cell (j := 3) rfl
                    have e4 := (hBf).cell (j := 4) rfl
                    have e5 := (hBf).cell (j := 5) rfl
                    clear hwf hBf hgf
                    exact bodyPost_ret (v := .tuple #[.agg #[.slice none 0 0, .slice none 0 0, .slice none 0 0, .slice none 0 0, .slice none 0 0, .int .i64 0], .int .i64 4]) (by simp [results, Try.results13, go_sem, e0, e1, e2, e3, e4, e5]) rfl ⟨_, rfl, zimg_at _, HK.out⟩
                  · have hx := HD.out.symm.trans (dec_end (by omega) HD1.out (by omega) HPP.out hq)
                    have hi8 : l.length ≤ i9 := by have := HQL.out; omega
                    have hF := HBR.out.foot.and HBR.out.own.foot
                    have hh := hF.here
                    rw [HF3.out, HF2.out, HF1.out, HF0.out] at hh
                    obtain ⟨⟨⟨⟨⟨hT, hFu⟩, hRows⟩, hTb⟩, hDa⟩, hLi⟩ := hh
                    have hI : ImgAt wc (.agg #[.slice a0 n0 c0, .slice ax1 (dFuns l).1.length cx1, .slice ax2 vs.length cx2, .slice ax3 (dData l).1.length cx3, .slice ax4 (dLines l).1.length cx4, .int .i64 (dEntry l).1]) (dImg l) := ⟨_, _, _, _, _, rfl, hT, hFu.funs, tabs_of hTb hRows, hDa.ints, hLi.lines⟩
                    have HI := Lib.hid hI
                    have HF := Lib.hid hF
                    have HX := Lib.hid hx
                    have g0 := (HBR.out.blk).cell (j := 0) rfl
                    have g1 := (HBR.out.blk).cell (j := 1) rfl
                    have g2 := (HBR.out.blk).cell (j := 2) rfl
                    have g3 := (HBR.out.blk).cell (j := 3) rfl
                    have g4 := (HBR.out.blk).cell (j := 4) rfl
                    have g5 := (HBR.out.blk).cell (j := 5) rfl
                    clear hx hF hT hFu hRows hTb hDa hLi hI
                    go_wp2_with fail
                    refine (imageFault_any _ (dImg l) _ HI.out).mono ?_
                    rintro e wd ⟨rfl, hkd⟩
                    have hBz := HBZ.out.keep hkd
                    have d0 := (hBz).cell (j := 0) rfl
                    have d1 := (hBz).cell (j := 1) rfl
                    have d2 := (hBz).cell (j := 2) rfl
                    have d3 := (hBz).cell (j := 3) rfl
                    have d4 := (hBz).cell (j := 4) rfl
                    have d5 := (hBz).cell (j := 5) rfl
                    have u0 := (hBz).thawed 0
                    have u1 := (hBz).thawed 1
                    have u2 := (hBz).thawed 2
                    have u3 := (hBz).thawed 3
                    have u4 := (hBz).thawed 4
                    have u5 := (hBz).thawed 5
                    have hzs : w.heap.size < wd.heap.size := hBz.lt
                    have HBZ2 := Lib.hid hBz
                    have HKD := Lib.hid hkd
                    have hgb := HBR.out.blk.keep hkd
                    have g0 := (hgb).cell (j := 0) rfl
                    have g1 := (hgb).cell (j := 1) rfl
                    have g2 := (hgb).cell (j := 2) rfl
                    have g3 := (hgb).cell (j := 3) rfl
                    have g4 := (hgb).cell (j := 4) rfl
                    have g5 := (hgb).cell (j := 5) rfl
                    clear hBz hkd hgb r0 r1
                    generalize hfe : imgFault (dImg l) = fe at *
                    by_cases hz : fe = 0
                    · have hx := HX.out
                      (try rw [hfe] at hx)
                      rw [if_pos hz] at hx
                      injection hx with hx1 hx2
                      subst hx1 hx2
                      subst hz
                      have HFE := Lib.hid hfe
                      clear hfe
                      go_wp2_with fail
                      obtain ⟨wf, hwf⟩ : ∃ wf : World, wf = ((((((((((((wd).setCell ⟨w.heap.size, 0, none⟩ (.slice a0 n0 c0))).setCell ⟨w.heap.size, 1, none⟩ (.slice ax1 (dFuns l).1.length cx1))).setCell ⟨w.heap.size, 2, none⟩ (.slice ax2 vs.length cx2))).setCell ⟨w.heap.size, 3, none⟩ (.slice ax3 (dData l).1.length cx3))).setCell ⟨w.heap.size, 4, none⟩ (.slice ax4 (dLines l).1.length cx4))).setCell ⟨w.heap.size, 5, none⟩ (.int .i64 (dEntry l).1)) := ⟨_, rfl⟩
                      rw [← hwf]
                      obtain ⟨hBf, hgf⟩ := put6 (HBZ2.out) _ _ _ _ _ _ hwf
                      have HK := Lib.hid (keeps_put ((HKW.out.trans HKR.out).trans HKD.out) (Nat.le_refl _) hgf)
                      have HGF := Lib.hid hgf
                      have e0 := (hBf).cell (j := 0) rfl
                      have e1 := (hBf).cell (j := 1) rfl
                      have e2 := (hBf).cell (j := 2) rfl
                      have e3 := (hBf).cell (j := 3) rfl
                      have e4 := (hBf).cell (j := 4) rfl
                      have e5 := (hBf).cell (j := 5) rfl
                      clear hwf hBf hgf
                      have hF2 := (HF.out.keep HKD.out).grown HGF.out (fun b hb e => by
                        injection e with e
                        subst e
                        rcases hb with hb | hb
                        · have := HBR.out.SB _ hb; omega
                        · have := HBR.out.own.row _ hb; omega)
                      have hh := hF2.here
                      rw [HF3.out, HF2.out, HF1.out, HF0.out] at hh
                      obtain ⟨⟨⟨⟨⟨hT, hFu⟩, hRows⟩, hTb⟩, hDa⟩, hLi⟩ := hh
                      exact bodyPost_ret (v := .tuple #[.agg #[.slice a0 n0 c0, .slice ax1 (dFuns l).1.length cx1, .slice ax2 vs.length cx2, .slice ax3 (dData l).1.length cx3, .slice ax4 (dLines l).1.length cx4, .int .i64 (dEntry l).1], .int .i64 0]) (by simp [results, Try.results13, go_sem, e0, e1, e2, e3, e4, e5]) rfl ⟨_, rfl, (⟨_, _, _, _, _, rfl, hT, hFu.funs, tabs_of hTb hRows, hDa.ints, hLi.lines⟩ : ImgAt wf _ (dImg l)), HK.out⟩
                    · have hx := HX.out
                      (try rw [hfe] at hx)
                      rw [if_neg hz] at hx
                      injection hx with hx1 hx2
                      subst hx1
                      subst hx2
                      have tf : (er == 0) = false := by simpa using hz
                      have HFE := Lib.hid hfe
                      clear hfe
                      go_wp2_with fail
                      obtain ⟨wf, hwf⟩ : ∃ wf : World, wf = ((((((((((((wd).setCell ⟨w.heap.size, 0, none⟩ (.slice none 0 0))).setCell ⟨w.heap.size, 1, none⟩ (.slice none 0 0))).setCell ⟨w.heap.size, 2, none⟩ (.slice none 0 0))).setCell ⟨w.heap.size, 3, none⟩ (.slice none 0 0))).setCell ⟨w.heap.size, 4, none⟩ (.slice none 0 0))).setCell ⟨w.heap.size, 5, none⟩ (.int .i64 0)) := ⟨_, rfl⟩
                      rw [← hwf]
                      obtain ⟨hBf, hgf⟩ := put6 (HBZ2.out) _ _ _ _ _ _ hwf
                      have HK := Lib.hid (keeps_put ((HKW.out.trans HKR.out).trans HKD.out) (Nat.le_refl _) hgf)
                      have HGF := Lib.hid hgf
                      have e0 := (hBf).cell (j := 0) rfl
                      have e1 := (hBf).cell (j := 1) rfl
                      have e2 := (hBf).cell (j := 2) rfl
                      have e3 := (hBf).cell (j := 3) rfl
                      have e4 := (hBf).cell (j := 4) rfl
                      have e5 := (hBf).cell (j := 5) rfl
                      clear hwf hBf hgf
                      exact bodyPost_ret (v := .tuple #[.agg #[.slice none 0 0, .slice none 0 0, .slice none 0 0, .slice none 0 0, .slice none 0 0, .int .i64 0], .int .i64 er]) (by simp [results, Try.results13, go_sem, e0, e1, e2, e3, e4, e5]) rfl ⟨_, rfl, zimg_at _, HK.out⟩
end Go.Proofs.Ytpgifkhgefbnfaa
