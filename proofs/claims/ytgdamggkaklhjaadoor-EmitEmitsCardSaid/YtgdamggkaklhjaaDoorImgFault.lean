/-
The document's ImageFault: the fault of an image.
-/
import Derived.Test.YtgdamggkaklhjaaDoorNumsCopy
set_option linter.all false
namespace Go.Proofs.YtgdamggkaklhjaaDoor
open Go.RowKit BH
set_option maxHeartbeats 2000000
set_option maxRecDepth 100000

theorem in_yes' (n lo hi : Int) (w : World) (h1 : lo ≤ n) (h2 : n ≤ hi) :
  Calls Tryd.prog 20 #[.int .i64 n, .int .i64 lo, .int .i64 hi] w fun e w' => e = .returned (.bool true) ∧ w' = w := (in_yes n lo hi w h1 h2).mono fun _ _ ⟨a, b⟩ => ⟨a, b.symm⟩
theorem in_no' (n lo hi : Int) (w : World) (h : n < lo ∨ hi < n) :
  Calls Tryd.prog 20 #[.int .i64 n, .int .i64 lo, .int .i64 hi] w fun e w' => e = .returned (.bool false) ∧ w' = w := (in_no n lo hi w h).mono fun _ _ ⟨a, b⟩ => ⟨a, b.symm⟩

theorem lastAt_pos {l : List Ln} {k : Nat} (h : 0 < k) : lastAt l k = (nth l (k - 1)).At := by
 cases k with
 | zero => exact absurd h (Nat.lt_irrefl _)
 | succ j => rfl

theorem imageFault_any (v : Value) (m : Img) (w : World) (hv : ImgAt w v m) :
  Calls Tryd.prog 37 #[v] w fun e w' => e = .returned (.int .i64 (imgFault m)) ∧ Keeps w w' := by
 obtain ⟨v0, v1, v2, v3, v4, rfl, ⟨Hq, c0, rfl, t1, t2, -, -⟩, ⟨Hr, c1, rfl, f1, f2, -, f3⟩, ⟨tv, ⟨Hs, c2, rfl, g1, g2, -, g3⟩, rv⟩, ⟨Ht, c3, rfl, d1, d2, -, d3⟩, ⟨Hu, c4, rfl, l1, l2, -, l3⟩⟩ := hv
 unfold maxLen at t2 f2 g2 d2 l2
 obtain ⟨W1, Hi, Hv, Hw, i0, i1, i2, i3, i4, i5⟩ := box6 w 28 (.slice Hq m.Text.length c0) (.slice Hr m.Funcs.length c1) (.slice Hs m.Tables.length c2) (.slice Ht m.Data.length c3) (.slice Hu m.Lines.length c4) (.int .i64 m.Entry)
 have HW := jH Hi
 clear Hi
 by_cases hbig : 8000 < m.Text.length
 ·have HF := jH (show imgFault m = 1 by unfold imgFault; rw [if_pos hbig])
  clear f3 g3 rv d3 l3 i0 i1 i2 i3 i4 i5
  go_enter Tryd.func37, Tryd.ntmps37
  go_wp2
  all_goals first
   | (exfalso; omega)
   | (go_ret
      exact ⟨by rw [HF.out]; rfl, (Keeps.refl _).alloc _⟩)
 by_cases hfun : 40 < m.Funcs.length
 ·have HF := jH (show imgFault m = 1 by unfold imgFault funcsFault; rw [if_neg hbig, if_pos hfun]; rfl)
  clear f3 g3 rv d3 l3 i0 i1 i2 i3 i4 i5
  go_enter Tryd.func37, Tryd.ntmps37
  go_wp2
  all_goals first
   | (exfalso; omega)
   | (go_ret
      exact ⟨by rw [HF.out]; rfl, (Keeps.refl _).alloc _⟩)
 have HF := jH (imgFault_scan m hbig hfun)
 have k1 : m.Text.length ≤ 8000 := by omega
 have k2 : m.Funcs.length ≤ 40 := by omega
 have k3 : decide (8000 < (m.Text.length : Int)) = false := by simp; omega
 have k4 : decide (40 < (m.Funcs.length : Int)) = false := by simp; omega
 clear hbig hfun
 go_enter Tryd.func37, Tryd.ntmps37
 go_wp2
 rw [← HW.out]
 go_loopw [3, 4, 5, 6] (fun s3 s4 _ _ wr => ∃ k : Nat, k ≤ m.Funcs.length ∧ s3 = .int .i64 (sumF m k) ∧ s4 = .int .i64 k ∧ 0 ≤ sumF m k ∧ sumF m k ≤ m.Text.length ∧ Keeps W1 wr ∧ Hid (scan (funBad m) (endFault m (entryFault m)) (m.Funcs.length - k) k = imgFault m)) (fun _ i _ _ _ => m.Funcs.length - (intOf i).toNat)
 case atStart => exact ⟨0, Nat.zero_le _, rfl, rfl, by simp [sumF], by simp [sumF], Keeps.refl _, HF.out.symm⟩
 case round =>
 obtain ⟨k, hk, rfl, rfl, hs0, hs1, H1, H0⟩ := hrel
 have j0 := H1.cell i0
 have j1 := H1.cell i1
 have H8 := Hv.trans H1
 have Hx : w.heap.size < wr.heap.size := Nat.lt_of_lt_of_le Hw H1.size
 by_cases hlt : k < m.Funcs.length
 ·obtain ⟨b, H6, rfl, hc⟩ := f3 jo
  have Hy := jv wr b (H6 + k * 3) (.string (nth m.Funcs k).Name) (H8.cell (hc k 0 hlt jo))
  have Hz := jc wr b (H6 + k * 3 + 1) ((nth m.Funcs k).Start) (H8.cell (hc k 1 hlt jo))
  have HA := jc wr b (H6 + k * 3 + 2) ((nth m.Funcs k).Size) (H8.cell (hc k 2 hlt jo))
  have Hj := jH (fun j (hj : j < k) (W' : World) (h : Keeps wr W') => (h.cell (H8.cell (hc j 0 jo jo)) : W'.cell? ⟨b, H6 + j * 3 + 0, none⟩ = some (.string (nth m.Funcs j).Name)))
  clear hc g3 rv d3 l3 i2 i3 i4 i5
  rcases funBad_cases m k with ⟨hn, hv⟩ | ⟨hn, H2⟩
  ·have HB := jH ((scan_stop hlt (by rw [hv]; decide) H0.out).trans hv)
   clear H0 hv i0 i1
   unfold fname at hn
   go_wp2_with (go_at_call 66; refine (nameMay_any _ _).mono ?_; rintro e w' ⟨rfl, rfl⟩)
   go_ret
   exact ⟨by rw [HB.out]; rfl, H8.alloc _⟩
  unfold fname at hn
  have HR := jH H2
  clear H2
  obtain ⟨Wf, Hd⟩ := jE (wr.alloc (.cells #[.string (nth m.Funcs k).Name, .int .i64 (nth m.Funcs k).Start, .int .i64 (nth m.Funcs k).Size] 40))
  have Hg : Keeps wr Wf := by rw [Hd]; exact (Keeps.refl _).alloc _
  have fa : Wf.cell? ⟨wr.heap.size, 0, none⟩ = some (.string (nth m.Funcs k).Name) := by rw [Hd]; simp
  have fb : Wf.cell? ⟨wr.heap.size, 1, none⟩ = some (.int .i64 (nth m.Funcs k).Start) := by rw [Hd]; simp
  have fc : Wf.cell? ⟨wr.heap.size, 2, none⟩ = some (.int .i64 (nth m.Funcs k).Size) := by rw [Hd]; simp
  have HD := jH Hd
  clear Hd
  have m0 := Hg.cell j0
  have m1 := Hg.cell j1
  go_wp2_with (go_at_call 66; refine (nameMay_any _ _).mono ?_; rintro e w' ⟨rfl, rfl⟩)
  rw [← HD.out]
  clear i0 i1 j0 j1 Hy Hz HA
  go_loopw [6] (fun s6 wx => ∃ j : Nat, j ≤ k ∧ s6 = .int .i64 j ∧ Keeps Wf wx ∧ Hid (∀ i, i < j → sameName m k i = false)) (fun s6 _ => k - (intOf s6).toNat)
  case atStart => exact ⟨0, Nat.zero_le _, rfl, Keeps.refl _, fun j hj => absurd hj (Nat.not_lt_zero _)⟩
  case round =>
  rename_i wx _
  obtain ⟨j, hj, rfl, H4, H5⟩ := hrel
  have n0 := H4.cell m0
  have n1 := H4.cell m1
  have fa' := H4.cell fa
  have fb' := H4.cell fb
  have fc' := H4.cell fc
  have Ha := Hg.trans H4
  clear m0 m1 fa fb fc
  by_cases hjk : j < k
  ·have ce := Hj.out j hjk _ Ha
   simp only [Nat.add_zero] at ce
   cases hq : sameName m k j with
   | true =>
    have HG : ((nth m.Funcs j).Name.toList == (nth m.Funcs k).Name.toList) = true := hq
    have HB : Hid (imgFault m = 7) := by
     rcases HR.out with ⟨ha, hv⟩ | ⟨ha, -⟩
     ·exact (scan_stop hlt (by rw [hv]; decide) H0.out).trans hv
     rw [anyN_yes hjk hq] at ha; cases ha
    clear hq H5
    go_wp2
    go_quiet (fail)
    go_wp2
    go_ret
    exact ⟨by rw [HB.out]; rfl, (H8.trans Ha).drewN _⟩
   | false =>
    have HG : ((nth m.Funcs j).Name.toList == (nth m.Funcs k).Name.toList) = false := hq
    have HQ := jH hq
    clear hq
    go_wp2
    go_quiet (fail)
    go_wp2
    go_roundw
    case rel => exact ⟨j + 1, by omega, by go_num, H4.drewN _, (show Hid _ from fun i hi => by
     by_cases e : i = j
     ·subst e; exact HQ.out
     exact H5.out i jo)⟩
    case measure => exact jm
  have HC : Hid ((((nth m.Funcs k).Start ≠ sumF m k ∨ (nth m.Funcs k).Size < 1 ∨ (m.Text.length : Int) - sumF m k < (nth m.Funcs k).Size) ∧ funBad m k = 8) ∨ (((nth m.Funcs k).Start = sumF m k ∧ 1 ≤ (nth m.Funcs k).Size ∧ (nth m.Funcs k).Size ≤ (m.Text.length : Int) - sumF m k) ∧ funBad m k = 0)) := by
   rcases HR.out with ⟨ha, hv⟩ | ⟨-, h⟩
   ·rw [anyN_no (fun i hi => H5.out i jo)] at ha; cases ha
   exact h
  clear H5 Hj
  have Hc := H1.trans Ha
  rcases HC.out with ⟨hs, hv⟩ | ⟨⟨Hk, hs3, hs4⟩, hv⟩
  ·have HB := jH ((scan_stop hlt (by rw [hv]; decide) H0.out).trans hv)
   clear H0 hv
   by_cases hst : (nth m.Funcs k).Start = sumF m k
   ·have e1 : ((nth m.Funcs k).Start != sumF m k) = false := by simpa using hst
    have hs' : (nth m.Funcs k).Size < 1 ∨ (m.Text.length : Int) - sumF m k < (nth m.Funcs k).Size := by
     rcases hs with h | h
     ·exact absurd hst h
     exact h
    clear hst hs
    go_wp2_with (go_at_call 20; refine (in_no _ _ _ _ jo).mono ?_; rintro e w' ⟨rfl, rfl⟩)
    go_ret
    exact ⟨by rw [HB.out]; rfl, H8.trans Ha⟩
   have e1 : ((nth m.Funcs k).Start != sumF m k) = true := by simpa using hst
   clear hst hs
   go_wp2_with fail
   go_ret
   exact ⟨by rw [HB.out]; rfl, H8.trans Ha⟩
  have HB := jH (scan_step hlt hv H0.out)
  have e1 : ((nth m.Funcs k).Start != sumF m k) = false := by simpa using Hk
  have HS := jH (show sumF m (k + 1) = sumF m k + (nth m.Funcs k).Size from rfl)
  clear H0 hv Hk
  go_wp2_with (go_at_call 20; refine (in_yes _ _ _ _ jo jo).mono ?_; rintro e w' ⟨rfl, rfl⟩)
  go_roundw
  case rel => exact ⟨k + 1, by omega, by rw [HS.out], by go_num, by rw [HS.out]; omega, by rw [HS.out]; omega, Hc, HB.out⟩
  case measure => exact jm
 obtain rfl : k = m.Funcs.length := by omega
 have HE := jH (scan_end rfl H0.out)
 clear f3 H0 i0 i1
 have j2 := H1.cell i2
 have j3 := H1.cell i3
 have j4 := H1.cell i4
 have j5 := H1.cell i5
 clear i2 i3 i4 i5
 by_cases he : sumF m m.Funcs.length < (m.Text.length : Int)
 ·have HV := jH (HE.out.trans (show endFault m (entryFault m) = 8 by unfold endFault; rw [if_pos jo]))
  clear g3 rv d3 l3
  go_wp2_with fail
  go_ret
  exact ⟨by rw [HV.out]; rfl, H8⟩
 have HV := jH (HE.out.trans (show endFault m (entryFault m) = entryFault m by unfold endFault; rw [if_neg jo]))
 by_cases hE : m.Entry < 0 ∨ (m.Funcs.length : Int) ≤ m.Entry
 ·have HR := jH (HV.out.trans (show entryFault m = 6 by unfold entryFault; rw [if_pos hE]))
  clear g3 rv d3 l3
  go_wp2_with (go_at_call 20; refine (in_no _ _ _ _ jo).mono ?_; rintro e w' ⟨rfl, rfl⟩)
  go_ret
  exact ⟨by rw [HR.out]; rfl, H8⟩
 obtain ⟨hE1, hE2⟩ : 0 ≤ m.Entry ∧ m.Entry < (m.Funcs.length : Int) := by omega
 by_cases hN : 20 < m.Tables.length ∨ 64 < m.Data.length
 ·have HR := jH (HV.out.trans (show entryFault m = 1 by unfold entryFault; rw [if_neg hE, if_pos hN]))
  clear g3 rv d3 l3 hE
  go_wp2_with (go_at_call 20; refine (in_yes _ _ _ _ jo jo).mono ?_; rintro e w' ⟨rfl, rfl⟩)
  all_goals first
   | (exfalso; omega)
   | (go_ret
      exact ⟨by rw [HR.out]; rfl, H8⟩)
 have HR := jH (HV.out.trans (show entryFault m = tabsFault m by unfold entryFault; rw [if_neg hE, if_neg hN]))
 obtain ⟨hN1, hN2⟩ : m.Tables.length ≤ 20 ∧ m.Data.length ≤ 64 := by omega
 have b2 : decide (20 < (m.Tables.length : Int)) = false := by simp; omega
 clear hE hN
 obtain ⟨wo, rfl⟩ := jE wr
 go_wp2_with (go_at_call 20; refine (in_yes _ _ _ _ jo jo).mono ?_; rintro e w' ⟨rfl, rfl⟩)
 clear HF HE HV
 go_loopw [7, 8] (fun s7 _ wx => ∃ i : Nat, i ≤ m.Tables.length ∧ s7 = .int .i64 i ∧ Keeps wo wx ∧ Hid (scan (tabBad m) (dataFault m) (m.Tables.length - i) i = tabsFault m)) (fun s7 _ _ => m.Tables.length - (intOf s7).toNat)
 case atStart => exact ⟨0, Nat.zero_le _, rfl, Keeps.refl _, (show scan _ _ _ _ = tabsFault m from rfl)⟩
 case round =>
 obtain ⟨wx, rfl⟩ := jE wr
 obtain ⟨i, hi, rfl, H4, H0⟩ := hrel
 have n0 := H4.cell j0
 have n2 := H4.cell j2
 have n3 := H4.cell j3
 have n4 := H4.cell j4
 have Ha := H8.trans H4
 by_cases hlt : i < m.Tables.length
 ·obtain ⟨b, H6, rfl, hc⟩ := g3 jo
  have ct := jv wx b (H6 + i) (tv i) (Ha.cell (by simpa using hc i 0 hlt jo))
  obtain ⟨ao5, c5, e5, u1, u2, -, u3⟩ := (rv i hlt).keep Ha
  rw [e5] at ct
  unfold maxLen at u2
  clear hc g3 rv d3 l3 e5 j0 j1 j2 j3 j4 j5 n3 n4
  rcases tabBad_cases m i with ⟨h1, hv⟩ | ⟨h1, H2⟩
  ·have HB := jH (HR.out.trans ((scan_stop hlt (by rw [hv]; decide) H0.out).trans hv))
   clear H0 hv u3
   go_wp2_with fail
   go_ret
   exact ⟨by rw [HB.out]; rfl, Ha⟩
  have HT := jH H2
  clear H2
  go_wp2_with fail
  go_loopw [8] (fun s8 wq => ∃ j : Nat, j ≤ (nth m.Tables i).length ∧ s8 = .int .i64 j ∧ Keeps wx wq ∧ Hid (∀ q, q < j → outside m (nth m.Tables i) q = false)) (fun s8 _ => (nth m.Tables i).length - (intOf s8).toNat)
  case atStart => exact ⟨0, Nat.zero_le _, rfl, Keeps.refl _, fun j hj => absurd hj (Nat.not_lt_zero _)⟩
  case round =>
  obtain ⟨wq, rfl⟩ := jE wr
  obtain ⟨j, hj, rfl, H7, H5⟩ := hrel
  have p0 := H7.cell n0
  have p2 := H7.cell n2
  have pt := H7.cell ct
  clear n0 n2 ct
  by_cases hjl : j < (nth m.Tables i).length
  ·obtain ⟨b5, Hh, rfl, Hl⟩ := u3 jo
   have ce := jc wq b5 (Hh + j) (nth (nth m.Tables i) j) (H7.cell (by simpa using Hl j 0 hjl jo))
   have H9 : IntKind.i64.wrap ((m.Text.length : Int) - 1) = (m.Text.length : Int) - 1 := IntWalk.i64_in _ jo
   clear u3 Hl
   by_cases ho : nth (nth m.Tables i) j < 0 ∨ (m.Text.length : Int) ≤ nth (nth m.Tables i) j
   ·have HB : Hid (imgFault m = 2) := by
     have hq : outside m (nth m.Tables i) j = true := decide_eq_true ho
     rcases HT.out with ⟨ha, hv⟩ | ⟨ha, -⟩
     ·exact HR.out.trans ((scan_stop hlt (by rw [hv]; decide) H0.out).trans hv)
     rw [anyN_yes hjl hq] at ha; cases ha
    have HI := jH (fun w => in_no' (nth (nth m.Tables i) j) 0 ((m.Text.length : Int) - 1) w jo)
    clear H5 H0 HT ho
    go_wp2
    go_quiet ((go_at_call 20; exact Calls.quiet_of_same (HI.out _)))
    go_wp2
    go_ret
    exact ⟨by rw [HB.out]; rfl, (Ha.trans H7).drewN _⟩
   have HQ : Hid (outside m (nth m.Tables i) j = false) := decide_eq_false ho
   have HI := jH (fun w => in_yes' (nth (nth m.Tables i) j) 0 ((m.Text.length : Int) - 1) w jo jo)
   clear ho
   go_wp2
   go_quiet ((go_at_call 20; exact Calls.quiet_of_same (HI.out _)))
   clear H9
   go_wp2
   go_roundw
   case rel => exact ⟨j + 1, by omega, by go_num, H7.drewN _, (show Hid _ from fun q hq => by
    by_cases e : q = j
    ·subst e; exact HQ.out
    exact H5.out q jo)⟩
   case measure => exact jm
  have HB : Hid (scan (tabBad m) (dataFault m) (m.Tables.length - (i + 1)) (i + 1) = tabsFault m) := by
   rcases HT.out with ⟨ha, hv⟩ | ⟨-, hv⟩
   ·rw [anyN_no (fun q hq => H5.out q jo)] at ha; cases ha
   exact scan_step hlt hv H0.out
  clear H5 H0 HT u3
  go_wp2_with fail
  go_roundw
  case rel => exact ⟨i + 1, by omega, by go_num, H4.trans H7, HB.out⟩
  case measure => exact jm
 have HE := jH (HR.out.trans (scan_end jo H0.out))
 clear g3 rv H0 HR j0 j1 j2 j3 j4 j5 H1 Hx
 go_wp2_with fail
 go_loopw [9] (fun s9 wy => ∃ j : Nat, j ≤ m.Data.length ∧ s9 = .int .i64 j ∧ Keeps wx wy ∧ Hid (∀ q, q < j → dataOut m.Data q = false)) (fun s9 _ => m.Data.length - (intOf s9).toNat)
 case atStart => exact ⟨0, Nat.zero_le _, rfl, Keeps.refl _, fun j hj => absurd hj (Nat.not_lt_zero _)⟩
 case round =>
 obtain ⟨wy, rfl⟩ := jE wr
 obtain ⟨j, hj, rfl, He, H5⟩ := hrel
 have p0 := He.cell n0
 have p3 := He.cell n3
 have p4 := He.cell n4
 have Hb := Ha.trans He
 clear n0 n3 n4
 by_cases hjl : j < m.Data.length
 ·obtain ⟨b, H6, rfl, hc⟩ := d3 jo
  have ce := jc wy b (H6 + j) (nth m.Data j) (Hb.cell (by simpa using hc j 0 hjl jo))
  clear hc d3 l3
  by_cases ho : nth m.Data j < -1099511627776 ∨ 1099511627776 < nth m.Data j
  ·have HB : Hid (imgFault m = 2) := HE.out.trans (by unfold dataFault; rw [if_pos (anyN_yes hjl (decide_eq_true ho))])
   clear H5
   go_wp2_with (go_at_call 20; refine (in_no _ _ _ _ jo).mono ?_; rintro e w' ⟨rfl, rfl⟩)
   go_ret
   exact ⟨by rw [HB.out]; rfl, Hb⟩
  have HQ : Hid (dataOut m.Data j = false) := decide_eq_false ho
  go_wp2_with (go_at_call 20; refine (in_yes _ _ _ _ jo jo).mono ?_; rintro e w' ⟨rfl, rfl⟩)
  go_roundw
  case rel => exact ⟨j + 1, by omega, by go_num, He, (show Hid _ from fun q hq => by
   by_cases e : q = j
   ·subst e; exact HQ.out
   exact H5.out q jo)⟩
  case measure => exact jm
 have HL : Hid (imgFault m = linesFault m) := HE.out.trans (by unfold dataFault; rw [if_neg (by rw [anyN_no (fun q hq => H5.out q jo)]; simp)])
 clear H5 d3 HE
 by_cases hbig : 4000 < m.Lines.length
 ·have HB := jH (HL.out.trans (show linesFault m = 1 by unfold linesFault; rw [if_pos hbig]))
  clear l3
  go_wp2_with fail
  go_ret
  exact ⟨by rw [HB.out]; rfl, Hb⟩
 have HS := jH (HL.out.trans (show linesFault m = scan (lineBad m) 0 (m.Lines.length - 0) 0 by unfold linesFault; rw [if_neg hbig]; rfl))
 go_wp2_with fail
 go_loopw [10, 11] (fun s10 _ wz => ∃ k : Nat, k ≤ m.Lines.length ∧ s10 = .int .i64 k ∧ -1 ≤ lastAt m.Lines k ∧ lastAt m.Lines k ≤ 8000 ∧ Keeps wy wz ∧ Hid (scan (lineBad m) 0 (m.Lines.length - k) k = imgFault m)) (fun s10 _ _ => m.Lines.length - (intOf s10).toNat)
 case atStart => exact ⟨0, Nat.zero_le _, rfl, by simp [lastAt], by simp [lastAt], Keeps.refl _, HS.out.symm⟩
 case round =>
 obtain ⟨wz, rfl⟩ := jE wr
 obtain ⟨k, hk', rfl, Hm, Hn, H7, H0⟩ := hrel
 have q0 := H7.cell p0
 have q4 := H7.cell p4
 have H3 := Hb.trans H7
 clear p0 p4 p3 HS HL
 by_cases hkl : k < m.Lines.length
 ·obtain ⟨b, H6, rfl, hc⟩ := l3 jo
  have Ho := jc wz b (H6 + k * 2) ((nth m.Lines k).At) (H3.cell (hc k 0 hkl jo))
  have Hp := jc wz b (H6 + k * 2 + 1) ((nth m.Lines k).N) (H3.cell (hc k 1 hkl jo))
  have H9 : IntKind.i64.wrap ((m.Text.length : Int) - 1) = (m.Text.length : Int) - 1 := IntWalk.i64_in _ jo
  have Hf := jH H9
  clear H9
  by_cases hb : lineBad m k = 0
  ·have HB := jH (scan_step hkl hb H0.out)
   obtain ⟨y1, y2, y3, y4⟩ := lineBad_zero hb
   clear hb H0
   by_cases hk0 : 0 < k
   ·have cp : wz.cell? ⟨b, H6 + (k - 1) * 2, none⟩ = some (.int .i64 (nth m.Lines (k - 1)).At) := H3.cell (hc (k - 1) 0 jo jo)
    have hl : lastAt m.Lines k = (nth m.Lines (k - 1)).At := lastAt_pos hk0
    rw [hl] at Hm Hn y3
    have x5 : decide ((0:Int) < k) = true := by simpa using hk0
    have HI := jH (fun w => in_yes' (nth m.Lines k).At ((nth m.Lines (k - 1)).At + 1) ((m.Text.length : Int) - 1) w jo jo)
    clear hl hc l3
    go_wp2_with (go_at_call 20; refine (in_yes _ _ _ _ jo jo).mono ?_; rintro e w' ⟨rfl, rfl⟩)
    have H9 := Hf.out
    go_quiet ((go_at_call 20; exact Calls.quiet_of_same (HI.out _)))
    clear H9
    go_wp2
    go_roundw
    case rel => exact ⟨k + 1, by omega, by go_num, by show -1 ≤ (nth m.Lines k).At; omega, by show (nth m.Lines k).At ≤ 8000; omega, H7.drewN _, HB.out⟩
    case measure => exact jm
   obtain rfl : k = 0 := by omega
   simp only [Nat.zero_mul, Nat.add_zero] at Ho Hp
   have HI := jH (fun w => in_yes' (nth m.Lines 0).At 0 ((m.Text.length : Int) - 1) w (by have : lastAt m.Lines 0 = -1 := rfl; omega) jo)
   clear hc l3
   go_wp2_with (go_at_call 20; refine (in_yes _ _ _ _ jo jo).mono ?_; rintro e w' ⟨rfl, rfl⟩)
   have H9 := Hf.out
   go_quiet ((go_at_call 20; exact Calls.quiet_of_same (HI.out _)))
   clear H9
   go_wp2
   go_roundw
   case rel => exact ⟨1, by omega, rfl, by show -1 ≤ (nth m.Lines 0).At; have : lastAt m.Lines 0 = -1 := rfl; omega, by show (nth m.Lines 0).At ≤ 8000; omega, H7.drewN _, HB.out⟩
   case measure => exact jm
  have HB := jH (scan_stop hkl hb H0.out)
  rcases lineBad_cases hb with ⟨hN, hv⟩ | ⟨⟨HH, HJ⟩, hA, hv⟩
  ·have HV := jH (HB.out.trans hv)
   clear hb H0 hv hc l3
   go_wp2_with (go_at_call 20; refine (in_no _ _ _ _ jo).mono ?_; rintro e w' ⟨rfl, rfl⟩)
   go_ret
   exact ⟨by rw [HV.out]; rfl, H3⟩
  have HV := jH (HB.out.trans hv)
  clear hb H0 hv
  by_cases hk0 : 0 < k
  ·have cp : wz.cell? ⟨b, H6 + (k - 1) * 2, none⟩ = some (.int .i64 (nth m.Lines (k - 1)).At) := H3.cell (hc (k - 1) 0 jo jo)
   have hl : lastAt m.Lines k = (nth m.Lines (k - 1)).At := lastAt_pos hk0
   rw [hl] at Hm Hn hA
   have x5 : decide ((0:Int) < k) = true := by simpa using hk0
   have HI := jH (fun w => in_no' (nth m.Lines k).At ((nth m.Lines (k - 1)).At + 1) ((m.Text.length : Int) - 1) w jo)
   clear hl hc l3 hA
   go_wp2_with (go_at_call 20; refine (in_yes _ _ _ _ jo jo).mono ?_; rintro e w' ⟨rfl, rfl⟩)
   have H9 := Hf.out
   go_quiet ((go_at_call 20; exact Calls.quiet_of_same (HI.out _)))
   clear H9
   go_wp2
   go_ret
   exact ⟨by rw [HV.out]; rfl, H3.drewN _⟩
  obtain rfl : k = 0 := by omega
  simp only [Nat.zero_mul, Nat.add_zero] at Ho Hp
  have HI := jH (fun w => in_no' (nth m.Lines 0).At 0 ((m.Text.length : Int) - 1) w (by have : lastAt m.Lines 0 = -1 := rfl; omega))
  clear hc l3 hA
  go_wp2_with (go_at_call 20; refine (in_yes _ _ _ _ jo jo).mono ?_; rintro e w' ⟨rfl, rfl⟩)
  have H9 := Hf.out
  go_quiet ((go_at_call 20; exact Calls.quiet_of_same (HI.out _)))
  clear H9
  go_wp2
  go_ret
  exact ⟨by rw [HV.out]; rfl, H3.drewN _⟩
 have HB := jH (scan_end jo H0.out)
 clear l3 H0
 go_wp2_with fail
 go_ret
 exact ⟨by rw [HB.out]; rfl, H3⟩
end Go.Proofs.YtgdamggkaklhjaaDoor
