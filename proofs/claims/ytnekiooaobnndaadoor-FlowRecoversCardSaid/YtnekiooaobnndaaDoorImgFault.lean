/-
 The document's ImageFault: the fault of an image.
-/
import Derived.Test.YtnekiooaobnndaaDoorImgName
import Derived.Deep.QuietTactic
import Derived.BigQuiet
import Derived.IntWalk
set_option linter.all false
namespace Go.Proofs.YtnekiooaobnndaaDoor
open Go.RowKit BH
set_option maxHeartbeats 2000000
set_option maxRecDepth 100000

theorem in_yes' (n lo hi : Int) (w : World) (h1 : lo ≤ n) (h2 : n ≤ hi) :
  Calls Tryd.prog 23 #[.int .i64 n, .int .i64 lo, .int .i64 hi] w fun e w' => e = .returned (.bool true) ∧ w' = w := (in_yes n lo hi w h1 h2).mono fun _ _ ⟨a, b⟩ => ⟨a, b.symm⟩
theorem in_no' (n lo hi : Int) (w : World) (h : n < lo ∨ hi < n) :
  Calls Tryd.prog 23 #[.int .i64 n, .int .i64 lo, .int .i64 hi] w fun e w' => e = .returned (.bool false) ∧ w' = w := (in_no n lo hi w h).mono fun _ _ ⟨a, b⟩ => ⟨a, b.symm⟩

theorem lastAt_pos {l : List Ln} {k : Nat} (h : 0 < k) : lastAt l k = (nth l (k - 1)).At := by
 cases k with
 | zero => exact absurd h (Nat.lt_irrefl _)
 | succ j => rfl

theorem imageFault_any (v : Value) (m : Img) (w : World) (hv : ImgAt w v m) :
  Calls Tryd.prog 19 #[v] w fun e w' => e = .returned (.int .i64 (imgFault m)) ∧ Keeps w w' := by
 obtain ⟨v0, v1, v2, v3, v4, rfl, ⟨ao0, c0, rfl, t1, t2, -, -⟩, ⟨ao1, c1, rfl, f1, f2, -, f3⟩, ⟨tv, ⟨ao2, c2, rfl, g1, g2, -, g3⟩, rv⟩, ⟨ao3, c3, rfl, d1, d2, -, d3⟩, ⟨ao4, c4, rfl, l1, l2, -, l3⟩⟩ := hv
 unfold maxLen at t2 f2 g2 d2 l2
 obtain ⟨W1, hW1, hkW, hsW, i0, i1, i2, i3, i4, i5⟩ := box6 w 28 (.slice ao0 m.Text.length c0) (.slice ao1 m.Funcs.length c1) (.slice ao2 m.Tables.length c2) (.slice ao3 m.Data.length c3) (.slice ao4 m.Lines.length c4) (.int .i64 m.Entry)
 have HW := Lib.hid hW1
 clear hW1
 by_cases hbig : 8000 < m.Text.length
 ·have HF := Lib.hid (show imgFault m = 1 by unfold imgFault; rw [if_pos hbig])
  clear f3 g3 rv d3 l3 i0 i1 i2 i3 i4 i5
  go_enter Tryd.func19, Tryd.ntmps19
  go_wp2
  all_goals first
   | (exfalso; omega)
   | (go_ret
      exact ⟨by rw [HF.out]; rfl, (Keeps.refl _).alloc _⟩)
 by_cases hfun : 40 < m.Funcs.length
 ·have HF := Lib.hid (show imgFault m = 1 by unfold imgFault funcsFault; rw [if_neg hbig, if_pos hfun]; rfl)
  clear f3 g3 rv d3 l3 i0 i1 i2 i3 i4 i5
  go_enter Tryd.func19, Tryd.ntmps19
  go_wp2
  all_goals first
   | (exfalso; omega)
   | (go_ret
      exact ⟨by rw [HF.out]; rfl, (Keeps.refl _).alloc _⟩)
 have HF := Lib.hid (imgFault_scan m hbig hfun)
 have k1 : m.Text.length ≤ 8000 := by omega
 have k2 : m.Funcs.length ≤ 40 := by omega
 have k3 : decide (8000 < (m.Text.length : Int)) = false := by simp; omega
 have k4 : decide (40 < (m.Funcs.length : Int)) = false := by simp; omega
 clear hbig hfun
 go_enter Tryd.func19, Tryd.ntmps19
 go_wp2
 rw [← HW.out]
 go_loopw [3, 4, 5, 6] (fun s3 s4 _ _ wr => ∃ k : Nat, k ≤ m.Funcs.length ∧ s3 = .int .i64 (sumF m k) ∧ s4 = .int .i64 k ∧ 0 ≤ sumF m k ∧ sumF m k ≤ m.Text.length ∧ Keeps W1 wr ∧ Hid (scan (funBad m) (endFault m (entryFault m)) (m.Funcs.length - k) k = imgFault m)) (fun _ i _ _ _ => m.Funcs.length - (intOf i).toNat)
 case atStart => exact ⟨0, Nat.zero_le _, rfl, rfl, by simp [sumF], by simp [sumF], Keeps.refl _, HF.out.symm⟩
 case round =>
  obtain ⟨k, hk, rfl, rfl, hs0, hs1, hkeep, hscan⟩ := hrel
  have j0 := hkeep.cell i0
  have j1 := hkeep.cell i1
  have hkk := hkW.trans hkeep
  have hin : w.heap.size < wr.heap.size := Nat.lt_of_lt_of_le hsW hkeep.size
  by_cases hlt : k < m.Funcs.length
  ·obtain ⟨b, off, rfl, hc⟩ := f3 (by omega)
   have hc0 : wr.cell? ⟨b, off + k * 3, none⟩ = some (.string (nth m.Funcs k).Name) := hkk.cell (hc k 0 hlt (by omega))
   have hc1 : wr.cell? ⟨b, off + k * 3 + 1, none⟩ = some (.int .i64 (nth m.Funcs k).Start) := hkk.cell (hc k 1 hlt (by omega))
   have hc2 : wr.cell? ⟨b, off + k * 3 + 2, none⟩ = some (.int .i64 (nth m.Funcs k).Size) := hkk.cell (hc k 2 hlt (by omega))
   have HCn := Lib.hid (fun j (hj : j < k) (W' : World) (h : Keeps wr W') => (h.cell (hkk.cell (hc j 0 (by omega) (by omega))) : W'.cell? ⟨b, off + j * 3 + 0, none⟩ = some (.string (nth m.Funcs j).Name)))
   clear hc g3 rv d3 l3 i2 i3 i4 i5
   rcases funBad_cases m k with ⟨hn, hv⟩ | ⟨hn, hrest⟩
   ·have HB := Lib.hid ((scan_stop hlt (by rw [hv]; decide) hscan.out).trans hv)
    clear hscan hv i0 i1
    unfold fname at hn
    go_wp2_with (go_at_call 51; refine (nameMay_any _ _).mono ?_; rintro e w' ⟨rfl, rfl⟩)
    go_ret
    exact ⟨by rw [HB.out]; rfl, hkk.alloc _⟩
   ·unfold fname at hn
    have HR := Lib.hid hrest
    clear hrest
    obtain ⟨Wf, hWf⟩ : ∃ Wf : World, Wf = wr.alloc (.cells #[.string (nth m.Funcs k).Name, .int .i64 (nth m.Funcs k).Start, .int .i64 (nth m.Funcs k).Size] 47) := ⟨_, rfl⟩
    have hkf : Keeps wr Wf := by rw [hWf]; exact (Keeps.refl _).alloc _
    have fa : Wf.cell? ⟨wr.heap.size, 0, none⟩ = some (.string (nth m.Funcs k).Name) := by rw [hWf]; simp
    have fb : Wf.cell? ⟨wr.heap.size, 1, none⟩ = some (.int .i64 (nth m.Funcs k).Start) := by rw [hWf]; simp
    have fc : Wf.cell? ⟨wr.heap.size, 2, none⟩ = some (.int .i64 (nth m.Funcs k).Size) := by rw [hWf]; simp
    have HWf := Lib.hid hWf
    clear hWf
    have m0 := hkf.cell j0
    have m1 := hkf.cell j1
    go_wp2_with (go_at_call 51; refine (nameMay_any _ _).mono ?_; rintro e w' ⟨rfl, rfl⟩)
    rw [← HWf.out]
    clear i0 i1 j0 j1 hc0 hc1 hc2
    go_loopw [6] (fun s6 wx => ∃ j : Nat, j ≤ k ∧ s6 = .int .i64 j ∧ Keeps Wf wx ∧ Hid (∀ i, i < j → sameName m k i = false)) (fun s6 _ => k - (intOf s6).toNat)
    case atStart => exact ⟨0, Nat.zero_le _, rfl, Keeps.refl _, fun j hj => absurd hj (Nat.not_lt_zero _)⟩
    case round =>
     rename_i wx _
     obtain ⟨j, hj, rfl, hkx, hno⟩ := hrel
     have n0 := hkx.cell m0
     have n1 := hkx.cell m1
     have fa' := hkx.cell fa
     have fb' := hkx.cell fb
     have fc' := hkx.cell fc
     have hkz := hkf.trans hkx
     clear m0 m1 fa fb fc
     by_cases hjk : j < k
     ·have ce := HCn.out j hjk _ hkz
      simp only [Nat.add_zero] at ce
      cases hq : sameName m k j with
      | true =>
       have hq' : ((nth m.Funcs j).Name.toList == (nth m.Funcs k).Name.toList) = true := hq
       have HB : Hid (imgFault m = 7) := by
        rcases HR.out with ⟨ha, hv⟩ | ⟨ha, -⟩
        ·exact (scan_stop hlt (by rw [hv]; decide) hscan.out).trans hv
        ·rw [anyN_yes hjk hq] at ha; cases ha
       clear hq hno
       go_wp2
       go_quiet (fail)
       go_wp2
       go_ret
       exact ⟨by rw [HB.out]; rfl, (hkk.trans hkz).drewN _⟩
      | false =>
       have hq' : ((nth m.Funcs j).Name.toList == (nth m.Funcs k).Name.toList) = false := hq
       have HQ := Lib.hid hq
       clear hq
       go_wp2
       go_quiet (fail)
       go_wp2
       go_roundw
       case rel => exact ⟨j + 1, by omega, by go_num, hkx.drewN _, (show Hid _ from fun i hi => by
        by_cases e : i = j
        ·subst e; exact HQ.out
        ·exact hno.out i (by omega))⟩
       case measure => simp [intOf]; omega
     ·have HC : Hid ((((nth m.Funcs k).Start ≠ sumF m k ∨ (nth m.Funcs k).Size < 1 ∨ (m.Text.length : Int) - sumF m k < (nth m.Funcs k).Size) ∧ funBad m k = 8) ∨ (((nth m.Funcs k).Start = sumF m k ∧ 1 ≤ (nth m.Funcs k).Size ∧ (nth m.Funcs k).Size ≤ (m.Text.length : Int) - sumF m k) ∧ funBad m k = 0)) := by
       rcases HR.out with ⟨ha, hv⟩ | ⟨-, h⟩
       ·rw [anyN_no (fun i hi => hno.out i (by omega))] at ha; cases ha
       ·exact h
      clear hno HCn
      have hkeep' := hkeep.trans hkz
      rcases HC.out with ⟨hs, hv⟩ | ⟨⟨hs2, hs3, hs4⟩, hv⟩
      ·have HB := Lib.hid ((scan_stop hlt (by rw [hv]; decide) hscan.out).trans hv)
       clear hscan hv
       by_cases hst : (nth m.Funcs k).Start = sumF m k
       ·have e1 : ((nth m.Funcs k).Start != sumF m k) = false := by simpa using hst
        have hs' : (nth m.Funcs k).Size < 1 ∨ (m.Text.length : Int) - sumF m k < (nth m.Funcs k).Size := by
         rcases hs with h | h
         ·exact absurd hst h
         ·exact h
        clear hst hs
        go_wp2_with (go_at_call 23; refine (in_no _ _ _ _ (by omega)).mono ?_; rintro e w' ⟨rfl, rfl⟩)
        go_ret
        exact ⟨by rw [HB.out]; rfl, hkk.trans hkz⟩
       ·have e1 : ((nth m.Funcs k).Start != sumF m k) = true := by simpa using hst
        clear hst hs
        go_wp2_with fail
        go_ret
        exact ⟨by rw [HB.out]; rfl, hkk.trans hkz⟩
      ·have HB := Lib.hid (scan_step hlt hv hscan.out)
       have e1 : ((nth m.Funcs k).Start != sumF m k) = false := by simpa using hs2
       have HS := Lib.hid (show sumF m (k + 1) = sumF m k + (nth m.Funcs k).Size from rfl)
       clear hscan hv hs2
       go_wp2_with (go_at_call 23; refine (in_yes _ _ _ _ (by omega) (by omega)).mono ?_; rintro e w' ⟨rfl, rfl⟩)
       go_roundw
       case rel => exact ⟨k + 1, by omega, by rw [HS.out], by go_num, by rw [HS.out]; omega, by rw [HS.out]; omega, hkeep', HB.out⟩
       case measure => simp [intOf]; omega
  ·obtain rfl : k = m.Funcs.length := by omega
   have HE := Lib.hid (scan_end rfl hscan.out)
   clear f3 hscan i0 i1
   have j2 := hkeep.cell i2
   have j3 := hkeep.cell i3
   have j4 := hkeep.cell i4
   have j5 := hkeep.cell i5
   clear i2 i3 i4 i5
   by_cases he : sumF m m.Funcs.length < (m.Text.length : Int)
   ·have HV := Lib.hid (HE.out.trans (show endFault m (entryFault m) = 8 by unfold endFault; rw [if_pos (by omega)]))
    clear g3 rv d3 l3
    go_wp2_with fail
    go_ret
    exact ⟨by rw [HV.out]; rfl, hkk⟩
   have HV := Lib.hid (HE.out.trans (show endFault m (entryFault m) = entryFault m by unfold endFault; rw [if_neg (by omega)]))
   by_cases hE : m.Entry < 0 ∨ (m.Funcs.length : Int) ≤ m.Entry
   ·have HR := Lib.hid (HV.out.trans (show entryFault m = 6 by unfold entryFault; rw [if_pos hE]))
    clear g3 rv d3 l3
    go_wp2_with (go_at_call 23; refine (in_no _ _ _ _ (by omega)).mono ?_; rintro e w' ⟨rfl, rfl⟩)
    go_ret
    exact ⟨by rw [HR.out]; rfl, hkk⟩
   obtain ⟨hE1, hE2⟩ : 0 ≤ m.Entry ∧ m.Entry < (m.Funcs.length : Int) := by omega
   by_cases hN : 20 < m.Tables.length ∨ 64 < m.Data.length
   ·have HR := Lib.hid (HV.out.trans (show entryFault m = 1 by unfold entryFault; rw [if_neg hE, if_pos hN]))
    clear g3 rv d3 l3 hE
    go_wp2_with (go_at_call 23; refine (in_yes _ _ _ _ (by omega) (by omega)).mono ?_; rintro e w' ⟨rfl, rfl⟩)
    all_goals first
     | (exfalso; omega)
     | (go_ret
        exact ⟨by rw [HR.out]; rfl, hkk⟩)
   have HR := Lib.hid (HV.out.trans (show entryFault m = tabsFault m by unfold entryFault; rw [if_neg hE, if_neg hN]))
   obtain ⟨hN1, hN2⟩ : m.Tables.length ≤ 20 ∧ m.Data.length ≤ 64 := by omega
   have b2 : decide (20 < (m.Tables.length : Int)) = false := by simp; omega
   clear hE hN
   obtain ⟨wo, rfl⟩ : ∃ wo : World, wo = wr := ⟨_, rfl⟩
   go_wp2_with (go_at_call 23; refine (in_yes _ _ _ _ (by omega) (by omega)).mono ?_; rintro e w' ⟨rfl, rfl⟩)
   clear HF HE HV
   go_loopw [7, 8] (fun s7 _ wx => ∃ i : Nat, i ≤ m.Tables.length ∧ s7 = .int .i64 i ∧ Keeps wo wx ∧ Hid (scan (tabBad m) (dataFault m) (m.Tables.length - i) i = tabsFault m)) (fun s7 _ _ => m.Tables.length - (intOf s7).toNat)
   case atStart => exact ⟨0, Nat.zero_le _, rfl, Keeps.refl _, (show scan _ _ _ _ = tabsFault m from rfl)⟩
   case round =>
    obtain ⟨wx, rfl⟩ : ∃ wx : World, wx = wr := ⟨_, rfl⟩
    obtain ⟨i, hi, rfl, hkx, hscan⟩ := hrel
    have n0 := hkx.cell j0
    have n2 := hkx.cell j2
    have n3 := hkx.cell j3
    have n4 := hkx.cell j4
    have hkz := hkk.trans hkx
    by_cases hlt : i < m.Tables.length
    ·obtain ⟨b, off, rfl, hc⟩ := g3 (by omega)
     have ct : wx.cell? ⟨b, off + i, none⟩ = some (tv i) := hkz.cell (by simpa using hc i 0 hlt (by omega))
     obtain ⟨ao5, c5, e5, u1, u2, -, u3⟩ := (rv i hlt).keep hkz
     rw [e5] at ct
     unfold maxLen at u2
     clear hc g3 rv d3 l3 e5 j0 j1 j2 j3 j4 j5 n3 n4
     rcases tabBad_cases m i with ⟨h1, hv⟩ | ⟨h1, hrest⟩
     ·have HB := Lib.hid (HR.out.trans ((scan_stop hlt (by rw [hv]; decide) hscan.out).trans hv))
      clear hscan hv u3
      go_wp2_with fail
      go_ret
      exact ⟨by rw [HB.out]; rfl, hkz⟩
     ·have HT := Lib.hid hrest
      clear hrest
      go_wp2_with fail
      go_loopw [8] (fun s8 wq => ∃ j : Nat, j ≤ (nth m.Tables i).length ∧ s8 = .int .i64 j ∧ Keeps wx wq ∧ Hid (∀ q, q < j → outside m (nth m.Tables i) q = false)) (fun s8 _ => (nth m.Tables i).length - (intOf s8).toNat)
      case atStart => exact ⟨0, Nat.zero_le _, rfl, Keeps.refl _, fun j hj => absurd hj (Nat.not_lt_zero _)⟩
      case round =>
       obtain ⟨wq, rfl⟩ : ∃ wq : World, wq = wr := ⟨_, rfl⟩
       obtain ⟨j, hj, rfl, hkq, hno⟩ := hrel
       have p0 := hkq.cell n0
       have p2 := hkq.cell n2
       have pt := hkq.cell ct
       clear n0 n2 ct
       by_cases hjl : j < (nth m.Tables i).length
       ·obtain ⟨b5, off5, rfl, hc5⟩ := u3 (by omega)
        have ce : wq.cell? ⟨b5, off5 + j, none⟩ = some (.int .i64 (nth (nth m.Tables i) j)) := hkq.cell (by simpa using hc5 j 0 hjl (by omega))
        have hw1 : IntKind.i64.wrap ((m.Text.length : Int) - 1) = (m.Text.length : Int) - 1 := IntWalk.i64_in _ (by omega)
        clear u3 hc5
        by_cases ho : nth (nth m.Tables i) j < 0 ∨ (m.Text.length : Int) ≤ nth (nth m.Tables i) j
        ·have HB : Hid (imgFault m = 2) := by
          have hq : outside m (nth m.Tables i) j = true := decide_eq_true ho
          rcases HT.out with ⟨ha, hv⟩ | ⟨ha, -⟩
          ·exact HR.out.trans ((scan_stop hlt (by rw [hv]; decide) hscan.out).trans hv)
          ·rw [anyN_yes hjl hq] at ha; cases ha
         have HI := Lib.hid (fun w => in_no' (nth (nth m.Tables i) j) 0 ((m.Text.length : Int) - 1) w (by omega))
         clear hno hscan HT ho
         go_wp2
         go_quiet ((go_at_call 23; exact Calls.quiet_of_same (HI.out _)))
         go_wp2
         go_ret
         exact ⟨by rw [HB.out]; rfl, (hkz.trans hkq).drewN _⟩
        ·have HQ : Hid (outside m (nth m.Tables i) j = false) := decide_eq_false ho
         have HI := Lib.hid (fun w => in_yes' (nth (nth m.Tables i) j) 0 ((m.Text.length : Int) - 1) w (by omega) (by omega))
         clear ho
         go_wp2
         go_quiet ((go_at_call 23; exact Calls.quiet_of_same (HI.out _)))
         clear hw1
         go_wp2
         go_roundw
         case rel => exact ⟨j + 1, by omega, by go_num, hkq.drewN _, (show Hid _ from fun q hq => by
          by_cases e : q = j
          ·subst e; exact HQ.out
          ·exact hno.out q (by omega))⟩
         case measure => simp [intOf]; omega
       ·have HB : Hid (scan (tabBad m) (dataFault m) (m.Tables.length - (i + 1)) (i + 1) = tabsFault m) := by
         rcases HT.out with ⟨ha, hv⟩ | ⟨-, hv⟩
         ·rw [anyN_no (fun q hq => hno.out q (by omega))] at ha; cases ha
         ·exact scan_step hlt hv hscan.out
        clear hno hscan HT u3
        go_wp2_with fail
        go_roundw
        case rel => exact ⟨i + 1, by omega, by go_num, hkx.trans hkq, HB.out⟩
        case measure => simp [intOf]; omega
    ·have HE := Lib.hid (HR.out.trans (scan_end (by omega) hscan.out))
     clear g3 rv hscan HR j0 j1 j2 j3 j4 j5 hkeep hin
     go_wp2_with fail
     go_loopw [9] (fun s9 wy => ∃ j : Nat, j ≤ m.Data.length ∧ s9 = .int .i64 j ∧ Keeps wx wy ∧ Hid (∀ q, q < j → dataOut m.Data q = false)) (fun s9 _ => m.Data.length - (intOf s9).toNat)
     case atStart => exact ⟨0, Nat.zero_le _, rfl, Keeps.refl _, fun j hj => absurd hj (Nat.not_lt_zero _)⟩
     case round =>
      obtain ⟨wy, rfl⟩ : ∃ wy : World, wy = wr := ⟨_, rfl⟩
      obtain ⟨j, hj, rfl, hky, hno⟩ := hrel
      have p0 := hky.cell n0
      have p3 := hky.cell n3
      have p4 := hky.cell n4
      have hkz' := hkz.trans hky
      clear n0 n3 n4
      by_cases hjl : j < m.Data.length
      ·obtain ⟨b, off, rfl, hc⟩ := d3 (by omega)
       have ce : wy.cell? ⟨b, off + j, none⟩ = some (.int .i64 (nth m.Data j)) := hkz'.cell (by simpa using hc j 0 hjl (by omega))
       clear hc d3 l3
       by_cases ho : nth m.Data j < -1099511627776 ∨ 1099511627776 < nth m.Data j
       ·have HB : Hid (imgFault m = 2) := HE.out.trans (by unfold dataFault; rw [if_pos (anyN_yes hjl (decide_eq_true ho))])
        clear hno
        go_wp2_with (go_at_call 23; refine (in_no _ _ _ _ (by omega)).mono ?_; rintro e w' ⟨rfl, rfl⟩)
        go_ret
        exact ⟨by rw [HB.out]; rfl, hkz'⟩
       ·have HQ : Hid (dataOut m.Data j = false) := decide_eq_false ho
        go_wp2_with (go_at_call 23; refine (in_yes _ _ _ _ (by omega) (by omega)).mono ?_; rintro e w' ⟨rfl, rfl⟩)
        go_roundw
        case rel => exact ⟨j + 1, by omega, by go_num, hky, (show Hid _ from fun q hq => by
         by_cases e : q = j
         ·subst e; exact HQ.out
         ·exact hno.out q (by omega))⟩
        case measure => simp [intOf]; omega
      ·have HL : Hid (imgFault m = linesFault m) := HE.out.trans (by unfold dataFault; rw [if_neg (by rw [anyN_no (fun q hq => hno.out q (by omega))]; simp)])
       clear hno d3 HE
       by_cases hbig : 4000 < m.Lines.length
       ·have HB := Lib.hid (HL.out.trans (show linesFault m = 1 by unfold linesFault; rw [if_pos hbig]))
        clear l3
        go_wp2_with fail
        go_ret
        exact ⟨by rw [HB.out]; rfl, hkz'⟩
       have HS := Lib.hid (HL.out.trans (show linesFault m = scan (lineBad m) 0 (m.Lines.length - 0) 0 by unfold linesFault; rw [if_neg hbig]; rfl))
       go_wp2_with fail
       go_loopw [10, 11] (fun s10 _ wz => ∃ k : Nat, k ≤ m.Lines.length ∧ s10 = .int .i64 k ∧ -1 ≤ lastAt m.Lines k ∧ lastAt m.Lines k ≤ 8000 ∧ Keeps wy wz ∧ Hid (scan (lineBad m) 0 (m.Lines.length - k) k = imgFault m)) (fun s10 _ _ => m.Lines.length - (intOf s10).toNat)
       case atStart => exact ⟨0, Nat.zero_le _, rfl, by simp [lastAt], by simp [lastAt], Keeps.refl _, HS.out.symm⟩
       case round =>
        obtain ⟨wz, rfl⟩ : ∃ wz : World, wz = wr := ⟨_, rfl⟩
        obtain ⟨k, hk', rfl, ha1, ha2, hkq, hscan⟩ := hrel
        have q0 := hkq.cell p0
        have q4 := hkq.cell p4
        have hkk' := hkz'.trans hkq
        clear p0 p4 p3 HS HL
        by_cases hkl : k < m.Lines.length
        ·obtain ⟨b, off, rfl, hc⟩ := l3 (by omega)
         have ce0 : wz.cell? ⟨b, off + k * 2, none⟩ = some (.int .i64 (nth m.Lines k).At) := hkk'.cell (hc k 0 hkl (by omega))
         have ce1 : wz.cell? ⟨b, off + k * 2 + 1, none⟩ = some (.int .i64 (nth m.Lines k).N) := hkk'.cell (hc k 1 hkl (by omega))
         have hw1 : IntKind.i64.wrap ((m.Text.length : Int) - 1) = (m.Text.length : Int) - 1 := IntWalk.i64_in _ (by omega)
         have HW1 := Lib.hid hw1
         clear hw1
         by_cases hb : lineBad m k = 0
         ·have HB := Lib.hid (scan_step hkl hb hscan.out)
          obtain ⟨y1, y2, y3, y4⟩ := lineBad_zero hb
          clear hb hscan
          by_cases hk0 : 0 < k
          ·have cp : wz.cell? ⟨b, off + (k - 1) * 2, none⟩ = some (.int .i64 (nth m.Lines (k - 1)).At) := hkk'.cell (hc (k - 1) 0 (by omega) (by omega))
           have hl : lastAt m.Lines k = (nth m.Lines (k - 1)).At := lastAt_pos hk0
           rw [hl] at ha1 ha2 y3
           have x5 : decide ((0:Int) < k) = true := by simpa using hk0
           have HI := Lib.hid (fun w => in_yes' (nth m.Lines k).At ((nth m.Lines (k - 1)).At + 1) ((m.Text.length : Int) - 1) w (by omega) (by omega))
           clear hl hc l3
           go_wp2_with (go_at_call 23; refine (in_yes _ _ _ _ (by omega) (by omega)).mono ?_; rintro e w' ⟨rfl, rfl⟩)
           have hw1 := HW1.out
           go_quiet ((go_at_call 23; exact Calls.quiet_of_same (HI.out _)))
           clear hw1
           go_wp2
           go_roundw
           case rel => exact ⟨k + 1, by omega, by go_num, by show -1 ≤ (nth m.Lines k).At; omega, by show (nth m.Lines k).At ≤ 8000; omega, hkq.drewN _, HB.out⟩
           case measure => simp [intOf]; omega
          ·obtain rfl : k = 0 := by omega
           simp only [Nat.zero_mul, Nat.add_zero] at ce0 ce1
           have HI := Lib.hid (fun w => in_yes' (nth m.Lines 0).At 0 ((m.Text.length : Int) - 1) w (by have : lastAt m.Lines 0 = -1 := rfl; omega) (by omega))
           clear hc l3
           go_wp2_with (go_at_call 23; refine (in_yes _ _ _ _ (by omega) (by omega)).mono ?_; rintro e w' ⟨rfl, rfl⟩)
           have hw1 := HW1.out
           go_quiet ((go_at_call 23; exact Calls.quiet_of_same (HI.out _)))
           clear hw1
           go_wp2
           go_roundw
           case rel => exact ⟨1, by omega, rfl, by show -1 ≤ (nth m.Lines 0).At; have : lastAt m.Lines 0 = -1 := rfl; omega, by show (nth m.Lines 0).At ≤ 8000; omega, hkq.drewN _, HB.out⟩
           case measure => simp [intOf]; omega
         ·have HB := Lib.hid (scan_stop hkl hb hscan.out)
          rcases lineBad_cases hb with ⟨hN, hv⟩ | ⟨⟨hN1', hN2'⟩, hA, hv⟩
          ·have HV := Lib.hid (HB.out.trans hv)
           clear hb hscan hv hc l3
           go_wp2_with (go_at_call 23; refine (in_no _ _ _ _ (by omega)).mono ?_; rintro e w' ⟨rfl, rfl⟩)
           go_ret
           exact ⟨by rw [HV.out]; rfl, hkk'⟩
          ·have HV := Lib.hid (HB.out.trans hv)
           clear hb hscan hv
           by_cases hk0 : 0 < k
           ·have cp : wz.cell? ⟨b, off + (k - 1) * 2, none⟩ = some (.int .i64 (nth m.Lines (k - 1)).At) := hkk'.cell (hc (k - 1) 0 (by omega) (by omega))
            have hl : lastAt m.Lines k = (nth m.Lines (k - 1)).At := lastAt_pos hk0
            rw [hl] at ha1 ha2 hA
            have x5 : decide ((0:Int) < k) = true := by simpa using hk0
            have HI := Lib.hid (fun w => in_no' (nth m.Lines k).At ((nth m.Lines (k - 1)).At + 1) ((m.Text.length : Int) - 1) w (by omega))
            clear hl hc l3 hA
            go_wp2_with (go_at_call 23; refine (in_yes _ _ _ _ (by omega) (by omega)).mono ?_; rintro e w' ⟨rfl, rfl⟩)
            have hw1 := HW1.out
            go_quiet ((go_at_call 23; exact Calls.quiet_of_same (HI.out _)))
            clear hw1
            go_wp2
            go_ret
            exact ⟨by rw [HV.out]; rfl, hkk'.drewN _⟩
           ·obtain rfl : k = 0 := by omega
            simp only [Nat.zero_mul, Nat.add_zero] at ce0 ce1
            have HI := Lib.hid (fun w => in_no' (nth m.Lines 0).At 0 ((m.Text.length : Int) - 1) w (by have : lastAt m.Lines 0 = -1 := rfl; omega))
            clear hc l3 hA
            go_wp2_with (go_at_call 23; refine (in_yes _ _ _ _ (by omega) (by omega)).mono ?_; rintro e w' ⟨rfl, rfl⟩)
            have hw1 := HW1.out
            go_quiet ((go_at_call 23; exact Calls.quiet_of_same (HI.out _)))
            clear hw1
            go_wp2
            go_ret
            exact ⟨by rw [HV.out]; rfl, hkk'.drewN _⟩
        ·have HB := Lib.hid (scan_end (by omega) hscan.out)
         clear l3 hscan
         go_wp2_with fail
         go_ret
         exact ⟨by rw [HB.out]; rfl, hkk'⟩
end Go.Proofs.YtnekiooaobnndaaDoor
