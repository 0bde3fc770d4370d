/-
 image.Check: the fault of an image.
-/
import Derived.Test.YtnekiooaobnndaaDoorImgFuncs
import Derived.Test.YtnekiooaobnndaaDoorNumsCopy
set_option linter.all false
namespace Go.Proofs.YtnekiooaobnndaaDoor
open Go.RowKit BH
set_option maxHeartbeats 1000000
set_option maxRecDepth 100000

theorem outside_any (n : Int) (b len cap : Nat) (ao : Option Addr) (w : World) (hb : w.cell? ⟨b, 0, none⟩ = some (.slice ao len cap)) :
  Calls Tryd.prog 39 #[.int .i64 n, .pointer (some ⟨b, 0, none⟩)] w fun e w' => e = .returned (.bool (decide (n < 0 ∨ (len : Int) ≤ n))) ∧ w = w' := by
 go_enter Tryd.func39, Tryd.ntmps39
 go_wp2
 all_goals
  go_ret
  refine ⟨ret_bool ?_, rfl⟩
  first
   | (rw [Bool.eq_iff_iff]; done)
   | (rw [Bool.eq_iff_iff]; simp; done)
   | (rw [Bool.eq_iff_iff]; simp; omega)
theorem dataOut_any (n : Int) (w : World) :
  Calls Tryd.prog 40 #[.int .i64 n] w fun e w' => e = .returned (.bool (decide (n < -1099511627776 ∨ 1099511627776 < n))) ∧ w = w' := by
 go_enter Tryd.func40, Tryd.ntmps40
 go_wp2
 all_goals
  go_ret
  refine ⟨ret_bool ?_, rfl⟩
  first
   | (rw [Bool.eq_iff_iff]; done)
   | (rw [Bool.eq_iff_iff]; simp; done)
   | (rw [Bool.eq_iff_iff]; simp; omega)

theorem imgFault_text {m : Img} (h : 8000 < m.Text.length) : imgFault m = 1 := by unfold imgFault; rw [if_pos h]
theorem imgFault_funcs {m : Img} (h : ¬ 8000 < m.Text.length) (h1 : funcsFault m ≠ 0) : imgFault m = funcsFault m := by unfold imgFault; rw [if_neg h, if_pos h1]
theorem imgFault_entry {m : Img} (h : ¬ 8000 < m.Text.length) (h1 : funcsFault m = 0) : imgFault m = entryFault m := by unfold imgFault; rw [if_neg h, if_neg (by simpa using h1)]

theorem imgCheck_any (v : Value) (m : Img) (w : World) (hv : ImgAt w v m) :
  Calls Tryd.prog 14 #[v] w fun e w' => e = .returned (.int .i64 (imgFault m)) ∧ Keeps w w' := by
 have hv' := hv
 obtain ⟨v0, v1, v2, v3, v4, rfl, ⟨ao0, c0, rfl, t1, t2, -, -⟩, ⟨ao1, c1, rfl, f1, f2, -, -⟩, ⟨tv, ⟨ao2, c2, rfl, g1, g2, -, g3⟩, rv⟩, hD, -⟩ := hv
 obtain ⟨ao3, c3, e3, d1, d2, -⟩ := id hD
 subst e3
 unfold maxLen at t2 f2 g2 d2
 obtain ⟨W1, hW1, hkW, hsW, i0, i1, i2, i3, i4, i5⟩ := box6 w 28 (.slice ao0 m.Text.length c0) (.slice ao1 m.Funcs.length c1) (.slice ao2 m.Tables.length c2) (.slice ao3 m.Data.length c3) v4 (.int .i64 m.Entry)
 have HW := Lib.hid hW1
 clear hW1
 by_cases hbig : 8000 < m.Text.length
 ·have HF := Lib.hid (imgFault_text hbig)
  clear g3 rv i0 i1 i2 i3 i4 i5
  go_enter Tryd.func14, Tryd.ntmps14
  go_wp2
  go_ret
  exact ⟨by rw [HF.out]; rfl, (Keeps.refl _).alloc _⟩
 ·have hbl : m.Text.length ≤ 8000 := by omega
  have HV := hv'.keep hkW
  have HC := Lib.hid (funcs_any _ m W1 HV)
  by_cases hF : funcsFault m = 0
  ·have HF := Lib.hid (imgFault_entry hbig hF)
   rw [hF] at HC
   have eg1 : ∀ args w, (callFunc 39 args).run Tryd.prog w = .ok (.enter 39 args) w := enters_of Tryd.func39 (by kernel_rfl) rfl
   have eg2 : ∀ args w, (callFunc 40 args).run Tryd.prog w = .ok (.enter 40 args) w := enters_of Tryd.func40 (by kernel_rfl) rfl
   have EG1 := Lib.hid eg1
   have EG2 := Lib.hid eg2
   clear eg1 eg2 hF hbig
   go_enter Tryd.func14, Tryd.ntmps14
   go_wp2_with fail
   rw [← HW.out]
   refine HC.out.mono ?_
   rintro e W2 ⟨rfl, hk2⟩
   have j0 := hk2.cell i0
   have j1 := hk2.cell i1
   have j2 := hk2.cell i2
   have j3 := hk2.cell i3
   have j4 := hk2.cell i4
   have j5 := hk2.cell i5
   have hk2w := hkW.trans hk2
   clear i0 i1 i2 i3 i4 i5
   by_cases hE : m.Entry < 0 ∨ (m.Funcs.length : Int) ≤ m.Entry
   ·have HR := Lib.hid (HF.out.trans (show entryFault m = 6 by unfold entryFault; rw [if_pos hE]))
    clear g3 rv
    go_wp2
    all_goals first
     | (exfalso; omega)
     | (go_ret
        exact ⟨by rw [HR.out]; rfl, hk2w⟩)
   ·by_cases hN : 20 < m.Tables.length ∨ 64 < m.Data.length
    ·have HR := Lib.hid (HF.out.trans (show entryFault m = 1 by unfold entryFault; rw [if_neg hE, if_pos hN]))
     obtain ⟨hE1, hE2⟩ : 0 ≤ m.Entry ∧ m.Entry < (m.Funcs.length : Int) := by omega
     have b1 : decide (m.Entry < 0) = false := by simpa using hE1
     clear g3 rv hE
     go_wp2
     all_goals first
      | (exfalso; omega)
      | (go_ret
         exact ⟨by rw [HR.out]; rfl, hk2w⟩)
    ·have HR := Lib.hid (HF.out.trans (show entryFault m = tabsFault m by unfold entryFault; rw [if_neg hE, if_neg hN]))
     obtain ⟨hE1, hE2⟩ : 0 ≤ m.Entry ∧ m.Entry < (m.Funcs.length : Int) := by omega
     obtain ⟨hN1, hN2⟩ : m.Tables.length ≤ 20 ∧ m.Data.length ≤ 64 := by omega
     have b1 : decide (m.Entry < 0) = false := by simpa using hE1
     have b2 : decide (20 < (m.Tables.length : Int)) = false := by simp; omega
     have b3 : decide (20 < m.Tables.length) = false := by simp; omega
     clear hE hN
     go_wp2
     go_loopw [5, 39] (fun _ i wr => ∃ k : Nat, k ≤ m.Tables.length ∧ i = .int .i64 k ∧ Keeps W2 wr ∧ Hid (scan (tabBad m) (dataFault m) (m.Tables.length - k) k = tabsFault m)) (fun _ i _ => m.Tables.length - (intOf i).toNat)
     case atStart => exact ⟨0, Nat.zero_le _, rfl, Keeps.refl _, (show scan _ _ _ _ = tabsFault m from rfl)⟩
     case round =>
      obtain ⟨k, hk, rfl, hkeep, hscan⟩ := hrel
      have l0 := hkeep.cell j0
      have l1 := hkeep.cell j1
      have l2 := hkeep.cell j2
      have l3 := hkeep.cell j3
      have l4 := hkeep.cell j4
      have l5 := hkeep.cell j5
      have hkk := hk2w.trans hkeep
      by_cases hlt : k < m.Tables.length
      ·obtain ⟨b, off, rfl, hc⟩ := g3 (by omega)
       have ct : wr.cell? ⟨b, off + k, none⟩ = some (tv k) := hkk.cell (by simpa using hc k 0 hlt (by omega))
       have hT := (rv k hlt).keep hkk
       obtain ⟨ao5, c5, e5, u1, u2, -⟩ := id hT
       rw [e5] at ct hT
       unfold maxLen at u2
       have hp : PredIn Tryd.prog 39 #[.pointer (some ⟨w.heap.size, 0, none⟩)] (nth m.Tables k).length (fun i => .int .i64 (nth (nth m.Tables k) i)) (outside m (nth m.Tables k)) wr :=
        fun W' i hi hk' => (outside_any _ _ _ _ _ W' (hk'.cell l0)).mono fun e w' ⟨h1, h2⟩ => ⟨h1, h2 ▸ Keeps.refl _⟩
       have HCF := Lib.hid (containsFunc_int _ _ _ _ _ _ wr hT EG1.out hp)
       clear hc g3 rv e5 hp hT
       rcases tabBad_cases m k with ⟨h1, hv⟩ | ⟨h1, ⟨h2, hv⟩ | ⟨h2, hv⟩⟩
       ·have HB := Lib.hid (HR.out.trans ((scan_stop hlt (by rw [hv]; decide) hscan.out).trans hv))
        clear hscan hv
        go_wp2
        go_ret
        exact ⟨by rw [HB.out]; rfl, hkk⟩
       ·have HB := Lib.hid (HR.out.trans ((scan_stop hlt (by rw [hv]; decide) hscan.out).trans hv))
        rw [h2] at HCF
        clear hscan hv h2
        go_wp2_with fail
        refine HCF.out.mono ?_
        rintro e w3 ⟨rfl, hk3⟩
        go_wp2
        go_ret
        exact ⟨by rw [HB.out]; rfl, hkk.trans hk3⟩
       ·have HB := Lib.hid (scan_step hlt hv hscan.out)
        rw [h2] at HCF
        clear hscan hv h2
        go_wp2_with fail
        refine HCF.out.mono ?_
        rintro e w3 ⟨rfl, hk3⟩
        go_wp2
        go_roundw
        case rel => exact ⟨k + 1, by omega, by go_num, hkeep.trans hk3, HB.out⟩
        case measure => simp [intOf]; omega
      ·have hke : k = m.Tables.length := by omega
       have HE := Lib.hid (HR.out.trans (scan_end hke hscan.out))
       have hp : PredIn Tryd.prog 40 #[] m.Data.length (fun i => .int .i64 (nth m.Data i)) (dataOut m.Data) wr :=
        fun W' i hi hk' => (dataOut_any _ W').mono fun e w' ⟨h1, h2⟩ => ⟨h1, h2 ▸ Keeps.refl _⟩
       have HCF := Lib.hid (containsFunc_int _ _ _ _ _ _ wr (Arr.keep hD hkk) EG2.out hp)
       have HL := Lib.hid (fun W' (hk' : Keeps wr W') => lines_any _ m W' (hv'.keep (hkk.trans hk')))
       clear hscan g3 rv hp hke
       cases h2 : anyN (dataOut m.Data) m.Data.length with
       | true =>
        have HQ := Lib.hid (HE.out.trans (show dataFault m = 2 by unfold dataFault; rw [if_pos h2]))
        rw [h2] at HCF
        clear h2
        go_wp2_with fail
        refine HCF.out.mono ?_
        rintro e w3 ⟨rfl, hk3⟩
        go_wp2
        go_ret
        exact ⟨by rw [HQ.out]; rfl, hkk.trans hk3⟩
       | false =>
        have HQ := Lib.hid (HE.out.trans (show dataFault m = linesFault m by unfold dataFault; rw [if_neg (by rw [h2]; simp)]))
        rw [h2] at HCF
        clear h2
        go_wp2_with fail
        refine HCF.out.mono ?_
        rintro e w3 ⟨rfl, hk3⟩
        have n0 := hk3.cell l0
        have n1 := hk3.cell l1
        have n2 := hk3.cell l2
        have n3 := hk3.cell l3
        have n4 := hk3.cell l4
        have n5 := hk3.cell l5
        go_wp2_with fail
        refine (HL.out _ hk3).mono ?_
        rintro e w4 ⟨rfl, hk4⟩
        go_wp2
        go_ret
        exact ⟨by rw [HQ.out]; rfl, (hkk.trans hk3).trans hk4⟩
  ·have HF := Lib.hid (imgFault_funcs hbig hF)
   have hF1 : (funcsFault m == 0) = false := by simpa using hF
   have hF2 : (funcsFault m != 0) = true := by simpa using hF
   clear g3 rv hF hbig
   go_enter Tryd.func14, Tryd.ntmps14
   go_wp2_with fail
   rw [← HW.out]
   refine HC.out.mono ?_
   rintro e W2 ⟨rfl, hk2⟩
   go_wp2
   go_ret
   exact ⟨by rw [HF.out]; rfl, hkW.trans hk2⟩
end Go.Proofs.YtnekiooaobnndaaDoor
