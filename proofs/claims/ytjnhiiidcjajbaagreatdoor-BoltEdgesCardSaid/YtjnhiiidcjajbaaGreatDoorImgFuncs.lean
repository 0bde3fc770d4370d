/-
  image.funcs: may an image's functions be?
-/
import Derived.Test.YtjnhiiidcjajbaaGreatDoorImgName
import Derived.Deep.QuietTactic
import Derived.BigQuiet
namespace Go.Proofs.YtjnhiiidcjajbaaGreatDoor
open Go.RowKit BH
set_option maxHeartbeats 1000000
set_option maxRecDepth 100000

theorem sameName_any (f : Fu) (s : ByteArray) (b : Nat) (w : World) (hb : w.cell? ⟨b, 0, none⟩ = some (.string s)) :
    Calls Tryz.prog 140 #[.agg #[.string f.Name, .int .i64 f.Start, .int .i64 f.Size], .pointer (some ⟨b, 0, none⟩)] w fun e w' => e = .returned (.bool (f.Name.toList == s.toList)) ∧ Keeps w w' := by
  have hlt : b < w.heap.size := lt_of_cell hb
  go_enter Tryz.func140, Tryz.ntmps140
  go_wp2
  go_ret
  exact ⟨rfl, (Keeps.refl _).alloc _⟩

theorem funcs_any (v : Value) (m : Img) (w : World) (hv : ImgAt w v m) :
    Calls Tryz.prog 86 #[v] w fun e w' => e = .returned (.int .i64 (funcsFault m)) ∧ Keeps w w' := by
  obtain ⟨v0, v1, v2, v3, v4, rfl, ⟨ao0, c0, rfl, t1, t2, -, -⟩, ⟨ao, cap, rfl, h1, h2, -, h3⟩, -, -, -⟩ := hv
  unfold maxLen at h2 t2
  obtain ⟨W1, hW1, hkW, hsW, i0, i1, i2, i3, i4, i5⟩ := box6 w 47 (.slice ao0 m.Text.length c0) (.slice ao m.Funcs.length cap) v2 v3 v4 (.int .i64 m.Entry)
  have HW := Lib.hid hW1
  clear hW1 i2 i3 i4 i5
  by_cases hbig : 40 < m.Funcs.length
  · have HF := Lib.hid (show funcsFault m = 1 by unfold funcsFault; rw [if_pos hbig])
    clear h3 i0 i1
    go_enter Tryz.func86, Tryz.ntmps86
    go_wp2
    go_ret
    exact ⟨by rw [HF.out]; rfl, (Keeps.refl _).alloc _⟩
  · have HF := Lib.hid (show funcsFault m = scan (funBad m) (endFault m 0) (m.Funcs.length - 0) 0 by unfold funcsFault; rw [if_neg hbig]; rfl)
    have eg : ∀ args w, (callFunc 140 args).run Tryz.prog w = .ok (.enter 140 args) w := enters_of Tryz.func140 (by kernel_rfl) rfl
    have EG := Lib.hid eg
    clear eg
    go_enter Tryz.func86, Tryz.ntmps86
    go_wp2
    rw [← HW.out]
    go_loopw [3, 4, 5, 13] (fun s3 _ _ s13 wr => ∃ k : Nat, k ≤ m.Funcs.length ∧ s3 = .int .i64 (sumF m k) ∧ s13 = .int .i64 k ∧ 0 ≤ sumF m k ∧ sumF m k ≤ m.Text.length ∧ Keeps W1 wr ∧ Hid (scan (funBad m) (endFault m 0) (m.Funcs.length - k) k = funcsFault m)) (fun _ _ _ i _ => m.Funcs.length - (intOf i).toNat)
    case atStart => exact ⟨0, Nat.zero_le _, rfl, rfl, by simp [sumF], by simp [sumF], Keeps.refl _, HF.out.symm⟩
    case round =>
      obtain ⟨k, hk, rfl, rfl, hs0, hs1, hkeep, hscan⟩ := hrel
      have j0 := hkeep.cell i0
      have j1 := hkeep.cell i1
      have hkk := hkW.trans hkeep
      have hin : w.heap.size < wr.heap.size := Nat.lt_of_lt_of_le hsW hkeep.size
      by_cases hlt : k < m.Funcs.length
      · obtain ⟨b, off, rfl, hc⟩ := h3 (by omega)
        have hc0 : wr.cell? ⟨b, off + k * 3, none⟩ = some (.string (nth m.Funcs k).Name) := hkk.cell (hc k 0 hlt (by omega))
        have hc1 : wr.cell? ⟨b, off + k * 3 + 1, none⟩ = some (.int .i64 (nth m.Funcs k).Start) := hkk.cell (hc k 1 hlt (by omega))
        have hc2 : wr.cell? ⟨b, off + k * 3 + 2, none⟩ = some (.int .i64 (nth m.Funcs k).Size) := hkk.cell (hc k 2 hlt (by omega))
        have hA : Arr wr (.slice (some ⟨b, off, none⟩) k cap) k 3 (fun i j => (nth m.Funcs i).c j) :=
          ⟨_, _, rfl, by omega, by unfold maxLen; omega, (fun h => by cases h), fun _ => ⟨b, off, rfl, fun i j hi hj => hkk.cell (hc i j (by omega) hj)⟩⟩
        have hp : ∀ W, W.cell? ⟨wr.heap.size, 0, none⟩ = some (.string (nth m.Funcs k).Name) → PredIn Tryz.prog 140 #[.pointer (some ⟨wr.heap.size, 0, none⟩)] k (fun i => .agg #[(nth m.Funcs i).c 0, (nth m.Funcs i).c 1, (nth m.Funcs i).c 2]) (sameName m k) W :=
          fun W hW W' i hi hk' => (sameName_any (nth m.Funcs i) (nth m.Funcs k).Name wr.heap.size W' (hk'.cell hW)).mono fun e w' h => h
        have HP := Lib.hid hp
        clear hc h3 i0 i1 hp
        rcases funBad_cases m k with ⟨hn, hv⟩ | ⟨hn, hrest⟩
        · have HB := Lib.hid ((scan_stop hlt (by rw [hv]; decide) hscan.out).trans hv)
          clear hscan hA hv
          go_wp2_with fail
          refine (name_any _ _).mono ?_
          rintro e w1 ⟨rfl, hk1⟩
          unfold fname at hn
          go_wp2
          go_ret
          exact ⟨by rw [HB.out]; rfl, (hkk.alloc _).trans hk1⟩
        · unfold fname at hn
          have HR := Lib.hid hrest
          clear hrest
          go_wp2_with fail
          refine (name_any _ _).mono ?_
          rintro e w1 ⟨rfl, hk1⟩
          have f0 : w1.cell? ⟨wr.heap.size, 0, none⟩ = some (.string (nth m.Funcs k).Name) := hk1.cell (by simp)
          have f1 : w1.cell? ⟨wr.heap.size, 1, none⟩ = some (.int .i64 (nth m.Funcs k).Start) := hk1.cell (by simp)
          have f2 : w1.cell? ⟨wr.heap.size, 2, none⟩ = some (.int .i64 (nth m.Funcs k).Size) := hk1.cell (by simp)
          have hkw1 : Keeps wr w1 := ((Keeps.refl wr).alloc _).trans hk1
          have q0 := hkw1.cell j0
          have q1 := hkw1.cell j1
          clear hc0 hc1 hc2 j0 j1
          go_wp2_with fail
          refine (containsFunc_fun _ k _ (sameName m k) _ _ _ (hA.keep hkw1) EG.out (HP.out _ f0)).mono ?_
          rintro e w2 ⟨rfl, hk2⟩
          have g0 := hk2.cell f0
          have g1 := hk2.cell f1
          have g2 := hk2.cell f2
          have r0 := hk2.cell q0
          have r1 := hk2.cell q1
          have hkw2 := hkk.trans (hkw1.trans hk2)
          have hkw2' := hkeep.trans (hkw1.trans hk2)
          clear f0 f1 f2 q0 q1 hA
          rcases HR.out with ⟨ha, hv⟩ | ⟨ha, ⟨hs, hv⟩ | ⟨⟨hs2, hs3, hs4⟩, hv⟩⟩
          · have HB := Lib.hid ((scan_stop hlt (by rw [hv]; decide) hscan.out).trans hv)
            clear hscan hv
            go_wp2
            go_ret
            exact ⟨by rw [HB.out]; rfl, hkw2⟩
          · have HB := Lib.hid ((scan_stop hlt (by rw [hv]; decide) hscan.out).trans hv)
            clear hscan hv
            go_wp2
            all_goals first
              | (exfalso; omega)
              | (go_ret
                 exact ⟨by rw [HB.out]; rfl, hkw2⟩)
          · have HB := Lib.hid (scan_step hlt hv hscan.out)
            have d1 : ((nth m.Funcs k).Start == sumF m k) = true := by simpa using hs2
            have d2 : ((nth m.Funcs k).Start != sumF m k) = false := by simpa using hs2
            have HS := Lib.hid (show sumF m (k + 1) = sumF m k + (nth m.Funcs k).Size from rfl)
            clear hscan hv hs2
            go_wp2
            all_goals first
              | (exfalso; omega)
              | (go_roundw
                 case rel => exact ⟨k + 1, by omega, by rw [HS.out], by go_num, by rw [HS.out]; omega, by rw [HS.out]; omega, hkw2', HB.out⟩
                 case measure => simp [intOf]; omega)
      · obtain rfl : k = m.Funcs.length := by omega
        have HE := Lib.hid (scan_end rfl hscan.out)
        clear h3 hscan
        by_cases he : sumF m m.Funcs.length = (m.Text.length : Int)
        · have HV := Lib.hid (HE.out.trans (show endFault m 0 = 0 by unfold endFault; rw [if_neg (by simpa using he)]))
          have d1 : (sumF m m.Funcs.length != (m.Text.length : Int)) = false := by simpa using he
          clear he
          go_wp2
          go_ret
          exact ⟨by rw [HV.out]; rfl, hkk⟩
        · have HV := Lib.hid (HE.out.trans (show endFault m 0 = 8 by unfold endFault; rw [if_pos he]))
          have d1 : (sumF m m.Funcs.length != (m.Text.length : Int)) = true := by simpa using he
          clear he
          go_wp2
          go_ret
          exact ⟨by rw [HV.out]; rfl, hkk⟩
end Go.Proofs.YtjnhiiidcjajbaaGreatDoor
