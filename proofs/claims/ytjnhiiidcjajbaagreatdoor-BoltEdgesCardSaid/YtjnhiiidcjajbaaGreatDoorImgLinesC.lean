/-
  image.lines: may an image's lines be?
-/
import Derived.Test.YtjnhiiidcjajbaaGreatDoorImgSpec
import Derived.Deep.QuietTactic
import Derived.BigQuiet
namespace Go.Proofs.YtjnhiiidcjajbaaGreatDoor
open Go.RowKit BH
set_option maxHeartbeats 1000000
set_option maxRecDepth 100000

theorem lines_any (v : Value) (m : Img) (w : World) (hv : ImgAt w v m) :
    Calls Tryz.prog 90 #[v] w fun e w' => e = .returned (.int .i64 (linesFault m)) ∧ Keeps w w' := by
  obtain ⟨v0, v1, v2, v3, v4, rfl, ⟨ao0, c0, rfl, t1, t2, -, -⟩, -, -, -, ao, cap, rfl, h1, h2, -, h3⟩ := hv
  unfold maxLen at h2 t2
  obtain ⟨W1, hW1, hkW, hsW, i0, i1, i2, i3, i4, i5⟩ := box6 w 47 (.slice ao0 m.Text.length c0) v1 v2 v3 (.slice ao m.Lines.length cap) (.int .i64 m.Entry)
  have HW := Lib.hid hW1
  clear hW1 i1 i2 i3 i5
  by_cases hbig : 4000 < m.Lines.length
  · have HF := Lib.hid (show linesFault m = 1 by unfold linesFault; rw [if_pos hbig])
    clear h3 i0 i4
    go_enter Tryz.func90, Tryz.ntmps90
    go_wp2
    go_ret
    exact ⟨by rw [HF.out]; rfl, (Keeps.refl _).alloc _⟩
  · have HF := Lib.hid (show linesFault m = scan (lineBad m) 0 (m.Lines.length - 0) 0 by unfold linesFault; rw [if_neg hbig]; rfl)
    go_enter Tryz.func90, Tryz.ntmps90
    go_wp2
    rw [← HW.out]
    go_loopw [3, 5, 13] (fun s3 _ s13 wr => ∃ k : Nat, k ≤ m.Lines.length ∧ s3 = .int .i64 (lastAt m.Lines k) ∧ s13 = .int .i64 k ∧ Keeps W1 wr ∧ Hid (scan (lineBad m) 0 (m.Lines.length - k) k = linesFault m)) (fun _ _ i _ => m.Lines.length - (intOf i).toNat)
    case atStart => exact ⟨0, Nat.zero_le _, rfl, rfl, Keeps.refl _, HF.out.symm⟩
    case round =>
      obtain ⟨k, hk, rfl, rfl, hkeep, hscan⟩ := hrel
      have j0 := hkeep.cell i0
      have j4 := hkeep.cell i4
      have hkk := hkW.trans hkeep
      by_cases hlt : k < m.Lines.length
      · obtain ⟨b, off, rfl, hc⟩ := h3 (by omega)
        have hc0 : wr.cell? ⟨b, off + k * 2, none⟩ = some (.int .i64 (nth m.Lines k).At) := hkk.cell (hc k 0 hlt (by omega))
        have hc1 : wr.cell? ⟨b, off + k * 2 + 1, none⟩ = some (.int .i64 (nth m.Lines k).N) := hkk.cell (hc k 1 hlt (by omega))
        have hin : w.heap.size < wr.heap.size := Nat.lt_of_lt_of_le hsW hkeep.size
        clear hc h3 i0 i4
        by_cases hb : lineBad m k = 0
        · obtain ⟨g1, g2, g3, g4⟩ := lineBad_zero hb
          have HB := Lib.hid (scan_step hlt hb hscan.out)
          have g5 : decide ((nth m.Lines k).N < 0) = false := by simpa using g1
          have g6 : decide ((nth m.Lines k).At ≤ lastAt m.Lines k) = false := by simpa using g3
          clear hb hscan
          go_wp2
          go_roundw
          case rel => exact ⟨k + 1, by omega, rfl, by go_num, hkeep.alloc _, HB.out⟩
          case measure => simp [intOf]; omega
        · have HB := Lib.hid (scan_stop hlt hb hscan.out)
          rcases lineBad_cases hb with ⟨hN, hv⟩ | ⟨hN, hA, hv⟩
          all_goals
            have HV := Lib.hid (HB.out.trans hv)
            clear hb hscan hv
            go_wp2
            all_goals first
              | (exfalso; omega)
              | (go_ret
                 exact ⟨by rw [HV.out]; rfl, hkk.alloc _⟩)
      · clear h3
        go_wp2
        go_ret
        refine ⟨?_, hkk⟩
        rw [scan_end (by omega) hscan.out]
        rfl
end Go.Proofs.YtjnhiiidcjajbaaGreatDoor
