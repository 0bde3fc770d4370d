/-
  image.LineAt and the document's LineOf answer the same: the N of the last line whose At is not above the address.
-/
import Derived.Test.YthelecdeaikmdaaProg
import Derived.Test.YthelecdeaikmdaaCore
import Derived.Lib.Hide
namespace Go.Proofs.Ythelecdeaikmdaa
open Go.RowKit BH

def lineAt (l : List Ln) (x : Int) : Nat → Int
  | 0 => 0
  | k + 1 => if (nth l k).At ≤ x then (nth l k).N else lineAt l x k

set_option maxHeartbeats 1000000
set_option maxRecDepth 100000
theorem lineAt_any (v : Value) (m : Img) (x : Int) (w : World) (hv : ImgAt w v m) :
    Calls Try.prog 13 #[v, .int .i64 x] w fun e w' => e = .returned (.int .i64 (lineAt m.Lines x m.Lines.length)) ∧ Keeps w w' := by
  obtain ⟨v0, v1, v2, v3, v4, rfl, -, -, -, -, ao, cap, rfl, h1, h2, h3⟩ := hv
  unfold maxLen at h2
  go_enter Try.func13, Try.ntmps13
  go_wp2
  go_loopw [5, 7, 11] (fun n _ i wr => ∃ k : Nat, k ≤ m.Lines.length ∧ i = .int .i64 k ∧ n = .int .i64 (lineAt m.Lines x k) ∧ Keeps w wr) (fun _ _ i _ => m.Lines.length - (intOf i).toNat)
  case atStart => exact ⟨0, Nat.zero_le _, rfl, rfl, (Keeps.refl _).alloc _⟩
  case round =>
    obtain ⟨k, hk, rfl, rfl, hkeep⟩ := hrel
    by_cases hlt : k < m.Lines.length
    · obtain ⟨b, off, rfl, hc⟩ := h3 (by omega)
      have hc0 : wr.cell? ⟨b, off + k * 2, none⟩ = some (.int .i64 (nth m.Lines k).At) := hkeep.cell (hc k 0 hlt (by omega))
      have hc1 : wr.cell? ⟨b, off + k * 2 + 1, none⟩ = some (.int .i64 (nth m.Lines k).N) := hkeep.cell (hc k 1 hlt (by omega))
      clear hc h3
      go_wp2
      all_goals
        go_roundw
        case rel => exact ⟨k + 1, by omega, by go_num, by simp only [lineAt]; first | rw [if_pos (by assumption)] | rw [if_neg (by omega)], hkeep.alloc _⟩
        case measure => simp [intOf]; omega
    · clear h3
      go_wp2
      go_ret
      obtain rfl : k = m.Lines.length := by omega
      exact ⟨rfl, hkeep⟩

theorem lineOf_any (v : Value) (m : Img) (x : Int) (w : World) (hv : ImgAt w v m) :
    Calls Try.prog 14 #[v, .int .i64 x] w fun e w' => e = .returned (.int .i64 (lineAt m.Lines x m.Lines.length)) ∧ Keeps w w' := by
  obtain ⟨v0, v1, v2, v3, v4, rfl, -, -, -, -, ao, cap, rfl, h1, h2, h3⟩ := hv
  unfold maxLen at h2
  go_enter Try.func14, Try.ntmps14
  go_wp2
  go_loopw [5, 6] (fun n i wr => ∃ k : Nat, k ≤ m.Lines.length ∧ i = .int .i64 k ∧ n = .int .i64 (lineAt m.Lines x k) ∧ Keeps w wr ∧ wr.cell? ⟨w.heap.size, 4, none⟩ = some (.slice ao m.Lines.length cap)) (fun _ i _ => m.Lines.length - (intOf i).toNat)
  case atStart => exact ⟨0, Nat.zero_le _, rfl, rfl, (Keeps.refl _).alloc _, by simp⟩
  case round =>
    obtain ⟨k, hk, rfl, rfl, hkeep, hm⟩ := hrel
    by_cases hlt : k < m.Lines.length
    · obtain ⟨b, off, rfl, hc⟩ := h3 (by omega)
      have hc0 : wr.cell? ⟨b, off + k * 2, none⟩ = some (.int .i64 (nth m.Lines k).At) := hkeep.cell (hc k 0 hlt (by omega))
      have hc1 : wr.cell? ⟨b, off + k * 2 + 1, none⟩ = some (.int .i64 (nth m.Lines k).N) := hkeep.cell (hc k 1 hlt (by omega))
      clear hc h3
      go_wp2
      all_goals
        go_roundw
        case rel => exact ⟨k + 1, by omega, by go_num, by simp only [lineAt]; first | rw [if_pos (by assumption)] | rw [if_neg (by omega)], hkeep, hm⟩
        case measure => simp [intOf]; omega
    · clear h3
      go_wp2
      go_ret
      obtain rfl : k = m.Lines.length := by omega
      exact ⟨rfl, hkeep⟩
end Go.Proofs.Ythelecdeaikmdaa
