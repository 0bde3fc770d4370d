/-
  The document's numsCopy: the numbers of a slice in memory of the call's own.
-/
import Derived.Test.YtofaghcnkppmbaaFoot
import Derived.Test.YtofaghcnkppmbaaTypes
import Derived.Lib.Hide
namespace Go.Proofs.Ytofaghcnkppmbaa
open Go.RowKit BH
set_option maxHeartbeats 1000000
set_option maxRecDepth 100000

theorem numsCopy_any (v : Value) (l : List Int) (w : World) (hv : Ints w v l) (hl : l.length * 8 ≤ 140737488355328) :
    Calls Try.prog 20 #[v] w (Gives (fun v' w' => Own w' w.heap.size 3 1 ci v' l) w) := by
  obtain ⟨ao, cap, rfl, h1, h2, -, h3⟩ := hv
  unfold maxLen at h2
  go_enter Try.func20, Try.ntmps20
  go_wp2_with fail
  go_loopw [3, 4] (fun s3 s4 wr => ∃ k : Nat, k ≤ l.length ∧ s4 = .int .i64 k ∧ Keeps w wr ∧ Own wr w.heap.size 3 1 ci s3 (l.take k)) (fun _ s4 _ => l.length - (intOf s4).toNat)
  case atStart => exact ⟨0, Nat.zero_le _, rfl, Keeps.refl _, Own.nil _ _ _ _ _⟩
  case round =>
    obtain ⟨k, hk, rfl, hkr, ho⟩ := hrel
    have HO := Lib.hid ho
    obtain ⟨a3, c3, e3⟩ := own_form' ho
    have hlen : (l.take k).length = k := by simp; omega
    have hsz := hkr.size
    clear ho
    by_cases hlt : k < l.length
    · obtain ⟨b, off, rfl, hc⟩ := h3 (by omega)
      have c0 : wr.cell? ⟨b, off + k, none⟩ = some (.int .i64 (nth l k)) := hkr.cell (by simpa using hc k 0 hlt (by omega))
      have HS := Lib.hid (take_succ_nth l k hlt)
      generalize nth l k = x at *
      clear hc h3 e3
      go_wp2_with (at_builtin; refine wpList_pushes (by rfl) (.tmp 11) (.tmp 16) 24 (by rfl) Try.underlying24 info_int (by rfl) (by decide) (base := w.heap.size) (l := l.take k) (by rfl) (by exact HO.out.keep (by repeat (with_reducible (first | assumption | exact Keeps.refl _ | refine Keeps.alloc ?_ _ | refine Keeps.drew ?_ | refine Keeps.drewN ?_ _)))) [x] _ _ (by rfl) (by exact Blk.top' _ _ (by first | rfl | simp)) ci_len ci_one (by rw [hlen]; simp; omega) (by rw [hlen]; simp [maxLen]; omega) (by simp only [sz_alloc]; omega) ?_; intro v' w' hown hbel hgr hfr)
      rw [← HS.out] at hown
      have HW := Lib.hid hown
      have hkn : Keeps w w' := Keeps.trans' (hkr.alloc _) hbel (Nat.le_refl _)
      clear hown hbel hgr hfr
      go_wp2_with fail
      go_roundw
      case rel => exact ⟨k + 1, by omega, by go_num, hkn, HW.out⟩
      case measure => simp [intOf]; omega
    · obtain rfl : k = l.length := by omega
      rw [List.take_length] at HO
      clear e3 h3 hlen
      go_wp2
      go_ret
      exact ⟨_, rfl, HO.out, hkr⟩
end Go.Proofs.Ytofaghcnkppmbaa
