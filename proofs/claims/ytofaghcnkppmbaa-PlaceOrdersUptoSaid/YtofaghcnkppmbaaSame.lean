/-
  The laws' comparisons (sameInts, sameLists, sameImage): where both sides read as the same, they say so.
-/
import Derived.Test.YtofaghcnkppmbaaOwn
import Derived.Test.YtofaghcnkppmbaaTypes
import Derived.Deep.QuietTactic
import Derived.BigQuiet
import Derived.Deep.RegionHeld3
import Derived.Lib.Hide
import Derived.Laws.IdiomStrings
import Derived.Lib.BufferRead
namespace Go.Proofs.Ytofaghcnkppmbaa
open Go.RowKit BH
set_option maxHeartbeats 1000000
set_option maxRecDepth 100000

/-- 'string(b)' -/
theorem run_string_of {P : Program} {w : World} {v : Value} {l : List UInt8} (h : Bytes w v l) {src dst e : TypeId} (hs : P.underlying src = some (.slice e)) (he : P.underlying e = some (.int .u8)) (hd : P.underlying dst = some .string) :
    (convert src dst v).run P w = .ok (.string ⟨l.toArray⟩) w := by
  obtain ⟨ao, cap, rfl, -, -, -, hc⟩ := h
  cases ao with
  | none =>
    have hl : l = [] := by
      cases l with
      | nil => rfl
      | cons x r => obtain ⟨b, off, hab, _⟩ := hc (by simp); cases hab
    subst hl
    exact Lib.run_convert_nil_bytes w src dst e cap hs he hd
  | some a =>
    refine run_convert_bytes_back w src dst e a cap l hs he hd fun j hj => ?_
    obtain ⟨b, off, hab, hcell⟩ := hc (by omega)
    cases hab
    have : w.cell? ⟨b, off + j * 1 + 0, none⟩ = some (.int .u8 ((nth l j).toNat : Int)) := hcell j 0 hj (by omega)
    rw [nth_eq l j hj] at this
    rw [← this]
    unfold Addr.add
    split
    · rename_i h0; subst h0; simp
    · simp

theorem sameInts_yes (va vb : Value) (l : List Int) (w : World) (ha : Ints w va l) (hb : Ints w vb l) :
    Calls Try.prog 22 #[va, vb] w fun e w' => e = .returned (.bool true) ∧ Keeps w w' := by
  obtain ⟨ao, ca, rfl, a1, a2, -, a3⟩ := ha
  obtain ⟨bo, cb, rfl, b1, b2, -, b3⟩ := hb
  unfold maxLen at a2 b2
  go_enter Try.func22, Try.ntmps22
  go_wp2
  go_loopw [5] (fun i wr => ∃ k : Nat, k ≤ l.length ∧ i = .int .i64 k ∧ Keeps w wr) (fun i _ => l.length - (intOf i).toNat)
  case atStart => exact ⟨0, Nat.zero_le _, rfl, Keeps.refl _⟩
  case round =>
    obtain ⟨k, hk, rfl, hkeep⟩ := hrel
    by_cases hlt : k < l.length
    · obtain ⟨ab, af, rfl, ac⟩ := a3 (by omega)
      obtain ⟨bb, bf, rfl, bc⟩ := b3 (by omega)
      have c1 := hkeep.cell (ac k 0 hlt (by omega))
      have c2 := hkeep.cell (bc k 0 hlt (by omega))
      simp only [Nat.mul_one, Nat.add_zero] at c1 c2
      clear a3 b3 ac bc
      go_wp2
      go_quiet (fail)
      go_wp2
      go_roundw
      case rel => exact ⟨k + 1, by omega, by go_num, hkeep.drewN _⟩
      case measure => simp [intOf]; omega
    · clear a3 b3
      go_wp2
      go_ret
      exact ⟨rfl, hkeep⟩

end Go.Proofs.Ytofaghcnkppmbaa
